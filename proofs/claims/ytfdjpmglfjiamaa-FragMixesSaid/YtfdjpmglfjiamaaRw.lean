/- SortFunc on a row that is owned: what lies there afterwards. -/
import Derived.Test.YtfdjpmglfjiamaaSo
import Derived.Test.YtfdjpmglfjiamaaBx
namespace Go.Proofs.Ytfdjpmglfjiamaa
open Go Go.Sort Go.RowKit Go.Shelf
set_option linter.unusedSimpArgs false
set_option linter.unusedVariables false

theorem flatK_list (l : List Pk) : flatK pkl 46 l.toArray = (l.flatMap pkl).toArray := by
  have hlen := flat_len pkl 46 pkl_len l
  refine ext_get! (by simp [hlen]) fun t ht => ?_
  have ht' : t < l.length * 46 := by simpa using ht
  rw [get_flatK _ _ _ _ (by simpa using ht')]
  have hlt : t / 46 < l.length := by omega
  have hg := flat_get pkl 46 pkl_len (t % 46) (by omega) l (t / 46)
  rw [show t / 46 * 46 + t % 46 = t by omega, List.getElem?_eq_getElem hlt] at hg
  simp only [Option.bind_some] at hg
  have e1 : l.toArray[t / 46]! = l[t / 46] := by rw [getElem!_pos l.toArray _ (by simpa using hlt)]; simp
  rw [e1]
  have e2 : t % 46 < (pkl l[t / 46]).length := by rw [pkl_len]; omega
  have e3 : t < (l.flatMap pkl).length := by omega
  rw [getElem!_pos (pkl l[t / 46]) _ e2, getElem!_pos (l.flatMap pkl).toArray t (by simpa using e3)]
  rw [List.getElem?_eq_getElem e3, List.getElem?_eq_getElem e2] at hg
  have := Option.some.inj hg
  simpa using this.symm

theorem sort_row {B : Nat} {w : World} {v : Value} {l : List Pk} (h : w.ownsRow B 27 46 v l.length (l.flatMap pkl)) (hne : l ≠ []) (hsz : l.length < 4611686018427387904) :
    ∃ g cap, v = .slice (some ⟨g, 0, none⟩) l.length cap ∧ B ≤ g ∧ g < w.heap.size ∧
      Calls Try.prog 41 #[v, .func (.func 42) #[] #[]] w fun e w' => e = .returned (.tuple #[]) ∧
        ∃ l' : List Pk, l'.Perm l ∧ l'.Pairwise (fun p q => p.off ≤ q.off) ∧ w'.ownsRow B 27 46 v l'.length (l'.flatMap pkl) ∧ w.grownBy w' (some g) := by
  have h' := h
  rcases h.2 with ⟨rfl, h0⟩ | ⟨g, cap, cur, rfl, hB, hg, hn, hm, hs, ht⟩
  · exact absurd (List.eq_nil_of_length_eq_zero h0) hne
  have hgs : g < w.heap.size := (Array.getElem?_eq_some_iff.1 hg).1
  refine ⟨g, cap, rfl, hB, hgs, ?_⟩
  have hH : HoldsK pkl 46 w g 0 l.toArray := by
    unfold HoldsK Holds
    rw [flatK_list]
    intro j hj
    have hj' : j < (l.flatMap pkl).length := by simpa using hj
    have hl : (l.flatMap pkl).length = l.length * 46 := flat_len pkl 46 pkl_len l
    refine ⟨?_, by rw [Nat.zero_add]; exact h'.frozenAt j⟩
    rw [Nat.zero_add, h'.cellAt j (by omega), getElem!_pos _ j hj, List.getElem?_eq_getElem hj']
    simp
  refine (sort_any g cap l.toArray w hH hgs (by simpa using hsz)).mono ?_
  rintro e w' ⟨rfl, d', n, os, hp, hso, rfl⟩
  have hd : d'.size = l.length := by have := hp.1; simpa using this
  have hperm : d'.toList.Perm l := by
    have := hp.2.2
    rw [Array.toList_extract, Array.toList_extract] at this
    simp only [List.extract, List.drop_zero, Nat.sub_zero, List.size_toArray] at this
    rwa [List.take_of_length_le (by simp [hd]), List.take_of_length_le (by simp)] at this
  have hlenP := hperm.length_eq
  have hfl : flatK pkl 46 d' = (d'.toList.flatMap pkl).toArray := by
    have := flatK_list d'.toList
    rwa [Array.toArray_toList] at this
  have hl46 := flat_len pkl 46 pkl_len d'.toList
  have heap1 : (sortWorldK pkl 46 w g 0 n d' os).heap[g]? = some (.cells (putCells id 0 (flatK pkl 46 d') cur) 27) := by
    unfold sortWorldK putRowK putRow
    rw [heap_grow_old _ _ (by simpa [mapBlock] using hgs)]
    simp [mapBlock, Array.getElem?_modify, hg, onCells]
  refine ⟨rfl, d'.toList, hperm, ?_, ?_, ?_⟩
  · rw [List.pairwise_iff_getElem]
    intro i j hi hj hij
    have := hso i j (Nat.zero_le _) hij (by simp at hj ⊢; omega)
    rw [getElem!_pos d' i (by simpa using hi), getElem!_pos d' j (by simpa using hj)] at this
    simp only [ltOf, cmpOff, cmpI, decide_eq_false_iff_not] at this
    simp only [Array.getElem_toList]
    by_cases h1 : (d'[j]'(by simpa using hj)).off < (d'[i]'(by simpa using hi)).off
    · simp [h1] at this
    · omega
  · refine ⟨by rw [hl46], .inr ⟨g, cap, _, by rw [hlenP], hB, heap1, by omega, hm, by simp [putCells, hs], ?_⟩⟩
    have hcs : d'.toList.length * 46 ≤ cur.size := by rw [hs, hlenP]; exact Nat.mul_le_mul_right 46 hn
    apply List.ext_getElem?
    intro k
    rcases Nat.lt_or_ge k (d'.toList.length * 46) with hk | hk
    · rw [List.getElem?_take_of_lt hk]
      simp only [putCells, Array.getElem?_toList, Array.getElem?_mapIdx]
      rw [Array.getElem?_eq_getElem (by omega), hfl]
      simp only [Option.map_some, Nat.zero_le, true_and, Nat.zero_add, List.size_toArray, hl46, hk, if_true, Nat.sub_zero, id]
      rw [getElem!_pos (d'.toList.flatMap pkl).toArray k (by simp only [List.size_toArray, hl46]; exact hk), List.getElem?_eq_getElem (by omega)]
      simp
    · rw [List.getElem?_eq_none (by simp [putCells]; omega), List.getElem?_eq_none (by omega)]
  · refine ⟨rfl, rfl, rfl, ?_, fun k hk hne => ?_⟩
    · simp [sortWorldK, putRowK, grow, putRow, mapBlock]
    · have : k ≠ g := fun e => hne (by rw [e])
      unfold sortWorldK putRowK putRow
      rw [heap_grow_old _ _ (by simpa [mapBlock] using hk)]
      simp [mapBlock, Array.getElem?_modify, Ne.symm this]
end Go.Proofs.Ytfdjpmglfjiamaa
