/- Walk: frag.(*Box).Held. -/
import Derived.Test.YtfdjpmglfjiamaaNx
import Derived.Test.YtfdjpmglfjiamaaWn
namespace Go.Proofs.Ytfdjpmglfjiamaa
open Go Go.Sort Go.RowKit
open Go.ChangeMaps (setBlock)
set_option linter.unusedSimpArgs false
set_option linter.unusedVariables false

def heldL (l : List Pk) : Nat := (l.map (·.pay.size)).sum
/-- How many bytes heaps have. -/
def heldH (hs : List Hp) : Nat := (hs.map fun h => heldL h.pieces).sum

/-- The packets of an owned row. -/
theorem PkRow.of_owns {B : Nat} {w : World} {g n cap : Nat} {l : List Pk} (h : w.ownsRow B 27 46 (.slice (some ⟨g, 0, none⟩) n cap) l.length (l.flatMap pkl)) : PkRow w g l := by
  rcases h.2 with ⟨h0, _⟩ | ⟨g', cap', cur, hv, hB, hg, hn, hm, hs, ht⟩
  · cases h0
  · simp only [Value.slice.injEq, Option.some.injEq, Addr.mk.injEq, and_true] at hv
    obtain ⟨rfl, rfl, rfl⟩ := hv
    have hlen := flat_len pkl 46 pkl_len l
    refine ⟨(Array.getElem?_eq_some_iff.1 hg).1, fun k x hx => ?_⟩
    have hk : k < l.length := (List.getElem?_eq_some_iff.1 hx).1
    have hk2 : k * 46 + 46 ≤ l.length * 46 := by omega
    have hk3 : l.length * 46 ≤ cur.size := by rw [hs]; exact Nat.mul_le_mul_right 46 hn
    rw [rowOf_heap hg]
    refine ⟨?_, by simp only [fitsAt]; omega⟩
    apply Array.ext_getElem?
    intro i
    rcases Nat.lt_or_ge i 46 with hi | hi
    · rw [Array.getElem?_extract_of_lt (by omega)]
      have e1 : cur[k * 46 + i]? = (l.flatMap pkl)[k * 46 + i]? := by
        rw [← ht, List.getElem?_take_of_lt (by omega)]; simp
      rw [← Array.getElem?_eq_getElem, e1, flat_get pkl 46 pkl_len i hi l k, hx]
      simp [pkc]
    · rw [Array.getElem?_eq_none (by simp; omega), Array.getElem?_eq_none (by rw [pkc_size]; exact hi)]
theorem PkSlice.of_owns {B : Nat} {w : World} {v : Value} {l : List Pk} (h : w.ownsRow B 27 46 v l.length (l.flatMap pkl)) : PkSlice w v l := by
  have h' := h
  rcases h.2 with ⟨h0, h1⟩ | ⟨g, cap, cur, rfl, hB, hg, hn, hm, hs, ht⟩
  · exact .inl ⟨h0, List.eq_nil_of_length_eq_zero h1⟩
  · refine .inr ⟨g, cap, rfl, hn, ?_, PkRow.of_owns h'⟩
    unfold maxLen at hm; omega

/-- The bytes of those that were seen. -/
def seenH (hs : List Hp) (seen : Array Nat) : Nat := heldH (hs.filter fun h => seen.contains h.born)
theorem seenH_nil (hs : List Hp) : seenH hs #[] = 0 := by
  unfold seenH
  have : hs.filter (fun h => (#[] : Array Nat).contains h.born) = [] := by simp
  rw [this]; rfl
theorem seenH_all (hs : List Hp) (seen : Array Nat) (h : ∀ x ∈ hs, seen.contains x.born = true) : seenH hs seen = heldH hs := by
  unfold seenH
  rw [List.filter_eq_self.2 h]
theorem seenH_push : ∀ (hs : List Hp) (seen : Array Nat) (h : Hp), h ∈ hs → (hs.map (·.born)).Nodup → seen.contains h.born = false → seenH hs (seen.push h.born) = seenH hs seen + heldL h.pieces
  | [], _, _, hm, _, _ => by simp at hm
  | a :: hs, seen, h, hm, hn, hc => by
    rw [List.map_cons, List.nodup_cons] at hn
    have hstep : ∀ sn : Array Nat, seenH (a :: hs) sn = (if sn.contains a.born = true then heldL a.pieces else 0) + seenH hs sn := fun sn => by
      unfold seenH heldH
      rw [List.filter_cons]
      split
      · rw [List.map_cons, List.sum_cons]
      · simp
    rw [hstep, hstep]
    by_cases e : a.born = h.born
    · -- it is the very one
      have hah : a = h := by
        rcases List.mem_cons.1 hm with e1 | h1
        · exact e1.symm
        · exact absurd (by rw [e]; exact List.mem_map_of_mem h1) hn.1
      subst hah
      have hrest : seenH hs (seen.push a.born) = seenH hs seen := by
        unfold seenH
        congr 1
        refine List.filter_congr fun x hx => ?_
        rw [Array.contains_push]
        have : (a.born == x.born) = false := by
          rw [beq_eq_false_iff_ne]
          intro e2
          exact hn.1 (by rw [e2]; exact List.mem_map_of_mem hx)
        have h2 : (x.born == a.born) = false := by rw [beq_eq_false_iff_ne] at this ⊢; exact fun e3 => this e3.symm
        simp [h2]
      rw [hrest, Array.contains_push, hc]
      simp
      omega
    · have hm' : h ∈ hs := by
        rcases List.mem_cons.1 hm with e1 | h1
        · exact absurd (by rw [e1]) e
        · exact h1
      rw [seenH_push hs seen h hm' hn.2 hc, Array.contains_push]
      have : (a.born == h.born) = false := by rw [beq_eq_false_iff_ne]; exact e
      simp [this]
      omega
theorem seenH_le (hs : List Hp) (seen : Array Nat) : seenH hs seen ≤ heldH hs := by
  unfold seenH heldH
  induction hs with
  | nil => simp
  | cons a hs ih =>
    rw [List.filter_cons]
    split
    · simp only [List.map_cons, List.sum_cons]; omega
    · simp only [List.map_cons, List.sum_cons]; omega
theorem heldL_take (l : List Pk) (k : Nat) (x : Pk) (h : l[k]? = some x) : heldL (l.take (k + 1)) = heldL (l.take k) + x.pay.size := by
  unfold heldL
  obtain ⟨hk, rfl⟩ := List.getElem?_eq_some_iff.1 h
  rw [List.take_succ_eq_append_getElem hk, List.map_append, List.sum_append]
  simp
theorem heldL_take_le (l : List Pk) (k : Nat) : heldL (l.take k) ≤ heldL l := by
  conv => rhs; rw [← List.take_append_drop k l]
  unfold heldL
  rw [List.map_append, List.sum_append]
  omega

/-- Between two rounds of Held. -/
structure Ht (w : World) (mb clock : Nat) (seen : Array Nat) (c0 : Nat) (W : World) : Prop where
  it : W.heap[w.heap.size]? = some (.mapIter (some mb) clock seen c0)
  c0 : clock ≤ c0
  below : Below w.heap.size w W
  size : w.heap.size < W.heap.size
theorem Ht.step {w : World} {mb clock : Nat} {seen : Array Nat} {c0 : Nat} {wr W2 W4 : World} {b : Nat} (hO : Ht w mb clock seen c0 wr)
    (S1 : ∀ k, k ≠ w.heap.size → W2.heap[k]? = wr.heap[k]?) (S2 : W2.heap[w.heap.size]? = some (.mapIter (some mb) clock (seen.push b) clock)) (S3 : W2.heap.size = wr.heap.size)
    (S4 : W2.os = wr.os ∧ W2.tape = wr.tape ∧ W2.output = wr.output) (g : Gr W2 W4) :
    Ht w mb clock (seen.push b) clock W4 := by
  have hb := g.below.block
  have hs2 := hO.size
  have hs4 := g.below.size
  refine ⟨?_, Nat.le_refl _, ⟨?_, ?_, ?_, ?_, ?_⟩, by omega⟩
  · rw [hb _ (by omega)]; exact S2
  · rw [g.below.os, S4.1]; exact hO.below.os
  · rw [g.below.tape, S4.2.1]; exact hO.below.tape
  · rw [g.below.output, S4.2.2]; exact hO.below.output
  · omega
  · intro k hk
    rw [hb k (by omega), S1 k (by omega)]
    exact hO.below.block k hk

set_option maxRecDepth 100000 in
theorem held_nil (w : World) (bb : Nat) (now count : Int) (hb : w.heap[bb]? = some (.cells #[.int .i64 now, .int .i64 count, .map none] 63)) :
    Calls Try.prog 15 #[.pointer (some ⟨bb, 0, none⟩)] w fun e w' => e = .returned (.int .i64 0) ∧ Gr w w' := by
  have c2 : w.cell? ⟨bb, 2, none⟩ = some (.map none) := cell_of_row w bb 2 _ 63 (0, 0) hb
  have hrg := run_range_nilMap (P := Try.prog) w 61 70 71 Try.underlying61
  clear hb
  go_enter Try.func15, Try.ntmps15
  go_wp2
  have hn : ∀ ty, (Instr.next (.pointer (some ⟨w.heap.size, 0, none⟩)) false ty).run Try.prog (w.alloc (.mapIter none 0 #[] 0)) = .ok (.tuple #[.bool false]) (w.alloc (.mapIter none 0 #[] 0)) := fun ty =>
    run_next_nilMap (P := Try.prog) w ty 0 0 #[]
  have hG : Hid (Gr w (w.alloc (.mapIter none 0 #[] 0))) := (Gr.refl _).alloc _
  generalize w.alloc (.mapIter none 0 #[] 0) = W at hn hG ⊢
  clear hrg c2
  go_loopw [3] (fun n wr => n = .int .i64 0 ∧ wr = W) (fun _ _ => 0)
  case atStart => exact ⟨rfl, rfl⟩
  case round =>
    obtain ⟨rfl, rfl⟩ := hrel
    go_wp2
    go_ret
    exact ⟨rfl, hG.out⟩

set_option maxRecDepth 100000 in
set_option maxHeartbeats 2000000 in
theorem held_map (w : World) (bb mb clock : Nat) (now count : Int) (hs : List Hp) (B : Nat) (hb : w.heap[bb]? = some (.cells #[.int .i64 now, .int .i64 count, .map (some mb)] 63))
    (hm : w.heap[mb]? = some (.map (ents (hs.map Hp.ent)) clock)) (hbn : ∀ h ∈ hs, h.born < clock) (hnd : (hs.map (·.born)).Nodup)
    (hat : ∀ h ∈ hs, w.heap[h.blk]? = some (.cells #[.int .i64 h.began, .int .i64 h.order, h.pv] 74) ∧ w.ownsRow B 27 46 h.pv h.pieces.length (h.pieces.flatMap pkl))
    (hsum : heldH hs ≤ 4611686018427387904) :
    Calls Try.prog 15 #[.pointer (some ⟨bb, 0, none⟩)] w fun e w' => e = .returned (.int .i64 (heldH hs)) ∧ Gr w w' := by
  have c2 : w.cell? ⟨bb, 2, none⟩ = some (.map (some mb)) := cell_of_row w bb 2 _ 63 (0, 0) hb
  have hbs : bb < w.heap.size := (Array.getElem?_eq_some_iff.1 hb).1
  have hms : mb < w.heap.size := (Array.getElem?_eq_some_iff.1 hm).1
  have hrg := run_range_map (P := Try.prog) w 61 70 71 mb _ clock Try.underlying61 hm
  go_enter Try.func15, Try.ntmps15
  go_wp2
  have hO : Ht w mb clock #[] clock (w.alloc (Obj.mapIter (some mb) clock #[] clock)) :=
    ⟨heap_alloc_new _ _, Nat.le_refl _, ((Gr.refl w).alloc _).below, by simp⟩
  generalize w.alloc (Obj.mapIter (some mb) clock #[] clock) = W0 at hO ⊢
  have HO := Lib.hid hO
  have HM := Lib.hid hm
  have HAT := Lib.hid hat
  clear hO hrg c2 hat
  go_loopw [3] (fun n wr => ∃ seen c0, n = .int .i64 (seenH hs seen) ∧ Ht w mb clock seen c0 wr) (fun _ wr => (hs.filter fun h => !((wr.iterSeen w.heap.size).contains h.born)).length)
  case atStart => exact ⟨#[], clock, by rw [seenH_nil]; rfl, HO.out⟩
  case round =>
    obtain ⟨seen, c0, rfl, hO⟩ := hrel
    have hold : ∀ x ∈ (ents (hs.map Hp.ent)).toList, x.born < clock := by
      intro x hx
      rw [ents_toList, List.map_map] at hx
      obtain ⟨h, hh, rfl⟩ := List.mem_map.1 hx
      exact hbn h hh
    have hmW : wr.heap[mb]? = some (.map (ents (hs.map Hp.ent)) clock) := (hO.below.block mb hms).trans HM.out
    rcases run_next_at (P := Try.prog) wr 0 w.heap.size mb clock c0 seen _ clock hO.it hmW hold hO.c0 with ⟨h0, hrun⟩ | ⟨e, he, w1, hw1, hrun⟩
    · have HO2 := Lib.hid hO
      have H0 := Lib.hid h0
      clear hO h0 hold
      go_wp2
      go_ret
      refine ⟨?_, Gr.of_below HO2.out.below⟩
      rw [seenH_all hs seen fun h hh => all_seen _ _ H0.out h.ent.me (by rw [ents_toList]; exact List.mem_map_of_mem (List.mem_map_of_mem hh))]
      rfl
    · obtain ⟨he1, he2⟩ := mem_left he
      rw [ents_toList, List.map_map] at he1
      obtain ⟨h, hh, rfl⟩ := List.mem_map.1 he1
      obtain ⟨hat1, hat2⟩ := HAT.out h hh
      have hbk : h.blk < w.heap.size := (Array.getElem?_eq_some_iff.1 hat1).1
      have hAt := (hO.below.block h.blk hbk).trans hat1
      have hwsz := hO.size
      have hsz1 : w1.heap = wr.heap := by rcases hw1 with rfl | rfl <;> rfl
      have s1 : ∀ k, k ≠ w.heap.size → (setBlock w1 w.heap.size (.mapIter (some mb) clock (seen.push h.born) clock)).heap[k]? = wr.heap[k]? := fun k hk => by
        simp [setBlock, Array.getElem?_setIfInBounds, Ne.symm hk, hsz1]
      have s2 : (setBlock w1 w.heap.size (.mapIter (some mb) clock (seen.push h.born) clock)).heap[w.heap.size]? = some (.mapIter (some mb) clock (seen.push h.born) clock) := by
        simp [setBlock, Array.getElem?_setIfInBounds, hsz1, hO.size]
      have s3 : (setBlock w1 w.heap.size (.mapIter (some mb) clock (seen.push h.born) clock)).heap.size = wr.heap.size := by simp [setBlock, hsz1]
      have s4 : Hid ((setBlock w1 w.heap.size (.mapIter (some mb) clock (seen.push h.born) clock)).os = wr.os ∧ (setBlock w1 w.heap.size (.mapIter (some mb) clock (seen.push h.born) clock)).tape = wr.tape ∧ (setBlock w1 w.heap.size (.mapIter (some mb) clock (seen.push h.born) clock)).output = wr.output) := by
        rcases hw1 with rfl | rfl <;> exact ⟨rfl, rfl, rfl⟩
      have hrun' : ∀ ty, (Instr.next (.pointer (some ⟨w.heap.size, 0, none⟩)) false ty).run Try.prog wr = .ok (.tuple #[.bool true, .agg (keyc h.key), .pointer (some ⟨h.blk, 0, none⟩)]) (setBlock w1 w.heap.size (.mapIter (some mb) clock (seen.push h.born) clock)) := fun ty => hrun
      clear hrun
      generalize hW2 : setBlock w1 w.heap.size (.mapIter (some mb) clock (seen.push h.born) clock) = W2 at s1 s2 s3 s4 hrun'
      have hent := run_entry_at (P := Try.prog) W2 w.heap.size mb clock seen (ents (hs.map Hp.ent)) clock h.ent.me s2 (by rw [s1 mb (by omega)]; exact hmW) (by rw [ents_toList, List.map_map]; exact he1) (by
        rw [ents_toList, List.map_map, List.map_map]
        exact hnd)
      have hent' : (Instr.entry (.pointer (some ⟨w.heap.size, 0, none⟩))).run Try.prog W2 = .ok (.tuple #[.agg (keyc h.key), .pointer (some ⟨h.blk, 0, none⟩)]) W2 := hent
      clear hent
      have v1 : W2.cell? ⟨h.blk, 2, none⟩ = some h.pv := cell_of_row W2 h.blk 2 _ 74 (0, 0) (by rw [s1 h.blk (by omega)]; exact hAt)
      have zb : h.blk < W2.heap.size := by omega
      have hps : PkSlice W2 h.pv h.pieces := by
        refine PkSlice.of_owns (B := B) (hat2.kept (w' := W2) (row := none) ⟨s4.out.1.trans hO.below.os, s4.out.2.1.trans hO.below.tape, s4.out.2.2.trans hO.below.output, by omega, fun k hk _ => ?_⟩ (by cases h.pv.ownBlock <;> simp))
        rw [s1 k (by omega)]
        exact hO.below.block k hk
      have hpush := seenH_push hs seen h hh hnd he2
      have hle := seenH_le hs (seen.push h.born)
      have HO2 := Lib.hid hO
      have HH := Lib.hid hh
      have HE2 := Lib.hid he2
      have S1 := Lib.hid s1
      have S2 := Lib.hid s2
      have S3 := Lib.hid s3
      clear hO hold he he1 hw1 hmW hh he2 hat1 hat2 hAt hsz1 s1 s2 s3
      generalize hN : seenH hs seen = N at hpush ⊢
      rcases hps with ⟨hpv, hpl⟩ | ⟨g, cap, hpv, hlc, hcm, hrow⟩
      · rw [hpv] at v1
        go_wp2
        go_loopw [24, 3] (fun i n w' => i = .int .i64 0 ∧ n = .int .i64 (N : Nat) ∧ ∃ y, w' = gr W2 y) (fun _ _ _ => 0)
        case atStart => exact ⟨rfl, rfl, Gr.refl W2⟩
        case round =>
          obtain ⟨rfl, rfl, y, rfl⟩ := hrel
          go_wp2
          have hO4 := HO2.out.step S1.out S2.out S3.out s4.out ((Gr.refl W2).more y)
          have e1 : (gr W2 y).iterSeen w.heap.size = seen.push h.born := by simp only [World.iterSeen, hO4.it]
          have e2 : wr.iterSeen w.heap.size = seen := by simp only [World.iterSeen, HO2.out.it]
          rw [e1, e2]
          refine ⟨⟨_, _, ?_, hO4⟩, seen_less hs seen h HH.out HE2.out⟩
          rw [hpush, hpl]; rfl
      · rw [hpv] at v1
        generalize hl : h.pieces = l at hpush hlc hrow
        go_wp2
        go_loopw [24, 3] (fun i n w' => ∃ k : Nat, k ≤ l.length ∧ i = .int .i64 k ∧ n = .int .i64 ((N + heldL (l.take k) : Nat) : Int) ∧ ∃ y, w' = gr W2 y) (fun i _ _ => l.length - (intOf i).toNat)
        case atStart => exact ⟨0, Nat.zero_le _, rfl, by simp [heldL], Gr.refl W2⟩
        case round =>
          obtain ⟨k, hk, rfl, rfl, y, rfl⟩ := hrel
          by_cases hlt : k < l.length
          · obtain ⟨x, hx⟩ : ∃ x, l[k]? = some x := ⟨_, List.getElem?_eq_getElem hlt⟩
            obtain ⟨h1, h2⟩ := (hrow.gr y).row k x hx
            have h3 := (hrow.gr y).lt
            have i1 : ∀ W, (Instr.indexAt 32 (.slice (some ⟨g, 0, none⟩) l.length cap) (.int .i64 (k : Int))).run Try.prog W = .ok (.pointer (some ⟨g, k * 46, none⟩)) W := fun W => by
              have := run_idx32 g l.length cap k W (by omega) (by omega)
              simpa using this
            have hnext := heldL_take l k x hx
            have hle2 := heldL_take_le l (k + 1)
            have HR := Lib.hid hrow
            clear hrow hx
            go_wp2
            refine ⟨⟨k + 1, hlt, rfl, ?_, ((Gr.refl W2).more y).alloc _⟩, by simp [intOf]; omega⟩
            rw [hnext]
            congr 1
            omega
          · have hkl : k = l.length := by omega
            subst hkl
            clear hrow
            go_wp2
            have hO4 := HO2.out.step S1.out S2.out S3.out s4.out ((Gr.refl W2).more y)
            have e1 : (gr W2 y).iterSeen w.heap.size = seen.push h.born := by simp only [World.iterSeen, hO4.it]
            have e2 : wr.iterSeen w.heap.size = seen := by simp only [World.iterSeen, HO2.out.it]
            rw [e1, e2]
            refine ⟨⟨_, _, ?_, hO4⟩, seen_less hs seen h HH.out HE2.out⟩
            rw [hpush, List.take_length]

theorem held_any {B : Nat} {w : World} {bb : Nat} {now count : Int} {hs : List Hp} (h : BoxAt B w bb now count hs) (hsum : heldH hs ≤ 4611686018427387904) :
    Calls Try.prog 15 #[.pointer (some ⟨bb, 0, none⟩)] w fun e w' => e = .returned (.int .i64 (heldH hs)) ∧ Gr w w' := by
  rcases h.mp with ⟨rfl, h2⟩ | ⟨mb, clock, h1, h2, h3, h4⟩
  · exact held_nil w bb now count h2
  · exact held_map w bb mb clock now count hs B h2 h3 h4 h.borns (fun x hx => ⟨(h.heaps x hx).at_, (h.heaps x hx).row⟩) hsum
end Go.Proofs.Ytfdjpmglfjiamaa
