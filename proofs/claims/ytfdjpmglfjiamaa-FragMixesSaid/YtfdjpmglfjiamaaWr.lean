/- Walk: ip.Right. -/
import Derived.Test.YtfdjpmglfjiamaaWa
import Derived.Deep.LoopGhost
import Derived.Lib.Hide
namespace Go.Proofs.Ytfdjpmglfjiamaa
open Go Go.Sort Go.RowKit
set_option linter.unusedSimpArgs false
set_option linter.unusedVariables false

set_option maxRecDepth 100000 in
set_option maxHeartbeats 2000000 in
theorem right_v4 (p : Pk) (w : World) (h6 : p.src.v6 = false) (ho : p.opts.size ≤ 140737488351232) :
    Calls Try.prog 10 #[.agg (pkc p)] w fun e w' => e = .returned (.bool (rightHead p && right4 p)) ∧ Gr w w' := by
  go_enter Try.func10, Try.ntmps10
  go_wp2_with (first
    | (go_at_call 22; refine (valid_any _ _).mono ?_; rintro e w' ⟨rfl, x, rfl⟩)
    | (go_at_call 23; refine (upto_any _ _ _).mono ?_; rintro e w' ⟨rfl, rfl⟩))
  all_goals
    go_ret
    refine ⟨?_, ?_⟩
    · first | (simp [rightHead, right4, *]; done) | (simp [rightHead, right4, *]; omega)
    · repeat (first | exact Gr.refl _ | refine Gr.alloc ?_ _ | refine Gr.more ?_ _ | refine Gr.drew ?_)


theorem extsOk_iff (l : List Ext) : extsOk l = true ↔ ∀ i x, l[i]? = some x → extOk i x = true := by
  unfold extsOk
  simp only [List.all_eq_true, List.mem_range]
  constructor
  · intro h i x hx
    have hi : i < l.length := (List.getElem?_eq_some_iff.1 hx).1
    have := h i hi
    rw [hx] at this
    simpa using this
  · intro h i hi
    rw [List.getElem?_eq_getElem hi]
    simpa using h i _ (List.getElem?_eq_getElem hi)
theorem extsOk_no {l : List Ext} {i : Nat} {x : Ext} (hx : l[i]? = some x) (h : extOk i x = false) : extsOk l = false := by
  rw [Bool.eq_false_iff]
  intro hc
  rw [(extsOk_iff l).1 hc i x hx] at h
  cases h

set_option maxRecDepth 100000 in
set_option maxHeartbeats 4000000 in
theorem right_v6 (p : Pk) (w : World) (h6 : p.src.v6 = true) (hx : ExtsAt w p) (ho : p.opts.size ≤ 140737488351232) :
    Calls Try.prog 10 #[.agg (pkc p)] w fun e w' => e = .returned (.bool (rightHead p && (extsOk p.exts && right6 p))) ∧ Gr w w' := by
  have hlen := hx.len
  have hcap := hx.cap
  have hfit := hx.fit
  have HL : Hid (p.xl = p.exts.length) := hlen
  clear hlen
  go_enter Try.func10, Try.ntmps10
  go_wp2_with (first
    | (go_at_call 22; refine (valid_any _ _).mono ?_; rintro e w' ⟨rfl, x, rfl⟩)
    | (go_at_call 23; refine (upto_any _ _ _).mono ?_; rintro e w' ⟨rfl, rfl⟩))
  all_goals first
    | (go_ret; refine ⟨by simp [rightHead, *], ?_⟩; repeat (first | exact Gr.refl _ | refine Gr.alloc ?_ _ | refine Gr.more ?_ _ | refine Gr.drew ?_))
    | skip
  have HR : rightHead p = true := by simp [rightHead, *]
  have hm8 : (p.off.tmod 8 != 0) = false := by assumption
  rw [hm8]
  go_loopw [94] (fun i wr => ∃ k : Nat, k ≤ p.xl ∧ i = .int .i64 k ∧ (∀ j x, j < k → p.exts[j]? = some x → extOk j x = true) ∧ ∃ x, wr = gr (w.alloc (Obj.cells (pkc p) 27)) x)
    (fun i _ => p.xl - (intOf i).toNat)
  case atStart => exact ⟨0, Nat.zero_le _, rfl, fun j x hj => absurd hj (Nat.not_lt_zero _), _, rfl⟩
  case round =>
    obtain ⟨k, hk, rfl, hall, y, rfl⟩ := hrel
    have HA := Lib.hid hall
    clear hall
    by_cases hlt : k < p.xl
    · have hne : p.exts ≠ [] := fun h => by have := HL.out; rw [h] at this; simp at this; omega
      obtain ⟨hXA, hxg⟩ := hx.at_ hne
      obtain ⟨e, he⟩ : ∃ e, p.exts[k]? = some e := ⟨_, List.getElem?_eq_getElem (by have := HL.out; omega)⟩
      have hY : ExtsAt (gr (w.alloc (Obj.cells (pkc p) 27)) y) p := gr_less hx (((Gr.refl _).alloc _).more _)
      obtain ⟨c1, c2⟩ := hY.cells k e he
      have hbs := hx.small e (List.mem_of_getElem? he)
      have HE := Lib.hid he
      clear he hY hne
      go_wp2_with (go_at_call 24; refine (special_any _ _).mono ?_; rintro e w' ⟨rfl, rfl⟩)
      all_goals go_ways
      all_goals try simp only [beq_iff_eq, beq_eq_false_iff_ne, ne_eq] at *
      all_goals by_cases hb : extOk k e = true
      all_goals first
        | (exfalso; rw [extOk_iff] at hb; obtain ⟨b1, b2, b3, b4, b5⟩ := hb; first | contradiction | omega)
        | (exfalso; apply hb; rw [extOk_iff]; refine ⟨?_, ?_, ?_, ?_, ?_⟩ <;> first | assumption | omega)
        | (go_ret
           refine ⟨?_, ?_⟩
           · rw [extsOk_no HE.out (Bool.eq_false_iff.2 hb)]; simp
           · repeat (first | exact Gr.refl _ | refine Gr.alloc ?_ _ | refine Gr.more ?_ _ | refine Gr.drew ?_))
        | skip
      all_goals
        refine ⟨?_, ?_⟩
        · refine ⟨k + 1, hlt, by first | rfl | (congr 1; omega), fun j x hj hx => ?_, ((Gr.refl _).more y).alloc _⟩
          rcases Nat.lt_or_ge j k with h | h
          · exact HA.out j x h hx
          · have hjk : j = k := by omega
            subst hjk
            rw [HE.out] at hx
            cases hx
            exact hb
        · simp [intOf]; omega
    · have hke : k = p.xl := by omega
      have hr : extsOk p.exts = true := (extsOk_iff _).2 fun i x hi => HA.out i x (by have := HL.out; have := (List.getElem?_eq_some_iff.1 hi).1; omega) hi
      go_wp2_with (first
        | (go_at_call 23; refine (upto_any _ _ _).mono ?_; rintro e w' ⟨rfl, rfl⟩)
        | (go_at_call 24; refine (special_any _ _).mono ?_; rintro e w' ⟨rfl, rfl⟩))
      all_goals go_ways
      all_goals first
        | (go_ret
           refine ⟨?_, ?_⟩
           · first | (simp [HR, hr, right6, *]; done) | (simp [HR, hr, right6, *]; omega)
           · repeat (first | exact Gr.refl _ | refine Gr.alloc ?_ _ | refine Gr.more ?_ _ | refine Gr.drew ?_))
        | skip

theorem right_any (p : Pk) (w : World) (hx : ExtsAt w p) (ho : p.opts.size ≤ 140737488351232) :
    Calls Try.prog 10 #[.agg (pkc p)] w fun e w' => e = .returned (.bool (right p)) ∧ Gr w w' := by
  cases h : p.src.v6
  · exact (right_v4 p w h ho).mono fun e w' ⟨h1, h2⟩ => ⟨by rw [h1]; simp [right, h], h2⟩
  · exact (right_v6 p w h hx ho).mono fun e w' ⟨h1, h2⟩ => ⟨by rw [h1]; simp [right, h], h2⟩

end Go.Proofs.Ytfdjpmglfjiamaa
