/- Walks: the closures of Take and fits; slices.IndexFunc, slices.ContainsFunc at packets. -/
import Derived.Test.YtfdjpmglfjiamaaWh
namespace Go.Proofs.Ytfdjpmglfjiamaa
open Go Go.Sort Go.RowKit
set_option linter.unusedSimpArgs false
set_option linter.unusedVariables false

/-- Is it the very piece? -/
def samePiece (p q : Pk) : Bool := decide (q.off = p.off) && (q.more == p.more) && (q.pay.toList == p.pay.toList)
def reachN (p : Pk) : Int := p.off + p.pay.size
/-- May p not lie beside q? -/
def clash (p q : Pk) : Bool := (decide (p.off < reachN q) && decide (q.off < reachN p)) || ((!q.more && decide (reachN q < reachN p)) || (!p.more && decide (reachN p < reachN q))) || (!p.more && !q.more)

theorem box_cell {w : World} {g : Nat} {p : Pk} (h : w.heap[g]? = some (.cells (pkc p) 27)) (i : Nat) : w.cell? ⟨g, i, none⟩ = (pkc p)[i]? := cell_of_row w g i _ 27 (0, 0) h
theorem box_size {w : World} {g : Nat} {o : Obj} (h : w.heap[g]? = some o) : g < w.heap.size := (Array.getElem?_eq_some_iff.1 h).1

set_option maxRecDepth 100000 in
set_option maxHeartbeats 1000000 in
theorem take1_any (p q : Pk) (g : Nat) (w : World) (hb : w.heap[g]? = some (.cells (pkc p) 27)) :
    Calls Try.prog 30 #[.agg (pkc q), .pointer (some ⟨g, 0, none⟩)] w fun e w' => e = .returned (.bool (samePiece p q)) ∧ Gr w w' := by
  have hc := box_cell hb
  have hg := box_size hb
  clear hb
  go_enter Try.func30, Try.ntmps30
  go_wp2
  all_goals go_ret
  all_goals refine ⟨?_, ?_⟩
  all_goals first
    | ((repeat (first | exact Gr.refl _ | refine Gr.alloc ?_ _ | refine Gr.more ?_ _ | refine Gr.drew ?_)); done)
    | skip
  all_goals simp [samePiece, *]

/-- The bounds under which reach is called. -/
structure Small (p : Pk) : Prop where
  o0 : 0 ≤ p.off
  o1 : p.off ≤ 65535
  sz : p.pay.size ≤ 140737488351232

set_option maxRecDepth 100000 in
set_option maxHeartbeats 4000000 in
theorem fits1_any (p q : Pk) (g : Nat) (w : World) (hb : w.heap[g]? = some (.cells (pkc p) 27)) (hp : Small p) (hq : Small q) :
    Calls Try.prog 40 #[.agg (pkc q), .pointer (some ⟨g, 0, none⟩)] w fun e w' => e = .returned (.bool (clash p q)) ∧ Gr w w' := by
  have hc := box_cell hb
  have hg := box_size hb
  have hrow : ∀ x, rowOf (gr (w.alloc (.cells (pkc q) 27)) x) g = pkc p := fun x => by
    rw [rowOf_gr _ _ _ (by simp; omega), rowOf_alloc_past _ _ _ hg]; exact rowOf_heap hb
  clear hb
  have hqs := hq.sz
  have hps := hp.sz
  have hrow2 : ∀ x, rowOf (gr (w.alloc (.cells (pkc q) 27)) x) w.heap.size = pkc q := fun x => by
    rw [rowOf_gr _ _ _ (by simp), rowOf_alloc_at _ _ _ _ rfl]
  have hbq : ∀ x, (gr (w.alloc (.cells (pkc q) 27)) x).heap[w.heap.size]? = some (.cells (pkc q) 27) := fun x => by
    rw [heap_gr _ _ (by simp)]; exact heap_alloc_new _ _
  have hcW : ∀ x i, (gr (w.alloc (.cells (pkc q) 27)) x).cell? ⟨g, i, none⟩ = (pkc p)[i]? := fun x i => by
    rw [cell_gr _ _ _ _ (by simp; omega), World.cell?_of_block (w := w) (heap_alloc_old w _ hg)]; exact hc i
  cases hqm : q.more
  all_goals cases hpm : p.more
  all_goals cases h1 : decide (p.off < q.off + q.pay.size)
  all_goals cases h2 : decide (q.off + q.pay.size < p.off + p.pay.size)
  all_goals
    go_enter Try.func40, Try.ntmps40
    go_wp2
    refine wp_region_gr (by kernel_rfl) (by kernel_rfl) ?_
    repeat (go_big_quiet_step ((go_at_call 27; exact quiet_gr ⟨_, rfl⟩ (reach_any _ _ (by first | exact hp.o0 | exact hq.o0) (by first | exact hp.o1 | exact hq.o1) (by first | exact hp.sz | exact hq.sz)))))
    refine wpQuiet_nil ?_
    rintro _ ⟨x, rfl⟩
    have f1 := hrow x
    have f2 := hrow2 x
    have f3 := hcW x
    have f4 := box_cell (hbq x)
    have f5 : g < (gr (w.alloc (.cells (pkc q) 27)) x).heap.size := by rw [size_gr]; simp; omega
    have f6 : w.heap.size < (gr (w.alloc (.cells (pkc q) 27)) x).heap.size := by rw [size_gr]; simp; omega
    have f7 : Hid (Gr w (gr (w.alloc (.cells (pkc q) 27)) x)) := (((Gr.refl w).alloc _).more x)
    generalize gr (w.alloc (.cells (pkc q) 27)) x = W at f1 f2 f3 f4 f5 f6 f7 ⊢
    clear hrow hrow2 hbq hcW hc
    generalize w.heap.size = z at f2 f4 f6 ⊢
    have f8 : ∀ y, rowOf (gr W y) g = pkc p := fun y => by rw [rowOf_gr _ _ _ f5]; exact f1
    have f9 : ∀ y, rowOf (gr W y) z = pkc q := fun y => by rw [rowOf_gr _ _ _ f6]; exact f2
    go_wp2
    refine wp_region_gr (by kernel_rfl) (by kernel_rfl) ?_
    repeat (go_big_quiet_step ((go_at_call 27; exact quiet_gr ⟨_, rfl⟩ (reach_any _ _ (by first | exact hp.o0 | exact hq.o0) (by first | exact hp.o1 | exact hq.o1) (by first | exact hp.sz | exact hq.sz)))))
    refine wpQuiet_nil ?_
    rintro _ ⟨x, rfl⟩
    go_wp2
    all_goals go_ret
    all_goals refine ⟨?_, f7.out.more _⟩
    all_goals simp only [decide_eq_true_eq, decide_eq_false_iff_not] at h1 h2
    all_goals first
      | (simp [clash, reachN, *]; done)
      | (simp [clash, reachN, *]; omega)
      | (simp [clash, reachN, *]; rfl)
      | (simp [clash, reachN, *]; exact decide_eq_decide.2 Iff.rfl)
      | (simp [clash, reachN, *]; congr 1 <;> exact decide_eq_decide.2 Iff.rfl)

end Go.Proofs.Ytfdjpmglfjiamaa
