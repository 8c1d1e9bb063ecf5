/- slices.SortFunc at packets, by their offsets. -/
import Derived.Test.YtfdjpmglfjiamaaRun
import Derived.Test.YtfdjpmglfjiamaaSh
import Derived.Shelf.Abstract
import Derived.Shelf.SlSortCmp.WholeK
namespace Go.Proofs.Ytfdjpmglfjiamaa
open Go Go.Sort Go.RowKit Go.Shelf
set_option linter.unusedSimpArgs false
set_option linter.unusedVariables false

instance : Inhabited Pk := ⟨zpk⟩
def cmpI (a b : Int) : Int := if a < b then -1 else if b < a then 1 else 0
def cmpOff (p q : Pk) : Int := cmpI p.off q.off

theorem nan_any (a : Int) (w : World) : Calls Try.prog 51 #[.int .i64 a] w fun e w' => e = .returned (.bool false) ∧ w' = w := by
  go_enter Try.func51, Try.ntmps51
  go_wp2
  go_ret
  exact ⟨by simp, rfl⟩
theorem compare_any (a b : Int) (w : World) : Calls Try.prog 43 #[.int .i64 a, .int .i64 b] w fun e w' => e = .returned (.int .i64 (cmpI a b)) ∧ w' = w := by
  unfold cmpI
  go_enter Try.func43, Try.ntmps43
  go_wp2_with (go_at_call 51; refine (nan_any _ _).mono ?_; rintro e w' ⟨rfl, rfl⟩)
  all_goals go_ret
  all_goals first
    | (refine ⟨?_, rfl⟩; simp [*]; done)
    | (refine ⟨?_, rfl⟩; simp [*]; omega)
    | trace_state
theorem whole1_any (p q : Pk) (w : World) : Calls Try.prog 42 #[.agg (pkc p), .agg (pkc q)] w fun e w' => e = .returned (.int .i64 (cmpOff p q)) ∧ w' = (w.alloc (.cells (pkc p) 27)).alloc (.cells (pkc q) 27) := by
  go_enter Try.func42, Try.ntmps42
  go_wp2_with (go_at_call 43; refine (compare_any _ _ _).mono ?_; rintro e w' ⟨rfl, rfl⟩)
  go_ret
  exact ⟨rfl, rfl⟩
theorem swoOff : SWO (ltOf cmpOff) := by
  have h : ∀ x y : Pk, ltOf cmpOff x y = decide (x.off < y.off) := fun x y => by
    unfold ltOf cmpOff cmpI
    by_cases h1 : x.off < y.off
    · simp [h1]
    · by_cases h2 : y.off < x.off <;> simp [h1, h2]
  refine ⟨fun x => by rw [h]; simp, fun x y z h1 h2 => ?_, fun x y z h1 h2 => ?_⟩
  · rw [h] at *; simp at *; omega
  · rw [h] at *; simp at *; omega
theorem enters42 : ∀ args w, (callFunc 42 args).run Try.prog w = .ok (.enter 42 args) w := enters_of Try.func42 (by kernel_rfl) rfl
theorem cmpLays42 (blk off size : Nat) (w : World) : CmpLays Try.prog 42 #[] pkl 46 cmpOff blk off size w := by
  intro m os dk _ x y
  refine (whole1_any x y _).mono ?_
  rintro e w' ⟨rfl, rfl⟩
  refine ⟨rfl, 0, #[.cells (pkc x) 27, .cells (pkc y) 27], ?_⟩
  rw [World.drewN_zero, alloc_eq_grow, alloc_eq_grow, grow_grow]
  rfl
theorem sort_any (blk cap : Nat) (d : Array Pk) (w : World) (hH : HoldsK pkl 46 w blk 0 d) (hblk : blk < w.heap.size) (hsz : d.size < 4611686018427387904) :
    Calls Try.prog 41 #[.slice (some ⟨blk, 0, none⟩) d.size cap, .func (.func 42) #[] #[]] w fun e w' =>
      e = .returned (.tuple #[]) ∧ ∃ d' n os, PermIn 0 d.size d d' ∧ SortedIn (ltOf cmpOff) 0 d.size d' ∧ w' = sortWorldK pkl 46 w blk 0 n d' os :=
  AnyQ.slices_SortFunc laySF 46 isAgg27 size27 pkl pkl_len pkl_ones cmpOff swoOff 42 #[] blk 0 cap d w enters42 (cmpLays42 blk 0 d.size w) hH hblk hsz
end Go.Proofs.Ytfdjpmglfjiamaa
