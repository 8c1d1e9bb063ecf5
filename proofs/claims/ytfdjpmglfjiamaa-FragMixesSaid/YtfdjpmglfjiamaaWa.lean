/- Walk: wire.V4. Walks: package wire, the small ones. -/
import Derived.Test.YtfdjpmglfjiamaaRun
import Derived.Handy
import Derived.Maps.RangeWalk
import Derived.BigQuiet
namespace Go.Proofs.Ytfdjpmglfjiamaa
open Go Go.Sort Go.RowKit
set_option linter.unusedSimpArgs false
set_option linter.unusedVariables false

set_option maxRecDepth 100000 in
set_option maxHeartbeats 400000 in
theorem v4_any (a b c d : Int) (w : World) :
    Calls Try.prog 33 #[.int .u8 a, .int .u8 b, .int .u8 c, .int .u8 d] w fun e w' => e = .returned (.agg (adc (v4 a b c d))) ∧ Gr w w' := by
  go_enter Try.func33, Try.ntmps33
  go_wp2_with (first
    | (refine wpList_value (o := ⟨some 13, _, _, _, _, _⟩) (v := .agg ((v4 a b c d).b.toList.map (Value.int .u8)).toArray) rfl (fun w => by kernel_rfl) ?_; go_frame)
    | (refine wpList_value (o := ⟨some 14, _, _, _, _, _⟩) (v := .agg (adc (v4 a b c d))) rfl (fun w => by kernel_rfl) ?_; go_frame))
  refine bodyPost_ret (run_results_cell 17 Try.results33 _ _ w.heap.size _ rfl isAgg24 size24 (by omega) (sz_adc (v4 a b c d) ▸ trivial) (rowOf_alloc_at _ _ _ _ rfl)) rfl ⟨rfl, (Gr.refl _).alloc _⟩
end Go.Proofs.Ytfdjpmglfjiamaa
namespace Go.Proofs.Ytfdjpmglfjiamaa
open Go Go.Sort Go.RowKit
set_option linter.unusedSimpArgs false
set_option linter.unusedVariables false

set_option maxHeartbeats 400000 in
theorem valid_v6 (a : Ad) (w : World) (h : a.v6 = true) :
    Calls Try.prog 22 #[.agg (adc a)] w fun e w' => e = .returned (.bool true) ∧ Gr w w' := by
  go_enter Try.func22, Try.ntmps22
  go_wp2
  refine wp_region_gr (by kernel_rfl) (by kernel_rfl) ?_
  repeat (go_big_quiet_step (fail))
  refine wpQuiet_nil ?_
  rintro _ ⟨x, rfl⟩
  go_wp2
  go_ret
  exact ⟨rfl, ((Gr.refl _).alloc _).more _⟩

set_option maxHeartbeats 400000 in
theorem valid_v4 (a : Ad) (w : World) (h : a.v6 = false) :
    Calls Try.prog 22 #[.agg (adc a)] w fun e w' => e = .returned (.bool (decide (a = v4 a.b[0] a.b[1] a.b[2] a.b[3]))) ∧ Gr w w' := by
  go_enter Try.func22, Try.ntmps22
  go_wp2
  refine wp_region_gr (by kernel_rfl) (by kernel_rfl) ?_
  repeat (go_big_quiet_step ((go_at_call 33; exact quiet_gr ⟨_, rfl⟩ (v4_any _ _ _ _ _))))
  refine wpQuiet_nil ?_
  rintro _ ⟨x, rfl⟩
  go_wp2
  go_ret
  exact ⟨rfl, ((Gr.refl _).alloc _).more _⟩

theorem valid_any (a : Ad) (w : World) : Calls Try.prog 22 #[.agg (adc a)] w fun e w' => e = .returned (.bool (valid a)) ∧ Gr w w' := by
  cases h : a.v6
  · exact (valid_v4 a w h).mono fun e w' ⟨h1, h2⟩ => ⟨by rw [h1, valid, h, Bool.false_or], h2⟩
  · exact (valid_v6 a w h).mono fun e w' ⟨h1, h2⟩ => ⟨by rw [h1, valid, h, Bool.true_or], h2⟩

set_option maxHeartbeats 400000 in
theorem upto_any (n m : Int) (w : World) : Calls Try.prog 23 #[.int .i64 n, .int .i64 m] w fun e w' => e = .returned (.bool (upto n m)) ∧ w' = w := by
  unfold upto
  by_cases h : 0 ≤ n
  all_goals
    go_enter Try.func23, Try.ntmps23
    go_wp2
    go_ret
    simp [h] <;> omega

set_option maxHeartbeats 400000 in
theorem special_any (n : Int) (w : World) : Calls Try.prog 24 #[.int .i64 n] w fun e w' => e = .returned (.bool (special n)) ∧ w' = w := by
  unfold special
  go_enter Try.func24, Try.ntmps24
  go_wp2
  all_goals (go_ret; simp [*])
end Go.Proofs.Ytfdjpmglfjiamaa
