/- Walks: wire.Bytes. -/
import Derived.Test.YtfdjpmglfjiamaaWa
import Derived.Test.YtfdjpmglfjiamaaDb
import Derived.Laws.BytesArg
namespace Go.Proofs.Ytfdjpmglfjiamaa
open Go Go.Sort Go.RowKit
set_option linter.unusedSimpArgs false
set_option linter.unusedVariables false

/-- wire.Bytes. -/
def bytesOfAd (a : Ad) : ByteArray := if a.v6 then strOfNums a.b.toList else if valid a then strOfNums (a.b.toList.take 4) else ⟨#[]⟩
theorem bytesOfAd_le (a : Ad) : (bytesOfAd a).size ≤ 16 := by
  unfold bytesOfAd
  split
  · rw [strOfNums_size]; simp
  · split
    · rw [strOfNums_size]; simp
    · simp [ByteArray.size]

theorem ad_cell (a : Ad) (w : World) (t : TypeId) (i : Nat) (h : i < 16) : (w.alloc (.cells (adc a) t)).cell? ⟨w.heap.size, 1 + i, none⟩ = some (.int .u8 (a.b.toList.getD i 0)) := by
  have e : (adc a)[1 + i]? = some (.int .u8 a.b[i]) := by rw [Nat.add_comm]; exact adc_succ a i h
  have e2 : a.b.toList.getD i 0 = a.b[i] := by simp [List.getD, h]
  rw [e2]
  simp only [World.cell?, World.alloc, Array.getElem?_push_size]
  exact e

set_option maxRecDepth 100000 in
set_option maxHeartbeats 400000 in
theorem bytes_v6 (a : Ad) (w : World) (h : a.v6 = true) :
    Calls Try.prog 34 #[.agg (adc a)] w fun e w' => e = .returned (.string (bytesOfAd a)) ∧ Gr w w' := by
  have hcv : (convert 78 9 (.slice (some ⟨w.heap.size, 1, none⟩) 16 16)).run Try.prog (w.alloc (.cells (adc a) 24)) = .ok (.string (strOfNums a.b.toList)) (w.alloc (.cells (adc a) 24)) :=
    run_convert_bytes_arg (P := Try.prog) _ 78 5 Try.underlying78 Try.underlying5 _ _ _ _ _ (by simp) (fun i hi => ad_cell a w 24 i hi) 9 Try.underlying9
  go_enter Try.func34, Try.ntmps34
  go_wp2
  go_ret
  exact ⟨by simp [bytesOfAd, h], (Gr.refl _).alloc _⟩

set_option maxRecDepth 100000 in
set_option maxHeartbeats 400000 in
theorem bytes_v4 (a : Ad) (w : World) (h : a.v6 = false) :
    Calls Try.prog 34 #[.agg (adc a)] w fun e w' => e = .returned (.string (bytesOfAd a)) ∧ Gr w w' := by
  have hcv : ∀ x, (convert 78 9 (.slice (some ⟨w.heap.size, 1, none⟩) 4 16)).run Try.prog (gr (w.alloc (.cells (adc a) 24)) x) = .ok (.string (strOfNums (a.b.toList.take 4))) (gr (w.alloc (.cells (adc a) 24)) x) := fun x =>
    run_convert_bytes_arg (P := Try.prog) _ 78 5 Try.underlying78 Try.underlying5 _ _ _ _ _ (by simp) (fun i hi => by
      rw [cell_gr _ _ _ _ (by simp), ad_cell a w 24 i (by omega)]
      simp [List.getD, List.getElem?_take_of_lt hi]) 9 Try.underlying9
  go_enter Try.func34, Try.ntmps34
  go_wp2_with (go_at_call 22; refine (valid_any _ _).mono ?_; rintro e w' ⟨rfl, x, rfl⟩; have hcv1 := hcv x)
  all_goals go_ret
  all_goals refine ⟨?_, ((Gr.refl _).alloc _).more _⟩
  all_goals simp [bytesOfAd, h, *]

theorem bytes_any (a : Ad) (w : World) : Calls Try.prog 34 #[.agg (adc a)] w fun e w' => e = .returned (.string (bytesOfAd a)) ∧ Gr w w' := by
  cases h : a.v6
  · exact bytes_v4 a w h
  · exact bytes_v6 a w h

end Go.Proofs.Ytfdjpmglfjiamaa
