/- Walks: wire.Put, ip.put. -/
import Derived.Test.YtfdjpmglfjiamaaWa
import Derived.Test.YtfdjpmglfjiamaaDb
import Derived.Laws.BytesArg
import Derived.Deep.LoopGhost
namespace Go.Proofs.Ytfdjpmglfjiamaa
open Go Go.Sort Go.RowKit
set_option linter.unusedSimpArgs false
set_option linter.unusedVariables false

/-- The byte that round j lays. -/
def putAt (n : Int) (j : Nat) : Int := n / 2 ^ (8 * j) % 256
/-- The eight bytes after j rounds. -/
def putL (n : Int) : Nat → List Int
  | 0 => List.replicate 8 0
  | j + 1 => (putL n j).set (7 - j) (putAt n j)
theorem putL_len (n : Int) (j : Nat) : (putL n j).length = 8 := by
  induction j with
  | zero => rfl
  | succ j ih => simp [putL, ih]
/-- Their cells. -/
def putC (n : Int) (j : Nat) : Array Value := ((putL n j).map (Value.int .u8)).toArray
theorem putC_size (n : Int) (j : Nat) : (putC n j).size = 8 := by simp [putC, putL_len]
theorem putC_zero (n : Int) : putC n 0 = #[.int .u8 0, .int .u8 0, .int .u8 0, .int .u8 0, .int .u8 0, .int .u8 0, .int .u8 0, .int .u8 0] := rfl
theorem putC_succ (n : Int) (j : Nat) : (putC n j).setIfInBounds (7 - j) (.int .u8 (putAt n j)) = putC n (j + 1) := by
  simp [putC, putL, List.map_set]
/-- wire.Put. -/
def putB (n : Int) (k : Nat) : ByteArray := strOfNums ((putL n 8).drop (8 - k))
theorem putB_size (n : Int) (k : Nat) : (putB n k).size ≤ 8 := by
  unfold putB
  rw [strOfNums_size, List.length_drop, putL_len]; omega

theorem put_cell (n : Int) (j : Nat) (w : World) (t : TypeId) (i : Nat) : (w.alloc (.cells (putC n j) t)).cell? ⟨w.heap.size, i, none⟩ = (putC n j)[i]? := by
  simp only [World.cell?, World.alloc, Array.getElem?_push_size]
  rfl

theorem put_slice (g k : Nat) (hk : 1 ≤ k) (hk8 : k ≤ 8) (W : World) :
    (Instr.sliceAt 105 (.pointer (some ⟨g, 0, none⟩)) (some (.int .i64 ((8 - k : Nat) : Int))) none none).run Try.prog W = .ok (.slice (some ⟨g, 8 - k, none⟩) k k) W := by
  have hA : Try.prog.arrayLen 105 = 8 := by kernel_rfl
  have hE : Try.prog.elem 105 = 5 := by kernel_rfl
  have hS : ∀ w, (Go.sizeOf 5).run Try.prog w = .ok 1 w := fun w => by kernel_rfl
  rw [run_sliceAt_array_l (P := Try.prog) W 105 _ (by rw [hA, hE]; exact Try.underlying105) _ _ (by omega) (by rw [hA]; omega), hA, hE, hS]
  have e1 : ((8 - k : Nat) : Int).toNat = 8 - k := by omega
  have e2 : ¬ (8 = 8 - k) := by omega
  have e3 : 8 - (8 - k) = k := by omega
  simp [slicedAt, Result.andThen, e1, e2, e3, Addr.add]
  omega

set_option maxRecDepth 100000 in
set_option maxHeartbeats 1000000 in
theorem put_any (n : Int) (k : Nat) (w : World) (h0 : 0 ≤ n) (h1 : n < 18446744073709551616) (hk : 1 ≤ k) (hk8 : k ≤ 8) :
    Calls Try.prog 47 #[.int .u64 n, .int .i64 k] w fun e w' => e = .returned (.string (putB n k)) ∧ Gr w w' := by
  have hcv : (convert 78 9 (.slice (some ⟨w.heap.size, 8 - k, none⟩) k k)).run Try.prog (w.alloc (.cells (putC n 8) 105)) = .ok (.string (putB n k)) (w.alloc (.cells (putC n 8) 105)) :=
    run_convert_bytes_arg (P := Try.prog) _ 78 5 Try.underlying78 Try.underlying5 _ _ _ _ _ (by simp [putL_len]; omega) (fun i hi => by
      rw [put_cell]
      have hl := putL_len n 8
      simp [putC, List.getD, List.getElem?_drop, List.getElem?_eq_getElem (show 8 - k + i < (putL n 8).length by omega)]) 9 Try.underlying9
  go_enter Try.func47, Try.ntmps47
  go_wp2
  go_loopw [13] (fun i wr => ∃ j : Nat, j ≤ 8 ∧ i = .int .i64 j ∧ wr = w.alloc (.cells (putC n j) 105)) (fun i _ => 8 - (intOf i).toNat)
  case atStart => exact ⟨0, by omega, rfl, by rw [putC_zero]⟩
  case round =>
    obtain ⟨j, hj, rfl, rfl⟩ := hrel
    by_cases hlt : j < 8
    · obtain ⟨v, hv⟩ : ∃ v, (putC n j)[7 - j]? = some v := ⟨_, Array.getElem?_eq_getElem (by rw [putC_size]; omega)⟩
      have hc : (w.alloc (.cells (putC n j) 105)).cell? ⟨w.heap.size, 7 - j, none⟩ = some v := (put_cell n j w 105 (7 - j)).trans hv
      go_wp2
      refine ⟨⟨j + 1, hlt, by congr 1, ?_⟩, by simp [intOf]; omega⟩
      rw [← putC_succ]; rfl
    · have : j = 8 := by omega
      subst this
      have e8 : (8 : Int) - k = ((8 - k : Nat) : Int) := by omega
      have hsl := put_slice w.heap.size k hk hk8
      go_wp2
      go_ret
      exact ⟨rfl, (Gr.refl _).alloc _⟩

set_option maxHeartbeats 400000 in
theorem put35 (n : Int) (k : Nat) (w : World) (h0 : 0 ≤ n) (h1 : n < 9223372036854775808) (hk : 1 ≤ k) (hk8 : k ≤ 8) :
    Calls Try.prog 35 #[.int .i64 n, .int .i64 k] w fun e w' => e = .returned (.string (putB n k)) ∧ Gr w w' := by
  go_enter Try.func35, Try.ntmps35
  go_wp2_with (go_at_call 47; refine (put_any _ _ _ (by omega) (by omega) hk hk8).mono ?_; rintro e w' ⟨rfl, x, rfl⟩)
  go_ret
  exact ⟨rfl, (Gr.refl _).more _⟩

end Go.Proofs.Ytfdjpmglfjiamaa
