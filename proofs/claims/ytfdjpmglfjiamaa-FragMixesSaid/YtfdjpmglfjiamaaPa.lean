/- The law's small packet, cut. No program in sight but its bytes. -/
import Derived.Test.YtfdjpmglfjiamaaPt
import Derived.Test.YtfdjpmglfjiamaaSm
namespace Go.Proofs.Ytfdjpmglfjiamaa
open Go Go.Sort
set_option linter.unusedSimpArgs false
set_option linter.unusedVariables false

theorem sm_right : right (smallP zstr) = true := by decide +kernel
theorem sm_bld : bldCode (smallP zstr) = 0 := by decide +kernel
theorem sm_size : sizeN (smallP zstr) = 120 := by decide +kernel
theorem sm_step : stepN (smallP zstr) 68 0 = 48 := by decide +kernel
theorem sm_paysize : (smallP zstr).pay.size = 100 := zstr_size
theorem sm_bad : splitBad (smallP zstr) 68 0 = false := by decide +kernel
theorem sm_er : er (smallP zstr) = smallP zstr := rfl

def smallL : List Pk := [cutAt (smallP zstr) 0 48 0, cutAt (smallP zstr) 0 48 48, cutAt (smallP zstr) 0 48 96]
theorem sm_cuts : cuts (smallP zstr) 0 48 0 = smallL := by
  have h := sm_paysize
  rw [cuts_cons (by omega) (by omega), cuts_cons (by omega) (by omega), cuts_cons (by omega) (by omega), cuts_nil (by omega)]
  rfl
theorem sm_split : split (er (smallP zstr)) 68 0 = (0, smallL) := by
  rw [sm_er]
  unfold split
  rw [if_neg (by rw [sm_bad]; simp), if_neg (by rw [sm_bld]; simp), if_neg (by rw [sm_size]; omega), if_neg (show ¬ (smallP zstr).still = true by decide), sm_step, sm_paysize, if_neg (by decide +kernel)]
  rw [show (48 : Int).toNat = 48 from rfl, sm_cuts]
theorem sm_cutting : Cutting smallL (smallP zstr) :=
  (split_cutting (p := smallP zstr) (mtu := 68) (id := 0) (L := smallL) (by have := sm_split; rwa [sm_er] at this) rfl rfl (by decide) (by decide)).1
end Go.Proofs.Ytfdjpmglfjiamaa
