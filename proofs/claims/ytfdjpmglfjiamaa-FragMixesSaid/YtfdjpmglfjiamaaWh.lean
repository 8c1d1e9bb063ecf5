/- Walks: ip.head, ip.flag, frag.reach. -/
import Derived.Test.YtfdjpmglfjiamaaWa
import Derived.Test.YtfdjpmglfjiamaaDb
import Derived.Deep.LoopGhost
import Derived.Lib.Hide
namespace Go.Proofs.Ytfdjpmglfjiamaa
open Go Go.Sort Go.RowKit
set_option linter.unusedSimpArgs false
set_option linter.unusedVariables false

theorem reach_any (p : Pk) (w : World) (h0 : 0 ≤ p.off) (h1 : p.off ≤ 65535) (hp : p.pay.size ≤ 140737488351232) :
    Calls Try.prog 27 #[.agg (pkc p)] w fun e w' => e = .returned (.int .i64 (p.off + p.pay.size)) ∧ Gr w w' := by
  go_enter Try.func27, Try.ntmps27
  go_wp2
  go_ret
  refine ⟨?_, ?_⟩
  · go_num
  · repeat (first | exact Gr.refl _ | refine Gr.alloc ?_ _ | refine Gr.more ?_ _ | refine Gr.drew ?_)

theorem flag_any (b : Bool) (n : Int) (w : World) :
    Calls Try.prog 36 #[.bool b, .int .i64 n] w fun e w' => e = .returned (.int .i64 (if b then n else 0)) ∧ w' = w := by
  cases b <;> go_enter Try.func36, Try.ntmps36 <;> go_wp2 <;> go_ret <;> exact ⟨rfl, rfl⟩

theorem head_v4 (p : Pk) (w : World) (h6 : p.src.v6 = false) (ho : p.opts.size ≤ 40) :
    Calls Try.prog 21 #[.agg (pkc p)] w fun e w' => e = .returned (.int .i64 (headN p)) ∧ Gr w w' := by
  go_enter Try.func21, Try.ntmps21
  go_wp2
  go_ret
  refine ⟨?_, ?_⟩
  · simp [headN, h6]
  · repeat (first | exact Gr.refl _ | refine Gr.alloc ?_ _ | refine Gr.more ?_ _ | refine Gr.drew ?_)

set_option maxRecDepth 100000 in
set_option maxHeartbeats 2000000 in
theorem head_v6 (p : Pk) (w : World) (h6 : p.src.v6 = true) (hx : ExtsAt w p) (hl : p.xl ≤ 4) (hb : ∀ x ∈ p.exts, x.body.size ≤ 2046) :
    Calls Try.prog 21 #[.agg (pkc p)] w fun e w' => e = .returned (.int .i64 (headN p)) ∧ Gr w w' := by
  have hlen := hx.len
  have hcap := hx.cap
  have hfit := hx.fit
  have HL : Hid (p.xl = p.exts.length) := hlen
  clear hlen
  go_enter Try.func21, Try.ntmps21
  go_wp2
  go_loopw [3, 17] (fun n i wr => ∃ k : Nat, k ≤ p.xl ∧ i = .int .i64 k ∧ n = .int .i64 (40 + extSum (p.exts.take k)) ∧ ∃ x, wr = gr (w.alloc (Obj.cells (pkc p) 27)) x)
    (fun _ i _ => p.xl - (intOf i).toNat)
  case atStart => exact ⟨0, Nat.zero_le _, rfl, by simp [extSum], Gr.refl _⟩
  case round =>
    obtain ⟨k, hk, rfl, rfl, y, rfl⟩ := hrel
    by_cases hlt : k < p.xl
    · have hne : p.exts ≠ [] := fun h => by have := HL.out; rw [h] at this; simp at this; omega
      obtain ⟨hXA, hxg⟩ := hx.at_ hne
      obtain ⟨e, he⟩ : ∃ e, p.exts[k]? = some e := ⟨_, List.getElem?_eq_getElem (by have := HL.out; omega)⟩
      have hY : ExtsAt (gr (w.alloc (Obj.cells (pkc p) 27)) y) p := gr_less hx (((Gr.refl _).alloc _).more _)
      obtain ⟨c1, c2⟩ := hY.cells k e he
      have hbs := hb e (List.mem_of_getElem? he)
      have hsum := extSum_take_le p.exts 4 hb (by have := HL.out; omega) k
      have HE := Lib.hid he
      have hsn := extSum_take_succ p.exts k e he
      clear he hY hne hb
      go_wp2
      go_roundw
      case rel => 
        exact ⟨k + 1, hlt, by congr 1, by rw [hsn]; congr 1; omega, ((Gr.refl _).more y).alloc _⟩
      case measure => simp [intOf]; omega
    · have hke : k = p.xl := by omega
      have hsum := extSum_take_le p.exts 4 hb (by have := HL.out; omega) k
      have htk : p.exts.take p.xl = p.exts := by rw [HL.out]; simp
      subst hke
      go_wp2
      all_goals go_ret
      all_goals refine ⟨?_, ?_⟩
      all_goals first
        | (exact ((Gr.refl _).alloc _).more _)
        | (simp [headN, h6, htk, *]; done)
        | (simp [headN, h6, htk, *]; rw [htk] at hsum; rw [IntWalk.wrap64_in _ (by omega)])

theorem head_any (p : Pk) (w : World) (hr : right p = true) (hx : ExtsAt w p) :
    Calls Try.prog 21 #[.agg (pkc p)] w fun e w' => e = .returned (.int .i64 (headN p)) ∧ Gr w w' := by
  by_cases h6 : p.src.v6
  · exact head_v6 p w h6 hx (right_xl hr h6) (right_bodies hr h6)
  · exact head_v4 p w (by simpa using h6) (right_opts hr)

theorem headN_le (p : Pk) (hr : right p = true) (hl : p.xl = p.exts.length) : headN p ≤ 8240 := by
  unfold headN
  by_cases h6 : p.src.v6
  · have h1 := extSum_take_le p.exts 4 (right_bodies hr h6) (by have := right_xl hr h6; omega) p.exts.length
    rw [List.take_length] at h1
    simp only [h6, if_true]
    split <;> omega
  · have := right_opts hr
    simp only [h6]
    simp
    omega

end Go.Proofs.Ytfdjpmglfjiamaa
