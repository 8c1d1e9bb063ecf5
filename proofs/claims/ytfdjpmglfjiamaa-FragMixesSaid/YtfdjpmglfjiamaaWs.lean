/- Walk: wire.Sum. -/
import Derived.Test.YtfdjpmglfjiamaaWa
import Derived.Deep.LoopGhost
import Derived.Lib.Hide
import Derived.Laws.MathBits
namespace Go.Proofs.Ytfdjpmglfjiamaa
open Go Go.Sort Go.RowKit
set_option linter.unusedSimpArgs false
set_option linter.unusedVariables false

set_option maxRecDepth 100000 in
set_option maxHeartbeats 2000000 in
theorem sum_any (g : Nat) (l : List ByteArray) (w : World) (hl : l.length ≤ 10) (hs : ∀ s ∈ l, s.size ≤ 1000)
    (hc : ∀ i s, l[i]? = some s → w.cell? ⟨g, i, none⟩ = some (.string s)) :
    Calls Try.prog 37 #[.slice (some ⟨g, 0, none⟩) l.length l.length] w fun e w' => (∃ r : Int, e = .returned (.int .i64 r) ∧ 0 ≤ r ∧ r ≤ 65535) ∧ w' = w := by
  go_enter Try.func37, Try.ntmps37
  go_wp2
  go_loopw [3, 4, 10] (fun s o i wr => ∃ k : Nat, ∃ S b, k ≤ l.length ∧ i = .int .i64 k ∧ s = .int .u64 S ∧ o = .bool b ∧ 0 ≤ S ∧ S ≤ (k : Int) * 65280000 ∧ wr = w)
    (fun _ _ i _ => l.length - (intOf i).toNat)
  case atStart => exact ⟨0, 0, false, Nat.zero_le _, rfl, rfl, rfl, by omega, by omega, rfl⟩
  case round =>
    obtain ⟨k, S, b, hk, rfl, rfl, rfl, h0, h1, rfl⟩ := hrel
    by_cases hlt : k < l.length
    · obtain ⟨s, hsk⟩ : ∃ s, l[k]? = some s := ⟨_, List.getElem?_eq_getElem hlt⟩
      have hck := hc k s hsk
      have hss := hs s (List.mem_of_getElem? hsk)
      clear hsk hc hs
      go_wp2
      go_loopw [3, 4, 16] (fun s' o i w2 => ∃ j : Nat, ∃ T c, j ≤ s.size ∧ i = .int .i64 j ∧ s' = .int .u64 T ∧ o = .bool c ∧ 0 ≤ T ∧ T ≤ (k : Int) * 65280000 + (j : Int) * 65280 ∧ w2 = wr)
        (fun _ _ i _ => s.size - (intOf i).toNat)
      case atStart => exact ⟨0, S, b, Nat.zero_le _, rfl, rfl, rfl, h0, by omega, rfl⟩
      case round =>
        obtain ⟨j, T, c, hj, rfl, rfl, rfl, h2, h3, rfl⟩ := hrel
        by_cases hlj : j < s.size
        · have hb : (s[j].toNat : Int) ≤ 255 := by have := UInt8.toNat_lt s[j]; omega
          cases c
          all_goals go_wp2
          all_goals exact ⟨⟨j + 1, _, _, hlj, by congr 1, rfl, rfl, by omega, by omega, trivial⟩, by simp [intOf]; omega⟩
        · have hjs : j = s.size := by omega
          subst hjs
          go_wp2
          exact ⟨⟨k + 1, _, _, hlt, by congr 1, rfl, rfl, h2, by omega, trivial⟩, by simp [intOf]; omega⟩
    · clear hc hs
      go_wp2
      go_loopw [3] (fun s w2 => ∃ T, s = .int .u64 T ∧ 0 ≤ T ∧ T ≤ 652800000 ∧ w2 = wr) (fun s _ => (intOf s).toNat)
      case atStart => exact ⟨S, rfl, h0, by omega, rfl⟩
      case round =>
        obtain ⟨T, rfl, h2, h3, rfl⟩ := hrel
        by_cases hT : 65535 < T
        · have hand : bits .and .u64 T 65535 = T % 65536 := by go_bits2
          go_wp2
          exact ⟨⟨_, rfl, by omega, by omega, trivial⟩, by simp [intOf]; omega⟩
        · go_wp2
          go_ret
          exact ⟨⟨_, rfl, by omega, by omega⟩, rfl⟩

end Go.Proofs.Ytfdjpmglfjiamaa
