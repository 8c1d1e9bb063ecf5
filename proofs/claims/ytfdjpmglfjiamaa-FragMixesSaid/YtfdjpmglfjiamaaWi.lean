/- Walks: slices.IndexFunc, slices.ContainsFunc at packets, for whatever predicate. -/
import Derived.Test.YtfdjpmglfjiamaaWf
import Derived.Test.YtfdjpmglfjiamaaWl
namespace Go.Proofs.Ytfdjpmglfjiamaa
open Go Go.Sort Go.RowKit
set_option linter.unusedSimpArgs false
set_option linter.unusedVariables false

/-- The block b begins with these packets. -/
structure PkRow (w : World) (b : Nat) (l : List Pk) : Prop where
  lt : b < w.heap.size
  row : ∀ k x, l[k]? = some x → (rowOf w b).extract (k * 46) (k * 46 + 46) = pkc x ∧ fitsAt (rowOf w b) (k * 46) 46
theorem PkRow.gr {w : World} {b : Nat} {l : List Pk} (h : PkRow w b l) (y : Gx) : PkRow (gr w y) b l :=
  ⟨by rw [size_gr]; have := h.lt; omega, fun k x hx => by rw [rowOf_gr _ _ _ h.lt]; exact h.row k x hx⟩

theorem run_idx32 (b : Nat) (n c : Nat) (i : Int) (w : World) (h0 : 0 ≤ i) (h1 : i < n) :
    (Instr.indexAt 32 (.slice (some ⟨b, 0, none⟩) n c) (.int .i64 i)).run Try.prog w = .ok (.pointer (some ⟨b, i.toNat * 46, none⟩)) w := by
  rw [run_indexAt_slice w 32 _ _ _ _ _ (by kernel_rfl), if_pos ⟨h0, h1⟩]
  have hz : (Go.sizeOf (Try.prog.elem 32)).run Try.prog w = .ok 46 w := by kernel_rfl
  rw [hz, Result.andThen_ok, Addr.add_lit, Nat.zero_add]

attribute [local irreducible] Calls in
set_option maxRecDepth 100000 in
set_option maxHeartbeats 1000000 in
theorem idx_any (g gp : Nat) (eg : ∀ args w, (callFunc g args).run Try.prog w = .ok (.enter g args) w) (f : Pk → Bool) (l : List Pk) (b c : Nat) (w : World) (hr : PkRow w b l) (hn : l.length ≤ 140737488351232)
    (hp : ∀ x ∈ l, ∀ y, Calls Try.prog g #[.agg (pkc x), .pointer (some ⟨gp, 0, none⟩)] (gr w y) fun e w' => e = .returned (.bool (f x)) ∧ Gr (gr w y) w') :
    Calls Try.prog 39 #[.slice (some ⟨b, 0, none⟩) l.length c, .func (.func g) #[] #[.pointer (some ⟨gp, 0, none⟩)]] w fun e w' => (∃ r : Int, e = .returned (.int .i64 r) ∧ decide (0 ≤ r) = l.any f) ∧ Gr w w' := by
  go_enter Try.func39, Try.ntmps39
  go_wp2
  go_loopw [8] (fun i wr => ∃ k : Nat, k ≤ l.length ∧ i = .int .i64 k ∧ (∀ j x, j < k → l[j]? = some x → f x = false) ∧ ∃ y, wr = gr w y)
    (fun i _ => l.length - (intOf i).toNat)
  case atStart => exact ⟨0, Nat.zero_le _, rfl, fun j x hj => absurd hj (Nat.not_lt_zero _), Gr.refl w⟩
  case round =>
    obtain ⟨k, hk, rfl, hall, y, rfl⟩ := hrel
    have HA := Lib.hid hall
    clear hall
    by_cases hlt : k < l.length
    · obtain ⟨x, hx⟩ : ∃ x, l[k]? = some x := ⟨_, List.getElem?_eq_getElem hlt⟩
      have hxm := List.mem_of_getElem? hx
      obtain ⟨h1, h2⟩ := (hr.gr y).row k x hx
      have h3 := (hr.gr y).lt
      have i1 : ∀ W, (Instr.indexAt 32 (.slice (some ⟨b, 0, none⟩) l.length c) (.int .i64 (k : Int))).run Try.prog W = .ok (.pointer (some ⟨b, k * 46, none⟩)) W := fun W => by
        have := run_idx32 b l.length c k W (by omega) (by omega)
        simpa using this
      have hc := hp x hxm y
      have HX := Lib.hid hx
      clear hx hxm hp
      have HC := Lib.hid hc
      clear hc
      have HR := Lib.hid hr
      clear hr
      go_wp2_with (fail)
      refine HC.out.mono ?_
      rintro e w' ⟨rfl, z, rfl⟩
      cases hf : f x
      · go_wp2
        refine ⟨⟨k + 1, hlt, by congr 1, fun j x' hj hx' => ?_, ⟨_, rfl⟩⟩, by simp [intOf]; omega⟩
        rcases Nat.lt_or_ge j k with h | h
        · exact HA.out j x' h hx'
        · have hjk : j = k := by omega
          subst hjk
          rw [HX.out] at hx'
          cases hx'
          exact hf
      · go_wp2
        go_ret
        refine ⟨⟨k, rfl, ?_⟩, _, rfl⟩
        have : l.any f = true := List.any_eq_true.2 ⟨x, List.mem_of_getElem? HX.out, hf⟩
        rw [this]
        simp
    · have hkl : k = l.length := by omega
      clear hp hr eg
      go_wp2
      go_ret
      refine ⟨⟨-1, rfl, ?_⟩, _, rfl⟩
      have : l.any f = false := by
        rw [List.any_eq_false]
        intro x hx
        obtain ⟨j, hj⟩ := List.getElem?_of_mem hx
        have := HA.out j x (by have := (List.getElem?_eq_some_iff.1 hj).1; omega) hj
        simp [this]
      rw [this]
      simp

end Go.Proofs.Ytfdjpmglfjiamaa
