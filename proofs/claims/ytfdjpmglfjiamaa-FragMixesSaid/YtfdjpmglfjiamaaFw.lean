/- The laws' pick; the Cut in cells. -/
import Derived.Test.YtfdjpmglfjiamaaRun
import Derived.Laws.OwnMore
namespace Go.Proofs.Ytfdjpmglfjiamaa
open Go Go.Sort Go.RowKit
set_option linter.unusedSimpArgs false
set_option linter.unusedVariables false

def pickN (c n : Int) : Int := (if c < 0 then -(c + 1) else c) % n
theorem pick_range (c n : Int) (h : 0 < n) : 0 ≤ pickN c n ∧ pickN c n < n := by
  unfold pickN
  have h0 : 0 ≤ (if c < 0 then -(c + 1) else c) := by split <;> omega
  exact ⟨Int.emod_nonneg _ (by omega), Int.emod_lt_of_pos _ h⟩

set_option maxHeartbeats 1000000 in
theorem pick_any (c n : Int) (w : World) (h0 : -9223372036854775808 ≤ c) (h1 : c ≤ 9223372036854775807) (hn : 0 < n) (hn1 : n ≤ 9223372036854775807) :
    Calls Try.prog 11 #[.int .i64 c, .int .i64 n] w fun e w' => e = .returned (.int .i64 (pickN c n)) ∧ w' = w := by
  obtain ⟨r0, r1⟩ := pick_range c n hn
  have hn0 : ¬ n = 0 := by omega
  by_cases hc : c < 0
  · have e : pickN c n = (-c - 1) % n := by
      have e2 : (-(c + 1)) = -c - 1 := by omega
      simp [pickN, hc, e2]
    have e2 : (-(c + 1)) = -c - 1 := by omega
    rw [e] at r0 r1 ⊢
    go_enter Try.func11, Try.ntmps11
    go_wp2
    go_ret
    exact ⟨rfl, rfl⟩
  · have e : pickN c n = c % n := by simp [pickN, hc]
    rw [e] at r0 r1 ⊢
    go_enter Try.func11, Try.ntmps11
    go_wp2
    go_ret
    exact ⟨rfl, rfl⟩

theorem isAgg41 (w : World) : (isAgg 41).run Try.prog w = .ok true w := by kernel_rfl
theorem size41 (w : World) : (Go.sizeOf 41).run Try.prog w = .ok 2 w := by kernel_rfl
@[go_sem ↓] theorem execOp_load41 (ρ : Operand → Value) (dst : Option Tmp) (x : Operand) (ty : TypeId) (pos : String) (after : Array Edge) (guard : Option (Nat × Bool)) :
    execOp ρ { dst, op := .load 41 x, type := ty, pos, after, guard } = xload 41 (ρ x) := rfl
@[go_sem] theorem run_load41 (w : World) (g off : Nat) (h : fitsAt (rowOf w g) off 2) : (xload 41 (.pointer (some ⟨g, off, none⟩))).run Try.prog w = .ok (.value (.agg ((rowOf w g).extract off (off + 2)))) w :=
  run_xload w g off 41 2 isAgg41 size41 (by omega) h
@[go_sem] theorem fit_tag (a b : Value) : fitsAt #[a, b] 0 2 = True := by simp [fitsAt]
@[go_sem] theorem ext_tag (a b : Value) : (#[a, b] : Array Value).extract 0 2 = #[a, b] := rfl

/-- How a packet is cut, and how its pieces come. -/
structure Cutx where
  mtu : Int
  id : Int
  oa : Option Addr
  ol : Nat
  oc : Nat
  ta : Option Addr
  tl : Nat
  tc : Nat
  other : Bool
  order : List Int
  twice : List Int
def cutl (c : Cutx) : List Value := [.int .i64 c.mtu, .int .i64 c.id, .slice c.oa c.ol c.oc, .slice c.ta c.tl c.tc, .bool c.other]
def cutc (c : Cutx) : Array Value := (cutl c).toArray

/-- The integers behind a slice's header. -/
structure IntsAt (w : World) (a : Option Addr) (n : Nat) (l : List Int) : Prop where
  len : n = l.length
  at_ : l ≠ [] → ∃ g o, a = some ⟨g, o, none⟩ ∧ g < w.heap.size ∧ ∀ i x, l[i]? = some x → w.cell? ⟨g, o + i, none⟩ = some (.int .i64 x)
  rng : ∀ x ∈ l, -9223372036854775808 ≤ x ∧ x ≤ 9223372036854775807
  few : n ≤ 4611686018427387904
theorem IntsAt.below {w w' : World} {B : Nat} {a : Option Addr} {n : Nat} {l : List Int} (h : IntsAt w a n l) (hB : w.heap.size ≤ B) (hb : Below B w w') : IntsAt w' a n l := by
  refine ⟨h.len, fun hne => ?_, h.rng, h.few⟩
  obtain ⟨g, o, h1, h2, h3⟩ := h.at_ hne
  exact ⟨g, o, h1, by have := hb.size; omega, fun i x hi => by rw [World.cell?_of_block (w := w) (w' := w') (hb.block g (by omega))]; exact h3 i x hi⟩
end Go.Proofs.Ytfdjpmglfjiamaa
