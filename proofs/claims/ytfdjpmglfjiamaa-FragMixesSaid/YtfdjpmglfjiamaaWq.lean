/- slices.Backward over extension headers: its closure's contract. -/
import Derived.Test.YtfdjpmglfjiamaaRun
import Derived.RangeFuncBox
import Derived.RangeFuncLeaves
import Derived.Shelf.Abstract
import Derived.WalkKit
import Derived.OwnWalkIn
import Derived.TacticsInMore
import Derived.LoopNIn
import Derived.LoopIn
namespace Go.Proofs.Ytfdjpmglfjiamaa
open Go Go.Sort Go.RowKit Go.Shelf
set_option linter.unusedSimpArgs false
set_option linter.unusedVariables false

attribute [local go_sem] Oper.semAt_some

def upto' {α : Type} (f : Nat → α) (k : Nat) : List α := (List.range k).map f
theorem upto'_succ {α : Type} (f : Nat → α) (k : Nat) : upto' f (k + 1) = upto' f k ++ [f k] := by simp [upto', List.range_succ]
theorem upto'_length {α : Type} (f : Nat → α) (k : Nat) : (upto' f k).length = k := by simp [upto']
/-- What the loop's body may know of what it is handed. -/
def okx (x : Nat × Ext) : Prop := x.2.body.size ≤ 2046 ∧ 0 ≤ x.2.kind ∧ x.2.kind ≤ 255
instance (x : Nat × Ext) : Decidable (okx x) := by unfold okx; infer_instance
abbrev Bx := { x : Nat × Ext // okx x }
theorem okx_zero : okx (0, ⟨0, ⟨#[]⟩⟩) := ⟨by simp [ByteArray.size], Int.le_refl _, by show (0 : Int) ≤ 255; omega⟩
/-- The j-th that comes: from the end. -/
def backAt (p : Pk) (j : Nat) : Bx := if h : okx (p.xl - 1 - j, p.exts[p.xl - 1 - j]?.getD ⟨0, ⟨#[]⟩⟩) then ⟨_, h⟩ else ⟨_, okx_zero⟩
def backEnc (x : Bx) : Array Value := #[.int .i64 (x.1.1 : Int), .agg #[.int .i64 x.1.2.kind, .string x.1.2.body]]

/-- What a round keeps: all below n₀, and the box of the slice. -/
def Kpx (n₀ Bs : Nat) (W W' : World) : Prop := Below n₀ W W' ∧ W'.heap[Bs]? = W.heap[Bs]?
theorem Kpx.refl (n₀ Bs : Nat) (W : World) : Kpx n₀ Bs W W := ⟨Below.refl _ _, rfl⟩
theorem Kpx.trans {n₀ Bs : Nat} {A B C : World} (h : Kpx n₀ Bs A B) (k : Kpx n₀ Bs B C) : Kpx n₀ Bs A C := ⟨h.1.trans k.1, k.2.trans h.2⟩

set_option maxRecDepth 100000 in
set_option maxHeartbeats 2000000 in
theorem back1_in (F : Fence) (n : Nat) (h48 : F.fn 48) (hro : F.round = none) (hn : 1 ≤ n) (l Bs n₀ : Nat) (p : Pk) (hok : ∀ e ∈ p.exts, e.body.size ≤ 2046 ∧ 0 ≤ e.kind ∧ e.kind ≤ 255) (hb : xg p < n₀) (hXA : XA p) (J Jx : List Bx → World → Prop)
    (hY : ∀ pre x W, J pre W → pre.length < p.xl → YieldAt F (n - 1) Try.prog l (backEnc x) W fun e W' =>
      (e = .returned (.bool true) ∧ J (pre ++ [x]) W' ∧ Kpx n₀ Bs W W') ∨ (e = .returned (.bool false) ∧ Jx (pre ++ [x]) W'))
    (W : World) (hBs : W.cell? ⟨Bs, 0, none⟩ = some (.slice p.xa p.xl p.xc)) (hx : ExtsAt W p) (h0 : J [] W) :
    CallsIn F n Try.prog 48 #[.func (.yield l) #[] #[], .pointer (some ⟨Bs, 0, none⟩)] W fun e W' => (∃ v, e = .returned v) ∧
      ((∃ ys, ys = upto' (backAt p) p.xl ∧ J ys W') ∨ (∃ pre, (∃ k, k ≤ p.xl ∧ pre = upto' (backAt p) k) ∧ Jx pre W')) := by
  have hcap := hx.cap
  have hfit := hx.fit
  refine callsIn_of_wp Try.func48 rfl h48 ?_ hro
  simp only [Try.ntmps48, List.size_toArray, List.length_cons, List.length_nil, Nat.reduceAdd, Nat.reduceSub, Array.replicate_succ, Array.replicate_zero, List.push_toArray, List.append_toArray, List.nil_append, List.cons_append]
  gi_wp2
  gi_loopw [3] (fun i wr => ∃ r : Nat, r ≤ p.xl ∧ i = .int .i64 ((r : Int) - 1) ∧ J (upto' (backAt p) (p.xl - r)) wr ∧ Kpx n₀ Bs W wr)
    (fun i _ => (intOf i + 1).toNat)
  case atStart => exact ⟨p.xl, Nat.le_refl _, rfl, by rw [Nat.sub_self]; exact h0, Kpx.refl _ _ _⟩
  case round =>
    obtain ⟨r, hr, rfl, hJs, hnx⟩ := hrel
    have hBs' := (World.cell?_of_block (w := W) (a := ⟨Bs, 0, none⟩) hnx.2).trans hBs
    cases r with
    | zero =>
      gi_wp2
      go_end0
      exact ⟨⟨_, rfl⟩, .inl ⟨_, by rw [Nat.sub_zero], hJs⟩⟩
    | succ j =>
      have ej : ((j + 1 : Nat) : Int) - 1 = (j : Int) := by omega
      rw [ej]
      have hxr : ExtsAt wr p := hx.stays hnx.1.size (hnx.1.block _ hb)
      have hlen := hx.len
      obtain ⟨e, he⟩ : ∃ e, p.exts[j]? = some e := ⟨_, List.getElem?_eq_getElem (by omega)⟩
      obtain ⟨c1, c2⟩ := hxr.cells j e he
      have hoe : okx (j, e) := hok e (List.mem_of_getElem? he)
      have hbe : backAt p (p.xl - (j + 1)) = ⟨(j, e), hoe⟩ := by
        unfold backAt
        have e1 : p.xl - 1 - (p.xl - (j + 1)) = j := by omega
        simp only [e1, he, Option.getD_some]
        rw [dif_pos hoe]
      obtain ⟨fn, tmps, assign, body, hy, hR⟩ := hY _ ⟨(j, e), hoe⟩ wr hJs (by rw [upto'_length]; omega)
      dsimp only [backEnc] at hy hR
      have i1 : ∀ W, (Instr.indexAt 25 (.slice p.xa p.xl p.xc) (.int .i64 (j : Int))).run Try.prog W = .ok (.pointer (some ⟨xg p, xo p + j * 2, none⟩)) W := fun W => by
        have := run_idx25 p hXA j W (by omega) (by omega)
        simpa using this
      clear he hlen
      gi_wp2
      refine hR.mono ?_
      rintro e' W3 (⟨rfl, hJ3, hk3⟩ | ⟨rfl, hJx3⟩)
      · gi_wp2
        go_roundw
        case rel =>
          refine ⟨j, by omega, by rfl, ?_, hnx.trans hk3⟩
          have : p.xl - j = (p.xl - (j + 1)) + 1 := by omega
          rw [this, upto'_succ, hbe]
          exact hJ3
        case measure => simp [intOf]
      · gi_wp2
        refine bodyPost_ret (results_none rfl _ _ _) rfl ?_
        exact ⟨⟨_, rfl⟩, .inr ⟨_, ⟨p.xl - (j + 1) + 1, by omega, by rw [upto'_succ, hbe]⟩, hJx3⟩⟩

/-- slices.Backward: the slice value is boxed; the function value captures the box. -/
theorem backward_in (F : Fence) (n : Nat) (h38 : F.fn 38) (hro : F.round = none) (a : Option Addr) (len cap : Nat) (w : World) :
    CallsIn F n Try.prog 38 #[.slice a len cap] w fun e w' => e = .returned (.func (.func 48) #[] #[.pointer (some ⟨w.heap.size, 0, none⟩)]) ∧ w' = w.alloc (.cells #[.slice a len cap] 25) := by
  refine callsIn_of_wp Try.func38 rfl h38 ?_ hro
  simp only [Try.ntmps38, List.size_toArray, List.length_cons, List.length_nil, Nat.reduceAdd, Nat.reduceSub, Array.replicate_succ, Array.replicate_zero, List.push_toArray, List.append_toArray, List.nil_append, List.cons_append]
  gi_wp2
  go_ret
  exact ⟨rfl, rfl⟩

set_option maxRecDepth 100000 in
set_option maxHeartbeats 1000000 in
theorem back0_in (F : Fence) (n : Nat) (h48 : F.fn 48) (hro : F.round = none) (l Bs : Nat) (a : Option Addr) (c : Nat) (J : List Bx → World → Prop) (W : World) (hBs : W.cell? ⟨Bs, 0, none⟩ = some (.slice a 0 c)) (h0 : J [] W) :
    CallsIn F n Try.prog 48 #[.func (.yield l) #[] #[], .pointer (some ⟨Bs, 0, none⟩)] W fun e W' => (∃ v, e = .returned v) ∧ J [] W' := by
  refine callsIn_of_wp Try.func48 rfl h48 ?_ hro
  simp only [Try.ntmps48, List.size_toArray, List.length_cons, List.length_nil, Nat.reduceAdd, Nat.reduceSub, Array.replicate_succ, Array.replicate_zero, List.push_toArray, List.append_toArray, List.nil_append, List.cons_append]
  gi_wp2
  gi_loopw [3] (fun i wr => i = .int .i64 (-1) ∧ J [] wr) (fun _ _ => 0)
  case atStart => exact ⟨rfl, h0⟩
  case round =>
    obtain ⟨rfl, hJs⟩ := hrel
    gi_wp2
    go_end0
    exact ⟨⟨_, rfl⟩, hJs⟩

theorem back_stops (F : Fence) (n : Nat) (h48 : F.fn 48) (hro : F.round = none) (hn : 1 ≤ n) (Bs n₀ : Nat) (p : Pk) (w : World) (hok : ∀ e ∈ p.exts, e.body.size ≤ 2046 ∧ 0 ≤ e.kind ∧ e.kind ≤ 255) (hb : p.exts ≠ [] → xg p < n₀) (hBs : Bs < w.heap.size)
    (hc : w.cell? ⟨Bs, 0, none⟩ = some (.slice p.xa p.xl p.xc)) (hx : ExtsAt w p) :
    SeqStopsK F n Try.prog 48 #[.pointer (some ⟨Bs, 0, none⟩)] backEnc (Kpx n₀ Bs) (fun ys => ys = upto' (backAt p) p.xl) (fun pre => ∃ k, k ≤ p.xl ∧ pre = upto' (backAt p) k) p.xl w := fun l J Jx W hW _ _ hY h0 => by
  have hc' := (hW.cell (p := ⟨Bs, 0, none⟩) hBs).trans hc
  by_cases he : p.exts = []
  · have h00 : p.xl = 0 := by rw [hx.len, he]; rfl
    rw [h00] at hc'
    exact (back0_in F n h48 hro l Bs p.xa p.xc J W hc' h0).mono fun e W' ⟨he', hj⟩ => ⟨he', .inl ⟨[], by rw [h00]; rfl, hj⟩⟩
  · have hxW : ExtsAt W p := hx.less hW.size (fun k hk => hW.block k hk)
    exact back1_in F n h48 hro hn l Bs n₀ p hok (hb he) (hx.at_ he).1 J Jx hY W hc' hxW h0

end Go.Proofs.Ytfdjpmglfjiamaa
