/- Walks: frag.New; the law's small. Walk: the law's small, at 100. -/
import Derived.Test.YtfdjpmglfjiamaaBx
import Derived.Test.YtfdjpmglfjiamaaWa
import Derived.Deep.RegionWith
import Derived.Laws.BytesArg
import Derived.Deep.RegionLaw
import Derived.Lib.Hide
namespace Go.Proofs.Ytfdjpmglfjiamaa
open Go Go.Sort Go.RowKit
set_option linter.unusedSimpArgs false
set_option linter.unusedVariables false

theorem new_any (w : World) : Calls Try.prog 8 #[] w fun e w' => e = .returned (.pointer (some ⟨w.heap.size, 0, none⟩)) ∧ w' = w.alloc (.cells #[.int .i64 0, .int .i64 0, .map none] 63) := by
  go_enter Try.func8, Try.ntmps8
  go_wp2
  go_ret
  exact ⟨rfl, rfl⟩
theorem new_box (w : World) : BoxAt w.heap.size (w.alloc (.cells #[.int .i64 0, .int .i64 0, .map none] 63)) w.heap.size 0 0 [] :=
  ⟨Nat.le_refl _, .inl ⟨rfl, heap_alloc_new _ _⟩, by simp, by simp, by simp, by simp, by simp, by omega, by omega, by simp, by omega, by simp, by simp⟩

/-- small's packet. -/
def smallP (s : ByteArray) : Pk := ⟨v4 10 0 0 1, v4 10 0 0 2, 17, 64, 0, 1, 0, false, false, ByteArray.empty, 0, none, 0, 0, false, s, []⟩
set_option maxRecDepth 100000 in
theorem bsmall (w : World) (s : ByteArray) : (Instr.build 27 #[(0, .agg (adc (v4 10 0 0 1))), (1, .agg (adc (v4 10 0 0 2))), (2, .int .i64 17), (3, .int .i64 64), (5, .int .i64 1), (13, .string s)]).run Try.prog w = .ok (.agg (pkc (smallP s))) w := by kernel_rfl
def xbuild27 (parts : Array (Nat × Value)) : Sem Next := do pure (.value (← Instr.build 27 parts))
@[go_sem ↓] theorem execOp_build27s (ρ : Operand → Value) (dst : Option Tmp) (a b c d e f : Operand) (ty : TypeId) (pos : String) (after : Array Edge) (guard : Option (Nat × Bool)) :
    execOp ρ { dst, op := .build 27 #[(0, a), (1, b), (2, c), (3, d), (5, e), (13, f)], type := ty, pos, after, guard } = xbuild27 #[(0, ρ a), (1, ρ b), (2, ρ c), (3, ρ d), (5, ρ e), (13, ρ f)] := by
  simp [execOp, xbuild27]
@[go_sem] theorem run_xbuild27 (w : World) (s : ByteArray) : (xbuild27 #[(0, .agg (adc (v4 10 0 0 1))), (1, .agg (adc (v4 10 0 0 2))), (2, .int .i64 17), (3, .int .i64 64), (5, .int .i64 1), (13, .string s)]).run Try.prog w = .ok (.value (.agg (pkc (smallP s)))) w := by
  simp only [xbuild27, Sem.run_bind, bsmall, Result.andThen_ok, Sem.run_pure]
end Go.Proofs.Ytfdjpmglfjiamaa
namespace Go.Proofs.Ytfdjpmglfjiamaa
open Go Go.Sort Go.RowKit
set_option linter.unusedSimpArgs false
set_option linter.unusedVariables false

def zrow : Array Value := Array.replicate 100 (.int .u8 0)
def zstr : ByteArray := strOfNums (List.replicate 100 0)
theorem zstr_size : zstr.size = 100 := by decide +kernel
def xmk78 (n c : Value) : Sem Next := do pure (.value (← Instr.makeSlice 78 n c))
def xconv78 (v : Value) : Sem Next := do pure (.value (← convert 78 9 v))
@[go_sem ↓] theorem execOp_mk78 (ρ : Operand → Value) (dst : Option Tmp) (a b : Operand) (ty : TypeId) (pos : String) (after : Array Edge) (guard : Option (Nat × Bool)) :
    execOp ρ { dst, op := .makeSlice 78 a b, type := ty, pos, after, guard } = xmk78 (ρ a) (ρ b) := rfl
@[go_sem ↓] theorem execOp_conv78 (ρ : Operand → Value) (dst : Option Tmp) (a : Operand) (ty : TypeId) (pos : String) (after : Array Edge) (guard : Option (Nat × Bool)) :
    execOp ρ { dst, op := .convert 78 9 a, type := ty, pos, after, guard } = xconv78 (ρ a) := rfl
set_option maxRecDepth 100000 in
@[go_sem] theorem run_xmk78 (w : World) : (xmk78 (.int .i64 100) (.int .i64 100)).run Try.prog w = .ok (.value (.slice (some ⟨w.heap.size, 0, none⟩) 100 100)) (w.alloc (.cells zrow 5)) := by kernel_rfl
set_option maxRecDepth 100000 in
@[go_sem] theorem run_mk78 (w : World) : (Instr.makeSlice 78 (.int .i64 100) (.int .i64 100)).run Try.prog w = .ok (.slice (some ⟨w.heap.size, 0, none⟩) 100 100) (w.alloc (.cells zrow 5)) := by kernel_rfl
@[go_sem] theorem run_conv78 (w : World) (b : Nat) (h : rowOf w b = zrow) : (convert 78 9 (.slice (some ⟨b, 0, none⟩) 100 100)).run Try.prog w = .ok (.string zstr) w := by
  have hc : ∀ i, i < 100 → w.cell? ⟨b, 0 + i, none⟩ = some (.int .u8 ((List.replicate 100 (0 : Int)).getD i 0)) := by
    intro i hi
    unfold rowOf at h
    split at h
    · rename_i c t fr hh
      rw [Nat.zero_add, cell_of_row w b i c t fr hh, h]
      have e1 : (List.replicate 100 (0 : Int)).getD i 0 = 0 := by
        rw [List.getD_eq_getElem?_getD, List.getElem?_replicate, if_pos hi]; rfl
      rw [e1]
      unfold zrow
      rw [Array.getElem?_replicate, if_pos hi]
    · exact absurd (congrArg Array.size h) (by simp [zrow])
  have := run_convert_bytes_arg (P := Try.prog) w 78 5 Try.underlying78 Try.underlying5 b 0 100 100 (List.replicate 100 0) (by simp) hc 9 Try.underlying9
  exact this

@[go_sem] theorem run_xconv78 (w : World) (b : Nat) (h : rowOf w b = zrow) : (xconv78 (.slice (some ⟨b, 0, none⟩) 100 100)).run Try.prog w = .ok (.value (.string zstr)) w := by
  simp only [xconv78, Sem.run_bind, run_conv78 w b h, Result.andThen_ok, Sem.run_pure]
def xb (s : ByteArray) : Sem Value := Instr.build 27 #[(0, .agg (adc (v4 10 0 0 1))), (1, .agg (adc (v4 10 0 0 2))), (2, .int .i64 17), (3, .int .i64 64), (5, .int .i64 1), (13, .string s)]
@[go_sem high] theorem xb_fold (s : ByteArray) : Instr.build 27 #[(0, .agg (adc (v4 10 0 0 1))), (1, .agg (adc (v4 10 0 0 2))), (2, .int .i64 17), (3, .int .i64 64), (5, .int .i64 1), (13, .string s)] = xb s := rfl
@[go_sem] theorem run_xb (s : ByteArray) (w : World) : (xb s).run Try.prog w = .ok (.agg (pkc (smallP s))) w := bsmall w s

theorem below_setRow' {B : Nat} {a w : World} (h : Below B a w) {g : Nat} (hg : B ≤ g) (cs : Array Value) : Below B a (w.setRow g cs) :=
  ⟨h.os, h.tape, h.output, by have := h.size; simpa [World.setRow] using this, fun k hk => by
    have : (w.setRow g cs).heap[k]? = w.heap[k]? := by simp [World.setRow, Array.getElem?_modify, show ¬ g = k by omega]
    rw [this]; exact h.block k hk⟩
attribute [local irreducible] Calls in
set_option maxRecDepth 100000 in
set_option maxHeartbeats 4000000 in
theorem small_any (w : World) : Calls Try.prog 17 #[.int .i64 100] w fun e w' => e = .returned (.agg (pkc (smallP zstr))) ∧ Gr w w' := by
  have H := Lib.hid (fun a b c d W => v4_any a b c d W)
  go_enter Try.func17, Try.ntmps17
  go_wp2
  have hb : (w.alloc (.cells (pkc zpk) 27)).heap[w.heap.size]? = some (.cells (pkc zpk) 27) := heap_alloc_new _ _
  have HG : Hid (Gr w (w.alloc (.cells (pkc zpk) 27))) := (Gr.refl w).alloc _
  have HSZ : Hid (w.heap.size ≤ w.heap.size) := Nat.le_refl _
  generalize w.alloc (.cells (pkc zpk) 27) = W0 at hb HG ⊢
  have r0 : rowOf W0 w.heap.size = pkc zpk := rowOf_heap hb
  have f0 : freeAt W0 w.heap.size = true := freeAt_heap hb
  have z0 : w.heap.size < W0.heap.size := (Array.getElem?_eq_some_iff.1 hb).1
  have HB := Lib.hid hb
  clear hb
  generalize hzz : w.heap.size = z at r0 f0 z0 HB HSZ ⊢
  have HG1 : Hid (Gr w (W0.setRow z (pkc (smallP zstr)))) := Gr.of_below (below_setRow' HG.out.below (by omega) _)
  have key1 : Hid (∀ W', Gr (W0.setRow z (pkc (smallP zstr))) W' → rowOf W' z = pkc (smallP zstr)) := fun W' hg => by
    have h1 : (W0.setRow z (pkc (smallP zstr))).heap[z]? = some (.cells (pkc (smallP zstr)) 27) := by
      have := HB.out
      simp [World.setRow, Array.getElem?_modify, this]
    exact rowOf_heap ((hg.below.block z (Array.getElem?_eq_some_iff.1 h1).1).trans h1)
  have fin : Hid (∀ W', Gr W0 W' → Gr w (W'.setRow z (pkc (smallP zstr))) ∧ rowOf (W'.setRow z (pkc (smallP zstr))) z = pkc (smallP zstr)) := fun W' hg => by
    have h0 := (hg.below.block z z0).trans HB.out
    refine ⟨Gr.of_below (below_setRow' (HG.out.trans hg).below (by omega) _), rowOf_heap (c := pkc (smallP zstr)) (t := 27) (fr := (0, 0)) ?_⟩
    simp [World.setRow, Array.getElem?_modify, h0]
  clear hzz
  have key : Hid (∀ W', Gr W0 W' → rowOf W' z = pkc zpk ∧ freeAt W' z = true) := fun W' hg => by
    have := (hg.below.block z z0).trans HB.out
    exact ⟨rowOf_heap this, freeAt_heap this⟩
  have g1 : Gr W0 W0.drew := (Gr.refl W0).drew
  have r1 : ∀ y o, rowOf ((gr W0.drew y).alloc o) z = pkc zpk := fun y o => (key.out _ ((g1.more y).alloc o)).1
  have r2 : ∀ y o x, rowOf (gr ((gr W0.drew y).alloc o) x) z = pkc zpk := fun y o x => (key.out _ (((g1.more y).alloc o).more x)).1
  have r3 : ∀ o, rowOf (W0.drew.alloc o) z = pkc zpk := fun o => (key.out _ (g1.alloc o)).1
  have r4 : ∀ o x, rowOf (gr (W0.drew.alloc o) x) z = pkc zpk := fun o x => (key.out _ ((g1.alloc o).more x)).1
  have f1 : ∀ y o, freeAt ((gr W0.drew y).alloc o) z = true := fun y o => (key.out _ ((g1.more y).alloc o)).2
  have f2 : ∀ y o x, freeAt (gr ((gr W0.drew y).alloc o) x) z = true := fun y o x => (key.out _ (((g1.more y).alloc o).more x)).2
  have f3 : ∀ o, freeAt (W0.drew.alloc o) z = true := fun o => (key.out _ (g1.alloc o)).2
  have f4 : ∀ o x, freeAt (gr (W0.drew.alloc o) x) z = true := fun o x => (key.out _ ((g1.alloc o).more x)).2
  have g0 := Gr.refl W0
  have r5 : ∀ o x, rowOf (gr (W0.alloc o).drew x) z = pkc zpk := fun o x => (key.out _ (((g0.alloc o).drew).more x)).1
  have f5 : ∀ o x, freeAt (gr (W0.alloc o).drew x) z = true := fun o x => (key.out _ (((g0.alloc o).drew).more x)).2
  have r6 : ∀ o, rowOf (W0.alloc o).drew z = pkc zpk := fun o => (key.out _ ((g0.alloc o).drew)).1
  have f6 : ∀ o, freeAt (W0.alloc o).drew z = true := fun o => (key.out _ ((g0.alloc o).drew)).2
  have r7 : ∀ o y x, rowOf (gr ((gr W0 y).alloc o).drew x) z = pkc zpk := fun o y x => (key.out _ ((((g0.more y).alloc o).drew).more x)).1
  have f7 : ∀ o y x, freeAt (gr ((gr W0 y).alloc o).drew x) z = true := fun o y x => (key.out _ ((((g0.more y).alloc o).drew).more x)).2
  clear g1 g0
  go_region_law (go_simp; go_at_call 33; refine (H.out _ _ _ _ _).mono ?_; rintro e w' ⟨rfl, y, rfl⟩)
  all_goals go_wp2
  all_goals first
    | (refine bodyPost_ret (run_results_cell 46 Try.results17 _ _ z _ rfl isAgg27 size27 (by omega) (by rw [sz_pkc]; trivial) (key1.out _ ?_)) rfl ⟨rfl, HG1.out.trans ?_⟩ <;> ((repeat (first | exact Gr.refl _ | refine Gr.alloc ?_ _ | refine Gr.more ?_ _ | refine Gr.drew ?_)); done))
    | (refine bodyPost_ret (run_results_cell 46 Try.results17 _ _ z _ rfl isAgg27 size27 (by omega) (by rw [sz_pkc]; trivial) (fin.out _ ?_).2) rfl ⟨rfl, (fin.out _ ?_).1⟩ <;> ((repeat (first | exact Gr.refl _ | refine Gr.alloc ?_ _ | refine Gr.more ?_ _ | refine Gr.drew ?_)); done))
end Go.Proofs.Ytfdjpmglfjiamaa
