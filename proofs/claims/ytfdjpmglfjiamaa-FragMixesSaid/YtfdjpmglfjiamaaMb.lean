/- A key built. -/
import Derived.Test.YtfdjpmglfjiamaaMk
namespace Go.Proofs.Ytfdjpmglfjiamaa
open Go Go.Sort Go.RowKit
set_option linter.unusedSimpArgs false
set_option linter.unusedVariables false

theorem list16 {l : List Int} (h : l.length = 16) : ∃ b0 b1 b2 b3 b4 b5 b6 b7 b8 b9 b10 b11 b12 b13 b14 b15 : Int, l = [b0, b1, b2, b3, b4, b5, b6, b7, b8, b9, b10, b11, b12, b13, b14, b15] := by
  match l, h with
  | [b0, b1, b2, b3, b4, b5, b6, b7, b8, b9, b10, b11, b12, b13, b14, b15], _ => exact ⟨b0, b1, b2, b3, b4, b5, b6, b7, b8, b9, b10, b11, b12, b13, b14, b15, rfl⟩

set_option maxRecDepth 100000 in
theorem build70_ground (w : World) (pe ep : Int) (u v : Bool) (x0 x1 x2 x3 x4 x5 x6 x7 x8 x9 x10 x11 x12 x13 x14 x15 y0 y1 y2 y3 y4 y5 y6 y7 y8 y9 y10 y11 y12 y13 y14 y15 : Int) (pr id : Int) :
    (Instr.build 70 #[(0, .agg #[.int .i64 pe, .int .i64 ep]), (1, .agg #[.bool u, .int .u8 x0, .int .u8 x1, .int .u8 x2, .int .u8 x3, .int .u8 x4, .int .u8 x5, .int .u8 x6, .int .u8 x7, .int .u8 x8, .int .u8 x9, .int .u8 x10, .int .u8 x11, .int .u8 x12, .int .u8 x13, .int .u8 x14, .int .u8 x15]), (2, .agg #[.bool v, .int .u8 y0, .int .u8 y1, .int .u8 y2, .int .u8 y3, .int .u8 y4, .int .u8 y5, .int .u8 y6, .int .u8 y7, .int .u8 y8, .int .u8 y9, .int .u8 y10, .int .u8 y11, .int .u8 y12, .int .u8 y13, .int .u8 y14, .int .u8 y15]), (3, .int .i64 pr), (4, .int .i64 id)]).run Try.prog w =
      .ok (.agg #[.int .i64 pe, .int .i64 ep, .bool u, .int .u8 x0, .int .u8 x1, .int .u8 x2, .int .u8 x3, .int .u8 x4, .int .u8 x5, .int .u8 x6, .int .u8 x7, .int .u8 x8, .int .u8 x9, .int .u8 x10, .int .u8 x11, .int .u8 x12, .int .u8 x13, .int .u8 x14, .int .u8 x15, .bool v, .int .u8 y0, .int .u8 y1, .int .u8 y2, .int .u8 y3, .int .u8 y4, .int .u8 y5, .int .u8 y6, .int .u8 y7, .int .u8 y8, .int .u8 y9, .int .u8 y10, .int .u8 y11, .int .u8 y12, .int .u8 y13, .int .u8 y14, .int .u8 y15, .int .i64 pr, .int .i64 id]) w := by kernel_rfl

theorem build70 (w : World) (pe ep : Int) (a b : Ad) (pr id : Int) :
    (Instr.build 70 #[(0, .agg #[.int .i64 pe, .int .i64 ep]), (1, .agg (adc a)), (2, .agg (adc b)), (3, .int .i64 pr), (4, .int .i64 id)]).run Try.prog w = .ok (.agg (keyc ⟨pe, ep, a, b, pr, id⟩)) w := by
  obtain ⟨u, va⟩ := a
  obtain ⟨v, vb⟩ := b
  obtain ⟨x0, x1, x2, x3, x4, x5, x6, x7, x8, x9, x10, x11, x12, x13, x14, x15, ea⟩ := list16 (l := va.toList) (by simp)
  obtain ⟨y0, y1, y2, y3, y4, y5, y6, y7, y8, y9, y10, y11, y12, y13, y14, y15, eb⟩ := list16 (l := vb.toList) (by simp)
  have h := build70_ground w pe ep u v x0 x1 x2 x3 x4 x5 x6 x7 x8 x9 x10 x11 x12 x13 x14 x15 y0 y1 y2 y3 y4 y5 y6 y7 y8 y9 y10 y11 y12 y13 y14 y15 pr id
  simp only [adc, adl, keyc, keyl, ea, eb, List.map_cons, List.map_nil, List.cons_append, List.nil_append]
  exact h

/-- A key's building, behind a name that the walk does not open. -/
def xbuild70 (parts : Array (Nat × Value)) : Sem Next := do pure (.value (← Instr.build 70 parts))
@[go_sem ↓] theorem execOp_build70 (ρ : Operand → Value) (dst : Option Tmp) (a b c d e : Operand) (ty : TypeId) (pos : String) (after : Array Edge) (guard : Option (Nat × Bool)) :
    execOp ρ { dst, op := .build 70 #[(0, a), (1, b), (2, c), (3, d), (4, e)], type := ty, pos, after, guard } = xbuild70 #[(0, ρ a), (1, ρ b), (2, ρ c), (3, ρ d), (4, ρ e)] := by
  simp [execOp, xbuild70]
@[go_sem] theorem run_xbuild70 (w : World) (pe ep : Int) (a b : Ad) (pr id : Int) :
    (xbuild70 #[(0, .agg #[.int .i64 pe, .int .i64 ep]), (1, .agg (adc a)), (2, .agg (adc b)), (3, .int .i64 pr), (4, .int .i64 id)]).run Try.prog w = .ok (.value (.agg (keyc ⟨pe, ep, a, b, pr, id⟩))) w := by
  simp only [xbuild70, Sem.run_bind, build70, Result.andThen_ok, Sem.run_pure]
@[go_sem] theorem run_eq61 (m : Option Nat) (w : World) : (binOp .eql 61 (.map m) (.map none)).run Try.prog w = .ok (.bool m.isNone) w := by cases m <;> kernel_rfl
@[go_sem ↓] theorem execOp_makeMap61 (ρ : Operand → Value) (dst : Option Tmp) (ty : TypeId) (pos : String) (after : Array Edge) (guard : Option (Nat × Bool)) (w : World) :
    (execOp ρ { dst, op := .makeMap 61 none, type := ty, pos, after, guard }).run Try.prog w = .ok (.value (.map (some w.heap.size))) (w.alloc (.map #[] 0)) := by kernel_rfl
end Go.Proofs.Ytfdjpmglfjiamaa

