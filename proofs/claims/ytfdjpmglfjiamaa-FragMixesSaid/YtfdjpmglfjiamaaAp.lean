/- x &^ 7. A row of one packet; append to an owned row, in a region that draws. -/
import Derived.Lib.QuoteBits
import Derived.IntWalk
import Derived.Test.YtfdjpmglfjiamaaMb
import Derived.Maps.AppendAt
import Derived.Deep.RegionLaw
namespace Go.Proofs.Ytfdjpmglfjiamaa
open Go
set_option linter.unusedSimpArgs false
set_option linter.unusedVariables false
theorem and_hi8 (n : Nat) (h : n < 18446744073709551616) : n &&& 18446744073709551608 = n / 8 * 8 := by
  have e := Go.nat_midmask 64 3 n (by decide)
  rw [show (2 ^ 64 - 2 ^ 3 : Nat) = 18446744073709551608 by decide] at e
  rw [e]
  omega
theorem andNot_seven (x : Int) (h0 : -9223372036854775808 ≤ x) (h1 : x ≤ 9223372036854775807) : bits .andNot .i64 x 7 = x / 8 * 8 := by
  show IntKind.i64.wrap ((BitVec.ofInt 64 x &&& ~~~BitVec.ofInt 64 ((7 : Nat) : Int)).toNat : Int) = _
  have e7 : (~~~BitVec.ofInt 64 ((7 : Nat) : Int)).toNat = 18446744073709551608 := by decide
  rw [BitVec.toNat_and, e7]
  have hN : (BitVec.ofInt 64 x).toNat = (x % 18446744073709551616).toNat := by
    rw [BitVec.toNat_ofInt]; rfl
  rw [hN, and_hi8 _ (by omega), IntKind.wrap_i64]
  omega
end Go.Proofs.Ytfdjpmglfjiamaa
namespace Go.Proofs.Ytfdjpmglfjiamaa
open Go Go.Sort Go.RowKit
set_option linter.unusedSimpArgs false
set_option linter.unusedVariables false

set_option maxRecDepth 100000 in
theorem bslice32_ground (w : World) (u v : Bool) (x0 x1 x2 x3 x4 x5 x6 x7 x8 x9 x10 x11 x12 x13 x14 x15 y0 y1 y2 y3 y4 y5 y6 y7 y8 y9 y10 y11 y12 y13 y14 y15 a1 a2 a3 a4 a5 a6 : Int) (b1 b2 b3 : Bool) (s1 s2 : ByteArray) (xa : Option Addr) (xl xc : Nat) :
    (Instr.buildSlice 32 1 #[(0, .agg #[.bool u, .int .u8 x0, .int .u8 x1, .int .u8 x2, .int .u8 x3, .int .u8 x4, .int .u8 x5, .int .u8 x6, .int .u8 x7, .int .u8 x8, .int .u8 x9, .int .u8 x10, .int .u8 x11, .int .u8 x12, .int .u8 x13, .int .u8 x14, .int .u8 x15, .bool v, .int .u8 y0, .int .u8 y1, .int .u8 y2, .int .u8 y3, .int .u8 y4, .int .u8 y5, .int .u8 y6, .int .u8 y7, .int .u8 y8, .int .u8 y9, .int .u8 y10, .int .u8 y11, .int .u8 y12, .int .u8 y13, .int .u8 y14, .int .u8 y15, .int .i64 a1, .int .i64 a2, .int .i64 a3, .int .i64 a4, .int .i64 a5, .bool b1, .bool b2, .string s1, .int .i64 a6, .slice xa xl xc, .bool b3, .string s2])]).run Try.prog w = .ok (.slice (some ⟨w.heap.size, 0, none⟩) 1 1) (w.alloc (.cells #[.bool u, .int .u8 x0, .int .u8 x1, .int .u8 x2, .int .u8 x3, .int .u8 x4, .int .u8 x5, .int .u8 x6, .int .u8 x7, .int .u8 x8, .int .u8 x9, .int .u8 x10, .int .u8 x11, .int .u8 x12, .int .u8 x13, .int .u8 x14, .int .u8 x15, .bool v, .int .u8 y0, .int .u8 y1, .int .u8 y2, .int .u8 y3, .int .u8 y4, .int .u8 y5, .int .u8 y6, .int .u8 y7, .int .u8 y8, .int .u8 y9, .int .u8 y10, .int .u8 y11, .int .u8 y12, .int .u8 y13, .int .u8 y14, .int .u8 y15, .int .i64 a1, .int .i64 a2, .int .i64 a3, .int .i64 a4, .int .i64 a5, .bool b1, .bool b2, .string s1, .int .i64 a6, .slice xa xl xc, .bool b3, .string s2] 27)) := by kernel_rfl

theorem bslice32 (w : World) (p : Pk) : (Instr.buildSlice 32 1 #[(0, .agg (pkc p))]).run Try.prog w = .ok (.slice (some ⟨w.heap.size, 0, none⟩) 1 1) (w.alloc (.cells (pkc p) 27)) := by
  obtain ⟨⟨u, va⟩, ⟨v, vb⟩, a1, a2, a3, a4, a5, b1, b2, s1, a6, xa, xl, xc, b3, s2, ex⟩ := p
  obtain ⟨x0, x1, x2, x3, x4, x5, x6, x7, x8, x9, x10, x11, x12, x13, x14, x15, ea⟩ := list16 (l := va.toList) (by simp)
  obtain ⟨y0, y1, y2, y3, y4, y5, y6, y7, y8, y9, y10, y11, y12, y13, y14, y15, eb⟩ := list16 (l := vb.toList) (by simp)
  have h := bslice32_ground w u v x0 x1 x2 x3 x4 x5 x6 x7 x8 x9 x10 x11 x12 x13 x14 x15 y0 y1 y2 y3 y4 y5 y6 y7 y8 y9 y10 y11 y12 y13 y14 y15 a1 a2 a3 a4 a5 a6 b1 b2 b3 s1 s2 xa xl xc
  simp only [pkc, pkl, pkt, adl, ea, eb, List.map_cons, List.map_nil, List.cons_append, List.nil_append]
  exact h

def xbslice32 (parts : Array (Nat × Value)) : Sem Next := do pure (.value (← Instr.buildSlice 32 1 parts))
@[go_sem ↓] theorem execOp_bslice32 (ρ : Operand → Value) (dst : Option Tmp) (a : Operand) (ty : TypeId) (pos : String) (after : Array Edge) (guard : Option (Nat × Bool)) :
    execOp ρ { dst, op := .buildSlice 32 1 #[(0, a)], type := ty, pos, after, guard } = xbslice32 #[(0, ρ a)] := by
  simp [execOp, xbslice32]
@[go_sem] theorem run_xbslice32 (w : World) (p : Pk) : (xbslice32 #[(0, .agg (pkc p))]).run Try.prog w = .ok (.value (.slice (some ⟨w.heap.size, 0, none⟩) 1 1)) (w.alloc (.cells (pkc p) 27)) := by
  simp only [xbslice32, Sem.run_bind, bslice32, Result.andThen_ok, Sem.run_pure]

theorem info27 : (Try.prog.info? 27).map (fun i => (i.zero, i.size, i.bytes)) = some (some (.agg (pkc zpk)), 46, 160) := by kernel_rfl

/-- append to an owned row, as one step of a region that draws. -/
theorem step_append_own {P : Program} {ops : Array Oper} {o : Oper} {a : Act} {w : World} {K : Act → World → Prop} {Q : Exit → Act → World → Prop} {E : Prop}
    (hgd : o.guard = none) (s x : Operand) (t : TypeId) (ho : o.op = .call { callee := .builtin .append, args := #[s, x], argTypes := #[t, t] })
    (base : Nat) (e : TypeId) (i : TypeInfo) (z : Value) (size bytes : Nat) (ht : P.underlying t = some (.slice e)) (hi : P.info? e = some i) (hz : i.zero = some z)
    (hsize : i.size = size) (hby : i.bytes = bytes) (hzs : z.cells.size = size) (hsz : 0 < size)
    (v : Value) (n : Nat) (xs : List Value) (hs : a.eval s = v) (hown : w.ownsRow base e size v n xs)
    (ad : Addr) (m c : Nat) (news : List Value) (hx : a.eval x = .slice (some ad) m c) (hl : news.length = m * size) (hnews : ∀ j u, news[j]? = some u → w.cell? (ad.add j) = some u) (h1 : ∀ u ∈ news, u.oneCell' = true)
    (h63 : n + m ≤ maxLen) (hbytes : (n + m) * bytes ≤ 140737488355328) (hbase : base ≤ w.heap.size)
    (h : ∀ v' w', w'.ownsRow base e size v' (n + m) (xs ++ news) → w.grownBy w' v.ownBlock → (v'.ownBlock = v.ownBlock ∨ v'.ownBlock = some w.heap.size) → K (a.put o.dst v') w') :
    if Region.wanted o (yielded ops a.tmps) = true then Oper.wp P o a w K Q else E := by
  have hw : Region.wanted o (yielded ops a.tmps) = true := by simp [Region.wanted, hgd]
  rw [if_pos hw]
  obtain ⟨v', w', hr, h2, h3, h4, h5⟩ := run_append_own_at (P := P) w base t o.type e i z size bytes ht hi hz hsize hby hzs hsz v n xs hown ad m c news hl hnews h1 h63 hbytes hbase
  unfold Oper.wp execOp
  simp only [ho, resolve, invoke, builtin, Sem.run_bind, Sem.run_pure, Result.andThen_ok, List.map_toArray, List.map_cons, List.map_nil, hs, hx, hr]
  exact h v' w' h2 h3 h5
end Go.Proofs.Ytfdjpmglfjiamaa

