/- Pieces of the walk of the law FragMixes: its arguments, the code of its round. -/
import Derived.Test.YtfdjpmglfjiamaaMg
import Derived.Test.YtfdjpmglfjiamaaAw
import Derived.Test.YtfdjpmglfjiamaaWm
import Derived.Deep.DeepCutAuto
namespace Go.Proofs.Ytfdjpmglfjiamaa
open Go Go.Sort Go.RowKit
set_option linter.unusedSimpArgs false
set_option linter.unusedVariables false
set_option linter.constructorNameAsVariable false

/-- The arguments in their boxes. -/
structure Args3 (W : World) (z : Nat) (p q : Pk) (c : Cutx) : Prop where
  b3 : W.heap[z]? = some (.cells (pkc p) 27)
  b4 : W.heap[z + 1]? = some (.cells (pkc q) 27)
  b5 : W.heap[z + 1 + 1]? = some (.cells (cutc c) 30)
theorem Args3.below {W W' : World} {z B : Nat} {p q : Pk} {c : Cutx} (h : Args3 W z p q c) (hb : Below B W W') (hz : z + 1 + 1 < B) : Args3 W' z p q c :=
  ⟨(hb.block _ (by omega)).trans h.b3, (hb.block _ (by omega)).trans h.b4, (hb.block _ (by omega)).trans h.b5⟩
theorem Args3.gr {W W' : World} {z : Nat} {p q : Pk} {c : Cutx} (h : Args3 W z p q c) (hg : Gr W W') : Args3 W' z p q c :=
  h.below hg.below (Array.getElem?_eq_some_iff.1 h.b5).1
theorem Args3.facts {W : World} {z : Nat} {p q : Pk} {c : Cutx} (h : Args3 W z p q c) :
    rowOf W z = pkc p ∧ rowOf W (z + 1) = pkc q ∧ z + 1 + 1 < W.heap.size ∧ W.cell? ⟨z, 0, none⟩ = some (.bool p.src.v6) ∧ W.cell? ⟨z, 37, none⟩ = some (.int .i64 p.id) ∧ W.cell? ⟨z, 38, none⟩ = some (.int .i64 p.off) ∧ W.cell? ⟨z, 39, none⟩ = some (.bool p.more) ∧
    W.cell? ⟨z + 1, 37, none⟩ = some (.int .i64 q.id) ∧ W.cell? ⟨z + 1, 38, none⟩ = some (.int .i64 q.off) ∧ W.cell? ⟨z + 1, 39, none⟩ = some (.bool q.more) ∧
    W.cell? ⟨z + 1 + 1, 0, none⟩ = some (.int .i64 c.mtu) ∧ W.cell? ⟨z + 1 + 1, 2, none⟩ = some (.slice c.oa c.ol c.oc) ∧ W.cell? ⟨z + 1 + 1, 4, none⟩ = some (.bool c.other) := by
  refine ⟨rowOf_heap h.b3, rowOf_heap h.b4, (Array.getElem?_eq_some_iff.1 h.b5).1, ?_, ?_, ?_, ?_, ?_, ?_, ?_, ?_, ?_, ?_⟩
  · rw [cell_of_row _ _ _ _ _ _ h.b3]; exact pkc_0 p
  · rw [cell_of_row _ _ _ _ _ _ h.b3]; exact pkc_37 p
  · rw [cell_of_row _ _ _ _ _ _ h.b3]; exact pkc_38 p
  · rw [cell_of_row _ _ _ _ _ _ h.b3]; exact pkc_39 p
  · rw [cell_of_row _ _ _ _ _ _ h.b4]; exact pkc_37 q
  · rw [cell_of_row _ _ _ _ _ _ h.b4]; exact pkc_38 q
  · rw [cell_of_row _ _ _ _ _ _ h.b4]; exact pkc_39 q
  all_goals rw [cell_of_row _ _ _ _ _ _ h.b5]; rfl

theorem same_er {p q : Pk} {w : World} (h : er q = er p) (hq : ExtsAt w q) (hp : ExtsAt w p) : Calls Try.prog 13 #[.agg (pkc q), .agg (pkc p)] w fun e w' => e = .returned (.bool true) ∧ Gr w w' := by
  have e : p = { q with xa := p.xa, xc := p.xc } := by
    cases p; cases q
    simp only [er, Pk.mk.injEq] at h
    simp only [Pk.mk.injEq]
    simp [h]
  generalize p.xa = a at e
  generalize p.xc = c at e
  subst e
  exact same_any q a c w hq hp
theorem wrap_mid (x : Int) (h0 : -9223372036854775808 ≤ x) (h1 : x ≤ 9223372036854775807) : IntKind.i64.wrap x = x := by
  rw [IntKind.wrap_i64]; omega

def mixBad (p q : Pk) (ea eb : Int) (na nb : Nat) : Bool :=
  decide (ea ≠ 0) || decide (eb ≠ 0) || decide (64 < na) || decide (64 < nb) || decide (0 < p.off) || p.more || decide (0 < q.off) || q.more || decide (na = 1) || decide (nb = 1)

def codeRight : Code → Code
  | .seq _ b => b
  | c => c
def codeLeft : Code → Code
  | .seq a _ => a
  | c => c
def codeInner : Code → Code
  | .block _ a => a
  | .loop a => a
  | c => c

/-- The choice between the two packets in a round. -/
noncomputable def codeFeed : Code := codeRight (codeRight (codeRight (codeRight (codeRight (codeInner (codeLeft (codeRight (codeInner (codeInner (codeRight (codeLeft (codeRight (codeRight (codeRight (codeRight (codeRight (codeRight (codeRight (codeRight (codeRight (codeRight (codeRight (codeRight (codeRight (Try.f4.body.getD .skip)))))))))))))))))))))))))
theorem feed_imp {K1 : Act → World → Prop} {Q : Exit → Act → World → Prop} : ∀ (e : Exit) (a : Act) (w : World), Exit.inBlock 1 (Exit.then K1 fun _ _ _ => False) e a w → Exit.inBlock 1 (Exit.then K1 Q) e a w := by
  intro e a w h
  cases e
  case normal => exact h
  case exit i =>
    by_cases hi : i = 1
    · simp only [Exit.inBlock, if_pos hi, Exit.then] at h ⊢
      exact h
    · simp only [Exit.inBlock, if_neg hi, Exit.then] at h
  all_goals exact False.elim h
end Go.Proofs.Ytfdjpmglfjiamaa
