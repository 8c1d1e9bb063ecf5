/- A region that draws its order, in the round of a range over a function: a quiet head in a class of worlds, a tail in one forced order. A range over slices.Backward's function whose loop variable is boxed: the sixth law at that. -/
import Derived.Test.YtfdjpmglfjiamaaQuiet
import Derived.TacticsIn
import Derived.OrdersIn
import Derived.RangeFuncCalls
import Derived.Test.YtfdjpmglfjiamaaWq
import Derived.RangeFuncNested
import Derived.RangeFuncBound
namespace Go.Proofs.Ytfdjpmglfjiamaa
open Go Go.Sort Go.RowKit
set_option linter.unusedSimpArgs false
set_option linter.unusedVariables false
section
variable {P : Program} {ops : Array Oper} {md : Region.Mode} {C : World → Prop} {l0 n0 : Nat}

/-- No operation defers. -/
def noDefer (ops : Array Oper) : Bool := ops.all fun o => match o.op with | .defer _ => false | _ => true
theorem noDefer_spec {ops : Array Oper} (h : noDefer ops = true) {i : Nat} {o : Oper} (hi : ops[i]? = some o) : ∀ c, o.op ≠ .defer c := by
  intro c hc
  unfold noDefer at h
  rw [Array.all_eq_true] at h
  obtain ⟨hlt, he⟩ := Array.getElem?_eq_some_iff.1 hi
  have := h i hlt
  rw [he, hc] at this
  cases this

theorem wpInR_of_quiet {o : Oper} {a : Act} {K : Act → Prop} {K' : Act → World → Prop} {Q' : Exit → Act → World → Prop} {w : World} (hd : ∀ c, o.op ≠ .defer c) (hw : C w) (h : ∀ a w', C w' → K a → K' a w') (hh : o.quiet P a C K) :
    o.wpIn (Fence.wide.inRound l0) n0 P a w K' Q' := by
  obtain ⟨v, h1, h2⟩ := hh
  have h3 := h1 w hw
  unfold Oper.quietAt at h3
  refine ⟨fun _ _ => trivial, ?_⟩
  rw [Fence.inRound_round, Oper.semAt_some l0 a.eval o hd]
  generalize (execOp a.eval o).run P w = r at *
  cases r with
  | ok x w' =>
    cases x <;> simp only [Oper.quietUpon] at h3 <;> simp only [Oper.uponIn]
    case value u =>
      obtain ⟨e1, e2⟩ := h3
      rw [e1, e2]
      exact h _ _ hw h2
    case skip =>
      obtain ⟨e1, e2⟩ := h3
      rw [e1, ← e2]
      exact h _ _ hw h2
    case enter f args =>
      obtain ⟨e1, hc⟩ := h3
      rw [e1]
      refine ⟨?_, CallsIn.inRound l0 (callsIn_wide.2 (hc.mono ?_))⟩
      · intro hx
        simp [Fence.wide] at hx
      · rintro e w'' ⟨rfl, hw''⟩
        exact h _ _ hw'' h2
  | halt x w' => simp only [Oper.quietUpon] at h3

theorem wpOpInR_of_qOp {i : Nat} {a : Act} {K : Act → Prop} {K' : Act → World → Prop} {Q' : Exit → Act → World → Prop} {w : World} (hd : noDefer ops = true) (hC : C w) (h : ∀ a w', C w' → K a → K' a w') (hh : qOp P ops C i K a) :
    wpOpIn (Fence.wide.inRound l0) n0 P ops Q' i K' a w := by
  unfold qOp at hh
  unfold wpOpIn
  split
  · rename_i ho; simp only [ho] at hh; exact h _ _ hC hh
  · rename_i o ho
    simp only [ho] at hh
    split
    · rename_i hw; simp only [hw, if_true] at hh; exact wpInR_of_quiet (noDefer_spec hd ho) hC h hh
    · rename_i hw; simp only [hw] at hh; exact ⟨fun _ _ => trivial, h _ _ hC hh⟩

theorem wpAnyInR_of_headM {n g : Nat} {L : Array Bool → Act → Prop} {Q' : Exit → Act → World → Prop} (hd : noDefer ops = true) (hL : ∀ listed a w, C w → L listed a → wpAnyIn (Fence.wide.inRound l0) n0 P md ops Q' g listed a w) :
    ∀ (f : Nat) (listed : Array Bool) (a : Act) (w : World), C w → wpAnyM P md ops C n L f listed a → wpAnyIn (Fence.wide.inRound l0) n0 P md ops Q' (f + g) listed a w
  | 0, listed, a, w, hw, h => by rw [Nat.zero_add]; exact hL _ _ _ hw h
  | f + 1, listed, a, w, hw, h => by
    rw [show f + 1 + g = (f + g) + 1 by omega]
    exact ⟨fun h0 => absurd h0 h.1, fun i hi => wpOpInR_of_qOp hd hw (fun a' w' hw' h' => wpAnyInR_of_headM hd hL f _ a' w' hw' h') (h.2 i hi).2⟩

theorem wpAnyIn_of_seq {F : Fence} {Q' : Exit → Act → World → Prop} : ∀ (l : List Oper) (k : Nat) (listed : Array Bool) (a : Act) (w : World), (∀ j, l[j]? = ops[k + j]?) →
    Region.seqB md ops l.length k listed = true → wpListIn F n0 P ops Q' l a w → wpAnyIn F n0 P md ops Q' l.length listed a w
  | [], _, _, _, _, _, hB, h => ⟨by simpa [Region.seqB] using hB, h⟩
  | o :: l, k, listed, a, w, hl, hB, h => by
    have h0 : ops[k]? = some o := by simpa using (hl 0).symm
    simp only [List.length_cons, Region.seqB, Bool.and_eq_true, decide_eq_true_eq] at hB
    refine ⟨fun h1 => (by rw [hB.1] at h1; cases h1), fun i hi => ?_⟩
    rw [hB.1] at hi
    have hik : i = k := by simpa using hi
    subst hik
    have hw : wpOpIn F n0 P ops Q' i (wpListIn F n0 P ops Q' l) a w := by unfold wpOpIn; simp only [h0]; exact h
    exact wpOpIn_mono (fun a' w' h' => wpAnyIn_of_seq l (i + 1) _ a' w' (fun j => by have := hl (j + 1); simpa [Nat.add_assoc, Nat.add_comm 1 j] using this) hB.2 h') hw

theorem wpInR_region_gr_tail {id : Nat} {Q : Exit → Act → World → Prop} {a : Act} {w : World} {l : List Oper} (n : Nat) (hm : P.follows .mixedOrders = true) (hB : Region.lexTailB .any l.toArray n = true) (hd : noDefer l.toArray = true)
    (h : wpQuiet P l.toArray (fun w' => ∃ x, w' = gr w x) (fun a' => ∀ w', (∃ x, w' = gr w x) → wpListIn (Fence.wide.inRound l0) n0 P l.toArray Q (l.drop n) a' w') (l.take n) a) : (Code.region id l.toArray true).wpIn (Fence.wide.inRound l0) n0 P Q a w := by
  simp only [Region.lexTailB, Bool.and_eq_true, decide_eq_true_eq] at hB
  obtain ⟨⟨⟨⟨hsel, hn⟩, hs⟩, hc⟩, hlex⟩ := hB
  have hn' : n < l.length := by simpa using hn
  have htl : (l.take n).length = n := by simp; omega
  have hdl : (l.drop n).length = l.toArray.size - n := by simp
  have inv0 : HeadInv .any l.toArray n (Array.replicate l.toArray.size false) :=
    ⟨by simp, fun j oj _ hl => (by rw [getD_replicate_false] at hl; cases hl), fun t _ ht => getD_in (by simpa using ht) (getD_replicate_false _ _)⟩
  have H := wpAnyM_lex (md := .any) (g := l.toArray.size - n) hsel hs hc hn (l.take n) 0 _ a (fun j hj => by
    have hj' : j < n := by rw [htl] at hj; exact hj
    simp [hj']) (by simpa using htl) inv0 (by rw [htl]; exact hlex) h
  refine wpIn_region_any hm ?_
  have hC : (fun w' => ∃ x, w' = gr w x) { w with drawn := w.drawn + 1 } := ⟨_, drew_gr w⟩
  have := wpAnyInR_of_headM (Q' := Q) (g := l.toArray.size - n) (l0 := l0) (n0 := n0) hd (fun listed a' w' hw' hL => by
    have := wpAnyIn_of_seq (md := .any) (Q' := Q) (l.drop n) n listed a' w' (fun j => by simp [List.getElem?_drop]) (by rw [hdl]; exact hL.1) (hL.2 w' hw')
    rwa [hdl] at this) _ _ _ _ hC H
  rw [htl, show n + (l.toArray.size - n) = l.toArray.size by omega] at this
  exact this
end
end Go.Proofs.Ytfdjpmglfjiamaa
namespace Go.Proofs.Ytfdjpmglfjiamaa
open Go Go.Sort Go.RowKit Go.Shelf
set_option linter.unusedSimpArgs false
set_option linter.unusedVariables false

theorem rangeBack {n : Nat} {g : Operand} {assign body : Code} {Q : Exit → Act → World → Prop} {a : Act} {w : World} {Bs : Nat}
    (h1 : 1 ≤ n) (hg : a.eval g = .func (.func 48) #[] #[.pointer (some ⟨Bs, 0, none⟩)]) (n₀ : Nat) (hn₀ : n₀ ≤ w.heap.size) (hBs : Bs < w.heap.size)
    {S Sp : List Bx → Prop} {N : Nat} (hseq : SeqStopsK Fence.wide (n - 1) Try.prog 48 #[.pointer (some ⟨Bs, 0, none⟩)] backEnc (Kpx n₀ Bs) S Sp N w)
    (I : List Bx → World → Prop) (hI : OwnFrom w.heap.size I) (h0 : I [] w)
    (hassign : ∀ (l : Nat) (pre : List Bx) (x : Bx) (W : World) (K : Act → World → Prop), I pre W →
      (∀ Bb W', KeepsFrom w.heap.size W W' → Kpx n₀ Bs W W' → I pre W' → w.heap.size ≤ Bb → W'.heap[Bb]? = some (.cells #[.int .i64 x.1.2.kind, .string x.1.2.body] 59) →
        K { tmps := ((a.tmps.setIfInBounds 118 (.int .i64 (x.1.1 : Int))).setIfInBounds 119 (.agg #[.int .i64 x.1.2.kind, .string x.1.2.body])).setIfInBounds 11 (.pointer (some ⟨Bb, 0, none⟩)), defers := [] } W') →
      assign.wpIn (Fence.wide.inRound l) (n - 1 - 1) Try.prog (Exit.then K (fun _ _ _ => False)) { tmps := (a.tmps.setIfInBounds 118 (.int .i64 (x.1.1 : Int))).setIfInBounds 119 (.agg #[.int .i64 x.1.2.kind, .string x.1.2.body]), defers := [] } W)
    (hbody : ∀ (l : Nat) (pre : List Bx) (x : Bx) (W : World) (Bb : Nat), I pre W → w.heap.size ≤ Bb → W.heap[Bb]? = some (.cells #[.int .i64 x.1.2.kind, .string x.1.2.body] 59) → pre.length < N →
      body.wpIn (Fence.wide.inRound l) (n - 1 - 1) Try.prog (ownPostG w.heap.size (Kpx n₀ Bs) I (fun _ _ _ => False) (pre ++ [x]) W)
        { tmps := ((a.tmps.setIfInBounds 118 (.int .i64 (x.1.1 : Int))).setIfInBounds 119 (.agg #[.int .i64 x.1.2.kind, .string x.1.2.body])).setIfInBounds 11 (.pointer (some ⟨Bb, 0, none⟩)), defers := [] } W)
    (hdone : ∀ (D : Nat) (xs : List Bx) (W : World), w.heap.size ≤ D → S xs → I xs W → W.heap[D]? = some (.deferred (some [])) → Q .normal { a with defers := { target := .collected D, args := #[] } :: a.defers } W) :
    (Code.rangeFunc g #[118, 119] assign body).wpIn Fence.wide n Try.prog Q a w := by
  refine wpIn_rangeFunc_ownH (F := Fence.wide) rfl h1 hg trivial (enters_of Try.func48 (by kernel_rfl) rfl) hseq (fun h k => h.trans k) ?_ (Below.refl _ _) (fun _ => rfl) I (fun _ _ _ => False) hI
    (fun _ => fun _ _ _ _ h _ _ => h) h0
    (fun x a' W => ∃ Bb, w.heap.size ≤ Bb ∧ W.heap[Bb]? = some (.cells #[.int .i64 x.1.2.kind, .string x.1.2.body] 59) ∧
      a' = { tmps := ((a.tmps.setIfInBounds 118 (.int .i64 (x.1.1 : Int))).setIfInBounds 119 (.agg #[.int .i64 x.1.2.kind, .string x.1.2.body])).setIfInBounds 11 (.pointer (some ⟨Bb, 0, none⟩)), defers := [] })
    ?_ ?_ ?_ hdone ?_
  · intro W l o o' hl ho hc _
    refine ⟨?_, ?_⟩
    · exact (Below.refl n₀ W).grown (grownBy_putObj' W l o') (Nat.le_trans hn₀ (Nat.le_trans hl (Nat.le_of_lt (Array.getElem?_eq_some_iff.1 ho).1))) (fun k e => by cases e; omega)
    · exact (grownBy_putObj' W l o').block Bs (Nat.lt_of_lt_of_le hBs (Nat.le_trans hl (Nat.le_of_lt (Array.getElem?_eq_some_iff.1 ho).1))) (fun e => by cases e; omega)
  · intro x a' _ W W' row h hg hr
    obtain ⟨Bb, hB, hh, ha⟩ := h
    exact ⟨Bb, hB, by rw [grownBy_keeps_cells hg (fun r e => (hr r e).2) hh rfl]; exact hh, ha⟩
  · intro l pre x W K hi hK
    have e : (#[118, 119].zip (backEnc x)).foldl (fun (t : Array Value) (x : Tmp × Value) => match x with | (p, v) => t.setIfInBounds p v) a.tmps = (a.tmps.setIfInBounds 118 (.int .i64 (x.1.1 : Int))).setIfInBounds 119 (.agg #[.int .i64 x.1.2.kind, .string x.1.2.body]) := by
      simp [backEnc]
    rw [e]
    exact hassign l pre x W K hi fun Bb W' k1 k2 k3 k4 k5 => hK _ _ k1 k2 k3 ⟨Bb, k4, k5, rfl⟩
  · intro l pre x a' W hl _ hi ⟨Bb, hB, hh, ha⟩ hN
    subst ha
    exact hbody l pre x W Bb hi hB hh hN
  · intro D c pre W _ _ h
    exact h.elim

end Go.Proofs.Ytfdjpmglfjiamaa
