/- Walk: aditref13.Same at two packets that are the same. -/
import Derived.Test.YtfdjpmglfjiamaaWa
import Derived.Deep.LoopGhost
import Derived.Lib.Hide
namespace Go.Proofs.Ytfdjpmglfjiamaa
open Go Go.Sort Go.RowKit
set_option linter.unusedSimpArgs false
set_option linter.unusedVariables false

set_option maxRecDepth 100000 in
set_option maxHeartbeats 2000000 in
theorem same_any (p : Pk) (a : Option Addr) (c : Nat) (w : World) (hx : ExtsAt w p) (hy : ExtsAt w { p with xa := a, xc := c }) :
    Calls Try.prog 13 #[.agg (pkc p), .agg (pkc { p with xa := a, xc := c })] w fun e w' => e = .returned (.bool true) ∧ Gr w w' := by
  have hcap := hx.cap
  have hfit := hx.fit
  have HL : Hid (p.xl = p.exts.length) := hx.len
  obtain ⟨q, hq⟩ : ∃ q, q = { p with xa := a, xc := c } := ⟨_, rfl⟩
  have q1 : q.src = p.src := by rw [hq]
  have q2 : q.dst = p.dst := by rw [hq]
  have q3 : q.proto = p.proto := by rw [hq]
  have q4 : q.hop = p.hop := by rw [hq]
  have q5 : q.cls = p.cls := by rw [hq]
  have q6 : q.id = p.id := by rw [hq]
  have q7 : q.off = p.off := by rw [hq]
  have q8 : q.more = p.more := by rw [hq]
  have q9 : q.still = p.still := by rw [hq]
  have q10 : q.opts = p.opts := by rw [hq]
  have q11 : q.flow = p.flow := by rw [hq]
  have q12 : q.xl = p.xl := by rw [hq]
  have q13 : q.cut = p.cut := by rw [hq]
  have q14 : q.pay = p.pay := by rw [hq]
  have QE : Hid (q.exts = p.exts) := by show q.exts = p.exts; rw [hq]
  rw [← hq] at hy ⊢
  clear hq
  have hcq := hy.cap
  have hfq := hy.fit
  go_enter Try.func13, Try.ntmps13
  go_wp2
  go_loopw [5] (fun i wr => ∃ k : Nat, k ≤ p.xl ∧ i = .int .i64 k ∧ ∃ x, wr = gr ((w.alloc (.cells (pkc p) 27)).alloc (.cells (pkc q) 27)) x)
    (fun i _ => p.xl - (intOf i).toNat)
  case atStart => exact ⟨0, Nat.zero_le _, rfl, Gr.refl _⟩
  case round =>
    obtain ⟨k, hk, rfl, y, rfl⟩ := hrel
    by_cases hlt : k < p.xl
    · have hne : p.exts ≠ [] := fun h => by have := HL.out; rw [h] at this; simp at this; omega
      have hne2 : q.exts ≠ [] := by rw [QE.out]; exact hne
      obtain ⟨hXA, hxg⟩ := hx.at_ hne
      obtain ⟨hXA2, hxg2⟩ := hy.at_ hne2
      obtain ⟨e, he⟩ : ∃ e, p.exts[k]? = some e := ⟨_, List.getElem?_eq_getElem (by have := HL.out; omega)⟩
      have hG : ∀ x, Gr w (gr ((w.alloc (Obj.cells (pkc p) 27)).alloc (Obj.cells (pkc q) 27)) x) := fun x => (((Gr.refl w).alloc _).alloc _).more x
      have c1 := fun x => ((gr_less hx (hG x)).cells k e he).1
      have c2 := fun x => ((gr_less hx (hG x)).cells k e he).2
      have d1 := fun x => ((gr_less hy (hG x)).cells k e (by rw [QE.out]; exact he)).1
      have d2 := fun x => ((gr_less hy (hG x)).cells k e (by rw [QE.out]; exact he)).2
      clear hG
      have hltq : (k : Int) < (q.xl : Int) := by rw [q12]; omega
      have i1 : ∀ W, (Instr.indexAt 25 (.slice p.xa p.xl p.xc) (.int .i64 (k : Int))).run Try.prog W = .ok (.pointer (some ⟨xg p, xo p + k * 2, none⟩)) W := fun W => by
        have := run_idx25 p hXA k W (by omega) (by omega)
        simpa using this
      have i2 : ∀ W, (Instr.indexAt 25 (.slice q.xa p.xl q.xc) (.int .i64 (k : Int))).run Try.prog W = .ok (.pointer (some ⟨xg q, xo q + k * 2, none⟩)) W := fun W => by
        have := run_idx25 q hXA2 k W (by omega) hltq
        rw [q12] at this
        simpa using this
      clear he hne hne2 hltq
      go_wp2
      refine wp_region_gr (by kernel_rfl) (by kernel_rfl) ?_
      repeat (go_big_quiet_step (fail))
      refine wpQuiet_nil ?_
      rintro _ ⟨x, rfl⟩
      go_wp2
      exact ⟨⟨k + 1, hlt, by congr 1, _, rfl⟩, by simp [intOf]; omega⟩
    · have r1 : ∀ x, rowOf (gr ((w.alloc (Obj.cells (pkc p) 27)).alloc (Obj.cells (pkc q) 27)) x) w.heap.size = pkc p := fun x => by
        rw [rowOf_gr _ _ _ (by simp; omega), rowOf_alloc_past _ _ _ (by simp), rowOf_alloc_at _ _ _ _ rfl]
      have r2 : ∀ x, rowOf (gr ((w.alloc (Obj.cells (pkc p) 27)).alloc (Obj.cells (pkc q) 27)) x) (w.heap.size + 1) = pkc q := fun x => by
        rw [rowOf_gr _ _ _ (by simp), rowOf_alloc_at _ _ _ _ (by simp)]
      go_wp2
      go_ret
      exact ⟨rfl, ((((Gr.refl w).alloc _).alloc _).more _)⟩

end Go.Proofs.Ytfdjpmglfjiamaa
