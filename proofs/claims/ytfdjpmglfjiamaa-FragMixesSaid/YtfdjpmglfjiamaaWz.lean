/- Walks: ip.Size, frag.bare. -/
import Derived.Test.YtfdjpmglfjiamaaWr
import Derived.Test.YtfdjpmglfjiamaaWh
import Derived.Test.YtfdjpmglfjiamaaWc
import Derived.Test.YtfdjpmglfjiamaaWl
namespace Go.Proofs.Ytfdjpmglfjiamaa
open Go Go.Sort Go.RowKit
set_option linter.unusedSimpArgs false
set_option linter.unusedVariables false

attribute [local irreducible] Calls in
set_option maxRecDepth 100000 in
set_option maxHeartbeats 1000000 in
theorem size_any (p : Pk) (w : World) (hx : ExtsAt w p) (ho : p.opts.size ≤ 140737488351232) (hp : p.pay.size ≤ 140737488351232) :
    Calls Try.prog 9 #[.agg (pkc p)] w fun e w' => e = .returned (.int .i64 (sizeN p)) ∧ Gr w w' := by
  have hX0 : ExtsAt (w.alloc (.cells (pkc p) 27)) p := gr_less hx ((Gr.refl w).alloc _)
  have hX : ∀ x, ExtsAt (gr (w.alloc (.cells (pkc p) 27)) x) p := fun x => gr_less hx (((Gr.refl w).alloc _).more x)
  have hrow : ∀ x, rowOf (gr (w.alloc (.cells (pkc p) 27)) x) w.heap.size = pkc p := fun x => by
    rw [rowOf_gr _ _ _ (by simp), rowOf_alloc_at _ _ _ _ rfl]
  cases hr : right p
  · go_enter Try.func9, Try.ntmps9
    go_wp2_with (go_at_call 10; refine (right_any p _ hX0 (by omega)).mono ?_; rintro e w' ⟨rfl, x, rfl⟩)
    go_ret
    exact ⟨by simp [sizeN, hr], ((Gr.refl w).alloc _).more _⟩
  · have hh := headN_le p hr hx.len
    go_enter Try.func9, Try.ntmps9
    go_wp2_with (go_at_call 10; refine (right_any p _ hX0 (by omega)).mono ?_; rintro e w' ⟨rfl, x, rfl⟩)
    have hb : (gr (w.alloc (Obj.cells (pkc p) 27)) x).heap[w.heap.size]? = some (.cells (pkc p) 27) := by
      rw [heap_gr _ _ (by simp)]; exact heap_alloc_new _ _
    have hG : Hid (Gr w (gr (w.alloc (Obj.cells (pkc p) 27)) x)) := ((Gr.refl w).alloc _).more _
    have hX1 := hX x
    clear hX hX0 hrow
    generalize gr (w.alloc (Obj.cells (pkc p) 27)) x = W at hb hG hX1 ⊢
    obtain ⟨b1, b2, b3, b4⟩ := boxed hb
    have hXy : ∀ y, ExtsAt (gr W y) p := fun y => gr_less hX1 ((Gr.refl W).more y)
    clear hb hX1
    refine wp_region_gr (by kernel_rfl) (by kernel_rfl) ?_
    repeat (go_big_quiet_step ((go_at_call 21; exact quiet_gr ⟨_, rfl⟩ (head_any _ _ hr (hXy _)))))
    refine wpQuiet_nil ?_
    rintro _ ⟨y, rfl⟩
    go_wp2
    go_ret
    exact ⟨by simp [sizeN, hr], hG.out.more y⟩

section two
variable (w : World) (P Q : Pk) (x : Gx)
theorem two_row1 : rowOf (gr ((w.alloc (.cells (pkc P) 27)).alloc (.cells (pkc Q) 27)) x) w.heap.size = pkc P := by
  rw [rowOf_gr _ _ _ (by simp; omega), rowOf_alloc_past _ _ _ (by simp), rowOf_alloc_at _ _ _ _ rfl]
theorem two_row2 : rowOf (gr ((w.alloc (.cells (pkc P) 27)).alloc (.cells (pkc Q) 27)) x) (w.heap.size + 1) = pkc Q := by
  rw [rowOf_gr _ _ _ (by simp), rowOf_alloc_at _ _ _ _ (by simp)]
theorem two_free2 : freeAt (gr ((w.alloc (.cells (pkc P) 27)).alloc (.cells (pkc Q) 27)) x) (w.heap.size + 1) = true := by
  rw [freeAt_gr _ _ _ (by simp), freeAt_alloc_at _ _ _ _ (by simp)]
theorem two_set2 (R : Pk) : (gr ((w.alloc (.cells (pkc P) 27)).alloc (.cells (pkc Q) 27)) x).setRow (w.heap.size + 1) (pkc R) = gr ((w.alloc (.cells (pkc P) 27)).alloc (.cells (pkc R) 27)) x := by
  rw [setRow_gr _ _ _ _ (by simp), setRow_alloc_at _ _ _ _ _ (by simp)]
end two
theorem gr_heap_new {W W' : World} (x : Gx) (hs : W'.heap.size = W.heap.size) {k : Nat} (hk : W.heap.size ≤ k) : (gr W' x).heap[k]? = (gr W x).heap[k]? := by
  unfold gr grow
  rw [Array.getElem?_append_right (by simpa [hs] using hk), Array.getElem?_append_right (by simpa using hk)]
  simp [hs]
theorem ExtsAt.moved {w w' : World} {p : Pk} (h : ExtsAt w p) (hs : w.heap.size ≤ w'.heap.size) (hk : p.exts = [] ∨ w'.heap[xg p]? = w.heap[xg p]?) : ExtsAt w' p := by
  rcases hk with he | hk
  · exact ⟨h.len, h.cap, h.fit, h.nil, h.one, fun hn => absurd he hn, fun i x hi => by rw [he] at hi; simp at hi, h.small⟩
  · exact h.stays hs hk
/-- frag.bare, its extension headers aside. -/
def bareP (p : Pk) : Pk := { p with off := 0, more := false, cut := false, id := if p.src.v6 then 0 else p.id }

theorem ExtsAt.same {w : World} {p q : Pk} (h : ExtsAt w p) (h1 : q.xa = p.xa) (h2 : q.xl = p.xl) (h3 : q.xc = p.xc) (h4 : q.exts = p.exts) : ExtsAt w q := by
  have g1 : xg q = xg p := by simp [xg, h1]
  have g2 : xo q = xo p := by simp [xo, h1]
  refine ⟨by rw [h2, h4]; exact h.len, by rw [h2, h3]; exact h.cap, by rw [h3]; exact h.fit, by rw [h1, h3]; exact h.nil, ?_, ?_, ?_, by rw [h4]; exact h.small⟩
  · intro hn hc; unfold XA; rw [h1, g1, g2]; exact h.one (by rw [← h1]; exact hn) (by rw [← h3]; exact hc)
  · intro he; rw [h4] at he; unfold XA; rw [h1, g1, g2]; exact h.at_ he
  · intro i x hi; rw [h4] at hi; rw [g1, g2]; exact h.cells i x hi

attribute [local irreducible] Calls in
set_option maxRecDepth 100000 in
set_option maxHeartbeats 1000000 in
theorem bare_any (p : Pk) (w : World) (hx : ExtsAt w p) (hl : p.xl ≤ 4) :
    Calls Try.prog 26 #[.agg (pkc p)] w fun e w' => ∃ a c, e = .returned (.agg (pkc { bareP p with xa := a, xc := c })) ∧ ExtsAt w' { bareP p with xa := a, xc := c } ∧ Cloned w.heap.size w' { bareP p with xa := a, xc := c } ∧ Gr w w' := by
  have hXq : Hid (∀ W', Gr w W' → ExtsAt W' (bareP p)) := fun W' hg => (gr_less hx hg).same rfl rfl rfl rfl
  have hql : (bareP p).xl ≤ 4 := hl
  have r1 := two_row1 w
  have r2 := two_row2 w
  have r3 := two_free2 w
  have r4 := two_set2 w
  cases h6 : p.src.v6
  all_goals
    go_enter Try.func26, Try.ntmps26
    go_wp2_with (go_at_call 19; refine (clone_any (bareP p) _ (hXq.out _ (((Gr.refl w).alloc _).alloc _)) hql).mono ?_; rintro e w' ⟨a, c, rfl, hE, hC, x, rfl⟩)
  all_goals
    refine bodyPost_ret (run_results_cell 46 Try.results26 _ _ (w.heap.size + 1) _ rfl isAgg27 size27 (by omega) (by rw [sz_pkc]; trivial) (r2 _ _ _)) rfl ⟨a, c, ?_, ?_, ?_, ?_⟩
    · simp [bareP, h6]
    · refine hE.moved (by simp [size_gr]) ?_
      rcases hC with h | ⟨h, _⟩
      · exact .inl h
      · exact .inr (gr_heap_new x (by simp) (by simpa using h))
    · rcases hC with h | ⟨h, d, hd⟩
      · exact .inl h
      · refine .inr ⟨by simp at h; omega, d, ?_⟩
        rw [← hd]
        exact gr_heap_new x (by simp) (by simpa using h)
    · exact (((Gr.refl w).alloc _).alloc _).more x

end Go.Proofs.Ytfdjpmglfjiamaa
