/- Walks: slices.ContainsFunc at packets; frag.(*heap).fits. -/
import Derived.Test.YtfdjpmglfjiamaaWi
import Derived.Shelf.Abstract
namespace Go.Proofs.Ytfdjpmglfjiamaa
open Go Go.Sort Go.RowKit Go.Shelf
set_option linter.unusedSimpArgs false
set_option linter.unusedVariables false

/-- What a slice of packets holds: nil and none, or a row. -/
def PkSlice (w : World) (v : Value) (l : List Pk) : Prop := (v = .slice none 0 0 ∧ l = []) ∨ ∃ b c, v = .slice (some ⟨b, 0, none⟩) l.length c ∧ l.length ≤ c ∧ c ≤ 9223372036854775807 ∧ PkRow w b l

attribute [local irreducible] Calls in
theorem contains_nil (v : Value) (w : World) :
    Calls Try.prog 29 #[.slice none 0 0, v] w fun e w' => e = .returned (.bool false) ∧ Gr w w' := by
  go_enter Try.func29, Try.ntmps29
  go_wp2
  go_loopw [8] (fun i wr => i = .int .i64 0 ∧ wr = w) (fun _ _ => 0)
  case atStart => exact ⟨rfl, rfl⟩
  case round =>
    obtain ⟨rfl, rfl⟩ := hrel
    go_wp2
    go_ret
    exact ⟨rfl, Gr.refl _⟩

attribute [local irreducible] Calls in
set_option maxRecDepth 100000 in
set_option maxHeartbeats 1000000 in
theorem contains_any (g gp : Nat) (eg : ∀ args w, (callFunc g args).run Try.prog w = .ok (.enter g args) w) (f : Pk → Bool) (l : List Pk) (v : Value) (w : World) (hr : PkSlice w v l) (hn : l.length ≤ 140737488351232)
    (hp : ∀ x ∈ l, ∀ y, Calls Try.prog g #[.agg (pkc x), .pointer (some ⟨gp, 0, none⟩)] (gr w y) fun e w' => e = .returned (.bool (f x)) ∧ Gr (gr w y) w') :
    Calls Try.prog 29 #[v, .func (.func g) #[] #[.pointer (some ⟨gp, 0, none⟩)]] w fun e w' => e = .returned (.bool (l.any f)) ∧ Gr w w' := by
  rcases hr with ⟨rfl, rfl⟩ | ⟨b, c, rfl, hlc, hcm, hrow⟩
  · exact contains_nil _ w
  · have H := Lib.hid (idx_any g gp eg f l b c w hrow hn hp)
    clear hp eg hrow
    go_enter Try.func29, Try.ntmps29
    go_wp2_with (go_at_call 39; refine H.out.mono ?_; rintro e w' ⟨⟨r, rfl, hd⟩, x, rfl⟩)
    go_ret
    exact ⟨by rw [← hd]; rfl, _, rfl⟩

theorem PkRow.alloc {w : World} {b : Nat} {l : List Pk} (h : PkRow w b l) (o : Obj) : PkRow (w.alloc o) b l := by
  rw [alloc_gr]; exact h.gr _
theorem PkSlice.gr {w : World} {v : Value} {l : List Pk} (h : PkSlice w v l) (y : Gx) : PkSlice (gr w y) v l := by
  rcases h with h | ⟨b, c, h1, h2, h3, h4⟩
  · exact .inl h
  · exact .inr ⟨b, c, h1, h2, h3, h4.gr y⟩
theorem PkSlice.alloc {w : World} {v : Value} {l : List Pk} (h : PkSlice w v l) (o : Obj) : PkSlice (w.alloc o) v l := by
  rw [alloc_gr]; exact h.gr _

theorem enters30 : ∀ args w, (callFunc 30 args).run Try.prog w = .ok (.enter 30 args) w := enters_of Try.func30 (by kernel_rfl) rfl
theorem enters40 : ∀ args w, (callFunc 40 args).run Try.prog w = .ok (.enter 40 args) w := enters_of Try.func40 (by kernel_rfl) rfl

attribute [local irreducible] Calls in
set_option maxRecDepth 100000 in
set_option maxHeartbeats 1000000 in
theorem fits_any (hb : Nat) (began order : Int) (v : Value) (l : List Pk) (p : Pk) (w : World) (hh : w.heap[hb]? = some (.cells #[.int .i64 began, .int .i64 order, v] 74)) (hv : PkSlice w v l) (hn : l.length ≤ 140737488351232)
    (hp : Small p) (hs : ∀ x ∈ l, Small x) :
    Calls Try.prog 31 #[.pointer (some ⟨hb, 0, none⟩), .agg (pkc p)] w fun e w' => e = .returned (.bool (decide (l.length < 64) && !(l.any (clash p)))) ∧ Gr w w' := by
  have hbs := box_size hh
  have c2 : w.cell? ⟨hb, 2, none⟩ = some v := cell_of_row w hb 2 _ 74 (0, 0) hh
  have H : Hid (Calls Try.prog 29 #[v, .func (.func 40) #[] #[.pointer (some ⟨w.heap.size, 0, none⟩)]] (w.alloc (.cells (pkc p) 27)) fun e w' => e = .returned (.bool (l.any (clash p))) ∧ Gr (w.alloc (.cells (pkc p) 27)) w') :=
    contains_any 40 w.heap.size enters40 (clash p) l v _ (hv.alloc _) hn (fun x hx y => fits1_any p x w.heap.size _ (by rw [heap_gr _ _ (by simp)]; exact heap_alloc_new _ _) hp (hs x hx))
  have hlen : (v = .slice none 0 0 ∧ l.length = 0) ∨ ∃ b c, v = .slice (some ⟨b, 0, none⟩) l.length c := by
    rcases hv with ⟨h1, h2⟩ | ⟨b, c, h1, _⟩
    · exact .inl ⟨h1, by rw [h2]; rfl⟩
    · exact .inr ⟨b, c, h1⟩
  clear hh hv hs
  generalize l.any (clash p) = R at H ⊢
  generalize l.length = n at hlen hn ⊢
  rcases hlen with ⟨rfl, rfl⟩ | ⟨b, c, rfl⟩
  · go_enter Try.func31, Try.ntmps31
    go_wp2_with (go_at_call 29; refine H.out.mono ?_; rintro e w' ⟨rfl, x, rfl⟩)
    go_ret
    exact ⟨by simp, ((Gr.refl w).alloc _).more _⟩
  · by_cases hlt : n < 64
    · go_enter Try.func31, Try.ntmps31
      go_wp2_with (go_at_call 29; refine H.out.mono ?_; rintro e w' ⟨rfl, x, rfl⟩)
      go_ret
      exact ⟨by simp [hlt], ((Gr.refl w).alloc _).more _⟩
    · go_enter Try.func31, Try.ntmps31
      go_wp2_with (go_at_call 29; refine H.out.mono ?_; rintro e w' ⟨rfl, x, rfl⟩)
      go_ret
      exact ⟨by simp [hlt], (Gr.refl w).alloc _⟩

end Go.Proofs.Ytfdjpmglfjiamaa
