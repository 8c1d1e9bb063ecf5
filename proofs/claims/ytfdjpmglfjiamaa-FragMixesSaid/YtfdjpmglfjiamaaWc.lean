/- slices.Clone of extension headers. -/
import Derived.Test.YtfdjpmglfjiamaaRun
import Derived.Test.YtfdjpmglfjiamaaSh
import Derived.Shelf.SlicesE.Clone
import Derived.Laws.OwnMore
import Derived.Maps.AppendAt
namespace Go.Proofs.Ytfdjpmglfjiamaa
open Go Go.Sort Go.RowKit Go.Shelf
set_option linter.unusedSimpArgs false
set_option linter.unusedVariables false

/-- The r-th cell of the i-th of a list of records of k cells each. -/
theorem flat_get {α : Type} (f : α → List Value) (k : Nat) (hk : ∀ x, (f x).length = k) (r : Nat) (hr : r < k) : ∀ (l : List α) (i : Nat), (l.flatMap f)[i * k + r]? = (l[i]?).bind fun x => (f x)[r]?
  | [], i => by simp
  | a :: l, 0 => by
    rw [List.flatMap_cons, Nat.zero_mul, Nat.zero_add, List.getElem?_append_left (by rw [hk]; exact hr)]
    simp
  | a :: l, i + 1 => by
    rw [List.flatMap_cons, List.getElem?_append_right (by rw [hk, Nat.succ_mul]; omega), hk]
    rw [show (i + 1) * k + r - k = i * k + r by rw [Nat.succ_mul]; omega]
    rw [flat_get f k hk r hr l i]
    simp
theorem flat_len {α : Type} (f : α → List Value) (k : Nat) (hk : ∀ x, (f x).length = k) (l : List α) : (l.flatMap f).length = l.length * k := by
  induction l with
  | nil => simp
  | cons a l ih => rw [List.flatMap_cons, List.length_append, ih, hk, List.length_cons, Nat.succ_mul]; omega

theorem extl_len (x : Ext) : (extl x).length = 2 := rfl

theorem ExtsAt.row {w : World} {p : Pk} (h : ExtsAt w p) : ∀ j u, (p.exts.flatMap extl)[j]? = some u → w.cell? ⟨xg p, xo p + j, none⟩ = some u := by
  intro j u hu
  have hj : j = j / 2 * 2 + j % 2 := by omega
  rw [hj, flat_get extl 2 extl_len (j % 2) (by omega)] at hu
  obtain ⟨x, hx, hxu⟩ := Option.bind_eq_some_iff.1 hu
  obtain ⟨c1, c2⟩ := h.cells _ _ hx
  rcases Nat.mod_two_eq_zero_or_one j with e | e
  · rw [e] at hxu
    have : u = .int .i64 x.kind := by simpa [extl] using hxu.symm
    rw [this, ← c1]
    congr 2
    omega
  · rw [e] at hxu
    have : u = .string x.body := by simpa [extl] using hxu.symm
    rw [this, ← c2]
    congr 2
    omega

theorem info59 : (Try.prog.info? 59).map (fun i => (i.zero, i.size, i.bytes)) = some (some (.agg #[.int .i64 0, .string ⟨#[]⟩]), 2, 24) := by kernel_rfl

set_option maxHeartbeats 2000000 in
set_option maxRecDepth 100000 in
/-- slices.Clone of a slice without elements, wherever its address leads. -/
theorem clone_void (A : Addr) (c : Nat) (w : World) :
    Calls Try.prog 19 #[.slice (some A) 0 c] w fun e w' => ∃ v', e = .returned v' ∧ w'.ownsRow w.heap.size 59 2 v' 0 [] ∧ v' ≠ .slice none 0 0 ∧ Below w.heap.size w w' := by
  obtain ⟨i0, hi, hz0, hz1, hz2⟩ := info_parts info59
  have u25 := Try.underlying25
  have q25 : ∀ (w : World) (a : Option Addr) (n c n' c' : Nat), (binOp .eql 25 (.slice a n c) (.slice none n' c')).run Try.prog w = .ok (.bool a.isNone) w := fun w a n c n' c' => Lib.run_eql_slice_nil w _ _ a n c n' c' Try.underlying25
  have r25 : ∀ w, Sem.run Try.prog (underlying 25) w = .ok (TypeDesc.slice 59) w := run_underlying Try.underlying25
  go_enter Try.func19, Try.ntmps19
  go_wp2_with (at_builtin; refine wpList_append_own _ rfl _ _ 25 rfl w.heap.size 59 i0 (.agg #[.int .i64 0, .string ⟨#[]⟩]) 2 24 u25 hi hz0 hz1 hz2 rfl (by decide) _ _ _ rfl (World.ownsRow_made w #[] 0 (Nat.le_refl _) (Nat.zero_le _) (by simp)) A 0 c [] rfl ?qc1 ?qc2 ?qc3 ?qc4 ?qc5 ?qc6 ?_)
  case qc1 => rfl
  case qc2 => intro j u hj; simp at hj
  case qc3 => simp
  case qc4 => simp
  case qc5 => simp
  case qc6 => simp
  intro v' w1 hown hgrow hnil
  go_wp2
  go_ret
  refine ⟨v', rfl, by simpa using hown, ?_, ?_⟩
  · exact hnil
  · exact ((Below.refl _ w).alloc (Nat.le_refl _) _).grown hgrow (by simp) (by intro k hk; simp [Value.ownBlock] at hk; omega)

/-- A header whose extension headers lie in a block of such, that was laid at or beyond B. -/
def Cloned (B : Nat) (w : World) (p : Pk) : Prop := p.exts = [] ∨ (B ≤ xg p ∧ ∃ c, w.heap[xg p]? = some (.cells c 59))

theorem clone_any (p : Pk) (w : World) (hx : ExtsAt w p) (hl : p.xl ≤ 4) :
    Calls Try.prog 19 #[.slice p.xa p.xl p.xc] w fun e w' => ∃ a c, e = .returned (.slice a p.xl c) ∧ ExtsAt w' { p with xa := a, xc := c } ∧ Cloned w.heap.size w' { p with xa := a, xc := c } ∧ Gr w w' := by
  obtain ⟨i0, hi, hz0, hz1, hz2⟩ := info_parts info59
  cases ha : p.xa with
  | none =>
    have hc0 := hx.nil ha
    have hl0 : p.xl = 0 := by have := hx.cap; omega
    have he : p.exts = [] := List.eq_nil_of_length_eq_zero (by rw [← hx.len]; exact hl0)
    refine (AnyE.slices_Clone_nil layClone p.xl p.xc w).mono ?_
    rintro e w' ⟨rfl, rfl⟩
    refine ⟨none, 0, by rw [hl0], ?_, .inl he, Gr.refl _⟩
    exact ⟨hx.len, by simp [hl0], by simp, fun _ => rfl, fun hn => absurd rfl hn, fun hn => absurd he hn, fun i x hi => by simp [he] at hi, hx.small⟩
  | some A =>
    have hlen := flat_len extl 2 extl_len p.exts
    have hcl : Calls Try.prog 19 #[.slice (some A) p.xl p.xc] w fun e w' => ∃ v', e = .returned v' ∧ w'.ownsRow w.heap.size 59 2 v' p.xl (p.exts.flatMap extl) ∧ v' ≠ .slice none 0 0 ∧ Below w.heap.size w w' := by
     by_cases hc0 : p.xc = 0
     · have hl0 : p.xl = 0 := by have := hx.cap; omega
       have he : p.exts = [] := List.eq_nil_of_length_eq_zero (by rw [← hx.len]; exact hl0)
       rw [hl0, he]
       exact clone_void A p.xc w
     · have hA : A = ⟨xg p, xo p, none⟩ := by have := hx.one (by rw [ha]; simp) hc0; rw [XA, ha] at this; exact Option.some.inj this
       rw [hA]
       exact (AnyE.slices_Clone layClone i0 (.agg #[.int .i64 0, .string ⟨#[]⟩]) 2 24 hi hz0 hz1 hz2 rfl (by omega) (fun w => by kernel_rfl) (xg p) (xo p) p.xl p.xc (p.exts.flatMap extl) w (by rw [hlen, ← hx.len]) (by unfold maxLen; omega) (by omega)
      hx.row (by intro u hu; obtain ⟨x, _, hu⟩ := List.mem_flatMap.1 hu; simp [extl] at hu; rcases hu with rfl | rfl <;> rfl))
    refine hcl.mono ?_
    rintro e w' ⟨v', rfl, hown, hne, hb⟩
    rcases hown.2 with ⟨h0, _⟩ | ⟨g, cap, cur, rfl, hg, hh, hn, hm, _, _⟩
    · exact absurd h0 hne
    · have hgs : g < w'.heap.size := (Array.getElem?_eq_some_iff.1 hh).1
      have hcell := fun j hj => hown.cellAt j hj
      refine ⟨some ⟨g, 0, none⟩, cap, rfl, ?_, .inr ⟨hg, cur, hh⟩, Gr.of_below hb⟩
      refine ⟨hx.len, hn, hm, by simp, fun _ _ => rfl, fun _ => ⟨rfl, hgs⟩, fun i x hi => ?_, hx.small⟩
      have hil : i < p.xl := by rw [hx.len]; exact (List.getElem?_eq_some_iff.1 hi).1
      have hi' : p.exts[i]? = some x := hi
      constructor
      · show w'.cell? ⟨g, 0 + i * 2, none⟩ = _
        rw [Nat.zero_add, hcell (i * 2) (by omega)]
        have := flat_get extl 2 extl_len 0 (by omega) p.exts i
        rw [Nat.add_zero] at this
        rw [this, hi']
        rfl
      · show w'.cell? ⟨g, 0 + i * 2 + 1, none⟩ = _
        rw [Nat.zero_add, hcell (i * 2 + 1) (by omega), flat_get extl 2 extl_len 1 (by omega) p.exts i, hi']
        rfl

end Go.Proofs.Ytfdjpmglfjiamaa
