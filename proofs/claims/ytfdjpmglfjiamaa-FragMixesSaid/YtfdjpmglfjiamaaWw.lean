/- Walk: frag.(*heap).whole. -/
import Derived.Test.YtfdjpmglfjiamaaRw
import Derived.Test.YtfdjpmglfjiamaaHe
import Derived.Test.YtfdjpmglfjiamaaBv
import Derived.Test.YtfdjpmglfjiamaaPt
namespace Go.Proofs.Ytfdjpmglfjiamaa
open Go Go.Sort Go.RowKit
set_option linter.unusedSimpArgs false
set_option linter.unusedVariables false

theorem builder_gr {T e : TypeId} {B b : Nat} {bs : List Value} {w w' : World} (h : Lib.IsBuilder T e B b bs w) (hg : Gr w w') : Lib.IsBuilder T e B b bs w' := by
  have one : ∀ p, Lib.BuilderAt T e B b p bs w → Lib.BuilderAt T e B b p bs w' := by
    rintro p ⟨hB, v, hb, hown, hne⟩
    have bl := hg.below
    have hbs := (Array.getElem?_eq_some_iff.1 hb).1
    refine ⟨hB, v, (bl.block b hbs).trans hb, ?_, hne⟩
    exact hown.kept (row := none) ⟨bl.os, bl.tape, bl.output, bl.size, fun k hk _ => bl.block k hk⟩ (by cases v.ownBlock <;> simp)
  rcases h with h | h
  · exact .inl (one _ h)
  · exact .inr (one _ h)

/-- The text so far. -/
def textL (l : List Pk) : List UInt8 := l.flatMap fun p => p.pay.data.toList
theorem textL_take (l : List Pk) (k : Nat) (x : Pk) (h : l[k]? = some x) : textL (l.take (k + 1)) = textL (l.take k) ++ x.pay.data.toList := by
  obtain ⟨hk, rfl⟩ := List.getElem?_eq_some_iff.1 h
  unfold textL
  rw [List.take_succ_eq_append_getElem hk, List.flatMap_append]
  simp
theorem textL_len (l : List Pk) : (textL l).length = heldL l := by
  unfold textL heldL
  induction l with
  | nil => rfl
  | cons a l ih => rw [List.flatMap_cons, List.length_append, ih]; simp; 
theorem contig_append : ∀ (a b : List Pk) (n : Int), contig n (a ++ b) = (contig n a && contig (n + heldL a) b)
  | [], b, n => by simp [contig, heldL]
  | x :: a, b, n => by
    simp only [List.cons_append, contig]
    rw [contig_append a b (n + x.pay.size), Bool.and_assoc]
    congr 3
    simp only [heldL, List.map_cons, List.sum_cons]
    omega
theorem contig_take_succ {l : List Pk} {k : Nat} {x : Pk} (h : l[k]? = some x) : contig 0 (l.take (k + 1)) = (contig 0 (l.take k) && decide (x.off = (heldL (l.take k) : Int))) := by
  obtain ⟨hk, rfl⟩ := List.getElem?_eq_some_iff.1 h
  rw [List.take_succ_eq_append_getElem hk, contig_append]
  simp [contig]
theorem contig_bad {l : List Pk} {k : Nat} {x : Pk} (h : l[k]? = some x) (hne : x.off ≠ (heldL (l.take k) : Int)) : contig 0 l = false := by
  have e : contig 0 l = (contig 0 (l.take (k + 1)) && contig (0 + heldL (l.take (k + 1))) (l.drop (k + 1))) := by
    conv => lhs; rw [← List.take_append_drop (k + 1) l]
    exact contig_append _ _ _
  rw [e, contig_take_succ h]
  simp [hne]
theorem heldL_bound : ∀ (l : List Pk), (∀ x ∈ l, x.pay.size ≤ 65535) → heldL l ≤ l.length * 65535
  | [], _ => by simp [heldL]
  | a :: l, h => by
    have h1 := heldL_bound l (fun x hx => h x (List.mem_cons_of_mem _ hx))
    have h2 := h a (by simp)
    simp only [heldL, List.map_cons, List.sum_cons, List.length_cons] at h1 ⊢
    omega
/-- A cell of a row of packets. -/
theorem row_cell {B : Nat} {w : World} {g cap n : Nat} {l : List Pk} (h : w.ownsRow B 27 46 (.slice (some ⟨g, 0, none⟩) n cap) l.length (l.flatMap pkl)) {k : Nat} {x : Pk} (hx : l[k]? = some x) (i : Nat) (hi : i < 46) :
    w.cell? ⟨g, k * 46 + i, none⟩ = (pkc x)[i]? := by
  have hk := (List.getElem?_eq_some_iff.1 hx).1
  rcases h.2 with ⟨h0, _⟩ | ⟨g', cap', cur, hv, _⟩
  · cases h0
  · simp only [Value.slice.injEq, Option.some.injEq, Addr.mk.injEq, and_true] at hv
    obtain ⟨rfl, rfl, rfl⟩ := hv
    have hl := flat_len pkl 46 pkl_len l
    rw [h.cellAt (k * 46 + i) (by omega), flat_get pkl 46 pkl_len i hi l k, hx]
    simp [pkc]

theorem right_xl4 {p : Pk} (h : right p = true) : p.xl ≤ 4 := by
  cases h6 : p.src.v6
  · simp [right, h6, right4] at h; omega
  · exact right_xl h h6

theorem heap_setCell_at {w : World} {z i : Nat} {v : Value} {c : Array Value} {t : TypeId} {fr : Nat × Nat} (h : w.heap[z]? = some (.cells c t fr)) : (w.setCell ⟨z, i, none⟩ v).heap[z]? = some (.cells (c.setIfInBounds i v) t fr) := by
  simp [World.setCell, Array.getElem?_modify, h]

/-- What a heap's pieces are when they have been sorted. -/
structure Sorted (l l' : List Pk) : Prop where
  perm : l'.Perm l
  ord : l'.Pairwise (fun p q => p.off ≤ q.off)

attribute [local irreducible] Calls in
set_option maxRecDepth 100000 in
set_option maxHeartbeats 4000000 in
theorem whole_any {B : Nat} {w : World} {hb : Nat} {began order : Int} {v : Value} {l : List Pk} (hat : w.heap[hb]? = some (.cells #[.int .i64 began, .int .i64 order, v] 74))
    (hrow : w.ownsRow B 27 46 v l.length (l.flatMap pkl)) (hne : l ≠ []) (hlen : l.length ≤ 64) (hex : ∀ p ∈ l, ExtsAt w p ∧ Cloned B w p) (hsm : ∀ p ∈ l, right p = true ∧ p.off + p.pay.size ≤ 65535) :
    Calls Try.prog 32 #[.pointer (some ⟨hb, 0, none⟩)] w fun e w' => ∃ l', Sorted l l' ∧ w'.ownsRow B 27 46 v l'.length (l'.flatMap pkl) ∧ w.grownBy w' v.ownBlock ∧
      ((wholeOk l' = false ∧ e = .returned (.tuple #[.agg (pkc zpk), .bool false])) ∨
       (wholeOk l' = true ∧ ∃ q, e = .returned (.tuple #[.agg (pkc q), .bool true]) ∧ er q = er (wholeP l') ∧ ExtsAt w' q ∧ Cloned w.heap.size w' q)) := by
  have hbs := (Array.getElem?_eq_some_iff.1 hat).1
  obtain ⟨g, cap, rfl, hBg, hgs, HS⟩ := sort_row (w := w.alloc (.cells (pkc zpk) 27)) (hrow.alloc _) hne (by omega)
  have hg27 : ∃ cur, w.heap[g]? = some (.cells cur 27) := by
    rcases hrow.2 with ⟨h0, _⟩ | ⟨g', cap', cur, hv, hB', hg', _⟩
    · cases h0
    · simp only [Value.slice.injEq, Option.some.injEq, Addr.mk.injEq, and_true] at hv
      obtain ⟨rfl, _⟩ := hv
      exact ⟨cur, hg'⟩
  obtain ⟨cur, hg27⟩ := hg27
  have hgs' : g < w.heap.size := (Array.getElem?_eq_some_iff.1 hg27).1
  have hbg : hb ≠ g := by rintro rfl; rw [hat] at hg27; simp at hg27
  have c2 : (w.alloc (.cells (pkc zpk) 27)).cell? ⟨hb, 2, none⟩ = some (.slice (some ⟨g, 0, none⟩) l.length cap) := by
    rw [World.cell?_of_block (heap_alloc_old w _ hbs)]; exact cell_of_row w hb 2 _ 74 (0, 0) hat
  have HS' := Lib.hid HS
  have HEX := Lib.hid hex
  have HSM := Lib.hid hsm
  clear HS hex hsm
  go_enter Try.func32, Try.ntmps32
  go_wp2_with (fail)
  refine HS'.out.mono ?_
  rintro e w1 ⟨rfl, l', hp, hso, hrow1, hgr1⟩
  have hl' : l'.length = l.length := hp.length_eq
  have h74 : w1.heap[hb]? = some (.cells #[.int .i64 began, .int .i64 order, .slice (some ⟨g, 0, none⟩) l.length cap] 74) := by
    rw [hgr1.block hb (by simp; omega) (by simpa using hbg), heap_alloc_old _ _ hbs]; exact hat
  have hres : w1.heap[w.heap.size]? = some (.cells (pkc zpk) 27) := by
    rw [hgr1.block _ (by simp) (by simp; omega)]; exact heap_alloc_new _ _
  have hsz1 := hgr1.size
  rw [World.size_alloc] at hsz1
  have c2' : w1.cell? ⟨hb, 2, none⟩ = some (.slice (some ⟨g, 0, none⟩) l.length cap) := cell_of_row w1 hb 2 _ 74 (0, 0) h74
  have hbs1 : hb < w1.heap.size := by omega
  have HR1 := Lib.hid hrow1
  have HGR := Lib.hid hgr1
  have HSO := Lib.hid hso
  have HP := Lib.hid hp
  have H74 := Lib.hid h74
  have HRES := Lib.hid hres
  have HAT := Lib.hid hat
  have HRW := Lib.hid hrow
  have HG27 := Lib.hid hg27
  have hsz : ∀ x ∈ l', x.pay.size ≤ 65535 := fun x hx => by
    have h1 := (HSM.out x (HP.out.mem_iff.1 hx))
    have h2 := right_offs h1.1
    omega
  have hsum := heldL_bound l' hsz
  have FIN : Hid (∀ W5 : World, W5.os = w1.os → W5.tape = w1.tape → W5.output = w1.output → w1.heap.size ≤ W5.heap.size → (∀ k, k < w1.heap.size → k ≠ w.heap.size → W5.heap[k]? = w1.heap[k]?) →
      W5.ownsRow B 27 46 (.slice (some ⟨g, 0, none⟩) l.length cap) l'.length (l'.flatMap pkl) ∧ w.grownBy W5 (some g)) := by
    intro W5 a1 a2 a3 a4 a5
    refine ⟨HR1.out.kept (row := some w.heap.size) ⟨a1, a2, a3, a4, fun k hk hne => a5 k hk (by simpa using hne)⟩ (.inr (by simp [Value.ownBlock]; omega)), ?_⟩
    refine ⟨a1.trans HGR.out.os, a2.trans HGR.out.tape, a3.trans HGR.out.output, by omega, fun k hk hne => ?_⟩
    rw [a5 k (by omega) (by omega), HGR.out.block k (by simp; omega) hne, heap_alloc_old _ _ hk]
  have hSorted : Hid (Sorted l l') := ⟨HP.out, HSO.out⟩
  clear hrow1 hgr1 hso h74 hres c2 hat hrow hg27 hp hsz
  go_wp2
  have hB0 : Hid (Lib.IsBuilder 92 5 w1.heap.size w1.heap.size (Lib.byteCells (textL (l'.take 0))) (w1.alloc (.cells #[.pointer none, .slice none 0 0] 92))) := Lib.fresh_isBuilder 92 5 w1
  have hW2 : Hid (Gr w1 (w1.alloc (.cells #[.pointer none, .slice none 0 0] 92))) := (Gr.refl w1).alloc _
  generalize w1.alloc (.cells #[.pointer none, .slice none 0 0] 92) = W2 at hB0 hW2 ⊢
  go_loopw [18] (fun i wr => ∃ k : Nat, k ≤ l.length ∧ i = .int .i64 k ∧ contig 0 (l'.take k) = true ∧ Lib.IsBuilder 92 5 w1.heap.size w1.heap.size (Lib.byteCells (textL (l'.take k))) wr ∧ Below w1.heap.size w1 wr)
    (fun i _ => l.length - (intOf i).toNat)
  case atStart => exact ⟨0, Nat.zero_le _, rfl, rfl, hB0.out, hW2.out.below⟩
  case round =>
    obtain ⟨k, hk, rfl, hc, hbld, hbel⟩ := hrel
    have hrowr : PkRow wr g l' := by
      have := HR1.out.kept (w' := wr) (row := none) ⟨hbel.os, hbel.tape, hbel.output, hbel.size, fun k hk _ => hbel.block k hk⟩ (by simp [Value.ownBlock])
      rw [← hl'] at this
      exact PkRow.of_owns this
    by_cases hlt : k < l.length
    · obtain ⟨x, hx⟩ : ∃ x, l'[k]? = some x := ⟨_, List.getElem?_eq_getElem (by omega)⟩
      obtain ⟨h1, h2⟩ := hrowr.row k x hx
      have h3 := hrowr.lt
      have i1 : ∀ W, (Instr.indexAt 32 (.slice (some ⟨g, 0, none⟩) l.length cap) (.int .i64 (k : Int))).run Try.prog W = .ok (.pointer (some ⟨g, k * 46, none⟩)) W := fun W => by
        have := run_idx32 g l.length cap k W (by omega) (by omega)
        simpa using this
      have HB := Lib.hid hbld
      have HBL := Lib.hid hbel
      have HC := Lib.hid hc
      have HX := Lib.hid hx
      clear hbld hbel hc hrowr hx
      go_wp2
      have hb3 : (wr.alloc (.cells (pkc x) 27)).heap[wr.heap.size]? = some (.cells (pkc x) 27) := heap_alloc_new _ _
      have HB3 : Hid (Lib.IsBuilder 92 5 w1.heap.size w1.heap.size (Lib.byteCells (textL (l'.take k))) (wr.alloc (.cells (pkc x) 27))) := builder_gr HB.out ((Gr.refl wr).alloc _)
      have hG3 : Hid (Below w1.heap.size w1 (wr.alloc (.cells (pkc x) 27))) := HBL.out.trans (((Gr.refl wr).alloc _).below.mono HBL.out.size)
      generalize wr.alloc (.cells (pkc x) 27) = W3 at hb3 HB3 hG3 ⊢
      have f1 := box_cell hb3
      have f2 := box_size hb3
      have f3 : Hid (rowOf W3 w.heap.size = pkc zpk ∧ freeAt W3 w.heap.size = true ∧ w.heap.size < W3.heap.size) := by
        have : W3.heap[w.heap.size]? = some (.cells (pkc zpk) 27) := (hG3.out.block _ (by omega)).trans HRES.out
        exact ⟨rowOf_heap this, freeAt_heap this, box_size this⟩
      have hN : (Lib.byteCells (textL (l'.take k))).length = heldL (l'.take k) := by rw [Lib.byteCells_length, textL_len]
      clear hb3 h1 h2 h3 i1
      refine wp_region_gr (by kernel_rfl) (by kernel_rfl) ?_
      repeat (go_big_quiet_step ((go_at_call 44; exact quiet_gr_same ⟨_, rfl⟩ (bld_len _ _ _ _ (builder_gr HB3.out ⟨_, rfl⟩)))))
      refine wpQuiet_nil ?_
      rintro _ ⟨y, rfl⟩
      rw [hN]
      have f4 : ∀ i, (gr W3 y).cell? ⟨wr.heap.size, i, none⟩ = (pkc x)[i]? := fun i => (cell_gr W3 y _ i f2).trans (f1 i)
      have f5 : rowOf (gr W3 y) w.heap.size = pkc zpk := by rw [rowOf_gr _ _ _ f3.out.2.2]; exact f3.out.1
      have f6 : freeAt (gr W3 y) w.heap.size = true := by rw [freeAt_gr _ _ _ f3.out.2.2]; exact f3.out.2.1
      have HB4 : Hid (Lib.IsBuilder 92 5 w1.heap.size w1.heap.size (Lib.byteCells (textL (l'.take k))) (gr W3 y)) := builder_gr HB3.out ⟨_, rfl⟩
      have hG4 : Hid (Below w1.heap.size w1 (gr W3 y)) := hG3.out.trans (((Gr.refl W3).more y).below.mono hG3.out.size)
      have f7 : wr.heap.size < (gr W3 y).heap.size := by rw [size_gr]; omega
      have f8 : w.heap.size < (gr W3 y).heap.size := by rw [size_gr]; have := f3.out.2.2; omega
      clear HB3 hG3 f1 f2 f3 hN
      generalize gr W3 y = W4 at f4 f5 f6 f7 f8 HB4 hG4 ⊢
      by_cases hoff : x.off = (heldL (l'.take k) : Int)
      · have hlt2 : heldL (l'.take k) ≤ heldL l' := heldL_take_le l' k
        have hxs : x.pay.size ≤ 65535 := by
          have h1 := (HSM.out x (HP.out.mem_iff.1 (List.mem_of_getElem? HX.out)))
          have h2 := right_offs h1.1
          omega
        have HW := Lib.hid (bld_write w1.heap.size w1.heap.size _ x.pay W4 HB4.out (by rw [Lib.byteCells_length, textL_len]; omega) hG4.out.size)
        go_wp2_with (fail)
        refine HW.out.mono ?_
        rintro e w5 ⟨rfl, hb5, hbl5⟩
        have H5 := Lib.hid hb5
        have HL5 := Lib.hid hbl5
        clear hb5 hbl5
        go_wp2
        refine ⟨⟨k + 1, hlt, rfl, ?_, ?_, hG4.out.trans HL5.out⟩, by simp [intOf]; omega⟩
        · rw [contig_take_succ HX.out, HC.out, hoff]; simp
        · rw [textL_take l' k x HX.out, Lib.byteCells_append]
          exact .inr H5.out
      · go_wp2
        have hW5 : ∀ k, k < w1.heap.size → k ≠ w.heap.size → (W4.setRow w.heap.size (pkc zpk)).heap[k]? = w1.heap[k]? := fun k hk hne => by
          rw [setRow_heap_other hne]; exact hG4.out.block k hk
        have hfin := FIN.out (W4.setRow w.heap.size (pkc zpk)) hG4.out.os hG4.out.tape hG4.out.output (by have := hG4.out.size; simpa [World.setRow] using this) hW5
        refine bodyPost_ret (run_results_cell_tmp 46 Try.results32 _ _ w.heap.size (pkc zpk) rfl isAgg27 size27 (by omega) (by rw [sz_pkc]; trivial) ?_) rfl ⟨l', hSorted.out, hfin.1, hfin.2, .inl ⟨?_, rfl⟩⟩
        · have : W4.heap[w.heap.size]? = some (.cells (pkc zpk) 27) := (hG4.out.block _ (by omega)).trans HRES.out
          exact rowOf_heap (setRow_heap_at this)
        · simp [wholeOk, contig_bad HX.out hoff]
    · have hkl : k = l.length := by omega
      subst hkl
      rw [List.take_of_length_le (by omega)] at hc hbld
      have hpos : 0 < l.length := List.length_pos_iff.2 hne
      obtain ⟨z, hz⟩ : ∃ z, l'[l.length - 1]? = some z := ⟨_, List.getElem?_eq_getElem (by omega)⟩
      obtain ⟨a, ha⟩ : ∃ a, l'[0]? = some a := ⟨_, List.getElem?_eq_getElem (by omega)⟩
      have hlast : lastMore l' = z.more := by
        unfold lastMore
        rw [List.getLast?_eq_getElem?, hl', hz]
        rfl
      have hrw : Hid (wr.ownsRow B 27 46 (.slice (some ⟨g, 0, none⟩) l.length cap) l'.length (l'.flatMap pkl)) :=
        HR1.out.kept (row := none) ⟨hbel.os, hbel.tape, hbel.output, hbel.size, fun k hk _ => hbel.block k hk⟩ (by simp [Value.ownBlock])
      have z1 : wr.cell? ⟨g, (l.length - 1) * 46 + 39, none⟩ = some (.bool z.more) := by
        rw [row_cell hrw.out hz 39 (by omega)]; exact pkc_39 z
      obtain ⟨h1, h2⟩ := hrowr.row 0 a ha
      have h3 := hrowr.lt
      have i1 : ∀ W, (Instr.indexAt 32 (.slice (some ⟨g, 0, none⟩) l.length cap) (.int .i64 ((l.length : Int) - 1))).run Try.prog W = .ok (.pointer (some ⟨g, (l.length - 1) * 46, none⟩)) W := fun W => by
        have := run_idx32 g l.length cap ((l.length : Int) - 1) W (by omega) (by omega)
        rwa [show ((l.length : Int) - 1).toNat = l.length - 1 by omega] at this
      have i0 : ∀ W, (Instr.indexAt 32 (.slice (some ⟨g, 0, none⟩) l.length cap) (.int .i64 0)).run Try.prog W = .ok (.pointer (some ⟨g, 0, none⟩)) W := fun W => by
        have := run_idx32 g l.length cap 0 W (by omega) (by omega)
        simpa using this
      have c2r : wr.cell? ⟨hb, 2, none⟩ = some (.slice (some ⟨g, 0, none⟩) l.length cap) := cell_of_row wr hb 2 _ 74 (0, 0) ((hbel.block hb hbs1).trans H74.out)
      have hbsr : hb < wr.heap.size := by have := hbel.size; omega
      have r1 : rowOf wr g = rowOf wr g := rfl
      have q1 : rowOf wr w.heap.size = pkc zpk := rowOf_heap ((hbel.block _ (by omega)).trans HRES.out)
      have q2 : freeAt wr w.heap.size = true := freeAt_heap ((hbel.block _ (by omega)).trans HRES.out)
      have q3 : w.heap.size < wr.heap.size := by have := hbel.size; omega
      have HB := Lib.hid hbld
      have HBL := Lib.hid hbel
      have HC := Lib.hid hc
      have HZ := Lib.hid hz
      have HA := Lib.hid ha
      clear hbld hbel hc hrowr hz ha r1
      go_wp2
      refine wp_region_gr (by kernel_rfl) (by kernel_rfl) ?_
      repeat (go_big_quiet_step (fail))
      refine wpQuiet_nil ?_
      rintro _ ⟨y, rfl⟩
      have k1 : rowOf (gr wr y) w.heap.size = pkc zpk := by rw [rowOf_gr _ _ _ q3]; exact q1
      have k2 : freeAt (gr wr y) w.heap.size = true := by rw [freeAt_gr _ _ _ q3]; exact q2
      have k3 : w.heap.size < (gr wr y).heap.size := by rw [size_gr]; omega
      have k4 : hb < (gr wr y).heap.size := by rw [size_gr]; omega
      have k5 : (gr wr y).cell? ⟨hb, 2, none⟩ = some (.slice (some ⟨g, 0, none⟩) l.length cap) := (cell_gr wr y hb 2 hbsr).trans c2r
      have k6 : (rowOf (gr wr y) g).extract 0 46 = pkc a := by rw [rowOf_gr _ _ _ h3]; simpa using h1
      have k7 : fitsAt (rowOf (gr wr y) g) 0 46 := by rw [rowOf_gr _ _ _ h3]; simpa using h2
      have k8 : g < (gr wr y).heap.size := by rw [size_gr]; omega
      have HB4 : Hid (Lib.IsBuilder 92 5 w1.heap.size w1.heap.size (Lib.byteCells (textL l')) (gr wr y)) := builder_gr HB.out ⟨_, rfl⟩
      have hG4 : Hid (Below w1.heap.size w1 (gr wr y)) := HBL.out.trans (((Gr.refl wr).more y).below.mono HBL.out.size)
      clear HB HBL z1 h1 h2 h3 i1 c2r hbsr q1 q2 q3
      generalize gr wr y = W4 at k1 k2 k3 k4 k5 k6 k7 k8 HB4 hG4 ⊢
      cases hmore : z.more
      · go_wp2_with (fail)
        have hz5 : (W4.alloc (.cells (pkc a) 27)).heap[W4.heap.size]? = some (.cells (pkc a) 27) := heap_alloc_new _ _
        have hb5 : Hid (Below w1.heap.size w1 (W4.alloc (.cells (pkc a) 27))) := hG4.out.trans (((Gr.refl W4).alloc _).below.mono hG4.out.size)
        have hst := bld_string_k w1.heap.size w1.heap.size (textL l') (W4.alloc (.cells (pkc a) 27)) (builder_gr HB4.out ((Gr.refl W4).alloc _)) hb5.out.size
        have hzne : W4.heap.size ≠ w1.heap.size := fun e => by
          have hlt : w1.heap.size < W4.heap.size := by
            rcases HB4.out with h | h
            · exact h.lt
            · exact h.lt
          omega
        refine hst.mono ?_
        rintro e w6 ⟨rfl, _, hbl6, hk6⟩
        have hz6 : w6.heap[W4.heap.size]? = some (.cells (pkc a) 27) := hk6 _ _ hz5 (by simpa using hzne) (by intro c fz e; simp at e)
        have hG6 : Hid (Below w1.heap.size w1 w6) := hb5.out.trans hbl6
        have hzz : w1.heap.size ≤ W4.heap.size := hG4.out.size
        clear hst hbl6 hk6 hz5 hb5 HB4 hG4 k1 k2 k3 k4 k5 k6 k7 k8
        generalize W4.heap.size = z at hz6 hzz hzne ⊢
        have m1 : w6.cell? ⟨z, 45, none⟩ = some (.string a.pay) := (box_cell hz6 45).trans (pkc_45 a)
        have m2 : w6.frozen? ⟨z, 45, none⟩ = false := Lib.frozen_of_heap hz6 45
        have hz7 : (w6.setCell ⟨z, 45, none⟩ (.string ⟨(textL l').toArray⟩)).heap[z]? = some (.cells (pkc { a with pay := ⟨(textL l').toArray⟩ }) 27) := by
          rw [heap_setCell_at hz6, pkc_set45]
        have m3 : rowOf (w6.setCell ⟨z, 45, none⟩ (.string ⟨(textL l').toArray⟩)) z = pkc { a with pay := ⟨(textL l').toArray⟩ } := rowOf_heap hz7
        have hG7 : Hid (Below w1.heap.size w1 (w6.setCell ⟨z, 45, none⟩ (.string ⟨(textL l').toArray⟩))) := hG6.out.setCell (p := ⟨z, 45, none⟩) hzz _
        have ham : a ∈ l := HP.out.mem_iff.1 (List.mem_of_getElem? HA.out)
        obtain ⟨hxa, hca⟩ := HEX.out a ham
        have hX7 : ExtsAt (w6.setCell ⟨z, 45, none⟩ (.string ⟨(textL l').toArray⟩)) { a with pay := ⟨(textL l').toArray⟩ } := by
          refine ExtsAt.same (p := a) (hxa.moved (by have := hG7.out.size; omega) ?_) rfl rfl rfl rfl
          rcases hca with h | ⟨_, c, hc⟩
          · exact .inl h
          · have hlt := (Array.getElem?_eq_some_iff.1 hc).1
            have hne : xg a ≠ g := fun e => by
              rw [e, HG27.out] at hc
              simp at hc
            refine .inr ?_
            rw [hG7.out.block _ (by omega), HGR.out.block _ (by simp; omega) (by simpa using hne), heap_alloc_old _ _ hlt]
        have hbare := Lib.hid (bare_any { a with pay := ⟨(textL l').toArray⟩ } _ hX7 (right_xl4 (HSM.out a ham).1))
        have m4 : z < w6.heap.size := box_size hz6
        clear hX7 hxa hca hz7 hz6
        go_wp2_with (fail)
        refine hbare.out.mono ?_
        rintro e w8 ⟨aa, cc, rfl, hE, hC, hg8⟩
        have hE8 := Lib.hid hE
        have hC8 := Lib.hid hC
        have hG8 : Hid (Below w1.heap.size w1 w8) := hG7.out.trans (hg8.below.mono hG7.out.size)
        have hs78 : (w6.setCell ⟨z, 45, none⟩ (.string ⟨(textL l').toArray⟩)).heap.size ≤ w8.heap.size := hg8.below.size
        have hs17 := hG7.out.size
        clear hE hC hg8 hbare
        have n0 : w8.heap[w.heap.size]? = some (.cells (pkc zpk) 27) := (hG8.out.block _ (by omega)).trans HRES.out
        have n1 : rowOf w8 w.heap.size = pkc zpk := rowOf_heap n0
        have n2 : freeAt w8 w.heap.size = true := freeAt_heap n0
        go_wp2
        have hW5 : ∀ k, k < w1.heap.size → k ≠ w.heap.size → (w8.setRow w.heap.size (pkc { bareP { a with pay := ⟨(textL l').toArray⟩ } with xa := aa, xc := cc })).heap[k]? = w1.heap[k]? := fun k hk hne => by
          rw [setRow_heap_other hne]; exact hG8.out.block k hk
        have hsz9 : (w8.setRow w.heap.size (pkc { bareP { a with pay := ⟨(textL l').toArray⟩ } with xa := aa, xc := cc })).heap.size = w8.heap.size := by simp [World.setRow]
        have hfin := FIN.out (w8.setRow w.heap.size (pkc { bareP { a with pay := ⟨(textL l').toArray⟩ } with xa := aa, xc := cc })) hG8.out.os hG8.out.tape hG8.out.output (by rw [hsz9]; exact hG8.out.size) hW5
        refine bodyPost_ret (run_results_cell_tmp 46 Try.results32 _ _ w.heap.size (pkc { bareP { a with pay := ⟨(textL l').toArray⟩ } with xa := aa, xc := cc }) rfl isAgg27 size27 (by omega) (by rw [sz_pkc]; trivial) (rowOf_heap (setRow_heap_at n0))) rfl ⟨l', hSorted.out, hfin.1, hfin.2, .inr ⟨?_, _, rfl, ?_, ?_, ?_⟩⟩
        · simp [wholeOk, HC.out, hlast, hmore]
        · have hd : l'.headD zpk = a := by
            cases l' with
            | nil => have := HA.out; simp at this
            | cons b r => have := HA.out; simp at this; exact this
          unfold wholeP
          rw [hd]
          rfl
        · refine hE8.out.moved (by rw [hsz9]; exact Nat.le_refl _) ?_
          rcases hC8.out with h | ⟨h, _⟩
          · exact .inl h
          · exact .inr (setRow_heap_other (by omega))
        · rcases hC8.out with h | ⟨h, c, hc⟩
          · exact .inl h
          · exact .inr ⟨Nat.le_trans (by omega) h, c, (setRow_heap_other (Nat.ne_of_gt (Nat.lt_of_lt_of_le (by omega) h))).trans hc⟩
      · go_wp2
        have hW5 : ∀ k, k < w1.heap.size → k ≠ w.heap.size → (W4.setRow w.heap.size (pkc zpk)).heap[k]? = w1.heap[k]? := fun k hk hne => by
          rw [setRow_heap_other hne]; exact hG4.out.block k hk
        have hfin := FIN.out (W4.setRow w.heap.size (pkc zpk)) hG4.out.os hG4.out.tape hG4.out.output (by have := hG4.out.size; simpa [World.setRow] using this) hW5
        refine bodyPost_ret (run_results_cell_tmp 46 Try.results32 _ _ w.heap.size (pkc zpk) rfl isAgg27 size27 (by omega) (by rw [sz_pkc]; trivial) ?_) rfl ⟨l', hSorted.out, hfin.1, hfin.2, .inl ⟨?_, rfl⟩⟩
        · have : W4.heap[w.heap.size]? = some (.cells (pkc zpk) 27) := (hG4.out.block _ (by omega)).trans HRES.out
          exact rowOf_heap (setRow_heap_at this)
        · simp [wholeOk, hlast, hmore]
end Go.Proofs.Ytfdjpmglfjiamaa
