/- The law FragBounds: its calls, in cells. Walk: the law FragBounds. -/
import Derived.Test.YtfdjpmglfjiamaaAw
namespace Go.Proofs.Ytfdjpmglfjiamaa
open Go Go.Sort Go.RowKit
set_option linter.unusedSimpArgs false
set_option linter.unusedVariables false

/-- A call of the script. -/
structure Opx where
  tick : Bool
  now : Int
  peer : Int
  epoch : Int
  p : Pk
def opl (x : Opx) : List Value := .bool x.tick :: .int .i64 x.now :: .int .i64 x.peer :: .int .i64 x.epoch :: pkl x.p
def opc (x : Opx) : Array Value := (opl x).toArray
theorem opl_len (x : Opx) : (opl x).length = 50 := by simp [opl, pkl_len]
theorem opc_size (x : Opx) : (opc x).size = 50 := by simp [opc, opl_len]
theorem isAgg52 (w : World) : (isAgg 52).run Try.prog w = .ok true w := by kernel_rfl
theorem size52 (w : World) : (Go.sizeOf 52).run Try.prog w = .ok 50 w := by kernel_rfl
@[go_sem] theorem sz_opc (x : Opx) : sz (opc x) 50 = True := by simp [sz, opc_size]
theorem opl_ones (x : Opx) : ∀ v ∈ opl x, v.oneCell' = true := by
  intro v hv
  simp only [opl, List.mem_cons] at hv
  rcases hv with rfl | rfl | rfl | rfl | hv
  · rfl
  · rfl
  · rfl
  · rfl
  · exact pkl_ones _ v hv
@[go_sem] theorem ones_opc (x : Opx) : ones (opc x) = True := by
  simp only [ones, eq_iff_iff, iff_true]
  rw [Array.all_eq_true_iff_forall_mem]
  intro v hv
  exact opl_ones x v (by simpa [opc] using hv)
@[go_sem] theorem fit_opc4 (x : Opx) : fitsAt (opc x) 4 46 = True := by simp [fitsAt, opc_size]
@[go_sem] theorem ext_opc4 (x : Opx) : (opc x).extract 4 50 = pkc x.p := by
  apply Array.toList_inj.1
  simp only [opc, opl, pkc, Array.toList_extract, List.extract, List.drop_succ_cons, List.drop_zero]
  rw [List.take_of_length_le (by rw [pkl_len]; omega)]
@[go_sem] theorem opc_1 (x : Opx) : (opc x)[1]? = some (.int .i64 x.now) := by simp [opc, opl]
@[go_sem] theorem opc_2 (x : Opx) : (opc x)[2]? = some (.int .i64 x.peer) := by simp [opc, opl]
@[go_sem] theorem opc_3 (x : Opx) : (opc x)[3]? = some (.int .i64 x.epoch) := by simp [opc, opl]
@[go_sem] theorem run_load52 (w : World) (g off : Nat) (h : fitsAt (rowOf w g) off 50) : (xload 52 (.pointer (some ⟨g, off, none⟩))).run Try.prog w = .ok (.value (.agg ((rowOf w g).extract off (off + 50)))) w :=
  run_xload w g off 52 50 isAgg52 size52 (by omega) h
@[go_sem] theorem run_store52 (w : World) (g : Nat) (cs : Array Value) (h0 : sz (rowOf w g) 50) (h1 : freeAt w g = true) (h2 : sz cs 50) (h3 : ones cs) : (xstore 52 (.pointer (some ⟨g, 0, none⟩)) (.agg cs)).run Try.prog w = .ok .skip (w.setRow g cs) :=
  run_xstore w g 52 50 cs size52 h0 h1 h2 h3
def zop : Opx := ⟨false, 0, 0, 0, zpk⟩
@[go_sem] theorem run_alloc52 (w : World) : (xalloc 52).run Try.prog w = .ok (.value (.pointer (some ⟨w.heap.size, 0, none⟩))) (w.alloc (.cells (opc zop) 52)) := by kernel_rfl
end Go.Proofs.Ytfdjpmglfjiamaa
namespace Go.Proofs.Ytfdjpmglfjiamaa
open Go Go.Sort Go.RowKit
set_option linter.unusedSimpArgs false
set_option linter.unusedVariables false

/-- A slice of calls. -/
def OpSlice (w : World) (v : Value) (l : List Opx) : Prop :=
  (∃ a c, v = .slice a 0 c ∧ l = []) ∨ ∃ g o c, v = .slice (some ⟨g, o, none⟩) l.length c ∧ g < w.heap.size ∧ ∀ i x, l[i]? = some x → (rowOf w g).extract (o + i * 50) (o + i * 50 + 50) = opc x ∧ fitsAt (rowOf w g) (o + i * 50) 50

theorem run_idx50 (g o n c : Nat) (i : Int) (w : World) (h0 : 0 ≤ i) (h1 : i < n) :
    (Instr.indexAt 50 (.slice (some ⟨g, o, none⟩) n c) (.int .i64 i)).run Try.prog w = .ok (.pointer (some ⟨g, o + i.toNat * 50, none⟩)) w := by
  rw [run_indexAt_slice w 50 _ _ _ _ _ (by kernel_rfl), if_pos ⟨h0, h1⟩]
  have hz : (Go.sizeOf (Try.prog.elem 50)).run Try.prog w = .ok 50 w := by kernel_rfl
  rw [hz, Result.andThen_ok, Addr.add_lit]

attribute [local irreducible] Calls in
set_option maxRecDepth 100000 in
set_option maxHeartbeats 4000000 in
theorem bounds_any (w : World) (v : Value) (l : List Opx) (hs : OpSlice w v l) (hx : ∀ x ∈ l, ExtsAt w x.p) (hsz : ∀ x ∈ l, x.p.opts.size ≤ 140737488351232 ∧ x.p.pay.size ≤ 140737488351232) (hl : l.length ≤ 4611686018427387904) :
    Calls Try.prog 5 #[v] w fun e w' => e = .returned (.bool true) ∧ Gr w w' := by
  have H6 := Lib.hid (awake_any w)
  have HS := Lib.hid hs
  have HX := Lib.hid hx
  have HSZ := Lib.hid hsz
  have hform : (∃ a c, v = .slice a 0 c ∧ l.length = 0) ∨ ∃ g o c, l ≠ [] ∧ v = .slice (some ⟨g, o, none⟩) l.length c := by
    by_cases hne : l = []
    · rcases hs with ⟨a, c, h1, h2⟩ | ⟨g, o, c, h1, _⟩
      · exact .inl ⟨a, c, h1, by rw [h2]; rfl⟩
      · exact .inl ⟨some ⟨g, o, none⟩, c, by rw [h1, hne]; rfl, by rw [hne]; rfl⟩
    rcases hs with ⟨a, c, h1, h2⟩ | ⟨g, o, c, h1, _⟩
    · exact absurd h2 hne
    · exact .inr ⟨g, o, c, hne, h1⟩
  clear hs hx hsz
  go_enter Try.func5, Try.ntmps5
  go_wp2_with (fail)
  refine H6.out.mono ?_
  rintro e W1 ⟨rfl, hg1⟩
  have HG1 := Lib.hid hg1
  clear hg1 H6
  have H8 := Lib.hid (new_any W1)
  go_wp2_with (fail)
  refine H8.out.mono ?_
  rintro e W2 ⟨rfl, rfl⟩
  have hbox := Lib.hid (new_box W1)
  have hfr2 : Hid (Fr W1.heap.size W1 (W1.alloc (.cells #[.int .i64 0, .int .i64 0, .map none] 63))) := Fr.of_gr ((Gr.refl W1).alloc _) (Nat.le_refl _)
  clear H8
  generalize W1.alloc (.cells #[.int .i64 0, .int .i64 0, .map none] 63) = W2 at hbox hfr2 ⊢
  rcases hform with ⟨a, c, rfl, h0⟩ | ⟨g, o, c, hne, rfl⟩
  · go_wp2
    go_loopw [5] (fun i wr => i = .int .i64 0 ∧ ∃ y, wr = gr W2 y) (fun _ _ => 0)
    case atStart => exact ⟨rfl, Gr.refl W2⟩
    case round =>
      obtain ⟨rfl, y, rfl⟩ := hrel
      go_wp2
      go_ret
      exact ⟨rfl, HG1.out.trans ((Gr.of_below hfr2.out.below).more y)⟩
  · have hrows : Hid (g < w.heap.size ∧ ∀ i x, l[i]? = some x → (rowOf w g).extract (o + i * 50) (o + i * 50 + 50) = opc x ∧ fitsAt (rowOf w g) (o + i * 50) 50) := by
      rcases HS.out with ⟨_, _, _, h2⟩ | ⟨g', o', c', h1, h2, h3⟩
      · exact absurd h2 hne
      · simp only [Value.slice.injEq, Option.some.injEq, Addr.mk.injEq, and_true] at h1
        obtain ⟨⟨rfl, rfl⟩, _⟩ := h1
        exact ⟨h2, h3⟩
    clear HS hne
    go_wp2
    go_loopw [5] (fun i wr => ∃ (k : Nat) (hs : List Hp) (now count : Int), i = .int .i64 k ∧ k ≤ l.length ∧ BoxAt W1.heap.size wr W1.heap.size now count hs ∧ Inv (hs.map Hp.ab) ∧ count ≤ k ∧ Fr W1.heap.size W1 wr) (fun i _ => l.length - (intOf i).toNat)
    case atStart => exact ⟨0, [], 0, 0, rfl, Nat.zero_le _, hbox.out, Inv.nil, by omega, hfr2.out⟩
    case round =>
      obtain ⟨k, hs, now, count, rfl, hk, hb, hinv, hcnt, hfr⟩ := hrel
      have HB := Lib.hid hb
      have HINV := Lib.hid hinv
      have HFR := Lib.hid hfr
      clear hb hinv hfr
      by_cases hlt : k < l.length
      · obtain ⟨x, hx⟩ : ∃ x, l[k]? = some x := ⟨_, List.getElem?_eq_getElem hlt⟩
        have hxm : x ∈ l := List.mem_of_getElem? hx
        have hgw := hrows.out.1
        have hw1 : w.heap.size ≤ W1.heap.size := HG1.out.below.size
        have hgwr : wr.heap[g]? = w.heap[g]? := (HFR.out.below.block g (by omega)).trans (HG1.out.below.block g hgw)
        have hro : rowOf wr g = rowOf w g := by unfold rowOf; rw [hgwr]
        obtain ⟨h1, h2⟩ := hrows.out.2 k x hx
        rw [← hro] at h1 h2
        have h3 : g < wr.heap.size := by have := HFR.out.below.size; omega
        have i1 : ∀ W, (Instr.indexAt 50 (.slice (some ⟨g, o, none⟩) l.length c) (.int .i64 (k : Int))).run Try.prog W = .ok (.pointer (some ⟨g, o + k * 50, none⟩)) W := fun W => by
          have := run_idx50 g o l.length c k W (by omega) (by omega)
          simpa using this
        have hex : ExtsAt w x.p := HX.out x hxm
        have hsz := HSZ.out x hxm
        have HEX := Lib.hid hex
        have HSX := Lib.hid hsz
        clear hx hxm hgwr hro hex hsz
        have HT := Lib.hid (take_any (HB.out.grown ((Gr.refl wr).alloc (.cells (opc x) 52))) x.now x.peer x.epoch x.p
          (gr_less HEX.out ((HG1.out.trans (Gr.of_below HFR.out.below)).alloc _))
          (by
            by_cases he : x.p.exts = []
            · exact .inl he
            · exact .inr (.inl (by have := (HEX.out.at_ he).2; omega)))
          HSX.out.1 HSX.out.2 (by omega) (by have := HINV.out.few; simp at this; omega))
        go_wp2_with (fail)
        refine HT.out.mono ?_
        rintro e W4 ⟨hs', count', r, ⟨q, rfl, hq0, hq1⟩, hb4, hf4, hc0, hc1, htook⟩
        obtain ⟨hinv4, hres⟩ := took_inv HINV.out htook
        have hfr4 : Fr W1.heap.size W1 W4 := (HFR.out.trans (Fr.of_gr ((Gr.refl wr).alloc _) HFR.out.below.size)).trans hf4
        have HI := Lib.hid hinv4
        have HF4 := Lib.hid hfr4
        have HB4 := Lib.hid hb4
        clear hb4 hf4 htook hinv4 hfr4 HT h1 h2 h3 i1
        have hsz4 : W1.heap.size ≤ W4.heap.size := HF4.out.below.size
        cases r with
        | none =>
          have hqz := hq0 rfl
          subst hqz
          clear hq0 hq1 hres
          simp only [Option.isSome_none]
          have hz : zpk.pay.toList.isEmpty = true := by rw [ByteArray.toList_eq]; rfl
          have hz2 : zpk.pay.toList = [] := by rw [ByteArray.toList_eq]; rfl
          go_upto_region 12 with (fail)
          have HB6 : Hid (BoxAt W1.heap.size (W4.alloc (.cells (pkc zpk) 27)) W1.heap.size _ _ _) := HB4.out.grown ((Gr.refl W4).alloc _)
          have HF6 : Hid (Fr W1.heap.size W1 (W4.alloc (.cells (pkc zpk) 27))) := HF4.out.trans (Fr.of_gr ((Gr.refl W4).alloc _) hsz4)
          generalize W4.alloc (.cells (pkc zpk) 27) = W6 at HB6 HF6 ⊢
          have HR12 := Lib.hid (waiting_any HB6.out)
          go_wp2_with (fail)
          refine HR12.out.mono ?_
          rintro e W7 ⟨rfl, rfl⟩
          have hnlen : hs'.length ≤ 8 := by have := HI.out.few; simpa using this
          have hheld : hs'.length ≤ heldH hs' ∧ heldH hs' ≤ 524280 := by
            have := inv_held HI.out
            rw [held_ab] at this
            simpa using this
          have HH : Hid (∀ W, Gr W7 W → Calls Try.prog 15 #[.pointer (some ⟨W1.heap.size, 0, none⟩)] W fun e w' => e = .returned (.int .i64 (heldH hs')) ∧ Gr W w') := fun W hg => held_any (HB6.out.grown hg) (by omega)
          have HN : Hid (∀ W, Gr W7 W → Calls Try.prog 16 #[.pointer (some ⟨W1.heap.size, 0, none⟩)] W fun e w' => (∃ r : Int, e = .returned (.int .i64 r) ∧ (r < 0 ↔ hs' = [])) ∧ Gr W w') := fun W hg => next_any (HB6.out.grown hg)
          go_wp2_with (fail)
          refine (HH.out _ (Gr.refl W7)).mono ?_
          rintro e W8 ⟨rfl, hg8⟩
          have HG8 := Lib.hid hg8
          clear hg8
          go_wp2_with (fail)
          refine (HN.out _ HG8.out).mono ?_
          rintro e W9 ⟨⟨rn, rfl, hrn⟩, hg9⟩
          have HG9 : Hid (Gr W7 W9) := HG8.out.trans hg9
          have HRN := Lib.hid hrn
          clear hg9 hrn
          by_cases hneg : rn < 0
          · have hl0 : (hs'.length : Int) = 0 := by rw [HRN.out.1 hneg]; rfl
            have hl1 : hs'.length = 0 := by omega
            have hd1 : decide (rn < 0) = true := decide_eq_true hneg
            have hd2 : decide (hs'.length = 0) = true := decide_eq_true hl1
            have hd3 : ((hs'.length : Int) == 0) = true := by simp [hl1]
            go_wp2_with (fail)
            refine (HH.out _ HG9.out).mono ?_
            rintro e W10 ⟨rfl, hg10⟩
            have HG10 : Hid (Gr W7 W10) := HG9.out.trans hg10
            clear hg10
            go_wp2
            refine ⟨⟨k + 1, hs', _, count', rfl, hlt, HB6.out.grown HG10.out, HI.out, by omega, HF6.out.trans (Fr.of_gr HG10.out HF6.out.below.size)⟩, by simp [intOf]; omega⟩
          · have hl0 : ¬ (hs'.length : Int) = 0 := fun h => hneg (HRN.out.2 (List.eq_nil_of_length_eq_zero (by omega)))
            have hl1 : ¬ hs'.length = 0 := by omega
            have hd1 : decide (rn < 0) = false := decide_eq_false hneg
            have hd2 : decide (hs'.length = 0) = false := decide_eq_false hl1
            have hd3 : ((hs'.length : Int) == 0) = false := by simpa using hl1
            have hd4 : hs' ≠ [] := fun h => hl1 (by rw [h]; rfl)
            go_wp2_with (fail)
            refine (HH.out _ HG9.out).mono ?_
            rintro e W10 ⟨rfl, hg10⟩
            have HG10 : Hid (Gr W7 W10) := HG9.out.trans hg10
            clear hg10
            go_wp2
            refine ⟨⟨k + 1, hs', _, count', rfl, hlt, HB6.out.grown HG10.out, HI.out, by omega, HF6.out.trans (Fr.of_gr HG10.out HF6.out.below.size)⟩, by simp [intOf]; omega⟩
        | some z =>
          obtain ⟨e1, e2, e3⟩ := hq1 z rfl
          obtain ⟨r1, r2, r3, r4⟩ := hres z rfl
          subst e1
          have hrq : right q = true := r1
          have hmq : q.more = false := r2
          have hoq : q.off = 0 := r3
          have hcq : q.cut = false := r4
          have HRQ := Lib.hid (right_any q (W4.alloc (.cells (pkc q) 27)) (gr_less e2 ((Gr.refl W4).alloc _)) (by have := opts_small hrq; omega))
          rw [hrq] at HRQ
          clear hq0 hq1 hres e2 e3 r1 r2 r3 r4 hrq
          simp only [Option.isSome_some]
          go_wp2_with (fail)
          refine HRQ.out.mono ?_
          rintro e W6 ⟨rfl, hg6⟩
          have HB6 : Hid (BoxAt W1.heap.size W6 W1.heap.size _ _ _) := HB4.out.grown (((Gr.refl W4).alloc _).trans hg6)
          have HF6 : Hid (Fr W1.heap.size W1 W6) := HF4.out.trans (Fr.of_gr (((Gr.refl W4).alloc _).trans hg6) hsz4)
          have hb7 : W6.heap[W4.heap.size]? = some (.cells (pkc q) 27) := (hg6.below.block _ (by simp)).trans (heap_alloc_new _ _)
          have f7 := box_cell hb7
          clear hb7 hg6 HRQ
          go_upto_region 12 with (fail)
          have HR12 := Lib.hid (waiting_any HB6.out)
          go_wp2_with (fail)
          refine HR12.out.mono ?_
          rintro e W7 ⟨rfl, rfl⟩
          have hnlen : hs'.length ≤ 8 := by have := HI.out.few; simpa using this
          have hheld : hs'.length ≤ heldH hs' ∧ heldH hs' ≤ 524280 := by
            have := inv_held HI.out
            rw [held_ab] at this
            simpa using this
          have HH : Hid (∀ W, Gr W7 W → Calls Try.prog 15 #[.pointer (some ⟨W1.heap.size, 0, none⟩)] W fun e w' => e = .returned (.int .i64 (heldH hs')) ∧ Gr W w') := fun W hg => held_any (HB6.out.grown hg) (by omega)
          have HN : Hid (∀ W, Gr W7 W → Calls Try.prog 16 #[.pointer (some ⟨W1.heap.size, 0, none⟩)] W fun e w' => (∃ r : Int, e = .returned (.int .i64 r) ∧ (r < 0 ↔ hs' = [])) ∧ Gr W w') := fun W hg => next_any (HB6.out.grown hg)
          go_wp2_with (fail)
          refine (HH.out _ (Gr.refl W7)).mono ?_
          rintro e W8 ⟨rfl, hg8⟩
          have HG8 := Lib.hid hg8
          clear hg8
          go_wp2_with (fail)
          refine (HN.out _ HG8.out).mono ?_
          rintro e W9 ⟨⟨rn, rfl, hrn⟩, hg9⟩
          have HG9 : Hid (Gr W7 W9) := HG8.out.trans hg9
          have HRN := Lib.hid hrn
          clear hg9 hrn
          by_cases hneg : rn < 0
          · have hl0 : (hs'.length : Int) = 0 := by rw [HRN.out.1 hneg]; rfl
            have hl1 : hs'.length = 0 := by omega
            have hd1 : decide (rn < 0) = true := decide_eq_true hneg
            have hd2 : decide (hs'.length = 0) = true := decide_eq_true hl1
            have hd3 : ((hs'.length : Int) == 0) = true := by simp [hl1]
            go_wp2_with (fail)
            refine (HH.out _ HG9.out).mono ?_
            rintro e W10 ⟨rfl, hg10⟩
            have HG10 : Hid (Gr W7 W10) := HG9.out.trans hg10
            clear hg10
            go_wp2
            refine ⟨⟨k + 1, hs', _, count', rfl, hlt, HB6.out.grown HG10.out, HI.out, by omega, HF6.out.trans (Fr.of_gr HG10.out HF6.out.below.size)⟩, by simp [intOf]; omega⟩
          · have hl0 : ¬ (hs'.length : Int) = 0 := fun h => hneg (HRN.out.2 (List.eq_nil_of_length_eq_zero (by omega)))
            have hl1 : ¬ hs'.length = 0 := by omega
            have hd1 : decide (rn < 0) = false := decide_eq_false hneg
            have hd2 : decide (hs'.length = 0) = false := decide_eq_false hl1
            have hd3 : ((hs'.length : Int) == 0) = false := by simpa using hl1
            have hd4 : hs' ≠ [] := fun h => hl1 (by rw [h]; rfl)
            go_wp2_with (fail)
            refine (HH.out _ HG9.out).mono ?_
            rintro e W10 ⟨rfl, hg10⟩
            have HG10 : Hid (Gr W7 W10) := HG9.out.trans hg10
            clear hg10
            go_wp2
            refine ⟨⟨k + 1, hs', _, count', rfl, hlt, HB6.out.grown HG10.out, HI.out, by omega, HF6.out.trans (Fr.of_gr HG10.out HF6.out.below.size)⟩, by simp [intOf]; omega⟩
      · go_wp2
        go_ret
        refine ⟨rfl, HG1.out.trans (Gr.of_below HFR.out.below)⟩
end Go.Proofs.Ytfdjpmglfjiamaa
