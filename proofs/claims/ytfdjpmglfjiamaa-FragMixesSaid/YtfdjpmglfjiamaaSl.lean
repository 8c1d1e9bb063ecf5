/- Walks: slices.Clip at packets, frag.Split. -/
import Derived.Test.YtfdjpmglfjiamaaPt
import Derived.Test.YtfdjpmglfjiamaaAp
import Derived.Test.YtfdjpmglfjiamaaWj
import Derived.Test.YtfdjpmglfjiamaaHe
import Derived.Test.YtfdjpmglfjiamaaWw
import Derived.Deep.DeepCutAuto
namespace Go.Proofs.Ytfdjpmglfjiamaa
open Go Go.Sort Go.RowKit
set_option linter.unusedSimpArgs false
set_option linter.unusedVariables false

theorem clip_any (g n c : Nat) (w : World) (hnc : n ≤ c) (hc : c ≤ 9223372036854775807) :
    Calls Try.prog 20 #[.slice (some ⟨g, 0, none⟩) n c] w fun e w' => e = .returned (.slice (some ⟨g, 0, none⟩) n n) ∧ w' = w := by
  go_enter Try.func20, Try.ntmps20
  go_wp2
  go_ret
  exact ⟨rfl, rfl⟩
theorem clip_nil (w : World) :
    Calls Try.prog 20 #[.slice none 0 0] w fun e w' => e = .returned (.slice none 0 0) ∧ w' = w := by
  go_enter Try.func20, Try.ntmps20
  go_wp2
  go_ret
  exact ⟨rfl, rfl⟩

/-- What Split answers. -/
def SplitEnd (w : World) (p : Pk) (mtu id : Int) (e : Ending) (w' : World) : Prop :=
  ∃ v l, e = .returned (.tuple #[v, .int .i64 (split (er p) mtu id).1]) ∧ PkSlice w' v l ∧ l.map er = (split (er p) mtu id).2 ∧ (∀ x ∈ l, ExtsAt w' x ∧ Cloned w.heap.size w' x) ∧ Gr w w'

theorem own_gr {B : Nat} {w w' : World} {v : Value} {n : Nat} {xs : List Value} (h : w.ownsRow B 27 46 v n xs) (hg : Gr w w') : w'.ownsRow B 27 46 v n xs := by
  have bl := hg.below
  exact h.kept (row := none) ⟨bl.os, bl.tape, bl.output, bl.size, fun k hk _ => bl.block k hk⟩ (by cases v.ownBlock <;> simp)

theorem size_er (p : Pk) : sizeN (er p) = sizeN p := rfl
theorem PkRow.one {w : World} {b : Nat} {p : Pk} (h : w.heap[b]? = some (.cells (pkc p) 27)) : PkRow w b [p] := by
  refine ⟨(Array.getElem?_eq_some_iff.1 h).1, fun k x hx => ?_⟩
  cases k with
  | zero =>
    simp at hx
    subst hx
    rw [rowOf_heap h]
    refine ⟨by rw [Nat.zero_mul, Nat.zero_add]; have := pkc_size p; rw [← this]; simp, by simp [fitsAt, pkc_size]⟩
  | succ k => simp at hx

theorem cell_pk_new' (w : World) (p : Pk) : ∀ j u, (pkl p)[j]? = some u → (w.alloc (.cells (pkc p) 27)).cell? ((⟨w.heap.size, 0, none⟩ : Addr).add j) = some u := by
  intro j u hj
  have hadd : (⟨w.heap.size, 0, none⟩ : Addr).add j = ⟨w.heap.size, j, none⟩ := by unfold Addr.add; split <;> simp_all
  rw [hadd, cell_of_row _ _ j _ 27 (0, 0) (heap_alloc_new w _)]
  simpa [pkc] using hj
theorem own27' {B : Nat} {w : World} {v : Value} {n : Nat} {xs : List Value} (h : w.ownsRow B 27 46 v n xs) {g : Nat} (hg : v.ownBlock = some g) : B ≤ g ∧ ∃ cur, w.heap[g]? = some (.cells cur 27) := by
  rcases h.2 with ⟨rfl, _⟩ | ⟨g', cap, cur, rfl, hB, hg', _⟩
  · simp [Value.ownBlock] at hg
  · simp only [Value.ownBlock, Option.some.injEq] at hg
    subst hg
    exact ⟨hB, cur, hg'⟩
/-- What a round of Split leaves. -/
theorem round_keep {B : Nat} {W7 wr W8 W9 w3 : World} {v : Value} {n : Nat} {xs : List Value} {o : Obj} (hg8 : Gr wr W8) (h9 : ∀ k, k ≠ wr.heap.size → W9.heap[k]? = W8.heap[k]?) (h9s : W9.heap.size = W8.heap.size) (o1 : W9.os = W8.os) (o2 : W9.tape = W8.tape) (o3 : W9.output = W8.output)
    (hx8 : ∃ c, W8.heap[wr.heap.size]? = some (.cells c 27)) (hown : W9.ownsRow B 27 46 v n xs) (hgrow : (W9.alloc o).grownBy w3 v.ownBlock) (hbl : Below B W7 wr) (hB : B ≤ wr.heap.size) :
    (∀ (k : Nat) (c : Array Value), W8.heap[k]? = some (Obj.cells c 59) → w3.heap[k]? = some (Obj.cells c 59)) ∧ W8.heap.size ≤ w3.heap.size ∧ Below B W7 w3 := by
  have b8 := hg8.below
  have hs := hgrow.size
  rw [World.size_alloc] at hs
  have hs8 := b8.size
  refine ⟨?_, by omega, ?_⟩
  · intro k c hk
    have hkl := (Array.getElem?_eq_some_iff.1 hk).1
    have hne : k ≠ wr.heap.size := by rintro rfl; obtain ⟨c', hc'⟩ := hx8; rw [hc'] at hk; simp at hk
    rw [hgrow.block k (by simp; omega) (fun e => by
      obtain ⟨_, cur, hc⟩ := own27' hown e.symm
      rw [h9 k hne, hk] at hc; simp at hc), heap_alloc_old _ _ (by omega), h9 k hne]
    exact hk
  · refine ⟨?_, ?_, ?_, ?_, fun k hk => ?_⟩
    · rw [hgrow.os]; exact o1.trans (b8.os.trans hbl.os)
    · rw [hgrow.tape]; exact o2.trans (b8.tape.trans hbl.tape)
    · rw [hgrow.output]; exact o3.trans (b8.output.trans hbl.output)
    · have := hbl.size; omega
    · rw [hgrow.block k (by simp; omega) (fun e => by have := (own27' hown e.symm).1; omega), heap_alloc_old _ _ (by omega), h9 k (by omega), b8.block k (by omega)]
      exact hbl.block k hk

attribute [local irreducible] Calls in
set_option maxRecDepth 100000 in
set_option maxHeartbeats 4000000 in
theorem split_any (p : Pk) (mtu id : Int) (w : World) (hx : ExtsAt w p) (hopt : p.opts.size ≤ 140737488351232) (hpay : p.pay.size ≤ 140737488351232) (hm0 : -9223372036854775808 ≤ mtu) (hm1 : mtu ≤ 9223372036854775807) (hi0 : -9223372036854775808 ≤ id) (hi1 : id ≤ 9223372036854775807) :
    Calls Try.prog 7 #[.agg (pkc p), .int .i64 mtu, .int .i64 id] w fun e w' => SplitEnd w p mtu id e w' := by
  have hb3 : (w.alloc (.cells (pkc p) 27)).heap[w.heap.size]? = some (.cells (pkc p) 27) := heap_alloc_new _ _
  have HG0 : Hid (Gr w (w.alloc (.cells (pkc p) 27))) := (Gr.refl w).alloc _
  have HX := Lib.hid hx
  clear hx
  go_enter Try.func7, Try.ntmps7
  go_upto_region 2 with (fail)
  generalize w.alloc (.cells (pkc p) 27) = W0 at hb3 HG0 ⊢
  have f3 := box_cell hb3
  have z3 := box_size hb3
  have r3 : rowOf W0 w.heap.size = pkc p := rowOf_heap hb3
  have HB3 := Lib.hid hb3
  clear hb3
  go_upto_if 19 with (fail)
  go_cut [8] from 19 to 19 (fun c wx => c = .int .i64 (leastN p) ∧ wx = W0)
  case first =>
    cases h6 : p.src.v6
    · go_wp2
      go_meet
      exact ⟨by simp [leastN, h6], rfl⟩
    · go_wp2
      go_meet
      exact ⟨by simp [leastN, h6], rfl⟩
  case rest =>
  obtain ⟨rfl, rfl⟩ := hcut
  have HR10 := Lib.hid (right_any p wc (gr_less HX.out HG0.out) hopt)
  have hl0 : leastN p = 68 ∨ leastN p = 1280 := by unfold leastN; split <;> simp
  go_upto_region 4 with (fail)
  go_cut [39] from 20 to 38 (fun c wx => c = .bool (splitBad p mtu id) ∧ Gr wc wx)
  case first =>
    cases hr : right p
    · rw [hr] at HR10
      go_wp2_with (fail)
      refine HR10.out.mono ?_
      rintro e W1 ⟨rfl, y, rfl⟩
      go_wp2
      go_meet
      exact ⟨by simp [splitBad, hr], _, rfl⟩
    · rw [hr] at HR10
      go_wp2_with (fail)
      refine HR10.out.mono ?_
      rintro e W1 ⟨rfl, y, rfl⟩
      by_cases hm : mtu < leastN p
      · go_wp2
        go_meet
        exact ⟨by simp [splitBad, hr, hm], _, rfl⟩
      · by_cases hid0 : id < 0
        · go_wp2
          go_meet
          exact ⟨by simp [splitBad, hr, hm, hid0], _, rfl⟩
        · by_cases hid1 : 4294967295 < id
          · go_wp2
            go_meet
            exact ⟨by simp [splitBad, hr, hm, hid0, hid1], _, rfl⟩
          · go_wp2
            go_meet
            exact ⟨by simp [splitBad, hr, hm, hid0, hid1], _, rfl⟩
  case rest =>
  obtain ⟨rfl, hg1⟩ := hcut
  have HG1 : Hid (Gr w wc) := HG0.out.trans hg1
  have hb3 : wc.heap[w.heap.size]? = some (.cells (pkc p) 27) := (hg1.below.block _ z3).trans HB3.out
  clear HB3 HG0 f3 r3 HR10 hg1 z3
  have f3 := box_cell hb3
  have z3 := box_size hb3
  have r3 : rowOf wc w.heap.size = pkc p := rowOf_heap hb3
  have HB3 := Lib.hid hb3
  clear hb3
  by_cases hbad : splitBad p mtu id = true
  · --D{
    simp only [hbad]
    have HBAD := Lib.hid hbad
    clear hbad
    go_wp2
    go_ret2
    refine ⟨_, [], ?_, .inl ⟨rfl, rfl⟩, ?_, by simp, HG1.out⟩
    · unfold split
      rw [if_pos (show splitBad (er p) mtu id = true from HBAD.out)]
      rfl
    · unfold split
      rw [if_pos (show splitBad (er p) mtu id = true from HBAD.out)]
      rfl
    --D}
  have hbad' : splitBad p mtu id = false := by simpa using hbad
  simp only [hbad']
  have hparts : right p = true ∧ leastN p ≤ mtu ∧ 0 ≤ id ∧ id ≤ 4294967295 ∧ p.cut = false := by
    simp only [splitBad, Bool.or_eq_false_iff, Bool.not_eq_false', decide_eq_false_iff_not] at hbad'
    obtain ⟨⟨⟨⟨a, b⟩, c⟩, d⟩, e⟩ := hbad'
    exact ⟨a, by omega, by omega, by omega, e⟩
  have HBAD := Lib.hid hbad'
  clear hbad hbad'
  obtain ⟨hr, hml, hid0, hid1, hcf⟩ := hparts
  have HS9 := Lib.hid (size_any p wc (gr_less HX.out HG1.out) hopt hpay)
  have hsz : (sizeN p : Int) ≤ 281474976710656 := by
    have h1 := headN_le p hr (gr_less HX.out HG1.out).len
    simp only [sizeN, hr, if_true]
    omega
  have HRR := Lib.hid hr
  have HCF := Lib.hid hcf
  clear hr hcf
  go_wp2_with (fail)
  refine HS9.out.mono ?_
  rintro e W2 ⟨rfl, y2, rfl⟩
  have HB18 := Lib.hid (build_any p (gr wc y2) HRR.out (gr_less (gr_less HX.out HG1.out) ⟨y2, rfl⟩) hpay)
  clear HS9
  go_wp2_with (fail)
  refine HB18.out.mono ?_
  rintro e W3 ⟨⟨s0, rfl⟩, hg3⟩
  have HG3 : Hid (Gr w W3) := (HG1.out.trans ⟨y2, rfl⟩).trans hg3
  have hb3 : W3.heap[w.heap.size]? = some (.cells (pkc p) 27) := by
    rw [hg3.below.block _ (by rw [size_gr]; omega), heap_gr _ _ z3]; exact HB3.out
  clear HB18 HB3 HG1 hg3 f3 z3 r3
  have f3 := box_cell hb3
  have z3 := box_size hb3
  have r3 : rowOf W3 w.heap.size = pkc p := rowOf_heap hb3
  have HB3 := Lib.hid hb3
  clear hb3
  by_cases hbld : bldCode p = 0
  · rw [hbld]
    have HBLD := Lib.hid hbld
    clear hbld
    by_cases hle : (sizeN p : Int) ≤ mtu
    · --D{
      have HLE := Lib.hid hle
      have f43 : W3.cell? ⟨w.heap.size, 43, none⟩ = some (.slice p.xa p.xl p.xc) := (f3 43).trans (pkc_43 p)
      have HCL := Lib.hid (clone_any p W3 (gr_less HX.out HG3.out) (right_xl4 HRR.out))
      go_wp2_with (fail)
      refine HCL.out.mono ?_
      rintro e W4 ⟨xa', xc', rfl, hE, hC, hg4⟩
      have hb4 : W4.heap[w.heap.size]? = some (.cells (pkc p) 27) := (hg4.below.block _ z3).trans HB3.out
      have g43 : W4.frozen? ⟨w.heap.size, 43, none⟩ = false := by simp [World.frozen?, hb4]
      have f4 : W4.cell? ⟨w.heap.size, 43, none⟩ = some (.slice p.xa p.xl p.xc) := (box_cell hb4 43).trans (pkc_43 p)
      have z4 : w.heap.size < W4.heap.size := box_size hb4
      have e5 : (W4.setCell ⟨w.heap.size, 43, none⟩ (.slice xa' p.xl xc')).heap[w.heap.size]? = some (.cells (pkc { p with xa := xa', xc := xc' }) 27) := by
        rw [heap_setCell_at hb4, pkc_set43]
      have r5 : rowOf (W4.setCell ⟨w.heap.size, 43, none⟩ (.slice xa' p.xl xc')) w.heap.size = pkc { p with xa := xa', xc := xc' } := rowOf_heap e5
      have HG4 : Hid (Gr w W4) := HG3.out.trans hg4
      have HE4 := Lib.hid hE
      have HC4 := Lib.hid hC
      clear e5 hE hC hg4 HCL f43 f3 r3
      go_wp2
      go_ret2
      have hne : ∀ c, W4.heap[xg { p with xa := xa', xc := xc' }]? = some (.cells c 59) → (W4.setCell ⟨w.heap.size, 43, none⟩ (.slice xa' p.xl xc')).heap[xg { p with xa := xa', xc := xc' }]? = some (.cells c 59) := fun c hc => by
        rw [Below.heap_setCell _ _ _ _ (fun e => by rw [e, hb4] at hc; simp at hc)]; exact hc
      have hgw : Gr w (W4.setCell ⟨w.heap.size, 43, none⟩ (.slice xa' p.xl xc')) := Gr.of_below (HG4.out.below.setCell (p := ⟨w.heap.size, 43, none⟩) (Nat.le_refl _) _)
      have hs34 : w.heap.size ≤ W3.heap.size := HG3.out.below.size
      refine ⟨_, [{ p with xa := xa', xc := xc' }], ?_, .inr ⟨(W4.setCell ⟨w.heap.size, 43, none⟩ (.slice xa' p.xl xc')).heap.size, 1, rfl, by simp, by omega, PkRow.one (heap_alloc_new _ _)⟩, ?_, ?_, hgw.alloc _⟩
      · unfold split
        rw [if_neg (show ¬ splitBad (er p) mtu id = true by rw [show splitBad (er p) mtu id = false from HBAD.out]; simp), if_neg (by rw [bld_er]; exact fun h => h HBLD.out), if_pos (by rw [size_er]; exact HLE.out)]
        simp
      · unfold split
        rw [if_neg (show ¬ splitBad (er p) mtu id = true by rw [show splitBad (er p) mtu id = false from HBAD.out]; simp), if_neg (by rw [bld_er]; exact fun h => h HBLD.out), if_pos (by rw [size_er]; exact HLE.out)]
        rfl
      · intro x hx
        rw [List.mem_singleton.1 hx]
        rcases HC4.out with r | ⟨r, c, hc⟩
        · exact ⟨gr_less (HE4.out.moved (w' := W4.setCell ⟨w.heap.size, 43, none⟩ (.slice xa' p.xl xc')) (by simp) (.inl r)) ((Gr.refl _).alloc _), .inl r⟩
        · have e1 := hne c hc
          exact ⟨gr_less (HE4.out.moved (w' := W4.setCell ⟨w.heap.size, 43, none⟩ (.slice xa' p.xl xc')) (by simp) (.inr (e1.trans hc.symm))) ((Gr.refl _).alloc _), .inr ⟨Nat.le_trans hs34 r, c, (heap_alloc_old _ _ (Array.getElem?_eq_some_iff.1 e1).1).trans e1⟩⟩
      --D}
    · cases hst : p.still
      · have HST := Lib.hid hst
        have HLE := Lib.hid hle
        go_upto_region 17 with (fail)
        clear hst hle
        go_upto_if 68 with (fail)
        go_cut [] from 68 to 71 (fun wx => wx = W3.alloc (.cells (pkc (headP p id)) 27))
        case first =>
          cases h6 : p.src.v6
          · go_wp2
            go_meet
            congr 3
            simp [headP, h6]
            exact ⟨HST.out, rfl⟩
          · go_wp2
            go_meet
            congr 3
            simp [headP, h6]
            exact ⟨HST.out, rfl⟩
        case rest =>
        obtain rfl := hcut
        have hb12 : (W3.alloc (.cells (pkc (headP p id)) 27)).heap[W3.heap.size]? = some (.cells (pkc (headP p id)) 27) := heap_alloc_new _ _
        have hb3 : (W3.alloc (.cells (pkc (headP p id)) 27)).heap[w.heap.size]? = some (.cells (pkc p) 27) := (heap_alloc_old _ _ z3).trans HB3.out
        have HG5 : Hid (Gr w (W3.alloc (.cells (pkc (headP p id)) 27))) := HG3.out.alloc _
        have hxh : ExtsAt (W3.alloc (.cells (pkc (headP p id)) 27)) (headP p id) := (gr_less HX.out HG5.out).same rfl rfl rfl rfl
        have z12 : W3.heap.size < (W3.alloc (.cells (pkc (headP p id)) 27)).heap.size := by simp
        have z312 : w.heap.size < W3.heap.size := z3
        clear z3 f3 r3 HB3 HG3
        generalize W3.alloc (.cells (pkc (headP p id)) 27) = W5 at hb12 hb3 HG5 hxh z12 ⊢
        generalize W3.heap.size = b12 at hb12 z12 z312 ⊢
        have r12 : rowOf W5 b12 = pkc (headP p id) := rowOf_heap hb12
        have f3 := box_cell hb3
        have z3 := box_size hb3
        have HB12 := Lib.hid hb12
        have HB3 := Lib.hid hb3
        have HSZ := Lib.hid (size_any (headP p id) W5 hxh hopt (by show ByteArray.size ByteArray.empty ≤ _; simp))
        have hhs : (sizeN (headP p id) : Int) ≤ 8240 := by
          have hrh := right_headP HRR.out ⟨hid0, hid1⟩ HCF.out
          have h1 := headN_le (headP p id) hrh hxh.len
          have h2 : (headP p id).pay.size = 0 := rfl
          simp only [sizeN, hrh, if_true]
          omega
        have hand : bits .andNot .i64 (mtu - sizeN (headP p id)) 7 = stepN p mtu id := by
          rw [andNot_seven _ (by omega) (by omega)]; rfl
        have hsb : stepN p mtu id ≤ mtu := by unfold stepN; omega
        have hsn : -9000 ≤ stepN p mtu id := by unfold stepN; omega
        clear hb12 hb3 hxh
        go_wp2_with (fail)
        refine HSZ.out.mono ?_
        rintro e W6 ⟨rfl, hg6⟩
        have HG6 : Hid (Gr w W6) := HG5.out.trans hg6
        have hb12 : W6.heap[b12]? = some (.cells (pkc (headP p id)) 27) := (hg6.below.block _ z12).trans HB12.out
        have hb3 : W6.heap[w.heap.size]? = some (.cells (pkc p) 27) := (hg6.below.block _ z3).trans HB3.out
        clear HSZ HB12 HB3 HG5 hg6 z12 z3 f3 r12
        have f3 := box_cell hb3
        have z3 := box_size hb3
        have z12 := box_size hb12
        have HB12 := Lib.hid hb12
        have HB3 := Lib.hid hb3
        clear hb12 hb3
        have hoff := right_offs HRR.out
        have HSB : Hid ((stepN p mtu id ≤ 0 ∨ 65528 < p.off + ((p.pay.size : Int) - 1).tdiv (stepN p mtu id) * stepN p mtu id) → split (er p) mtu id = (75, [])) := by
          intro hc
          unfold split
          rw [if_neg (show ¬ splitBad (er p) mtu id = true by rw [show splitBad (er p) mtu id = false from HBAD.out]; simp), if_neg (by rw [bld_er]; exact fun h => h HBLD.out), if_neg (by rw [size_er]; have := HLE.out; omega), if_neg (by rw [show (er p).still = false from HST.out]; simp)]
          exact if_pos hc
        have HSO : Hid (¬ (stepN p mtu id ≤ 0 ∨ 65528 < p.off + ((p.pay.size : Int) - 1).tdiv (stepN p mtu id) * stepN p mtu id) → split (er p) mtu id = (0, cuts (er p) id (stepN p mtu id).toNat 0)) := by
          intro hc
          unfold split
          rw [if_neg (show ¬ splitBad (er p) mtu id = true by rw [show splitBad (er p) mtu id = false from HBAD.out]; simp), if_neg (by rw [bld_er]; exact fun h => h HBLD.out), if_neg (by rw [size_er]; have := HLE.out; omega), if_neg (by rw [show (er p).still = false from HST.out]; simp)]
          exact if_neg hc
        have hM : ∃ M : Int, ((p.pay.size : Int) - 1).tdiv (stepN p mtu id) * stepN p mtu id = M ∧ (0 < stepN p mtu id → -140737488351232 ≤ M ∧ M ≤ 140737488351232) := by
          refine ⟨_, rfl, fun h => ?_⟩
          obtain ⟨s, hs⟩ : ∃ s : Nat, stepN p mtu id = s := ⟨(stepN p mtu id).toNat, by omega⟩
          rw [hs]
          rcases Nat.eq_zero_or_pos p.pay.size with h0 | h0
          · rw [h0, show ((0 : Nat) : Int) - 1 = -((1 : Nat) : Int) by omega, Int.neg_tdiv, ← Int.ofNat_tdiv, Int.neg_mul]
            have e : ((1 / s : Nat) : Int) * s = ((1 / s * s : Nat) : Int) := by simp
            have := Nat.div_mul_le_self 1 s
            rw [e]
            omega
          · rw [show ((p.pay.size : Int) - 1) = ((p.pay.size - 1 : Nat) : Int) by omega, ← Int.ofNat_tdiv]
            have e : (((p.pay.size - 1) / s : Nat) : Int) * s = (((p.pay.size - 1) / s * s : Nat) : Int) := by simp
            have := Nat.div_mul_le_self (p.pay.size - 1) s
            rw [e]
            omega
        obtain ⟨M, hM, hMb⟩ := hM
        by_cases hst0 : stepN p mtu id ≤ 0
        · go_upto_region 20 with (fail)
          refine wp_region_gr (by kernel_rfl) (by kernel_rfl) ?_
          repeat (go_big_quiet_step (fail))
          refine wpQuiet_nil ?_
          rintro _ ⟨y, rfl⟩
          go_wp2
          go_ret2
          have hs := HSB.out (.inl hst0)
          exact ⟨_, [], by rw [hs]; rfl, .inl ⟨rfl, rfl⟩, by rw [hs]; rfl, by simp, HG6.out.more y⟩
        · obtain ⟨hM0, hM1⟩ := hMb (by omega)
          clear hMb
          generalize hst : stepN p mtu id = st at *
          have hd0 : decide (st ≤ 0) = false := decide_eq_false hst0
          by_cases hbig : 65528 < p.off + M
          · go_upto_region 20 with (fail)
            refine wp_region_gr (by kernel_rfl) (by kernel_rfl) ?_
            repeat (go_big_quiet_step (fail))
            refine wpQuiet_nil ?_
            rintro _ ⟨y, rfl⟩
            go_wp2
            go_ret2
            have hs := HSB.out (.inr (by rw [hM]; exact hbig))
            exact ⟨_, [], by rw [hs]; rfl, .inl ⟨rfl, rfl⟩, by rw [hs]; rfl, by simp, HG6.out.more y⟩
          · go_upto_region 20 with (fail)
            refine wp_region_gr (by kernel_rfl) (by kernel_rfl) ?_
            repeat (go_big_quiet_step (fail))
            refine wpQuiet_nil ?_
            rintro _ ⟨y, rfl⟩
            go_upto_region 22 with (fail)
            have hsplit := HSO.out (by rw [hM]; omega)
            have HG7 : Hid (Gr w (gr W6 y)) := HG6.out.more y
            have hb12 : (gr W6 y).heap[b12]? = some (.cells (pkc (headP p id)) 27) := (heap_gr _ _ z12).trans HB12.out
            have hb3 : (gr W6 y).heap[w.heap.size]? = some (.cells (pkc p) 27) := (heap_gr _ _ z3).trans HB3.out
            have HBIG := Lib.hid (show p.off + M ≤ 65528 by omega)
            have hz7 : b12 < (gr W6 y).heap.size := by rw [size_gr]; omega
            have hz37 : w.heap.size < (gr W6 y).heap.size := by rw [size_gr]; omega
            obtain ⟨s, rfl⟩ : ∃ s : Nat, st = s := ⟨st.toNat, by omega⟩
            have hs0 : 0 < s := by omega
            have hss : s ≤ 281474976710656 := by have := HLE.out; omega
            rw [Int.toNat_natCast] at hsplit
            have HSPL := Lib.hid hsplit
            have HM := Lib.hid hM
            clear hsplit HG6 HB12 HB3 z12 z3 f3 HSB HSO hd0 hst0 hM hand hsn hsb hbig hst HST HLE
            generalize gr W6 y = W7 at HG7 hb12 hb3 hz7 hz37 ⊢
            have HB12 := Lib.hid hb12
            have HB3 := Lib.hid hb3
            clear hb12 hb3
            go_wp2
            go_loopw [14, 15] (fun out at_ wr => ∃ (a : Nat) (l : List Pk), at_ = .int .i64 a ∧ a = l.length * s ∧ wr.ownsRow W7.heap.size 27 46 out l.length (l.flatMap pkl) ∧ l.map er ++ cuts (er p) id s a = cuts (er p) id s 0 ∧ (∀ x ∈ l, ExtsAt wr x ∧ Cloned w.heap.size wr x) ∧ Below W7.heap.size W7 wr)
              (fun _ at_ _ => p.pay.size - (intOf at_).toNat)
            case atStart => exact ⟨0, [], rfl, by simp, World.ownsRow_nil _ _ _ _, by simp, by simp, Below.refl _ _⟩
            case round =>
              obtain ⟨a, l, rfl, hal, hown, hcut, hex, hbl⟩ := hrel
              have HAL := Lib.hid hal
              have HOWN := Lib.hid hown
              have HCUT := Lib.hid hcut
              have HEX := Lib.hid hex
              have HBL := Lib.hid hbl
              have hb3 : wr.heap[w.heap.size]? = some (.cells (pkc p) 27) := (hbl.block _ hz37).trans HB3.out
              have hb12 : wr.heap[b12]? = some (.cells (pkc (headP p id)) 27) := (hbl.block _ hz7).trans HB12.out
              have f3 := box_cell hb3
              have z3 := box_size hb3
              have r12 : rowOf wr b12 = pkc (headP p id) := rowOf_heap hb12
              have z12 := box_size hb12
              clear hal hown hcut hex hbl hb12
              by_cases hlt : a < p.pay.size
              · have hxp : ExtsAt wr p := by
                  refine gr_less HX.out (HG7.out.trans ?_)
                  exact Gr.of_below HBL.out
                have HCL := Lib.hid (fun o : Obj => clone_any p (wr.alloc o) (gr_less hxp ((Gr.refl _).alloc o)) (right_xl4 HRR.out))
                clear hxp
                go_wp2_with (fail)
                refine (HCL.out _).mono ?_
                rintro e W8 ⟨xa', xc', rfl, hE, hC, hg8⟩
                have hx8 : W8.heap[wr.heap.size]? = some (.cells (pkc (headP p id)) 27) := (hg8.below.block _ (by simp)).trans (heap_alloc_new _ _)
                have hb38 : W8.heap[w.heap.size]? = some (.cells (pkc p) 27) := (hg8.below.block _ (by simp; omega)).trans ((heap_alloc_old _ _ z3).trans hb3)
                have f8 := box_cell hx8
                have f38 := box_cell hb38
                have z8 := box_size hx8
                have g8 : ∀ i, W8.frozen? ⟨wr.heap.size, i, none⟩ = false := fun i => by simp [World.frozen?, hx8]
                have HG8 : Hid (Gr wr W8) := ((Gr.refl wr).alloc _).trans hg8
                have HE8 := Lib.hid hE
                have HC8 := Lib.hid hC
                have HX8 := Lib.hid hx8
                have zne : wr.heap.size ≠ w.heap.size := by omega
                have hoff8 : (headP p id).off = p.off := rfl
                have hsl : ∀ W, (Instr.slice 9 (.string p.pay) (some (.int .i64 (a : Int))) (some (.int .i64 (min ((a : Int) + s) p.pay.size))) none).run Try.prog W = .ok (.string (p.pay.extract a (min (a + s) p.pay.size))) W := fun W => by
                  have := run_slice_string (P := Try.prog) W 9 p.pay .i64 .i64 (a : Int) (min ((a : Int) + s) p.pay.size) Try.underlying9 (by omega) (by omega) (by omega)
                  rw [this]
                  congr 3
                  all_goals omega
                have hHB := HBIG.out
                have hMM := HM.out
                have ha1 : p.off + a ≤ 65528 := by
                  have h3 : ((p.pay.size : Int) - 1).tdiv s = (((p.pay.size - 1) / s : Nat) : Int) := by
                    rw [show ((p.pay.size : Int) - 1) = ((p.pay.size - 1 : Nat) : Int) by omega, ← Int.ofNat_tdiv]
                  rw [h3] at hMM
                  have hAL := HAL.out
                  have h4 : l.length ≤ (p.pay.size - 1) / s := (Nat.le_div_iff_mul_le hs0).2 (by omega)
                  have h5 := Nat.mul_le_mul_right s h4
                  have h6 : (((p.pay.size - 1) / s * s : Nat) : Int) = M := by rw [← hMM]; simp
                  omega
                clear hE hC hg8 HCL hx8 hb38 f3 z3 r12 z12 hb3 hMM hHB
                obtain ⟨i0, hi, hz0, hz1, hz2⟩ := info_parts info27
                have HI := Lib.hid hi
                have HZ := Lib.hid hz0
                clear hi hz0
                by_cases hend : a + s < p.pay.size
                · have hend' : (a : Int) + s < p.pay.size := by omega
                  go_upto_region 31 with (fail)
                  have e9 : ((((W8.setCell ⟨wr.heap.size, 43, none⟩ (.slice xa' p.xl xc')).setCell ⟨wr.heap.size, 38, none⟩ (.int .i64 (p.off + (a : Int)))).setCell ⟨wr.heap.size, 45, none⟩ (.string (p.pay.extract a (min (a + s) p.pay.size)))).setCell ⟨wr.heap.size, 39, none⟩ (.bool true)).heap[wr.heap.size]? = some (.cells (pkc { cutAt p id s a with xa := xa', xc := xc' }) 27) := by
                    rw [heap_setCell_at (heap_setCell_at (heap_setCell_at (heap_setCell_at HX8.out)))]
                    have hxl : (headP p id).xl = p.xl := rfl
                    rw [← hxl, pkc_set43, pkc_set38, pkc_set45, pkc_set39]
                    have : true = (decide (a + s < p.pay.size) || p.more) := by simp [hend]
                    rw [this]
                    rfl
                  have r9 : rowOf ((((W8.setCell ⟨wr.heap.size, 43, none⟩ (.slice xa' p.xl xc')).setCell ⟨wr.heap.size, 38, none⟩ (.int .i64 (p.off + (a : Int)))).setCell ⟨wr.heap.size, 45, none⟩ (.string (p.pay.extract a (min (a + s) p.pay.size)))).setCell ⟨wr.heap.size, 39, none⟩ (.bool true)) wr.heap.size = pkc { cutAt p id s a with xa := xa', xc := xc' } := rowOf_heap e9
                  have k9 : ∀ k, k ≠ wr.heap.size → ((((W8.setCell ⟨wr.heap.size, 43, none⟩ (.slice xa' p.xl xc')).setCell ⟨wr.heap.size, 38, none⟩ (.int .i64 (p.off + (a : Int)))).setCell ⟨wr.heap.size, 45, none⟩ (.string (p.pay.extract a (min (a + s) p.pay.size)))).setCell ⟨wr.heap.size, 39, none⟩ (.bool true)).heap[k]? = W8.heap[k]? := fun k hk => by
                    rw [Below.heap_setCell _ _ _ _ hk, Below.heap_setCell _ _ _ _ hk, Below.heap_setCell _ _ _ _ hk, Below.heap_setCell _ _ _ _ hk]
                  have s9 : ((((W8.setCell ⟨wr.heap.size, 43, none⟩ (.slice xa' p.xl xc')).setCell ⟨wr.heap.size, 38, none⟩ (.int .i64 (p.off + (a : Int)))).setCell ⟨wr.heap.size, 45, none⟩ (.string (p.pay.extract a (min (a + s) p.pay.size)))).setCell ⟨wr.heap.size, 39, none⟩ (.bool true)).heap.size = W8.heap.size := by simp
                  have z9 : wr.heap.size < ((((W8.setCell ⟨wr.heap.size, 43, none⟩ (.slice xa' p.xl xc')).setCell ⟨wr.heap.size, 38, none⟩ (.int .i64 (p.off + (a : Int)))).setCell ⟨wr.heap.size, 45, none⟩ (.string (p.pay.extract a (min (a + s) p.pay.size)))).setCell ⟨wr.heap.size, 39, none⟩ (.bool true)).heap.size := by rw [s9]; exact z8
                  have o9 : Hid (((((W8.setCell ⟨wr.heap.size, 43, none⟩ (.slice xa' p.xl xc')).setCell ⟨wr.heap.size, 38, none⟩ (.int .i64 (p.off + (a : Int)))).setCell ⟨wr.heap.size, 45, none⟩ (.string (p.pay.extract a (min (a + s) p.pay.size)))).setCell ⟨wr.heap.size, 39, none⟩ (.bool true)).os = W8.os ∧ ((((W8.setCell ⟨wr.heap.size, 43, none⟩ (.slice xa' p.xl xc')).setCell ⟨wr.heap.size, 38, none⟩ (.int .i64 (p.off + (a : Int)))).setCell ⟨wr.heap.size, 45, none⟩ (.string (p.pay.extract a (min (a + s) p.pay.size)))).setCell ⟨wr.heap.size, 39, none⟩ (.bool true)).tape = W8.tape ∧ ((((W8.setCell ⟨wr.heap.size, 43, none⟩ (.slice xa' p.xl xc')).setCell ⟨wr.heap.size, 38, none⟩ (.int .i64 (p.off + (a : Int)))).setCell ⟨wr.heap.size, 45, none⟩ (.string (p.pay.extract a (min (a + s) p.pay.size)))).setCell ⟨wr.heap.size, 39, none⟩ (.bool true)).output = W8.output) := ⟨rfl, rfl, rfl⟩
                  have HR8 := own_gr HOWN.out HG8.out
                  have HR9 : Hid (((((W8.setCell ⟨wr.heap.size, 43, none⟩ (.slice xa' p.xl xc')).setCell ⟨wr.heap.size, 38, none⟩ (.int .i64 (p.off + (a : Int)))).setCell ⟨wr.heap.size, 45, none⟩ (.string (p.pay.extract a (min (a + s) p.pay.size)))).setCell ⟨wr.heap.size, 39, none⟩ (.bool true)).ownsRow W7.heap.size 27 46 u14 l.length (l.flatMap pkl)) := by
                    refine HR8.kept (row := some wr.heap.size) ⟨rfl, rfl, rfl, Nat.le_of_eq s9.symm, fun k _ hk => k9 k (fun e => hk (by rw [e]))⟩ (.inr (fun e => ?_))
                    have := (HOWN.out.lt _ e).2
                    omega
                  have K9 := Lib.hid k9
                  have S9 := Lib.hid s9
                  clear e9 k9 s9 f8 f38 g8 HR8 hsl
                  generalize (((W8.setCell ⟨wr.heap.size, 43, none⟩ (.slice xa' p.xl xc')).setCell ⟨wr.heap.size, 38, none⟩ (.int .i64 (p.off + (a : Int)))).setCell ⟨wr.heap.size, 45, none⟩ (.string (p.pay.extract a (min (a + s) p.pay.size)))).setCell ⟨wr.heap.size, 39, none⟩ (.bool true) = W9 at r9 z9 o9 HR9 K9 S9 ⊢
                  have hlen : l.length ≤ 65528 := by
                    have h1 := HAL.out
                    have h2 := ha1
                    have h3 : l.length * 1 ≤ l.length * s := Nat.mul_le_mul_left _ hs0
                    omega
                  have h9B : W7.heap.size ≤ W9.heap.size := by
                    have h1 := HBL.out.size
                    have h2 : wr.heap.size ≤ W8.heap.size := HG8.out.below.size
                    rw [S9.out]; omega
                  go_wp2_with (at_builtin; go_loud (refine wpList_append_own_at _ rfl _ _ 32 rfl W7.heap.size 27 i0 (.agg (pkc zpk)) 46 160 Try.underlying32 HI.out HZ.out hz1 hz2 rfl (by decide) _ _ _ rfl (HR9.out.alloc _) ⟨W9.heap.size, 0, none⟩ 1 1 (pkl { cutAt p id s a with xa := xa', xc := xc' }) rfl (by rw [pkl_len]) (cell_pk_new' _ _) (pkl_ones _) (by unfold maxLen; omega) (by omega) (by simp; omega) ?_); intro v' w3 hown' hgrow3 hnil3 hat3)
                  obtain ⟨k59, ks, kb⟩ := round_keep HG8.out K9.out S9.out o9.out.1 o9.out.2.1 o9.out.2.2 ⟨_, HX8.out⟩ HR9.out hgrow3 HBL.out HBL.out.size
                  have hwr8 : wr.heap.size ≤ W8.heap.size := HG8.out.below.size
                  have hwwr : w.heap.size ≤ wr.heap.size := by have := HBL.out.size; omega
                  refine ⟨⟨a + s, l ++ [{ cutAt p id s a with xa := xa', xc := xc' }], rfl, ?_, ?_, ?_, ?_, kb⟩, by simp [intOf]; omega⟩
                  · rw [List.length_append]
                    show a + s = (l.length + 1) * s
                    rw [Nat.succ_mul, ← HAL.out]
                  · simpa using hown'
                  · rw [List.map_append, List.append_assoc]
                    have hc := HCUT.out
                    rw [cuts_cons (p := er p) (a := a) hlt hs0] at hc
                    exact hc
                  · intro x hx
                    rcases List.mem_append.1 hx with h1 | h1
                    · obtain ⟨x1, x2⟩ := HEX.out x h1
                      rcases x2 with r | ⟨r, c, hc⟩
                      · exact ⟨x1.moved (by omega) (.inl r), .inl r⟩
                      · have e1 := k59 _ _ ((HG8.out.below.block _ (Array.getElem?_eq_some_iff.1 hc).1).trans hc)
                        exact ⟨x1.moved (by omega) (.inr (e1.trans hc.symm)), .inr ⟨r, c, e1⟩⟩
                    · rw [List.mem_singleton.1 h1]
                      have hE := ExtsAt.same (q := { cutAt p id s a with xa := xa', xc := xc' }) HE8.out rfl rfl rfl rfl
                      rcases HC8.out with r | ⟨r, c, hc⟩
                      · exact ⟨hE.moved ks (.inl r), .inl r⟩
                      · have e1 := k59 _ _ hc
                        refine ⟨hE.moved ks (.inr (e1.trans hc.symm)), .inr ⟨?_, c, e1⟩⟩
                        have r2 := r
                        rw [World.size_alloc] at r2
                        exact Nat.le_trans (by omega) r2
                · have hend' : ¬ (a : Int) + s < p.pay.size := by omega
                  cases hmo : p.more
                  · skip
                    go_upto_region 31 with (fail)
                    have e9 : ((((W8.setCell ⟨wr.heap.size, 43, none⟩ (.slice xa' p.xl xc')).setCell ⟨wr.heap.size, 38, none⟩ (.int .i64 (p.off + (a : Int)))).setCell ⟨wr.heap.size, 45, none⟩ (.string (p.pay.extract a (min (a + s) p.pay.size)))).setCell ⟨wr.heap.size, 39, none⟩ (.bool (decide ((a : Int) + s < p.pay.size)))).heap[wr.heap.size]? = some (.cells (pkc { cutAt p id s a with xa := xa', xc := xc' }) 27) := by
                      rw [heap_setCell_at (heap_setCell_at (heap_setCell_at (heap_setCell_at HX8.out)))]
                      have hxl : (headP p id).xl = p.xl := rfl
                      rw [← hxl, pkc_set43, pkc_set38, pkc_set45, pkc_set39]
                      have : decide ((a : Int) + s < p.pay.size) = (decide (a + s < p.pay.size) || p.more) := by
                        rw [hmo, Bool.or_false]
                        exact decide_eq_decide.2 (by omega)
                      rw [this]
                      rfl
                    have r9 : rowOf ((((W8.setCell ⟨wr.heap.size, 43, none⟩ (.slice xa' p.xl xc')).setCell ⟨wr.heap.size, 38, none⟩ (.int .i64 (p.off + (a : Int)))).setCell ⟨wr.heap.size, 45, none⟩ (.string (p.pay.extract a (min (a + s) p.pay.size)))).setCell ⟨wr.heap.size, 39, none⟩ (.bool (decide ((a : Int) + s < p.pay.size)))) wr.heap.size = pkc { cutAt p id s a with xa := xa', xc := xc' } := rowOf_heap e9
                    have k9 : ∀ k, k ≠ wr.heap.size → ((((W8.setCell ⟨wr.heap.size, 43, none⟩ (.slice xa' p.xl xc')).setCell ⟨wr.heap.size, 38, none⟩ (.int .i64 (p.off + (a : Int)))).setCell ⟨wr.heap.size, 45, none⟩ (.string (p.pay.extract a (min (a + s) p.pay.size)))).setCell ⟨wr.heap.size, 39, none⟩ (.bool (decide ((a : Int) + s < p.pay.size)))).heap[k]? = W8.heap[k]? := fun k hk => by
                      rw [Below.heap_setCell _ _ _ _ hk, Below.heap_setCell _ _ _ _ hk, Below.heap_setCell _ _ _ _ hk, Below.heap_setCell _ _ _ _ hk]
                    have s9 : ((((W8.setCell ⟨wr.heap.size, 43, none⟩ (.slice xa' p.xl xc')).setCell ⟨wr.heap.size, 38, none⟩ (.int .i64 (p.off + (a : Int)))).setCell ⟨wr.heap.size, 45, none⟩ (.string (p.pay.extract a (min (a + s) p.pay.size)))).setCell ⟨wr.heap.size, 39, none⟩ (.bool (decide ((a : Int) + s < p.pay.size)))).heap.size = W8.heap.size := by simp
                    have z9 : wr.heap.size < ((((W8.setCell ⟨wr.heap.size, 43, none⟩ (.slice xa' p.xl xc')).setCell ⟨wr.heap.size, 38, none⟩ (.int .i64 (p.off + (a : Int)))).setCell ⟨wr.heap.size, 45, none⟩ (.string (p.pay.extract a (min (a + s) p.pay.size)))).setCell ⟨wr.heap.size, 39, none⟩ (.bool (decide ((a : Int) + s < p.pay.size)))).heap.size := by rw [s9]; exact z8
                    have o9 : Hid (((((W8.setCell ⟨wr.heap.size, 43, none⟩ (.slice xa' p.xl xc')).setCell ⟨wr.heap.size, 38, none⟩ (.int .i64 (p.off + (a : Int)))).setCell ⟨wr.heap.size, 45, none⟩ (.string (p.pay.extract a (min (a + s) p.pay.size)))).setCell ⟨wr.heap.size, 39, none⟩ (.bool (decide ((a : Int) + s < p.pay.size)))).os = W8.os ∧ ((((W8.setCell ⟨wr.heap.size, 43, none⟩ (.slice xa' p.xl xc')).setCell ⟨wr.heap.size, 38, none⟩ (.int .i64 (p.off + (a : Int)))).setCell ⟨wr.heap.size, 45, none⟩ (.string (p.pay.extract a (min (a + s) p.pay.size)))).setCell ⟨wr.heap.size, 39, none⟩ (.bool (decide ((a : Int) + s < p.pay.size)))).tape = W8.tape ∧ ((((W8.setCell ⟨wr.heap.size, 43, none⟩ (.slice xa' p.xl xc')).setCell ⟨wr.heap.size, 38, none⟩ (.int .i64 (p.off + (a : Int)))).setCell ⟨wr.heap.size, 45, none⟩ (.string (p.pay.extract a (min (a + s) p.pay.size)))).setCell ⟨wr.heap.size, 39, none⟩ (.bool (decide ((a : Int) + s < p.pay.size)))).output = W8.output) := ⟨rfl, rfl, rfl⟩
                    have HR8 := own_gr HOWN.out HG8.out
                    have HR9 : Hid (((((W8.setCell ⟨wr.heap.size, 43, none⟩ (.slice xa' p.xl xc')).setCell ⟨wr.heap.size, 38, none⟩ (.int .i64 (p.off + (a : Int)))).setCell ⟨wr.heap.size, 45, none⟩ (.string (p.pay.extract a (min (a + s) p.pay.size)))).setCell ⟨wr.heap.size, 39, none⟩ (.bool (decide ((a : Int) + s < p.pay.size)))).ownsRow W7.heap.size 27 46 u14 l.length (l.flatMap pkl)) := by
                      refine HR8.kept (row := some wr.heap.size) ⟨rfl, rfl, rfl, Nat.le_of_eq s9.symm, fun k _ hk => k9 k (fun e => hk (by rw [e]))⟩ (.inr (fun e => ?_))
                      have := (HOWN.out.lt _ e).2
                      omega
                    have K9 := Lib.hid k9
                    have S9 := Lib.hid s9
                    clear e9 k9 s9 f8 f38 g8 HR8 hsl
                    generalize (((W8.setCell ⟨wr.heap.size, 43, none⟩ (.slice xa' p.xl xc')).setCell ⟨wr.heap.size, 38, none⟩ (.int .i64 (p.off + (a : Int)))).setCell ⟨wr.heap.size, 45, none⟩ (.string (p.pay.extract a (min (a + s) p.pay.size)))).setCell ⟨wr.heap.size, 39, none⟩ (.bool (decide ((a : Int) + s < p.pay.size))) = W9 at r9 z9 o9 HR9 K9 S9 ⊢
                    have hlen : l.length ≤ 65528 := by
                      have h1 := HAL.out
                      have h2 := ha1
                      have h3 : l.length * 1 ≤ l.length * s := Nat.mul_le_mul_left _ hs0
                      omega
                    have h9B : W7.heap.size ≤ W9.heap.size := by
                      have h1 := HBL.out.size
                      have h2 : wr.heap.size ≤ W8.heap.size := HG8.out.below.size
                      rw [S9.out]; omega
                    go_wp2_with (at_builtin; go_loud (refine wpList_append_own_at _ rfl _ _ 32 rfl W7.heap.size 27 i0 (.agg (pkc zpk)) 46 160 Try.underlying32 HI.out HZ.out hz1 hz2 rfl (by decide) _ _ _ rfl (HR9.out.alloc _) ⟨W9.heap.size, 0, none⟩ 1 1 (pkl { cutAt p id s a with xa := xa', xc := xc' }) rfl (by rw [pkl_len]) (cell_pk_new' _ _) (pkl_ones _) (by unfold maxLen; omega) (by omega) (by simp; omega) ?_); intro v' w3 hown' hgrow3 hnil3 hat3)
                    obtain ⟨k59, ks, kb⟩ := round_keep HG8.out K9.out S9.out o9.out.1 o9.out.2.1 o9.out.2.2 ⟨_, HX8.out⟩ HR9.out hgrow3 HBL.out HBL.out.size
                    have hwr8 : wr.heap.size ≤ W8.heap.size := HG8.out.below.size
                    have hwwr : w.heap.size ≤ wr.heap.size := by have := HBL.out.size; omega
                    refine ⟨⟨a + s, l ++ [{ cutAt p id s a with xa := xa', xc := xc' }], rfl, ?_, ?_, ?_, ?_, kb⟩, by simp [intOf]; omega⟩
                    · rw [List.length_append]
                      show a + s = (l.length + 1) * s
                      rw [Nat.succ_mul, ← HAL.out]
                    · simpa using hown'
                    · rw [List.map_append, List.append_assoc]
                      have hc := HCUT.out
                      rw [cuts_cons (p := er p) (a := a) hlt hs0] at hc
                      exact hc
                    · intro x hx
                      rcases List.mem_append.1 hx with h1 | h1
                      · obtain ⟨x1, x2⟩ := HEX.out x h1
                        rcases x2 with r | ⟨r, c, hc⟩
                        · exact ⟨x1.moved (by omega) (.inl r), .inl r⟩
                        · have e1 := k59 _ _ ((HG8.out.below.block _ (Array.getElem?_eq_some_iff.1 hc).1).trans hc)
                          exact ⟨x1.moved (by omega) (.inr (e1.trans hc.symm)), .inr ⟨r, c, e1⟩⟩
                      · rw [List.mem_singleton.1 h1]
                        have hE := ExtsAt.same (q := { cutAt p id s a with xa := xa', xc := xc' }) HE8.out rfl rfl rfl rfl
                        rcases HC8.out with r | ⟨r, c, hc⟩
                        · exact ⟨hE.moved ks (.inl r), .inl r⟩
                        · have e1 := k59 _ _ hc
                          refine ⟨hE.moved ks (.inr (e1.trans hc.symm)), .inr ⟨?_, c, e1⟩⟩
                          have r2 := r
                          rw [World.size_alloc] at r2
                          exact Nat.le_trans (by omega) r2
                  · skip
                    go_upto_region 31 with (fail)
                    have e9 : ((((W8.setCell ⟨wr.heap.size, 43, none⟩ (.slice xa' p.xl xc')).setCell ⟨wr.heap.size, 38, none⟩ (.int .i64 (p.off + (a : Int)))).setCell ⟨wr.heap.size, 45, none⟩ (.string (p.pay.extract a (min (a + s) p.pay.size)))).setCell ⟨wr.heap.size, 39, none⟩ (.bool true)).heap[wr.heap.size]? = some (.cells (pkc { cutAt p id s a with xa := xa', xc := xc' }) 27) := by
                      rw [heap_setCell_at (heap_setCell_at (heap_setCell_at (heap_setCell_at HX8.out)))]
                      have hxl : (headP p id).xl = p.xl := rfl
                      rw [← hxl, pkc_set43, pkc_set38, pkc_set45, pkc_set39]
                      have : true = (decide (a + s < p.pay.size) || p.more) := by simp [hend, hmo]
                      rw [this]
                      rfl
                    have r9 : rowOf ((((W8.setCell ⟨wr.heap.size, 43, none⟩ (.slice xa' p.xl xc')).setCell ⟨wr.heap.size, 38, none⟩ (.int .i64 (p.off + (a : Int)))).setCell ⟨wr.heap.size, 45, none⟩ (.string (p.pay.extract a (min (a + s) p.pay.size)))).setCell ⟨wr.heap.size, 39, none⟩ (.bool true)) wr.heap.size = pkc { cutAt p id s a with xa := xa', xc := xc' } := rowOf_heap e9
                    have k9 : ∀ k, k ≠ wr.heap.size → ((((W8.setCell ⟨wr.heap.size, 43, none⟩ (.slice xa' p.xl xc')).setCell ⟨wr.heap.size, 38, none⟩ (.int .i64 (p.off + (a : Int)))).setCell ⟨wr.heap.size, 45, none⟩ (.string (p.pay.extract a (min (a + s) p.pay.size)))).setCell ⟨wr.heap.size, 39, none⟩ (.bool true)).heap[k]? = W8.heap[k]? := fun k hk => by
                      rw [Below.heap_setCell _ _ _ _ hk, Below.heap_setCell _ _ _ _ hk, Below.heap_setCell _ _ _ _ hk, Below.heap_setCell _ _ _ _ hk]
                    have s9 : ((((W8.setCell ⟨wr.heap.size, 43, none⟩ (.slice xa' p.xl xc')).setCell ⟨wr.heap.size, 38, none⟩ (.int .i64 (p.off + (a : Int)))).setCell ⟨wr.heap.size, 45, none⟩ (.string (p.pay.extract a (min (a + s) p.pay.size)))).setCell ⟨wr.heap.size, 39, none⟩ (.bool true)).heap.size = W8.heap.size := by simp
                    have z9 : wr.heap.size < ((((W8.setCell ⟨wr.heap.size, 43, none⟩ (.slice xa' p.xl xc')).setCell ⟨wr.heap.size, 38, none⟩ (.int .i64 (p.off + (a : Int)))).setCell ⟨wr.heap.size, 45, none⟩ (.string (p.pay.extract a (min (a + s) p.pay.size)))).setCell ⟨wr.heap.size, 39, none⟩ (.bool true)).heap.size := by rw [s9]; exact z8
                    have o9 : Hid (((((W8.setCell ⟨wr.heap.size, 43, none⟩ (.slice xa' p.xl xc')).setCell ⟨wr.heap.size, 38, none⟩ (.int .i64 (p.off + (a : Int)))).setCell ⟨wr.heap.size, 45, none⟩ (.string (p.pay.extract a (min (a + s) p.pay.size)))).setCell ⟨wr.heap.size, 39, none⟩ (.bool true)).os = W8.os ∧ ((((W8.setCell ⟨wr.heap.size, 43, none⟩ (.slice xa' p.xl xc')).setCell ⟨wr.heap.size, 38, none⟩ (.int .i64 (p.off + (a : Int)))).setCell ⟨wr.heap.size, 45, none⟩ (.string (p.pay.extract a (min (a + s) p.pay.size)))).setCell ⟨wr.heap.size, 39, none⟩ (.bool true)).tape = W8.tape ∧ ((((W8.setCell ⟨wr.heap.size, 43, none⟩ (.slice xa' p.xl xc')).setCell ⟨wr.heap.size, 38, none⟩ (.int .i64 (p.off + (a : Int)))).setCell ⟨wr.heap.size, 45, none⟩ (.string (p.pay.extract a (min (a + s) p.pay.size)))).setCell ⟨wr.heap.size, 39, none⟩ (.bool true)).output = W8.output) := ⟨rfl, rfl, rfl⟩
                    have HR8 := own_gr HOWN.out HG8.out
                    have HR9 : Hid (((((W8.setCell ⟨wr.heap.size, 43, none⟩ (.slice xa' p.xl xc')).setCell ⟨wr.heap.size, 38, none⟩ (.int .i64 (p.off + (a : Int)))).setCell ⟨wr.heap.size, 45, none⟩ (.string (p.pay.extract a (min (a + s) p.pay.size)))).setCell ⟨wr.heap.size, 39, none⟩ (.bool true)).ownsRow W7.heap.size 27 46 u14 l.length (l.flatMap pkl)) := by
                      refine HR8.kept (row := some wr.heap.size) ⟨rfl, rfl, rfl, Nat.le_of_eq s9.symm, fun k _ hk => k9 k (fun e => hk (by rw [e]))⟩ (.inr (fun e => ?_))
                      have := (HOWN.out.lt _ e).2
                      omega
                    have K9 := Lib.hid k9
                    have S9 := Lib.hid s9
                    clear e9 k9 s9 f8 f38 g8 HR8 hsl
                    generalize (((W8.setCell ⟨wr.heap.size, 43, none⟩ (.slice xa' p.xl xc')).setCell ⟨wr.heap.size, 38, none⟩ (.int .i64 (p.off + (a : Int)))).setCell ⟨wr.heap.size, 45, none⟩ (.string (p.pay.extract a (min (a + s) p.pay.size)))).setCell ⟨wr.heap.size, 39, none⟩ (.bool true) = W9 at r9 z9 o9 HR9 K9 S9 ⊢
                    have hlen : l.length ≤ 65528 := by
                      have h1 := HAL.out
                      have h2 := ha1
                      have h3 : l.length * 1 ≤ l.length * s := Nat.mul_le_mul_left _ hs0
                      omega
                    have h9B : W7.heap.size ≤ W9.heap.size := by
                      have h1 := HBL.out.size
                      have h2 : wr.heap.size ≤ W8.heap.size := HG8.out.below.size
                      rw [S9.out]; omega
                    go_wp2_with (at_builtin; go_loud (refine wpList_append_own_at _ rfl _ _ 32 rfl W7.heap.size 27 i0 (.agg (pkc zpk)) 46 160 Try.underlying32 HI.out HZ.out hz1 hz2 rfl (by decide) _ _ _ rfl (HR9.out.alloc _) ⟨W9.heap.size, 0, none⟩ 1 1 (pkl { cutAt p id s a with xa := xa', xc := xc' }) rfl (by rw [pkl_len]) (cell_pk_new' _ _) (pkl_ones _) (by unfold maxLen; omega) (by omega) (by simp; omega) ?_); intro v' w3 hown' hgrow3 hnil3 hat3)
                    obtain ⟨k59, ks, kb⟩ := round_keep HG8.out K9.out S9.out o9.out.1 o9.out.2.1 o9.out.2.2 ⟨_, HX8.out⟩ HR9.out hgrow3 HBL.out HBL.out.size
                    have hwr8 : wr.heap.size ≤ W8.heap.size := HG8.out.below.size
                    have hwwr : w.heap.size ≤ wr.heap.size := by have := HBL.out.size; omega
                    refine ⟨⟨a + s, l ++ [{ cutAt p id s a with xa := xa', xc := xc' }], rfl, ?_, ?_, ?_, ?_, kb⟩, by simp [intOf]; omega⟩
                    · rw [List.length_append]
                      show a + s = (l.length + 1) * s
                      rw [Nat.succ_mul, ← HAL.out]
                    · simpa using hown'
                    · rw [List.map_append, List.append_assoc]
                      have hc := HCUT.out
                      rw [cuts_cons (p := er p) (a := a) hlt hs0] at hc
                      exact hc
                    · intro x hx
                      rcases List.mem_append.1 hx with h1 | h1
                      · obtain ⟨x1, x2⟩ := HEX.out x h1
                        rcases x2 with r | ⟨r, c, hc⟩
                        · exact ⟨x1.moved (by omega) (.inl r), .inl r⟩
                        · have e1 := k59 _ _ ((HG8.out.below.block _ (Array.getElem?_eq_some_iff.1 hc).1).trans hc)
                          exact ⟨x1.moved (by omega) (.inr (e1.trans hc.symm)), .inr ⟨r, c, e1⟩⟩
                      · rw [List.mem_singleton.1 h1]
                        have hE := ExtsAt.same (q := { cutAt p id s a with xa := xa', xc := xc' }) HE8.out rfl rfl rfl rfl
                        rcases HC8.out with r | ⟨r, c, hc⟩
                        · exact ⟨hE.moved ks (.inl r), .inl r⟩
                        · have e1 := k59 _ _ hc
                          refine ⟨hE.moved ks (.inr (e1.trans hc.symm)), .inr ⟨?_, c, e1⟩⟩
                          have r2 := r
                          rw [World.size_alloc] at r2
                          exact Nat.le_trans (by omega) r2
              · have hnil : cuts (er p) id s a = [] := cuts_nil (p := er p) (by show p.pay.size ≤ a; omega)
                have hcl : l.map er = cuts (er p) id s 0 := by have := HCUT.out; rw [hnil, List.append_nil] at this; exact this
                have HCLL := Lib.hid hcl
                have HGW : Hid (Gr w wr) := HG7.out.trans (Gr.of_below HBL.out)
                have hown2 := HOWN.out
                clear hnil hcl
                rcases hown2.2 with ⟨rfl, h0⟩ | ⟨g, cap, cur, rfl, hBg, hg, hn, hm, hcs, htk⟩
                · have hl0 : l = [] := List.eq_nil_of_length_eq_zero h0
                  go_wp2_with (fail)
                  refine (clip_nil wr).mono ?_
                  rintro e w3 ⟨rfl, rfl⟩
                  go_wp2
                  go_ret2
                  subst hl0
                  exact ⟨_, [], by rw [HSPL.out]; rfl, .inl ⟨rfl, rfl⟩, by rw [HSPL.out]; exact HCLL.out, by simp, HGW.out⟩
                · have hcap : cap ≤ 9223372036854775807 := by unfold maxLen at hm; omega
                  have HCAP := Lib.hid hcap
                  clear hg hcs htk hown2
                  go_wp2_with (fail)
                  refine (clip_any g l.length cap wr hn hcap).mono ?_
                  rintro e w3 ⟨rfl, rfl⟩
                  go_wp2
                  go_ret2
                  exact ⟨_, l, by rw [HSPL.out]; rfl, .inr ⟨g, l.length, rfl, Nat.le_refl _, by omega, PkRow.of_owns HOWN.out⟩, by rw [HSPL.out]; exact HCLL.out, HEX.out, HGW.out⟩
      · go_wp2
        go_ret2
        refine ⟨_, [], ?_, .inl ⟨rfl, rfl⟩, ?_, by simp, HG3.out⟩
        all_goals
          unfold split
          rw [if_neg (show ¬ splitBad (er p) mtu id = true by rw [show splitBad (er p) mtu id = false from HBAD.out]; simp), if_neg (by rw [bld_er]; exact fun h => h HBLD.out), if_neg (by rw [size_er]; omega), if_pos (show (er p).still = true from hst)]
          rfl
  · --D{
    go_wp2
    go_ret2
    refine ⟨_, [], ?_, .inl ⟨rfl, rfl⟩, ?_, by simp, HG3.out⟩
    all_goals
      unfold split
      rw [if_neg (show ¬ splitBad (er p) mtu id = true by rw [show splitBad (er p) mtu id = false from HBAD.out]; simp), if_pos (show bldCode (er p) ≠ 0 from hbld)]
      rfl
    --D}
end Go.Proofs.Ytfdjpmglfjiamaa
