/- Walk: the law FragMixes. -/
import Derived.Test.YtfdjpmglfjiamaaMo
import Derived.Test.YtfdjpmglfjiamaaMv
namespace Go.Proofs.Ytfdjpmglfjiamaa
open Go Go.Sort Go.RowKit
set_option linter.unusedSimpArgs false
set_option linter.unusedVariables false
set_option linter.constructorNameAsVariable false
attribute [local irreducible] Calls in
set_option maxRecDepth 100000 in
set_option maxHeartbeats 4000000 in
theorem mixes_law (p q : Pk) (c : Cutx) (w : World) (hxp : ExtsAt w p) (hop : p.opts.size ≤ 140737488351232) (hpp : p.pay.size ≤ 140737488351232) (hxq : ExtsAt w q) (hoq : q.opts.size ≤ 140737488351232) (hpq : q.pay.size ≤ 140737488351232)
    (hm0 : -9223372036854775808 ≤ c.mtu) (hm1 : c.mtu ≤ 9223372036854775807) (hor : IntsAt w c.oa c.ol c.order) :
    Calls Try.prog 4 #[.agg (pkc p), .agg (pkc q), .agg (cutc c)] w fun e w' => e = .returned (.bool true) ∧ Gr w w' := by
  have HA0 : Hid (Args3 (((w.alloc (.cells (pkc p) 27)).alloc (.cells (pkc q) 27)).alloc (.cells (cutc c) 30)) w.heap.size p q c) := by
    refine ⟨?_, ?_, ?_⟩
    · rw [heap_alloc_old _ _ (by simp; omega), heap_alloc_old _ _ (by simp)]; exact heap_alloc_new _ _
    · rw [heap_alloc_old _ _ (by simp)]
      have := heap_alloc_new (w.alloc (.cells (pkc p) 27)) (.cells (pkc q) 27)
      simpa using this
    · have := heap_alloc_new ((w.alloc (.cells (pkc p) 27)).alloc (.cells (pkc q) 27)) (.cells (cutc c) 30)
      simpa using this
  have HG0 : Hid (Gr w (((w.alloc (.cells (pkc p) 27)).alloc (.cells (pkc q) 27)).alloc (.cells (cutc c) 30))) := (((Gr.refl w).alloc _).alloc _).alloc _
  have HXP := Lib.hid hxp
  have HXQ := Lib.hid hxq
  have HOR := Lib.hid hor
  clear hxp hxq hor
  go_enter Try.func4, Try.ntmps4
  go_upto_region 1 with (fail)
  generalize hzz : w.heap.size = z at HA0 ⊢
  generalize ((w.alloc (.cells (pkc p) 27)).alloc (.cells (pkc q) 27)).alloc (.cells (cutc c) 30) = W0 at HA0 HG0 ⊢
  have H6 := Lib.hid (awake_any W0)
  go_wp2_with (fail)
  refine H6.out.mono ?_
  rintro e W1 ⟨rfl, hg1⟩
  have HA1 : Hid (Args3 W1 z p q c) := HA0.out.gr hg1
  have HG1 : Hid (Gr w W1) := HG0.out.trans hg1
  clear hg1 H6 HA0 HG0 hzz
  obtain ⟨r3, r4, z5, p6, p37, p38, p39, q37, q38, q39, c50, c52, c54⟩ := HA1.out.facts
  clear p6 p37 p38 p39 q37 q38 q39 c52 c54
  have H7 := Lib.hid (split_any p c.mtu 1 W1 (gr_less HXP.out HG1.out) hop hpp hm0 hm1 (by omega) (by omega))
  go_wp2_with (fail)
  refine H7.out.mono ?_
  rintro e W2 ⟨v, la, rfl, hps, her, hex, hg2⟩
  have HA2 : Hid (Args3 W2 z p q c) := HA1.out.gr hg2
  have HG2 : Hid (Gr w W2) := HG1.out.trans hg2
  have HSPA : Hid ((split (er p) c.mtu 1).1 = 0 → split (er p) c.mtu 1 = (0, la.map er)) := fun h => by rw [her, ← h]
  generalize (split (er p) c.mtu 1).1 = ea at HSPA ⊢
  have HPSA := Lib.hid hps
  have HEXA := Lib.hid hex
  obtain ⟨va, vac, rfl⟩ : ∃ va vc, v = .slice va la.length vc := by
    rcases hps with ⟨rfl, rfl⟩ | ⟨b, c, rfl, _⟩
    · exact ⟨none, 0, rfl⟩
    · exact ⟨_, _, rfl⟩
  clear hps hex her hg2 HA1 H7 r3 r4 z5 c50 HG1
  obtain ⟨r3, r4, z5, p6, p37, p38, p39, q37, q38, q39, c50, c52, c54⟩ := HA2.out.facts
  clear p6 p37 p38 p39 q37 q38 q39 c52 c54
  have H7 := Lib.hid (split_any q c.mtu 2 W2 (gr_less HXQ.out HG2.out) hoq hpq hm0 hm1 (by omega) (by omega))
  go_wp2_with (fail)
  refine H7.out.mono ?_
  rintro e W3 ⟨v, lb, rfl, hps, her, hex, hg2⟩
  have HA3 : Hid (Args3 W3 z p q c) := HA2.out.gr hg2
  have HG3 : Hid (Gr w W3) := HG2.out.trans hg2
  have HG23 := Lib.hid hg2
  have HSPB : Hid ((split (er q) c.mtu 2).1 = 0 → split (er q) c.mtu 2 = (0, lb.map er)) := fun h => by rw [her, ← h]
  generalize (split (er q) c.mtu 2).1 = eb at HSPB ⊢
  have HPSB := Lib.hid hps
  have HEXB := Lib.hid hex
  obtain ⟨vb, vbc, rfl⟩ : ∃ va vc, v = .slice va lb.length vc := by
    rcases hps with ⟨rfl, rfl⟩ | ⟨b, c, rfl, _⟩
    · exact ⟨none, 0, rfl⟩
    · exact ⟨_, _, rfl⟩
  clear hps hex her hg2 HA2 H7 r3 r4 z5 c50
  obtain ⟨r3, r4, z5, p6, p37, p38, p39, q37, q38, q39, c50, c52, c54⟩ := HA3.out.facts
  have hla63 : la.length ≤ 9223372036854775807 := by
    rcases HPSA.out with ⟨_, h0⟩ | ⟨b, c, _, h1, h2, _⟩
    · rw [h0]; simp
    · omega
  have hlb63 : lb.length ≤ 9223372036854775807 := by
    rcases HPSB.out with ⟨_, h0⟩ | ⟨b, c, _, h1, h2, _⟩
    · rw [h0]; simp
    · omega
  go_upto_region 4 with (fail)
  go_cut [82] from 39 to 82 (fun cx wx => cx = .bool (mixBad p q ea eb la.length lb.length) ∧ W3 = wx)
  case first =>
    --D{
    by_cases h0 : ea = 0
    · have H0 := Lib.hid h0
      have e0 : (ea == 0) = true := by simp [h0]
      have d0 : (ea != 0) = false := by simp [h0]
      clear h0
      by_cases h1 : eb = 0
      · have H1 := Lib.hid h1
        have e1 : (eb == 0) = true := by simp [h1]
        have d1 : (eb != 0) = false := by simp [h1]
        clear h1
        by_cases h2 : 64 < la.length
        · go_wp2
          go_meet
          exact ⟨by first | (simp [mixBad, h2]; done) | (simp [mixBad, h2]; omega) | (simp [mixBad]; omega), rfl⟩
        · skip
          by_cases h3 : 64 < lb.length
          · go_wp2
            go_meet
            exact ⟨by first | (simp [mixBad, h3]; done) | (simp [mixBad, h3]; omega) | (simp [mixBad]; omega), rfl⟩
          · skip
            by_cases h4 : 0 < p.off
            · go_wp2
              go_meet
              exact ⟨by first | (simp [mixBad, h4]; done) | (simp [mixBad, h4]; omega) | (simp [mixBad]; omega), rfl⟩
            · skip
              cases h5 : p.more
              · rw [h5] at p39
                by_cases h6 : 0 < q.off
                · go_wp2
                  go_meet
                  exact ⟨by first | (simp [mixBad, h6]; done) | (simp [mixBad, h6]; omega) | (simp [mixBad]; omega), rfl⟩
                · skip
                  cases h7 : q.more
                  · rw [h7] at q39
                    by_cases h8 : la.length = 1
                    · have H8 := Lib.hid h8
                      have e8 : ((la.length : Int) == 1) = true := by simp [h8]
                      clear h8
                      go_wp2
                      go_meet
                      exact ⟨by have := H8.out; simp [mixBad, this], rfl⟩
                    · have H8 := Lib.hid h8
                      have e8 : ((la.length : Int) == 1) = false := beq_false_of_ne (by omega)
                      clear h8
                      by_cases h9 : lb.length = 1
                      · have H9 := Lib.hid h9
                        have e9 : ((lb.length : Int) == 1) = true := by simp [h9]
                        clear h9
                        go_wp2
                        go_meet
                        exact ⟨by have := H9.out; simp [mixBad, this], rfl⟩
                      · have H9 := Lib.hid h9
                        have e9 : ((lb.length : Int) == 1) = false := beq_false_of_ne (by omega)
                        clear h9
                        have hm : mixBad p q ea eb la.length lb.length = false := by
                          simp only [mixBad, Bool.or_eq_false_iff, decide_eq_false_iff_not]
                          exact ⟨⟨⟨⟨⟨⟨⟨⟨⟨fun h => h H0.out, fun h => h H1.out⟩, by omega⟩, by omega⟩, by omega⟩, h5⟩, by omega⟩, h7⟩, H8.out⟩, H9.out⟩
                        have HM := Lib.hid hm
                        clear hm
                        go_wp2
                        go_meet
                        exact ⟨by rw [HM.out]; first | (simp; omega) | rfl, rfl⟩
                  · rw [h7] at q39
                    go_wp2
                    go_meet
                    exact ⟨by simp [mixBad, h7], rfl⟩
              · rw [h5] at p39
                go_wp2
                go_meet
                exact ⟨by simp [mixBad, h5], rfl⟩
      · have H1 := Lib.hid h1
        have e1 : (eb == 0) = false := by simp [h1]
        have d1 : (eb != 0) = true := by simp [h1]
        clear h1
        go_wp2
        go_meet
        exact ⟨by have := H1.out; simp [mixBad, this], rfl⟩
    · have H0 := Lib.hid h0
      have e0 : (ea == 0) = false := by simp [h0]
      have d0 : (ea != 0) = true := by simp [h0]
      clear h0
      go_wp2
      go_meet
      exact ⟨by have := H0.out; simp [mixBad, this], rfl⟩
    --D}
  case rest =>
  obtain ⟨rfl, rfl⟩ := hcut
  by_cases hbad : mixBad p q ea eb la.length lb.length = true
  · rw [hbad]
    go_wp2
    go_ret
    exact ⟨rfl, HG3.out⟩
  · have hb := Bool.eq_false_iff.2 hbad
    rw [hb]
    simp only [mixBad, Bool.or_eq_false_iff, decide_eq_false_iff_not] at hb
    obtain ⟨⟨⟨⟨⟨⟨⟨⟨⟨b0, b1⟩, b2⟩, b3⟩, b4⟩, b5⟩, b6⟩, b7⟩, b8⟩, b9⟩ := hb
    have hea : ea = 0 := Classical.byContradiction b0
    have heb : eb = 0 := Classical.byContradiction b1
    subst hea
    subst heb
    have HA := Lib.hid (HSPA.out rfl)
    have HB := Lib.hid (HSPB.out rfl)
    have HBAD := Lib.hid (And.intro b5 (And.intro b7 (And.intro b8 b9)))
    clear b0 b1 b5 b7 b8 b9 hbad HSPA HSPB p38 p39 q38 q39
    have hne : la ≠ [] := fun h => (split_ne HA.out).1 (by rw [h]; rfl)
    have hneb : lb ≠ [] := fun h => (split_ne HB.out).1 (by rw [h]; rfl)
    have hla64 : la.length ≤ 64 := by omega
    have hlb64 : lb.length ≤ 64 := by omega
    have hla0 : 0 < la.length := List.length_pos_iff.2 hne
    have hlb0 : 0 < lb.length := List.length_pos_iff.2 hneb
    obtain ⟨ga, hva⟩ : ∃ g, va = some ⟨g, 0, none⟩ := by
      rcases HPSA.out with ⟨_, h0⟩ | ⟨b, c, h1, _⟩
      · exact absurd h0 hne
      · simp only [Value.slice.injEq] at h1
        exact ⟨b, h1.1⟩
    obtain ⟨gb, hvb⟩ : ∃ g, vb = some ⟨g, 0, none⟩ := by
      rcases HPSB.out with ⟨_, h0⟩ | ⟨b, c, h1, _⟩
      · exact absurd h0 hneb
      · simp only [Value.slice.injEq] at h1
        exact ⟨b, h1.1⟩
    subst hva
    subst hvb
    have hrowa : PkRow W2 ga la := by
      rcases HPSA.out with ⟨h1, _⟩ | ⟨b, c, h1, _, _, h4⟩
      · cases h1
      · simp only [Value.slice.injEq, Option.some.injEq, Addr.mk.injEq, and_true] at h1
        rw [h1.1]; exact h4
    have hrowb : PkRow W3 gb lb := by
      rcases HPSB.out with ⟨h1, _⟩ | ⟨b, c, h1, _, _, h4⟩
      · cases h1
      · simp only [Value.slice.injEq, Option.some.injEq, Addr.mk.injEq, and_true] at h1
        rw [h1.1]; exact h4
    have hga3 : W3.heap[ga]? = W2.heap[ga]? := HG23.out.below.block ga hrowa.lt
    have HROWA : Hid (PkRow W3 ga la) := ⟨by have := hrowa.lt; have := HG23.out.below.size; omega, fun k x hx => by
      have e : rowOf W3 ga = rowOf W2 ga := by unfold rowOf; rw [hga3]
      rw [e]; exact hrowa.row k x hx⟩
    have HROWB := Lib.hid hrowb
    have HEXA3 : Hid (∀ x ∈ la, ExtsAt W3 x ∧ ∃ C, Cloned C W3 x) := fun x hx => by
      obtain ⟨x1, x2⟩ := HEXA.out x hx
      refine ⟨gr_less x1 HG23.out, W1.heap.size, ?_⟩
      rcases x2 with r | ⟨h1, c, h2⟩
      · exact .inl r
      · exact .inr ⟨h1, c, (HG23.out.below.block _ (Array.getElem?_eq_some_iff.1 h2).1).trans h2⟩
    have hpo : p.off = 0 := by
      have h2 := (right_offs (split_ok HA.out).1).1
      have e : (er p).off = p.off := rfl
      omega
    have hqo : q.off = 0 := by
      have h2 := (right_offs (split_ok HB.out).1).1
      have e : (er q).off = q.off := rfl
      omega
    have HCA := Lib.hid (split_cutting HA.out (show (er p).off = 0 from hpo) HBAD.out.1 (by simpa using HBAD.out.2.2.1) (by simpa using hla64))
    have HCB := Lib.hid (split_cutting HB.out (show (er q).off = 0 from hqo) HBAD.out.2.1 (by simpa using HBAD.out.2.2.2) (by simpa using hlb64))
    clear hne hneb HPSA HPSB hrowa hrowb hga3 b2 b3 b4 b6 HEXA hpo hqo HA HB HBAD
    have z6 : z + 1 < W3.heap.size := by omega
    have z7 : z < W3.heap.size := by omega
    go_upto_region 8 with (fail)
    have T1 : Hid (((W3.alloc (Obj.cells #[Value.int IntKind.i64 1, Value.int IntKind.i64 1] 41)).alloc (Obj.cells #[Value.int IntKind.i64 1, Value.int IntKind.i64 1] 41)).heap[W3.heap.size]? = some (.cells #[.int .i64 1, .int .i64 1] 41)) := (heap_alloc_old _ _ (by simp)).trans (heap_alloc_new _ _)
    have T2 : Hid (((W3.alloc (Obj.cells #[Value.int IntKind.i64 1, Value.int IntKind.i64 1] 41)).alloc (Obj.cells #[Value.int IntKind.i64 1, Value.int IntKind.i64 1] 41)).heap[W3.heap.size + 1]? = some (.cells #[.int .i64 1, .int .i64 1] 41)) := by
      have := heap_alloc_new (W3.alloc (Obj.cells #[Value.int IntKind.i64 1, Value.int IntKind.i64 1] 41)) (Obj.cells #[Value.int IntKind.i64 1, Value.int IntKind.i64 1] 41)
      rwa [World.size_alloc] at this
    have G34 : Hid (Gr W3 ((W3.alloc (Obj.cells #[Value.int IntKind.i64 1, Value.int IntKind.i64 1] 41)).alloc (Obj.cells #[Value.int IntKind.i64 1, Value.int IntKind.i64 1] 41))) := ((Gr.refl W3).alloc _).alloc _
    have HA4 := Lib.hid (HA3.out.gr G34.out)
    generalize (W3.alloc (Obj.cells #[Value.int IntKind.i64 1, Value.int IntKind.i64 1] 41)).alloc (Obj.cells #[Value.int IntKind.i64 1, Value.int IntKind.i64 1] 41) = W4 at T1 T2 G34 HA4 ⊢
    clear r3 r4 z5 z6 z7 p6 p37 q37 c50 c52 c54
    obtain ⟨r3, r4, z5, p6, p37, p38, p39, q37, q38, q39, c50, c52, c54⟩ := HA4.out.facts
    clear r3 r4 p38 p39 q38 q39 c50 c52
    go_cut [100] from 83 to 101 (fun cx wx => cx = .bool (c.other || (!p.src.v6 && p.id == q.id)) ∧ W4 = wx)
    case first =>
      cases h1 : c.other
      · rw [h1] at c54
        cases h2 : p.src.v6
        · rw [h2] at p6
          by_cases h3 : p.id = q.id
          · have h4 : (p.id == q.id) = true := by simp [h3]
            have H3 := Lib.hid h3
            clear h3
            go_wp2
            go_meet
            exact ⟨by have := H3.out; simp [h1, h2, this], rfl⟩
          · have h4 : (p.id == q.id) = false := by simp [h3]
            have H3 := Lib.hid h3
            clear h3
            go_wp2
            go_meet
            exact ⟨by have := H3.out; simp [h1, h2, this], rfl⟩
        · rw [h2] at p6
          go_wp2
          go_meet
          exact ⟨by simp [h1, h2], rfl⟩
      · rw [h1] at c54
        go_wp2
        go_meet
        exact ⟨by simp [h1], rfl⟩
    case rest =>
    obtain ⟨rfl, rfl⟩ := hcut
    clear z5 p6 p37 q37 c54
    go_upto_if 100 with (fail)
    go_cut [] from 83 to 101 (fun wx => wx.heap[W3.heap.size]? = some (.cells #[.int .i64 1, .int .i64 1] 41) ∧ wx.heap[W3.heap.size + 1]? = some (.cells #[.int .i64 1, .int .i64 (if (c.other || (!p.src.v6 && p.id == q.id)) = true then 2 else 1)] 41) ∧ Gr W3 wx)
    case first =>
      by_cases hc : (c.other || (!p.src.v6 && p.id == q.id)) = true
      · have HC := Lib.hid hc
        have c1 : W4.cell? ⟨W3.heap.size + 1, 1, none⟩ = some (.int .i64 1) := by rw [cell_of_row _ _ _ _ _ _ T2.out]; rfl
        have f1 : W4.frozen? ⟨W3.heap.size + 1, 1, none⟩ = false := by simp [World.frozen?, T2.out]
        simp only [hc]
        clear hc
        go_wp2
        go_meet
        refine ⟨?_, ?_, ?_⟩
        · rw [Below.heap_setCell _ _ _ _ (show W3.heap.size ≠ W3.heap.size + 1 by omega)]; exact T1.out
        · rw [heap_setCell_same _ _ _ _ _ _ T2.out, if_pos HC.out]; rfl
        · exact Gr.of_below (G34.out.below.setCell (show W3.heap.size ≤ W3.heap.size + 1 by omega) _)
      · have HC := Lib.hid hc
        have hcf := Bool.eq_false_iff.2 hc
        simp only [hcf]
        clear hc
        go_wp2
        go_meet
        exact ⟨T1.out, by rw [if_neg HC.out]; exact T2.out, G34.out⟩
    case rest =>
    obtain ⟨t1, t2, g5⟩ := hcut
    have T1' := Lib.hid t1
    have T2' := Lib.hid t2
    have G35 := Lib.hid g5
    have HA5 := Lib.hid (HA3.out.gr g5)
    clear t1 t2 g5 T1 T2 G34 HA4 HA3
    generalize hye : (if (c.other || (!p.src.v6 && p.id == q.id)) = true then (2 : Int) else 1) = ye at T2'
    have HK : Hid (kAt 1 ye (lb.map er) (er q) ≠ kAt 1 1 (la.map er) (er p)) := by
      rw [← hye]
      exact keys_two HCA.out.2.2.1 HCA.out.2.2.2 HCB.out.2.2.1 HCB.out.2.2.2
    clear hye
    generalize hW3 : W3.heap.size = tx at T1' T2' ⊢
    generalize wc = W5 at T1' T2' G35 HA5 ⊢
    have H8 := Lib.hid (new_any W5)
    go_wp2_with (fail)
    refine H8.out.mono ?_
    rintro e W6 ⟨rfl, rfl⟩
    have hbox6 := Lib.hid (new_box W5)
    have hfr6 : Hid (Fr W5.heap.size W5 (W5.alloc (.cells #[.int .i64 0, .int .i64 0, .map none] 63))) := Fr.of_gr ((Gr.refl W5).alloc _) (Nat.le_refl _)
    generalize W5.alloc (.cells #[.int .i64 0, .int .i64 0, .map none] 63) = W6 at hbox6 hfr6 ⊢
    have hB6 : W5.heap.size ≤ W6.heap.size := hfr6.out.below.size
    have hzB : z + 1 + 1 < W5.heap.size := (Array.getElem?_eq_some_iff.1 HA5.out.b5).1
    have htB : tx + 1 < W5.heap.size := (Array.getElem?_eq_some_iff.1 T2'.out).1
    have hs35 := G35.out.below.size
    generalize hBB : W5.heap.size = B at hbox6 hfr6 hB6 hzB htB hs35 ⊢
    have HAR : Hid (∀ W', Fr B W5 W' → Args3 W' z p q c) := fun W' hf => HA5.out.below hf.below hzB
    have HRA : Hid (∀ W', Fr B W5 W' → rowOf W' ga = rowOf W3 ga ∧ ga < W'.heap.size) := fun W' hf => by
      have h0 := HROWA.out.lt
      have e1 := G35.out.below.block ga h0
      have e2 := hf.below.block ga (by omega)
      exact ⟨by unfold rowOf; rw [e2, e1], by have := hf.below.size; omega⟩
    have HRB : Hid (∀ W', Fr B W5 W' → rowOf W' gb = rowOf W3 gb ∧ gb < W'.heap.size) := fun W' hf => by
      have h0 := HROWB.out.lt
      have e1 := G35.out.below.block gb h0
      have e2 := hf.below.block gb (by omega)
      exact ⟨by unfold rowOf; rw [e2, e1], by have := hf.below.size; omega⟩
    have HTG : Hid (∀ W', Fr B W5 W' → rowOf W' tx = #[.int .i64 1, .int .i64 1] ∧ rowOf W' (tx + 1) = #[.int .i64 1, .int .i64 ye] ∧ tx + 1 < W'.heap.size) := fun W' hf =>
      ⟨rowOf_heap ((hf.below.block tx (by omega)).trans T1'.out), rowOf_heap ((hf.below.block (tx + 1) (by omega)).trans T2'.out), by have := hf.below.size; omega⟩
    have HXA : Hid (∀ W', Fr B W5 W' → ∀ x ∈ la, ExtsAt W' x ∧ Aside B W' x) := fun W' hf x hx => by
      obtain ⟨x1, C, x2⟩ := HEXA3.out x hx
      have x2' : Cloned C W5 x := by
        rcases x2 with r | ⟨h1, c, h2⟩
        · exact .inl r
        · exact .inr ⟨h1, c, (G35.out.below.block _ (Array.getElem?_eq_some_iff.1 h2).1).trans h2⟩
      exact ⟨(gr_less x1 G35.out).fr (Aside.of_cloned x2') hf, by
        rcases x2' with r | ⟨_, c, hc⟩
        · exact .inl r
        · exact .inr (.inr ⟨c, _, hf.calm _ _ _ _ hc (by decide)⟩)⟩
    have HXB : Hid (∀ W', Fr B W5 W' → ∀ x ∈ lb, ExtsAt W' x ∧ Aside B W' x) := fun W' hf x hx => by
      obtain ⟨x1, x2⟩ := HEXB.out x hx
      have x2' : Cloned W2.heap.size W5 x := by
        rcases x2 with r | ⟨h1, c, h2⟩
        · exact .inl r
        · exact .inr ⟨h1, c, (G35.out.below.block _ (Array.getElem?_eq_some_iff.1 h2).1).trans h2⟩
      exact ⟨(gr_less x1 G35.out).fr (Aside.of_cloned x2') hf, by
        rcases x2' with r | ⟨_, c, hc⟩
        · exact .inl r
        · exact .inr (.inr ⟨c, _, hf.calm _ _ _ _ hc (by decide)⟩)⟩
    have HGW : Hid (Gr w W5) := HG3.out.trans G35.out
    have HXPQ : Hid (∀ W', Fr B W5 W' → ExtsAt W' p ∧ ExtsAt W' q) := fun W' hf => by
      have h5 := HGW.out.below.size
      have hs := hf.below.size
      exact ⟨(gr_less HXP.out HGW.out).less (by omega) (fun k hk => hf.below.block k (by omega)), (gr_less HXQ.out HGW.out).less (by omega) (fun k hk => hf.below.block k (by omega))⟩
    clear H8 HA5 HEXA3 HEXB T1' T2' hW3 HG2 HG3 HG23 hs35
    go_wp2
    go_loopw [16, 17, 18] (fun iv kv nv wx => ∃ (i k n : Nat), iv = .int .i64 i ∧ kv = .int .i64 k ∧ nv = .int .i64 n ∧ Mx (la.map er) (lb.map er) (kAt 1 1 (la.map er) (er p)) (kAt 1 ye (lb.map er) (er q)) B W5 W6.heap.size i k n n wx) (fun iv kv _ _ => (la.length - (intOf iv).toNat) + (lb.length - (intOf kv).toNat))
    case atStart =>
      refine ⟨0, 0, 0, rfl, rfl, rfl, hfr6.out.trans (Fr.of_gr ((Gr.refl W6).alloc _) hB6), ?_, hBB, hB6, Nat.zero_le _, Nat.zero_le _, rfl, [], 0, 0, [], [], hbox6.out.grown ((Gr.refl W6).alloc _), by omega, by omega, by simpa using Two.start _ _, by rw [List.nil_append, Nat.sub_zero, List.take_length], by simp⟩
      have e1 : tl 0 (la.map er).length = 0 := by unfold tl; rw [if_neg (by simp; omega)]
      have e2 : tl 0 (lb.map er).length = 0 := by unfold tl; rw [if_neg (by simp; omega)]
      rw [e1, e2]
      exact heap_alloc_new _ _
    case round =>
    obtain ⟨i, k, n, rfl, rfl, rfl, hM⟩ := hrel
    have HM := Lib.hid hM
    have hi2 : i ≤ la.length := by have := hM.le1; simpa using this
    have hk2 : k ≤ lb.length := by have := hM.le2; simpa using this
    have hn2 : n = i + k := hM.num
    have HF := Lib.hid hM.fr
    have HN2 := Lib.hid hn2
    have hnb : n ≤ 128 := by omega
    clear hM hn2
    go_upto_region 17 with (fail)
    go_cut [115] from 106 to 211 (fun cx wx => cx = .bool (decide (i < la.length) || decide (k < lb.length)) ∧ wr = wx)
    case first =>
      by_cases h1 : i < la.length
      · go_wp2
        go_meet
        exact ⟨by simp [h1], rfl⟩
      · by_cases h2 : k < lb.length
        · go_wp2
          go_meet
          exact ⟨by first | (simp [h1, h2]; done) | (simp [h1, h2]; omega) | (simp [h1]; omega), rfl⟩
        · go_wp2
          go_meet
          exact ⟨by first | (simp [h1, h2]; done) | (simp [h1, h2]; omega) | (simp [h1]; omega), rfl⟩
    case rest =>
    obtain ⟨rfl, rfl⟩ := hcut
    by_cases hgo : (decide (i < la.length) || decide (k < lb.length)) = true
    · simp only [hgo]
      have HGO := Lib.hid hgo
      clear hgo
      obtain ⟨r3, r4, z5, p6, p37, p38, p39, q37, q38, q39, c50, c52, c54⟩ := (HAR.out _ HF.out).facts
      clear r3 r4 p6 p37 p38 p39 q37 q38 q39 c50 c54
      go_upto_region 20 with (fail)
      go_cut [132] from 106 to 211 (fun cx wx => cx = .bool (decide (i < la.length) && decide (n < c.ol)) ∧ wr = wx)
      case first =>
        have hfew := HOR.out.few
        by_cases h1 : i < la.length
        · by_cases h2 : n < c.ol
          · go_wp2
            go_meet
            exact ⟨by first | (simp [h1, h2]; done) | (simp [h1, h2]; omega), rfl⟩
          · go_wp2
            go_meet
            exact ⟨by first | (simp [h1, h2]; done) | (simp [h1, h2]; omega), rfl⟩
        · go_wp2
          go_meet
          exact ⟨by simp [h1], rfl⟩
      case rest =>
      obtain ⟨rfl, rfl⟩ := hcut
      go_upto_if 132 with (fail)
      go_cut [19] from 106 to 211 (fun cx wx => ∃ fb : Bool, cx = .bool fb ∧ (lb.length ≤ k → fb = true) ∧ wr = wx)
      case first =>
        by_cases h12 : (decide (i < la.length) && decide (n < c.ol)) = true
        · simp only [h12]
          have hol := HOR.out.len
          have hfew := HOR.out.few
          have h2 : n < c.ol := by simp at h12; omega
          obtain ⟨og, oo, hoa, hog, hoc⟩ := HOR.out.at_ (by intro h; rw [h] at hol; simp at hol; omega)
          obtain ⟨x, hxo⟩ : ∃ x, c.order[n]? = some x := ⟨_, List.getElem?_eq_getElem (by omega)⟩
          have hrg := HOR.out.rng x (List.mem_of_getElem? hxo)
          have cO : wr.cell? ⟨og, oo + n, none⟩ = some (.int .i64 x) := by
            have h1 := hoc n x hxo
            have hb : wr.heap[og]? = w.heap[og]? := by
              have e1 := HGW.out.below.block og hog
              have e2 := HF.out.below.block og (by have := HGW.out.below.size; omega)
              exact e2.trans e1
            rw [World.cell?_of_block (w := w) (w' := wr) hb]; exact h1
          rw [hoa] at c52
          clear hol hoc hxo hog h12
          by_cases hkl : lb.length ≤ k
          · go_wp2
            go_meet
            exact ⟨_, rfl, fun _ => by first | rfl | (simp; done) | (simp; omega), rfl⟩
          · go_wp2
            go_meet
            exact ⟨_, rfl, fun h => absurd h hkl, rfl⟩
        · have hf12 := Bool.eq_false_iff.2 h12
          simp only [hf12]
          clear h12 hf12
          go_wp2
          go_meet
          exact ⟨_, rfl, fun h => by first | exact decide_eq_true (by omega) | (simp; omega), rfl⟩
      case rest =>
      obtain ⟨fb, rfl, hfb, rfl⟩ := hcut
      have HFB := Lib.hid hfb
      clear hfb c52 z5
      go_upto_region 24 with (fail)
      have g7 : Hid (Gr wr (wr.alloc (.cells (pkc zpk) 27))) := (Gr.refl wr).alloc _
      have hb7 : Hid ((wr.alloc (.cells (pkc zpk) 27)).heap[wr.heap.size]? = some (.cells (pkc zpk) 27)) := heap_alloc_new _ _
      have HM7 := Lib.hid (HM.out.grown g7.out)
      generalize wr.alloc (.cells (pkc zpk) 27) = W7 at g7 hb7 HM7 ⊢
      obtain ⟨b, hbz⟩ : ∃ b, b = wr.heap.size := ⟨_, rfl⟩
      rw [← hbz] at hb7 ⊢
      have HBZ := Lib.hid hbz
      clear hbz
      have HF7 := Lib.hid HM7.out.fr
      go_cut [149] from 106 to 211 (fun cx wx => cx = .bool (fb && decide (i < la.length)) ∧ W7 = wx)
      case first =>
        cases fb
        · go_wp2
          go_meet
          exact ⟨by simp, rfl⟩
        · by_cases h1 : i < la.length
          · go_wp2
            go_meet
            exact ⟨by simp [h1], rfl⟩
          · go_wp2
            go_meet
            exact ⟨by first | (simp [h1]; done) | (simp; omega), rfl⟩
      case rest =>
      obtain ⟨rfl, rfl⟩ := hcut
      by_cases hAB : (fb && decide (i < la.length)) = true
      · simp only [hAB]
        have hia : i < la.length := by simp at hAB; exact hAB.2
        rename_i KA aA
        refine aA _ _ ?_
        refine mix_a hla63 hlb63 hla64 hlb64 HROWA HROWB (Lib.hid HCA.out.1) (Lib.hid HCB.out.1) HK hBB hB6 hzB htB HAR HRA HRB HTG HXA HXB HXPQ HM hi2 hk2 HN2 hnb g7 hb7 HBZ HF7 hia ?_
        · intro iv kv v21 v22 v23 v106 v107 v108 v109 v110 v111 v112 v113 v114 v115 v116 v117 v118 v119 v120 v121 v122 v123 v124 v125 v126 v127 v128 v129 v130 v131 v132 v133 v134 v135 v136 v137 v138 v139 v140 v141 v142 v143 v144 v145 v146 v147 v148 v149 v150 v151 v152 v153 v154 v155 v156 v157 v158 v159 v160 v161 v162 v163 v164 v165 v166 v167 v168 v169 v170 v171 v172 v173 v174 v175 v176 v177 v178 v179 v180 v181 v182 v183 v184 v185 v186 v187 v188 v189 v190 v191 v192 v193 v194 v195 v196 v197 v198 v199 v200 v201 v202 v203 v204 v205 v206 v207 v208 v209 v210 v211 i2 k2 w2 e1 e2 e3 e4 e5 hMx
          subst e1
          subst e2
          have h1 := hMx.le1
          have h2 := hMx.le2
          simp only [List.length_map] at h1 h2
          have HMX := Lib.hid hMx
          have hn := HN2.out
          clear hMx
          go_wp2
          go_roundw
          case rel => exact ⟨i2, k2, n + 1, rfl, rfl, by go_num, HMX.out⟩
          case measure => simp [intOf]; omega
      · have hABf := Bool.eq_false_iff.2 hAB
        simp only [hABf]
        have hkb : k < lb.length := by
          rcases Nat.lt_or_ge k lb.length with h | h
          · exact h
          · exfalso
            have h1 := HFB.out h
            rw [h1, Bool.true_and, decide_eq_false_iff_not] at hABf
            have h2 := HGO.out
            rw [Bool.or_eq_true, decide_eq_true_eq, decide_eq_true_eq] at h2
            omega
        rename_i KA aA
        refine aA _ _ ?_
        refine mix_b hla63 hlb63 hla64 hlb64 HROWA HROWB (Lib.hid HCA.out.1) (Lib.hid HCB.out.1) HK hBB hB6 hzB htB HAR HRA HRB HTG HXA HXB HXPQ HM hi2 hk2 HN2 hnb g7 hb7 HBZ HF7 hkb ?_
        · intro iv kv v21 v22 v23 v106 v107 v108 v109 v110 v111 v112 v113 v114 v115 v116 v117 v118 v119 v120 v121 v122 v123 v124 v125 v126 v127 v128 v129 v130 v131 v132 v133 v134 v135 v136 v137 v138 v139 v140 v141 v142 v143 v144 v145 v146 v147 v148 v149 v150 v151 v152 v153 v154 v155 v156 v157 v158 v159 v160 v161 v162 v163 v164 v165 v166 v167 v168 v169 v170 v171 v172 v173 v174 v175 v176 v177 v178 v179 v180 v181 v182 v183 v184 v185 v186 v187 v188 v189 v190 v191 v192 v193 v194 v195 v196 v197 v198 v199 v200 v201 v202 v203 v204 v205 v206 v207 v208 v209 v210 v211 i2 k2 w2 e1 e2 e3 e4 e5 hMx
          subst e1
          subst e2
          have h1 := hMx.le1
          have h2 := hMx.le2
          simp only [List.length_map] at h1 h2
          have HMX := Lib.hid hMx
          have hn := HN2.out
          clear hMx
          go_wp2
          go_roundw
          case rel => exact ⟨i2, k2, n + 1, rfl, rfl, by go_num, HMX.out⟩
          case measure => simp [intOf]; omega
    · have hgf := Bool.eq_false_iff.2 hgo
      simp only [hgf]
      rw [Bool.or_eq_false_iff, decide_eq_false_iff_not, decide_eq_false_iff_not] at hgf
      have hiE : i = la.length := by omega
      have hkE : k = lb.length := by omega
      subst hiE
      subst hkE
      clear hgo hgf
      obtain ⟨hs, now, count, TA, TB, hbox, _, _, hTw, _, _⟩ := HM.out.st
      rw [if_pos (by simp), if_pos (by simp)] at hTw
      have hs0 : hs = [] := by simpa using hTw.none_
      subst hs0
      have ht : wr.heap[W6.heap.size]? = some (.cells #[.int .i64 1, .int .i64 1] 48) := by
        have h1 := HM.out.told
        have e1 : tl la.length (la.map er).length = 1 := by unfold tl; rw [if_pos (by simp)]
        have e2 : tl lb.length (lb.map er).length = 1 := by unfold tl; rw [if_pos (by simp)]
        rwa [e1, e2] at h1
      have ct0 : wr.cell? ⟨W6.heap.size, 0, none⟩ = some (.int .i64 1) := by rw [cell_of_row _ _ _ _ _ _ ht]; rfl
      have ct1 : wr.cell? ⟨W6.heap.size, 1, none⟩ = some (.int .i64 1) := by rw [cell_of_row _ _ _ _ _ _ ht]; rfl
      have H14 := Lib.hid (waiting_any hbox)
      have H15 := Lib.hid (held_any hbox (by have h00 : heldH [] = 0 := rfl; omega))
      have HGE : Hid (Gr w wr) := HGW.out.trans (Gr.of_below (by rw [hBB]; exact HF.out.below))
      clear hbox hTw ht hi2 hk2
      go_wp2_with (fail)
      refine H14.out.mono ?_
      rintro e w' ⟨rfl, rfl⟩
      go_wp2_with (fail)
      refine H15.out.mono ?_
      rintro e w' ⟨rfl, hg⟩
      have h00 : heldH [] = 0 := rfl
      rw [h00]
      go_wp2
      go_ret
      exact ⟨rfl, HGE.out.trans hg⟩
end Go.Proofs.Ytfdjpmglfjiamaa
