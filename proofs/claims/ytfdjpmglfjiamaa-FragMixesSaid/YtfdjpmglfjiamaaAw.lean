/- Walk: the laws' awake. -/
import Derived.Test.YtfdjpmglfjiamaaTa
import Derived.Test.YtfdjpmglfjiamaaSl
import Derived.Test.YtfdjpmglfjiamaaPa
import Derived.Test.YtfdjpmglfjiamaaTn
namespace Go.Proofs.Ytfdjpmglfjiamaa
open Go Go.Sort Go.RowKit
set_option linter.unusedSimpArgs false
set_option linter.unusedVariables false

@[go_sem ↓] theorem execOp_build41 (ρ : Operand → Value) (dst : Option Tmp) (ty : TypeId) (pos : String) (after : Array Edge) (guard : Option (Nat × Bool)) (w : World) :
    (execOp ρ { dst, op := .build 41 #[], type := ty, pos, after, guard }).run Try.prog w = .ok (.value (.agg #[.int .i64 0, .int .i64 0])) w := by kernel_rfl

/-- Three packets that came of small's. -/
theorem sm_three {l : List Pk} (h : l.map er = smallL) : ∃ a b c, l = [a, b, c] ∧ er a = cutAt (smallP zstr) 0 48 0 ∧ er b = cutAt (smallP zstr) 0 48 48 ∧ er c = cutAt (smallP zstr) 0 48 96 := by
  match l, h with
  | [a, b, c], h =>
    simp only [List.map_cons, List.map_nil, smallL, List.cons.injEq, and_true] at h
    exact ⟨a, b, c, rfl, h.1, h.2.1, h.2.2⟩
  | [], h => simp [smallL] at h
  | [_], h => simp [smallL] at h
  | [_, _], h => simp [smallL] at h
  | _ :: _ :: _ :: _ :: _, h => simp [smallL] at h

theorem Aside.of_cloned {B C : Nat} {w : World} {p : Pk} (h : Cloned C w p) : Aside B w p := by
  rcases h with h | ⟨_, c, h⟩
  · exact .inl h
  · exact .inr (.inr ⟨c, _, h⟩)

theorem held_ab (hs : List Hp) : heldA (hs.map Hp.ab) = heldH hs := by
  unfold heldA heldH heldL
  rw [List.map_map]
  congr 1
  refine List.map_congr_left fun x _ => ?_
  simp only [Function.comp, Hp.ab, List.map_map]
  rfl
theorem cell_rowOf (w : World) (g i : Nat) : w.cell? ⟨g, i, none⟩ = (rowOf w g)[i]? := by
  unfold rowOf
  cases h : w.heap[g]? with
  | none => simp [World.cell?, h]
  | some o => cases o <;> simp [World.cell?, h]
/-- Where no other key has pieces: one heap. -/
theorem pc_single {k : Key} {s : List AH} {T : List Pk} (hn : KN s) (ho : ∀ k', k' ≠ k → Pc k' s []) (hT : Pc k s T) : (T = [] → s = []) ∧ (T ≠ [] → ∃ b l, s = [⟨k, b, l⟩] ∧ l.Perm T) := by
  have hall : ∀ h ∈ s, h.key = k := fun h hh => Classical.byContradiction fun hne => by
    rcases ho h.key hne with ⟨_, h2⟩ | ⟨h1, _⟩
    · exact h2 h hh rfl
    · exact h1 rfl
  constructor
  · rintro rfl
    rcases hT with ⟨_, h2⟩ | ⟨h1, _⟩
    · cases s with
      | nil => rfl
      | cons a r => exact absurd (hall a (by simp)) (h2 a (by simp))
    · exact absurd rfl h1
  · intro hne
    rcases hT with ⟨h1, _⟩ | ⟨_, b, l, hm, hl⟩
    · exact absurd h1 hne
    · refine ⟨b, l, ?_, hl⟩
      match s, hn, hall, hm with
      | [], _, _, hm => simp at hm
      | [a], _, _, hm => rw [List.mem_singleton.1 hm]
      | a :: c :: r, hn, hall, _ =>
        unfold KN at hn
        rw [List.map_cons, List.nodup_cons] at hn
        exact absurd (by rw [hall a (by simp), ← hall c (by simp)]; simp) hn.1

attribute [local irreducible] Calls in
set_option maxRecDepth 100000 in
set_option maxHeartbeats 4000000 in
theorem awake_any (w : World) : Calls Try.prog 6 #[] w fun e w' => e = .returned (.bool true) ∧ Gr w w' := by
  have H17 := Lib.hid (small_any w)
  have HX0 : Hid (∀ W, ExtsAt W (smallP zstr)) := fun W => ⟨rfl, by decide, by decide, fun _ => rfl, fun h => absurd rfl h, fun h => absurd rfl h, fun i x hx => by simp [smallP] at hx, by simp [smallP]⟩
  have H7 := Lib.hid (fun W => split_any (smallP zstr) 68 0 W (HX0.out W) (by decide) (by rw [sm_paysize]; omega) (by decide) (by decide) (by decide) (by decide))
  go_enter Try.func6, Try.ntmps6
  go_wp2_with (fail)
  refine H17.out.mono ?_
  rintro e W1 ⟨rfl, hg1⟩
  have HG1 := Lib.hid hg1
  clear hg1
  go_wp2_with (fail)
  refine (H7.out W1).mono ?_
  rintro e W2 ⟨v, l, rfl, hps, her, hex, hg2⟩
  rw [sm_split] at her
  have hsp1 : (split (er (smallP zstr)) 68 0).1 = 0 := by rw [sm_split]
  rw [hsp1]
  obtain ⟨pa, pb, pc, rfl, ea, eb, ec⟩ := sm_three her
  rcases hps with ⟨_, h0⟩ | ⟨g, cap, rfl, hlc, hcm, hrow⟩
  · simp at h0
  have hlen3 : ([pa, pb, pc] : List Pk).length = 3 := rfl
  rw [hlen3]
  have i0 : ∀ W, (Instr.indexAt 32 (.slice (some ⟨g, 0, none⟩) 3 cap) (.int .i64 0)).run Try.prog W = .ok (.pointer (some ⟨g, 0, none⟩)) W := fun W => by
    have := run_idx32 g 3 cap 0 W (by omega) (by omega); simpa using this
  have i1 : ∀ W, (Instr.indexAt 32 (.slice (some ⟨g, 0, none⟩) 3 cap) (.int .i64 1)).run Try.prog W = .ok (.pointer (some ⟨g, 46, none⟩)) W := fun W => by
    have := run_idx32 g 3 cap 1 W (by omega) (by omega); simpa using this
  have i2 : ∀ W, (Instr.indexAt 32 (.slice (some ⟨g, 0, none⟩) 3 cap) (.int .i64 2)).run Try.prog W = .ok (.pointer (some ⟨g, 92, none⟩)) W := fun W => by
    have := run_idx32 g 3 cap 2 W (by omega) (by omega); simpa using this
  have HROW : Hid (∀ W', W'.heap[g]? = W2.heap[g]? → ((rowOf W' g).extract 0 46 = pkc pa ∧ fitsAt (rowOf W' g) 0 46) ∧ ((rowOf W' g).extract 46 92 = pkc pb ∧ fitsAt (rowOf W' g) 46 46) ∧ ((rowOf W' g).extract 92 138 = pkc pc ∧ fitsAt (rowOf W' g) 92 46)) := fun W' hw => by
    have e : rowOf W' g = rowOf W2 g := by unfold rowOf; rw [hw]
    rw [e]
    exact ⟨by simpa using hrow.row 0 pa rfl, by simpa using hrow.row 1 pb rfl, by simpa using hrow.row 2 pc rfl⟩
  have hgs := hrow.lt
  have HEX := Lib.hid hex
  have HG2 : Hid (Gr w W2) := HG1.out.trans hg2
  clear hrow hex hg2 her hsp1 hlc hcm hlen3 H17 H7 HX0
  have H8 := Lib.hid (new_any W2)
  go_wp2_with (fail)
  refine H8.out.mono ?_
  rintro e W3 ⟨rfl, rfl⟩
  have hbox3 := Lib.hid (new_box W2)
  have hfr3 : Hid (Fr W2.heap.size W2 (W2.alloc (.cells #[.int .i64 0, .int .i64 0, .map none] 63))) := Fr.of_gr ((Gr.refl W2).alloc _) (Nat.le_refl _)
  generalize W2.alloc (.cells #[.int .i64 0, .int .i64 0, .map none] 63) = W3 at hbox3 hfr3 ⊢
  generalize hBB : W2.heap.size = B at hbox3 hfr3 hgs ⊢
  have hg3 : Hid (W3.heap[g]? = W2.heap[g]?) := hfr3.out.below.block g hgs
  obtain ⟨⟨a1, a2⟩, ⟨b1, b2⟩, ⟨d1, d2⟩⟩ := HROW.out W3 hg3.out
  have hxc : ExtsAt W3 pc ∧ Aside B W3 pc := by
    obtain ⟨x1, x2⟩ := HEX.out pc (by simp)
    have hc : Aside B W2 pc := Aside.of_cloned x2
    exact ⟨x1.fr hc hfr3.out, by
      rcases x2 with r | ⟨_, c, hc⟩
      · exact .inl r
      · exact .inr (.inr ⟨c, _, hfr3.out.calm _ _ _ _ hc (by decide)⟩)⟩
  have HT1 := Lib.hid (take_new (k := ⟨0, 0, v4 10 0 0 1, v4 10 0 0 2, 17, 1⟩) (T := []) (R := [cutAt (smallP zstr) 0 48 0, cutAt (smallP zstr) 0 48 48]) sm_cutting hbox3.out 0 0 0 (by rw [ec]; rfl) hxc.1 hxc.2 (.inl ⟨rfl, by simp⟩) (by
    rw [ec]
    show [cutAt (smallP zstr) 0 48 96, cutAt (smallP zstr) 0 48 0, cutAt (smallP zstr) 0 48 48].Perm [cutAt (smallP zstr) 0 48 0, cutAt (smallP zstr) 0 48 48, cutAt (smallP zstr) 0 48 96]
    exact (List.Perm.swap _ _ _).trans ((List.Perm.swap _ _ _).cons _)) (by decide) (by simp) (by omega))
  clear hxc
  go_wp2_with (fail)
  refine HT1.out.mono ?_
  rintro e W4 ⟨hs1, c1, q1, rfl, hN1⟩
  have hfr4 : Hid (Fr B W2 W4) := hfr3.out.trans hN1.fr
  have hq1 : q1 = zpk := (hN1.more (by simp)).1
  have HN1 := Lib.hid hN1
  clear a1 a2 b1 b2 d1 d2 hN1 HT1
  simp only [List.isEmpty_cons]
  obtain ⟨⟨a1, a2⟩, ⟨b1, b2⟩, ⟨d1, d2⟩⟩ := HROW.out W4 (hfr4.out.below.block g hgs)
  have hg4 : g < W4.heap.size := by have := hfr4.out.below.size; omega
  have hxa : ∀ W', Fr B W2 W' → ∀ x ∈ [pa, pb, pc], ExtsAt W' x ∧ Aside B W' x := fun W' hf x hx => by
    obtain ⟨x1, x2⟩ := HEX.out x hx
    have hc : Aside B W2 x := Aside.of_cloned x2
    exact ⟨x1.fr hc hf, by
      rcases x2 with r | ⟨_, c, hc⟩
      · exact .inl r
      · exact .inr (.inr ⟨c, _, hf.calm _ _ _ _ hc (by decide)⟩)⟩
  have HXA := Lib.hid hxa
  have hB2 : B ≤ W2.heap.size := by omega
  have hlenk1 : hs1.length ≤ 1 := by have := HN1.out.kept.len; simpa using this
  have HT2 : Hid (∀ W, Gr W4 W → Calls Try.prog 12 #[.pointer (some ⟨B, 0, none⟩), .int .i64 0, .agg #[.int .i64 0, .int .i64 0], .agg (pkc pa)] W fun e w' =>
      ∃ hs' count' q, e = .returned (.tuple #[.agg (pkc q), .bool false]) ∧ NewEnd B W B (nowOf (nowOf 0 0) 0) c1 hs1 ⟨0, 0, v4 10 0 0 1, v4 10 0 0 2, 17, 1⟩ (smallP zstr) pa [er pc] [cutAt (smallP zstr) 0 48 48] w' hs' count' q) := fun W hg => by
    have hf : Fr B W2 W := hfr4.out.trans (Fr.of_gr hg (by have := hfr4.out.below.size; omega))
    obtain ⟨x1, x2⟩ := HXA.out W hf pa (by simp)
    refine take_new (R := [cutAt (smallP zstr) 0 48 48]) sm_cutting (HN1.out.box.grown hg) 0 0 0 (by rw [ea]; rfl) x1 x2 ((HN1.out.more (by simp)).2) ?_ (by decide) (by omega) (by have := HN1.out.c1; omega)
    rw [ec, ea]
    show [cutAt (smallP zstr) 0 48 96, cutAt (smallP zstr) 0 48 0, cutAt (smallP zstr) 0 48 48].Perm [cutAt (smallP zstr) 0 48 0, cutAt (smallP zstr) 0 48 48, cutAt (smallP zstr) 0 48 96]
    exact (List.Perm.swap _ _ _).trans ((List.Perm.swap _ _ _).cons _)
  clear hxa
  go_wp2_with (fail)
  refine (HT2.out _ ((Gr.refl W4).alloc _)).mono ?_
  rintro e W5 ⟨hs2, c2, q2, rfl, hN2⟩
  have hfr5 : Hid (Fr B W2 W5) := (hfr4.out.trans (Fr.of_gr ((Gr.refl W4).alloc _) (by have := hfr4.out.below.size; omega))).trans hN2.fr
  have HN2 := Lib.hid hN2
  clear a1 a2 b1 b2 d1 d2 hN2 HT2
  obtain ⟨⟨a1, a2⟩, ⟨b1, b2⟩, ⟨d1, d2⟩⟩ := HROW.out W5 (hfr5.out.below.block g hgs)
  have hg5 : g < W5.heap.size := by have := hfr5.out.below.size; omega
  have hlenk2 : hs2.length ≤ 2 := by have := HN2.out.kept.len; simp at this; omega
  -- the only heap
  have hoth1 : ∀ k', k' ≠ ⟨0, 0, v4 10 0 0 1, v4 10 0 0 2, 17, 1⟩ → Pc k' (hs1.map Hp.ab) [] := fun k' hne => HN1.out.kept.other k' [] hne (.inl ⟨rfl, by simp⟩)
  have hoth2 : ∀ k', k' ≠ ⟨0, 0, v4 10 0 0 1, v4 10 0 0 2, 17, 1⟩ → Pc k' (hs2.map Hp.ab) [] := fun k' hne => HN2.out.kept.other k' [] hne (hoth1 k' hne)
  have hheld : heldH hs2 = 52 := by
    obtain ⟨b, l, e1, e2⟩ := (pc_single HN2.out.kept.kn hoth2 (HN2.out.more (by simp)).2).2 (by simp)
    rw [← held_ab, e1]
    unfold heldA
    have h3 := (e2.map (fun p : Pk => p.pay.size)).sum_nat
    simp only [List.map_cons, List.map_nil, List.sum_cons, List.sum_nil]
    rw [h3, ec, ea]
    simp only [List.cons_append, List.nil_append, List.map_cons, List.map_nil, List.sum_cons, List.sum_nil, cutAt_size, sm_paysize]
    decide
  have HH : Hid (∀ W, Gr W5 W → Calls Try.prog 15 #[.pointer (some ⟨B, 0, none⟩)] W fun e w' => e = .returned (.int .i64 52) ∧ Gr W w') := fun W hg => by
    have := held_any (HN2.out.box.grown hg) (by omega)
    rwa [hheld] at this
  have HO2 := Lib.hid hoth2
  clear hoth1 hoth2 hheld
  go_wp2_with (fail)
  refine (HH.out _ ((Gr.refl W5).alloc _)).mono ?_
  rintro e W6 ⟨rfl, hg6⟩
  have hg56 : Gr W5 W6 := ((Gr.refl W5).alloc _).trans hg6
  have hfr6 : Hid (Fr B W2 W6) := hfr5.out.trans (Fr.of_gr hg56 (by have := hfr5.out.below.size; omega))
  have HB6 := Lib.hid (HN2.out.box.grown hg56)
  clear a1 a2 b1 b2 d1 d2 hg6 hg56 HH
  obtain ⟨⟨a1, a2⟩, ⟨b1, b2⟩, ⟨d1, d2⟩⟩ := HROW.out W6 (hfr6.out.below.block g hgs)
  have hg6 : g < W6.heap.size := by have := hfr6.out.below.size; omega
  obtain ⟨x1, x2⟩ := HXA.out W6 hfr6.out pb (by simp)
  have HT3 := Lib.hid (take_new (k := ⟨0, 0, v4 10 0 0 1, v4 10 0 0 2, 17, 1⟩) (T := [er pc] ++ [er pa]) (R := []) sm_cutting HB6.out 0 0 0 (by rw [eb]; rfl) x1 x2 ((HN2.out.more (by simp)).2) (by
    rw [ec, ea, eb]
    show [cutAt (smallP zstr) 0 48 96, cutAt (smallP zstr) 0 48 0, cutAt (smallP zstr) 0 48 48].Perm [cutAt (smallP zstr) 0 48 0, cutAt (smallP zstr) 0 48 48, cutAt (smallP zstr) 0 48 96]
    exact (List.Perm.swap _ _ _).trans ((List.Perm.swap _ _ _).cons _)) (by decide) (by omega) (by have h1 := HN1.out.c1; have h2 := HN2.out.c1; omega))
  clear x1 x2
  go_wp2_with (fail)
  refine HT3.out.mono ?_
  rintro e W7 ⟨hs3, c3, q3, rfl, hN3⟩
  have HN3 := Lib.hid hN3
  have hfr7 : Hid (Fr B W2 W7) := hfr6.out.trans hN3.fr
  have hempty : hs3 = [] := by
    have h1 := (pc_single hN3.kept.kn (fun k' hne => hN3.kept.other k' [] hne (HO2.out k' hne)) (hN3.done rfl).2.2.2).1 rfl
    simpa using h1
  have hq3 : q3.pay.size = 100 := by
    have h1 := congrArg Pk.pay (hN3.done rfl).1
    have h2 : q3.pay = (smallP zstr).pay := h1
    rw [h2]; exact sm_paysize
  have hpb : pb.off = 48 := by
    have h1 := congrArg Pk.off eb
    exact h1
  have hcell7 : W7.cell? ⟨g, 84, none⟩ = some (.int .i64 48) := by
    obtain ⟨_, ⟨e1, e2⟩, _⟩ := HROW.out W7 (hfr7.out.below.block g hgs)
    have h1 : (pkc pb)[38]? = (rowOf W7 g)[84]? := by
      rw [← e1, Array.getElem?_extract_of_lt (by simp only [fitsAt] at e2; omega)]
      rw [Array.getElem?_eq_getElem]
    rw [cell_rowOf, ← h1, pkc_38, hpb]
  have hg7 : g < W7.heap.size := by have := hfr7.out.below.size; omega
  have H14 : Hid (∀ W, Gr W7 W → Calls Try.prog 14 #[.pointer (some ⟨B, 0, none⟩)] W fun e w' => e = .returned (.int .i64 0) ∧ w' = W) := fun W hg => by
    have := waiting_any (HN3.out.box.grown hg)
    rw [hempty] at this
    exact this
  have HGW : Hid (Gr w W7) := HG2.out.trans (Gr.of_below (by rw [hBB]; exact hfr7.out.below))
  clear hN3 HT3 a1 a2 b1 b2 d1 d2 hempty hpb
  simp only [List.isEmpty_nil]
  go_wp2_with (fail)
  refine (H14.out _ ((Gr.refl W7).alloc _)).mono ?_
  rintro e W8 ⟨rfl, rfl⟩
  go_wp2
  go_ret
  exact ⟨rfl, HGW.out.alloc _⟩
end Go.Proofs.Ytfdjpmglfjiamaa
