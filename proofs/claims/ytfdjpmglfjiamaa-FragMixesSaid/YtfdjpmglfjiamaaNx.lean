/- Walk: frag.(*Box).oldest. Walk: frag.(*Box).Next. -/
import Derived.Test.YtfdjpmglfjiamaaLb
import Derived.Deep.RegionWith
namespace Go.Proofs.Ytfdjpmglfjiamaa
open Go Go.Sort Go.RowKit
open Go.ChangeMaps (setBlock)
set_option linter.unusedSimpArgs false
set_option linter.unusedVariables false

theorem setRow_heap_at {w : World} {g : Nat} {c cs : Array Value} {t : TypeId} {fr : Nat × Nat} (h : w.heap[g]? = some (.cells c t fr)) : (w.setRow g cs).heap[g]? = some (.cells cs t fr) := by
  simp [World.setRow, Array.getElem?_modify, h]
theorem setRow_heap_other {w : World} {g k : Nat} {cs : Array Value} (h : k ≠ g) : (w.setRow g cs).heap[k]? = w.heap[k]? := by
  simp [World.setRow, Array.getElem?_modify, Ne.symm h]
theorem below_setRow {B : Nat} {a w : World} (h : Below B a w) {g : Nat} (hg : B ≤ g) (cs : Array Value) : Below B a (w.setRow g cs) :=
  ⟨h.os, h.tape, h.output, by have := h.size; simpa [World.setRow] using this, fun k hk => by rw [setRow_heap_other (by omega)]; exact h.block k hk⟩
/-- Between two rounds of oldest. -/
structure Ot (w : World) (mb clock : Nat) (count : Int) (hs : List Hp) (L : Int) (out : Key) (seen : Array Nat) (c0 : Nat) (W : World) : Prop where
  out_ : W.heap[w.heap.size + 1]? = some (.cells (keyc out) 70)
  res : W.heap[w.heap.size]? = some (.cells (keyc zkey) 70)
  it : W.heap[w.heap.size + 1 + 1]? = some (.mapIter (some mb) clock seen c0)
  c0 : clock ≤ c0
  least : L = count ∨ ∃ h ∈ hs, out = h.key ∧ L = h.order
  low : ∀ h ∈ hs, seen.contains h.born = true → L ≤ h.order
  below : Below w.heap.size w W
  size : w.heap.size + 1 + 1 < W.heap.size

/-- A round that lets the least stand. -/
theorem Ot.step {w : World} {mb clock : Nat} {count L : Int} {hs : List Hp} {out : Key} {seen : Array Nat} {c0 : Nat} {wr W2 W4 : World} {h : Hp} (hO : Ot w mb clock count hs L out seen c0 wr)
    (S1 : ∀ k, k ≠ w.heap.size + 1 + 1 → W2.heap[k]? = wr.heap[k]?) (S2 : W2.heap[w.heap.size + 1 + 1]? = some (.mapIter (some mb) clock (seen.push h.born) clock)) (S3 : W2.heap.size = wr.heap.size)
    (S4 : W2.os = wr.os ∧ W2.tape = wr.tape ∧ W2.output = wr.output) (g : Gr W2 W4) (hlow : L ≤ h.order) (hnd : (hs.map (·.born)).Nodup) (hh : h ∈ hs) :
    Ot w mb clock count hs L out (seen.push h.born) clock W4 := by
  have hb := g.below.block
  have hs2 := hO.size
  have hs4 := g.below.size
  refine ⟨?_, ?_, ?_, Nat.le_refl _, hO.least, ?_, ⟨?_, ?_, ?_, ?_, ?_⟩, by omega⟩
  · rw [hb _ (by omega), S1 _ (by omega)]; exact hO.out_
  · rw [hb _ (by omega), S1 _ (by omega)]; exact hO.res
  · rw [hb _ (by omega)]; exact S2
  · intro x hx hc
    rw [Array.contains_push] at hc
    rcases Bool.or_eq_true_iff.1 hc with h1 | h1
    · exact hO.low x hx h1
    · have hxb : x.born = h.born := by simpa using h1
      rw [nodup_inj (fun x : Hp => x.born) hnd hx hh hxb]; exact hlow
  · rw [g.below.os, S4.1]; exact hO.below.os
  · rw [g.below.tape, S4.2.1]; exact hO.below.tape
  · rw [g.below.output, S4.2.2]; exact hO.below.output
  · omega
  · intro k hk
    rw [hb k (by omega), S1 k (by omega)]
    exact hO.below.block k hk

/-- A round that takes a lower one. -/
theorem Ot.take {w : World} {mb clock : Nat} {count L : Int} {hs : List Hp} {out : Key} {seen : Array Nat} {c0 : Nat} {wr W2 W4 : World} {h : Hp} (hO : Ot w mb clock count hs L out seen c0 wr)
    (S1 : ∀ k, k ≠ w.heap.size + 1 + 1 → W2.heap[k]? = wr.heap[k]?) (S2 : W2.heap[w.heap.size + 1 + 1]? = some (.mapIter (some mb) clock (seen.push h.born) clock)) (S3 : W2.heap.size = wr.heap.size)
    (S4 : W2.os = wr.os ∧ W2.tape = wr.tape ∧ W2.output = wr.output) (g : Gr W2 W4) (hlow : h.order < L) (hnd : (hs.map (·.born)).Nodup) (hh : h ∈ hs) :
    Ot w mb clock count hs h.order h.key (seen.push h.born) clock (W4.setRow (w.heap.size + 1) (keyc h.key)) := by
  have hb := g.below.block
  have hs2 := hO.size
  have hs4 := g.below.size
  have hsz : (W4.setRow (w.heap.size + 1) (keyc h.key)).heap.size = W4.heap.size := by simp [World.setRow]
  refine ⟨?_, ?_, ?_, Nat.le_refl _, .inr ⟨h, hh, rfl, rfl⟩, ?_, ⟨?_, ?_, ?_, ?_, ?_⟩, by omega⟩
  · refine setRow_heap_at (c := keyc out) ?_
    rw [hb _ (by omega), S1 _ (by omega)]; exact hO.out_
  · rw [setRow_heap_other (by omega), hb _ (by omega), S1 _ (by omega)]; exact hO.res
  · rw [setRow_heap_other (by omega), hb _ (by omega)]; exact S2
  · intro x hx hc
    rw [Array.contains_push] at hc
    rcases Bool.or_eq_true_iff.1 hc with h1 | h1
    · have := hO.low x hx h1; omega
    · have hxb : x.born = h.born := by simpa using h1
      rw [nodup_inj (fun x : Hp => x.born) hnd hx hh hxb]; exact Int.le_refl _
  · show W4.os = _; rw [g.below.os, S4.1]; exact hO.below.os
  · show W4.tape = _; rw [g.below.tape, S4.2.1]; exact hO.below.tape
  · show W4.output = _; rw [g.below.output, S4.2.2]; exact hO.below.output
  · omega
  · intro k hk
    rw [setRow_heap_other (by omega), hb k (by omega), S1 k (by omega)]
    exact hO.below.block k hk

set_option maxRecDepth 100000 in
set_option maxHeartbeats 2000000 in
theorem oldest_map (w : World) (bb mb clock : Nat) (now count : Int) (hs : List Hp) (hb : w.heap[bb]? = some (.cells #[.int .i64 now, .int .i64 count, .map (some mb)] 63))
    (hm : w.heap[mb]? = some (.map (ents (hs.map Hp.ent)) clock)) (hbn : ∀ h ∈ hs, h.born < clock) (hnd : (hs.map (·.born)).Nodup) (hne0 : hs ≠ [])
    (hat : ∀ h ∈ hs, w.heap[h.blk]? = some (.cells #[.int .i64 h.began, .int .i64 h.order, h.pv] 74) ∧ 0 ≤ h.order ∧ h.order < count) :
    Calls Try.prog 28 #[.pointer (some ⟨bb, 0, none⟩)] w fun e w' => (∃ h ∈ hs, e = .returned (.agg (keyc h.key))) ∧ Gr w w' := by
  have c1 : w.cell? ⟨bb, 1, none⟩ = some (.int .i64 count) := cell_of_row w bb 1 _ 63 (0, 0) hb
  have c2 : w.cell? ⟨bb, 2, none⟩ = some (.map (some mb)) := cell_of_row w bb 2 _ 63 (0, 0) hb
  have hbs : bb < w.heap.size := (Array.getElem?_eq_some_iff.1 hb).1
  have hms : mb < w.heap.size := (Array.getElem?_eq_some_iff.1 hm).1
  have hm2 : ((w.alloc (.cells (keyc zkey) 70)).alloc (.cells (keyc zkey) 70)).heap[mb]? = some (.map (ents (hs.map Hp.ent)) clock) := by
    rw [heap_alloc_old _ _ (by simp; omega), heap_alloc_old _ _ hms]; exact hm
  have hrg := run_range_map (P := Try.prog) _ 61 70 71 mb _ clock Try.underlying61 hm2
  rw [World.size_alloc, World.size_alloc] at hrg
  go_enter Try.func28, Try.ntmps28
  go_wp2
  have hO : Ot w mb clock count hs count zkey #[] clock (((w.alloc (Obj.cells (keyc zkey) 70)).alloc (Obj.cells (keyc zkey) 70)).alloc (Obj.mapIter (some mb) clock #[] clock)) := by
    refine ⟨?_, ?_, ?_, Nat.le_refl _, .inl rfl, fun h _ hc => by simp at hc, (((Gr.refl w).alloc _).alloc _ |>.alloc _).below, by simp⟩
    · rw [heap_alloc_old _ _ (by simp)]
      have := heap_alloc_new (w.alloc (Obj.cells (keyc zkey) 70)) (Obj.cells (keyc zkey) 70)
      rwa [World.size_alloc] at this
    · rw [heap_alloc_old _ _ (by simp; omega), heap_alloc_old _ _ (by simp)]; exact heap_alloc_new _ _
    · have := heap_alloc_new ((w.alloc (Obj.cells (keyc zkey) 70)).alloc (Obj.cells (keyc zkey) 70)) (Obj.mapIter (some mb) clock #[] clock)
      rwa [World.size_alloc, World.size_alloc] at this
  generalize ((w.alloc (Obj.cells (keyc zkey) 70)).alloc (Obj.cells (keyc zkey) 70)).alloc (Obj.mapIter (some mb) clock #[] clock) = W0 at hO ⊢
  have HO := Lib.hid hO
  have HM := Lib.hid hm
  clear hO hm2 hrg c1 c2
  go_loopw [4] (fun l wr => ∃ L out seen c0, l = .int .i64 L ∧ Ot w mb clock count hs L out seen c0 wr) (fun _ wr => (hs.filter fun h => !((wr.iterSeen (w.heap.size + 1 + 1)).contains h.born)).length)
  case atStart => exact ⟨count, zkey, #[], clock, rfl, HO.out⟩
  case round =>
    obtain ⟨L, out, seen, c0, rfl, hO⟩ := hrel
    have hold : ∀ x ∈ (ents (hs.map Hp.ent)).toList, x.born < clock := by
      intro x hx
      rw [ents_toList, List.map_map] at hx
      obtain ⟨h, hh, rfl⟩ := List.mem_map.1 hx
      exact hbn h hh
    have hmW : wr.heap[mb]? = some (.map (ents (hs.map Hp.ent)) clock) := (hO.below.block mb hms).trans HM.out
    rcases run_next_at (P := Try.prog) wr 0 (w.heap.size + 1 + 1) mb clock c0 seen _ clock hO.it hmW hold hO.c0 with ⟨h0, hrun⟩ | ⟨e, he, w1, hw1, hrun⟩
    · have HO2 := Lib.hid hO
      have H0 := Lib.hid h0
      have r1 : rowOf wr (w.heap.size + 1) = keyc out := rowOf_heap HO2.out.out_
      have r2 : rowOf wr w.heap.size = keyc zkey := rowOf_heap HO2.out.res
      have f2 : freeAt wr w.heap.size = true := freeAt_heap HO2.out.res
      have HAT := Lib.hid hat
      clear hO h0 hold hat
      go_wp2
      refine bodyPost_ret (run_results_cell 38 Try.results28 _ _ w.heap.size _ rfl isAgg70 size70 (by omega) (by rw [sz_keyc]; trivial) (rowOf_heap (setRow_heap_at HO2.out.res))) rfl ⟨?_, Gr.of_below (below_setRow HO2.out.below (Nat.le_refl _) _)⟩
      rcases HO2.out.least with h1 | ⟨h, hh, h1, _⟩
      · obtain ⟨h, hh⟩ := List.exists_mem_of_ne_nil _ hne0
        have hl := HO2.out.low h hh (all_seen _ _ H0.out h.ent.me (by rw [ents_toList]; exact List.mem_map_of_mem (List.mem_map_of_mem hh)))
        have := (HAT.out h hh).2.2
        omega
      · exact ⟨h, hh, by rw [h1]⟩
    · obtain ⟨he1, he2⟩ := mem_left he
      rw [ents_toList, List.map_map] at he1
      obtain ⟨h, hh, rfl⟩ := List.mem_map.1 he1
      obtain ⟨hat1, hat2, hat3⟩ := hat h hh
      have hbk : h.blk < w.heap.size := (Array.getElem?_eq_some_iff.1 hat1).1
      have hAt := (hO.below.block h.blk hbk).trans hat1
      have hwsz := hO.size
      have hsz1 : w1.heap = wr.heap := by rcases hw1 with rfl | rfl <;> rfl
      have s1 : ∀ k, k ≠ w.heap.size + 1 + 1 → (setBlock w1 (w.heap.size + 1 + 1) (.mapIter (some mb) clock (seen.push h.born) clock)).heap[k]? = wr.heap[k]? := fun k hk => by
        simp [setBlock, Array.getElem?_setIfInBounds, Ne.symm hk, hsz1]
      have s2 : (setBlock w1 (w.heap.size + 1 + 1) (.mapIter (some mb) clock (seen.push h.born) clock)).heap[w.heap.size + 1 + 1]? = some (.mapIter (some mb) clock (seen.push h.born) clock) := by
        simp [setBlock, Array.getElem?_setIfInBounds, hsz1, hO.size]
      have s3 : (setBlock w1 (w.heap.size + 1 + 1) (.mapIter (some mb) clock (seen.push h.born) clock)).heap.size = wr.heap.size := by simp [setBlock, hsz1]
      have s4 : Hid ((setBlock w1 (w.heap.size + 1 + 1) (.mapIter (some mb) clock (seen.push h.born) clock)).os = wr.os ∧ (setBlock w1 (w.heap.size + 1 + 1) (.mapIter (some mb) clock (seen.push h.born) clock)).tape = wr.tape ∧ (setBlock w1 (w.heap.size + 1 + 1) (.mapIter (some mb) clock (seen.push h.born) clock)).output = wr.output) := by
        rcases hw1 with rfl | rfl <;> exact ⟨rfl, rfl, rfl⟩
      have hrun' : ∀ ty, (Instr.next (.pointer (some ⟨w.heap.size + 1 + 1, 0, none⟩)) false ty).run Try.prog wr = .ok (.tuple #[.bool true, .agg (keyc h.key), .pointer (some ⟨h.blk, 0, none⟩)]) (setBlock w1 (w.heap.size + 1 + 1) (.mapIter (some mb) clock (seen.push h.born) clock)) := fun ty => hrun
      clear hrun
      generalize hW2 : setBlock w1 (w.heap.size + 1 + 1) (.mapIter (some mb) clock (seen.push h.born) clock) = W2 at s1 s2 s3 s4 hrun'
      have hent := run_entry_at (P := Try.prog) W2 (w.heap.size + 1 + 1) mb clock seen (ents (hs.map Hp.ent)) clock h.ent.me s2 (by rw [s1 mb (by omega)]; exact hmW) (by rw [ents_toList, List.map_map]; exact he1) (by
        rw [ents_toList, List.map_map, List.map_map]
        exact hnd)
      have hent' : (Instr.entry (.pointer (some ⟨w.heap.size + 1 + 1, 0, none⟩))).run Try.prog W2 = .ok (.tuple #[.agg (keyc h.key), .pointer (some ⟨h.blk, 0, none⟩)]) W2 := hent
      clear hent
      have v1 : W2.cell? ⟨h.blk, 1, none⟩ = some (.int .i64 h.order) := cell_of_row W2 h.blk 1 _ 74 (0, 0) (by rw [s1 h.blk (by omega)]; exact hAt)
      have zb : h.blk < W2.heap.size := by omega
      have HO2 := Lib.hid hO
      have HAT := Lib.hid hat
      have HH := Lib.hid hh
      have HE2 := Lib.hid he2
      have S1 := Lib.hid s1
      have S2 := Lib.hid s2
      have S3 := Lib.hid s3
      clear hO hold hat he he1 hw1 hmW hh he2 hat1 hAt hsz1 s1 s2 s3
      go_wp2
      · have t3 : (W2.alloc (Obj.cells (keyc h.key) 70)).cell? ⟨h.blk, 1, none⟩ = some (.int .i64 h.order) := by
          rw [World.cell?_of_block (heap_alloc_old W2 _ zb)]; exact v1
        have t4 : rowOf (W2.alloc (Obj.cells (keyc h.key) 70)) W2.heap.size = keyc h.key := rowOf_heap (heap_alloc_new _ _)
        have hout : (W2.alloc (Obj.cells (keyc h.key) 70)).heap[w.heap.size + 1]? = some (.cells (keyc out) 70) := by
          rw [heap_alloc_old _ _ (by rw [S3.out]; omega), S1.out _ (by omega)]; exact HO2.out.out_
        have t5 : rowOf (W2.alloc (Obj.cells (keyc h.key) 70)) (w.heap.size + 1) = keyc out := rowOf_heap hout
        have t6 : freeAt (W2.alloc (Obj.cells (keyc h.key) 70)) (w.heap.size + 1) = true := freeAt_heap hout
        have t7 : Hid (Gr W2 (W2.alloc (Obj.cells (keyc h.key) 70))) := (Gr.refl W2).alloc _
        have z1 : h.blk < (W2.alloc (Obj.cells (keyc h.key) 70)).heap.size := by simp; omega
        have z2 : W2.heap.size < (W2.alloc (Obj.cells (keyc h.key) 70)).heap.size := by simp
        have z3 : w.heap.size + 1 < (W2.alloc (Obj.cells (keyc h.key) 70)).heap.size := by simp [S3.out]; omega
        clear hout hrun' hent' v1
        generalize W2.alloc (Obj.cells (keyc h.key) 70) = W3 at t3 t4 t5 t6 t7 z1 z2 z3 ⊢
        have zne : h.blk ≠ w.heap.size + 1 := by omega
        have t8 : (W3.setRow (w.heap.size + 1) (keyc h.key)).cell? ⟨h.blk, 1, none⟩ = some (.int .i64 h.order) := by
          rw [World.cell?_of_block (w := W3) (setRow_heap_other zne)]; exact t3
        have t9 : (W3.setRow (w.heap.size + 1) (keyc h.key)).drew.cell? ⟨h.blk, 1, none⟩ = some (.int .i64 h.order) := t8
        have H7 : Hid (h.order < L) := Lib.hid (by assumption)
        go_region
        all_goals go_wp2
        all_goals
          refine ⟨⟨_, h.key, _, _, rfl, HO2.out.take S1.out S2.out S3.out s4.out (t7.out.drew) H7.out hnd HH.out⟩, ?_⟩
          have hO4 := HO2.out.take S1.out S2.out S3.out s4.out (t7.out.drew) H7.out hnd HH.out
          have e1 : (W3.drew.setRow (w.heap.size + 1) (keyc h.key)).iterSeen (w.heap.size + 1 + 1) = seen.push h.born := by simp only [World.iterSeen, hO4.it]
          have e2 : wr.iterSeen (w.heap.size + 1 + 1) = seen := by simp only [World.iterSeen, HO2.out.it]
          have := seen_less hs seen h HH.out HE2.out
          rw [← e1, ← e2] at this
          exact this
      · have hO4 := HO2.out.step S1.out S2.out S3.out s4.out ((Gr.refl W2).alloc (Obj.cells (keyc h.key) 70)) (by omega) hnd HH.out
        refine ⟨⟨L, out, _, _, rfl, hO4⟩, ?_⟩
        have e1 : (W2.alloc (Obj.cells (keyc h.key) 70)).iterSeen (w.heap.size + 1 + 1) = seen.push h.born := by simp only [World.iterSeen, hO4.it]
        have e2 : wr.iterSeen (w.heap.size + 1 + 1) = seen := by simp only [World.iterSeen, HO2.out.it]
        rw [e1, e2]
        exact seen_less hs seen h HH.out HE2.out

end Go.Proofs.Ytfdjpmglfjiamaa
namespace Go.Proofs.Ytfdjpmglfjiamaa
open Go Go.Sort Go.RowKit
set_option linter.unusedSimpArgs false
set_option linter.unusedVariables false

theorem oldest_any {B : Nat} {w : World} {bb : Nat} {now count : Int} {hs : List Hp} (h : BoxAt B w bb now count hs) (hne : hs ≠ []) :
    Calls Try.prog 28 #[.pointer (some ⟨bb, 0, none⟩)] w fun e w' => (∃ h ∈ hs, e = .returned (.agg (keyc h.key))) ∧ Gr w w' := by
  rcases h.mp with ⟨rfl, h2⟩ | ⟨mb, clock, h1, h2, h3, h4⟩
  · exact absurd rfl hne
  · exact oldest_map w bb mb clock now count hs h2 h3 h4 h.borns hne (fun x hx => ⟨(h.heaps x hx).at_, h.ords x hx⟩)

/-- What the map gives at the key of one of its heaps. -/
theorem lookup_hp (w : World) (mb clock : Nat) (hs : List Hp) (hm : w.heap[mb]? = some (.map (ents (hs.map Hp.ent)) clock)) (hk : (hs.map (·.key)).Nodup) (h : Hp) (hh : h ∈ hs) :
    (Instr.lookup 61 (.map (some mb)) (.agg (keyc h.key)) false).run Try.prog w = .ok (.pointer (some ⟨h.blk, 0, none⟩)) w := by
  rw [run_lookup61 h.key w mb clock _ hm]
  have hf : of? h.key (hs.map Hp.ent) = some h.ent := by
    unfold of?
    cases hf : (hs.map Hp.ent).find? (fun e => decide (h.key = e.key)) with
    | none =>
      have := List.find?_eq_none.1 hf h.ent (List.mem_map_of_mem hh)
      simp [Hp.ent] at this
    | some e =>
      have h1 := List.find?_some hf
      obtain ⟨x, hx, rfl⟩ := List.mem_map.1 (List.mem_of_find?_eq_some hf)
      have : h.key = x.key := of_decide_eq_true h1
      rw [nodup_inj (fun x : Hp => x.key) hk hh hx this]
  rw [hf]
  rfl

attribute [local irreducible] Calls in
set_option maxRecDepth 100000 in
set_option maxHeartbeats 2000000 in
theorem next_any {B : Nat} {w : World} {bb : Nat} {now count : Int} {hs : List Hp} (h : BoxAt B w bb now count hs) :
    Calls Try.prog 16 #[.pointer (some ⟨bb, 0, none⟩)] w fun e w' => (∃ r : Int, e = .returned (.int .i64 r) ∧ (r < 0 ↔ hs = [])) ∧ Gr w w' := by
  have hf := h.few
  rcases h.mp with ⟨rfl, h2⟩ | ⟨mb, clock, h1, h2, h3, h4⟩
  · have c2 : w.cell? ⟨bb, 2, none⟩ = some (.map none) := cell_of_row w bb 2 _ 63 (0, 0) h2
    clear h h2
    go_enter Try.func16, Try.ntmps16
    go_wp2
    go_ret
    exact ⟨⟨_, rfl, by decide⟩, Gr.refl _⟩
  · have c2 : w.cell? ⟨bb, 2, none⟩ = some (.map (some mb)) := cell_of_row w bb 2 _ 63 (0, 0) h2
    have hl := fun ty => run_len61 mb clock _ w ty h3
    rw [List.length_map] at hl
    by_cases hne : hs = []
    · subst hne
      clear h h2
      go_enter Try.func16, Try.ntmps16
      go_wp2
      go_ret
      exact ⟨⟨_, rfl, by decide⟩, Gr.refl _⟩
    · have hpos : (hs.length : Int) ≠ 0 := by
        have := List.length_pos_iff.2 hne; omega
      have hd : BoxAt B w.drew bb now count hs := h.grown ((Gr.refl w).drew)
      have H := Lib.hid (oldest_any hd hne)
      have hlk : Hid (∀ x ∈ hs, ∀ y, (Instr.lookup 61 (.map (some mb)) (.agg (keyc x.key)) false).run Try.prog (gr w.drew y) = .ok (.pointer (some ⟨x.blk, 0, none⟩)) (gr w.drew y)) := fun x hx y =>
        lookup_hp _ mb clock hs (by rw [heap_gr w.drew _ (Array.getElem?_eq_some_iff.1 h3).1]; exact h3) h.keys x hx
      have hcell : Hid (∀ x ∈ hs, x.blk < w.heap.size ∧ 0 ≤ x.began ∧ x.began ≤ 4611686018427387904 ∧ w.cell? ⟨x.blk, 0, none⟩ = some (.int .i64 x.began)) := fun x hx => by
        have h5 := (h.heaps x hx).at_
        have h6 := h.began x hx
        have h7 := h.now1
        exact ⟨(Array.getElem?_eq_some_iff.1 h5).1, h6.1, by omega, cell_of_row w x.blk 0 _ 74 (0, 0) h5⟩
      have hbs : bb < w.heap.size := (Array.getElem?_eq_some_iff.1 h2).1
      have c3 : ∀ y, (gr w.drew y).cell? ⟨bb, 2, none⟩ = some (.map (some mb)) := fun y => (cell_gr w.drew y bb 2 hbs).trans c2
      clear h h2 h3 h4 hd
      go_enter Try.func16, Try.ntmps16
      go_wp2
      go_region_with (go_at_call 28; refine H.out.mono ?_; rintro e w' ⟨⟨x, hx, rfl⟩, y, rfl⟩; have hlk2 := hlk.out x hx; obtain ⟨z1, z2, z3, z4⟩ := hcell.out x hx; have z5 : x.blk < w.drew.heap.size := z1; have z6 : ∀ y, (gr w.drew y).cell? ⟨x.blk, 0, none⟩ = some (.int .i64 x.began) := fun y => (cell_gr w.drew y x.blk 0 z5).trans z4; clear hx)
      all_goals
        go_wp2
        go_ret
        refine ⟨⟨x.began + 30000, by go_simp; rw [IntKind.wrap_i64]; omega, ?_⟩, ((Gr.refl w).drew).more _⟩
        constructor
        · intro h0; omega
        · intro h0; exact absurd h0 hne
end Go.Proofs.Ytfdjpmglfjiamaa
