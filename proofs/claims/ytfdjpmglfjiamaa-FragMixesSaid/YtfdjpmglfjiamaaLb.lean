/- Walk: frag.(*Box).late. late, on a box. -/
import Derived.Test.YtfdjpmglfjiamaaBx
import Derived.Deep.LoopGhost
import Derived.Lib.Hide
import Derived.BigQuiet
namespace Go.Proofs.Ytfdjpmglfjiamaa
open Go Go.Sort Go.RowKit
open Go.ChangeMaps (setBlock)
set_option linter.unusedSimpArgs false
set_option linter.unusedVariables false

/-- The box's clock behind a call at t. -/
def nowOf (now t : Int) : Int := max now (min t 4611686018427387904)
/-- Is it not late? -/
def inTime (now : Int) (h : Hp) : Bool := decide (now - h.began < 30000)

set_option maxRecDepth 100000 in
set_option maxHeartbeats 1000000 in
theorem late_nil (w : World) (bb : Nat) (now count t : Int) (hb : w.heap[bb]? = some (.cells #[.int .i64 now, .int .i64 count, .map none] 63)) :
    Calls Try.prog 25 #[.pointer (some ⟨bb, 0, none⟩), .int .i64 t] w fun e w' => (∃ n, e = .returned (.int .i64 n)) ∧ Gr (w.setCell ⟨bb, 0, none⟩ (.int .i64 (nowOf now t))) w' := by
  have c0 : w.cell? ⟨bb, 0, none⟩ = some (.int .i64 now) := cell_of_row w bb 0 _ 63 (0, 0) hb
  have c2 : w.cell? ⟨bb, 2, none⟩ = some (.map none) := cell_of_row w bb 2 _ 63 (0, 0) hb
  have f0 : w.frozen? ⟨bb, 0, none⟩ = false := by simp [World.frozen?, hb]
  have hs : bb < w.heap.size := (Array.getElem?_eq_some_iff.1 hb).1
  have hrg := fun W => run_range_nilMap (P := Try.prog) W 61 70 71 Try.underlying61
  clear hb
  go_enter Try.func25, Try.ntmps25
  go_wp2
  have hn : ∀ ty, (Instr.next (.pointer (some ⟨w.heap.size, 0, none⟩)) false ty).run Try.prog ((w.setCell ⟨bb, 0, none⟩ (.int .i64 (max now (min t 4611686018427387904)))).alloc (.mapIter none 0 #[] 0)) = .ok (.tuple #[.bool false]) ((w.setCell ⟨bb, 0, none⟩ (.int .i64 (max now (min t 4611686018427387904)))).alloc (.mapIter none 0 #[] 0)) := fun ty => by
    have := run_next_nilMap (P := Try.prog) (w.setCell ⟨bb, 0, none⟩ (.int .i64 (max now (min t 4611686018427387904)))) ty 0 0 #[]
    rwa [World.size_setCell] at this
  have c2' : ((w.setCell ⟨bb, 0, none⟩ (.int .i64 (max now (min t 4611686018427387904)))).alloc (.mapIter none 0 #[] 0)).cell? ⟨bb, 2, none⟩ = some (.map none) := by
    rw [World.cell?_of_block (heap_alloc_old _ _ (by simpa using hs)), World.cell?_setCell_other _ _ _ _ (by simp)]; exact c2
  have hG : Hid (Gr (w.setCell ⟨bb, 0, none⟩ (.int .i64 (nowOf now t))) ((w.setCell ⟨bb, 0, none⟩ (.int .i64 (max now (min t 4611686018427387904)))).alloc (.mapIter none 0 #[] 0))) := (Gr.refl _).alloc _
  generalize (w.setCell ⟨bb, 0, none⟩ (.int .i64 (max now (min t 4611686018427387904)))).alloc (.mapIter none 0 #[] 0) = W at hn c2' hG ⊢
  clear hrg c0 c2 f0
  go_loopw [28] (fun _ wr => wr = W) (fun _ _ => 0)
  case atStart => exact rfl
  case round =>
    obtain rfl := hrel
    go_wp2
    go_ret
    exact ⟨⟨_, rfl⟩, hG.out⟩

/-- Between two rounds of late. -/
structure Lt (w : World) (bb mb clock : Nat) (now count : Int) (hs cur : List Hp) (seen : Array Nat) (c0 : Nat) (W : World) : Prop where
  box : W.heap[bb]? = some (.cells #[.int .i64 now, .int .i64 count, .map (some mb)] 63)
  mp : W.heap[mb]? = some (.map (ents (cur.map Hp.ent)) clock)
  it : W.heap[w.heap.size]? = some (.mapIter (some mb) clock seen c0)
  c0 : clock ≤ c0
  sub : cur.Sublist hs
  gone : ∀ h ∈ hs, h ∈ cur ∨ inTime now h = false
  kept : ∀ h ∈ cur, seen.contains h.born = true → inTime now h = true
  same : ∀ k, k < w.heap.size → k ≠ bb → k ≠ mb → W.heap[k]? = w.heap[k]?
  size : w.heap.size < W.heap.size
  os : W.os = w.os
  tape : W.tape = w.tape
  output : W.output = w.output

theorem nodup_inj {α β : Type} (f : α → β) : ∀ {l : List α}, (l.map f).Nodup → ∀ {x y : α}, x ∈ l → y ∈ l → f x = f y → x = y
  | [], _, _, _, hx, _, _ => by cases hx
  | a :: l, h, x, y, hx, hy, e => by
    rw [List.map_cons, List.nodup_cons] at h
    rcases List.mem_cons.1 hx with ex | hx'
    · rcases List.mem_cons.1 hy with ey | hy'
      · rw [ex, ey]
      · exact absurd (by rw [← ex, e]; exact List.mem_map_of_mem hy') h.1
    · rcases List.mem_cons.1 hy with ey | hy'
      · exact absurd (by rw [← ey, ← e]; exact List.mem_map_of_mem hx') h.1
      · exact nodup_inj f h.2 hx' hy' e
/-- A round that lets the entry be. -/
theorem Lt.step {w : World} {bb mb clock : Nat} {now count : Int} {hs cur : List Hp} {seen : Array Nat} {c0 : Nat} {wr W2 W4 : World} {h : Hp} (hL : Lt w bb mb clock now count hs cur seen c0 wr)
    (hbs : bb < w.heap.size) (hms : mb < w.heap.size)
    (S1 : ∀ k, k ≠ w.heap.size → W2.heap[k]? = wr.heap[k]?) (S2 : W2.heap[w.heap.size]? = some (.mapIter (some mb) clock (seen.push h.born) clock)) (S3 : W2.heap.size = wr.heap.size)
    (S4 : W2.os = wr.os ∧ W2.tape = wr.tape ∧ W2.output = wr.output) (g : Gr W2 W4) (hin : inTime now h = true) (hnd : (hs.map (·.born)).Nodup) (hh : h ∈ hs) :
    Lt w bb mb clock now count hs cur (seen.push h.born) clock W4 := by
  have hb := g.below.block
  have hs2 := hL.size
  refine ⟨?_, ?_, ?_, Nat.le_refl _, hL.sub, hL.gone, ?_, ?_, ?_, ?_, ?_, ?_⟩
  · rw [hb bb (by omega), S1 bb (by omega)]; exact hL.box
  · rw [hb mb (by omega), S1 mb (by omega)]; exact hL.mp
  · rw [hb _ (by omega)]; exact S2
  · intro x hx hc
    rw [Array.contains_push] at hc
    rcases Bool.or_eq_true_iff.1 hc with h1 | h1
    · exact hL.kept x hx h1
    · have hxb : x.born = h.born := by simpa using h1
      have hxh : x = h := nodup_inj (fun x : Hp => x.born) hnd (hL.sub.subset hx) hh hxb
      rw [hxh]; exact hin
  · intro k hk h1 h2
    rw [hb k (by omega), S1 k (by omega)]
    exact hL.same k hk h1 h2
  · have := g.below.size; omega
  · rw [g.below.os, S4.1]; exact hL.os
  · rw [g.below.tape, S4.2.1]; exact hL.tape
  · rw [g.below.output, S4.2.2]; exact hL.output

/-- What is left when the entry of h's key is taken out. -/
def dropAt (h : Hp) (cur : List Hp) : List Hp := match at? h.key (cur.map Hp.ent) with | some j => cur.eraseIdx j | none => cur
theorem dropAt_ents (h : Hp) (cur : List Hp) : (match at? h.key (cur.map Hp.ent) with | some j => (cur.map Hp.ent).eraseIdx j | none => cur.map Hp.ent) = (dropAt h cur).map Hp.ent := by
  unfold dropAt
  cases at? h.key (cur.map Hp.ent) with
  | none => rfl
  | some j => exact (Go.ChangeMaps.map_eraseIdx Hp.ent cur j).symm
theorem dropAt_sub (h : Hp) (cur : List Hp) : (dropAt h cur).Sublist cur := by
  unfold dropAt
  split
  · exact List.eraseIdx_sublist _ _
  · exact List.Sublist.refl _
theorem dropAt_mem (h : Hp) (cur : List Hp) (hh : h ∈ cur) (hkd : (cur.map (·.key)).Nodup) (x : Hp) : x ∈ dropAt h cur ↔ x ∈ cur ∧ x ≠ h := by
  have hj : ∃ j, at? h.key (cur.map Hp.ent) = some j := by
    unfold at?
    rw [← Option.isSome_iff_exists, List.findIdx?_isSome, List.any_eq_true]
    exact ⟨h.ent, List.mem_map_of_mem hh, by simp [Hp.ent]⟩
  obtain ⟨j, hj⟩ := hj
  unfold dropAt
  rw [hj]
  unfold at? at hj
  rw [List.findIdx?_eq_some_iff_getElem] at hj
  obtain ⟨hlt, hk, _⟩ := hj
  have hlt' : j < cur.length := by simpa using hlt
  have hcj : cur[j] = h := by
    refine nodup_inj (fun x : Hp => x.key) hkd (List.getElem_mem hlt') hh ?_
    simp [Hp.ent] at hk
    exact hk.symm
  have hnd : cur.Nodup := List.Pairwise.of_map _ (fun a b hab e => hab (by rw [e])) hkd
  show x ∈ cur.eraseIdx j ↔ _
  rw [List.mem_eraseIdx_iff_getElem]
  constructor
  · rintro ⟨i, hi, hij, rfl⟩
    refine ⟨List.getElem_mem hi, fun e => hij ?_⟩
    have e' := e.trans hcj.symm
    rcases Nat.lt_trichotomy i j with h1 | h1 | h1
    · exact absurd e' (List.pairwise_iff_getElem.1 hnd i j hi hlt' h1)
    · exact h1
    · exact absurd e'.symm (List.pairwise_iff_getElem.1 hnd j i hlt' hi h1)
  · rintro ⟨hx, hne⟩
    obtain ⟨i, hi, rfl⟩ := List.getElem_of_mem hx
    exact ⟨i, hi, fun e => hne (by subst e; exact hcj), rfl⟩
/-- A round that takes the entry out. -/
theorem Lt.drop {w : World} {bb mb clock : Nat} {now count : Int} {hs cur : List Hp} {seen : Array Nat} {c0 : Nat} {wr W2 W5 : World} {h : Hp} (hL : Lt w bb mb clock now count hs cur seen c0 wr)
    (hbs : bb < w.heap.size) (hms : mb < w.heap.size) (hne : bb ≠ mb)
    (S1 : ∀ k, k ≠ w.heap.size → W2.heap[k]? = wr.heap[k]?) (S2 : W2.heap[w.heap.size]? = some (.mapIter (some mb) clock (seen.push h.born) clock)) (S3 : W2.heap.size = wr.heap.size)
    (S4 : W2.os = wr.os ∧ W2.tape = wr.tape ∧ W2.output = wr.output) (g : Gr W2 W5) (hout : inTime now h = false) (hnd : (hs.map (·.born)).Nodup) (hkd : (hs.map (·.key)).Nodup) (hh : h ∈ cur) :
    Lt w bb mb clock now count hs (dropAt h cur) (seen.push h.born) clock (setBlock W5 mb (.map (ents ((dropAt h cur).map Hp.ent)) clock)) := by
  have hb := g.below.block
  have hs2 := hL.size
  have hsz := g.below.size
  have hkc : (cur.map (·.key)).Nodup := hkd.sublist (hL.sub.map _)
  have b1 : ∀ k, k ≠ mb → (setBlock W5 mb (.map (ents ((dropAt h cur).map Hp.ent)) clock)).heap[k]? = W5.heap[k]? := fun k hk => by simp [setBlock, Array.getElem?_setIfInBounds, Ne.symm hk]
  have b2 : (setBlock W5 mb (.map (ents ((dropAt h cur).map Hp.ent)) clock)).heap[mb]? = some (.map (ents ((dropAt h cur).map Hp.ent)) clock) := by
    have : mb < W5.heap.size := by omega
    simp [setBlock, Array.getElem?_setIfInBounds, this]
  refine ⟨?_, b2, ?_, Nat.le_refl _, (dropAt_sub h cur).trans hL.sub, ?_, ?_, ?_, ?_, ?_, ?_, ?_⟩
  · rw [b1 bb hne, hb bb (by omega), S1 bb (by omega)]; exact hL.box
  · rw [b1 _ (by omega), hb _ (by omega)]; exact S2
  · intro x hx
    rcases hL.gone x hx with h1 | h1
    · by_cases e : x = h
      · exact .inr (by rw [e]; exact hout)
      · exact .inl ((dropAt_mem h cur hh hkc x).2 ⟨h1, e⟩)
    · exact .inr h1
  · intro x hx hc
    obtain ⟨hx1, hx2⟩ := (dropAt_mem h cur hh hkc x).1 hx
    rw [Array.contains_push] at hc
    rcases Bool.or_eq_true_iff.1 hc with h1 | h1
    · exact hL.kept x hx1 h1
    · have hxb : x.born = h.born := by simpa using h1
      exact absurd (nodup_inj (fun x : Hp => x.born) hnd (hL.sub.subset hx1) (hL.sub.subset hh) hxb) hx2
  · intro k hk h1 h2
    rw [b1 k h2, hb k (by omega), S1 k (by omega)]
    exact hL.same k hk h1 h2
  · have : (setBlock W5 mb (.map (ents ((dropAt h cur).map Hp.ent)) clock)).heap.size = W5.heap.size := by simp [setBlock]
    omega
  · show W5.os = _; rw [g.below.os, S4.1]; exact hL.os
  · show W5.tape = _; rw [g.below.tape, S4.2.1]; exact hL.tape
  · show W5.output = _; rw [g.below.output, S4.2.2]; exact hL.output

theorem seen_less (hs : List Hp) (seen : Array Nat) (h : Hp) (hh : h ∈ hs) (he : seen.contains h.born = false) :
    (hs.filter fun x => !((seen.push h.born).contains x.born)).length < (hs.filter fun x => !(seen.contains x.born)).length :=
  filter_lt (fun x : Hp => !(seen.contains x.born)) (fun x => !((seen.push h.born).contains x.born)) (fun x hx => by
    rw [Array.contains_push] at hx
    simp at hx ⊢
    exact hx.1) h (by rw [he]; rfl) (by rw [Array.contains_push]; simp) hs hh

set_option maxRecDepth 100000 in
set_option maxHeartbeats 2000000 in
theorem late_map (w : World) (bb mb clock : Nat) (now count t : Int) (hs : List Hp) (hb : w.heap[bb]? = some (.cells #[.int .i64 now, .int .i64 count, .map (some mb)] 63))
    (hm : w.heap[mb]? = some (.map (ents (hs.map Hp.ent)) clock)) (hbn : ∀ h ∈ hs, h.born < clock) (hnd : (hs.map (·.born)).Nodup) (hkd : (hs.map (·.key)).Nodup) (hfew : hs.length ≤ 1000)
    (hat : ∀ h ∈ hs, w.heap[h.blk]? = some (.cells #[.int .i64 h.began, .int .i64 h.order, h.pv] 74) ∧ 0 ≤ h.began ∧ h.began ≤ now) (hn0 : 0 ≤ now) (hn1 : now ≤ 4611686018427387904) :
    Calls Try.prog 25 #[.pointer (some ⟨bb, 0, none⟩), .int .i64 t] w fun e w' => (∃ n, e = .returned (.int .i64 n)) ∧ ∃ cur seen c0, Lt w bb mb clock (nowOf now t) count hs cur seen c0 w' ∧ ∀ h ∈ cur, inTime (nowOf now t) h = true := by
  have c0 : w.cell? ⟨bb, 0, none⟩ = some (.int .i64 now) := cell_of_row w bb 0 _ 63 (0, 0) hb
  have c2 : w.cell? ⟨bb, 2, none⟩ = some (.map (some mb)) := cell_of_row w bb 2 _ 63 (0, 0) hb
  have f0 : w.frozen? ⟨bb, 0, none⟩ = false := by simp [World.frozen?, hb]
  have hbs : bb < w.heap.size := (Array.getElem?_eq_some_iff.1 hb).1
  have hms : mb < w.heap.size := (Array.getElem?_eq_some_iff.1 hm).1
  have hne : bb ≠ mb := by rintro rfl; rw [hb] at hm; cases hm
  have hb' : (w.setCell ⟨bb, 0, none⟩ (.int .i64 (max now (min t 4611686018427387904)))).heap[bb]? = some (.cells #[.int .i64 (nowOf now t), .int .i64 count, .map (some mb)] 63) := by
    simp [World.setCell, Array.getElem?_modify, hb, nowOf]
  have hm' : (w.setCell ⟨bb, 0, none⟩ (.int .i64 (max now (min t 4611686018427387904)))).heap[mb]? = some (.map (ents (hs.map Hp.ent)) clock) := by
    rw [Below.heap_setCell _ _ _ _ (Ne.symm hne)]; exact hm
  have hl := fun ty => run_len61 mb clock _ _ ty hm'
  have hrg := run_range_map (P := Try.prog) _ 61 70 71 mb _ clock Try.underlying61 hm'
  rw [World.size_setCell] at hrg
  rw [List.length_map] at hl
  go_enter Try.func25, Try.ntmps25
  go_wp2
  have hL : Lt w bb mb clock (nowOf now t) count hs hs #[] clock ((w.setCell ⟨bb, 0, none⟩ (.int .i64 (max now (min t 4611686018427387904)))).alloc (.mapIter (some mb) clock #[] clock)) := by
    refine ⟨?_, ?_, ?_, Nat.le_refl _, List.Sublist.refl _, fun h hh => .inl hh, fun h _ hc => by simp at hc, ?_, by simp, rfl, rfl, rfl⟩
    · rw [heap_alloc_old _ _ (by simpa using hbs)]; exact hb'
    · rw [heap_alloc_old _ _ (by simpa using hms)]; exact hm'
    · have := heap_alloc_new (w.setCell ⟨bb, 0, none⟩ (.int .i64 (max now (min t 4611686018427387904)))) (.mapIter (some mb) clock #[] clock)
      rwa [World.size_setCell] at this
    · intro k hk h1 h2
      rw [heap_alloc_old _ _ (by simpa using hk), Below.heap_setCell _ _ _ _ h1]
  generalize (w.setCell ⟨bb, 0, none⟩ (.int .i64 (max now (min t 4611686018427387904)))).alloc (.mapIter (some mb) clock #[] clock) = W0 at hL ⊢
  have hN : Hid (0 ≤ nowOf now t ∧ nowOf now t ≤ 4611686018427387904 ∧ now ≤ nowOf now t) := by
    show _ ∧ _ ∧ _
    unfold nowOf
    omega
  have hx63 : ∀ a b c, w.heap[bb]? ≠ some (.cells #[a, b, c] 74) := fun a b c e => by rw [hb] at e; simp at e
  have hxmb : ∀ a b c, w.heap[mb]? ≠ some (.cells #[a, b, c] 74) := fun a b c e => by rw [hm] at e; cases e
  clear hb' hm' hl hrg c0 c2 f0 hb hm
  generalize max now (min t 4611686018427387904) = n0
  have HL := Lib.hid hL
  clear hL
  go_loopw [28] (fun _ wr => ∃ cur seen c0, Lt w bb mb clock (nowOf now t) count hs cur seen c0 wr) (fun _ wr => (hs.filter fun h => !((wr.iterSeen w.heap.size).contains h.born)).length)
  case atStart => exact ⟨hs, #[], clock, HL.out⟩
  case round =>
    obtain ⟨cur, seen, c0, hL⟩ := hrel
    have hold : ∀ x ∈ (ents (cur.map Hp.ent)).toList, x.born < clock := by
      intro x hx
      rw [ents_toList, List.map_map] at hx
      obtain ⟨h, hh, rfl⟩ := List.mem_map.1 hx
      exact hbn h (hL.sub.subset hh)
    have b2 : wr.cell? ⟨bb, 2, none⟩ = some (.map (some mb)) := cell_of_row wr bb 2 _ 63 (0, 0) hL.box
    rcases run_next_at (P := Try.prog) wr 0 w.heap.size mb clock c0 seen _ clock hL.it hL.mp hold hL.c0 with ⟨h0, hrun⟩ | ⟨e, he, w1, hw1, hrun⟩
    · have hlen := fun ty => run_len61 mb clock _ wr ty hL.mp
      rw [List.length_map] at hlen
      have hcl : cur.length ≤ 1000 := Nat.le_trans hL.sub.length_le hfew
      have HL2 := Lib.hid hL
      have H0 := Lib.hid h0
      clear hL h0 hold hat
      go_wp2
      go_ret
      refine ⟨⟨_, rfl⟩, cur, seen, c0, HL2.out, fun h hh => HL2.out.kept h hh ?_⟩
      exact all_seen _ _ H0.out h.ent.me (by rw [ents_toList]; exact List.mem_map_of_mem (List.mem_map_of_mem hh))
    · obtain ⟨he1, he2⟩ := mem_left he
      rw [ents_toList, List.map_map] at he1
      obtain ⟨h, hh, rfl⟩ := List.mem_map.1 he1
      have hhs := hL.sub.subset hh
      obtain ⟨hat1, hat2, hat3⟩ := hat h hhs
      have hbk : h.blk < w.heap.size := (Array.getElem?_eq_some_iff.1 hat1).1
      have hb1 : h.blk ≠ bb := fun e => by rw [e] at hat1; exact hx63 _ _ _ hat1
      have hb2 : h.blk ≠ mb := fun e => by rw [e] at hat1; exact hxmb _ _ _ hat1
      have hwr : h.blk < wr.heap.size := Nat.lt_trans hbk hL.size
      have hAt := (hL.same h.blk hbk hb1 hb2).trans hat1
      -- the world behind the step
      have hsz1 : w1.heap = wr.heap := by rcases hw1 with rfl | rfl <;> rfl
      have s1 : ∀ k, k ≠ w.heap.size → (setBlock w1 w.heap.size (.mapIter (some mb) clock (seen.push h.born) clock)).heap[k]? = wr.heap[k]? := fun k hk => by
        simp [setBlock, Array.getElem?_setIfInBounds, Ne.symm hk, hsz1]
      have s2 : (setBlock w1 w.heap.size (.mapIter (some mb) clock (seen.push h.born) clock)).heap[w.heap.size]? = some (.mapIter (some mb) clock (seen.push h.born) clock) := by
        simp [setBlock, Array.getElem?_setIfInBounds, hsz1, hL.size]
      have s4 : Hid ((setBlock w1 w.heap.size (.mapIter (some mb) clock (seen.push h.born) clock)).os = wr.os ∧ (setBlock w1 w.heap.size (.mapIter (some mb) clock (seen.push h.born) clock)).tape = wr.tape ∧ (setBlock w1 w.heap.size (.mapIter (some mb) clock (seen.push h.born) clock)).output = wr.output) := by
        rcases hw1 with rfl | rfl <;> exact ⟨rfl, rfl, rfl⟩
      have s3 : (setBlock w1 w.heap.size (.mapIter (some mb) clock (seen.push h.born) clock)).heap.size = wr.heap.size := by simp [setBlock, hsz1]
      have hrun' : ∀ ty, (Instr.next (.pointer (some ⟨w.heap.size, 0, none⟩)) false ty).run Try.prog wr = .ok (.tuple #[.bool true, .agg (keyc h.key), .pointer (some ⟨h.blk, 0, none⟩)]) (setBlock w1 w.heap.size (.mapIter (some mb) clock (seen.push h.born) clock)) := fun ty => hrun
      clear hrun
      generalize hW2 : setBlock w1 w.heap.size (.mapIter (some mb) clock (seen.push h.born) clock) = W2 at s1 s2 s3 s4 hrun'
      have hent := run_entry_at (P := Try.prog) W2 w.heap.size mb clock seen (ents (cur.map Hp.ent)) clock h.ent.me s2 (by rw [s1 mb (by omega)]; exact hL.mp) (by rw [ents_toList, List.map_map]; exact he1) (by
        rw [ents_toList, List.map_map, List.map_map]
        exact (hnd.sublist (hL.sub.map _)))
      have hent' : (Instr.entry (.pointer (some ⟨w.heap.size, 0, none⟩))).run Try.prog W2 = .ok (.tuple #[.agg (keyc h.key), .pointer (some ⟨h.blk, 0, none⟩)]) W2 := hent
      clear hent
      have hwsz := hL.size
      have HL2 := Lib.hid hL
      have HAt := Lib.hid hat
      clear hL hold hat he he1 hw1
      go_wp2
      have t1 : (W2.alloc (Obj.cells (keyc h.key) 70)).heap[bb]? = some (.cells #[.int .i64 (nowOf now t), .int .i64 count, .map (some mb)] 63) := by
        rw [heap_alloc_old _ _ (by omega), s1 bb (by omega)]; exact HL2.out.box
      have t2 : (W2.alloc (Obj.cells (keyc h.key) 70)).heap[mb]? = some (.map (ents (cur.map Hp.ent)) clock) := by
        rw [heap_alloc_old _ _ (by omega), s1 mb (by omega)]; exact HL2.out.mp
      have t3 : (W2.alloc (Obj.cells (keyc h.key) 70)).heap[h.blk]? = some (.cells #[.int .i64 h.began, .int .i64 h.order, h.pv] 74) := by
        rw [heap_alloc_old _ _ (by omega), s1 h.blk (by omega)]; exact hAt
      have t4 : (W2.alloc (Obj.cells (keyc h.key) 70)).heap[W2.heap.size]? = some (.cells (keyc h.key) 70) := heap_alloc_new _ _
      have t5 : Hid (Gr W2 (W2.alloc (Obj.cells (keyc h.key) 70))) := (Gr.refl W2).alloc _
      clear hrun' hent'
      generalize W2.alloc (Obj.cells (keyc h.key) 70) = W3 at t1 t2 t3 t4 t5 ⊢
      have T2 := Lib.hid t2
      have v0 : W3.cell? ⟨bb, 0, none⟩ = some (.int .i64 (nowOf now t)) := cell_of_row W3 bb 0 _ 63 (0, 0) t1
      have v1 : W3.cell? ⟨h.blk, 0, none⟩ = some (.int .i64 h.began) := cell_of_row W3 h.blk 0 _ 74 (0, 0) t3
      have v2 : W3.cell? ⟨bb, 2, none⟩ = some (.map (some mb)) := cell_of_row W3 bb 2 _ 63 (0, 0) t1
      have z1 : bb < W3.heap.size := (Array.getElem?_eq_some_iff.1 t1).1
      have z2 : h.blk < W3.heap.size := (Array.getElem?_eq_some_iff.1 t3).1
      have z3 : W2.heap.size < W3.heap.size := (Array.getElem?_eq_some_iff.1 t4).1
      have z4 : mb < W3.heap.size := (Array.getElem?_eq_some_iff.1 t2).1
      have r4 : rowOf W3 W2.heap.size = keyc h.key := rowOf_heap t4
      have hN1 := hN.out.1
      have hN2 := hN.out.2.1
      have hN3 := hN.out.2.2
      have S1 := Lib.hid s1
      have S2 := Lib.hid s2
      have S3 := Lib.hid s3
      have HW2 := Lib.hid hW2
      have HAt2 := Lib.hid hAt
      have HH := Lib.hid hh
      have HHS := Lib.hid hhs
      have HE2 := Lib.hid he2
      have HND := Lib.hid hnd
      have HKD := Lib.hid hkd
      have HBN := Lib.hid hbn
      clear t1 t2 t3 t4 s1 s2 s3 hW2 hAt hx63 hxmb hat1 hsz1 b2 hnd hkd hbn he2 hh hhs
      refine wp_region_gr (by kernel_rfl) (by kernel_rfl) ?_
      repeat (go_big_quiet_step (fail))
      refine wpQuiet_nil ?_
      rintro _ ⟨x, rfl⟩
      have v2' := (cell_gr W3 x bb 2 z1).trans v2
      have r4' : ∀ y, rowOf (gr (gr W3 x) y) W2.heap.size = keyc h.key := fun y => by
        rw [gr_gr, rowOf_gr _ _ _ z3]; exact r4
      have T2' : Hid ((gr W3 x).heap[mb]? = some (.map (ents (cur.map Hp.ent)) clock)) := (heap_gr W3 x z4).trans T2.out
      have t5' : Hid (Gr W2 (gr W3 x)) := t5.out.more x
      have z1' : bb < (gr W3 x).heap.size := by rw [size_gr]; omega
      clear v0 v1 v2 T2 t5 r4
      generalize gr W3 x = W4 at v2' r4' T2' t5' z1' ⊢
      by_cases hlate : 30000 ≤ nowOf now t - h.began
      · go_wp2
        refine wp_region_gr_tail 5 (by kernel_rfl) (by kernel_rfl) ?_
        simp only [List.take, List.drop]
        have r5 : ∀ y, rowOf (gr W4 y) wr.heap.size = keyc h.key := by rw [← S3.out]; exact r4'
        repeat (go_big_quiet_step (fail))
        refine wpQuiet_nil ?_
        rintro _ ⟨y, rfl⟩
        have hmp : (gr W4 y).heap[mb]? = some (.map (ents (cur.map Hp.ent)) clock) := by
          rw [heap_gr _ _ (Array.getElem?_eq_some_iff.1 T2'.out).1]; exact T2'.out
        have hdel : ∀ ty, (Builtin.delete_ #[61, 70] ty #[.map (some mb), .agg (keyc h.key)]).run Try.prog (gr W4 y) = .ok (.tuple #[]) (setBlock (gr W4 y) mb (.map (ents ((dropAt h cur).map Hp.ent)) clock)) := fun ty => by
          have e := run_delete61 h.key (gr W4 y) mb clock ty (cur.map Hp.ent) hmp
          have d := dropAt_ents h cur
          cases hj : at? h.key (cur.map Hp.ent) with
          | none => simp only [hj] at e d; rw [e, d]
          | some j => simp only [hj] at e d; rw [e, d]
        go_wp2
        have hout : inTime (nowOf now t) h = false := by simp [inTime]; omega
        have hL4 := HL2.out.drop hbs hms hne S1.out S2.out S3.out s4.out (t5'.out.more y) hout HND.out HKD.out HH.out
        refine ⟨⟨_, _, _, hL4⟩, ?_⟩
        have e1 : (setBlock (gr W4 y) mb (.map (ents ((dropAt h cur).map Hp.ent)) clock)).iterSeen w.heap.size = seen.push h.born := by simp only [World.iterSeen, hL4.it]
        have e2 : wr.iterSeen w.heap.size = seen := by simp [World.iterSeen, HL2.out.it]
        rw [e1, e2]
        exact seen_less hs seen h HHS.out HE2.out
      · go_wp2
        have hin : inTime (nowOf now t) h = true := by simp [inTime]; omega
        have hL4 := HL2.out.step hbs hms S1.out S2.out S3.out s4.out t5'.out hin HND.out HHS.out
        refine ⟨⟨_, _, _, hL4⟩, ?_⟩
        have e1 : W4.iterSeen w.heap.size = seen.push h.born := by simp [World.iterSeen, hL4.it]
        have e2 : wr.iterSeen w.heap.size = seen := by simp [World.iterSeen, HL2.out.it]
        rw [e1, e2]
        exact seen_less hs seen h HHS.out HE2.out

end Go.Proofs.Ytfdjpmglfjiamaa
namespace Go.Proofs.Ytfdjpmglfjiamaa
open Go Go.Sort Go.RowKit
set_option linter.unusedSimpArgs false
set_option linter.unusedVariables false

theorem sublist_filter {α : Type} (p : α → Bool) : ∀ {l' l : List α}, l'.Sublist l → l.Nodup → (∀ x ∈ l, x ∈ l' ∨ p x = false) → (∀ x ∈ l', p x = true) → l' = l.filter p := by
  intro l' l h
  induction h with
  | slnil => intros; rfl
  | cons a h ih =>
    intro hn hg hk
    rw [List.nodup_cons] at hn
    have ha : p a = false := by
      rcases hg a (by simp) with h1 | h1
      · exact absurd (h.subset h1) hn.1
      · exact h1
    rw [List.filter_cons, ha]
    exact ih hn.2 (fun x hx => hg x (List.mem_cons_of_mem _ hx)) hk
  | cons_cons a h ih =>
    intro hn hg hk
    rw [List.nodup_cons] at hn
    rw [List.filter_cons, hk a (by simp)]
    have := ih hn.2 (fun x hx => by
      rcases hg x (List.mem_cons_of_mem _ hx) with h1 | h1
      · rcases List.mem_cons.1 h1 with e | h1
        · exact absurd (e ▸ hx) hn.1
        · exact .inl h1
      · exact .inr h1) (fun x hx => hk x (List.mem_cons_of_mem _ hx))
    simp [this]
theorem ExtsAt.moved63 {w w' : World} {p : Pk} (h : ExtsAt w p) (hs : w.heap.size ≤ w'.heap.size) (hk : p.exts = [] ∨ w'.heap[xg p]? = w.heap[xg p]?) : ExtsAt w' p := by
  rcases hk with he | hk
  · exact ⟨h.len, h.cap, h.fit, h.nil, h.one, fun hn => absurd he hn, fun i x hi => by rw [he] at hi; simp at hi, h.small⟩
  · exact h.stays hs hk
/-- All blocks of cells but the box's kind lie as they lay. -/
def Keep63 (w w' : World) : Prop := ∀ (k : Nat) (a : Array Value) (t : TypeId) (fr : Nat × Nat), w.heap[k]? = some (Obj.cells a t fr) → t ≠ 63 → w'.heap[k]? = some (Obj.cells a t fr)
theorem HeapAt.keep {B : Nat} {w w' : World} {h : Hp} (H : HeapAt B w h) (hk : Keep63 w w') (hs : w.heap.size ≤ w'.heap.size) : HeapAt B w' h := by
  refine ⟨H.lo, hk _ _ _ _ H.at_ (by decide), ⟨H.row.1, ?_⟩, fun p hp => ?_, H.len, H.small⟩
  · rcases H.row.2 with h1 | ⟨g, cap, cur, h1, h2, h3, h4⟩
    · exact .inl h1
    · exact .inr ⟨g, cap, cur, h1, h2, hk _ _ _ _ h3 (by decide), h4⟩
  · obtain ⟨hx, hc⟩ := H.exts p hp
    rcases hc with h1 | ⟨h1, c, h2⟩
    · exact ⟨hx.moved63 hs (.inl h1), .inl h1⟩
    · have h3 := hk _ _ _ _ h2 (by decide)
      exact ⟨hx.moved63 hs (.inr (h3.trans h2.symm)), .inr ⟨h1, c, h3⟩⟩

/-- All blocks but the box's own and maps lie as they lay. -/
def Calm (bb : Nat) (w w' : World) : Prop := ∀ k o, w.heap[k]? = some o → k ≠ bb → (∀ es c, o ≠ Obj.map es c) → w'.heap[k]? = some o

theorem late_any {B : Nat} {w : World} {bb : Nat} {now count : Int} {hs : List Hp} (h : BoxAt B w bb now count hs) (t : Int) :
    Calls Try.prog 25 #[.pointer (some ⟨bb, 0, none⟩), .int .i64 t] w fun e w' => (∃ n, e = .returned (.int .i64 n)) ∧ BoxAt B w' bb (nowOf now t) count (hs.filter (inTime (nowOf now t))) ∧ Fr B w w' ∧ Calm bb w w' := by
  have n0 : 0 ≤ nowOf now t := by have := h.now0; unfold nowOf; omega
  have n1 : nowOf now t ≤ 4611686018427387904 := by have := h.now1; unfold nowOf; omega
  have n2 : now ≤ nowOf now t := by unfold nowOf; omega
  rcases h.mp with ⟨rfl, hb⟩ | ⟨mb, clock, hB, hb, hm, hbn⟩
  · refine (late_nil w bb now count t hb).mono ?_
    rintro e w' ⟨he, hg⟩
    have hb' : (w.setCell ⟨bb, 0, none⟩ (.int .i64 (nowOf now t))).heap[bb]? = some (.cells #[.int .i64 (nowOf now t), .int .i64 count, .map none] 63) := by
      simp [World.setCell, Array.getElem?_modify, hb]
    refine ⟨he, ?_, ?_, ?_⟩
    · exact BoxAt.grown (w := w.setCell ⟨bb, 0, none⟩ (.int .i64 (nowOf now t))) ⟨h.lo, .inl ⟨rfl, hb'⟩, by simp, by simp, by simp, by simp, by simp, n0, n1, by simp, h.count0, by simp, by simp⟩ hg
    · have hbs : bb < w.heap.size := (Array.getElem?_eq_some_iff.1 hb).1
      have hlo := h.lo
      refine ⟨((Below.refl B w).setCell (p := ⟨bb, 0, none⟩) h.lo _).trans (hg.below.mono (by simp; omega)), fun k a ty fr hk ht => ?_⟩
      have hkb : k ≠ bb := by rintro rfl; rw [hb] at hk; cases hk; exact absurd rfl ht.2.1
      have hks := (Array.getElem?_eq_some_iff.1 hk).1
      rw [hg.below.block k (by simpa using hks), Below.heap_setCell _ _ _ _ hkb]
      exact hk
    · intro k o hk hkb _
      have hks := (Array.getElem?_eq_some_iff.1 hk).1
      rw [hg.below.block k (by simpa using hks), Below.heap_setCell _ _ _ _ hkb]
      exact hk
  · have hbs : bb < w.heap.size := (Array.getElem?_eq_some_iff.1 hb).1
    have hlo := h.lo
    refine (late_map w bb mb clock now count t hs hb hm hbn h.borns h.keys h.few (fun x hx => ⟨(h.heaps x hx).at_, h.began x hx⟩) h.now0 h.now1).mono ?_
    rintro e w' ⟨he, cur, seen, c0, hL, hin⟩
    have hnd : hs.Nodup := List.Pairwise.of_map _ (fun a b hab e => hab (by rw [e])) h.borns
    have hcur : cur = hs.filter (inTime (nowOf now t)) := sublist_filter _ hL.sub hnd hL.gone hin
    rw [← hcur]
    have hkeep : Keep63 w w' := fun k a ty fr hk ht => by
      have hkb : k ≠ bb := by rintro rfl; rw [hb] at hk; cases hk; simp at ht
      have hkm : k ≠ mb := by rintro rfl; rw [hm] at hk; cases hk
      rw [hL.same k (Array.getElem?_eq_some_iff.1 hk).1 hkb hkm]
      exact hk
    have hsz : w.heap.size ≤ w'.heap.size := Nat.le_of_lt hL.size
    have hsub := fun x (hx : x ∈ cur) => hL.sub.subset hx
    refine ⟨he, ⟨h.lo, .inr ⟨mb, clock, hB, hL.box, hL.mp, fun x hx => hbn x (hsub x hx)⟩, fun x hx => (h.heaps x (hsub x hx)).keep hkeep hsz, h.keys.sublist (hL.sub.map _), h.borns.sublist (hL.sub.map _), h.blks.sublist (hL.sub.map _),
      h.rows.sublist (hL.sub.filterMap _), n0, n1, fun x hx => ?_, h.count0, fun x hx => h.ords x (hsub x hx), Nat.le_trans hL.sub.length_le h.few⟩, ?_, ?_⟩
    · have := h.began x (hsub x hx)
      omega
    · refine ⟨⟨hL.os, hL.tape, hL.output, hsz, fun k hk => hL.same k (by omega) (by omega) (by omega)⟩, fun k a ty fr hk ht => hkeep k a ty fr hk ht.2.1⟩
    · intro k o hk hkb hno
      rw [hL.same k (Array.getElem?_eq_some_iff.1 hk).1 hkb (by rintro rfl; rw [hm] at hk; cases hk; exact hno _ _ rfl)]
      exact hk
end Go.Proofs.Ytfdjpmglfjiamaa
