/- What becomes of the box in memory: a block beside it turned, a heap deleted, a heap begun, a heap's pieces turned. -/
import Derived.Test.YtfdjpmglfjiamaaLb
import Derived.Test.YtfdjpmglfjiamaaPt
namespace Go.Proofs.Ytfdjpmglfjiamaa
open Go Go.Sort Go.RowKit
open Go.ChangeMaps (setBlock)
set_option linter.unusedSimpArgs false
set_option linter.unusedVariables false

/-- One block of the box's kinds has turned, at or beyond B. -/
theorem Fr.one {B x : Nat} {w w' : World} (h1 : w'.os = w.os) (h2 : w'.tape = w.tape) (h3 : w'.output = w.output) (h4 : w.heap.size ≤ w'.heap.size) (hx : B ≤ x)
    (hk : ∀ k, k < w.heap.size → k ≠ x → w'.heap[k]? = w.heap[k]?) (ht : ∀ a t fr, w.heap[x]? = some (Obj.cells a t fr) → t = 27 ∨ t = 63 ∨ t = 74) (hB : B ≤ w.heap.size) : Fr B w w' := by
  refine ⟨⟨h1, h2, h3, h4, fun k hkB => hk k (by omega) (by omega)⟩, fun k a t fr hka hne => ?_⟩
  have hkx : k ≠ x := by
    rintro rfl
    rcases ht a t fr hka with h | h | h
    · exact hne.1 h
    · exact hne.2.1 h
    · exact hne.2.2 h
  rw [hk k (Array.getElem?_eq_some_iff.1 hka).1 hkx]; exact hka

/-- The heap h lies in w', if its blocks lie there as in w. -/
theorem HeapAt.move {B : Nat} {w w' : World} {h : Hp} (H : HeapAt B w h) (hs : w.heap.size ≤ w'.heap.size) (h1 : w'.heap[h.blk]? = w.heap[h.blk]?)
    (h2 : ∀ g, h.pv.ownBlock = some g → w'.heap[g]? = w.heap[g]?) (h3 : ∀ p ∈ h.pieces, ∀ c, w.heap[xg p]? = some (.cells c 59) → w'.heap[xg p]? = w.heap[xg p]?) : HeapAt B w' h := by
  refine ⟨H.lo, h1.trans H.at_, ⟨H.row.1, ?_⟩, fun p hp => ?_, H.len, H.small⟩
  · rcases H.row.2 with r | ⟨g, cap, cur, r1, r2, r3, r4⟩
    · exact .inl r
    · exact .inr ⟨g, cap, cur, r1, r2, (h2 g (by rw [r1]; rfl)).trans r3, r4⟩
  · obtain ⟨hx, hc⟩ := H.exts p hp
    rcases hc with r | ⟨r, c, hc⟩
    · exact ⟨hx.moved hs (.inl r), .inl r⟩
    · have e := h3 p hp c hc
      exact ⟨hx.moved hs (.inr e), .inr ⟨r, c, e.trans hc⟩⟩

/-- A row of packets' block is one of packets. -/
theorem own27 {B : Nat} {w : World} {v : Value} {n : Nat} {xs : List Value} (h : w.ownsRow B 27 46 v n xs) {g : Nat} (hg : v.ownBlock = some g) : B ≤ g ∧ ∃ cur, w.heap[g]? = some (.cells cur 27) := by
  rcases h.2 with ⟨rfl, _⟩ | ⟨g', cap, cur, rfl, hB, hg', _⟩
  · simp [Value.ownBlock] at hg
  · simp only [Value.ownBlock, Option.some.injEq] at hg
    subst hg
    exact ⟨hB, cur, hg'⟩

/-- Where the box's map lies: no heap's block, no row. -/
theorem BoxAt.bb63 {B : Nat} {w : World} {bb : Nat} {now count : Int} {hs : List Hp} (h : BoxAt B w bb now count hs) : ∃ m, w.heap[bb]? = some (.cells #[.int .i64 now, .int .i64 count, .map m] 63) := by
  rcases h.mp with ⟨_, h2⟩ | ⟨mb, clock, _, h2, _⟩
  · exact ⟨_, h2⟩
  · exact ⟨_, h2⟩

/-- A block of packets beside the box's has turned. -/
theorem BoxAt.but {B x : Nat} {w w' : World} {bb : Nat} {now count : Int} {hs : List Hp} {c : Array Value} {fr : Nat × Nat} (h : BoxAt B w bb now count hs) (hw : w.heap[x]? = some (.cells c 27 fr))
    (hrow : ∀ h ∈ hs, h.pv.ownBlock ≠ some x) (hs' : w.heap.size ≤ w'.heap.size) (hk : ∀ k, k < w.heap.size → k ≠ x → w'.heap[k]? = w.heap[k]?) : BoxAt B w' bb now count hs := by
  have keep : ∀ {k o}, w.heap[k]? = some o → (∀ c fr, o ≠ Obj.cells c 27 fr) → w'.heap[k]? = some o := fun {k o} hko hne => by
    have : k ≠ x := by rintro rfl; rw [hw] at hko; cases hko; exact hne _ _ rfl
    rw [hk k (Array.getElem?_eq_some_iff.1 hko).1 this]; exact hko
  refine ⟨h.lo, ?_, fun y hy => ?_, h.keys, h.borns, h.blks, h.rows, h.now0, h.now1, h.began, h.count0, h.ords, h.few⟩
  · rcases h.mp with ⟨h1, h2⟩ | ⟨mb, clock, h1, h2, h3, h4⟩
    · exact .inl ⟨h1, keep h2 (by intro c fr e; simp at e)⟩
    · exact .inr ⟨mb, clock, h1, keep h2 (by intro c fr e; simp at e), keep h3 (by intro c fr e; cases e), h4⟩
  · have H := h.heaps y hy
    refine H.move hs' ?_ (fun g hg => ?_) (fun p hp c' hc => ?_)
    · rw [keep H.at_ (by intro c fr e; simp at e)]; exact H.at_.symm
    · obtain ⟨_, cur, hcur⟩ := own27 H.row hg
      exact hk g (Array.getElem?_eq_some_iff.1 hcur).1 (fun e => hrow y hy (by rw [hg, e]))
    · rw [keep hc (by intro c fr e; simp at e)]; exact hc.symm

/-- The heaps whose key is not k. -/
def notK (k : Key) (hs : List Hp) : List Hp := hs.filter fun h => !(h.key == k)
theorem notK_eq_erase {h : Hp} {hs : List Hp} (hh : h ∈ hs) (hk : (hs.map (·.key)).Nodup) : notK h.key hs = dropAt h hs := by
  have hnd : hs.Nodup := List.Pairwise.of_map _ (fun a b hab e => hab (by rw [e])) hk
  refine (sublist_filter (fun x : Hp => !(x.key == h.key)) (dropAt_sub h hs) hnd ?_ ?_).symm
  · intro x hx
    by_cases e : x = h
    · right; simp [e]
    · exact .inl ((dropAt_mem h hs hh hk x).2 ⟨hx, e⟩)
  · intro x hx
    obtain ⟨h1, h2⟩ := (dropAt_mem h hs hh hk x).1 hx
    have : x.key ≠ h.key := fun e => h2 (nodup_inj (fun x : Hp => x.key) hk h1 hh e)
    simp [this]

theorem run_delete_hp (h : Hp) (hs : List Hp) (hh : h ∈ hs) (hk : (hs.map (·.key)).Nodup) (w : World) (mb clock : Nat) (ty : TypeId) (hm : w.heap[mb]? = some (.map (ents (hs.map Hp.ent)) clock)) :
    (Builtin.delete_ #[61, 70] ty #[.map (some mb), .agg (keyc h.key)]).run Try.prog w = .ok (.tuple #[]) (setBlock w mb (.map (ents ((notK h.key hs).map Hp.ent)) clock)) := by
  have e := run_delete61 h.key w mb clock ty (hs.map Hp.ent) hm
  have d := dropAt_ents h hs
  rw [notK_eq_erase hh hk]
  cases hj : at? h.key (hs.map Hp.ent) with
  | none => simp only [hj] at e d; rw [e, d]
  | some j => simp only [hj] at e d; rw [e, d]

theorem setBlock_other {w : World} {x k : Nat} {o : Obj} (h : k ≠ x) : (setBlock w x o).heap[k]? = w.heap[k]? := by
  simp [setBlock, Array.getElem?_setIfInBounds, Ne.symm h]
theorem setBlock_at {w : World} {x : Nat} {o : Obj} (h : x < w.heap.size) : (setBlock w x o).heap[x]? = some o := by
  simp [setBlock, Array.getElem?_setIfInBounds, h]
theorem setBlock_size {w : World} {x : Nat} {o : Obj} : (setBlock w x o).heap.size = w.heap.size := by simp [setBlock]

/-- Some heaps go. -/
theorem BoxAt.fewer {B : Nat} {w : World} {bb mb clock : Nat} {now count : Int} {hs hs' : List Hp} (h : BoxAt B w bb now count hs) (hb : w.heap[bb]? = some (.cells #[.int .i64 now, .int .i64 count, .map (some mb)] 63)) (hm : w.heap[mb]? = some (.map (ents (hs.map Hp.ent)) clock))
    (hB : B ≤ mb) (hcl : ∀ h ∈ hs, h.born < clock) (hsub : hs'.Sublist hs) :
    BoxAt B (setBlock w mb (.map (ents (hs'.map Hp.ent)) clock)) bb now count hs' ∧ Fr B w (setBlock w mb (.map (ents (hs'.map Hp.ent)) clock)) := by
  have hms := (Array.getElem?_eq_some_iff.1 hm).1
  have hne : bb ≠ mb := by rintro rfl; rw [hb] at hm; cases hm
  have hkeep : Keep63 w (setBlock w mb (.map (ents (hs'.map Hp.ent)) clock)) := fun k a ty fr hk ht => by
    rw [setBlock_other (by rintro rfl; rw [hm] at hk; cases hk)]; exact hk
  have hin := fun x (hx : x ∈ hs') => hsub.subset hx
  refine ⟨⟨h.lo, .inr ⟨mb, clock, hB, (setBlock_other hne).trans hb, setBlock_at hms, fun x hx => hcl x (hin x hx)⟩, fun x hx => (h.heaps x (hin x hx)).keep hkeep (Nat.le_of_eq setBlock_size.symm), h.keys.sublist (hsub.map _), h.borns.sublist (hsub.map _), h.blks.sublist (hsub.map _),
    h.rows.sublist (hsub.filterMap _), h.now0, h.now1, fun x hx => h.began x (hin x hx), h.count0, fun x hx => h.ords x (hin x hx), Nat.le_trans hsub.length_le h.few⟩, ?_⟩
  exact Fr.one rfl rfl rfl (Nat.le_of_eq setBlock_size.symm) hB (fun k _ hk => setBlock_other hk) (fun a t fr e => by rw [hm] at e; cases e) (by omega)

/-- A map where none was. -/
theorem BoxAt.made {B : Nat} {w : World} {bb : Nat} {now count : Int} (h : BoxAt B w bb now count []) (hb : w.heap[bb]? = some (.cells #[.int .i64 now, .int .i64 count, .map none] 63)) (hB : B ≤ w.heap.size) :
    BoxAt B ((w.setCell ⟨bb, 2, none⟩ (.map (some w.heap.size))).alloc (.map #[] 0)) bb now count [] ∧ Fr B w ((w.setCell ⟨bb, 2, none⟩ (.map (some w.heap.size))).alloc (.map #[] 0)) ∧
    ((w.setCell ⟨bb, 2, none⟩ (.map (some w.heap.size))).alloc (.map #[] 0)).heap[bb]? = some (.cells #[.int .i64 now, .int .i64 count, .map (some w.heap.size)] 63) ∧
    ((w.setCell ⟨bb, 2, none⟩ (.map (some w.heap.size))).alloc (.map #[] 0)).heap[w.heap.size]? = some (.map (ents ([].map Hp.ent)) 0) := by
  have hbs := (Array.getElem?_eq_some_iff.1 hb).1
  have e1 : ((w.setCell ⟨bb, 2, none⟩ (.map (some w.heap.size))).alloc (.map #[] 0)).heap[bb]? = some (.cells #[.int .i64 now, .int .i64 count, .map (some w.heap.size)] 63) := by
    rw [heap_alloc_old _ _ (by simpa using hbs)]
    simp [World.setCell, Array.getElem?_modify, hb]
  have e2 : ((w.setCell ⟨bb, 2, none⟩ (.map (some w.heap.size))).alloc (.map #[] 0)).heap[w.heap.size]? = some (.map (ents ([].map Hp.ent)) 0) := by
    have := heap_alloc_new (w.setCell ⟨bb, 2, none⟩ (.map (some w.heap.size))) (.map #[] 0)
    rwa [World.size_setCell] at this
  refine ⟨⟨h.lo, .inr ⟨_, 0, hB, e1, e2, by simp⟩, by simp, by simp, by simp, by simp, by simp, h.now0, h.now1, by simp, h.count0, by simp, by simp⟩, ?_, e1, e2⟩
  refine Fr.one rfl rfl rfl (by simp) h.lo (fun k hk hne => ?_) (fun a t fr e => by rw [hb] at e; cases e; simp) (by omega)
  rw [heap_alloc_old _ _ (by simpa using hk), Below.heap_setCell _ _ _ _ hne]

/-- A heap that is new. -/
def newHp (k : Key) (hb clock : Nat) (now count : Int) : Hp := ⟨k, hb, clock, now, count, .slice none 0 0, []⟩
/-- A heap is begun: its block was laid, the count stored, the map has it. -/
theorem BoxAt.begun {B : Nat} {w W : World} {bb mb clock hb : Nat} {now count : Int} {hs : List Hp} {k : Key} (h : BoxAt B w bb now count hs) (hbb : w.heap[bb]? = some (.cells #[.int .i64 now, .int .i64 count, .map (some mb)] 63)) (hm : w.heap[mb]? = some (.map (ents (hs.map Hp.ent)) clock))
    (hB : B ≤ mb) (hcl : ∀ h ∈ hs, h.born < clock) (hnk : ∀ x ∈ hs, x.key ≠ k) (hfew : hs.length < 1000) (q1 : W.os = w.os) (q2 : W.tape = w.tape) (q3 : W.output = w.output) (o4 : w.heap.size ≤ W.heap.size)
    (o1 : ∀ j, j < w.heap.size → j ≠ bb → j ≠ mb → W.heap[j]? = w.heap[j]?) (o2 : W.heap[bb]? = some (.cells #[.int .i64 now, .int .i64 (count + 1), .map (some mb)] 63))
    (o3 : W.heap[mb]? = some (.map (ents ((hs ++ [newHp k hb clock now count]).map Hp.ent)) (clock + 1))) (oh : W.heap[hb]? = some (.cells #[.int .i64 now, .int .i64 count, .slice none 0 0] 74)) (hh : w.heap.size ≤ hb) :
    BoxAt B W bb now (count + 1) (hs ++ [newHp k hb clock now count]) ∧ Fr B w W := by
  have hms := (Array.getElem?_eq_some_iff.1 hm).1
  have hbs := (Array.getElem?_eq_some_iff.1 hbb).1
  have hlo := h.lo
  have hnb : ∀ x ∈ hs, x.blk ≠ hb := fun x hx e => by
    have := (Array.getElem?_eq_some_iff.1 (h.heaps x hx).at_).1
    omega
  have hkeep : Keep63 w W := fun j a ty fr hj ht => by
    rw [o1 j (Array.getElem?_eq_some_iff.1 hj).1 (by rintro rfl; rw [hbb] at hj; cases hj; exact ht rfl) (by rintro rfl; rw [hm] at hj; cases hj)]; exact hj
  refine ⟨⟨h.lo, .inr ⟨mb, clock + 1, hB, o2, o3, ?_⟩, ?_, ?_, ?_, ?_, ?_, h.now0, h.now1, ?_, by have := h.count0; omega, ?_, by simp; omega⟩, ?_⟩
  · intro x hx
    rcases List.mem_append.1 hx with hx | hx
    · have := hcl x hx; omega
    · rw [List.mem_singleton.1 hx]; exact Nat.lt_succ_self _
  · intro x hx
    rcases List.mem_append.1 hx with hx | hx
    · exact (h.heaps x hx).keep hkeep (by omega)
    · rw [List.mem_singleton.1 hx]
      exact ⟨show B ≤ hb by omega, oh, World.ownsRow_nil _ _ _ _, by simp [newHp], by simp [newHp], by simp [newHp]⟩
  · rw [List.map_append, List.nodup_append]
    refine ⟨h.keys, by simp, fun a ha b hb' => ?_⟩
    obtain ⟨y, hy, rfl⟩ := List.mem_map.1 ha
    simp at hb'
    rw [hb']; exact hnk y hy
  · rw [List.map_append, List.nodup_append]
    refine ⟨h.borns, by simp, fun a ha b hb' => ?_⟩
    obtain ⟨y, hy, rfl⟩ := List.mem_map.1 ha
    simp at hb'
    rw [hb']; have := hcl y hy; show y.born ≠ clock; omega
  · rw [List.map_append, List.nodup_append]
    refine ⟨h.blks, by simp, fun a ha b hb' => ?_⟩
    obtain ⟨y, hy, rfl⟩ := List.mem_map.1 ha
    simp at hb'
    rw [hb']; exact hnb y hy
  · rw [List.filterMap_append]
    simpa [newHp, Value.ownBlock] using h.rows
  · intro x hx
    rcases List.mem_append.1 hx with hx | hx
    · exact h.began x hx
    · rw [List.mem_singleton.1 hx]; exact ⟨h.now0, Int.le_refl _⟩
  · intro x hx
    have := h.count0
    rcases List.mem_append.1 hx with hx | hx
    · have := h.ords x hx; omega
    · rw [List.mem_singleton.1 hx]; exact ⟨this, by show count < count + 1; omega⟩
  · refine ⟨⟨q1, q2, q3, o4, fun k hk => o1 k (by omega) (by omega) (by omega)⟩, fun k a t fr hka hne => ?_⟩
    rw [o1 k (Array.getElem?_eq_some_iff.1 hka).1 (by rintro rfl; rw [hbb] at hka; cases hka; exact hne.2.1 rfl) (by rintro rfl; rw [hm] at hka; cases hka)]
    exact hka

/-- h's place taken by h'. -/
def swapH (h h' : Hp) (hs : List Hp) : List Hp := hs.map fun x => if x.key = h.key then h' else x
theorem swapH_map {α : Type} (f : Hp → α) {h h' : Hp} {hs : List Hp} (hh : h ∈ hs) (hk : (hs.map (·.key)).Nodup) (e : f h' = f h) : (swapH h h' hs).map f = hs.map f := by
  unfold swapH
  rw [List.map_map]
  refine List.map_congr_left fun x hx => ?_
  simp only [Function.comp]
  split
  · rename_i he
    rw [nodup_inj (fun x : Hp => x.key) hk hx hh he, e]
  · rfl
theorem mem_swapH {h h' : Hp} {hs : List Hp} {x : Hp} (hx : x ∈ swapH h h' hs) : x = h' ∨ (x ∈ hs ∧ x.key ≠ h.key) := by
  obtain ⟨y, hy, rfl⟩ := List.mem_map.1 hx
  split
  · exact .inl rfl
  · exact .inr ⟨hy, by assumption⟩

/-- One heap's pieces have turned. -/
theorem BoxAt.turned {B : Nat} {w w' : World} {bb : Nat} {now count : Int} {hs : List Hp} {h h' : Hp} (H : BoxAt B w bb now count hs) (hh : h ∈ hs) (e1 : h'.key = h.key) (e2 : h'.blk = h.blk) (e3 : h'.born = h.born) (e4 : h'.began = h.began) (e5 : h'.order = h.order)
    (hsz : w.heap.size ≤ w'.heap.size) (hat : HeapAt B w' h') (hk : ∀ k o, w.heap[k]? = some o → k ≠ h.blk → h.pv.ownBlock ≠ some k → w'.heap[k]? = some o)
    (hrow : ∀ g, h'.pv.ownBlock = some g → h.pv.ownBlock = some g ∨ w.heap.size ≤ g) : BoxAt B w' bb now count (swapH h h' hs) := by
  have H1 := H.heaps h hh
  have hne74 : ∀ {k o}, w.heap[k]? = some o → (∀ c fr, o ≠ Obj.cells c 74 fr) → (∀ c fr, o ≠ Obj.cells c 27 fr) → w'.heap[k]? = some o := fun {k o} hko h74 h27 => by
    refine hk k o hko ?_ ?_
    · rintro rfl; rw [H1.at_] at hko; cases hko; exact h74 _ _ rfl
    · intro ho
      obtain ⟨_, cur, hc⟩ := own27 H1.row ho
      rw [hc] at hko; cases hko; exact h27 _ _ rfl
  have hent : (swapH h h' hs).map Hp.ent = hs.map Hp.ent := swapH_map Hp.ent hh H.keys (by simp [Hp.ent, e1, e2, e3])
  refine ⟨H.lo, ?_, ?_, ?_, ?_, ?_, ?_, H.now0, H.now1, ?_, H.count0, ?_, by simpa [swapH] using H.few⟩
  · rcases H.mp with ⟨h1, h2⟩ | ⟨mb, clock, h1, h2, h3, h4⟩
    · rw [h1] at hh; simp at hh
    · refine .inr ⟨mb, clock, h1, hne74 h2 (by intro c fr e; simp at e) (by intro c fr e; simp at e), ?_, ?_⟩
      · rw [hent]; exact hne74 h3 (by intro c fr e; cases e) (by intro c fr e; cases e)
      · intro x hx
        rcases mem_swapH hx with rfl | ⟨hx, _⟩
        · rw [e3]; exact h4 h hh
        · exact h4 x hx
  · intro x hx
    rcases mem_swapH hx with rfl | ⟨hx, hne⟩
    · exact hat
    · have H2 := H.heaps x hx
      have hbne : x.blk ≠ h.blk := fun e => hne (by rw [nodup_inj (fun x : Hp => x.blk) H.blks hx hh e])
      refine H2.move hsz ?_ (fun g hg => ?_) (fun p hp c hc => ?_)
      · rw [H2.at_]
        refine hk _ _ H2.at_ hbne (fun ho => ?_)
        obtain ⟨_, cur, hc⟩ := own27 H1.row ho
        rw [H2.at_] at hc; simp at hc
      · obtain ⟨_, cur, hc⟩ := own27 H2.row hg
        rw [hc]
        refine hk _ _ hc ?_ (fun ho => ?_)
        · rintro rfl; rw [H1.at_] at hc; simp at hc
        · -- two heaps, one row
          have hp := H.rows
          rw [List.Nodup, List.pairwise_filterMap] at hp
          obtain ⟨i, hi, rfl⟩ := List.getElem_of_mem hx
          obtain ⟨j, hj, rfl⟩ := List.getElem_of_mem hh
          rw [List.pairwise_iff_getElem] at hp
          rcases Nat.lt_trichotomy i j with hij | hij | hij
          · exact hp i j hi hj hij g hg g ho rfl
          · subst hij; exact hne rfl
          · exact hp j i hj hi hij g ho g hg rfl
      · rw [hc]
        exact hne74 hc (by intro c fr e; simp at e) (by intro c fr e; simp at e)
  · rw [swapH_map (fun x : Hp => x.key) hh H.keys e1]; exact H.keys
  · rw [swapH_map (fun x : Hp => x.born) hh H.keys e3]; exact H.borns
  · rw [swapH_map (fun x : Hp => x.blk) hh H.keys e2]; exact H.blks
  · have hp := H.rows
    have hkp := H.keys
    rw [List.Nodup, List.pairwise_filterMap] at hp ⊢
    rw [List.Nodup, List.pairwise_map] at hkp
    unfold swapH
    rw [List.pairwise_map]
    refine (hp.and hkp).imp_of_mem ?_
    rintro a b ha hb ⟨h1, h2⟩ u hu v hv
    have hlt : ∀ x ∈ hs, ∀ g, x.pv.ownBlock = some g → g < w.heap.size := fun x hx g hg => by
      obtain ⟨_, cur, hc⟩ := own27 (H.heaps x hx).row hg
      exact (Array.getElem?_eq_some_iff.1 hc).1
    split at hu
    · rename_i ea
      split at hv
      · rename_i eb; exact absurd (ea.trans eb.symm) h2
      · have hah := nodup_inj (fun x : Hp => x.key) H.keys ha hh ea
        subst hah
        rcases hrow u hu with h3 | h3
        · exact h1 u h3 v hv
        · have := hlt b hb v hv; omega
    · split at hv
      · rename_i eb
        have hbh := nodup_inj (fun x : Hp => x.key) H.keys hb hh eb
        subst hbh
        rcases hrow v hv with h3 | h3
        · exact h1 u hu v h3
        · have := hlt a ha u hu; omega
      · exact h1 u hu v hv
  · intro x hx
    rcases mem_swapH hx with rfl | ⟨hx, _⟩
    · rw [e4]; exact H.began h hh
    · exact H.began x hx
  · intro x hx
    rcases mem_swapH hx with rfl | ⟨hx, _⟩
    · rw [e5]; exact H.ords h hh
    · exact H.ords x hx
end Go.Proofs.Ytfdjpmglfjiamaa
