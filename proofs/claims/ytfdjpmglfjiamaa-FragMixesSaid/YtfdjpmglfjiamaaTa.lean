/- Walk: frag.(*Box).Take. -/
import Derived.Test.YtfdjpmglfjiamaaBt
import Derived.Test.YtfdjpmglfjiamaaWw
import Derived.Test.YtfdjpmglfjiamaaMb
import Derived.Test.YtfdjpmglfjiamaaNx
import Derived.Test.YtfdjpmglfjiamaaWn
import Derived.Test.YtfdjpmglfjiamaaWj
import Derived.Test.YtfdjpmglfjiamaaAp
import Derived.Deep.DeepCutAuto
namespace Go.Proofs.Ytfdjpmglfjiamaa
open Go Go.Sort Go.RowKit
open Go.ChangeMaps (setBlock)
set_option linter.unusedSimpArgs false
set_option linter.unusedVariables false

def Hp.ab (h : Hp) : AH := ⟨h.key, h.began, h.pieces.map er⟩

/-- What Take answers: the value and what it leads to. -/
def Told (w w' : World) (e : Ending) (r : Option Pk) : Prop :=
  ∃ q : Pk, e = .returned (.tuple #[.agg (pkc q), .bool r.isSome]) ∧ (r = none → q = zpk) ∧ (∀ x, r = some x → er q = x ∧ ExtsAt w' q ∧ Cloned w.heap.size w' q)

/-- Behind Take. -/
def TakeEnd (B : Nat) (w : World) (bb : Nat) (now count : Int) (hs : List Hp) (k : Key) (p : Pk) (e : Ending) (w' : World) : Prop :=
  ∃ hs' count' r, Told w w' e r ∧ BoxAt B w' bb now count' hs' ∧ Fr B w w' ∧ count ≤ count' ∧ count' ≤ count + 1 ∧ Took k now (er p) (hs.map Hp.ab) (hs'.map Hp.ab) r

/-- .. and what becomes of blocks of packets that are none of the box's. -/
def TakeEndS (S : Nat → Array Value → Prop) (B : Nat) (w : World) (bb : Nat) (now count : Int) (hs : List Hp) (k : Key) (p : Pk) (e : Ending) (w' : World) : Prop :=
  ∃ hs' count' r, Told w w' e r ∧ BoxAt B w' bb now count' hs' ∧ Fr B w w' ∧ count ≤ count' ∧ count' ≤ count + 1 ∧ Took k now (er p) (hs.map Hp.ab) (hs'.map Hp.ab) r ∧ ∀ k c, S k c → w'.heap[k]? = some (.cells c 27) ∧ ∀ h ∈ hs', h.pv.ownBlock ≠ some k

theorem put_same (p : Pk) (l : List Pk) : (l.map er).any (samePiece (er p)) = l.any (samePiece p) := by
  rw [List.any_map]; rfl
theorem put_fits (p : Pk) (l : List Pk) : fitsN (er p) (l.map er) = fitsN p l := by
  unfold fitsN
  rw [List.any_map, List.length_map]; rfl
theorem drop_ab (k : Key) (hs : List Hp) : dropK k (hs.map Hp.ab) = (notK k hs).map Hp.ab := by
  unfold dropK notK
  rw [List.filter_map]; rfl
theorem ab_filter (now : Int) (hs : List Hp) : (hs.map Hp.ab).filter (inTimeA now) = (hs.filter (inTime now)).map Hp.ab := by
  rw [List.filter_map]; rfl

/-- Where a packet's extension headers lie: no call on the box turns them. -/
def Aside (B : Nat) (w : World) (p : Pk) : Prop := p.exts = [] ∨ xg p < B ∨ ∃ c fr, w.heap[xg p]? = some (.cells c 59 fr)
theorem ExtsAt.fr {B : Nat} {w W : World} {p : Pk} (hx : ExtsAt w p) (ha : Aside B w p) (hf : Fr B w W) : ExtsAt W p := by
  refine hx.moved hf.below.size ?_
  rcases ha with h | h | ⟨c, fr, h⟩
  · exact .inl h
  · exact .inr (hf.below.block _ h)
  · exact .inr ((hf.calm _ _ _ _ h (by decide)).trans h.symm)

/-- In the midst of Take. -/
structure Tk (S : Nat → Array Value → Prop) (B : Nat) (w : World) (bb : Nat) (pe ep : Int) (p : Pk) (now count : Int) (hs : List Hp) (W : World) : Prop where
  box : BoxAt B W bb now count hs
  b6 : W.heap[w.heap.size]? = some (.cells #[.int .i64 pe, .int .i64 ep] 41)
  b7 : W.heap[w.heap.size + 1]? = some (.cells (pkc p) 27)
  b8 : W.heap[w.heap.size + 1 + 1]? = some (.cells (pkc zpk) 27)
  fr : Fr B w W
  old : ∀ h ∈ hs, ∀ g, h.pv.ownBlock = some g → g ≠ w.heap.size + 1 ∧ g ≠ w.heap.size + 1 + 1
  size : w.heap.size + 1 + 1 < W.heap.size
  sp : ∀ k c, S k c → k < w.heap.size ∧ W.heap[k]? = some (.cells c 27) ∧ ∀ h ∈ hs, h.pv.ownBlock ≠ some k
theorem Tk.grown {S : Nat → Array Value → Prop} {B : Nat} {w : World} {bb : Nat} {pe ep : Int} {p : Pk} {now count : Int} {hs : List Hp} {W W' : World} (h : Tk S B w bb pe ep p now count hs W) (hg : Gr W W') : Tk S B w bb pe ep p now count hs W' := by
  have bl := hg.below
  have hs' := h.size
  have hB : B ≤ W.heap.size := Nat.le_trans h.box.lo (Nat.le_of_lt (Array.getElem?_eq_some_iff.1 h.box.bb63.choose_spec).1)
  exact ⟨h.box.grown hg, (bl.block _ (by omega)).trans h.b6, (bl.block _ (by omega)).trans h.b7, (bl.block _ (by omega)).trans h.b8, h.fr.trans (Fr.of_gr hg hB), h.old, by have := bl.size; omega, fun k c hk => by
    obtain ⟨a, b, d⟩ := h.sp k c hk
    exact ⟨a, (bl.block _ (by omega)).trans b, d⟩⟩

/-- The result stored. -/
theorem Tk.stored {S : Nat → Array Value → Prop} {B : Nat} {w : World} {bb : Nat} {pe ep : Int} {p : Pk} {now count : Int} {hs : List Hp} {W : World} (h : Tk S B w bb pe ep p now count hs W) (q : Pk) (hBw : B ≤ w.heap.size) :
    BoxAt B (W.setRow (w.heap.size + 1 + 1) (pkc q)) bb now count hs ∧ Fr B w (W.setRow (w.heap.size + 1 + 1) (pkc q)) ∧ rowOf (W.setRow (w.heap.size + 1 + 1) (pkc q)) (w.heap.size + 1 + 1) = pkc q := by
  have hsz : (W.setRow (w.heap.size + 1 + 1) (pkc q)).heap.size = W.heap.size := by simp [World.setRow]
  refine ⟨h.box.but h.b8 (fun x hx e => ?_) (Nat.le_of_eq hsz.symm) (fun k _ hk => setRow_heap_other hk), h.fr.trans ?_, rowOf_heap (setRow_heap_at h.b8)⟩
  · have := h.old x hx _ e; omega
  · have := h.size
    exact Fr.one rfl rfl rfl (Nat.le_of_eq hsz.symm) (x := w.heap.size + 1 + 1) (by omega) (fun k _ hk => setRow_heap_other hk) (fun a t fr e => by rw [h.b8] at e; cases e; simp) (by omega)
theorem Tk.none_end {S : Nat → Array Value → Prop} {B : Nat} {w : World} {bb : Nat} {pe ep : Int} {p : Pk} {now count count' : Int} {hs hs' : List Hp} {W : World} {k : Key} (h : Tk S B w bb pe ep p now count' hs' W) (hBw : B ≤ w.heap.size) (h1 : count ≤ count') (h2 : count' ≤ count + 1)
    (ht : Took k now (er p) (hs.map Hp.ab) (hs'.map Hp.ab) none) : TakeEndS S B w bb now count hs k p (.returned (.tuple #[.agg (pkc zpk), .bool false])) (W.setRow (w.heap.size + 1 + 1) (pkc zpk)) := by
  obtain ⟨a, b, _⟩ := h.stored zpk hBw
  exact ⟨hs', count', none, ⟨zpk, rfl, fun _ => rfl, fun x hx => by simp at hx⟩, a, b, h1, h2, ht, fun k c hk => by
    obtain ⟨a, b, d⟩ := h.sp k c hk
    exact ⟨(setRow_heap_other (by omega)).trans b, d⟩⟩
theorem Tk.some_end {S : Nat → Array Value → Prop} {B : Nat} {w : World} {bb : Nat} {pe ep : Int} {p q : Pk} {now count count' : Int} {hs hs' : List Hp} {W : World} {k : Key} (h : Tk S B w bb pe ep p now count' hs' W) (hBw : B ≤ w.heap.size) (h1 : count ≤ count') (h2 : count' ≤ count + 1)
    (hE : ExtsAt W q) (hC : Cloned w.heap.size W q)
    (ht : Took k now (er p) (hs.map Hp.ab) (hs'.map Hp.ab) (some (er q))) : TakeEndS S B w bb now count hs k p (.returned (.tuple #[.agg (pkc q), .bool true])) (W.setRow (w.heap.size + 1 + 1) (pkc q)) := by
  obtain ⟨a, b, _⟩ := h.stored q hBw
  refine ⟨hs', count', some (er q), ⟨q, rfl, fun h => by simp at h, fun x hx => ?_⟩, a, b, h1, h2, ht, fun k c hk => by
    obtain ⟨a, b, d⟩ := h.sp k c hk
    exact ⟨(setRow_heap_other (by omega)).trans b, d⟩⟩
  have hx' : er q = x := Option.some.inj hx
  refine ⟨hx', ?_, ?_⟩
  · refine hE.moved (by simp [World.setRow]) ?_
    rcases hC with r | ⟨_, c, hc⟩
    · exact .inl r
    · exact .inr (setRow_heap_other (by rintro e; rw [e, h.b8] at hc; simp at hc))
  · rcases hC with r | ⟨hlo, c, hc⟩
    · exact .inl r
    · exact .inr ⟨hlo, c, (setRow_heap_other (by rintro e; rw [e, h.b8] at hc; simp at hc)).trans hc⟩

/-- .. behind the key. -/
structure Tk2 (S : Nat → Array Value → Prop) (B : Nat) (w : World) (bb : Nat) (pe ep : Int) (p : Pk) (kb : Nat) (now count : Int) (hs : List Hp) (W : World) : Prop extends Tk S B w bb pe ep p now count hs W where
  b10 : W.heap[kb]? = some (.cells (keyc ⟨pe, ep, p.src, p.dst, p.proto, p.id⟩) 70)
theorem Tk2.grown {S : Nat → Array Value → Prop} {B : Nat} {w : World} {bb : Nat} {pe ep : Int} {p : Pk} {kb : Nat} {now count : Int} {hs : List Hp} {W W' : World} (h : Tk2 S B w bb pe ep p kb now count hs W) (hg : Gr W W') : Tk2 S B w bb pe ep p kb now count hs W' :=
  ⟨h.toTk.grown hg, (hg.below.block _ (Array.getElem?_eq_some_iff.1 h.b10).1).trans h.b10⟩

theorem lookup_no (w : World) (mb clock : Nat) (hs : List Hp) (k : Key) (hm : w.heap[mb]? = some (.map (ents (hs.map Hp.ent)) clock)) (hk : ∀ x ∈ hs, x.key ≠ k) :
    (Instr.lookup 61 (.map (some mb)) (.agg (keyc k)) false).run Try.prog w = .ok (.pointer none) w := by
  rw [run_lookup61 k w mb clock _ hm]
  have hf : of? k (hs.map Hp.ent) = none := by
    unfold of?
    rw [List.find?_eq_none]
    intro e he
    obtain ⟨x, hx, rfl⟩ := List.mem_map.1 he
    have := hk x hx
    have h2 : k ≠ x.key := fun e => this e.symm
    simp [Hp.ent, h2]
  rw [hf]
/-- What the map answers. -/
theorem BoxAt.look {B : Nat} {W : World} {bb : Nat} {now count : Int} {hs : List Hp} (h : BoxAt B W bb now count hs) (k : Key) :
    ∃ m v, W.heap[bb]? = some (.cells #[.int .i64 now, .int .i64 count, .map m] 63) ∧ (∀ W', Gr W W' → (Instr.lookup 61 (.map m) (.agg (keyc k)) false).run Try.prog W' = .ok v W') ∧
      ((∃ x ∈ hs, x.key = k ∧ v = .pointer (some ⟨x.blk, 0, none⟩)) ∨ ((∀ x ∈ hs, x.key ≠ k) ∧ v = .pointer none)) := by
  rcases h.mp with ⟨rfl, h2⟩ | ⟨mb, clock, h1, h2, h3, h4⟩
  · exact ⟨_, _, h2, fun W' _ => lookup_nil k W', .inr ⟨by simp, rfl⟩⟩
  · have h5 : ∀ W', Gr W W' → W'.heap[mb]? = some (.map (ents (hs.map Hp.ent)) clock) := fun W' hg => (hg.below.block _ (Array.getElem?_eq_some_iff.1 h3).1).trans h3
    by_cases hk : ∃ x ∈ hs, x.key = k
    · obtain ⟨x, hx, rfl⟩ := hk
      exact ⟨_, _, h2, fun W' hg => lookup_hp W' mb clock hs (h5 W' hg) h.keys x hx, .inl ⟨x, hx, rfl, rfl⟩⟩
    · have hk' : ∀ x ∈ hs, x.key ≠ k := fun x hx e => hk ⟨x, hx, e⟩
      exact ⟨_, _, h2, fun W' hg => lookup_no W' mb clock hs k (h5 W' hg) hk', .inr ⟨hk', rfl⟩⟩

/-- Some heaps go. -/
theorem Tk2.fewer {S : Nat → Array Value → Prop} {B : Nat} {w : World} {bb : Nat} {pe ep : Int} {p : Pk} {kb : Nat} {now count : Int} {hs hs' : List Hp} {W : World} {mb clock : Nat} (h : Tk2 S B w bb pe ep p kb now count hs W)
    (hb : W.heap[bb]? = some (.cells #[.int .i64 now, .int .i64 count, .map (some mb)] 63)) (hm : W.heap[mb]? = some (.map (ents (hs.map Hp.ent)) clock)) (hB : B ≤ mb) (hcl : ∀ h ∈ hs, h.born < clock) (hsub : hs'.Sublist hs) :
    Tk2 S B w bb pe ep p kb now count hs' (setBlock W mb (.map (ents (hs'.map Hp.ent)) clock)) := by
  obtain ⟨f1, f2⟩ := h.box.fewer hb hm hB hcl hsub
  have keep : ∀ k a t fr, W.heap[k]? = some (Obj.cells a t fr) → (setBlock W mb (.map (ents (hs'.map Hp.ent)) clock)).heap[k]? = some (Obj.cells a t fr) := fun k a t fr hk => by
    rw [setBlock_other (by rintro rfl; rw [hm] at hk; cases hk)]; exact hk
  exact ⟨⟨f1, keep _ _ _ _ h.b6, keep _ _ _ _ h.b7, keep _ _ _ _ h.b8, h.fr.trans f2, fun x hx => h.old x (hsub.subset hx), by rw [setBlock_size]; exact h.size, fun k c hk => by
    obtain ⟨a, b, d⟩ := h.sp k c hk
    exact ⟨a, keep _ _ _ _ b, fun x hx => d x (hsub.subset hx)⟩⟩, keep _ _ _ _ h.b10⟩

/-- A heap is begun. -/
theorem Tk2.begun {S : Nat → Array Value → Prop} {B : Nat} {w : World} {bb : Nat} {pe ep : Int} {p : Pk} {kb : Nat} {now count : Int} {hs : List Hp} {w0 W : World} {mb clock hb : Nat} {k : Key} (h : Tk2 S B w bb pe ep p kb now count hs w0)
    (hbb : w0.heap[bb]? = some (.cells #[.int .i64 now, .int .i64 count, .map (some mb)] 63)) (hm : w0.heap[mb]? = some (.map (ents (hs.map Hp.ent)) clock))
    (hB : B ≤ mb) (hcl : ∀ h ∈ hs, h.born < clock) (hnk : ∀ x ∈ hs, x.key ≠ k) (hfew : hs.length < 1000) (q1 : W.os = w0.os) (q2 : W.tape = w0.tape) (q3 : W.output = w0.output) (o4 : w0.heap.size ≤ W.heap.size)
    (o1 : ∀ j, j < w0.heap.size → j ≠ bb → j ≠ mb → W.heap[j]? = w0.heap[j]?) (o2 : W.heap[bb]? = some (.cells #[.int .i64 now, .int .i64 (count + 1), .map (some mb)] 63))
    (o3 : W.heap[mb]? = some (.map (ents ((hs ++ [newHp k hb clock now count]).map Hp.ent)) (clock + 1))) (oh : W.heap[hb]? = some (.cells #[.int .i64 now, .int .i64 count, .slice none 0 0] 74)) (hh : w0.heap.size ≤ hb) :
    Tk2 S B w bb pe ep p kb now (count + 1) (hs ++ [newHp k hb clock now count]) W := by
  obtain ⟨f1, f2⟩ := h.box.begun hbb hm hB hcl hnk hfew q1 q2 q3 o4 o1 o2 o3 oh hh
  have keep : ∀ k a t fr, w0.heap[k]? = some (Obj.cells a t fr) → t ≠ 63 → W.heap[k]? = some (Obj.cells a t fr) := fun k a t fr hk ht => by
    rw [o1 k (Array.getElem?_eq_some_iff.1 hk).1 (by rintro rfl; rw [hbb] at hk; cases hk; exact ht rfl) (by rintro rfl; rw [hm] at hk; cases hk)]; exact hk
  refine ⟨⟨f1, keep _ _ _ _ h.b6 (by decide), keep _ _ _ _ h.b7 (by decide), keep _ _ _ _ h.b8 (by decide), h.fr.trans f2, fun x hx g hg => ?_, by have := h.size; omega, fun k c hk => ?_⟩, keep _ _ _ _ h.b10 (by decide)⟩
  rotate_left
  · obtain ⟨a, b, d⟩ := h.sp k c hk
    refine ⟨a, keep _ _ _ _ b (by decide), fun x hx => ?_⟩
    rcases List.mem_append.1 hx with hx | hx
    · exact d x hx
    · rw [List.mem_singleton.1 hx]; simp [newHp, Value.ownBlock]
  rcases List.mem_append.1 hx with hx | hx
  · exact h.old x hx g hg
  · rw [List.mem_singleton.1 hx] at hg; simp [newHp, Value.ownBlock] at hg

/-- The extension headers' clone stored. -/
theorem Tk2.cloned {S : Nat → Array Value → Prop} {B : Nat} {w : World} {bb : Nat} {pe ep : Int} {p : Pk} {kb : Nat} {now count : Int} {hs : List Hp} {W : World} (h : Tk2 S B w bb pe ep p kb now count hs W) (hBw : B ≤ w.heap.size) (xa : Option Addr) (xc : Nat) :
    Tk2 S B w bb pe ep { p with xa := xa, xc := xc } kb now count hs (W.setCell ⟨w.heap.size + 1, 43, none⟩ (.slice xa p.xl xc)) := by
  have ho : ∀ k, k ≠ w.heap.size + 1 → (W.setCell ⟨w.heap.size + 1, 43, none⟩ (.slice xa p.xl xc)).heap[k]? = W.heap[k]? := fun k hk => Below.heap_setCell _ _ _ _ hk
  have hsz : (W.setCell ⟨w.heap.size + 1, 43, none⟩ (.slice xa p.xl xc)).heap.size = W.heap.size := by simp
  have hkb : kb ≠ w.heap.size + 1 := by rintro rfl; have := h.b10; rw [h.b7] at this; simp at this
  refine ⟨⟨h.box.but h.b7 (fun x hx e => ?_) (Nat.le_of_eq hsz.symm) (fun k _ hk => ho k hk), (ho _ (by omega)).trans h.b6, ?_, (ho _ (by omega)).trans h.b8, h.fr.trans ?_, h.old, by rw [hsz]; exact h.size, fun k c hk => by
    obtain ⟨a, b, d⟩ := h.sp k c hk
    exact ⟨a, (ho _ (by omega)).trans b, d⟩⟩, (ho _ hkb).trans h.b10⟩
  · have := h.old x hx _ e; omega
  · rw [heap_setCell_at h.b7, pkc_set43]
  · have := h.size
    exact Fr.one rfl rfl rfl (Nat.le_of_eq hsz.symm) (x := w.heap.size + 1) (by omega) (fun k _ hk => ho k hk) (fun a t fr e => by rw [h.b7] at e; cases e; simp) (by omega)
theorem cell_pk_new (w : World) (p : Pk) : ∀ j u, (pkl p)[j]? = some u → (w.alloc (.cells (pkc p) 27)).cell? ((⟨w.heap.size, 0, none⟩ : Addr).add j) = some u := by
  intro j u hj
  have hadd : (⟨w.heap.size, 0, none⟩ : Addr).add j = ⟨w.heap.size, j, none⟩ := by unfold Addr.add; split <;> simp_all
  rw [hadd, cell_of_row _ _ j _ 27 (0, 0) (heap_alloc_new w _)]
  simpa [pkc] using hj
/-- Behind the append. -/
structure At27 (B : Nat) (W : World) (h : Hp) (p : Pk) (v : Value) (wx : World) : Prop where
  at_ : wx.heap[h.blk]? = some (.cells #[.int .i64 h.began, .int .i64 h.order, v] 74)
  row : wx.ownsRow B 27 46 v (h.pieces ++ [p]).length ((h.pieces ++ [p]).flatMap pkl)
  keep : ∀ k o, W.heap[k]? = some o → k ≠ h.blk → h.pv.ownBlock ≠ some k → wx.heap[k]? = some o
  own : ∀ g, v.ownBlock = some g → h.pv.ownBlock = some g ∨ W.heap.size ≤ g
  os : wx.os = W.os
  tape : wx.tape = W.tape
  output : wx.output = W.output
  size : W.heap.size ≤ wx.heap.size
theorem At27.of {B : Nat} {W W' w' : World} {h : Hp} {p : Pk} {v : Value} (H : HeapAt B W h) (hg : Gr W W') (hown : w'.ownsRow B 27 46 v (h.pieces.length + 1) (h.pieces.flatMap pkl ++ pkl p)) (hgr : W'.grownBy w' h.pv.ownBlock)
    (hat : v.ownBlock = h.pv.ownBlock ∨ v.ownBlock = some W'.heap.size) : At27 B W h p v (w'.setCell ⟨h.blk, 2, none⟩ v) := by
  have bl := hg.below
  have hlt := (Array.getElem?_eq_some_iff.1 H.at_).1
  have hne : some h.blk ≠ h.pv.ownBlock := fun e => by
    obtain ⟨_, cur, hc⟩ := own27 H.row e.symm
    rw [H.at_] at hc; simp at hc
  have e1 : w'.heap[h.blk]? = some (.cells #[.int .i64 h.began, .int .i64 h.order, h.pv] 74) := by
    rw [hgr.block _ (by have := bl.size; omega) hne, bl.block _ hlt]; exact H.at_
  have hs1 := bl.size
  have hs2 := hgr.size
  refine ⟨?_, ?_, ?_, ?_, hgr.os.trans bl.os, hgr.tape.trans bl.tape, hgr.output.trans bl.output, by simp; omega⟩
  · rw [heap_setCell_at e1]; rfl
  · have hvb : v.ownBlock = none ∨ v.ownBlock ≠ some h.blk := by
      refine .inr ?_
      rcases hat with e | e
      · rw [e]; exact fun e2 => hne e2.symm
      · rw [e]; intro e2; simp at e2; omega
    have := hown.kept (w' := w'.setCell ⟨h.blk, 2, none⟩ v) (row := some h.blk) ⟨rfl, rfl, rfl, by simp, fun k _ hk => Below.heap_setCell _ _ _ _ (fun e => hk (by simp [e]))⟩ hvb
    simpa using this
  · intro k o hk h1 h2
    have hkl := (Array.getElem?_eq_some_iff.1 hk).1
    rw [Below.heap_setCell _ _ _ _ h1, hgr.block k (by omega) (fun e => h2 e.symm), bl.block k hkl]
    exact hk
  · intro g hg
    rcases hat with e | e
    · rw [e] at hg; exact .inl hg
    · rw [e] at hg; simp at hg; exact .inr (by omega)

/-- A heap's pieces turned. -/
def turnedH (h : Hp) (v : Value) (l : List Pk) : Hp := { h with pv := v, pieces := l }
theorem Tk2.turned {S : Nat → Array Value → Prop} {B : Nat} {w : World} {bb : Nat} {pe ep : Int} {p : Pk} {kb : Nat} {now count : Int} {hs : List Hp} {W wx w17 : World} {h : Hp} {v : Value} {l : List Pk} (T : Tk2 S B w bb pe ep p kb now count hs W) (hBw : B ≤ w.heap.size) (hh : h ∈ hs)
    (A : At27 B W h p v wx) (hS : Sorted (h.pieces ++ [p]) l) (hrow : w17.ownsRow B 27 46 v l.length (l.flatMap pkl)) (hgr : wx.grownBy w17 v.ownBlock) (hE : ExtsAt W p ∧ Cloned w.heap.size W p) (hr : right p = true) (hre : p.off + p.pay.size ≤ 65535) (hlen : h.pieces.length < 64) :
    Tk2 S B w bb pe ep p kb now count (swapH h (turnedH h v l) hs) w17 := by
  have H := T.box.heaps h hh
  have KK : ∀ k o, W.heap[k]? = some o → k ≠ h.blk → h.pv.ownBlock ≠ some k → w17.heap[k]? = some o := fun k o hk h1 h2 => by
    have e1 := A.keep k o hk h1 h2
    have hks := (Array.getElem?_eq_some_iff.1 hk).1
    rw [hgr.block k (Array.getElem?_eq_some_iff.1 e1).1 (fun e => by
      rcases A.own k e.symm with e2 | e2
      · exact h2 e2
      · omega)]
    exact e1
  have keep : ∀ k c t fr, W.heap[k]? = some (Obj.cells c t fr) → t ≠ 27 → t ≠ 74 → w17.heap[k]? = some (Obj.cells c t fr) := fun k c t fr hk h27 h74 => by
    refine KK k _ hk ?_ ?_
    · rintro rfl; rw [H.at_] at hk; cases hk; exact h74 rfl
    · intro ho
      obtain ⟨_, cur, hc⟩ := own27 H.row ho
      rw [hc] at hk; cases hk; exact h27 rfl
  have hsz : W.heap.size ≤ w17.heap.size := Nat.le_trans A.size hgr.size
  have hwz := T.size
  have hat : HeapAt B w17 (turnedH h v l) := by
    refine ⟨H.lo, ?_, hrow, fun x hx => ?_, ?_, fun x hx => ?_⟩
    · have hne : some h.blk ≠ v.ownBlock := fun e => by
        obtain ⟨_, cur, hc⟩ := own27 A.row e.symm
        rw [A.at_] at hc; simp at hc
      exact (hgr.block h.blk (Array.getElem?_eq_some_iff.1 A.at_).1 hne).trans A.at_
    · have hx' : ExtsAt W x ∧ Cloned B W x := by
        rcases List.mem_append.1 (hS.perm.mem_iff.1 hx) with h1 | h1
        · exact H.exts x h1
        · rw [List.mem_singleton.1 h1]
          refine ⟨hE.1, ?_⟩
          rcases hE.2 with r | ⟨r, c, hc⟩
          · exact .inl r
          · exact .inr ⟨by omega, c, hc⟩
      rcases hx'.2 with r | ⟨r, c, hc⟩
      · exact ⟨hx'.1.moved hsz (.inl r), .inl r⟩
      · have e1 := keep _ _ _ _ hc (by decide) (by decide)
        exact ⟨hx'.1.moved hsz (.inr (e1.trans hc.symm)), .inr ⟨r, c, e1⟩⟩
    · have := hS.perm.length_eq
      show l.length ≤ 64
      simp at this; omega
    · rcases List.mem_append.1 (hS.perm.mem_iff.1 hx) with h1 | h1
      · exact H.small x h1
      · rw [List.mem_singleton.1 h1]; exact ⟨hr, hre⟩
  have ho := T.old h hh
  have k27 : ∀ k c, W.heap[k]? = some (Obj.cells c 27) → h.pv.ownBlock ≠ some k → w17.heap[k]? = some (Obj.cells c 27) := fun k c hk hne => by
    refine KK k _ hk ?_ hne
    rintro rfl; rw [H.at_] at hk; cases hk
  refine ⟨⟨T.box.turned (h' := turnedH h v l) hh rfl rfl rfl rfl rfl hsz hat KK A.own, keep _ _ _ _ T.b6 (by decide) (by decide), k27 _ _ T.b7 (fun e => (ho _ e).1 rfl), k27 _ _ T.b8 (fun e => (ho _ e).2 rfl), T.fr.trans ⟨⟨hgr.os.trans A.os, hgr.tape.trans A.tape, hgr.output.trans A.output, hsz, fun k hk => ?_⟩, fun k c t fr hk ht => keep k c t fr hk ht.1 ht.2.2⟩, fun x hx g hg => ?_, by omega, fun k c hk => by
    obtain ⟨a, b, d⟩ := T.sp k c hk
    refine ⟨a, k27 _ _ b (d h hh), fun x hx => ?_⟩
    rcases mem_swapH hx with rfl | ⟨hx, _⟩
    · intro e
      rcases A.own k e with e2 | e2
      · exact d h hh e2
      · omega
    · exact d x hx⟩,
    keep _ _ _ _ T.b10 (by decide) (by decide)⟩
  · have hkW : k < W.heap.size := by omega
    rw [Array.getElem?_eq_getElem hkW]
    refine KK k _ (Array.getElem?_eq_getElem hkW) (by have := H.lo; omega) (fun e => ?_)
    have := (own27 H.row e).1
    omega
  · rcases mem_swapH hx with rfl | ⟨hx, _⟩
    · rcases A.own g hg with e | e
      · exact ho g e
      · omega
    · exact T.old x hx g hg
theorem notK_swap {k : Key} {h h' : Hp} {hs : List Hp} (e : h.key = k) (e' : h'.key = k) : notK k (swapH h h' hs) = notK k hs := by
  unfold notK swapH
  induction hs with
  | nil => rfl
  | cons a hs ih =>
    rw [List.map_cons, List.filter_cons, List.filter_cons, ih]
    by_cases ha : a.key = h.key
    · rw [if_pos ha]; simp [ha, e, e']
    · rw [if_neg ha]
theorem swap_ab {k : Key} {h : Hp} {v : Value} {l : List Pk} {hs : List Hp} (e : h.key = k) : (swapH h (turnedH h v l) hs).map Hp.ab = putK k h.began (l.map er) (hs.map Hp.ab) := by
  unfold swapH putK
  rw [List.map_map, List.map_map]
  refine List.map_congr_left fun x _ => ?_
  simp only [Function.comp]
  by_cases hx : x.key = h.key
  · rw [if_pos hx, if_pos (show x.ab.key = k from hx.trans e), ← e]; rfl
  · rw [if_neg hx, if_neg (fun e2 : x.ab.key = k => hx (e2.trans e.symm))]
theorem joined_size (l : List Pk) : (joined l).size = heldL l := by rw [← textL_len]; exact List.size_toArray
theorem contig_er : ∀ (l : List Pk) (n : Int), contig n (l.map er) = contig n l
  | [], _ => rfl
  | a :: l, n => by
    simp only [List.map_cons, contig]
    rw [contig_er l]; rfl
theorem whole_er (l : List Pk) : wholeOk (l.map er) = wholeOk l := by
  unfold wholeOk lastMore
  rw [contig_er, List.getLast?_map, Option.map_map]; rfl
theorem wholeP_er {l : List Pk} (h : l ≠ []) : wholeP (l.map er) = er (wholeP l) := by
  cases l with
  | nil => exact absurd rfl h
  | cons a r =>
    have e : joined ((a :: r).map er) = joined (a :: r) := by
      unfold joined
      rw [List.flatMap_map]; rfl
    unfold wholeP
    rw [e]; rfl

def isNilV (v : Value) : Bool := match v with | .pointer none => true | _ => false
/-- The heap is there: found or begun. -/
def At20 (S : Nat → Array Value → Prop) (B : Nat) (w : World) (bb : Nat) (pe ep : Int) (p : Pk) (kb : Nat) (now count : Int) (hs1 : List Hp) (c : Value) (W : World) : Prop :=
  ∃ hs2 count2 h, Tk2 S B w bb pe ep p kb now count2 hs2 W ∧ h ∈ hs2 ∧ h.key = ⟨pe, ep, p.src, p.dst, p.proto, p.id⟩ ∧ c = .pointer (some ⟨h.blk, 0, none⟩) ∧ count ≤ count2 ∧ count2 ≤ count + 1 ∧
    Room ⟨pe, ep, p.src, p.dst, p.proto, p.id⟩ now (hs1.map Hp.ab) (hs2.map Hp.ab) (h.pieces.map er) h.began
/-- There is room for one more. -/
def At15 (S : Nat → Array Value → Prop) (B : Nat) (w : World) (bb : Nat) (pe ep : Int) (p : Pk) (kb : Nat) (now count : Int) (hs1 : List Hp) (W : World) : Prop :=
  ∃ hs0, Tk2 S B w bb pe ep p kb now count hs0 W ∧ hs0.Sublist hs1 ∧ ((hs1.length < 8 ∧ hs0 = hs1) ∨ (8 ≤ hs1.length ∧ ∃ x ∈ hs1, hs0 = notK x.key hs1))
/-- .. and a map. -/
def At17 (S : Nat → Array Value → Prop) (B : Nat) (w : World) (bb : Nat) (pe ep : Int) (p : Pk) (kb : Nat) (now count : Int) (hs1 : List Hp) (W : World) : Prop :=
  ∃ hs0 mb clock, Tk2 S B w bb pe ep p kb now count hs0 W ∧ hs0.Sublist hs1 ∧ ((hs1.length < 8 ∧ hs0 = hs1) ∨ (8 ≤ hs1.length ∧ ∃ x ∈ hs1, hs0 = notK x.key hs1)) ∧
    B ≤ mb ∧ W.heap[bb]? = some (.cells #[.int .i64 now, .int .i64 count, .map (some mb)] 63) ∧ W.heap[mb]? = some (.map (ents (hs0.map Hp.ent)) clock) ∧ ∀ h ∈ hs0, h.born < clock

attribute [local irreducible] Calls in
set_option maxRecDepth 100000 in
set_option maxHeartbeats 4000000 in
theorem take_spare {S : Nat → Array Value → Prop} {B : Nat} {w : World} {bb : Nat} {now count : Int} {hs : List Hp} (h : BoxAt B w bb now count hs) (t pe ep : Int) (p : Pk) (hx : ExtsAt w p) (hst : Aside B w p) (hopt : p.opts.size ≤ 140737488351232) (hpay : p.pay.size ≤ 140737488351232)
    (hcount : count ≤ 4611686018427387904) (hfew : hs.length < 1000)
    (hsp : ∀ k c, S k c → w.heap[k]? = some (.cells c 27) ∧ ∀ h ∈ hs, h.pv.ownBlock ≠ some k) :
    Calls Try.prog 12 #[.pointer (some ⟨bb, 0, none⟩), .int .i64 t, .agg #[.int .i64 pe, .int .i64 ep], .agg (pkc p)] w fun e w' => TakeEndS S B w bb (nowOf now t) count hs (keyOf pe ep (er p)) p e w' := by
  have hbb := h.lo
  obtain ⟨m0, hb0⟩ := h.bb63
  have hbs : bb < w.heap.size := (Array.getElem?_eq_some_iff.1 hb0).1
  have hBw : B ≤ w.heap.size := by omega
  have HAB := Lib.hid (ab_filter (nowOf now t) hs)
  have hlen1 : (hs.filter (inTime (nowOf now t))).length ≤ hs.length := List.length_filter_le _ _
  have HL : Hid (∀ W0, BoxAt B W0 bb now count hs → Calls Try.prog 25 #[.pointer (some ⟨bb, 0, none⟩), .int .i64 t] W0 fun e w' => (∃ n, e = .returned (.int .i64 n)) ∧ BoxAt B w' bb (nowOf now t) count (hs.filter (inTime (nowOf now t))) ∧ Fr B W0 w' ∧ Calm bb W0 w') := fun W0 h0 => late_any h0 t
  have hold : ∀ x ∈ hs.filter (inTime (nowOf now t)), ∀ g, x.pv.ownBlock = some g → g < w.heap.size := fun x hx g hg => by
    obtain ⟨_, cur, hc⟩ := own27 (h.heaps x (List.filter_sublist.subset hx)).row hg
    exact (Array.getElem?_eq_some_iff.1 hc).1
  have hsub1 : ∀ x ∈ hs.filter (inTime (nowOf now t)), x ∈ hs := fun x hx => List.filter_sublist.subset hx
  generalize nowOf now t = now1 at HL HAB hlen1 hold hsub1 ⊢
  generalize hs.filter (inTime now1) = hs1 at HL HAB hlen1 hold hsub1
  have HSPA := Lib.hid hsp
  have HSUB1 : Hid (∀ x ∈ hs1, x ∈ hs) := hsub1
  have HOLD := Lib.hid hold
  have HW := Lib.hid h
  have HX := Lib.hid hx
  clear h hx hb0 hold hsp hsub1
  go_enter Try.func12, Try.ntmps12
  go_wp2_with (fail)
  have hg0 : Gr w (((w.alloc (Obj.cells #[Value.int IntKind.i64 pe, Value.int IntKind.i64 ep] 41)).alloc (Obj.cells (pkc p) 27)).alloc (Obj.cells (pkc zpk) 27)) := ((Gr.refl w).alloc _).alloc _ |>.alloc _
  have e6 : (((w.alloc (Obj.cells #[Value.int IntKind.i64 pe, Value.int IntKind.i64 ep] 41)).alloc (Obj.cells (pkc p) 27)).alloc (Obj.cells (pkc zpk) 27)).heap[w.heap.size]? = some (.cells #[.int .i64 pe, .int .i64 ep] 41) := by
    rw [heap_alloc_old _ _ (by simp; omega), heap_alloc_old _ _ (by simp)]; exact heap_alloc_new _ _
  have e7 : (((w.alloc (Obj.cells #[Value.int IntKind.i64 pe, Value.int IntKind.i64 ep] 41)).alloc (Obj.cells (pkc p) 27)).alloc (Obj.cells (pkc zpk) 27)).heap[w.heap.size + 1]? = some (.cells (pkc p) 27) := by
    rw [heap_alloc_old _ _ (by simp)]
    have := heap_alloc_new (w.alloc (Obj.cells #[Value.int IntKind.i64 pe, Value.int IntKind.i64 ep] 41)) (Obj.cells (pkc p) 27)
    rwa [World.size_alloc] at this
  have e8 : (((w.alloc (Obj.cells #[Value.int IntKind.i64 pe, Value.int IntKind.i64 ep] 41)).alloc (Obj.cells (pkc p) 27)).alloc (Obj.cells (pkc zpk) 27)).heap[w.heap.size + 1 + 1]? = some (.cells (pkc zpk) 27) := by
    have := heap_alloc_new ((w.alloc (Obj.cells #[Value.int IntKind.i64 pe, Value.int IntKind.i64 ep] 41)).alloc (Obj.cells (pkc p) 27)) (Obj.cells (pkc zpk) 27)
    rwa [World.size_alloc, World.size_alloc] at this
  have s0 : (((w.alloc (Obj.cells #[Value.int IntKind.i64 pe, Value.int IntKind.i64 ep] 41)).alloc (Obj.cells (pkc p) 27)).alloc (Obj.cells (pkc zpk) 27)).heap.size = w.heap.size + 1 + 1 + 1 := by simp
  generalize ((w.alloc (Obj.cells #[Value.int IntKind.i64 pe, Value.int IntKind.i64 ep] 41)).alloc (Obj.cells (pkc p) 27)).alloc (Obj.cells (pkc zpk) 27) = W0 at hg0 e6 e7 e8 s0 ⊢
  refine (HL.out _ (HW.out.grown hg0)).mono ?_
  rintro e W1 ⟨⟨n, rfl⟩, hbox, hfr, hcalm⟩
  have hT : Tk S B w bb pe ep p now1 count hs1 W1 := by
    refine ⟨hbox, hcalm _ _ e6 (by omega) (by intro es c e; cases e), hcalm _ _ e7 (by omega) (by intro es c e; cases e), hcalm _ _ e8 (by omega) (by intro es c e; cases e), (Fr.of_gr hg0 hBw).trans hfr, fun x hx g hg => by have := HOLD.out x hx g hg; omega, ?_, fun k c hk => ?_⟩
    · have := hfr.below.size
      omega
    · obtain ⟨a, b⟩ := HSPA.out k c hk
      have hkl := (Array.getElem?_eq_some_iff.1 a).1
      have hkb : k ≠ bb := by
        obtain ⟨m, hm⟩ := HW.out.bb63
        rintro rfl
        rw [hm] at a; simp at a
      exact ⟨hkl, hcalm _ _ ((hg0.below.block _ hkl).trans a) hkb (by intro es c e; cases e), fun x hx => b x (HSUB1.out x hx)⟩
  have HT := Lib.hid hT
  clear HSPA HSUB1
  clear hg0 e6 e7 e8 s0 hbox hfr hcalm hT HL
  have r7 : rowOf W1 (w.heap.size + 1) = pkc p := rowOf_heap HT.out.b7
  have z7 : w.heap.size + 1 < W1.heap.size := by have := HT.out.size; omega
  have hR := Lib.hid (right_any p W1 (HX.out.fr hst HT.out.fr) hopt)
  cases hr : right p
  · --D{
    rw [hr] at hR
    go_wp2_with (fail)
    refine hR.out.mono ?_
    rintro e W2 ⟨rfl, hg2⟩
    have HT2 := Lib.hid (HT.out.grown hg2)
    clear hg2 HT r7 z7
    have q1 : rowOf W2 (w.heap.size + 1 + 1) = pkc zpk := rowOf_heap HT2.out.b8
    have q2 : freeAt W2 (w.heap.size + 1 + 1) = true := freeAt_heap HT2.out.b8
    have q3 : w.heap.size + 1 + 1 < W2.heap.size := HT2.out.size
    go_wp2
    refine bodyPost_ret (run_results_cell_tmp 46 Try.results12 _ _ (w.heap.size + 1 + 1) (pkc zpk) rfl isAgg27 size27 (by omega) (by rw [sz_pkc]; trivial) (HT2.out.stored zpk hBw).2.2) rfl (HT2.out.none_end hBw (Int.le_refl _) (by omega) ?_)
    unfold Took
    rw [if_pos (by rw [right_er]; exact hr), HAB.out]
    exact ⟨rfl, rfl⟩
    --D}
  · rw [hr] at hR
    go_wp2_with (fail)
    refine hR.out.mono ?_
    rintro e W2 ⟨rfl, hg2⟩
    have HT2 := Lib.hid (HT.out.grown hg2)
    clear hg2 HT r7 z7 hR
    have f7 := box_cell HT2.out.b7
    have r7 : rowOf W2 (w.heap.size + 1) = pkc p := rowOf_heap HT2.out.b7
    have z7 : w.heap.size + 1 < W2.heap.size := by have := HT2.out.size; omega
    go_upto_region 6 with (fail)
    go_cut [27] from 28 to 35 (fun c wx => c = .bool (decide (p.more = false ∧ p.off = 0)) ∧ wx = W2)
    case first =>
      --D{
      cases hm : p.more
      · by_cases ho : p.off = 0
        · go_wp2
          go_meet
          exact ⟨by simp [ho, hm], rfl⟩
        · go_wp2
          go_meet
          exact ⟨by simp [ho, hm], rfl⟩
      · go_wp2
        go_meet
        exact ⟨by simp [hm], rfl⟩
      --D}
    case rest =>
      obtain ⟨rfl, rfl⟩ := hcut
      by_cases hd : p.more = false ∧ p.off = 0
      · --D{
        simp only [decide_eq_true hd]
        have hB := Lib.hid (bare_any p wc (HX.out.fr hst HT2.out.fr) (right_xl4 hr))
        go_wp2_with (fail)
        refine hB.out.mono ?_
        rintro e W3 ⟨a, c, rfl, hE, hC, hg3⟩
        have HT3 := Lib.hid (HT2.out.grown hg3)
        have HE := Lib.hid hE
        have hC' : Cloned w.heap.size W3 { bareP p with xa := a, xc := c } := by
          rcases hC with r | ⟨r, c', hc⟩
          · exact .inl r
          · exact .inr ⟨Nat.le_trans (by have := HT2.out.size; omega) r, c', hc⟩
        have HC := Lib.hid hC'
        clear hg3 hE hC hC' r7 z7 f7
        have q1 : rowOf W3 (w.heap.size + 1 + 1) = pkc zpk := rowOf_heap HT3.out.b8
        have q2 : freeAt W3 (w.heap.size + 1 + 1) = true := freeAt_heap HT3.out.b8
        have q3 : w.heap.size + 1 + 1 < W3.heap.size := HT3.out.size
        go_wp2
        refine bodyPost_ret (run_results_cell_tmp 46 Try.results12 _ _ (w.heap.size + 1 + 1) _ rfl isAgg27 size27 (by omega) (by rw [sz_pkc]; trivial) (HT3.out.stored _ hBw).2.2) rfl (HT3.out.some_end hBw (Int.le_refl _) (by omega) HE.out HC.out ?_)
        unfold Took
        rw [if_neg (by rw [right_er, hr]; simp), if_pos (show (er p).more = false ∧ (er p).off = 0 from hd), HAB.out]
        exact ⟨rfl, rfl⟩
        --D}
      · simp only [decide_eq_false hd]
        have hRe := Lib.hid (reach_any p wc (right_offs hr).1 (by have := (right_offs hr).2; omega) hpay)
        go_upto_region 8 with (fail)
        go_cut [38] from 39 to 57 (fun c wx => c = .bool (badPiece p) ∧ Gr wc wx)
        case first =>
          --D{
          have hsz : p.pay.toList.isEmpty = decide (p.pay.size = 0) := by
            rw [ByteArray.toList_eq, ← ByteArray.size_data, ← Array.length_toList]
            cases p.pay.data.toList <;> simp
          by_cases hp : p.pay.size = 0
          · rw [decide_eq_true hp] at hsz
            go_wp2
            go_meet
            exact ⟨by simp [badPiece, hp], Gr.refl _⟩
          · rw [decide_eq_false hp] at hsz
            cases hm : p.more
            · go_wp2_with (fail)
              refine hRe.out.mono ?_
              rintro e W3 ⟨rfl, hg3⟩
              go_wp2
              go_meet
              exact ⟨by simp [badPiece, reachN, hp, hm]; exact decide_eq_decide.2 Iff.rfl, hg3⟩
            · go_wp2_with (fail)
              · rename_i h8
                have h8' : p.pay.size % 8 = 0 := by omega
                refine hRe.out.mono ?_
                rintro e W3 ⟨rfl, hg3⟩
                go_wp2
                go_meet
                exact ⟨by simp [badPiece, reachN, hp, hm, h8']; exact decide_eq_decide.2 Iff.rfl, hg3⟩
              · rename_i h8
                have h8' : ¬ p.pay.size % 8 = 0 := by omega
                go_meet
                exact ⟨by simp [badPiece, hp, hm, h8'], Gr.refl _⟩
          --D}
        case rest =>
          obtain ⟨rfl, hg3⟩ := hcut
          have HT3 := Lib.hid (HT2.out.grown hg3)
          clear hg3 HT2 r7 z7 f7 hRe
          by_cases hbad : badPiece p = true
          · --D{
            simp only [hbad]
            have q1 : rowOf wc (w.heap.size + 1 + 1) = pkc zpk := rowOf_heap HT3.out.b8
            have q2 : freeAt wc (w.heap.size + 1 + 1) = true := freeAt_heap HT3.out.b8
            have q3 : w.heap.size + 1 + 1 < wc.heap.size := HT3.out.size
            go_wp2
            refine bodyPost_ret (run_results_cell_tmp 46 Try.results12 _ _ (w.heap.size + 1 + 1) (pkc zpk) rfl isAgg27 size27 (by omega) (by rw [sz_pkc]; trivial) (HT3.out.stored zpk hBw).2.2) rfl (HT3.out.none_end hBw (Int.le_refl _) (by omega) ?_)
            unfold Took
            rw [if_neg (by rw [right_er, hr]; simp), if_neg (show ¬ ((er p).more = false ∧ (er p).off = 0) from hd), if_pos (show badPiece (er p) = true from hbad), HAB.out]
            exact ⟨rfl, rfl⟩
            --D}
          · have hbad' : badPiece p = false := by simpa using hbad
            simp only [hbad']
            have r7 : rowOf wc (w.heap.size + 1) = pkc p := rowOf_heap HT3.out.b7
            have f7 := box_cell HT3.out.b7
            have f60 : wc.cell? ⟨w.heap.size, 0, none⟩ = some (.int .i64 pe) := cell_of_row wc _ 0 _ 41 (0, 0) HT3.out.b6
            have f61 : wc.cell? ⟨w.heap.size, 1, none⟩ = some (.int .i64 ep) := cell_of_row wc _ 1 _ 41 (0, 0) HT3.out.b6
            have z7 : w.heap.size + 1 + 1 < wc.heap.size := HT3.out.size
            go_upto_region 11 with (fail)
            have HT4 : Hid (Tk2 S B w bb pe ep p wc.heap.size now1 count hs1 (wc.alloc (Obj.cells (keyc ⟨pe, ep, p.src, p.dst, p.proto, p.id⟩) 70))) := ⟨HT3.out.grown ((Gr.refl _).alloc _), heap_alloc_new _ _⟩
            have zk : wc.heap.size < (wc.alloc (Obj.cells (keyc ⟨pe, ep, p.src, p.dst, p.proto, p.id⟩) 70)).heap.size := by simp
            clear r7 f7 f60 f61 z7 HT3
            generalize wc.alloc (Obj.cells (keyc ⟨pe, ep, p.src, p.dst, p.proto, p.id⟩) 70) = W4 at HT4 zk ⊢
            generalize wc.heap.size = kb at HT4 zk ⊢
            obtain ⟨m, v, hm, hlk, hv⟩ := HT4.out.box.look ⟨pe, ep, p.src, p.dst, p.proto, p.id⟩
            have c2 : W4.cell? ⟨bb, 2, none⟩ = some (.map m) := cell_of_row W4 bb 2 _ 63 (0, 0) hm
            have zb : bb < W4.heap.size := (Array.getElem?_eq_some_iff.1 hm).1
            have rk : rowOf W4 kb = keyc ⟨pe, ep, p.src, p.dst, p.proto, p.id⟩ := rowOf_heap HT4.out.b10
            have hlk' : ∀ y, (Instr.lookup 61 (.map m) (.agg (keyc ⟨pe, ep, p.src, p.dst, p.proto, p.id⟩)) false).run Try.prog (gr W4 y) = .ok v (gr W4 y) := fun y => hlk _ ⟨y, rfl⟩
            have HV := Lib.hid hv
            clear hm hlk hv
            go_cut [11] from 69 to 74 (fun c wx => v = c ∧ Gr W4 wx)
            case first =>
              --D{
              go_wp2
              refine wp_region_gr (by kernel_rfl) (by kernel_rfl) ?_
              repeat (go_big_quiet_step (fail))
              refine wpQuiet_nil ?_
              rintro _ ⟨y, rfl⟩
              go_wp2
              go_meet
              exact ⟨rfl, _, rfl⟩
              --D}
            case rest =>
              obtain ⟨rfl, hg5⟩ := hcut
              have HT5 := Lib.hid (HT4.out.grown hg5)
              clear hg5 HT4 c2 zb rk hlk' zk
              go_upto_region 12 with (fail)
              go_cut [76] from 75 to 76 (fun c wx => c = .bool (isNilV v) ∧ wx = wc)
              case first =>
                have hvv : (∃ a, v = .pointer (some a)) ∨ v = .pointer none := by
                  rcases HV.out with ⟨x, hx, hxk, e⟩ | ⟨hno, e⟩
                  · exact .inl ⟨_, e⟩
                  · exact .inr e
                clear HV
                rcases hvv with ⟨a, rfl⟩ | rfl
                · go_wp2
                  go_meet
                  exact ⟨rfl, rfl⟩
                · go_wp2
                  go_meet
                  exact ⟨rfl, rfl⟩
              case rest =>
              obtain ⟨rfl, rfl⟩ := hcut
              go_upto_if 76 with (fail)
              go_cut [11] from 77 to 120 (fun c wx => At20 S B w bb pe ep p kb now1 count hs1 c wx)
              case first =>
                --D{
                rcases HV.out with ⟨x, hx, hxk, rfl⟩ | ⟨hno, rfl⟩
                · simp only [isNilV]
                  go_wp2
                  go_meet
                  exact ⟨hs1, count, x, HT5.out, hx, hxk, rfl, Int.le_refl _, by omega, .inl ⟨List.mem_map.2 ⟨x, hx, by simp [Hp.ab, hxk]⟩, rfl⟩⟩
                · simp only [isNilV]
                  have HNO := Lib.hid hno
                  clear hno
                  obtain ⟨m1, hm1⟩ := HT5.out.box.bb63
                  have c2 : wc.cell? ⟨bb, 2, none⟩ = some (.map m1) := cell_of_row wc bb 2 _ 63 (0, 0) hm1
                  have zb : bb < wc.heap.size := (Array.getElem?_eq_some_iff.1 hm1).1
                  have hlen : ∀ ty, (Builtin.len_ #[61] ty #[.map m1]).run Try.prog wc = .ok (.int .i64 hs1.length) wc := by
                    intro ty
                    rcases HT5.out.box.mp with ⟨h1, h2⟩ | ⟨mb, clock, h1, h2, h3, h4⟩
                    · rw [h2] at hm1
                      simp at hm1
                      subst hm1
                      rw [h1]
                      kernel_rfl
                    · rw [h2] at hm1
                      simp at hm1
                      subst hm1
                      have := run_len61 mb clock _ wc ty h3
                      rwa [List.length_map] at this
                  clear hm1
                  go_upto_if 82 with (fail)
                  go_cut [] from 77 to 88 (fun wx => At15 S B w bb pe ep p kb now1 count hs1 wx)
                  case first =>
                    --D{
                    by_cases h8 : 8 ≤ hs1.length
                    · have hne : hs1 ≠ [] := fun e => by rw [e] at h8; simp at h8
                      rcases HT5.out.box.mp with ⟨e, _⟩ | ⟨mb, clock, hmB, hm1, hmm, hcl⟩
                      · exact absurd e hne
                      · have hc2' : m1 = some mb := by
                          have := c2.symm.trans (cell_of_row wc bb 2 _ 63 (0, 0) hm1)
                          simpa using this
                        subst hc2'
                        have HTd : Hid (Tk2 S B w bb pe ep p kb now1 count hs1 wc.drew) := HT5.out.grown ((Gr.refl wc).drew)
                        have H28 := Lib.hid (oldest_any HTd.out.box hne)
                        have hms : mb < wc.drew.heap.size := (Array.getElem?_eq_some_iff.1 hmm).1
                        have hmg : ∀ y, (gr wc.drew y).heap[mb]? = some (.map (ents (hs1.map Hp.ent)) clock) := fun y => (heap_gr wc.drew y hms).trans hmm
                        have hbg : ∀ y, (gr wc.drew y).heap[bb]? = some (.cells #[.int .i64 now1, .int .i64 count, .map (some mb)] 63) := fun y => (heap_gr wc.drew y zb).trans hm1
                        have hdel := Lib.hid (fun x (hx : x ∈ hs1) y ty => run_delete_hp x hs1 hx HTd.out.box.keys (gr wc.drew y) mb clock ty (hmg y))
                        have c3 : ∀ y, (gr wc.drew y).cell? ⟨bb, 2, none⟩ = some (.map (some mb)) := fun y => (cell_gr wc.drew y bb 2 zb).trans c2
                        have HMG := Lib.hid hmg
                        have HBG := Lib.hid hbg
                        have HCL := Lib.hid hcl
                        clear hmg hbg hmm hm1 hcl hlen
                        go_wp2_with (fail)
                        go_region_with (go_at_call 28; refine H28.out.mono ?_; rintro e w' ⟨⟨x, hx, rfl⟩, y, rfl⟩; have hdl := hdel.out x hx y; have HXX := Lib.hid hx; clear hx)
                        all_goals
                          go_wp2
                          go_meet
                          exact ⟨_, (HTd.out.grown ⟨y, rfl⟩).fewer (HBG.out y) (HMG.out y) hmB HCL.out List.filter_sublist, List.filter_sublist, .inr ⟨h8, x, HXX.out, rfl⟩⟩
                    · go_wp2
                      go_meet
                      exact ⟨hs1, HT5.out, List.Sublist.refl _, .inl ⟨by omega, rfl⟩⟩
                    --D}
                  case rest =>
                    obtain ⟨hs0, hT0, hsub0, hroom0⟩ := hcut
                    have HT6 := Lib.hid hT0
                    have HSUB := Lib.hid hsub0
                    have HRM := Lib.hid hroom0
                    clear hT0 hsub0 hroom0 c2 zb hlen HT5
                    obtain ⟨m2, hm2⟩ := HT6.out.box.bb63
                    have c2 : wc.cell? ⟨bb, 2, none⟩ = some (.map m2) := cell_of_row wc bb 2 _ 63 (0, 0) hm2
                    have f2 : wc.frozen? ⟨bb, 2, none⟩ = false := by simp [World.frozen?, hm2]
                    have zb : bb < wc.heap.size := (Array.getElem?_eq_some_iff.1 hm2).1
                    have HM2 := Lib.hid hm2
                    clear hm2
                    go_upto_region 15 with (fail)
                    go_cut [93] from 89 to 93 (fun c wx => c = .bool m2.isNone ∧ wx = wc)
                    case first =>
                      go_wp2
                      go_meet
                      exact ⟨rfl, rfl⟩
                    case rest =>
                    obtain ⟨rfl, rfl⟩ := hcut
                    go_upto_if 93 with (fail)
                    go_cut [] from 93 to 97 (fun wx => At17 S B w bb pe ep p kb now1 count hs1 wx)
                    case first =>
                      --D{
                      cases m2 with
                      | none =>
                        go_wp2
                        go_meet
                        have e0 : hs0 = [] := by
                          rcases HT6.out.box.mp with ⟨e1, e2⟩ | ⟨mb', clock, hmB, hm1, hmm, hcl⟩
                          · exact e1
                          · rw [HM2.out] at hm1; simp at hm1
                        subst e0
                        have hB4 : B ≤ wc.heap.size := by omega
                        obtain ⟨g1, g2, g3, g4⟩ := HT6.out.box.made HM2.out hB4
                        have hkp : ∀ k, k < wc.heap.size → k ≠ bb → ((wc.setCell ⟨bb, 2, none⟩ (.map (some wc.heap.size))).alloc (.map #[] 0)).heap[k]? = wc.heap[k]? := fun k hk hne => by
                          rw [heap_alloc_old _ _ (by simpa using hk), Below.heap_setCell _ _ _ _ hne]
                        have hz6 := HT6.out.size
                        have hzk := (Array.getElem?_eq_some_iff.1 HT6.out.b10).1
                        have hkb : kb ≠ bb := by rintro rfl; have := HT6.out.b10; rw [HM2.out] at this; simp at this
                        exact ⟨[], wc.heap.size, 0, ⟨⟨g1, (hkp _ (by omega) (by omega)).trans HT6.out.b6, (hkp _ (by omega) (by omega)).trans HT6.out.b7, (hkp _ (by omega) (by omega)).trans HT6.out.b8, HT6.out.fr.trans g2, by simp, by simp; omega, fun k c hk => by
                          obtain ⟨a, b, d⟩ := HT6.out.sp k c hk
                          exact ⟨a, (hkp _ (Array.getElem?_eq_some_iff.1 b).1 (by rintro rfl; rw [HM2.out] at b; simp at b)).trans b, by simp⟩⟩, (hkp _ hzk hkb).trans HT6.out.b10⟩, HSUB.out, HRM.out, hB4, g3, g4, by simp⟩
                      | some mb =>
                        go_wp2
                        go_meet
                        rcases HT6.out.box.mp with ⟨e1, e2⟩ | ⟨mb', clock, hmB, hm1, hmm, hcl⟩
                        · rw [HM2.out] at e2; simp at e2
                        · have : mb' = mb := by
                            rw [HM2.out] at hm1; simp at hm1; exact hm1.symm
                          subst this
                          exact ⟨hs0, mb', clock, HT6.out, HSUB.out, HRM.out, hmB, hm1, hmm, hcl⟩
                      --D}
                    case rest =>
                      obtain ⟨hs3, mb, clock, hT0, hsub0, hroom0, hmB, hm1, hmm, hcl⟩ := hcut
                      have HT7 := Lib.hid hT0
                      have HSUB3 := Lib.hid hsub0
                      have HRM3 := Lib.hid hroom0
                      clear hT0 hsub0 hroom0 c2 f2 zb HT6 HM2 HSUB HRM
                      have c0 : wc.cell? ⟨bb, 0, none⟩ = some (.int .i64 now1) := cell_of_row wc bb 0 _ 63 (0, 0) hm1
                      have c1 : wc.cell? ⟨bb, 1, none⟩ = some (.int .i64 count) := cell_of_row wc bb 1 _ 63 (0, 0) hm1
                      have c2 : wc.cell? ⟨bb, 2, none⟩ = some (.map (some mb)) := cell_of_row wc bb 2 _ 63 (0, 0) hm1
                      have zb : bb < wc.heap.size := (Array.getElem?_eq_some_iff.1 hm1).1
                      have HM1 := Lib.hid hm1
                      have HMM := Lib.hid hmm
                      have HCL := Lib.hid hcl
                      clear hm1 hmm hcl
                      go_upto_region 17 with (fail)
                      refine wp_region_gr_tail 9 (by kernel_rfl) (by kernel_rfl) ?_
                      simp only [List.take, List.drop]
                      repeat (go_big_quiet_step (fail))
                      refine wpQuiet_nil ?_
                      rintro _ ⟨y, rfl⟩
                      have HT8 : Hid (Tk2 S B w bb pe ep p kb now1 count hs3 (gr wc y)) := HT7.out.grown ⟨y, rfl⟩
                      have HM1' : Hid ((gr wc y).heap[bb]? = some (.cells #[.int .i64 now1, .int .i64 count, .map (some mb)] 63)) := (heap_gr wc y zb).trans HM1.out
                      have HMM' : Hid ((gr wc y).heap[mb]? = some (.map (ents (hs3.map Hp.ent)) clock)) := (heap_gr wc y (Array.getElem?_eq_some_iff.1 HMM.out).1).trans HMM.out
                      clear c0 c1 c2 zb HM1 HMM HT7
                      generalize gr wc y = W8 at HT8 HM1' HMM' ⊢
                      have c0 : W8.cell? ⟨bb, 0, none⟩ = some (.int .i64 now1) := cell_of_row W8 bb 0 _ 63 (0, 0) HM1'.out
                      have c1 : W8.cell? ⟨bb, 1, none⟩ = some (.int .i64 count) := cell_of_row W8 bb 1 _ 63 (0, 0) HM1'.out
                      have c2 : W8.cell? ⟨bb, 2, none⟩ = some (.map (some mb)) := cell_of_row W8 bb 2 _ 63 (0, 0) HM1'.out
                      have f1 : W8.frozen? ⟨bb, 1, none⟩ = false := by simp [World.frozen?, HM1'.out]
                      have zb : bb < W8.heap.size := (Array.getElem?_eq_some_iff.1 HM1'.out).1
                      have hc0 : 0 ≤ count := HT8.out.box.count0
                      go_upto_region 19 with (fail)
                      have w9 : ∀ j, j < W8.heap.size → j ≠ bb → ((W8.setCell ⟨bb, 1, none⟩ (.int .i64 (count + 1))).alloc (Obj.cells #[.int .i64 now1, .int .i64 count, .slice none 0 0] 74)).heap[j]? = W8.heap[j]? := fun j hj hne => by
                        rw [heap_alloc_old _ _ (by simpa using hj), Below.heap_setCell _ _ _ _ hne]
                      have n1 : ((W8.setCell ⟨bb, 1, none⟩ (.int .i64 (count + 1))).alloc (Obj.cells #[.int .i64 now1, .int .i64 count, .slice none 0 0] 74)).heap[bb]? = some (.cells #[.int .i64 now1, .int .i64 (count + 1), .map (some mb)] 63) := by
                        rw [heap_alloc_old _ _ (by simpa using zb)]
                        simp [World.setCell, Array.getElem?_modify, HM1'.out]
                      have hms := (Array.getElem?_eq_some_iff.1 HMM'.out).1
                      have hmne : mb ≠ bb := by rintro rfl; have := HMM'.out; rw [HM1'.out] at this; cases this
                      have n2 : ((W8.setCell ⟨bb, 1, none⟩ (.int .i64 (count + 1))).alloc (Obj.cells #[.int .i64 now1, .int .i64 count, .slice none 0 0] 74)).heap[mb]? = some (.map (ents (hs3.map Hp.ent)) clock) := (w9 mb hms hmne).trans HMM'.out
                      have n3 : ((W8.setCell ⟨bb, 1, none⟩ (.int .i64 (count + 1))).alloc (Obj.cells #[.int .i64 now1, .int .i64 count, .slice none 0 0] 74)).heap[W8.heap.size]? = some (.cells #[.int .i64 now1, .int .i64 count, .slice none 0 0] 74) := by
                        have := heap_alloc_new (W8.setCell ⟨bb, 1, none⟩ (.int .i64 (count + 1))) (Obj.cells #[.int .i64 now1, .int .i64 count, .slice none 0 0] 74)
                        rwa [World.size_setCell] at this
                      have hkz := (Array.getElem?_eq_some_iff.1 HT8.out.b10).1
                      have hkne : kb ≠ bb := by rintro rfl; have := HT8.out.b10; rw [HM1'.out] at this; simp at this
                      have n4 : ((W8.setCell ⟨bb, 1, none⟩ (.int .i64 (count + 1))).alloc (Obj.cells #[.int .i64 now1, .int .i64 count, .slice none 0 0] 74)).heap[kb]? = some (.cells (keyc ⟨pe, ep, p.src, p.dst, p.proto, p.id⟩) 70) := (w9 kb hkz hkne).trans HT8.out.b10
                      have n5 : ((W8.setCell ⟨bb, 1, none⟩ (.int .i64 (count + 1))).alloc (Obj.cells #[.int .i64 now1, .int .i64 count, .slice none 0 0] 74)).heap.size = W8.heap.size + 1 := by simp
                      have n6 : Hid (((W8.setCell ⟨bb, 1, none⟩ (.int .i64 (count + 1))).alloc (Obj.cells #[.int .i64 now1, .int .i64 count, .slice none 0 0] 74)).os = W8.os ∧ ((W8.setCell ⟨bb, 1, none⟩ (.int .i64 (count + 1))).alloc (Obj.cells #[.int .i64 now1, .int .i64 count, .slice none 0 0] 74)).tape = W8.tape ∧ ((W8.setCell ⟨bb, 1, none⟩ (.int .i64 (count + 1))).alloc (Obj.cells #[.int .i64 now1, .int .i64 count, .slice none 0 0] 74)).output = W8.output) := ⟨rfl, rfl, rfl⟩
                      have W9' := Lib.hid w9
                      clear w9 c0 c1 c2 f1
                      generalize (W8.setCell ⟨bb, 1, none⟩ (.int .i64 (count + 1))).alloc (Obj.cells #[.int .i64 now1, .int .i64 count, .slice none 0 0] 74) = W9 at n1 n2 n3 n4 n5 n6 W9' ⊢
                      have N1 := Lib.hid n1
                      have N2 := Lib.hid n2
                      have N3 := Lib.hid n3
                      have c2 : W9.cell? ⟨bb, 2, none⟩ = some (.map (some mb)) := cell_of_row W9 bb 2 _ 63 (0, 0) n1
                      have rk : rowOf W9 kb = keyc ⟨pe, ep, p.src, p.dst, p.proto, p.id⟩ := rowOf_heap n4
                      have zk : kb < W9.heap.size := by omega
                      have zb9 : bb < W9.heap.size := by omega
                      have N5 := Lib.hid n5
                      clear n1 n2 n3 n4 n5
                      refine wp_region_gr_tail 6 (by kernel_rfl) (by kernel_rfl) ?_
                      simp only [List.take, List.drop]
                      repeat (go_big_quiet_step (fail))
                      refine wpQuiet_nil ?_
                      rintro _ ⟨y, rfl⟩
                      have n5 := N5.out
                      have hno3 : ∀ x ∈ hs3, x.key ≠ ⟨pe, ep, p.src, p.dst, p.proto, p.id⟩ := fun x hx => HNO.out x (HSUB3.out.subset hx)
                      have hof : of? ⟨pe, ep, p.src, p.dst, p.proto, p.id⟩ (hs3.map Hp.ent) = none := by
                        unfold of?
                        rw [List.find?_eq_none]
                        intro e he
                        obtain ⟨x, hx, rfl⟩ := List.mem_map.1 he
                        have h2 : (⟨pe, ep, p.src, p.dst, p.proto, p.id⟩ : Key) ≠ x.key := fun e => hno3 x hx e.symm
                        simp [Hp.ent, h2]
                      have hmg : (gr W9 y).heap[mb]? = some (.map (ents (hs3.map Hp.ent)) clock) := (heap_gr W9 y (by omega)).trans N2.out
                      have hup := run_update61 ⟨pe, ep, p.src, p.dst, p.proto, p.id⟩ (gr W9 y) mb clock W8.heap.size (hs3.map Hp.ent) hmg hof
                      have HNO3 := Lib.hid hno3
                      have HMG := Lib.hid hmg
                      have HN := Lib.hid hc0
                      clear hno3 hof hmg n5
                      go_wp2
                      go_meet
                      have n5 := N5.out
                      have hmlt : mb < (gr W9 y).heap.size := (Array.getElem?_eq_some_iff.1 HMG.out).1
                      have hlt3 : hs3.length < 1000 := by have := HSUB3.out.length_le; omega
                      have hTf := HT8.out.begun (W := setBlock (gr W9 y) mb (.map (ents (hs3.map Hp.ent ++ [⟨⟨pe, ep, p.src, p.dst, p.proto, p.id⟩, W8.heap.size, clock⟩])) (clock + 1))) (hb := W8.heap.size) (clock := clock) (k := ⟨pe, ep, p.src, p.dst, p.proto, p.id⟩)
                        HM1'.out HMM'.out hmB HCL.out HNO3.out hlt3 (by
                          have := (((Gr.refl W9).more y).below).os
                          exact this.trans n6.out.1) ((((Gr.refl W9).more y).below).tape.trans n6.out.2.1) ((((Gr.refl W9).more y).below).output.trans n6.out.2.2) (by rw [setBlock_size, size_gr]; omega)
                        (fun j hj h1 h2 => by rw [setBlock_other h2, heap_gr _ _ (by omega)]; exact W9'.out j hj h1)
                        (by rw [setBlock_other (Ne.symm hmne), heap_gr _ _ zb9]; exact N1.out)
                        (by rw [setBlock_at hmlt, List.map_append]; rfl)
                        (by rw [setBlock_other (by omega), heap_gr _ _ (by omega)]; exact N3.out) (Nat.le_refl _)
                      refine ⟨_, _, newHp ⟨pe, ep, p.src, p.dst, p.proto, p.id⟩ W8.heap.size clock now1 count, hTf, by simp, rfl, rfl, by omega, by omega, .inr ⟨?_, rfl, rfl, hs3.map Hp.ab, ?_, ?_⟩⟩
                      · intro a ha
                        obtain ⟨x, hx, rfl⟩ := List.mem_map.1 ha
                        exact HNO.out x hx
                      · rcases HRM3.out with ⟨h1, h2⟩ | ⟨h1, x, hx, h2⟩
                        · exact .inl ⟨by simpa using h1, by rw [h2]⟩
                        · refine .inr ⟨by simpa using h1, x.ab, List.mem_map_of_mem hx, ?_⟩
                          rw [h2]
                          simp only [notK, dropK, List.filter_map]
                          rfl
                      · rw [List.map_append]; rfl
                --D}
              case rest =>
                obtain ⟨hs2, count2, h, hT, hmem, hkey, rfl, hc1, hc2, hroom⟩ := hcut
                have HT10 := Lib.hid hT
                have HMEM := Lib.hid hmem
                have HKEY := Lib.hid hkey
                have HC1 := Lib.hid hc1
                have HC2 := Lib.hid hc2
                have HROOM := Lib.hid hroom
                clear hT hmem hkey hc1 hc2 hroom HT5 HV
                have HTOOK : Hid (∀ s' r, Put ⟨pe, ep, p.src, p.dst, p.proto, p.id⟩ (er p) (hs2.map Hp.ab) (h.pieces.map er) h.began s' r → Took (keyOf pe ep (er p)) now1 (er p) (hs.map Hp.ab) s' r) := by
                  intro s' r hput
                  unfold Took
                  rw [if_neg (by rw [right_er, hr]; simp), if_neg (show ¬ ((er p).more = false ∧ (er p).off = 0) from hd), if_neg (show ¬ badPiece (er p) = true from hbad), HAB.out]
                  exact ⟨_, _, _, HROOM.out, hput⟩
                have H1 := Lib.hid (HT10.out.box.heaps h HMEM.out)
                have hsml : Small p := ⟨(right_offs hr).1, by have := (right_offs hr).2; omega, hpay⟩
                have hsmx : ∀ x ∈ h.pieces, Small x := fun x hx => by
                  have h1 := H1.out.small x hx
                  have h2 := right_offs h1.1
                  exact ⟨h2.1, by omega, by omega⟩
                have hlen64 := H1.out.len
                have hps : PkSlice wc h.pv h.pieces := PkSlice.of_owns H1.out.row
                have HC29 := Lib.hid (contains_any 30 (w.heap.size + 1) enters30 (samePiece p) h.pieces h.pv wc hps (by omega) (fun x hx y => take1_any p x _ _ (by
                  rw [heap_gr _ _ (Array.getElem?_eq_some_iff.1 HT10.out.b7).1]; exact HT10.out.b7)))
                have HSML := Lib.hid hsml
                have HSMX := Lib.hid hsmx
                have hbk : h.blk < wc.heap.size := (Array.getElem?_eq_some_iff.1 H1.out.at_).1
                have v2 : wc.cell? ⟨h.blk, 2, none⟩ = some h.pv := cell_of_row wc h.blk 2 _ 74 (0, 0) H1.out.at_
                clear hsml hsmx hps
                go_wp2_with (fail)
                refine HC29.out.mono ?_
                rintro e W11 ⟨rfl, hg11⟩
                have HT11 := Lib.hid (HT10.out.grown hg11)
                clear hg11 v2 hbk HT10 H1 HC29
                have H1 := Lib.hid (HT11.out.box.heaps h HMEM.out)
                by_cases hany : h.pieces.any (samePiece p) = true
                · --D{
                  simp only [hany]
                  have HANY := Lib.hid hany
                  clear hany H1
                  have q1 : rowOf W11 (w.heap.size + 1 + 1) = pkc zpk := rowOf_heap HT11.out.b8
                  have q2 : freeAt W11 (w.heap.size + 1 + 1) = true := freeAt_heap HT11.out.b8
                  have q3 : w.heap.size + 1 + 1 < W11.heap.size := HT11.out.size
                  go_wp2
                  have hput : Put ⟨pe, ep, p.src, p.dst, p.proto, p.id⟩ (er p) (hs2.map Hp.ab) (h.pieces.map er) h.began (hs2.map Hp.ab) none := by
                    unfold Put
                    rw [if_pos (by rw [put_same]; exact HANY.out)]
                    exact ⟨rfl, rfl⟩
                  have hend := HT11.out.toTk.none_end hBw HC1.out HC2.out (HTOOK.out _ _ hput)
                  have hst12 := (HT11.out.toTk.stored zpk hBw).2.2
                  refine bodyPost_ret (run_results_cell_tmp 46 Try.results12 _ _ (w.heap.size + 1 + 1) (pkc zpk) rfl isAgg27 size27 (by omega) (by rw [sz_pkc]; trivial) hst12) rfl hend
                  --D}
                · have hany' : h.pieces.any (samePiece p) = false := by simpa using hany
                  simp only [hany']
                  have HANY := Lib.hid hany'
                  clear hany hany'
                  have r7 : rowOf W11 (w.heap.size + 1) = pkc p := rowOf_heap HT11.out.b7
                  have z7 : w.heap.size + 1 < W11.heap.size := by have := HT11.out.size; omega
                  have HF := Lib.hid (fits_any h.blk h.began h.order h.pv h.pieces p W11 H1.out.at_ (PkSlice.of_owns H1.out.row) (by omega) HSML.out HSMX.out)
                  go_wp2_with (fail)
                  refine HF.out.mono ?_
                  rintro e W12 ⟨rfl, hg12⟩
                  have HT12 := Lib.hid (HT11.out.grown hg12)
                  clear hg12 r7 z7 HT11 H1 HF
                  have H1 := Lib.hid (HT12.out.box.heaps h HMEM.out)
                  by_cases hfit : fitsN p h.pieces = true
                  · simp only [show (decide (h.pieces.length < 64) && !(h.pieces.any (clash p))) = true from hfit]
                    have HFIT := Lib.hid hfit
                    clear hfit
                    have f43 : W12.cell? ⟨w.heap.size + 1, 43, none⟩ = some (.slice p.xa p.xl p.xc) := (box_cell HT12.out.b7 43).trans (pkc_43 p)
                    have HCL19 := Lib.hid (clone_any p W12 (HX.out.fr hst HT12.out.fr) (right_xl4 hr))
                    clear H1
                    go_wp2_with (fail)
                    refine HCL19.out.mono ?_
                    rintro e W13 ⟨xa', xc', rfl, hE, hC, hg13⟩
                    have HT13 := Lib.hid (HT12.out.grown hg13)
                    have HE13 := Lib.hid hE
                    have HC13 := Lib.hid hC
                    have hz12 := HT12.out.size
                    have f43' : W13.cell? ⟨w.heap.size + 1, 43, none⟩ = some (.slice p.xa p.xl p.xc) := (box_cell HT13.out.b7 43).trans (pkc_43 p)
                    have g43 : W13.frozen? ⟨w.heap.size + 1, 43, none⟩ = false := by simp [World.frozen?, HT13.out.b7]
                    have hz13 : w.heap.size + 1 < W13.heap.size := by have := HT13.out.size; omega
                    clear hE hC hg13 f43 HT12 HCL19
                    go_upto_region 26 with (fail)
                    have HT14 : Hid (Tk2 S B w bb pe ep { p with xa := xa', xc := xc' } kb now1 count2 hs2 (W13.setCell ⟨w.heap.size + 1, 43, none⟩ (.slice xa' p.xl xc'))) := HT13.out.cloned hBw xa' xc'
                    have HEC : Hid (ExtsAt (W13.setCell ⟨w.heap.size + 1, 43, none⟩ (.slice xa' p.xl xc')) { p with xa := xa', xc := xc' } ∧ Cloned w.heap.size (W13.setCell ⟨w.heap.size + 1, 43, none⟩ (.slice xa' p.xl xc')) { p with xa := xa', xc := xc' }) := by
                      rcases HC13.out with r | ⟨r, c, hc⟩
                      · exact ⟨HE13.out.moved (by simp) (.inl r), .inl r⟩
                      · have hne : xg { p with xa := xa', xc := xc' } ≠ w.heap.size + 1 := fun e => by
                          rw [e, HT13.out.b7] at hc; simp at hc
                        have e1 : (W13.setCell ⟨w.heap.size + 1, 43, none⟩ (.slice xa' p.xl xc')).heap[xg { p with xa := xa', xc := xc' }]? = W13.heap[xg { p with xa := xa', xc := xc' }]? := Below.heap_setCell _ _ _ _ hne
                        exact ⟨HE13.out.moved (by simp) (.inr e1), .inr ⟨Nat.le_trans (by omega) r, c, e1.trans hc⟩⟩
                    clear f43' g43 hz13 HT13 HE13 HC13 hz12
                    generalize W13.setCell ⟨w.heap.size + 1, 43, none⟩ (.slice xa' p.xl xc') = W14 at HT14 HEC ⊢
                    have H1 := Lib.hid (HT14.out.box.heaps h HMEM.out)
                    go_cut [] from 142 to 151 (fun wx => ∃ v', At27 B W14 h { p with xa := xa', xc := xc' } v' wx)
                    case first =>
                      obtain ⟨i0, hi, hz0, hz1, hz2⟩ := info_parts info27
                      have v2 : W14.cell? ⟨h.blk, 2, none⟩ = some h.pv := cell_of_row W14 h.blk 2 _ 74 (0, 0) H1.out.at_
                      have hbk : h.blk < W14.heap.size := (Array.getElem?_eq_some_iff.1 H1.out.at_).1
                      have r7 : rowOf W14 (w.heap.size + 1) = pkc { p with xa := xa', xc := xc' } := rowOf_heap HT14.out.b7
                      have z7 : w.heap.size + 1 < W14.heap.size := by have := HT14.out.size; omega
                      have HBW : Hid (B ≤ W14.heap.size) := by have : B ≤ W14.heap.size := by omega
                                                               exact this
                      have HNE : Hid (some h.blk ≠ h.pv.ownBlock) := fun e => by
                        obtain ⟨_, cur, hc⟩ := own27 H1.out.row e.symm
                        have := H1.out.at_
                        rw [this] at hc; simp at hc
                      have HI := Lib.hid hi
                      have HZ := Lib.hid hz0
                      clear hi hz0
                      go_region_law (refine step_append_own rfl (.tmp 146) (.tmp 148) 32 rfl B 27 i0 _ 46 160 Try.underlying32 HI.out HZ.out hz1 hz2 rfl (by omega) h.pv h.pieces.length (h.pieces.flatMap pkl) rfl (World.ownsRow.alloc (w := W14.drew) H1.out.row _) ⟨W14.drew.heap.size, 0, none⟩ 1 1 (pkl { p with xa := xa', xc := xc' }) rfl (by rw [pkl_len]) (cell_pk_new _ _) (pkl_ones _) (by unfold maxLen; omega) (by omega) (by have := HBW.out; simp; omega) ?_; intro v' w' hown' hgrow hat'; obtain ⟨ao, n', cap', rfl⟩ : ∃ ao n' cap', v' = .slice ao n' cap' := (by rcases hown'.2 with ⟨hv, _⟩ | ⟨g, cap, cur, hv, _⟩ <;> exact ⟨_, _, _, hv⟩); have e1 : w'.heap[h.blk]? = some (.cells #[.int .i64 h.began, .int .i64 h.order, h.pv] 74) := (hgrow.block h.blk (by simp; omega) HNE.out).trans ((heap_alloc_old W14.drew _ hbk).trans H1.out.at_); have s1 := cell_of_row w' h.blk 2 _ 74 (0, 0) e1; have s2 : w'.frozen? ⟨h.blk, 2, none⟩ = false := (by simp [World.frozen?, e1]); have HOWN := Lib.hid hown'; have HGROW := Lib.hid hgrow; have HAT := Lib.hid hat'; clear e1 hown' hgrow hat')
                      all_goals
                        go_wp2
                        go_meet
                        exact ⟨_, At27.of H1.out ((Gr.refl W14).drew.alloc _) HOWN.out HGROW.out HAT.out⟩
                    case rest =>
                      obtain ⟨v', h27⟩ := hcut
                      have H27 := Lib.hid h27
                      have hfitl : h.pieces.length < 64 := by
                        have := HFIT.out
                        simp only [fitsN, Bool.and_eq_true, decide_eq_true_eq] at this
                        exact this.1
                      have hre : p.off + p.pay.size ≤ 65535 := by
                        have := hbad'
                        unfold badPiece reachN at this
                        rw [Bool.or_eq_false_iff] at this
                        have := of_decide_eq_false this.2
                        omega
                      have hW := Lib.hid (whole_any h27.at_ h27.row (by simp) (by simp; omega) (fun x hx => by
                        have hx' : ExtsAt W14 x ∧ Cloned B W14 x := by
                          rcases List.mem_append.1 hx with h1 | h1
                          · exact H1.out.exts x h1
                          · rw [List.mem_singleton.1 h1]
                            refine ⟨HEC.out.1, ?_⟩
                            rcases HEC.out.2 with r | ⟨r, c, hc⟩
                            · exact .inl r
                            · exact .inr ⟨by omega, c, hc⟩
                        rcases hx'.2 with r | ⟨r, c, hc⟩
                        · exact ⟨hx'.1.moved h27.size (.inl r), .inl r⟩
                        · have e1 := h27.keep _ _ hc (by rintro e; rw [e, H1.out.at_] at hc; simp at hc) (fun e => by
                            obtain ⟨_, cur, hc2⟩ := own27 H1.out.row e
                            rw [hc2] at hc; simp at hc)
                          exact ⟨hx'.1.moved h27.size (.inr (e1.trans hc.symm)), .inr ⟨r, c, e1⟩⟩) (fun x hx => by
                        rcases List.mem_append.1 hx with h1 | h1
                        · exact H1.out.small x h1
                        · rw [List.mem_singleton.1 h1]; exact ⟨hr, hre⟩))
                      have HRE := Lib.hid hre
                      have HFL := Lib.hid hfitl
                      clear h27 hre hfitl
                      go_wp2_with (fail)
                      refine hW.out.mono ?_
                      rintro e w17 ⟨l', hS, hrow17, hgr17, hres⟩
                      have HT17 : Hid (Tk2 S B w bb pe ep { p with xa := xa', xc := xc' } kb now1 count2 (swapH h (turnedH h v' l') hs2) w17) := HT14.out.turned hBw HMEM.out H27.out hS hrow17 hgr17 HEC.out hr HRE.out HFL.out
                      have hlne : l' ≠ [] := fun e => by
                        have := hS.perm.length_eq
                        rw [e] at this; simp at this
                      have HPUT : Hid (∀ s' r, (if wholeOk (l'.map er) = true then s' = dropK ⟨pe, ep, p.src, p.dst, p.proto, p.id⟩ (hs2.map Hp.ab) ∧ r = (if bldCode (wholeP (l'.map er)) = 0 then some (wholeP (l'.map er)) else none) else s' = putK ⟨pe, ep, p.src, p.dst, p.proto, p.id⟩ h.began (l'.map er) (hs2.map Hp.ab) ∧ r = none) →
                          Put ⟨pe, ep, p.src, p.dst, p.proto, p.id⟩ (er p) (hs2.map Hp.ab) (h.pieces.map er) h.began s' r) := by
                        intro s' r hh
                        unfold Put
                        rw [if_neg (by rw [put_same, HANY.out]; simp), if_neg (by rw [put_fits, HFIT.out]; simp)]
                        refine ⟨l'.map er, ?_, ?_, hh⟩
                        · have := hS.perm.map er
                          have h2 : (h.pieces ++ [{ p with xa := xa', xc := xc' }]).map er = h.pieces.map er ++ [er p] := by rw [List.map_append]; rfl
                          rw [h2] at this
                          exact this
                        · rw [List.pairwise_map]; exact hS.ord
                      have HWC : Hid (w.heap.size ≤ wc.heap.size) := by
                        have h1 : W14.heap.size ≤ wc.heap.size := H27.out.size
                        have h2 : w.heap.size + 1 + 1 < W14.heap.size := HT14.out.size
                        have h3 : w.heap.size ≤ wc.heap.size := by omega
                        exact h3
                      have HRQ : Hid (right (wholeP l') = true ∧ (wholeP l').pay.size ≤ 140737488351232) := by
                        have hrl : ∀ x ∈ l', right x = true ∧ x.pay.size ≤ 65535 := fun x hx => by
                          rcases List.mem_append.1 (hS.perm.mem_iff.1 hx) with h1 | h1
                          · have h2 := H1.out.small x h1
                            have h3 := right_offs h2.1
                            exact ⟨h2.1, by omega⟩
                          · rw [List.mem_singleton.1 h1]
                            refine ⟨hr, ?_⟩
                            have h2 := right_offs hr
                            have h3 := HRE.out
                            show p.pay.size ≤ 65535
                            omega
                        have hll := hS.perm.length_eq
                        have hb := heldL_bound l' (fun x hx => (hrl x hx).2)
                        have hjs : (joined l').size = heldL l' := joined_size l'
                        have hl64 : l'.length ≤ 64 := by
                          rw [hll, List.length_append]
                          have := HFL.out
                          show h.pieces.length + 1 ≤ 64
                          omega
                        have hb2 := Nat.mul_le_mul_right 65535 hl64
                        cases l' with
                        | nil => exact absurd rfl hlne
                        | cons a r =>
                          refine ⟨right_bare (p := { a with pay := joined (a :: r) }) (hrl a (by simp)).1, ?_⟩
                          show (joined (a :: r)).size ≤ _
                          rw [hjs]
                          omega
                      have hwe := wholeP_er hlne
                      have hwo := whole_er l'
                      have HPERM := Lib.hid hS.perm
                      have HWE := Lib.hid hwe
                      have HWO := Lib.hid hwo
                      have hz17 := HT17.out.size
                      clear hS hrow17 hgr17 hW H27 HT14 H1 hwe hwo hlne
                      rcases hres with ⟨hno, rfl⟩ | ⟨hyes, q, rfl, hqe, hqE, hqC⟩
                      · --D{
                        have HNO := Lib.hid hno
                        clear hno
                        go_upto_region 28 with (fail)
                        have HT18 : Hid (Tk2 S B w bb pe ep { p with xa := xa', xc := xc' } kb now1 count2 (swapH h (turnedH h v' l') hs2) (w17.alloc (.cells (pkc zpk) 27))) := HT17.out.grown ((Gr.refl _).alloc _)
                        generalize w17.alloc (.cells (pkc zpk) 27) = W18 at HT18 ⊢
                        have q1 : rowOf W18 (w.heap.size + 1 + 1) = pkc zpk := rowOf_heap HT18.out.b8
                        have q2 : freeAt W18 (w.heap.size + 1 + 1) = true := freeAt_heap HT18.out.b8
                        have q3 : w.heap.size + 1 + 1 < W18.heap.size := HT18.out.size
                        go_wp2
                        have hput := HPUT.out ((swapH h (turnedH h v' l') hs2).map Hp.ab) none (by
                          rw [HWO.out, HNO.out, if_neg (by simp)]
                          exact ⟨swap_ab HKEY.out, rfl⟩)
                        have hend := HT18.out.toTk.none_end hBw HC1.out HC2.out (HTOOK.out _ _ hput)
                        have hst12 := (HT18.out.toTk.stored zpk hBw).2.2
                        refine bodyPost_ret (run_results_cell_tmp 46 Try.results12 _ _ (w.heap.size + 1 + 1) (pkc zpk) rfl isAgg27 size27 (by omega) (by rw [sz_pkc]; trivial) hst12) rfl hend
                        --D}
                      · have HYES := Lib.hid hyes
                        have HQE := Lib.hid hqe
                        clear hyes hqe
                        go_upto_region 30 with (fail)
                        have HT18 : Hid (Tk2 S B w bb pe ep { p with xa := xa', xc := xc' } kb now1 count2 (swapH h (turnedH h v' l') hs2) (w17.alloc (.cells (pkc q) 27))) := HT17.out.grown ((Gr.refl _).alloc _)
                        have hb12 : (w17.alloc (.cells (pkc q) 27)).heap[w17.heap.size]? = some (.cells (pkc q) 27) := heap_alloc_new _ _
                        have hqE8 : ExtsAt (w17.alloc (.cells (pkc q) 27)) q := gr_less hqE ((Gr.refl _).alloc _)
                        have hwc : w.heap.size ≤ wc.heap.size := HWC.out
                        have hqC8 : Cloned w.heap.size (w17.alloc (.cells (pkc q) 27)) q := by
                          rcases hqC with r | ⟨r, c, hc⟩
                          · exact .inl r
                          · exact .inr ⟨Nat.le_trans hwc r, c, (heap_alloc_old _ _ (Array.getElem?_eq_some_iff.1 hc).1).trans hc⟩
                        clear hqE hqC hz17
                        generalize w17.alloc (.cells (pkc q) 27) = W18 at HT18 hb12 hqE8 hqC8 ⊢
                        generalize w17.heap.size = b12 at hb12 ⊢
                        have HB12 := Lib.hid hb12
                        have HQE8 := Lib.hid hqE8
                        have HQC8 := Lib.hid hqC8
                        clear hb12 hqE8 hqC8 HT17
                        have hm2 : turnedH h v' l' ∈ swapH h (turnedH h v' l') hs2 := List.mem_map.2 ⟨h, HMEM.out, if_pos rfl⟩
                        rcases HT18.out.box.mp with ⟨e1, e2⟩ | ⟨mb, clock, hmB, hm1, hmm, hcl⟩
                        · rw [e1] at hm2; simp at hm2
                        have HM2 := Lib.hid hm2
                        have c2 : W18.cell? ⟨bb, 2, none⟩ = some (.map (some mb)) := cell_of_row W18 bb 2 _ 63 (0, 0) hm1
                        have zb : bb < W18.heap.size := (Array.getElem?_eq_some_iff.1 hm1).1
                        have rk : rowOf W18 kb = keyc ⟨pe, ep, p.src, p.dst, p.proto, p.id⟩ := rowOf_heap HT18.out.b10
                        have zk : kb < W18.heap.size := (Array.getElem?_eq_some_iff.1 HT18.out.b10).1
                        have HM1 := Lib.hid hm1
                        have HMM := Lib.hid hmm
                        have HCL := Lib.hid hcl
                        clear hm1 hmm hcl hm2
                        refine wp_region_gr_tail 5 (by kernel_rfl) (by kernel_rfl) ?_
                        simp only [List.take, List.drop]
                        repeat (go_big_quiet_step (fail))
                        refine wpQuiet_nil ?_
                        rintro _ ⟨y, rfl⟩
                        have hmg := (heap_gr W18 y (Array.getElem?_eq_some_iff.1 HMM.out).1).trans HMM.out
                        have hdel : ∀ ty, (Builtin.delete_ #[61, 70] ty #[.map (some mb), .agg (keyc ⟨pe, ep, p.src, p.dst, p.proto, p.id⟩)]).run Try.prog (gr W18 y) = .ok (.tuple #[]) (setBlock (gr W18 y) mb (.map (ents ((notK ⟨pe, ep, p.src, p.dst, p.proto, p.id⟩ (swapH h (turnedH h v' l') hs2)).map Hp.ent)) clock)) := fun ty => by
                          rw [← HKEY.out]
                          exact run_delete_hp (turnedH h v' l') (swapH h (turnedH h v' l') hs2) HM2.out HT18.out.box.keys (gr W18 y) mb clock ty hmg
                        have HT19 : Hid (Tk2 S B w bb pe ep { p with xa := xa', xc := xc' } kb now1 count2 (notK ⟨pe, ep, p.src, p.dst, p.proto, p.id⟩ (swapH h (turnedH h v' l') hs2)) (setBlock (gr W18 y) mb (.map (ents ((notK ⟨pe, ep, p.src, p.dst, p.proto, p.id⟩ (swapH h (turnedH h v' l') hs2)).map Hp.ent)) clock))) :=
                          (HT18.out.grown ⟨y, rfl⟩).fewer ((heap_gr W18 y zb).trans HM1.out) hmg hmB HCL.out List.filter_sublist
                        have hkeep : ∀ k c t fr, W18.heap[k]? = some (Obj.cells c t fr) → (setBlock (gr W18 y) mb (.map (ents ((notK ⟨pe, ep, p.src, p.dst, p.proto, p.id⟩ (swapH h (turnedH h v' l') hs2)).map Hp.ent)) clock)).heap[k]? = some (Obj.cells c t fr) := fun k c t fr hk => by
                          rw [setBlock_other (by rintro rfl; rw [HMM.out] at hk; cases hk), heap_gr _ _ (Array.getElem?_eq_some_iff.1 hk).1]; exact hk
                        have hsz19 : W18.heap.size ≤ (setBlock (gr W18 y) mb (.map (ents ((notK ⟨pe, ep, p.src, p.dst, p.proto, p.id⟩ (swapH h (turnedH h v' l') hs2)).map Hp.ent)) clock)).heap.size := by rw [setBlock_size, size_gr]; omega
                        clear hmg
                        generalize setBlock (gr W18 y) mb (.map (ents ((notK ⟨pe, ep, p.src, p.dst, p.proto, p.id⟩ (swapH h (turnedH h v' l') hs2)).map Hp.ent)) clock) = W19 at hdel HT19 hkeep hsz19
                        have hC19 : Cloned w.heap.size W19 q := by
                          rcases HQC8.out with r | ⟨r, c, hc⟩
                          · exact .inl r
                          · exact .inr ⟨r, c, hkeep _ _ _ _ hc⟩
                        have hE19 : ExtsAt W19 q := by
                          refine HQE8.out.moved hsz19 ?_
                          rcases HQC8.out with r | ⟨r, c, hc⟩
                          · exact .inl r
                          · exact .inr ((hkeep _ _ _ _ hc).trans hc.symm)
                        have hb19 := hkeep _ _ _ _ HB12.out
                        have HC19 := Lib.hid hC19
                        have HE19 := Lib.hid hE19
                        have HB19 := Lib.hid hb19
                        have HDEL := Lib.hid hdel
                        have hrq : right q = true ∧ q.pay.size ≤ 140737488351232 := by
                          have e1 : right q = right (wholeP l') := by rw [← right_er q, HQE.out, right_er]
                          have e2 : q.pay = (wholeP l').pay := by
                            have := congrArg Pk.pay HQE.out
                            exact this
                          rw [e1, e2]
                          exact HRQ.out
                        have HBLD := Lib.hid (build_any q W19 hrq.1 hE19 hrq.2)
                        have r12 : rowOf W19 b12 = pkc q := rowOf_heap hb19
                        have z12 : b12 < W19.heap.size := (Array.getElem?_eq_some_iff.1 hb19).1
                        clear hC19 hE19 hb19 hkeep hsz19 hrq c2 zb rk zk HT18 HM1 HMM HM2 HB12 HQE8 HQC8
                        go_wp2_with (fail)
                        refine HBLD.out.mono ?_
                        rintro e W20 ⟨⟨s0, rfl⟩, hg20⟩
                        have HT20 := Lib.hid (HT19.out.grown hg20)
                        have HE20 : Hid (ExtsAt W20 q) := gr_less HE19.out hg20
                        have hb20 : W20.heap[b12]? = some (.cells (pkc q) 27) := (hg20.below.block _ z12).trans HB19.out
                        have HC20 : Hid (Cloned w.heap.size W20 q) := by
                          rcases HC19.out with r | ⟨r, c, hc⟩
                          · exact .inl r
                          · exact .inr ⟨r, c, (hg20.below.block _ (Array.getElem?_eq_some_iff.1 hc).1).trans hc⟩
                        have r20 : rowOf W20 b12 = pkc q := rowOf_heap hb20
                        have z20 : b12 < W20.heap.size := (Array.getElem?_eq_some_iff.1 hb20).1
                        have q1 : rowOf W20 (w.heap.size + 1 + 1) = pkc zpk := rowOf_heap HT20.out.b8
                        have q2 : freeAt W20 (w.heap.size + 1 + 1) = true := freeAt_heap HT20.out.b8
                        have q3 : w.heap.size + 1 + 1 < W20.heap.size := HT20.out.size
                        clear hg20 hb20 r12 z12 HT19 HE19 HC19 HB19 HDEL hdel HBLD
                        have hab20 : (notK ⟨pe, ep, p.src, p.dst, p.proto, p.id⟩ (swapH h (turnedH h v' l') hs2)).map Hp.ab = dropK ⟨pe, ep, p.src, p.dst, p.proto, p.id⟩ (hs2.map Hp.ab) := by
                          rw [notK_swap HKEY.out (show (turnedH h v' l').key = _ from HKEY.out), drop_ab]
                        have hbc : bldCode (wholeP (l'.map er)) = bldCode q := by rw [HWE.out, ← HQE.out, bld_er]
                        have HAB20 := Lib.hid hab20
                        have HBC := Lib.hid hbc
                        clear hab20 hbc
                        by_cases hcode : bldCode q = 0
                        · rw [hcode]
                          go_wp2
                          have hput := HPUT.out ((notK ⟨pe, ep, p.src, p.dst, p.proto, p.id⟩ (swapH h (turnedH h v' l') hs2)).map Hp.ab) (some (er q)) (by
                            rw [HWO.out, HYES.out, if_pos rfl, HBC.out, if_pos hcode, HWE.out, HQE.out]
                            exact ⟨HAB20.out, rfl⟩)
                          have hend := HT20.out.toTk.some_end hBw HC1.out HC2.out HE20.out HC20.out (HTOOK.out _ _ hput)
                          have hst12 := (HT20.out.toTk.stored q hBw).2.2
                          refine bodyPost_ret (run_results_cell_tmp 46 Try.results12 _ _ (w.heap.size + 1 + 1) (pkc q) rfl isAgg27 size27 (by omega) (by rw [sz_pkc]; trivial) hst12) rfl hend
                        · go_wp2
                          have hput := HPUT.out ((notK ⟨pe, ep, p.src, p.dst, p.proto, p.id⟩ (swapH h (turnedH h v' l') hs2)).map Hp.ab) none (by
                            rw [HWO.out, HYES.out, if_pos rfl, HBC.out, if_neg hcode]
                            exact ⟨HAB20.out, rfl⟩)
                          have hend := HT20.out.toTk.none_end hBw HC1.out HC2.out (HTOOK.out _ _ hput)
                          have hst12 := (HT20.out.toTk.stored zpk hBw).2.2
                          refine bodyPost_ret (run_results_cell_tmp 46 Try.results12 _ _ (w.heap.size + 1 + 1) (pkc zpk) rfl isAgg27 size27 (by omega) (by rw [sz_pkc]; trivial) hst12) rfl hend
                  · --D{
                    have hfit' : fitsN p h.pieces = false := by simpa using hfit
                    simp only [show (decide (h.pieces.length < 64) && !(h.pieces.any (clash p))) = false from hfit']
                    have HFIT := Lib.hid hfit'
                    clear hfit hfit'
                    rcases HT12.out.box.mp with ⟨e1, e2⟩ | ⟨mb, clock, hmB, hm1, hmm, hcl⟩
                    · have := HMEM.out; rw [e1] at this; simp at this
                    have c2 : W12.cell? ⟨bb, 2, none⟩ = some (.map (some mb)) := cell_of_row W12 bb 2 _ 63 (0, 0) hm1
                    have zb : bb < W12.heap.size := (Array.getElem?_eq_some_iff.1 hm1).1
                    have rk : rowOf W12 kb = keyc ⟨pe, ep, p.src, p.dst, p.proto, p.id⟩ := rowOf_heap HT12.out.b10
                    have zk : kb < W12.heap.size := (Array.getElem?_eq_some_iff.1 HT12.out.b10).1
                    have HM1 := Lib.hid hm1
                    have HMM := Lib.hid hmm
                    have HCL := Lib.hid hcl
                    clear hm1 hmm hcl
                    go_upto_region 23 with (fail)
                    refine wp_region_gr_tail 5 (by kernel_rfl) (by kernel_rfl) ?_
                    simp only [List.take, List.drop]
                    repeat (go_big_quiet_step (fail))
                    refine wpQuiet_nil ?_
                    rintro _ ⟨y, rfl⟩
                    have hmg := (heap_gr W12 y (Array.getElem?_eq_some_iff.1 HMM.out).1).trans HMM.out
                    have hdel : ∀ ty, (Builtin.delete_ #[61, 70] ty #[.map (some mb), .agg (keyc ⟨pe, ep, p.src, p.dst, p.proto, p.id⟩)]).run Try.prog (gr W12 y) = .ok (.tuple #[]) (setBlock (gr W12 y) mb (.map (ents ((notK ⟨pe, ep, p.src, p.dst, p.proto, p.id⟩ hs2).map Hp.ent)) clock)) := fun ty => by
                      rw [← HKEY.out]
                      exact run_delete_hp h hs2 HMEM.out HT12.out.box.keys (gr W12 y) mb clock ty hmg
                    have HT13 : Hid (Tk2 S B w bb pe ep p kb now1 count2 (notK ⟨pe, ep, p.src, p.dst, p.proto, p.id⟩ hs2) (setBlock (gr W12 y) mb (.map (ents ((notK ⟨pe, ep, p.src, p.dst, p.proto, p.id⟩ hs2).map Hp.ent)) clock))) :=
                      (HT12.out.grown ⟨y, rfl⟩).fewer ((heap_gr W12 y zb).trans HM1.out) hmg hmB HCL.out List.filter_sublist
                    clear hmg
                    generalize setBlock (gr W12 y) mb (.map (ents ((notK ⟨pe, ep, p.src, p.dst, p.proto, p.id⟩ hs2).map Hp.ent)) clock) = W13 at hdel HT13
                    have q1 : rowOf W13 (w.heap.size + 1 + 1) = pkc zpk := rowOf_heap HT13.out.b8
                    have q2 : freeAt W13 (w.heap.size + 1 + 1) = true := freeAt_heap HT13.out.b8
                    have q3 : w.heap.size + 1 + 1 < W13.heap.size := HT13.out.size
                    go_wp2
                    have hput : Put ⟨pe, ep, p.src, p.dst, p.proto, p.id⟩ (er p) (hs2.map Hp.ab) (h.pieces.map er) h.began ((notK ⟨pe, ep, p.src, p.dst, p.proto, p.id⟩ hs2).map Hp.ab) none := by
                      unfold Put
                      rw [if_neg (by rw [put_same, HANY.out]; simp), if_pos (by rw [put_fits]; exact HFIT.out), drop_ab]
                      exact ⟨rfl, rfl⟩
                    have hend := HT13.out.toTk.none_end hBw HC1.out HC2.out (HTOOK.out _ _ hput)
                    have hst12 := (HT13.out.toTk.stored zpk hBw).2.2
                    refine bodyPost_ret (run_results_cell_tmp 46 Try.results12 _ _ (w.heap.size + 1 + 1) (pkc zpk) rfl isAgg27 size27 (by omega) (by rw [sz_pkc]; trivial) hst12) rfl hend
                    --D}
theorem take_any {B : Nat} {w : World} {bb : Nat} {now count : Int} {hs : List Hp} (h : BoxAt B w bb now count hs) (t pe ep : Int) (p : Pk) (hx : ExtsAt w p) (hst : Aside B w p) (hopt : p.opts.size ≤ 140737488351232) (hpay : p.pay.size ≤ 140737488351232)
    (hcount : count ≤ 4611686018427387904) (hfew : hs.length < 1000) :
    Calls Try.prog 12 #[.pointer (some ⟨bb, 0, none⟩), .int .i64 t, .agg #[.int .i64 pe, .int .i64 ep], .agg (pkc p)] w fun e w' => TakeEnd B w bb (nowOf now t) count hs (keyOf pe ep (er p)) p e w' :=
  (take_spare (S := fun _ _ => False) h t pe ep p hx hst hopt hpay hcount hfew (fun _ _ h => h.elim)).mono fun _ _ ⟨hs', count', r, h1, h2, h3, h4, h5, h6, _⟩ => ⟨hs', count', r, h1, h2, h3, h4, h5, h6⟩
end Go.Proofs.Ytfdjpmglfjiamaa
