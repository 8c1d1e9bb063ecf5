/- What Take leaves behind in the law FragMixes. -/
import Derived.Test.YtfdjpmglfjiamaaMf
namespace Go.Proofs.Ytfdjpmglfjiamaa
open Go Go.Sort Go.RowKit
set_option linter.unusedSimpArgs false
set_option linter.unusedVariables false
set_option linter.constructorNameAsVariable false

/-- Behind a call whose answer was stored in the block b. -/
structure Fed (B : Nat) (W2 : World) (now cnt : Int) (p0 : Pk) (k1 k2 : Key) (y : Pk) (T T2 R : List Pk) (tb : Nat) (c48 : Array Value) (b : Nat) (q : Pk) (wx : World) : Prop where
  fr : Fr B W2 wx
  told : wx.heap[tb]? = some (.cells c48 48)
  blk : wx.heap[b]? = some (.cells (pkc q) 27)
  done : R = [] → er q = p0 ∧ ExtsAt wx q ∧ ∃ C, Cloned C wx q
  box : ∃ hs count, BoxAt B wx B now count hs ∧ count ≤ cnt ∧ Two k1 k2 (if R = [] then [] else T ++ [y]) T2 (hs.map Hp.ab)

theorem feed {L : List Pk} {p0 x : Pk} {B : Nat} {W2 wr : World} {now count : Int} {hs : List Hp} {T T2 R : List Pk} {k1 k2 : Key} (C : Cutting L p0) (hfr : Fr B W2 wr) (hbox : BoxAt B wr B now count hs) (hS : Two k1 k2 T T2 (hs.map Hp.ab)) (hne : k2 ≠ k1) (t pe ep : Int) (hk : k1 = keyOf pe ep (er x))
    (HX : ∀ W', Fr B W2 W' → ExtsAt W' x ∧ Aside B W' x) (hp : (T ++ er x :: R).Perm L) (hn : nowOf now t < 30000) (hc : count ≤ 4611686018427387904) {b : Nat} (hb : wr.heap.size ≤ b) {tb : Nat} {c48 : Array Value} (ht : wr.heap[tb]? = some (.cells c48 48)) :
    ∀ W, Gr wr W → W.heap[b]? = some (.cells (pkc zpk) 27) → Calls Try.prog 12 #[.pointer (some ⟨B, 0, none⟩), .int .i64 t, .agg #[.int .i64 pe, .int .i64 ep], .agg (pkc x)] W fun e w' =>
      ∃ q, e = .returned (.tuple #[.agg (pkc q), .bool R.isEmpty]) ∧ w'.heap[b]? = some (.cells (pkc zpk) 27) ∧ Fed B W2 (nowOf now t) (count + 1) p0 k1 k2 (er x) T T2 R tb c48 b q (w'.setRow b (pkc q)) := by
  intro W hg hbW
  have hB : B ≤ wr.heap.size := by
    obtain ⟨m, hm⟩ := hbox.bb63
    exact Nat.le_of_lt (Array.getElem?_eq_some_iff.1 hm).1
  have hfW : Fr B W2 W := hfr.trans (Fr.of_gr hg hB)
  obtain ⟨xe, xa⟩ := HX W hfW
  refine (mix_take (S := fun k c => k = b ∧ c = pkc zpk) C (hbox.grown hg) hS hne t pe ep hk xe xa hp hn hc (fun k c h => ⟨by rw [h.1, h.2]; exact hbW, spare_new hbox k (by rw [h.1]; exact hb)⟩)).mono ?_
  rintro e w' ⟨q, rfl, hN⟩
  obtain ⟨hs', count', h1, h2, h3, h4⟩ := hN.box
  obtain ⟨hb3, hb4⟩ := h4 b _ ⟨rfl, rfl⟩
  have hsz : (w'.setRow b (pkc q)).heap.size = w'.heap.size := by simp [World.setRow]
  have f1 : Fr B wr w' := (Fr.of_gr hg hB).trans hN.fr
  have f2 : Fr B w' (w'.setRow b (pkc q)) := Fr.one rfl rfl rfl (Nat.le_of_eq hsz.symm) (x := b) (by omega) (fun k _ hk => setRow_heap_other hk) (fun a t fr e => by rw [hb3] at e; cases e; simp) (by have := f1.below.size; omega)
  have f3 := f1.trans f2
  refine ⟨q, rfl, hb3, hfr.trans f3, f3.calm _ _ _ _ ht (by decide), setRow_heap_at hb3, fun hR => ?_, hs', count', h1.but hb3 hb4 (Nat.le_of_eq hsz.symm) (fun k _ hk => setRow_heap_other hk), h2, h3⟩
  obtain ⟨e1, e2, e3⟩ := hN.done hR
  rcases e3 with r | ⟨h5, c, hc⟩
  · exact ⟨e1, e2.moved (Nat.le_of_eq hsz.symm) (.inl r), 0, .inl r⟩
  · have hx : (w'.setRow b (pkc q)).heap[xg q]? = w'.heap[xg q]? := setRow_heap_other (by rintro e; rw [e, hb3] at hc; simp at hc)
    exact ⟨e1, e2.moved (Nat.le_of_eq hsz.symm) (.inr hx), _, .inr ⟨h5, c, hx.trans hc⟩⟩
theorem Fed.le {B : Nat} {W2 : World} {now c1 c2 : Int} {p0 : Pk} {k1 k2 : Key} {y : Pk} {T T2 R : List Pk} {tb : Nat} {c48 : Array Value} {b : Nat} {q : Pk} {wx : World} (h : Fed B W2 now c1 p0 k1 k2 y T T2 R tb c48 b q wx) (hc : c1 ≤ c2) : Fed B W2 now c2 p0 k1 k2 y T T2 R tb c48 b q wx := by
  obtain ⟨hs, count, h1, h2, h3⟩ := h.box
  exact ⟨h.fr, h.told, h.blk, h.done, hs, count, h1, by omega, h3⟩
/-- The answer, once the count of what was told has turned. -/
theorem Fed.still {B : Nat} {W2 : World} {now c1 : Int} {p0 : Pk} {k1 k2 : Key} {y : Pk} {T T2 R : List Pk} {tb : Nat} {c48 : Array Value} {b : Nat} {q : Pk} {wx : World} (h : Fed B W2 now c1 p0 k1 k2 y T T2 R tb c48 b q wx) (hR : R = []) (j : Nat) (v : Value) :
    er q = p0 ∧ ExtsAt (wx.setCell ⟨tb, j, none⟩ v) q ∧ rowOf (wx.setCell ⟨tb, j, none⟩ v) b = pkc q ∧ b < (wx.setCell ⟨tb, j, none⟩ v).heap.size := by
  obtain ⟨e1, e2, C, e3⟩ := h.done hR
  have hbt : b ≠ tb := by rintro rfl; have h1 := h.blk; rw [h.told] at h1; simp at h1
  refine ⟨e1, ?_, rowOf_heap ((Below.heap_setCell _ _ _ _ hbt).trans h.blk), by rw [World.size_setCell]; exact (Array.getElem?_eq_some_iff.1 h.blk).1⟩
  rcases e3 with r | ⟨_, c, hc⟩
  · exact e2.moved (by simp) (.inl r)
  · exact e2.moved (by simp) (.inr (Below.heap_setCell _ _ _ _ (by rintro e; rw [e, h.told] at hc; simp at hc)))

/-- Was it told? -/
def tl (i n : Nat) : Int := if i = n then 1 else 0
/-- At the loop's head: i of the first packet's pieces were fed, from the back; k of the second's. -/
structure Mx (LA LB : List Pk) (k1 k2 : Key) (B : Nat) (W2 : World) (tb : Nat) (i k n cb : Nat) (wr : World) : Prop where
  fr : Fr B W2 wr
  told : wr.heap[tb]? = some (.cells #[.int .i64 (tl i LA.length), .int .i64 (tl k LB.length)] 48)
  hB : W2.heap.size = B
  lo : B ≤ tb
  le1 : i ≤ LA.length
  le2 : k ≤ LB.length
  num : n = i + k
  st : ∃ hs now count TA TB, BoxAt B wr B now count hs ∧ now ≤ n ∧ count ≤ cb ∧ Two k1 k2 (if i = LA.length then [] else TA) (if k = LB.length then [] else TB) (hs.map Hp.ab) ∧ (TA ++ LA.take (LA.length - i)).Perm LA ∧ (TB ++ LB.drop k).Perm LB
theorem Mx.grown {LA LB : List Pk} {k1 k2 : Key} {B : Nat} {W2 : World} {tb i k n cb : Nat} {wr w' : World} (h : Mx LA LB k1 k2 B W2 tb i k n cb wr) (hg : Gr wr w') : Mx LA LB k1 k2 B W2 tb i k n cb w' := by
  obtain ⟨hs, now, count, TA, TB, h1, h2⟩ := h.st
  have hB : B ≤ wr.heap.size := by
    obtain ⟨m, hm⟩ := h1.bb63
    exact Nat.le_of_lt (Array.getElem?_eq_some_iff.1 hm).1
  exact ⟨h.fr.trans (Fr.of_gr hg hB), (hg.below.block _ (Array.getElem?_eq_some_iff.1 h.told).1).trans h.told, h.hB, h.lo, h.le1, h.le2, h.num, hs, now, count, TA, TB, h1.grown hg, h2⟩

theorem Fr.told {B : Nat} {W2 w : World} (h : Fr B W2 w) (hB : W2.heap.size = B) {tb : Nat} (hlo : B ≤ tb) (j : Nat) (v : Value) : Fr B W2 (w.setCell ⟨tb, j, none⟩ v) := by
  refine ⟨h.below.setCell hlo v, fun k a t fr hk ht => ?_⟩
  have hkl := (Array.getElem?_eq_some_iff.1 hk).1
  rw [Below.heap_setCell _ _ _ _ (show k ≠ tb by omega)]
  exact h.calm k a t fr hk ht

section
variable {LA LB : List Pk} {pa pb : Pk} {k1 k2 : Key} {B : Nat} {W2 : World} {tb i k n cb : Nat}
/-- A piece of the first was fed, and it is not all there. -/
theorem Mx.nextA {now : Int} {y : Pk} {TA TB R : List Pk} {b : Nat} {q : Pk} {wx : World} (hF : Fed B W2 now ((cb : Int) + 1) pa k1 k2 y TA (if k = LB.length then [] else TB) R tb #[.int .i64 (tl i LA.length), .int .i64 (tl k LB.length)] b q wx)
    (hB : W2.heap.size = B) (hlo : B ≤ tb) (h1 : i + 1 < LA.length) (h2 : k ≤ LB.length) (hnum : n = i + k) (hnow : now ≤ n) (hR : R ≠ []) (pA : ((TA ++ [y]) ++ LA.take (LA.length - (i + 1))).Perm LA) (pB : (TB ++ LB.drop k).Perm LB) : Mx LA LB k1 k2 B W2 tb (i + 1) k (n + 1) (cb + 1) wx := by
  obtain ⟨hs, count, g1, g2, g3⟩ := hF.box
  rw [if_neg hR] at g3
  refine ⟨hF.fr, ?_, hB, hlo, by omega, h2, by omega, hs, now, count, TA ++ [y], TB, g1, by omega, by omega, ?_, pA, pB⟩
  · have e1 : tl (i + 1) LA.length = tl i LA.length := by unfold tl; rw [if_neg (by omega), if_neg (by omega)]
    rw [e1]; exact hF.told
  · rw [if_neg (show ¬ i + 1 = LA.length by omega)]; exact g3
/-- .. it was the last. -/
theorem Mx.lastA {now : Int} {y : Pk} {TA TB R : List Pk} {b : Nat} {q : Pk} {wx w' : World} (hF : Fed B W2 now ((cb : Int) + 1) pa k1 k2 y TA (if k = LB.length then [] else TB) R tb #[.int .i64 (tl i LA.length), .int .i64 (tl k LB.length)] b q wx)
    (hB : W2.heap.size = B) (hlo : B ≤ tb) (h1 : i + 1 = LA.length) (h2 : k ≤ LB.length) (hnum : n = i + k) (hnow : now ≤ n) (hR : R = []) (pA : ((TA ++ [y]) ++ LA.take (LA.length - (i + 1))).Perm LA) (pB : (TB ++ LB.drop k).Perm LB)
    (hg : Gr (wx.setCell ⟨tb, 0, none⟩ (.int .i64 1)) w') : Mx LA LB k1 k2 B W2 tb (i + 1) k (n + 1) (cb + 1) w' := by
  obtain ⟨hs, count, g1, g2, g3⟩ := hF.box
  rw [if_pos hR] at g3
  refine Mx.grown (wr := wx.setCell ⟨tb, 0, none⟩ (.int .i64 1)) ⟨hF.fr.told hB hlo 0 _, ?_, hB, hlo, by omega, h2, by omega, hs, now, count, TA ++ [y], TB, g1.else_ hF.told (by decide) (by decide) (by decide) (by decide) (by simp) (fun j _ hj => Below.heap_setCell _ _ _ _ hj), by omega, by omega, ?_, pA, pB⟩ hg
  · rw [heap_setCell_same _ _ _ _ _ _ hF.told]
    have e1 : tl (i + 1) LA.length = 1 := by unfold tl; rw [if_pos h1]
    rw [e1]; rfl
  · rw [if_pos h1]; exact g3
theorem Mx.nextB {now : Int} {y : Pk} {TA TB R : List Pk} {b : Nat} {q : Pk} {wx : World} (hF : Fed B W2 now ((cb : Int) + 1) pb k2 k1 y TB (if i = LA.length then [] else TA) R tb #[.int .i64 (tl i LA.length), .int .i64 (tl k LB.length)] b q wx)
    (hB : W2.heap.size = B) (hlo : B ≤ tb) (h1 : k + 1 < LB.length) (h2 : i ≤ LA.length) (hnum : n = i + k) (hnow : now ≤ n) (hR : R ≠ []) (pB : ((TB ++ [y]) ++ LB.drop (k + 1)).Perm LB) (pA : (TA ++ LA.take (LA.length - i)).Perm LA) : Mx LA LB k1 k2 B W2 tb i (k + 1) (n + 1) (cb + 1) wx := by
  obtain ⟨hs, count, g1, g2, g3⟩ := hF.box
  rw [if_neg hR] at g3
  refine ⟨hF.fr, ?_, hB, hlo, h2, by omega, by omega, hs, now, count, TA, TB ++ [y], g1, by omega, by omega, ?_, pA, pB⟩
  · have e1 : tl (k + 1) LB.length = tl k LB.length := by unfold tl; rw [if_neg (by omega), if_neg (by omega)]
    rw [e1]; exact hF.told
  · rw [if_neg (show ¬ k + 1 = LB.length by omega)]; exact g3.swap
theorem Mx.lastB {now : Int} {y : Pk} {TA TB R : List Pk} {b : Nat} {q : Pk} {wx w' : World} (hF : Fed B W2 now ((cb : Int) + 1) pb k2 k1 y TB (if i = LA.length then [] else TA) R tb #[.int .i64 (tl i LA.length), .int .i64 (tl k LB.length)] b q wx)
    (hB : W2.heap.size = B) (hlo : B ≤ tb) (h1 : k + 1 = LB.length) (h2 : i ≤ LA.length) (hnum : n = i + k) (hnow : now ≤ n) (hR : R = []) (pB : ((TB ++ [y]) ++ LB.drop (k + 1)).Perm LB) (pA : (TA ++ LA.take (LA.length - i)).Perm LA)
    (hg : Gr (wx.setCell ⟨tb, 1, none⟩ (.int .i64 1)) w') : Mx LA LB k1 k2 B W2 tb i (k + 1) (n + 1) (cb + 1) w' := by
  obtain ⟨hs, count, g1, g2, g3⟩ := hF.box
  rw [if_pos hR] at g3
  refine Mx.grown (wr := wx.setCell ⟨tb, 1, none⟩ (.int .i64 1)) ⟨hF.fr.told hB hlo 1 _, ?_, hB, hlo, h2, by omega, by omega, hs, now, count, TA, TB ++ [y], g1.else_ hF.told (by decide) (by decide) (by decide) (by decide) (by simp) (fun j _ hj => Below.heap_setCell _ _ _ _ hj), by omega, by omega, ?_, pA, pB⟩ hg
  · rw [heap_setCell_same _ _ _ _ _ _ hF.told]
    have e1 : tl (k + 1) LB.length = 1 := by unfold tl; rw [if_pos h1]
    rw [e1]; rfl
  · rw [if_pos h1]; exact g3.swap
end
end Go.Proofs.Ytfdjpmglfjiamaa
