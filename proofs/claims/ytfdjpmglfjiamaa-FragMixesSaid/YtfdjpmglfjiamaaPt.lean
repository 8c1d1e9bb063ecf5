/- The pure reading of Take, and the bounds that it keeps. No program in sight. The pieces of a packet, taken in any order. No program in sight. The pure reading of Split; its pieces. No program in sight. Take at the pieces of a cutting: what becomes of the heaps. No program in sight. -/
import Derived.Test.YtfdjpmglfjiamaaWl
import Derived.Test.YtfdjpmglfjiamaaWz
import Derived.Test.YtfdjpmglfjiamaaWf
namespace Go.Proofs.Ytfdjpmglfjiamaa
open Go Go.Sort
set_option linter.unusedSimpArgs false
set_option linter.unusedVariables false

/-- A packet without the place of its extension headers. -/
def er (p : Pk) : Pk := { p with xa := none, xc := 0 }
theorem right_er (p : Pk) : right (er p) = right p := rfl
theorem bld_er (p : Pk) : bldCode (er p) = bldCode p := rfl
theorem bare_er (p : Pk) : bareP (er p) = er (bareP p) := rfl

/-- A heap, without its place. -/
structure AH where
  key : Key
  began : Int
  pieces : List Pk

def keyOf (peer epoch : Int) (p : Pk) : Key := ⟨peer, epoch, p.src, p.dst, p.proto, p.id⟩
/-- Do they lie end to end, from n on? -/
def contig : Int → List Pk → Bool
  | _, [] => true
  | n, p :: r => decide (p.off = n) && contig (n + p.pay.size) r
def lastMore (l : List Pk) : Bool := (l.getLast?.map (·.more)).getD false
def wholeOk (l : List Pk) : Bool := contig 0 l && !lastMore l
def joined (l : List Pk) : ByteArray := ⟨(l.flatMap fun p => p.pay.data.toList).toArray⟩
def wholeP (l : List Pk) : Pk := bareP { l.headD zpk with pay := joined l }
def badPiece (p : Pk) : Bool := decide (p.pay.size = 0) || (p.more && decide (p.pay.size % 8 ≠ 0)) || decide (65535 < reachN p)
def fitsN (p : Pk) (l : List Pk) : Bool := decide (l.length < 64) && !(l.any (clash p))
def dropK (k : Key) (s : List AH) : List AH := s.filter fun h => !(h.key == k)
def putK (k : Key) (b : Int) (l : List Pk) (s : List AH) : List AH := s.map fun h => if h.key = k then ⟨k, b, l⟩ else h

/-- The heap of a key, found or begun. -/
def Room (k : Key) (now : Int) (s1 s2 : List AH) (l : List Pk) (b : Int) : Prop :=
  (⟨k, b, l⟩ ∈ s1 ∧ s2 = s1) ∨
  ((∀ h ∈ s1, h.key ≠ k) ∧ l = [] ∧ b = now ∧ ∃ s0, ((s1.length < 8 ∧ s0 = s1) ∨ (8 ≤ s1.length ∧ ∃ h ∈ s1, s0 = dropK h.key s1)) ∧ s2 = s0 ++ [⟨k, now, []⟩])

/-- A piece comes into its heap. -/
def Put (k : Key) (p : Pk) (s2 : List AH) (l : List Pk) (b : Int) (s' : List AH) (r : Option Pk) : Prop :=
  if l.any (samePiece p) = true then s' = s2 ∧ r = none
  else if fitsN p l = false then s' = dropK k s2 ∧ r = none
  else ∃ l', l'.Perm (l ++ [p]) ∧ l'.Pairwise (fun p q => p.off ≤ q.off) ∧
    if wholeOk l' = true then s' = dropK k s2 ∧ r = (if bldCode (wholeP l') = 0 then some (wholeP l') else none)
    else s' = putK k b l' s2 ∧ r = none

def inTimeA (now : Int) (h : AH) : Bool := decide (now - h.began < 30000)
/-- Take. -/
def Took (k : Key) (now : Int) (p : Pk) (s s' : List AH) (r : Option Pk) : Prop :=
  if right p = false then s' = s.filter (inTimeA now) ∧ r = none
  else if p.more = false ∧ p.off = 0 then s' = s.filter (inTimeA now) ∧ r = some (bareP p)
  else if badPiece p = true then s' = s.filter (inTimeA now) ∧ r = none
  else ∃ s2 l b, Room k now (s.filter (inTimeA now)) s2 l b ∧ Put k p s2 l b s' r

/-! ### The bounds -/
structure Good (h : AH) : Prop where
  some_ : h.pieces ≠ []
  each : ∀ p ∈ h.pieces, 1 ≤ p.pay.size ∧ 0 ≤ p.off ∧ reachN p ≤ 65535
  apart : h.pieces.Pairwise (fun p q => reachN p ≤ q.off)
structure Inv (s : List AH) : Prop where
  few : s.length ≤ 8
  keys : (s.map (·.key)).Nodup
  good : ∀ h ∈ s, Good h

theorem Inv.nil : Inv [] := ⟨by simp, by simp, by simp⟩
theorem Inv.sub {s s' : List AH} (h : Inv s) (hs : s'.Sublist s) : Inv s' :=
  ⟨Nat.le_trans hs.length_le h.few, h.keys.sublist (hs.map _), fun x hx => h.good x (hs.subset hx)⟩

theorem right_bare {p : Pk} (h : right p = true) : right (bareP p) = true := by
  simp only [right, Bool.and_eq_true] at h ⊢
  obtain ⟨h1, h2⟩ := h
  have e1 : (bareP p).src = p.src := rfl
  refine ⟨?_, ?_⟩
  · simp only [rightHead, Bool.and_eq_true] at h1 ⊢
    obtain ⟨⟨⟨⟨⟨⟨⟨a, b⟩, c⟩, d⟩, e⟩, f⟩, g⟩, i⟩ := h1
    exact ⟨⟨⟨⟨⟨⟨⟨a, b⟩, c⟩, d⟩, e⟩, f⟩, by simp [bareP, upto]⟩, by simp [bareP]⟩
  · rw [e1]
    cases h6 : p.src.v6
    · simp only [h6] at h2 ⊢
      simp only [right4, bareP, h6, Bool.and_eq_true] at h2 ⊢
      simp at h2 ⊢
      exact h2.1
    · simp only [h6, if_true, Bool.and_eq_true] at h2 ⊢
      refine ⟨h2.1, ?_⟩
      have h3 := h2.2
      simp only [right6, Bool.and_eq_true] at h3 ⊢
      obtain ⟨⟨⟨⟨⟨⟨a, b⟩, c⟩, d⟩, e⟩, f⟩, g⟩ := h3
      exact ⟨⟨⟨⟨⟨⟨a, b⟩, c⟩, d⟩, by simp [bareP, h6, upto]⟩, f⟩, by simp [bareP, h6]⟩

theorem right_offs {p : Pk} (h : right p = true) : 0 ≤ p.off ∧ p.off ≤ 65528 := by
  simp only [right, rightHead, Bool.and_eq_true, upto, decide_eq_true_eq] at h
  exact h.1.1.2

theorem bld_right {p : Pk} (h : bldCode p = 0) : right p = true := by
  unfold bldCode at h
  cases hr : right p
  · simp [hr] at h
  · rfl

theorem contains_perm_mem {l l' : List Pk} (h : l'.Perm l) (x : Pk) : x ∈ l' ↔ x ∈ l := h.mem_iff

/-- What came into a heap that fits it. -/
theorem good_put {k : Key} {b : Int} {p : Pk} {l l' : List Pk} (hr : right p = true) (hb : badPiece p = false) (hl : ∀ q ∈ l, 1 ≤ q.pay.size ∧ 0 ≤ q.off ∧ reachN q ≤ 65535) (ha : l.Pairwise (fun p q => reachN p ≤ q.off))
    (hf : fitsN p l = true) (hp : l'.Perm (l ++ [p])) (hs : l'.Pairwise (fun p q => p.off ≤ q.off)) : Good ⟨k, b, l'⟩ := by
  obtain ⟨o0, o1⟩ := right_offs hr
  simp only [badPiece, Bool.or_eq_false_iff, decide_eq_false_iff_not] at hb
  have hp1 : 1 ≤ p.pay.size := by omega
  have hp2 : reachN p ≤ 65535 := by omega
  simp only [fitsN, Bool.and_eq_true, Bool.not_eq_true', decide_eq_true_eq, List.any_eq_false] at hf
  have hc : ∀ q ∈ l, ¬ (p.off < reachN q ∧ q.off < reachN p) := fun q hq hx => by
    have := hf.2 q hq
    simp [clash, hx.1, hx.2] at this
  have hall : ∀ q ∈ l', 1 ≤ q.pay.size ∧ 0 ≤ q.off ∧ reachN q ≤ 65535 := fun q hq => by
    rcases List.mem_append.1 (hp.mem_iff.1 hq) with h | h
    · exact hl q h
    · rw [List.mem_singleton.1 h]; exact ⟨hp1, o0, hp2⟩
  have hno : (l ++ [p]).Pairwise (fun x y => ¬ (x.off < reachN y ∧ y.off < reachN x)) := by
    rw [List.pairwise_append]
    refine ⟨ha.imp (fun h hx => by omega), by simp, fun q hq y hy => ?_⟩
    rw [List.mem_singleton.1 hy]
    intro hx
    exact hc q hq ⟨hx.2, hx.1⟩
  have hno' : l'.Pairwise (fun x y => ¬ (x.off < reachN y ∧ y.off < reachN x)) := (hp.pairwise_iff (fun h hx => h ⟨hx.2, hx.1⟩)).2 hno
  refine ⟨?_, hall, ?_⟩
  · intro h0
    have := hp.length_eq
    rw [show l' = [] from h0] at this
    simp at this
  · refine ((hs.and hno').imp_of_mem ?_)
    rintro x y hx hy ⟨h1, h2⟩
    have := (hall y hy).1
    simp only [reachN] at h2 ⊢
    omega

theorem took_inv {k : Key} {now : Int} {p : Pk} {s s' : List AH} {r : Option Pk} (hi : Inv s) (h : Took k now p s s' r) :
    Inv s' ∧ ∀ q, r = some q → right q = true ∧ q.more = false ∧ q.off = 0 ∧ q.cut = false := by
  have hi1 : Inv (s.filter (inTimeA now)) := hi.sub List.filter_sublist
  unfold Took at h
  split at h
  · obtain ⟨rfl, rfl⟩ := h; exact ⟨hi1, by simp⟩
  rename_i hr
  have hr : right p = true := by simpa using hr
  split at h
  · obtain ⟨rfl, rfl⟩ := h
    refine ⟨hi1, fun q hq => ?_⟩
    cases hq
    exact ⟨right_bare hr, rfl, rfl, rfl⟩
  split at h
  · obtain ⟨rfl, rfl⟩ := h; exact ⟨hi1, by simp⟩
  rename_i hb
  have hb : badPiece p = false := by simpa using hb
  obtain ⟨s2, l, b, hroom, hput⟩ := h
  generalize s.filter (inTimeA now) = s1 at hi1 hroom
  -- what is known of s2
  have hs2 : s2.length ≤ 8 ∧ (s2.map (·.key)).Nodup ∧ (∀ x ∈ s2, x.key ≠ k → Good x) ∧ (∀ q ∈ l, 1 ≤ q.pay.size ∧ 0 ≤ q.off ∧ reachN q ≤ 65535) ∧ l.Pairwise (fun p q => reachN p ≤ q.off) ∧ (Inv s2 ∨ l = []) := by
    rcases hroom with ⟨hm, rfl⟩ | ⟨hk, rfl, rfl, s0, h0, rfl⟩
    · have hg := hi1.good _ hm
      exact ⟨hi1.few, hi1.keys, fun x hx _ => hi1.good x hx, hg.each, hg.apart, .inl hi1⟩
    · have hsub : s0.Sublist s1 ∧ s0.length ≤ 7 := by
        rcases h0 with ⟨hlt, rfl⟩ | ⟨hge, x, hx, rfl⟩
        · exact ⟨List.Sublist.refl _, by omega⟩
        · refine ⟨List.filter_sublist, ?_⟩
          have h1 : (dropK x.key s1).length < s1.length := by
            rcases Nat.lt_or_ge (dropK x.key s1).length s1.length with h' | h'
            · exact h'
            · have := List.filter_sublist.eq_of_length_le (l₁ := dropK x.key s1) (l₂ := s1) h'
              have hx' : x ∈ dropK x.key s1 := by rw [this]; exact hx
              simp [dropK] at hx'
          have := hi1.few
          omega
      have hi0 := hi1.sub hsub.1
      refine ⟨by simp; omega, ?_, ?_, by simp, by simp, .inr rfl⟩
      · rw [List.map_append, List.nodup_append]
        refine ⟨hi0.keys, by simp, fun a ha b hb => ?_⟩
        simp at hb
        obtain ⟨y, hy, rfl⟩ := List.mem_map.1 ha
        rw [hb]
        exact hk y (hsub.1.subset hy)
      · intro x hx hxk
        rcases List.mem_append.1 hx with h' | h'
        · exact hi0.good x h'
        · rw [List.mem_singleton.1 h'] at hxk; exact absurd rfl hxk
  obtain ⟨a1, a2, a3, a4, a5, a6⟩ := hs2
  have hdrop : Inv (dropK k s2) := ⟨Nat.le_trans (List.length_filter_le _ _) a1, a2.sublist (List.filter_sublist.map _), fun x hx => by
    simp only [dropK, List.mem_filter] at hx
    exact a3 x hx.1 (by simpa using hx.2)⟩
  unfold Put at hput
  split at hput
  · rename_i hany
    obtain ⟨rfl, rfl⟩ := hput
    rcases a6 with h | h
    · exact ⟨h, by simp⟩
    · rw [h] at hany; simp at hany
  split at hput
  · obtain ⟨rfl, rfl⟩ := hput
    exact ⟨hdrop, by simp⟩
  rename_i hf
  have hf : fitsN p l = true := by simpa using hf
  obtain ⟨l', hp, hs, hput⟩ := hput
  split at hput
  · obtain ⟨rfl, rfl⟩ := hput
    refine ⟨hdrop, fun q hq => ?_⟩
    split at hq
    · rename_i hc
      cases hq
      exact ⟨bld_right hc, rfl, rfl, rfl⟩
    · cases hq
  · obtain ⟨rfl, rfl⟩ := hput
    refine ⟨⟨by simpa [putK] using a1, ?_, ?_⟩, by simp⟩
    · have : (putK k b l' s2).map (·.key) = s2.map (·.key) := by
        simp only [putK, List.map_map]
        refine List.map_congr_left fun x _ => ?_
        simp only [Function.comp]
        split
        · rename_i h; exact h.symm
        · rfl
      rw [this]; exact a2
    · intro x hx
      simp only [putK, List.mem_map] at hx
      obtain ⟨y, hy, rfl⟩ := hx
      split
      · exact good_put hr hb a4 a5 hf hp hs
      · exact a3 y hy (by assumption)

/-- How many bytes are held. -/
def heldA (s : List AH) : Nat := (s.map fun h => (h.pieces.map (·.pay.size)).sum).sum

theorem apart_sum : ∀ (l : List Pk) (a : Int), (∀ p ∈ l, a ≤ p.off ∧ reachN p ≤ 65535) → a ≤ 65535 → l.Pairwise (fun p q => reachN p ≤ q.off) → a + ((l.map (·.pay.size)).sum : Nat) ≤ 65535
  | [], a, _, h, _ => by simpa using h
  | p :: r, a, hl, ha, hp => by
    rw [List.pairwise_cons] at hp
    obtain ⟨h1, h2⟩ := hl p (by simp)
    have := apart_sum r (reachN p) (fun q hq => ⟨hp.1 q hq, (hl q (List.mem_cons_of_mem _ hq)).2⟩) h2 hp.2
    rw [List.map_cons, List.sum_cons]
    simp only [reachN] at this h2
    omega
theorem good_sum {h : AH} (hg : Good h) : 1 ≤ (h.pieces.map (·.pay.size)).sum ∧ (h.pieces.map (·.pay.size)).sum ≤ 65535 := by
  have := apart_sum h.pieces 0 (fun p hp => (hg.each p hp).2) (by omega) hg.apart
  refine ⟨?_, by omega⟩
  cases hh : h.pieces with
  | nil => exact absurd hh hg.some_
  | cons p r =>
    have := (hg.each p (by rw [hh]; simp)).1
    rw [List.map_cons, List.sum_cons]
    omega
theorem held_bounds : ∀ (s : List AH), (∀ h ∈ s, Good h) → s.length ≤ heldA s ∧ heldA s ≤ s.length * 65535
  | [], _ => by simp [heldA]
  | h :: s, hg => by
    obtain ⟨i1, i2⟩ := held_bounds s (fun x hx => hg x (List.mem_cons_of_mem _ hx))
    obtain ⟨g1, g2⟩ := good_sum (hg h (by simp))
    simp only [heldA, List.map_cons, List.sum_cons, List.length_cons] at i1 i2 ⊢
    omega
theorem inv_held {s : List AH} (h : Inv s) : s.length ≤ heldA s ∧ heldA s ≤ 524280 := by
  obtain ⟨h1, h2⟩ := held_bounds s h.good
  have := h.few
  omega
end Go.Proofs.Ytfdjpmglfjiamaa
namespace Go.Proofs.Ytfdjpmglfjiamaa
open Go Go.Sort
set_option linter.unusedSimpArgs false
set_option linter.unusedVariables false

/-- The pieces of a packet p, in order, at least two. -/
structure Cutting (L : List Pk) (p : Pk) : Prop where
  two : 2 ≤ L.length
  le : L.length ≤ 64
  each : ∀ x ∈ L, right x = true ∧ badPiece x = false
  key : ∀ x ∈ L, x.src = p.src ∧ x.dst = p.dst ∧ x.proto = p.proto ∧ x.id = (L.headD zpk).id
  contig_ : contig 0 L = true
  more : ∀ x ∈ L.dropLast, x.more = true
  last : lastMore L = false
  whole : wholeP L = p
  bld : bldCode p = 0

theorem contig_ge : ∀ (L : List Pk) (n : Int), contig n L = true → ∀ x ∈ L, n ≤ x.off
  | [], _, _, x, hx => by simp at hx
  | a :: L, n, h, x, hx => by
    simp only [contig, Bool.and_eq_true, decide_eq_true_eq] at h
    rcases List.mem_cons.1 hx with rfl | hx
    · omega
    · have := contig_ge L _ h.2 x hx; omega
theorem contig_apart : ∀ (L : List Pk) (n : Int), contig n L = true → L.Pairwise (fun x y => reachN x ≤ y.off)
  | [], _, _ => .nil
  | a :: L, n, h => by
    simp only [contig, Bool.and_eq_true, decide_eq_true_eq] at h
    refine List.pairwise_cons.2 ⟨fun y hy => ?_, contig_apart L _ h.2⟩
    have := contig_ge L _ h.2 y hy
    simp only [reachN]; omega
/-- End to end, and out of such: a beginning. -/
theorem contig_prefix : ∀ (L S : List Pk) (n : Int), contig n L = true → (∀ x ∈ L, 1 ≤ x.pay.size) → S.Sublist L → contig n S = true → S <+: L := by
  intro L
  induction L with
  | nil => intro S n _ _ hs _; rw [List.sublist_nil.1 hs]; exact List.prefix_refl _
  | cons a L ih =>
    intro S n h hz hs hc
    simp only [contig, Bool.and_eq_true, decide_eq_true_eq] at h
    cases hs with
    | cons _ hs =>
      cases S with
      | nil => exact List.nil_prefix
      | cons b S =>
        simp only [contig, Bool.and_eq_true, decide_eq_true_eq] at hc
        have h1 := contig_ge L _ h.2 b (hs.subset (by simp))
        have h2 := hz a (by simp)
        omega
    | cons_cons _ hs =>
      rename_i S
      simp only [contig, Bool.and_eq_true, decide_eq_true_eq] at hc
      exact List.prefix_cons_inj a |>.2 (ih S _ h.2 (fun x hx => hz x (List.mem_cons_of_mem _ hx)) hs hc.2)

namespace Cutting
variable {L : List Pk} {p : Pk}
theorem size1 (C : Cutting L p) : ∀ x ∈ L, 1 ≤ x.pay.size := fun x hx => by
  have := (C.each x hx).2
  simp only [badPiece, Bool.or_eq_false_iff, decide_eq_false_iff_not] at this
  omega
theorem apart (C : Cutting L p) : L.Pairwise (fun x y => x.off < y.off ∧ reachN x ≤ y.off) := by
  refine (contig_apart L 0 C.contig_).imp_of_mem ?_
  intro x y hx hy h
  have := C.size1 x hx
  refine ⟨?_, h⟩
  simp only [reachN] at h
  omega
/-- Two of one offset are one. -/
theorem inj (C : Cutting L p) : ∀ x ∈ L, ∀ y ∈ L, x.off = y.off → x = y := by
  have h := C.apart
  intro x hx y hy e
  obtain ⟨i, hi, rfl⟩ := List.getElem_of_mem hx
  obtain ⟨j, hj, rfl⟩ := List.getElem_of_mem hy
  rw [List.pairwise_iff_getElem] at h
  rcases Nat.lt_trichotomy i j with h1 | h1 | h1
  · have := (h i j hi hj h1).1; omega
  · subst h1; rfl
  · have := (h j i hj hi h1).1; omega
theorem nodup (C : Cutting L p) : L.Nodup := C.apart.imp fun h e => by rw [e] at h; omega
theorem ne (C : Cutting L p) : L ≠ [] := fun h => by have := C.two; rw [h] at this; simp at this
/-- The one without More is the last, and reaches furthest. -/
theorem last_of (C : Cutting L p) {x : Pk} (hx : x ∈ L) (hm : x.more = false) : ∀ y ∈ L, y ≠ x → y.off < x.off ∧ reachN y ≤ x.off := by
  have hL : L = L.dropLast ++ [L.getLast C.ne] := (List.dropLast_concat_getLast C.ne).symm
  have hxl : x = L.getLast C.ne := by
    rw [hL] at hx
    rcases List.mem_append.1 hx with h | h
    · have := C.more x h; rw [hm] at this; cases this
    · exact List.mem_singleton.1 h
  intro y hy hne
  have h := C.apart
  rw [hL, List.pairwise_append] at h
  rw [hL] at hy
  rcases List.mem_append.1 hy with hy | hy
  · have := h.2.2 y hy (L.getLast C.ne) (by simp); rw [hxl]; exact this
  · exact absurd ((List.mem_singleton.1 hy).trans hxl.symm) hne
theorem sep (C : Cutting L p) {x y : Pk} (hx : x ∈ L) (hy : y ∈ L) (hne : x ≠ y) : clash x y = false := by
  have h1 : ¬ (x.off < reachN y ∧ y.off < reachN x) := by
    obtain ⟨i, hi, rfl⟩ := List.getElem_of_mem hx
    obtain ⟨j, hj, rfl⟩ := List.getElem_of_mem hy
    have h := List.pairwise_iff_getElem.1 C.apart
    rcases Nat.lt_trichotomy i j with h1 | h1 | h1
    · have := (h i j hi hj h1).2; omega
    · subst h1; exact absurd rfl hne
    · have := (h j i hj hi h1).2; omega
  have h2 : y.more = false → reachN x ≤ y.off := fun hm => (C.last_of hy hm x hx hne).2
  have h3 : x.more = false → reachN y ≤ x.off := fun hm => (C.last_of hx hm y hy (Ne.symm hne)).2
  have s1 := C.size1 x hx
  have s2 := C.size1 y hy
  have e1 : (decide (x.off < reachN y) && decide (y.off < reachN x)) = false := by
    rw [Bool.and_eq_false_iff, decide_eq_false_iff_not, decide_eq_false_iff_not]; omega
  have e2 : (!y.more && decide (reachN y < reachN x)) = false := by
    cases hym : y.more
    · have := h2 hym
      have : ¬ (reachN y < reachN x) := by simp only [reachN] at this ⊢; omega
      simp [this]
    · rfl
  have e3 : (!x.more && decide (reachN x < reachN y)) = false := by
    cases hxm : x.more
    · have := h3 hxm
      have : ¬ (reachN x < reachN y) := by simp only [reachN] at this ⊢; omega
      simp [this]
    · rfl
  have e4 : (!x.more && !y.more) = false := by
    cases hxm : x.more
    · cases hym : y.more
      · have a1 := h2 hym
        have a2 := h3 hxm
        simp only [reachN] at a1 a2
        omega
      · rfl
    · rfl
  unfold clash
  rw [e1, e2, e3, e4]
  rfl
theorem notSame (C : Cutting L p) {x y : Pk} (hx : x ∈ L) (hy : y ∈ L) (hne : x ≠ y) : samePiece x y = false := by
  have : y.off ≠ x.off := fun e => hne (C.inj x hx y hy e.symm)
  simp [samePiece, this]
theorem self_same (x : Pk) : samePiece x x = true := by simp [samePiece]
theorem wholeOk_L (C : Cutting L p) : wholeOk L = true := by simp [wholeOk, C.contig_, C.last]

/-- Sorted, and of these. -/
theorem eq_sorted (C : Cutting L p) {l l' : List Pk} (hl : l.Sublist L) (hp : l'.Perm l) (hs : l'.Pairwise (fun p q => p.off ≤ q.off)) : l' = l := by
  refine hp.eq_of_pairwise (le := fun p q : Pk => p.off ≤ q.off) ?_ hs ((C.apart.sublist hl).imp fun h => by omega)
  intro a b ha hb h1 h2
  exact C.inj a (hl.subset (hp.mem_iff.1 ha)) b (hl.subset hb) (by omega)

theorem put_old (C : Cutting L p) {k : Key} {x : Pk} {s2 : List AH} {T : List Pk} {b : Int} {s' : List AH} {r : Option Pk} (hx : x ∈ T) (h : Put k x s2 T b s' r) : s' = s2 ∧ r = none := by
  unfold Put at h
  rw [if_pos (List.any_eq_true.2 ⟨x, hx, self_same x⟩)] at h
  exact h

theorem put_new (C : Cutting L p) {k : Key} {x : Pk} {s2 : List AH} {T R : List Pk} {b : Int} {s' : List AH} {r : Option Pk} (hT : (T ++ x :: R).Perm L) (h : Put k x s2 T b s' r) :
    (R = [] → s' = dropK k s2 ∧ r = some p) ∧ (R ≠ [] → r = none ∧ ∃ T', T'.Perm (T ++ [x]) ∧ s' = putK k b T' s2) := by
  have hmem : ∀ y, y ∈ T ++ x :: R → y ∈ L := fun y hy => hT.mem_iff.1 hy
  have hx : x ∈ L := hmem x (by simp)
  have hnd : (T ++ x :: R).Nodup := hT.nodup_iff.2 C.nodup
  have hxT : ∀ y ∈ T, x ≠ y := fun y hy e => by
    rw [List.nodup_append] at hnd
    exact hnd.2.2 y hy x (by simp) e.symm
  have hlen : T.length + 1 + R.length = L.length := by have := hT.length_eq; simp at this; omega
  unfold Put at h
  have h1 : T.any (samePiece x) = false := by
    rw [List.any_eq_false]
    intro y hy
    simp [C.notSame hx (hmem y (by simp [hy])) (hxT y hy)]
  have h2 : fitsN x T = true := by
    have hc : T.any (clash x) = false := by
      rw [List.any_eq_false]
      intro y hy
      simp [C.sep hx (hmem y (by simp [hy])) (hxT y hy)]
    have := C.le
    simp only [fitsN, hc, Bool.not_false, Bool.and_true, decide_eq_true_eq]
    omega
  rw [if_neg (by simp [h1]), if_neg (by simp [h2])] at h
  obtain ⟨l', hp, hs, h⟩ := h
  have hne : l' ≠ [] := by
    intro e
    have := hp.length_eq
    rw [e] at this
    simp at this
  constructor
  · rintro rfl
    have hl : l' = L := C.eq_sorted (List.Sublist.refl _) (hp.trans hT) hs
    rw [hl, if_pos C.wholeOk_L, C.whole, if_pos C.bld] at h
    exact h
  · intro hR
    have hno : wholeOk l' = false := by
      cases hw : wholeOk l' with
      | false => rfl
      | true =>
        exfalso
        simp only [wholeOk, Bool.and_eq_true, Bool.not_eq_true'] at hw
        -- l' is what L has of these
        have hsub : l'.Sublist L := by
          have hf : l' = L.filter (fun a => l'.any (fun q => q.off == a.off)) := by
            refine C.eq_sorted List.filter_sublist ?_ hs
            refine (List.perm_ext_iff_of_nodup ?_ (C.nodup.sublist List.filter_sublist)).2 ?_
            · refine hp.nodup_iff.2 ?_
              have : (T ++ [x]).Sublist (T ++ x :: R) := (List.Sublist.refl T).append (List.Sublist.cons_cons x (List.nil_sublist R))
              exact hnd.sublist this
            · intro a
              rw [List.mem_filter, List.any_eq_true]
              have hin : ∀ q, q ∈ l' → q ∈ L := fun q hq => hmem q (by
                rcases List.mem_append.1 (hp.mem_iff.1 hq) with h' | h'
                · simp [h']
                · simp [List.mem_singleton.1 h'])
              constructor
              · intro ha
                exact ⟨hin a ha, a, ha, by simp⟩
              · rintro ⟨ha, q, hq, he⟩
                rw [← C.inj q (hin q hq) a ha (by simpa using he)]
                exact hq
          rw [hf]; exact List.filter_sublist
        obtain ⟨rest, hrest⟩ := contig_prefix L l' 0 C.contig_ C.size1 hsub hw.1
        have hrl : rest ≠ [] := by
          rintro rfl
          have h3 := hp.length_eq
          rw [← hrest] at hlen
          simp at h3 hlen
          have : R.length ≠ 0 := fun e => hR (List.eq_nil_of_length_eq_zero e)
          omega
        have hlast : l'.getLast hne ∈ L.dropLast := by
          rw [← hrest, List.dropLast_append_of_ne_nil hrl]
          exact List.mem_append.2 (.inl (List.getLast_mem hne))
        have := C.more _ hlast
        have h4 := hw.2
        simp only [lastMore, List.getLast?_eq_some_getLast hne, Option.map_some, Option.getD_some] at h4
        rw [this] at h4
        cases h4
    rw [if_neg (by simp [hno])] at h
    exact ⟨h.2, l', hp, h.1⟩
end Cutting
end Go.Proofs.Ytfdjpmglfjiamaa
namespace Go.Proofs.Ytfdjpmglfjiamaa
open Go Go.Sort
set_option linter.unusedSimpArgs false
set_option linter.unusedVariables false

/-- What all pieces of a packet have. -/
def headP (p : Pk) (id : Int) : Pk := { p with pay := ByteArray.empty, cut := p.src.v6 || p.cut, id := if p.src.v6 then id else p.id }
def stepN (p : Pk) (mtu id : Int) : Int := (mtu - sizeN (headP p id)) / 8 * 8
def cutAt (p : Pk) (id : Int) (step at_ : Nat) : Pk :=
  { headP p id with off := p.off + at_, pay := p.pay.extract at_ (min (at_ + step) p.pay.size), more := decide (at_ + step < p.pay.size) || p.more }
def cuts (p : Pk) (id : Int) (step : Nat) (at_ : Nat) : List Pk :=
  if h : at_ < p.pay.size ∧ 0 < step then cutAt p id step at_ :: cuts p id step (at_ + step) else []
termination_by p.pay.size - at_
decreasing_by omega

def leastN (p : Pk) : Int := if p.src.v6 then 1280 else 68
def splitBad (p : Pk) (mtu id : Int) : Bool := !right p || decide (mtu < leastN p) || decide (id < 0) || decide (4294967295 < id) || p.cut
/-- frag.Split: the error, the pieces. -/
def split (p : Pk) (mtu id : Int) : Int × List Pk :=
  if splitBad p mtu id = true then (1, [])
  else if bldCode p ≠ 0 then (bldCode p, [])
  else if (sizeN p : Int) ≤ mtu then (0, [p])
  else if p.still = true then (75, [])
  else if stepN p mtu id ≤ 0 ∨ 65528 < p.off + ((p.pay.size : Int) - 1).tdiv (stepN p mtu id) * stepN p mtu id then (75, [])
  else (0, cuts p id (stepN p mtu id).toNat 0)

theorem extSize (b : ByteArray) (i j : Nat) (h : j ≤ b.size) : (b.extract i j).size = j - i := by
  rw [ByteArray.size_extract]; omega

theorem cuts_nil {p : Pk} {id : Int} {step a : Nat} (h : p.pay.size ≤ a) : cuts p id step a = [] := by
  rw [cuts, dif_neg (by omega)]
theorem cuts_cons {p : Pk} {id : Int} {step a : Nat} (h : a < p.pay.size) (hs : 0 < step) : cuts p id step a = cutAt p id step a :: cuts p id step (a + step) := by
  rw [cuts, dif_pos ⟨h, hs⟩]

section
variable {p : Pk} {id : Int} {step : Nat}
/-- Over the pieces, from the back. -/
theorem cuts_ind (hs : 0 < step) (M : Nat → Prop) (h0 : ∀ a, p.pay.size ≤ a → M a) (h1 : ∀ a, a < p.pay.size → M (a + step) → M a) : ∀ a, M a := by
  have : ∀ n a, p.pay.size ≤ a + n → M a := by
    intro n
    induction n with
    | zero => intro a h; exact h0 a (by omega)
    | succ n ih =>
      intro a h
      rcases Nat.lt_or_ge a p.pay.size with h' | h'
      · exact h1 a h' (ih _ (by omega))
      · exact h0 a h'
  exact fun a => this p.pay.size a (by omega)

theorem cuts_mem (hs : 0 < step) : ∀ a, ∀ x ∈ cuts p id step a, ∃ i, x = cutAt p id step (a + i * step) ∧ a + i * step < p.pay.size := by
  refine cuts_ind (p := p) hs _ ?_ ?_
  · intro a h x hx; rw [cuts_nil h] at hx; simp at hx
  · intro a h ih x hx
    rw [cuts_cons h hs] at hx
    rcases List.mem_cons.1 hx with rfl | hx
    · exact ⟨0, by simp, by simpa using h⟩
    · obtain ⟨i, h1, h2⟩ := ih x hx
      refine ⟨i + 1, ?_, ?_⟩ <;> rw [Nat.succ_mul]
      · rw [h1]; congr 1; omega
      · omega

theorem cutAt_size (a : Nat) : (cutAt p id step a).pay.size = min (a + step) p.pay.size - a := by
  show (p.pay.extract a (min (a + step) p.pay.size)).size = _
  rw [extSize _ _ _ (Nat.min_le_right _ _)]

theorem cuts_contig (hs : 0 < step) : ∀ a : Nat, contig (p.off + a) (cuts p id step a) = true := by
  refine cuts_ind (p := p) hs _ ?_ ?_
  · intro a h; rw [cuts_nil h]; rfl
  · intro a h ih
    rw [cuts_cons h hs]
    simp only [contig, Bool.and_eq_true, decide_eq_true_eq]
    refine ⟨rfl, ?_⟩
    rw [cutAt_size]
    rcases Nat.lt_or_ge (a + step) p.pay.size with h' | h'
    · rw [show p.off + a + ((min (a + step) p.pay.size - a : Nat) : Int) = p.off + ((a + step : Nat) : Int) by omega]
      exact ih
    · rw [cuts_nil h']; rfl
theorem cuts_joined (hs : 0 < step) : ∀ a, ((cuts p id step a).flatMap fun x => x.pay.data.toList) = p.pay.data.toList.drop a := by
  refine cuts_ind (p := p) hs _ ?_ ?_
  · intro a h
    rw [cuts_nil h, List.drop_eq_nil_of_le (by simpa using h)]; rfl
  · intro a h ih
    rw [cuts_cons h hs, List.flatMap_cons, ih]
    have e : (cutAt p id step a).pay.data.toList = (p.pay.data.toList.drop a).take step := by
      show (p.pay.extract a (min (a + step) p.pay.size)).data.toList = _
      rw [ByteArray.data_extract, Array.toList_extract, List.extract_eq_drop_take']
      have hl : p.pay.data.toList.length = p.pay.size := by simp
      rcases Nat.lt_or_ge (a + step) p.pay.size with h' | h'
      · rw [Nat.min_eq_left (by omega), List.drop_take, show a + step - a = step by omega]
      · rw [Nat.min_eq_right h', List.take_of_length_le (by omega), List.take_of_length_le (by rw [List.length_drop]; omega)]
    rw [e, ← List.drop_drop, List.take_append_drop]
theorem cuts_last (hs : 0 < step) (hm : p.more = false) : ∀ a, lastMore (cuts p id step a) = false ∧ ∀ x ∈ (cuts p id step a).dropLast, x.more = true := by
  refine cuts_ind (p := p) hs _ ?_ ?_
  · intro a h; rw [cuts_nil h]; exact ⟨rfl, by simp⟩
  · intro a h ih
    rw [cuts_cons h hs]
    rcases Nat.lt_or_ge (a + step) p.pay.size with h' | h'
    · rw [cuts_cons h' hs] at ih ⊢
      refine ⟨?_, ?_⟩
      · have := ih.1
        simpa [lastMore] using this
      · rw [List.dropLast_cons_of_ne_nil (by simp)]
        intro x hx
        rcases List.mem_cons.1 hx with rfl | hx
        · show (decide (a + step < p.pay.size) || p.more) = true
          simp [h']
        · exact ih.2 x hx
    · rw [cuts_nil h']
      refine ⟨?_, by simp⟩
      show (decide (a + step < p.pay.size) || p.more) = false
      simp [hm]; omega
end

theorem headN_head (p : Pk) (id : Int) (st a : Nat) : headN (cutAt p id st a) = headN (headP p id) := rfl

theorem right_piece {p : Pk} {id : Int} {st a : Nat} (h : right p = true) (hid : 0 ≤ id ∧ id ≤ 4294967295) (hc : p.cut = false) (hx : 0 ≤ p.off + a ∧ p.off + a ≤ 65528) (h8 : a % 8 = 0) : right (cutAt p id st a) = true := by
  simp only [right, Bool.and_eq_true] at h ⊢
  obtain ⟨h1, h2⟩ := h
  have e1 : (cutAt p id st a).src = p.src := rfl
  refine ⟨?_, ?_⟩
  · simp only [rightHead, Bool.and_eq_true] at h1 ⊢
    obtain ⟨⟨⟨⟨⟨⟨⟨a1, b⟩, c⟩, d⟩, e⟩, f⟩, g⟩, i⟩ := h1
    refine ⟨⟨⟨⟨⟨⟨⟨a1, b⟩, c⟩, d⟩, e⟩, f⟩, ?_⟩, ?_⟩
    · show upto (p.off + a) 65528 = true
      simp only [upto, Bool.and_eq_true, decide_eq_true_eq]; exact hx
    · show (!((p.off + a).tmod 8 != 0)) = true
      have hi : p.off.tmod 8 = 0 := by simpa using i
      have h0 : 0 ≤ p.off := by simp [upto] at g; exact g.1
      rw [Int.tmod_eq_emod_of_nonneg h0] at hi
      have : (p.off + a).tmod 8 = 0 := by
        rw [Int.tmod_eq_emod_of_nonneg hx.1]; omega
      simp [this]
  · rw [e1]
    cases h6 : p.src.v6
    · simp only [h6] at h2 ⊢
      simp only [right4, cutAt, headP, h6, Bool.and_eq_true] at h2 ⊢
      simpa using h2
    · simp only [h6, if_true, Bool.and_eq_true] at h2 ⊢
      refine ⟨h2.1, ?_⟩
      have h3 := h2.2
      simp only [right6, Bool.and_eq_true] at h3 ⊢
      obtain ⟨⟨⟨⟨⟨⟨a1, b⟩, c⟩, d⟩, e⟩, f⟩, g⟩ := h3
      exact ⟨⟨⟨⟨⟨⟨a1, b⟩, c⟩, d⟩, by simp [cutAt, headP, h6, upto]; omega⟩, f⟩, by simp [cutAt, headP, h6]⟩
theorem right_headP {p : Pk} {id : Int} (h : right p = true) (hid : 0 ≤ id ∧ id ≤ 4294967295) (hc : p.cut = false) : right (headP p id) = true := by
  have h0 := right_offs h
  have := right_piece (st := 0) (a := 0) h hid hc (by simpa using h0) rfl
  have e : right (cutAt p id 0 0) = right (headP p id) := by
    cases h6 : p.src.v6 <;> simp [right, rightHead, right4, right6, cutAt, headP, extsOk, h6]
  rw [← e]; exact this

theorem bld_size {p : Pk} (h : bldCode p = 0) : p.pay.size ≤ 65535 := by
  have hr := bld_right h
  simp only [bldCode, hr, if_true] at h
  unfold headN at h
  cases h6 : p.src.v6
  · simp only [h6] at h
    simp at h; omega
  · simp only [h6] at h
    simp at h; omega

theorem head_le (p : Pk) (id : Int) : headN p ≤ headN (headP p id) ∨ p.cut = true := by
  unfold headN
  cases h6 : p.src.v6 <;> cases hc : p.cut <;> simp [headP, h6, hc]

/-- What a split gives that went well. -/
theorem split_ok {p : Pk} {mtu id : Int} {L : List Pk} (h : split p mtu id = (0, L)) :
    right p = true ∧ p.cut = false ∧ bldCode p = 0 ∧ 0 ≤ id ∧ id ≤ 4294967295 ∧
    ((L = [p] ∧ (sizeN p : Int) ≤ mtu) ∨
     (mtu < sizeN p ∧ 8 ≤ stepN p mtu id ∧ stepN p mtu id % 8 = 0 ∧ p.off + ((p.pay.size : Int) - 1).tdiv (stepN p mtu id) * stepN p mtu id ≤ 65528 ∧ L = cuts p id (stepN p mtu id).toNat 0)) := by
  unfold split at h
  split at h
  · simp at h
  rename_i hb
  simp only [splitBad, Bool.or_eq_true, Bool.not_eq_true', decide_eq_true_eq, not_or, Bool.not_eq_true, Bool.not_eq_false] at hb
  obtain ⟨⟨⟨⟨b1, b2⟩, b3⟩, b4⟩, b5⟩ := hb
  split at h
  · rename_i hne
    simp only [Prod.mk.injEq] at h
    exact absurd h.1 hne
  rename_i hbld
  have hbld : bldCode p = 0 := Classical.byContradiction hbld
  refine ⟨b1, b5, hbld, by omega, by omega, ?_⟩
  split at h
  · simp only [Prod.mk.injEq, true_and] at h
    exact .inl ⟨h.symm, by assumption⟩
  split at h
  · simp at h
  split at h
  · simp at h
  · simp only [Prod.mk.injEq, true_and] at h
    rename_i h1 _ h3
    have h8 : stepN p mtu id % 8 = 0 := by unfold stepN; omega
    exact .inr ⟨by omega, by omega, h8, by omega, h.symm⟩

theorem split_ne {p : Pk} {mtu id : Int} {L : List Pk} (h : split p mtu id = (0, L)) : L ≠ [] ∧ (L.length = 1 → L = [p] ∧ (sizeN p : Int) ≤ mtu) ∧
    (L.length ≠ 1 → 2 ≤ L.length ∧ mtu < sizeN p) := by
  obtain ⟨hr, hc, hb, i0, i1, h⟩ := split_ok h
  rcases h with ⟨rfl, hle⟩ | ⟨hgt, h8, hm, ho, rfl⟩
  · exact ⟨by simp, fun _ => ⟨rfl, hle⟩, fun h => by simp at h⟩
  · have hrh := right_headP hr ⟨i0, i1⟩ hc
    have e1 : sizeN p = headN p + p.pay.size := by simp [sizeN, hr]
    have e2 : sizeN (headP p id) = headN (headP p id) := by
      have : (headP p id).pay.size = 0 := rfl
      simp [sizeN, hrh, this]
    have e3 : headN p ≤ headN (headP p id) := by
      rcases head_le p id with h | h
      · exact h
      · rw [hc] at h; cases h
    have hst : stepN p mtu id ≤ mtu - sizeN (headP p id) := by unfold stepN; omega
    have hlt : (stepN p mtu id).toNat < p.pay.size := by omega
    rw [cuts_cons (by omega) (by omega), cuts_cons (a := 0 + (stepN p mtu id).toNat) (by omega) (by omega)]
    exact ⟨by simp, fun h => by simp at h, fun _ => ⟨by simp, hgt⟩⟩

theorem split_cutting {p : Pk} {mtu id : Int} {L : List Pk} (h : split p mtu id = (0, L)) (h0 : p.off = 0) (hm : p.more = false) (h1 : L.length ≠ 1) (h64 : L.length ≤ 64) :
    Cutting L p ∧ (∀ x ∈ L, (sizeN x : Int) ≤ mtu) ∧ (p.src.v6 = true → (L.headD zpk).id = id) ∧ (p.src.v6 = false → (L.headD zpk).id = p.id) := by
  obtain ⟨hne, _, h2⟩ := split_ne h
  have h2 := (h2 h1).1
  obtain ⟨hr, hc, hb, i0, i1, h⟩ := split_ok h
  rcases h with ⟨rfl, hle⟩ | ⟨hgt, h8, hm8, ho, rfl⟩
  · exact absurd rfl h1
  generalize hstep : stepN p mtu id = sI at *
  obtain ⟨st, rfl⟩ : ∃ st : Nat, sI = st := ⟨sI.toNat, by omega⟩
  simp only [Int.toNat_natCast] at *
  have hs : 0 < st := by omega
  have hst8 : st % 8 = 0 := by omega
  have hrh := right_headP hr ⟨i0, i1⟩ hc
  have hbs := bld_size hb
  have hmem := cuts_mem (p := p) (id := id) hs 0
  have h65 : p.pay.size ≠ 0 := by
    intro e
    rw [cuts_nil (by omega)] at hne
    exact hne rfl
  have hat : ∀ i, i * st < p.pay.size → i * st ≤ 65528 := fun i hi => by
    have h3 : ((p.pay.size : Int) - 1).tdiv st = (((p.pay.size - 1) / st : Nat) : Int) := by
      rw [show ((p.pay.size : Int) - 1) = ((p.pay.size - 1 : Nat) : Int) by omega, ← Int.ofNat_tdiv]
    rw [h3, h0] at ho
    have h4 : i ≤ (p.pay.size - 1) / st := (Nat.le_div_iff_mul_le hs).2 (by omega)
    have h5 := Nat.mul_le_mul_right st h4
    omega
  have heach : ∀ x ∈ cuts p id st 0, right x = true ∧ badPiece x = false := by
    intro x hx
    obtain ⟨i, rfl, hi⟩ := hmem x hx
    rw [Nat.zero_add] at hi ⊢
    have hrp : right (cutAt p id st (i * st)) = true := right_piece hr ⟨i0, i1⟩ hc (by have := hat i hi; omega) (by rw [Nat.mul_mod, hst8]; simp)
    refine ⟨hrp, ?_⟩
    have hsz := cutAt_size (p := p) (id := id) (step := st) (i * st)
    simp only [badPiece, Bool.or_eq_false_iff, Bool.and_eq_false_iff, decide_eq_false_iff_not]
    refine ⟨⟨by omega, ?_⟩, ?_⟩
    · rcases Nat.lt_or_ge (i * st + st) p.pay.size with h' | h'
      · right; omega
      · left
        show (decide (i * st + st < p.pay.size) || p.more) = false
        simp [hm]; omega
    · have : (cutAt p id st (i * st)).off = p.off + (i * st : Nat) := rfl
      simp only [reachN, hsz, this]
      omega
  have hcons := cuts_cons (p := p) (id := id) (step := st) (a := 0) (by omega) hs
  have hhead : (cuts p id st 0).headD zpk = cutAt p id st 0 := by rw [hcons]; rfl
  refine ⟨⟨h2, h64, heach, ?_, ?_, (cuts_last hs hm 0).2, (cuts_last hs hm 0).1, ?_, hb⟩, ?_, ?_, ?_⟩
  · intro x hx
    obtain ⟨i, rfl, hi⟩ := hmem x hx
    rw [hhead]
    exact ⟨rfl, rfl, rfl, rfl⟩
  · have := cuts_contig (p := p) (id := id) hs 0
    rwa [h0] at this
  · have hj : joined (cuts p id st 0) = p.pay := by
      unfold joined
      rw [cuts_joined hs 0, List.drop_zero, Array.toArray_toList]
    unfold wholeP
    rw [hhead, hj]
    have hid : p.src.v6 = true → p.id = 0 := fun h6 => by
      simp only [right, h6, if_true, right6, Bool.and_eq_true, hc, Bool.false_or] at hr
      have := hr.2.2.2
      simp at this
      exact this.1.1
    obtain ⟨src, dst, proto, hop, cls, pid, off, more, still, opts, flow, xa, xl, xc, cut, pay, exts⟩ := p
    simp only at h0 hm hc hid
    subst h0 hm hc
    cases h6 : src.v6
    · simp [bareP, cutAt, headP, h6]
    · have := hid h6
      subst this
      simp [bareP, cutAt, headP, h6]
  · intro x hx
    have hrx := (heach x hx).1
    obtain ⟨i, rfl, hi⟩ := hmem x hx
    have hsz := cutAt_size (p := p) (id := id) (step := st) (0 + i * st)
    have hh := headN_head p id st (0 + i * st)
    have e2 : sizeN (headP p id) = headN (headP p id) := by
      have : (headP p id).pay.size = 0 := rfl
      simp [sizeN, hrh, this]
    have hst : stepN p mtu id ≤ mtu - sizeN (headP p id) := by unfold stepN; omega
    simp only [sizeN, hrx, if_true]
    omega
  · intro h6; rw [hhead]; simp [cutAt, headP, h6]
  · intro h6; rw [hhead]; simp [cutAt, headP, h6]
end Go.Proofs.Ytfdjpmglfjiamaa
namespace Go.Proofs.Ytfdjpmglfjiamaa
open Go Go.Sort
set_option linter.unusedSimpArgs false
set_option linter.unusedVariables false

/-- These pieces, in some order, lie under the key k (none: no heap is there). -/
def Pc (k : Key) (s : List AH) (T : List Pk) : Prop := (T = [] ∧ ∀ h ∈ s, h.key ≠ k) ∨ (T ≠ [] ∧ ∃ b l, (⟨k, b, l⟩ : AH) ∈ s ∧ l.Perm T)
def KN (s : List AH) : Prop := (s.map (·.key)).Nodup

theorem kn_inj {s : List AH} (h : KN s) {x y : AH} (hx : x ∈ s) (hy : y ∈ s) (e : x.key = y.key) : x = y := by
  unfold KN at h
  obtain ⟨i, hi, rfl⟩ := List.getElem_of_mem hx
  obtain ⟨j, hj, rfl⟩ := List.getElem_of_mem hy
  have hp := List.pairwise_iff_getElem.1 (List.pairwise_map.1 h)
  rcases Nat.lt_trichotomy i j with h1 | h1 | h1
  · exact absurd e (hp i j hi hj h1)
  · subst h1; rfl
  · exact absurd e.symm (hp j i hj hi h1)
theorem kn_drop {s : List AH} (h : KN s) (k : Key) : KN (dropK k s) := h.sublist (List.filter_sublist.map _)
theorem kn_put {s : List AH} (h : KN s) (k : Key) (b : Int) (l : List Pk) : KN (putK k b l s) := by
  unfold KN putK
  have : (s.map fun h => if h.key = k then (⟨k, b, l⟩ : AH) else h).map (·.key) = s.map (·.key) := by
    rw [List.map_map]
    refine List.map_congr_left fun x _ => ?_
    simp only [Function.comp]
    split
    · rename_i e; exact e.symm
    · rfl
  rw [this]; exact h
theorem pc_drop_other {k k' : Key} {s : List AH} {T : List Pk} (hne : k' ≠ k) (h : Pc k' s T) : Pc k' (dropK k s) T := by
  rcases h with ⟨h1, h2⟩ | ⟨h1, b, l, h2, h3⟩
  · exact .inl ⟨h1, fun x hx => h2 x (List.filter_sublist.subset hx)⟩
  · exact .inr ⟨h1, b, l, List.mem_filter.2 ⟨h2, by simp [hne]⟩, h3⟩
theorem pc_drop_self (k : Key) (s : List AH) : Pc k (dropK k s) [] := .inl ⟨rfl, fun x hx => by
  have := (List.mem_filter.1 hx).2
  simpa using this⟩
theorem pc_put_other {k k' : Key} {s : List AH} {T : List Pk} {b : Int} {l : List Pk} (hne : k' ≠ k) (h : Pc k' s T) : Pc k' (putK k b l s) T := by
  rcases h with ⟨h1, h2⟩ | ⟨h1, b', l', h2, h3⟩
  · refine .inl ⟨h1, fun x hx => ?_⟩
    obtain ⟨y, hy, rfl⟩ := List.mem_map.1 hx
    split
    · exact fun e => hne e.symm
    · exact h2 y hy
  · refine .inr ⟨h1, b', l', List.mem_map.2 ⟨_, h2, ?_⟩, h3⟩
    rw [if_neg hne]
theorem pc_put_self {k : Key} {s : List AH} {T : List Pk} {b b' : Int} {l l' : List Pk} (hm : (⟨k, b', l'⟩ : AH) ∈ s) (hT : T ≠ []) (hl : l.Perm T) : Pc k (putK k b l s) T :=
  .inr ⟨hT, b, l, List.mem_map.2 ⟨_, hm, if_pos rfl⟩, hl⟩
theorem pc_app_other {k k' : Key} {s : List AH} {T : List Pk} {b : Int} {l : List Pk} (hne : k' ≠ k) (h : Pc k' s T) : Pc k' (s ++ [⟨k, b, l⟩]) T := by
  rcases h with ⟨h1, h2⟩ | ⟨h1, b', l', h2, h3⟩
  · refine .inl ⟨h1, fun x hx => ?_⟩
    rcases List.mem_append.1 hx with hx | hx
    · exact h2 x hx
    · rw [List.mem_singleton.1 hx]; exact fun e => hne e.symm
  · exact .inr ⟨h1, b', l', List.mem_append.2 (.inl h2), h3⟩

/-- What a call leaves to the others. -/
structure Kept (k : Key) (s s' : List AH) : Prop where
  kn : KN s'
  len : s'.length ≤ s.length + 1
  other : ∀ k' T, k' ≠ k → Pc k' s T → Pc k' s' T

/-- The heap of k, found or begun, where fewer than eight stand. -/
theorem room_few {k : Key} {now : Int} {s s2 : List AH} {l : List Pk} {b : Int} (h : Room k now s s2 l b) (hn : KN s) (hlen : s.length < 8) :
    KN s2 ∧ s2.length ≤ s.length + 1 ∧ (∀ k' T, k' ≠ k → Pc k' s T → Pc k' s2 T) ∧ (⟨k, b, l⟩ : AH) ∈ s2 ∧ ∀ T, Pc k s T → l.Perm T := by
  rcases h with ⟨hm, rfl⟩ | ⟨hno, rfl, rfl, s0, h0, rfl⟩
  · refine ⟨hn, by omega, fun _ _ _ h => h, hm, fun T hT => ?_⟩
    rcases hT with ⟨_, h2⟩ | ⟨_, b', l', h2, h3⟩
    · exact absurd rfl (h2 _ hm)
    · have := kn_inj hn hm h2 rfl
      simp only [AH.mk.injEq, true_and] at this
      rw [this.2]; exact h3
  · rcases h0 with ⟨_, rfl⟩ | ⟨h8, _⟩
    · refine ⟨?_, by simp, fun k' T hne hT => pc_app_other hne hT, by simp, fun T hT => ?_⟩
      · unfold KN
        rw [List.map_append, List.nodup_append]
        refine ⟨hn, by simp, fun a ha b hb => ?_⟩
        obtain ⟨y, hy, rfl⟩ := List.mem_map.1 ha
        simp at hb
        rw [hb]; exact hno y hy
      · rcases hT with ⟨h1, _⟩ | ⟨_, b', l', h2, _⟩
        · rw [h1]
        · exact absurd rfl (hno _ h2)
    · omega

/-- .. and the answer does not part by the order in which a heap's pieces lie. -/
theorem took_new {L : List Pk} {p x : Pk} {k : Key} {now : Int} {s s' : List AH} {T R : List Pk} {r : Option Pk} (C : Cutting L p) (hn : KN s) (hlen : s.length < 8) (hin : s.filter (inTimeA now) = s) (hT : Pc k s T) (hp : (T ++ x :: R).Perm L) (h : Took k now x s s' r) :
    Kept k s s' ∧ (R = [] → r = some p ∧ Pc k s' []) ∧ (R ≠ [] → r = none ∧ Pc k s' (T ++ [x])) := by
  have hx : x ∈ L := hp.mem_iff.1 (by simp)
  have hxe := C.each x hx
  have hnot : ¬ (x.more = false ∧ x.off = 0) := by
    rintro ⟨h1, h2⟩
    -- it is the last, so all others lie ahead of it
    obtain ⟨y, hy, hne⟩ : ∃ y ∈ L, y ≠ x := by
      have h2' := C.two
      have hnd := C.nodup
      match L, h2' with
      | a :: b :: r, _ =>
        by_cases e : a = x
        · refine ⟨b, by simp, fun e2 => ?_⟩
          rw [List.nodup_cons] at hnd
          exact hnd.1 (by rw [e, ← e2]; simp)
        · exact ⟨a, by simp, e⟩
    have h3 := (C.last_of hx h1 y hy hne).1
    have h4 := contig_ge L 0 C.contig_ y hy
    omega
  unfold Took at h
  rw [if_neg (by rw [hxe.1]; simp), if_neg hnot, if_neg (by rw [hxe.2]; simp), hin] at h
  obtain ⟨s2, l, b, hroom, hput⟩ := h
  obtain ⟨a1, a2, a3, a4, a5⟩ := room_few hroom hn hlen
  have hlT := a5 T hT
  have hp2 : (l ++ x :: R).Perm L := (hlT.append_right _).trans hp
  obtain ⟨c1, c2⟩ := C.put_new hp2 hput
  by_cases hR : R = []
  · obtain ⟨e1, e2⟩ := c1 hR
    subst e1
    refine ⟨⟨kn_drop a1 k, Nat.le_trans (List.length_filter_le _ _) a2, fun k' T' hne hT' => pc_drop_other hne (a3 k' T' hne hT')⟩, fun _ => ⟨e2, pc_drop_self k s2⟩, fun h => absurd hR h⟩
  · obtain ⟨e1, T', e2, e3⟩ := c2 hR
    subst e3
    refine ⟨⟨kn_put a1 k b T', by simpa [putK] using a2, fun k' T'' hne hT' => pc_put_other hne (a3 k' T'' hne hT')⟩, fun h => absurd h hR, fun _ => ⟨e1, pc_put_self a4 (by simp) (e2.trans (hlT.append_right _))⟩⟩

theorem took_old {L : List Pk} {p x : Pk} {k : Key} {now : Int} {s s' : List AH} {T : List Pk} {r : Option Pk} (C : Cutting L p) (hn : KN s) (hlen : s.length < 8) (hin : s.filter (inTimeA now) = s) (hT : Pc k s T) (hxT : x ∈ T) (hxL : x ∈ L) (h : Took k now x s s' r) :
    r = none ∧ s' = s := by
  have hxe := C.each x hxL
  have hsub : ∃ b l, (⟨k, b, l⟩ : AH) ∈ s ∧ l.Perm T := by
    rcases hT with ⟨h1, _⟩ | ⟨_, h2⟩
    · rw [h1] at hxT; simp at hxT
    · exact h2
  obtain ⟨b0, l0, hm0, hl0⟩ := hsub
  have hnot : ¬ (x.more = false ∧ x.off = 0) := by
    rintro ⟨h1, h2⟩
    obtain ⟨y, hy, hne⟩ : ∃ y ∈ L, y ≠ x := by
      have h2' := C.two
      have hnd := C.nodup
      match L, h2' with
      | a :: b :: r, _ =>
        by_cases e : a = x
        · refine ⟨b, by simp, fun e2 => ?_⟩
          rw [List.nodup_cons] at hnd
          exact hnd.1 (by rw [e, ← e2]; simp)
        · exact ⟨a, by simp, e⟩
    have h3 := (C.last_of hxL h1 y hy hne).1
    have h4 := contig_ge L 0 C.contig_ y hy
    omega
  unfold Took at h
  rw [if_neg (by rw [hxe.1]; simp), if_neg hnot, if_neg (by rw [hxe.2]; simp), hin] at h
  obtain ⟨s2, l, b, hroom, hput⟩ := h
  rcases hroom with ⟨hm, rfl⟩ | ⟨hno, _⟩
  · have := kn_inj hn hm hm0 rfl
    simp only [AH.mk.injEq, true_and] at this
    have hxl : x ∈ l := by rw [this.2]; exact hl0.mem_iff.2 hxT
    obtain ⟨e1, e2⟩ := C.put_old hxl hput
    exact ⟨e2, e1⟩
  · exact absurd rfl (hno _ hm0)
end Go.Proofs.Ytfdjpmglfjiamaa
