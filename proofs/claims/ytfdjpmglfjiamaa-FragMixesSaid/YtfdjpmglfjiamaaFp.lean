/- Take at the pieces that Split gave, in the midst of the law FragWhole. -/
import Derived.Test.YtfdjpmglfjiamaaTn
import Derived.Test.YtfdjpmglfjiamaaFw
namespace Go.Proofs.Ytfdjpmglfjiamaa
open Go Go.Sort Go.RowKit
set_option linter.unusedSimpArgs false
set_option linter.unusedVariables false

/-- The key of the pieces L of p. -/
def kAt (pe ep : Int) (L : List Pk) (p : Pk) : Key := ⟨pe, ep, p.src, p.dst, p.proto, (L.headD zpk).id⟩
theorem key_at {L : List Pk} {p x : Pk} (C : Cutting L p) (hx : x ∈ L) (pe ep : Int) : kAt pe ep L p = keyOf pe ep x := by
  obtain ⟨h1, h2, h3, h4⟩ := C.key x hx
  simp [kAt, keyOf, h1, h2, h3, h4]

/-- Pieces T of p lie in the box, and maybe one of another tag; nothing else. -/
structure StW (L : List Pk) (p : Pk) (s : List AH) (T T2 : List Pk) : Prop where
  t1 : Pc (kAt 1 1 L p) s T
  t2 : Pc (kAt 1 2 L p) s T2
  oth : ∀ k', k' ≠ kAt 1 1 L p → k' ≠ kAt 1 2 L p → Pc k' s []
  two : T2 = [] ∨ T2 = [L.headD zpk]
def St (L : List Pk) (p : Pk) (s : List AH) (T : List Pk) : Prop :=
  (L = [p] ∧ T = [] ∧ right p = true ∧ p.off = 0 ∧ p.more = false ∧ p.cut = false ∧ (p.src.v6 = true → p.id = 0) ∧ s = []) ∨ (Cutting L p ∧ ∃ T2, StW L p s T T2)

theorem kAt_ne (L : List Pk) (p : Pk) : kAt 1 2 L p ≠ kAt 1 1 L p := by simp [kAt]

/-- At most two heaps. -/
theorem two_keys {k1 k2 : Key} {s : List AH} (hn : KN s) (h : ∀ x ∈ s, x.key = k1 ∨ x.key = k2) : s.length ≤ 2 := by
  match s, hn, h with
  | [], _, _ => simp
  | [_], _, _ => simp
  | [_, _], _, _ => simp
  | a :: b :: c :: r, hn, h =>
    unfold KN at hn
    simp only [List.map_cons, List.nodup_cons, List.mem_cons, not_or] at hn
    obtain ⟨⟨h1, h2, _⟩, ⟨h3, _⟩, _⟩ := hn
    have ha := h a (by simp)
    have hb := h b (by simp)
    have hc := h c (by simp)
    rcases ha with ha | ha <;> rcases hb with hb | hb <;> rcases hc with hc | hc <;> rw [ha, hb] at h1 <;> rw [ha, hc] at h2 <;> rw [hb, hc] at h3 <;> simp_all
theorem StW.few {L : List Pk} {p : Pk} {s : List AH} {T T2 : List Pk} (h : StW L p s T T2) (hn : KN s) : s.length ≤ 2 := by
  refine two_keys (k1 := kAt 1 1 L p) (k2 := kAt 1 2 L p) hn fun x hx => Classical.byContradiction fun hne => ?_
  rw [not_or] at hne
  rcases h.oth x.key hne.1 hne.2 with ⟨_, h2⟩ | ⟨h1, _⟩
  · exact h2 x hx rfl
  · exact h1 rfl
theorem St.few {L : List Pk} {p : Pk} {s : List AH} {T : List Pk} (h : St L p s T) (hn : KN s) : s.length ≤ 2 := by
  rcases h with ⟨_, _, _, _, _, _, _, rfl⟩ | ⟨_, T2, h⟩
  · simp
  · exact h.few hn
theorem St.some_ {L : List Pk} {p : Pk} {s : List AH} {T : List Pk} (h : St L p s T) (hT : T ≠ []) : 1 ≤ s.length := by
  rcases h with ⟨_, rfl, _⟩ | ⟨_, T2, h⟩
  · exact absurd rfl hT
  · rcases h.t1 with ⟨rfl, _⟩ | ⟨_, b, l, hm, _⟩
    · exact absurd rfl hT
    · cases s with
      | nil => simp at hm
      | cons a r => simp

/-- At the start. -/
theorem St.start {L : List Pk} {p : Pk} {mtu id : Int} (h : split p mtu id = (0, L)) (h0 : p.off = 0) (hm : p.more = false) (h64 : L.length ≤ 64) : St L p [] [] := by
  by_cases h1 : L.length = 1
  · obtain ⟨hr, hc, hb, _⟩ := split_ok h
    refine .inl ⟨((split_ne h).2.1 h1).1, rfl, hr, h0, hm, hc, fun h6 => ?_, rfl⟩
    simp only [right, h6, if_true, right6, Bool.and_eq_true, hc, Bool.false_or] at hr
    have := hr.2.2.2
    simp at this
    exact this.1.1
  · exact .inr ⟨(split_cutting h h0 hm h1 h64).1, [], .inl ⟨rfl, by simp⟩, .inl ⟨rfl, by simp⟩, fun _ _ _ => .inl ⟨rfl, by simp⟩, .inl rfl⟩

theorem nowOf_le {now t : Int} {n : Nat} (h : now ≤ n) (ht : t = n) : nowOf now t ≤ n := by
  unfold nowOf; subst ht; omega

/-- Behind the call with the next piece. -/
structure MainEnd (S : Nat → Array Value → Prop) (B : Nat) (W : World) (bb : Nat) (now count : Int) (L : List Pk) (p0 : Pk) (y : Pk) (T R : List Pk) (w' : World) (q : Pk) : Prop where
  fr : Fr B W w'
  done : R = [] → er q = p0 ∧ ExtsAt w' q ∧ Cloned W.heap.size w' q
  more : R ≠ [] → ∃ hs' count', BoxAt B w' bb now count' hs' ∧ count' ≤ count + 1 ∧ St L p0 (hs'.map Hp.ab) (T ++ [y]) ∧ ∀ k c, S k c → ∀ h ∈ hs', h.pv.ownBlock ≠ some k

theorem main_take {S : Nat → Array Value → Prop} {L : List Pk} {p0 x : Pk} {B : Nat} {W : World} {bb : Nat} {now count : Int} {hs : List Hp} {T R : List Pk} (hb : BoxAt B W bb now count hs) (hS : St L p0 (hs.map Hp.ab) T) (t : Int) (hE : ExtsAt W x) (hA : Aside B W x)
    (ho : x.opts.size ≤ 140737488351232) (hpy : x.pay.size ≤ 140737488351232) (hp : (T ++ er x :: R).Perm L) (hn : nowOf now t < 30000) (hc : count ≤ 4611686018427387904) (hsp : ∀ k c, S k c → W.heap[k]? = some (.cells c 27) ∧ ∀ h ∈ hs, h.pv.ownBlock ≠ some k) :
    Calls Try.prog 12 #[.pointer (some ⟨bb, 0, none⟩), .int .i64 t, .agg #[.int .i64 1, .int .i64 1], .agg (pkc x)] W fun e w' =>
      ∃ q, e = .returned (.tuple #[.agg (pkc q), .bool R.isEmpty]) ∧ MainEnd S B W bb (nowOf now t) count L p0 (er x) T R w' q ∧ ∀ k c, S k c → w'.heap[k]? = some (.cells c 27) := by
  rcases hS with ⟨rfl, rfl, hr, h0, hm, hcut, h6, hs0⟩ | ⟨C, T2, hS⟩
  · have hlen := hp.length_eq
    simp at hlen
    have hR : R = [] := hlen
    subst hR
    have hx : er x = p0 := by
      have := hp.mem_iff.1 (show er x ∈ [] ++ er x :: [] by simp)
      simpa using this
    have hs' : hs = [] := by simpa using hs0
    refine (take_spare (S := S) hb t 1 1 x hE hA ho hpy hc (by rw [hs']; simp) hsp).mono ?_
    rintro e w' ⟨hs', count', r, ⟨q, rfl, hq0, hq1⟩, hbox, hfr, h1, h2, htook, hspare⟩
    rw [hx] at htook
    unfold Took at htook
    rw [if_neg (by rw [hr]; simp), if_pos ⟨hm, h0⟩] at htook
    obtain ⟨_, rfl⟩ := htook
    obtain ⟨e1, e2, e3⟩ := hq1 _ rfl
    refine ⟨q, rfl, ⟨hfr, fun _ => ⟨?_, e2, e3⟩, fun h => absurd rfl h⟩, fun k c h => (hspare k c h).1⟩
    rw [e1]
    obtain ⟨src, dst, proto, hop, cls, pid, off, more, still, opts, flow, xa, xl, xc, cut, pay, exts⟩ := p0
    simp only at h0 hm hcut h6
    subst h0 hm hcut
    cases h : src.v6
    · simp [bareP, h]
    · have := h6 h
      subst this
      simp [bareP, h]
  · have hx : er x ∈ L := hp.mem_iff.1 (by simp)
    have hk := kn_of_box hb
    have hf := hS.few hk
    rw [List.length_map] at hf
    refine (take_newS (S := S) (k := kAt 1 1 L p0) C hb t 1 1 (key_at C hx 1 1) hE hA hS.t1 hp hn (by omega) hc hsp).mono ?_
    rintro e w' ⟨hs', count', q, rfl, hN, hspare⟩
    refine ⟨q, rfl, ⟨hN.fr, fun hR => ⟨(hN.done hR).1, (hN.done hR).2.1, (hN.done hR).2.2.1⟩, fun hR => ⟨hs', count', hN.box, hN.c1, .inr ⟨C, T2, (hN.more hR).2, ?_, ?_, hS.two⟩, fun k c h => (hspare k c h).2⟩⟩, fun k c h => (hspare k c h).1⟩
    · exact hN.kept.other _ _ (kAt_ne L p0) hS.t2
    · exact fun k' h1 h2 => hN.kept.other _ _ h1 (hS.oth k' h1 h2)

/-- With a piece under another tag. -/
theorem other_take {S : Nat → Array Value → Prop} {L : List Pk} {p0 x : Pk} {B : Nat} {W : World} {bb : Nat} {now count : Int} {hs : List Hp} {T : List Pk} (h2 : 1 < L.length) (hb : BoxAt B W bb now count hs) (hS : St L p0 (hs.map Hp.ab) T) (t : Int) (hE : ExtsAt W x) (hA : Aside B W x)
    (hx : L.head? = some (er x)) (hn : nowOf now t < 30000) (hc : count ≤ 4611686018427387904) (hsp : ∀ k c, S k c → W.heap[k]? = some (.cells c 27) ∧ ∀ h ∈ hs, h.pv.ownBlock ≠ some k) :
    Calls Try.prog 12 #[.pointer (some ⟨bb, 0, none⟩), .int .i64 t, .agg #[.int .i64 1, .int .i64 2], .agg (pkc x)] W fun e w' =>
      e = .returned (.tuple #[.agg (pkc zpk), .bool false]) ∧ Fr B W w' ∧ ∃ hs' count', BoxAt B w' bb (nowOf now t) count' hs' ∧ count' ≤ count + 1 ∧ St L p0 (hs'.map Hp.ab) T ∧ ∀ k c, S k c → w'.heap[k]? = some (.cells c 27) ∧ ∀ h ∈ hs', h.pv.ownBlock ≠ some k := by
  rcases hS with ⟨rfl, _⟩ | ⟨C, T2, hS⟩
  · simp at h2
  · have hxL : er x ∈ L := List.mem_of_mem_head? hx
    have hd : L.headD zpk = er x := by rw [List.headD_eq_head?_getD, hx]; rfl
    have hk := kn_of_box hb
    have hf := hS.few hk
    rw [List.length_map] at hf
    rcases hS.two with h | h
    · have hLe : L = er x :: L.tail := by
        cases L with
        | nil => simp at hx
        | cons a r => simp at hx; rw [hx]; rfl
      have hR : L.tail ≠ [] := by
        intro e
        rw [e] at hLe
        rw [hLe] at h2
        simp at h2
      refine (take_newS (S := S) (k := kAt 1 2 L p0) (T := []) (R := L.tail) C hb t 1 2 (key_at C hxL 1 2) hE hA (by rw [← h]; exact hS.t2) (by rw [List.nil_append, ← hLe]) hn (by omega) hc hsp).mono ?_
      rintro e w' ⟨hs', count', q, rfl, hN, hspare⟩
      obtain ⟨e1, e2⟩ := hN.more hR
      subst e1
      refine ⟨by cases hh : L.tail with | nil => exact absurd hh hR | cons a r => rfl, hN.fr, hs', count', hN.box, hN.c1, .inr ⟨C, [er x], ?_, e2, ?_, .inr (by rw [hd])⟩, hspare⟩
      · exact hN.kept.other _ _ (kAt_ne L p0).symm hS.t1
      · exact fun k' h1 h2 => hN.kept.other _ _ h2 (hS.oth k' h1 h2)
    · refine (take_oldS (S := S) (k := kAt 1 2 L p0) (T := T2) C hb t 1 2 (key_at C hxL 1 2) hE hA hS.t2 (by rw [h, hd]; simp) hxL hn (by omega) hc hsp).mono ?_
      rintro e w' ⟨rfl, hs', count', hbox, hfr, _, h1, hab, hspare⟩
      exact ⟨rfl, hfr, hs', count', hbox, h1, .inr ⟨C, T2, by rw [hab]; exact hS⟩, hspare⟩

/-- Once more with a piece that is there. -/
theorem again_take {S : Nat → Array Value → Prop} {L : List Pk} {p0 x : Pk} {B : Nat} {W : World} {bb : Nat} {now count : Int} {hs : List Hp} {T : List Pk} (hb : BoxAt B W bb now count hs) (hS : St L p0 (hs.map Hp.ab) T) (hT : er x ∈ T) (hL : er x ∈ L) (t : Int) (hE : ExtsAt W x) (hA : Aside B W x)
    (hn : nowOf now t < 30000) (hc : count ≤ 4611686018427387904) (hsp : ∀ k c, S k c → W.heap[k]? = some (.cells c 27) ∧ ∀ h ∈ hs, h.pv.ownBlock ≠ some k) :
    Calls Try.prog 12 #[.pointer (some ⟨bb, 0, none⟩), .int .i64 t, .agg #[.int .i64 1, .int .i64 1], .agg (pkc x)] W fun e w' =>
      e = .returned (.tuple #[.agg (pkc zpk), .bool false]) ∧ Fr B W w' ∧ ∃ hs' count', BoxAt B w' bb (nowOf now t) count' hs' ∧ count' ≤ count + 1 ∧ St L p0 (hs'.map Hp.ab) T ∧ 1 ≤ hs'.length ∧ ∀ k c, S k c → w'.heap[k]? = some (.cells c 27) ∧ ∀ h ∈ hs', h.pv.ownBlock ≠ some k := by
  have hne : T ≠ [] := fun h => by rw [h] at hT; simp at hT
  rcases hS with ⟨_, rfl, _⟩ | ⟨C, T2, hS⟩
  · exact absurd rfl hne
  · have hk := kn_of_box hb
    have hf := hS.few hk
    rw [List.length_map] at hf
    refine (take_oldS (S := S) (k := kAt 1 1 L p0) (T := T) C hb t 1 1 (key_at C hL 1 1) hE hA hS.t1 hT hL hn (by omega) hc hsp).mono ?_
    rintro e w' ⟨rfl, hs', count', hbox, hfr, _, h1, hab, hspare⟩
    have hS' : St L p0 (hs'.map Hp.ab) T := .inr ⟨C, T2, by rw [hab]; exact hS⟩
    exact ⟨rfl, hfr, hs', count', hbox, h1, hS', by simpa using hS'.some_ hne, hspare⟩

/-- A block that was laid behind the box is none of its rows. -/
theorem spare_new {B : Nat} {w : World} {bb : Nat} {now count : Int} {hs : List Hp} (h : BoxAt B w bb now count hs) (k : Nat) (hk : w.heap.size ≤ k) : ∀ x ∈ hs, x.pv.ownBlock ≠ some k := fun x hx e => by
  obtain ⟨_, cur, hc⟩ := own27 (h.heaps x hx).row e
  have := (Array.getElem?_eq_some_iff.1 hc).1
  omega
end Go.Proofs.Ytfdjpmglfjiamaa
