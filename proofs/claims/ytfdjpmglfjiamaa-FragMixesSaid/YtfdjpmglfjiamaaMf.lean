/- Take at the pieces of two packets, mixed, in the midst of the law FragMixes. -/
import Derived.Test.YtfdjpmglfjiamaaFp
namespace Go.Proofs.Ytfdjpmglfjiamaa
open Go Go.Sort Go.RowKit
set_option linter.unusedSimpArgs false
set_option linter.unusedVariables false
set_option linter.constructorNameAsVariable false

/-- Pieces T lie under k1, T2 under k2, and nothing else. -/
structure Two (k1 k2 : Key) (T T2 : List Pk) (s : List AH) : Prop where
  t1 : Pc k1 s T
  t2 : Pc k2 s T2
  oth : ∀ k', k' ≠ k1 → k' ≠ k2 → Pc k' s []
theorem Two.swap {k1 k2 : Key} {T T2 : List Pk} {s : List AH} (h : Two k1 k2 T T2 s) : Two k2 k1 T2 T s := ⟨h.t2, h.t1, fun k' a b => h.oth k' b a⟩
theorem Two.few {k1 k2 : Key} {T T2 : List Pk} {s : List AH} (h : Two k1 k2 T T2 s) (hn : KN s) : s.length ≤ 2 := by
  refine two_keys (k1 := k1) (k2 := k2) hn fun x hx => Classical.byContradiction fun hne => ?_
  rw [not_or] at hne
  rcases h.oth x.key hne.1 hne.2 with ⟨_, h2⟩ | ⟨h1, _⟩
  · exact h2 x hx rfl
  · exact h1 rfl
theorem Two.none_ {k1 k2 : Key} {s : List AH} (h : Two k1 k2 [] [] s) : s = [] := by
  cases s with
  | nil => rfl
  | cons a r =>
    exfalso
    have hno : ∀ k, Pc k (a :: r) [] → a.key ≠ k := fun k hk => by
      rcases hk with ⟨_, h2⟩ | ⟨h1, _⟩
      · exact h2 a (by simp)
      · exact absurd rfl h1
    by_cases e1 : a.key = k1
    · exact hno k1 h.t1 e1
    · by_cases e2 : a.key = k2
      · exact hno k2 h.t2 e2
      · exact hno _ (h.oth _ e1 e2) rfl
theorem Two.start (k1 k2 : Key) : Two k1 k2 [] [] [] := ⟨.inl ⟨rfl, by simp⟩, .inl ⟨rfl, by simp⟩, fun _ _ _ => .inl ⟨rfl, by simp⟩⟩

/-- Behind a call. -/
structure MixEnd (S : Nat → Array Value → Prop) (B : Nat) (W : World) (bb : Nat) (now count : Int) (p0 : Pk) (k1 k2 : Key) (y : Pk) (T T2 R : List Pk) (w' : World) (q : Pk) : Prop where
  fr : Fr B W w'
  done : R = [] → er q = p0 ∧ ExtsAt w' q ∧ Cloned W.heap.size w' q
  box : ∃ hs' count', BoxAt B w' bb now count' hs' ∧ count' ≤ count + 1 ∧ Two k1 k2 (if R = [] then [] else T ++ [y]) T2 (hs'.map Hp.ab) ∧ ∀ k c, S k c → w'.heap[k]? = some (.cells c 27) ∧ ∀ h ∈ hs', h.pv.ownBlock ≠ some k

theorem mix_take {S : Nat → Array Value → Prop} {L : List Pk} {p0 x : Pk} {B : Nat} {W : World} {bb : Nat} {now count : Int} {hs : List Hp} {T T2 R : List Pk} {k1 k2 : Key} (C : Cutting L p0) (hb : BoxAt B W bb now count hs) (hS : Two k1 k2 T T2 (hs.map Hp.ab)) (hne : k2 ≠ k1) (t pe ep : Int) (hk : k1 = keyOf pe ep (er x)) (hE : ExtsAt W x) (hA : Aside B W x)
    (hp : (T ++ er x :: R).Perm L) (hn : nowOf now t < 30000) (hc : count ≤ 4611686018427387904) (hsp : ∀ k c, S k c → W.heap[k]? = some (.cells c 27) ∧ ∀ h ∈ hs, h.pv.ownBlock ≠ some k) :
    Calls Try.prog 12 #[.pointer (some ⟨bb, 0, none⟩), .int .i64 t, .agg #[.int .i64 pe, .int .i64 ep], .agg (pkc x)] W fun e w' =>
      ∃ q, e = .returned (.tuple #[.agg (pkc q), .bool R.isEmpty]) ∧ MixEnd S B W bb (nowOf now t) count p0 k1 k2 (er x) T T2 R w' q := by
  have hf := hS.few (kn_of_box hb)
  rw [List.length_map] at hf
  refine (take_newS (S := S) C hb t pe ep hk hE hA hS.t1 hp hn (by omega) hc hsp).mono ?_
  rintro e w' ⟨hs', count', q, rfl, hN, hspare⟩
  refine ⟨q, rfl, hN.fr, fun hR => ⟨(hN.done hR).1, (hN.done hR).2.1, (hN.done hR).2.2.1⟩, hs', count', hN.box, hN.c1, ⟨?_, ?_, ?_⟩, hspare⟩
  · by_cases hR : R = []
    · rw [if_pos hR]; exact (hN.done hR).2.2.2
    · rw [if_neg hR]; exact (hN.more hR).2
  · exact hN.kept.other _ _ hne hS.t2
  · exact fun k' h1 h2 => hN.kept.other _ _ h1 (hS.oth k' h1 h2)

/-- Where the key is from. -/
def kOf (pe ep : Int) (L : List Pk) (p : Pk) : Key := ⟨pe, ep, p.src, p.dst, p.proto, (L.headD zpk).id⟩
/-- The two packets' keys are two. -/
theorem keys_two {p q : Pk} {A D : List Pk} {other : Bool} (a6 : p.src.v6 = true → (A.headD zpk).id = 1) (a4 : p.src.v6 = false → (A.headD zpk).id = p.id) (b6 : q.src.v6 = true → (D.headD zpk).id = 2) (b4 : q.src.v6 = false → (D.headD zpk).id = q.id) :
    kAt 1 (if (other || (!p.src.v6 && p.id == q.id)) = true then 2 else 1) D q ≠ kAt 1 1 A p := by
  intro h
  simp only [kAt, Key.mk.injEq] at h
  obtain ⟨_, h1, h2, h3, h4, h5⟩ := h
  by_cases hc : (other || (!p.src.v6 && p.id == q.id)) = true
  · rw [if_pos hc] at h1; omega
  · have hc' := Bool.eq_false_iff.2 hc
    rw [Bool.or_eq_false_iff, Bool.and_eq_false_iff] at hc'
    cases h6 : p.src.v6
    · have hq6 : q.src.v6 = false := by rw [h2]; exact h6
      rw [a4 h6, b4 hq6] at h5
      rcases hc'.2 with h7 | h7
      · rw [h6] at h7; cases h7
      · rw [h5] at h7; simp at h7
    · have hq6 : q.src.v6 = true := by rw [h2]; exact h6
      rw [a6 h6, b6 hq6] at h5
      omega

/-- What has been taken from the back, from the front. -/
theorem perm_back {L T : List Pk} {i : Nat} (h : (T ++ L.take (L.length - i)).Perm L) (hi : i < L.length) : (T ++ L[L.length - 1 - i]'(by omega) :: L.take (L.length - (i + 1))).Perm L := by
  refine List.Perm.trans ?_ h
  refine List.Perm.append_left T ?_
  have e : L.take (L.length - i) = L.take (L.length - (i + 1)) ++ [L[L.length - 1 - i]'(by omega)] := by
    have h1 : L.length - i = (L.length - 1 - i) + 1 := by omega
    have h2 : L.length - (i + 1) = L.length - 1 - i := by omega
    rw [h1, h2]
    exact List.take_succ_eq_append_getElem (by omega)
  rw [e]
  exact (List.perm_append_comm (l₁ := [_])).trans (List.Perm.refl _)
theorem perm_front {L T : List Pk} {k : Nat} (h : (T ++ L.drop k).Perm L) (hk : k < L.length) : (T ++ L[k] :: L.drop (k + 1)).Perm L := by
  rw [← List.drop_eq_getElem_cons hk]; exact h
theorem perm_more {L T R : List Pk} {y : Pk} (h : (T ++ y :: R).Perm L) : ((T ++ [y]) ++ R).Perm L := by
  rw [List.append_assoc]; exact h

/-- A block that is none of the box's kinds has turned. -/
theorem BoxAt.else_ {B x : Nat} {w w' : World} {bb : Nat} {now count : Int} {hs : List Hp} {c : Array Value} {t : TypeId} {fr : Nat × Nat} (h : BoxAt B w bb now count hs) (hw : w.heap[x]? = some (.cells c t fr)) (h27 : t ≠ 27) (h63 : t ≠ 63) (h74 : t ≠ 74) (h59 : t ≠ 59)
    (hs' : w.heap.size ≤ w'.heap.size) (hk : ∀ k, k < w.heap.size → k ≠ x → w'.heap[k]? = w.heap[k]?) : BoxAt B w' bb now count hs := by
  have keep : ∀ {k o}, w.heap[k]? = some o → (∀ c fr, o ≠ Obj.cells c t fr) → w'.heap[k]? = some o := fun {k o} hko hne => by
    have : k ≠ x := by rintro rfl; rw [hw] at hko; cases hko; exact hne _ _ rfl
    rw [hk k (Array.getElem?_eq_some_iff.1 hko).1 this]; exact hko
  refine ⟨h.lo, ?_, fun y hy => ?_, h.keys, h.borns, h.blks, h.rows, h.now0, h.now1, h.began, h.count0, h.ords, h.few⟩
  · rcases h.mp with ⟨h1, h2⟩ | ⟨mb, clock, h1, h2, h3, h4⟩
    · exact .inl ⟨h1, keep h2 (by intro c fr e; simp at e; exact h63 e.2.1.symm)⟩
    · exact .inr ⟨mb, clock, h1, keep h2 (by intro c fr e; simp at e; exact h63 e.2.1.symm), keep h3 (by intro c fr e; cases e), h4⟩
  · have H := h.heaps y hy
    refine H.move hs' ?_ (fun g hg => ?_) (fun p hp c' hc => ?_)
    · rw [keep H.at_ (by intro c fr e; simp at e; exact h74 e.2.1.symm)]; exact H.at_.symm
    · obtain ⟨_, cur, hcur⟩ := own27 H.row hg
      rw [keep hcur (by intro c fr e; simp at e; exact h27 e.2.1.symm)]; exact hcur.symm
    · rw [keep hc (by intro c fr e; simp at e; exact h59 e.2.1.symm)]; exact hc.symm
end Go.Proofs.Ytfdjpmglfjiamaa
