/- Take at the pieces of a cutting: the call. -/
import Derived.Test.YtfdjpmglfjiamaaTa
import Derived.Test.YtfdjpmglfjiamaaPt
namespace Go.Proofs.Ytfdjpmglfjiamaa
open Go Go.Sort Go.RowKit
set_option linter.unusedSimpArgs false
set_option linter.unusedVariables false

theorem opts_small {p : Pk} (h : right p = true) : p.opts.size ≤ 40 := by
  simp only [right, Bool.and_eq_true] at h
  cases h6 : p.src.v6
  · have h2 := h.2
    simp only [h6] at h2
    simp [right4] at h2
    omega
  · have h2 := h.2
    simp only [h6, if_true, Bool.and_eq_true, right6, decide_eq_true_eq] at h2
    have h3 := h2.2.1.1.1.1.1.2
    rw [ByteArray.toList_eq] at h3
    have : p.opts.data.toList.length = 0 := by rw [h3]; rfl
    simp at this
    have h4 : p.opts.size = 0 := by
      show p.opts.data.size = 0
      simp [this]
    omega

theorem kn_of_box {B : Nat} {w : World} {bb : Nat} {now count : Int} {hs : List Hp} (h : BoxAt B w bb now count hs) : KN (hs.map Hp.ab) := by
  unfold KN
  rw [List.map_map]
  exact h.keys
theorem in_time {B : Nat} {w : World} {bb : Nat} {now count : Int} {hs : List Hp} (h : BoxAt B w bb now count hs) {n : Int} (hn : n < 30000) : (hs.map Hp.ab).filter (inTimeA n) = hs.map Hp.ab := by
  rw [List.filter_eq_self]
  intro a ha
  obtain ⟨x, hx, rfl⟩ := List.mem_map.1 ha
  have := (h.began x hx).1
  have h2 : x.ab.began = x.began := rfl
  simp only [inTimeA, decide_eq_true_eq]
  omega

/-- Behind a call with a piece that is new. -/
structure NewEnd (B : Nat) (W : World) (bb : Nat) (now count : Int) (hs : List Hp) (k : Key) (p0 : Pk) (x : Pk) (T R : List Pk) (w' : World) (hs' : List Hp) (count' : Int) (q : Pk) : Prop where
  box : BoxAt B w' bb now count' hs'
  fr : Fr B W w'
  c0 : count ≤ count'
  c1 : count' ≤ count + 1
  kept : Kept k (hs.map Hp.ab) (hs'.map Hp.ab)
  done : R = [] → er q = p0 ∧ ExtsAt w' q ∧ Cloned W.heap.size w' q ∧ Pc k (hs'.map Hp.ab) []
  more : R ≠ [] → q = zpk ∧ Pc k (hs'.map Hp.ab) (T ++ [er x])

theorem take_newS {S : Nat → Array Value → Prop} {L : List Pk} {p0 x : Pk} {B : Nat} {W : World} {bb : Nat} {now count : Int} {hs : List Hp} {T R : List Pk} {k : Key} (C : Cutting L p0) (hb : BoxAt B W bb now count hs) (t pe ep : Int) (hk : k = keyOf pe ep (er x)) (hE : ExtsAt W x) (hA : Aside B W x)
    (hT : Pc k (hs.map Hp.ab) T) (hp : (T ++ er x :: R).Perm L) (hn : nowOf now t < 30000) (hlen : hs.length < 8) (hc : count ≤ 4611686018427387904) (hsp : ∀ k c, S k c → W.heap[k]? = some (.cells c 27) ∧ ∀ h ∈ hs, h.pv.ownBlock ≠ some k) :
    Calls Try.prog 12 #[.pointer (some ⟨bb, 0, none⟩), .int .i64 t, .agg #[.int .i64 pe, .int .i64 ep], .agg (pkc x)] W fun e w' =>
      ∃ hs' count' q, e = .returned (.tuple #[.agg (pkc q), .bool R.isEmpty]) ∧ NewEnd B W bb (nowOf now t) count hs k p0 x T R w' hs' count' q ∧ ∀ k c, S k c → w'.heap[k]? = some (.cells c 27) ∧ ∀ h ∈ hs', h.pv.ownBlock ≠ some k := by
  have hx : er x ∈ L := hp.mem_iff.1 (by simp)
  have hxe := C.each _ hx
  have hr : right x = true := by rw [← right_er]; exact hxe.1
  have ho := opts_small hr
  have hps : x.pay.size ≤ 65535 := by
    have := hxe.2
    unfold badPiece reachN at this
    rw [Bool.or_eq_false_iff] at this
    have h1 := of_decide_eq_false this.2
    have h2 := right_offs hxe.1
    have h3 : (er x).pay.size = x.pay.size := rfl
    rw [h3] at h1
    omega
  refine (take_spare (S := S) hb t pe ep x hE hA (by omega) (by omega) hc (by omega) hsp).mono ?_
  rintro e w' ⟨hs', count', r, ⟨q, rfl, hq0, hq1⟩, hbox, hfr, h0, h1, htook, hspare⟩
  rw [← hk] at htook
  obtain ⟨k1, k2, k3⟩ := took_new C (kn_of_box hb) (by simpa using hlen) (in_time hb hn) hT hp htook
  refine ⟨hs', count', q, ?_, ⟨hbox, hfr, h0, h1, k1, fun hR => ?_, fun hR => ?_⟩, hspare⟩
  · by_cases hR : R = []
    · rw [(k2 hR).1, hR]; rfl
    · rw [(k3 hR).1]
      cases R with
      | nil => exact absurd rfl hR
      | cons a R => rfl
  · obtain ⟨e1, e2⟩ := k2 hR
    obtain ⟨f1, f2, f3⟩ := hq1 p0 e1
    exact ⟨f1, f2, f3, e2⟩
  · obtain ⟨e1, e2⟩ := k3 hR
    exact ⟨hq0 e1, e2⟩

theorem take_new {L : List Pk} {p0 x : Pk} {B : Nat} {W : World} {bb : Nat} {now count : Int} {hs : List Hp} {T R : List Pk} {k : Key} (C : Cutting L p0) (hb : BoxAt B W bb now count hs) (t pe ep : Int) (hk : k = keyOf pe ep (er x)) (hE : ExtsAt W x) (hA : Aside B W x)
    (hT : Pc k (hs.map Hp.ab) T) (hp : (T ++ er x :: R).Perm L) (hn : nowOf now t < 30000) (hlen : hs.length < 8) (hc : count ≤ 4611686018427387904) :
    Calls Try.prog 12 #[.pointer (some ⟨bb, 0, none⟩), .int .i64 t, .agg #[.int .i64 pe, .int .i64 ep], .agg (pkc x)] W fun e w' =>
      ∃ hs' count' q, e = .returned (.tuple #[.agg (pkc q), .bool R.isEmpty]) ∧ NewEnd B W bb (nowOf now t) count hs k p0 x T R w' hs' count' q :=
  (take_newS (S := fun _ _ => False) C hb t pe ep hk hE hA hT hp hn hlen hc (fun _ _ h => h.elim)).mono fun _ _ ⟨hs', count', q, h1, h2, _⟩ => ⟨hs', count', q, h1, h2⟩

/-- .. with a piece that is there. -/
theorem take_oldS {S : Nat → Array Value → Prop} {L : List Pk} {p0 x : Pk} {B : Nat} {W : World} {bb : Nat} {now count : Int} {hs : List Hp} {T : List Pk} {k : Key} (C : Cutting L p0) (hb : BoxAt B W bb now count hs) (t pe ep : Int) (hk : k = keyOf pe ep (er x)) (hE : ExtsAt W x) (hA : Aside B W x)
    (hT : Pc k (hs.map Hp.ab) T) (hxT : er x ∈ T) (hx : er x ∈ L) (hn : nowOf now t < 30000) (hlen : hs.length < 8) (hc : count ≤ 4611686018427387904) (hsp : ∀ k c, S k c → W.heap[k]? = some (.cells c 27) ∧ ∀ h ∈ hs, h.pv.ownBlock ≠ some k) :
    Calls Try.prog 12 #[.pointer (some ⟨bb, 0, none⟩), .int .i64 t, .agg #[.int .i64 pe, .int .i64 ep], .agg (pkc x)] W fun e w' =>
      e = .returned (.tuple #[.agg (pkc zpk), .bool false]) ∧ ∃ hs' count', BoxAt B w' bb (nowOf now t) count' hs' ∧ Fr B W w' ∧ count ≤ count' ∧ count' ≤ count + 1 ∧ hs'.map Hp.ab = hs.map Hp.ab ∧ ∀ k c, S k c → w'.heap[k]? = some (.cells c 27) ∧ ∀ h ∈ hs', h.pv.ownBlock ≠ some k := by
  have hxe := C.each _ hx
  have hr : right x = true := by rw [← right_er]; exact hxe.1
  have ho := opts_small hr
  have hps : x.pay.size ≤ 65535 := by
    have := hxe.2
    unfold badPiece reachN at this
    rw [Bool.or_eq_false_iff] at this
    have h1 := of_decide_eq_false this.2
    have h2 := right_offs hxe.1
    have h3 : (er x).pay.size = x.pay.size := rfl
    rw [h3] at h1
    omega
  refine (take_spare (S := S) hb t pe ep x hE hA (by omega) (by omega) hc (by omega) hsp).mono ?_
  rintro e w' ⟨hs', count', r, ⟨q, rfl, hq0, hq1⟩, hbox, hfr, h0, h1, htook, hspare⟩
  rw [← hk] at htook
  obtain ⟨k1, k2⟩ := took_old C (kn_of_box hb) (by simpa using hlen) (in_time hb hn) hT hxT hx htook
  rw [k1, hq0 k1]
  exact ⟨rfl, hs', count', hbox, hfr, h0, h1, k2, hspare⟩
theorem take_old {L : List Pk} {p0 x : Pk} {B : Nat} {W : World} {bb : Nat} {now count : Int} {hs : List Hp} {T : List Pk} {k : Key} (C : Cutting L p0) (hb : BoxAt B W bb now count hs) (t pe ep : Int) (hk : k = keyOf pe ep (er x)) (hE : ExtsAt W x) (hA : Aside B W x)
    (hT : Pc k (hs.map Hp.ab) T) (hxT : er x ∈ T) (hx : er x ∈ L) (hn : nowOf now t < 30000) (hlen : hs.length < 8) (hc : count ≤ 4611686018427387904) :
    Calls Try.prog 12 #[.pointer (some ⟨bb, 0, none⟩), .int .i64 t, .agg #[.int .i64 pe, .int .i64 ep], .agg (pkc x)] W fun e w' =>
      e = .returned (.tuple #[.agg (pkc zpk), .bool false]) ∧ ∃ hs' count', BoxAt B w' bb (nowOf now t) count' hs' ∧ Fr B W w' ∧ count ≤ count' ∧ count' ≤ count + 1 ∧ hs'.map Hp.ab = hs.map Hp.ab :=
  (take_oldS (S := fun _ _ => False) C hb t pe ep hk hE hA hT hxT hx hn hlen hc (fun _ _ h => h.elim)).mono fun _ _ ⟨h1, hs', count', h2, h3, h4, h5, h6, _⟩ => ⟨h1, hs', count', h2, h3, h4, h5, h6⟩
end Go.Proofs.Ytfdjpmglfjiamaa
