/- The reading of an argument: an address, a packet, a call of the script. -/
import Derived.Test.YtfdjpmglfjiamaaRun
import Derived.OpenShut
import Derived.Deep.Slices
import Derived.SizedLaws
namespace Go.Proofs.Ytfdjpmglfjiamaa
open Go Go.Sort Go.RowKit Go.Deep
set_option linter.unusedSimpArgs false
set_option linter.unusedVariables false
section
variable {H : Type} {enc : TypeId × Value → H} {w : World} {base : Nat} {spare : Nat → Bool} {held : Bool} {fuel : Nat}

theorem take_one {cs : List Value} {o : Nat} {v : Value} (h : (cs.drop o).take 1 = [v]) : cs[o]? = some v := by
  have h1 : ((cs.drop o).take 1)[0]? = some v := by rw [h]; rfl
  rw [List.getElem?_take_of_lt (by omega), List.getElem?_drop] at h1
  simpa using h1

/-- Sixteen bytes. -/
theorem read_bytes {cs : List Value} {x : DataW H × List MemPlace} (h : DataW.trod enc Try.prog w base spare held fuel 22 cs = some x) : ∃ b : Vector Int 16, cs = b.toList.map (Value.int .u8) := by
  obtain ⟨xs, m, rfl, rfl, hl, hn, hall⟩ := DataW.trod_array Try.underlying22 h
  have hc : Try.prog.cellsOf 22 = 16 := by kernel_rfl
  have hc5 : Try.prog.cellsOf 5 = 1 := by kernel_rfl
  rw [hc] at hl
  have hb : ∀ i, i < 16 → ∃ n : Int, cs[i]? = some (.int .u8 n) := fun i hi => by
    have h1 := hall i hi
    rw [hc5, Nat.mul_one, List.getElem?_eq_getElem (by omega)] at h1
    obtain ⟨n, hn, _⟩ := DataW.trod_int Try.underlying5 h1
    exact ⟨n, take_one hn⟩
  have hf : ∃ f : Nat → Int, ∀ i, i < 16 → cs[i]? = some (.int .u8 (f i)) := ⟨fun i => if hi : i < 16 then Classical.choose (hb i hi) else 0, fun i hi => by
    simp only [dif_pos hi]
    exact Classical.choose_spec (hb i hi)⟩
  obtain ⟨f, hf⟩ := hf
  refine ⟨Vector.ofFn fun i => f i.1, ?_⟩
  apply List.ext_getElem?
  intro i
  by_cases hi : i < 16
  · rw [hf i hi, List.getElem?_map]
    simp [hi]
  · rw [List.getElem?_eq_none (by omega), List.getElem?_eq_none (by simp; omega)]
/-- An address. -/
theorem read_ad {cs : List Value} {x : DataW H × List MemPlace} (h : DataW.trod enc Try.prog w base spare held fuel 24 cs = some x) : ∃ a : Ad, cs = adl a := by
  obtain ⟨xs, m, rfl, rfl, hl, hn, hall⟩ := DataW.trod_struct Try.underlying24 h
  have hc : Try.prog.cellsOf 24 = 17 := by kernel_rfl
  have hc22 : Try.prog.cellsOf 22 = 16 := by kernel_rfl
  have hc4 : Try.prog.cellsOf 4 = 1 := by kernel_rfl
  rw [hc] at hl
  have h0 : DataW.trod enc Try.prog w base spare held m 4 ((cs.drop 0).take (Try.prog.cellsOf 4)) = xs[0]? := hall 0 _ rfl
  have h1 : DataW.trod enc Try.prog w base spare held m 22 ((cs.drop 1).take (Try.prog.cellsOf 22)) = xs[1]? := hall 1 _ rfl
  rw [hc4, List.drop_zero] at h0
  rw [hc22] at h1
  have hn2 : xs.length = 2 := hn
  rw [List.getElem?_eq_getElem (by omega)] at h0 h1
  obtain ⟨b, hb, _⟩ := DataW.trod_bool Try.underlying4 h0
  obtain ⟨v, hv⟩ := read_bytes h1
  refine ⟨⟨b, v⟩, ?_⟩
  rw [List.take_of_length_le (by rw [List.length_drop]; omega)] at hv
  cases cs with
  | nil => simp at hl
  | cons c r =>
    rw [List.take_succ_cons, List.take_zero, List.cons.injEq] at hb
    rw [List.drop_succ_cons, List.drop_zero] at hv
    rw [hb.1, hv]
    rfl
theorem drop_split (cs : List Value) (o n : Nat) : cs.drop o = (cs.drop o).take n ++ cs.drop (o + n) := by
  rw [← List.drop_drop, List.take_append_drop]
theorem take_of {cs l : List Value} {o n : Nat} (h : (cs.drop o).take n = l) : cs.drop o = l ++ cs.drop (o + n) := by rw [← h]; exact drop_split cs o n

theorem Try.cells3 : Try.prog.cellsOf 3 = 1 := by kernel_rfl
theorem Try.cells4 : Try.prog.cellsOf 4 = 1 := by kernel_rfl
theorem Try.cells9 : Try.prog.cellsOf 9 = 1 := by kernel_rfl
theorem Try.cells24 : Try.prog.cellsOf 24 = 17 := by kernel_rfl
theorem Try.cells25 : Try.prog.cellsOf 25 = 1 := by kernel_rfl
theorem Try.cells27 : Try.prog.cellsOf 27 = 46 := by kernel_rfl
theorem Try.cells41 : Try.prog.cellsOf 41 = 2 := by kernel_rfl
theorem Try.cells52 : Try.prog.cellsOf 52 = 50 := by kernel_rfl
theorem Try.cells59 : Try.prog.cellsOf 59 = 2 := by kernel_rfl

set_option maxRecDepth 100000 in
/-- An extension header. -/
theorem read_ext {cs : List Value} {x : DataW H × List MemPlace} (h : DataW.trod enc Try.prog w base spare held fuel 59 cs = some x) : ∃ e : Ext, cs = extl e ∧ (e.body.size ∈ x.1.weights Try.prog 59) := by
  obtain ⟨xs, m, rfl, rfl, hl, hn, hall⟩ := DataW.trod_struct Try.underlying59 h
  rw [Try.cells59] at hl
  have h0 : DataW.trod enc Try.prog w base spare held m 3 ((cs.drop 0).take (Try.prog.cellsOf 3)) = xs[0]? := hall 0 _ rfl
  have h1 : DataW.trod enc Try.prog w base spare held m 9 ((cs.drop 1).take (Try.prog.cellsOf 9)) = xs[1]? := hall 1 _ rfl
  rw [Try.cells3, List.drop_zero] at h0
  rw [Try.cells9] at h1
  have hn2 : xs.length = 2 := hn
  rw [List.getElem?_eq_getElem (by omega)] at h0 h1
  obtain ⟨k, hk, _⟩ := DataW.trod_int Try.underlying3 h0
  obtain ⟨s, hs, e1, _⟩ := DataW.trod_string Try.underlying9 h1
  refine ⟨⟨k, s⟩, ?_, ?_⟩
  · match cs, hl with
    | [c0, c1], _ =>
      simp at hk hs
      rw [hk, hs]
      rfl
  · have hw : DataW.weights Try.prog 59 (DataW.agg (xs.map (·.1))) = DataW.weightsEach Try.prog [3, 9] (xs.map (·.1)) := by
      rw [DataW.weights, Try.underlying59]; rfl
    show s.size ∈ DataW.weights Try.prog 59 (DataW.agg (xs.map (·.1)))
    rw [hw]
    refine DataW.weights_mem_each (j := 1) (t := 9) (d := (xs[1]'(by omega)).1) rfl (by simp [hn2]) _ ?_
    rw [e1]
    simp [DataW.weights]

theorem weights_all {P : Program} {e : TypeId} {d : DataW H} {n : Nat} : ∀ {l : List (DataW H)}, d ∈ l → n ∈ d.weights P e → n ∈ DataW.weightsAll P e l
  | [], h, _ => by simp at h
  | a :: l, h, hn => by
    rw [DataW.weightsAll, List.mem_append]
    rcases List.mem_cons.1 h with rfl | h
    · exact .inl hn
    · exact .inr (weights_all h hn)


/-- What a header of extension headers (a slice value) leads to. -/
structure SlAt (w : World) (xa : Option Addr) (xl xc : Nat) (l : List Ext) : Prop where
  len : xl = l.length
  cap : xl ≤ xc
  fit : xc ≤ 9223372036854775807
  nil : xa = none → xc = 0
  one : ∀ a, xa = some a → xc ≠ 0 → a.spot = none
  at_ : ∀ a, xa = some a → l ≠ [] → a.block < w.heap.size
  cells : ∀ a, xa = some a → ∀ i x, l[i]? = some x → w.cell? ⟨a.block, a.off + i * 2, none⟩ = some (.int .i64 x.kind) ∧ w.cell? ⟨a.block, a.off + i * 2 + 1, none⟩ = some (.string x.body)
  small : ∀ x ∈ l, x.body.size ≤ 140737488351232

instance : Inhabited Ext := ⟨⟨0, ByteArray.empty⟩⟩
set_option maxRecDepth 100000 in
theorem read_exts {cs : List Value} {x : DataW H × List MemPlace} (h : DataW.trod enc Try.prog w 0 (fun _ => true) held fuel 25 cs = some x) (hz : ∀ n ∈ x.1.weights Try.prog 25, n ≤ reachBytes) :
    ∃ xa xl xc l, cs = [.slice xa xl xc] ∧ SlAt w xa xl xc l := by
  rcases open_slice Try.underlying25 h with ⟨rfl, rfl⟩ | ⟨a, len, cap, m, n, D, Pl, rfl, _, hl, hm, hmm, rfl, hx⟩
  · exact ⟨none, 0, 0, [], rfl, rfl, Nat.le_refl _, by omega, fun _ => rfl, (by intro a h; cases h), (by intro a h; cases h), (by intro a h; cases h), (by simp)⟩
  · simp only [if_true] at hmm
    subst hmm
    rw [Try.cells59] at hx
    have hsp : m ≠ 0 → a.spot = none := fun h0 => by
      obtain ⟨cs', h1, _⟩ := hx 0 (by omega)
      obtain ⟨_, hlen, hc⟩ := World.cells?_some h1
      have h2 := hc 0 (by omega)
      rw [List.getElem?_eq_getElem (by omega)] at h2
      have := World.cell?_spot h2
      simpa [Addr.add] using this
    obtain ⟨E, hE⟩ := choose_lt (α := Ext) (n := m) (p := fun i e => w.cells? 0 (a.add (i * 2)) 2 = some (extl e) ∧ e.body.size ∈ (D i).weights Try.prog 59) (fun i hi => by
      obtain ⟨cs', h1, h2⟩ := hx i hi
      obtain ⟨e, rfl, he⟩ := read_ext h2
      exact ⟨e, h1, he⟩)
    refine ⟨some a, len, m, (List.range len).map E, rfl, by simp, hl, hm, (by intro h; cases h), (by intro b hb h0; cases hb; exact hsp h0), ?_, ?_, ?_⟩
    · intro b hb hne
      cases hb
      have h0 : 0 < len := by
        rcases Nat.eq_zero_or_pos len with h0 | h0
        · exact absurd (by rw [h0]; rfl) hne
        · exact h0
      obtain ⟨_, hlen, hc⟩ := World.cells?_some (hE 0 (by omega)).1
      have h2 := hc 0 (by omega)
      have h3 : w.cell? ((a.add (0 * 2)).add 0) = some (.int .i64 (E 0).kind) := by rw [h2]; rfl
      unfold World.cell? at h3
      have h4 : ((a.add (0 * 2)).add 0).block = a.block := by simp [Addr.add]
      rw [h4] at h3
      cases hh : w.heap[a.block]? with
      | none => rw [hh] at h3; simp at h3
      | some o => exact (Array.getElem?_eq_some_iff.1 hh).1
    · intro b hb i x hi
      cases hb
      have hil : i < len := by
        have := (List.getElem?_eq_some_iff.1 hi).1
        simpa using this
      have hxe : x = E i := by
        rw [List.getElem?_map, List.getElem?_range hil] at hi
        exact (Option.some.inj hi).symm
      subst hxe
      obtain ⟨_, hlen, hc⟩ := World.cells?_some (hE i (by omega)).1
      have hs := hsp (by omega)
      obtain ⟨g, o, sp⟩ := a
      cases hs
      have h0 := hc 0 (by omega)
      have h1 := hc 1 (by omega)
      rw [add_add, Addr.add_lit] at h0 h1
      exact ⟨h0, h1⟩
    · intro x hx'
      obtain ⟨i, hi, rfl⟩ := List.mem_map.1 hx'
      have hil : i < len := List.mem_range.1 hi
      have h1 := (hE i (by omega)).2
      have := hz (E i).body.size (by
        rw [DataW.weights, Try.underlying25]
        refine List.mem_cons_of_mem _ (List.mem_append.2 (.inl ?_))
        exact weights_all (List.mem_map.2 ⟨i, hi, rfl⟩) h1)
      exact this

theorem SlAt.exts {p : Pk} (h : SlAt w p.xa p.xl p.xc p.exts) : ExtsAt w p := by
  refine ⟨h.len, h.cap, h.fit, h.nil, ?_, ?_, ?_, h.small⟩
  · intro hne h0
    unfold XA xg xo
    cases ha : p.xa with
    | none => exact absurd ha hne
    | some a =>
      have := h.one a ha h0
      obtain ⟨g, o, sp⟩ := a
      cases this
      rfl
  · intro hne
    have hl : p.exts.length ≠ 0 := fun h0 => hne (List.eq_nil_of_length_eq_zero h0)
    have h1 := h.len
    have h2 := h.cap
    unfold XA xg xo
    cases ha : p.xa with
    | none =>
      have := h.nil ha
      omega
    | some a =>
      have h3 := h.one a ha (by omega)
      have h4 := h.at_ a ha hne
      obtain ⟨g, o, sp⟩ := a
      cases h3
      exact ⟨rfl, h4⟩
  · intro i x hi
    have hl : i < p.exts.length := (List.getElem?_eq_some_iff.1 hi).1
    have h1 := h.len
    have h2 := h.cap
    unfold xg xo
    cases ha : p.xa with
    | none =>
      have := h.nil ha
      omega
    | some a => exact h.cells a ha i x hi

set_option maxRecDepth 100000 in
set_option maxHeartbeats 1000000 in
/-- A packet. -/
theorem read_pk {cs : List Value} {x : DataW H × List MemPlace} (h : DataW.trod enc Try.prog w 0 (fun _ => true) held fuel 27 cs = some x) (hz : ∀ n ∈ x.1.weights Try.prog 27, n ≤ reachBytes) :
    ∃ p : Pk, cs = pkl p ∧ ExtsAt w p ∧ p.opts.size ≤ 140737488351232 ∧ p.pay.size ≤ 140737488351232 := by
  obtain ⟨xs, m, rfl, rfl, hl, hn, hall⟩ := DataW.trod_struct Try.underlying27 h
  rw [Try.cells27] at hl
  have hn2 : xs.length = 14 := hn
  have hw : DataW.weights Try.prog 27 (DataW.agg (xs.map (·.1))) = DataW.weightsEach Try.prog [24, 24, 3, 3, 3, 3, 3, 4, 4, 9, 3, 25, 4, 9] (xs.map (·.1)) := by
    rw [DataW.weights, Try.underlying27]; rfl
  have hz' : ∀ n ∈ DataW.weightsEach Try.prog [24, 24, 3, 3, 3, 3, 3, 4, 4, 9, 3, 25, 4, 9] (xs.map (·.1)), n ≤ reachBytes := fun n hn => hz n (by rw [hw]; exact hn)
  clear hz hw
  have t0 : DataW.trod enc Try.prog w 0 (fun _ => true) held m 24 ((cs.drop 0).take (Try.prog.cellsOf 24)) = xs[0]? := hall 0 _ rfl
  rw [Try.cells24, List.getElem?_eq_getElem (show 0 < xs.length by omega)] at t0
  obtain ⟨f0, e0⟩ := read_ad t0
  have t1 : DataW.trod enc Try.prog w 0 (fun _ => true) held m 24 ((cs.drop 17).take (Try.prog.cellsOf 24)) = xs[1]? := hall 1 _ rfl
  rw [Try.cells24, List.getElem?_eq_getElem (show 1 < xs.length by omega)] at t1
  obtain ⟨f1, e1⟩ := read_ad t1
  have t2 : DataW.trod enc Try.prog w 0 (fun _ => true) held m 3 ((cs.drop 34).take (Try.prog.cellsOf 3)) = xs[2]? := hall 2 _ rfl
  rw [Try.cells3, List.getElem?_eq_getElem (show 2 < xs.length by omega)] at t2
  obtain ⟨f2, e2, _⟩ := DataW.trod_int Try.underlying3 t2
  have t3 : DataW.trod enc Try.prog w 0 (fun _ => true) held m 3 ((cs.drop 35).take (Try.prog.cellsOf 3)) = xs[3]? := hall 3 _ rfl
  rw [Try.cells3, List.getElem?_eq_getElem (show 3 < xs.length by omega)] at t3
  obtain ⟨f3, e3, _⟩ := DataW.trod_int Try.underlying3 t3
  have t4 : DataW.trod enc Try.prog w 0 (fun _ => true) held m 3 ((cs.drop 36).take (Try.prog.cellsOf 3)) = xs[4]? := hall 4 _ rfl
  rw [Try.cells3, List.getElem?_eq_getElem (show 4 < xs.length by omega)] at t4
  obtain ⟨f4, e4, _⟩ := DataW.trod_int Try.underlying3 t4
  have t5 : DataW.trod enc Try.prog w 0 (fun _ => true) held m 3 ((cs.drop 37).take (Try.prog.cellsOf 3)) = xs[5]? := hall 5 _ rfl
  rw [Try.cells3, List.getElem?_eq_getElem (show 5 < xs.length by omega)] at t5
  obtain ⟨f5, e5, _⟩ := DataW.trod_int Try.underlying3 t5
  have t6 : DataW.trod enc Try.prog w 0 (fun _ => true) held m 3 ((cs.drop 38).take (Try.prog.cellsOf 3)) = xs[6]? := hall 6 _ rfl
  rw [Try.cells3, List.getElem?_eq_getElem (show 6 < xs.length by omega)] at t6
  obtain ⟨f6, e6, _⟩ := DataW.trod_int Try.underlying3 t6
  have t7 : DataW.trod enc Try.prog w 0 (fun _ => true) held m 4 ((cs.drop 39).take (Try.prog.cellsOf 4)) = xs[7]? := hall 7 _ rfl
  rw [Try.cells4, List.getElem?_eq_getElem (show 7 < xs.length by omega)] at t7
  obtain ⟨f7, e7, _⟩ := DataW.trod_bool Try.underlying4 t7
  have t8 : DataW.trod enc Try.prog w 0 (fun _ => true) held m 4 ((cs.drop 40).take (Try.prog.cellsOf 4)) = xs[8]? := hall 8 _ rfl
  rw [Try.cells4, List.getElem?_eq_getElem (show 8 < xs.length by omega)] at t8
  obtain ⟨f8, e8, _⟩ := DataW.trod_bool Try.underlying4 t8
  have t9 : DataW.trod enc Try.prog w 0 (fun _ => true) held m 9 ((cs.drop 41).take (Try.prog.cellsOf 9)) = xs[9]? := hall 9 _ rfl
  rw [Try.cells9, List.getElem?_eq_getElem (show 9 < xs.length by omega)] at t9
  obtain ⟨f9, e9, y9, _⟩ := DataW.trod_string Try.underlying9 t9
  have z9 : f9.size ≤ reachBytes := hz' _ (DataW.weights_mem_each (j := 9) (t := 9) (d := (xs[9]'(by omega)).1) rfl (by simp [hn2]) _ (by rw [y9]; simp [DataW.weights]))
  have t10 : DataW.trod enc Try.prog w 0 (fun _ => true) held m 3 ((cs.drop 42).take (Try.prog.cellsOf 3)) = xs[10]? := hall 10 _ rfl
  rw [Try.cells3, List.getElem?_eq_getElem (show 10 < xs.length by omega)] at t10
  obtain ⟨f10, e10, _⟩ := DataW.trod_int Try.underlying3 t10
  have t11 : DataW.trod enc Try.prog w 0 (fun _ => true) held m 25 ((cs.drop 43).take (Try.prog.cellsOf 25)) = xs[11]? := hall 11 _ rfl
  rw [Try.cells25, List.getElem?_eq_getElem (show 11 < xs.length by omega)] at t11
  obtain ⟨xa, xl, xc, l, e11, hS⟩ := read_exts t11 (fun n hn => hz' _ (DataW.weights_mem_each (j := 11) (t := 25) (d := (xs[11]'(by omega)).1) rfl (by simp [hn2]) _ hn))
  have t12 : DataW.trod enc Try.prog w 0 (fun _ => true) held m 4 ((cs.drop 44).take (Try.prog.cellsOf 4)) = xs[12]? := hall 12 _ rfl
  rw [Try.cells4, List.getElem?_eq_getElem (show 12 < xs.length by omega)] at t12
  obtain ⟨f12, e12, _⟩ := DataW.trod_bool Try.underlying4 t12
  have t13 : DataW.trod enc Try.prog w 0 (fun _ => true) held m 9 ((cs.drop 45).take (Try.prog.cellsOf 9)) = xs[13]? := hall 13 _ rfl
  rw [Try.cells9, List.getElem?_eq_getElem (show 13 < xs.length by omega)] at t13
  obtain ⟨f13, e13, y13, _⟩ := DataW.trod_string Try.underlying9 t13
  have z13 : f13.size ≤ reachBytes := hz' _ (DataW.weights_mem_each (j := 13) (t := 9) (d := (xs[13]'(by omega)).1) rfl (by simp [hn2]) _ (by rw [y13]; simp [DataW.weights]))
  have e : cs = pkl ⟨f0, f1, f2, f3, f4, f5, f6, f7, f8, f9, f10, xa, xl, xc, f12, f13, l⟩ := by
    have d0 : cs = cs.drop 0 := rfl
    have s0 := take_of e0
    have s1 := take_of e1
    have s2 := take_of e2
    have s3 := take_of e3
    have s4 := take_of e4
    have s5 := take_of e5
    have s6 := take_of e6
    have s7 := take_of e7
    have s8 := take_of e8
    have s9 := take_of e9
    have s10 := take_of e10
    have s11 := take_of e11
    have s12 := take_of e12
    have s13 := take_of e13
    have s14 : cs.drop 46 = [] := List.drop_eq_nil_of_le (by omega)
    rw [d0, s0, s1, show cs.drop 34 = _ from s2, show cs.drop 35 = _ from s3, show cs.drop 36 = _ from s4, show cs.drop 37 = _ from s5, show cs.drop 38 = _ from s6, show cs.drop 39 = _ from s7, show cs.drop 40 = _ from s8, show cs.drop 41 = _ from s9, show cs.drop 42 = _ from s10, show cs.drop 43 = _ from s11, show cs.drop 44 = _ from s12, show cs.drop 45 = _ from s13, s14]
    rfl
  exact ⟨_, e, SlAt.exts (p := ⟨f0, f1, f2, f3, f4, f5, f6, f7, f8, f9, f10, xa, xl, xc, f12, f13, l⟩) hS, z9, z13⟩

end
end Go.Proofs.Ytfdjpmglfjiamaa
