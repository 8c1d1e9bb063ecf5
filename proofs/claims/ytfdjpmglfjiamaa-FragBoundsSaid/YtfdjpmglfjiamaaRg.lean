/- The reading of the script: the row FragBounds. -/
import Derived.Test.YtfdjpmglfjiamaaBb
import Derived.Test.YtfdjpmglfjiamaaRd
import Derived.Test.YtfdjpmglfjiamaaRows
import Derived.ProofKit
import Derived.SizedLaws
namespace Go.Proofs.Ytfdjpmglfjiamaa
open Go Go.Sort Go.RowKit Go.Deep Go.ChangeShapes Go.WideShapes Go.ChangeAt
set_option linter.unusedSimpArgs false
set_option linter.unusedVariables false
section
variable {H : Type} {enc : TypeId × Value → H} {w : World} {held : Bool} {fuel : Nat}

theorem cells_row {g o n : Nat} {cs : List Value} (h : w.cells? 0 ⟨g, o, none⟩ n = some cs) (hn : 0 < n) : (rowOf w g).extract o (o + n) = cs.toArray ∧ fitsAt (rowOf w g) o n ∧ g < w.heap.size := by
  obtain ⟨_, hlen, hc⟩ := World.cells?_some h
  have hcell : ∀ i, i < n → w.cell? ⟨g, o + i, none⟩ = cs[i]? := fun i hi => by
    have := hc i hi
    rwa [Addr.add_lit] at this
  have hsome : ∃ c t fr, w.heap[g]? = some (.cells c t fr) := by
    have h0 := hcell 0 hn
    rw [List.getElem?_eq_getElem (by omega)] at h0
    unfold World.cell? at h0
    cases hh : w.heap[g]? with
    | none => rw [hh] at h0; simp at h0
    | some x =>
      rw [hh] at h0
      cases x <;> simp at h0
      exact ⟨_, _, _, rfl⟩
  obtain ⟨c, t, fr, hh⟩ := hsome
  have hget : ∀ i, i < n → c[o + i]? = cs[i]? := fun i hi => by
    rw [← hcell i hi]
    simp [World.cell?, hh]
  have hr : rowOf w g = c := by simp [rowOf, hh]
  have hfit : o + n ≤ c.size := by
    have := hget (n - 1) (by omega)
    rw [List.getElem?_eq_getElem (by omega)] at this
    have := (Array.getElem?_eq_some_iff.1 this).1
    omega
  refine ⟨?_, ?_, (Array.getElem?_eq_some_iff.1 hh).1⟩
  · rw [hr]
    apply Array.ext_getElem?
    intro i
    by_cases hi : i < n
    · rw [Array.getElem?_extract]
      rw [if_pos (by omega), hget i hi]
      simp
    · rw [Array.getElem?_eq_none (by simp; omega), Array.getElem?_eq_none (by simp; omega)]
  · rw [hr]
    simp [fitsAt]
    omega

set_option maxRecDepth 100000 in
set_option maxHeartbeats 1000000 in
/-- A call of the script. -/
theorem read_op {cs : List Value} {x : DataW H × List MemPlace} (h : DataW.trod enc Try.prog w 0 (fun _ => true) held fuel 52 cs = some x) (hz : ∀ n ∈ x.1.weights Try.prog 52, n ≤ reachBytes) :
    ∃ p : Opx, cs = opl p ∧ ExtsAt w p.p ∧ p.p.opts.size ≤ 140737488351232 ∧ p.p.pay.size ≤ 140737488351232 := by
  obtain ⟨xs, m, rfl, rfl, hl, hn, hall⟩ := DataW.trod_struct Try.underlying52 h
  rw [Try.cells52] at hl
  have hn2 : xs.length = 4 := hn
  have hw : DataW.weights Try.prog 52 (DataW.agg (xs.map (·.1))) = DataW.weightsEach Try.prog [4, 3, 41, 27] (xs.map (·.1)) := by
    rw [DataW.weights, Try.underlying52]; rfl
  have t0 : DataW.trod enc Try.prog w 0 (fun _ => true) held m 4 ((cs.drop 0).take (Try.prog.cellsOf 4)) = xs[0]? := hall 0 _ rfl
  have t1 : DataW.trod enc Try.prog w 0 (fun _ => true) held m 3 ((cs.drop 1).take (Try.prog.cellsOf 3)) = xs[1]? := hall 1 _ rfl
  have t2 : DataW.trod enc Try.prog w 0 (fun _ => true) held m 41 ((cs.drop 2).take (Try.prog.cellsOf 41)) = xs[2]? := hall 2 _ rfl
  have t3 : DataW.trod enc Try.prog w 0 (fun _ => true) held m 27 ((cs.drop 4).take (Try.prog.cellsOf 27)) = xs[3]? := hall 3 _ rfl
  rw [Try.cells4, List.getElem?_eq_getElem (show 0 < xs.length by omega)] at t0
  rw [Try.cells3, List.getElem?_eq_getElem (show 1 < xs.length by omega)] at t1
  rw [Try.cells41, List.getElem?_eq_getElem (show 2 < xs.length by omega)] at t2
  rw [Try.cells27, List.getElem?_eq_getElem (show 3 < xs.length by omega)] at t3
  obtain ⟨f0, e0, _⟩ := DataW.trod_bool Try.underlying4 t0
  obtain ⟨f1, e1, _⟩ := DataW.trod_int Try.underlying3 t1
  obtain ⟨ys, m2, _, _, hl2, hn3, hall2⟩ := DataW.trod_struct Try.underlying41 t2
  rw [Try.cells41] at hl2
  have hn4 : ys.length = 2 := hn3
  have u0 : DataW.trod enc Try.prog w 0 (fun _ => true) held m2 3 ((((cs.drop 2).take 2).drop 0).take (Try.prog.cellsOf 3)) = ys[0]? := hall2 0 _ rfl
  have u1 : DataW.trod enc Try.prog w 0 (fun _ => true) held m2 3 ((((cs.drop 2).take 2).drop 1).take (Try.prog.cellsOf 3)) = ys[1]? := hall2 1 _ rfl
  rw [Try.cells3, List.getElem?_eq_getElem (show 0 < ys.length by omega)] at u0
  rw [Try.cells3, List.getElem?_eq_getElem (show 1 < ys.length by omega)] at u1
  obtain ⟨f2, e2, _⟩ := DataW.trod_int Try.underlying3 u0
  obtain ⟨f3, e3, _⟩ := DataW.trod_int Try.underlying3 u1
  have e23 : (cs.drop 2).take 2 = [.int .i64 f2, .int .i64 f3] := by
    have s0 := take_of e2
    have s1 := take_of e3
    have s2 : ((cs.drop 2).take 2).drop 2 = [] := List.drop_eq_nil_of_le (by omega)
    have d0 : (cs.drop 2).take 2 = ((cs.drop 2).take 2).drop 0 := rfl
    rw [d0, s0, s1, s2]
    rfl
  obtain ⟨p, e4, hE, ho, hp⟩ := read_pk t3 (fun n hn => hz n (by
    rw [hw]
    exact DataW.weights_mem_each (j := 3) (t := 27) (d := (xs[3]'(by omega)).1) rfl (by simp [hn2]) _ hn))
  refine ⟨⟨f0, f1, f2, f3, p⟩, ?_, hE, ho, hp⟩
  have d0 : cs = cs.drop 0 := rfl
  have s0 := take_of e0
  have s1 := take_of e1
  have s2 := take_of e23
  have s3 := take_of e4
  have s4 : cs.drop 50 = [] := List.drop_eq_nil_of_le (by omega)
  rw [d0, s0, s1, show cs.drop 2 = _ from s2, show cs.drop 4 = _ from s3, s4]
  simp [opl]

instance : Inhabited Opx := ⟨⟨false, 0, 0, 0, zpk⟩⟩

set_option maxRecDepth 100000 in
/-- The script. -/
theorem read_script {v : Value} {d : DataW H} {ps : List MemPlace} (h : DataW.Trod enc Try.prog w 0 (fun _ => true) held 50 v d ps) (hv : ∃ a len cap, v = .slice a len cap) (hz : ∀ n ∈ d.weights Try.prog 50, n ≤ reachBytes) :
    ∃ l, OpSlice w v l ∧ (∀ x ∈ l, ExtsAt w x.p) ∧ (∀ x ∈ l, x.p.opts.size ≤ 140737488351232 ∧ x.p.pay.size ≤ 140737488351232) ∧ l.length ≤ 4611686018427387904 := by
  obtain ⟨fuel, hf⟩ := h
  obtain ⟨a0, len0, cap0, rfl⟩ := hv
  rcases open_slice Try.underlying50 hf with ⟨hcs, hx⟩ | ⟨a, len, cap, m, n, D, Pl, hcs, _, hl, hm, hmm, hxx, hx⟩
  · simp [Value.cells] at hcs
    obtain ⟨rfl, rfl, rfl⟩ := hcs
    exact ⟨[], .inl ⟨none, 0, rfl, rfl⟩, by simp, by simp, by simp⟩
  · simp [Value.cells] at hcs
    obtain ⟨rfl, rfl, rfl⟩ := hcs
    simp only [if_true] at hmm
    subst hmm
    rw [Try.cells52] at hx
    have hd : d = .slice ((List.range len0).map D) ((List.range (m - len0)).map fun j => D (len0 + j)) := (Prod.mk.inj hxx).1
    subst hd
    by_cases h0 : len0 = 0
    · subst h0
      exact ⟨[], .inl ⟨some a, m, rfl, rfl⟩, by simp, by simp, by simp⟩
    · obtain ⟨E, hE⟩ := choose_lt (α := Opx) (n := len0) (p := fun i p => w.cells? 0 (a.add (i * 50)) 50 = some (opl p) ∧ ExtsAt w p.p ∧ p.p.opts.size ≤ 140737488351232 ∧ p.p.pay.size ≤ 140737488351232) (fun i hi => by
        obtain ⟨cs', h1, h2⟩ := hx i (by omega)
        obtain ⟨p, rfl, hp⟩ := read_op h2 (fun n hn => hz n (by
          rw [DataW.weights, Try.underlying50]
          refine List.mem_cons_of_mem _ (List.mem_append.2 (.inl ?_))
          exact weights_all (List.mem_map.2 ⟨i, List.mem_range.2 hi, rfl⟩) hn))
        exact ⟨p, h1, hp⟩)
      have hsp : a.spot = none := by
        obtain ⟨_, hlen, hc⟩ := World.cells?_some (hE 0 (by omega)).1
        have h2 := hc 0 (by omega)
        rw [List.getElem?_eq_getElem (by omega)] at h2
        have := World.cell?_spot h2
        simpa [Addr.add] using this
      obtain ⟨g, o, sp⟩ := a
      cases hsp
      have hrow : ∀ i, i < len0 → _ := fun i hi => by
        have h1 := (hE i hi).1
        rw [Addr.add_lit] at h1
        exact cells_row h1 (by omega)
      have hlb : len0 ≤ 140737488351232 := by
        have hb : Try.prog.bytesOf 52 = 248 ∨ True := .inr trivial
        have := hz ((((List.range len0).map D).length + ((List.range (m - len0)).map fun j => D (len0 + j)).length) * Try.prog.bytesOf 52) (by
          rw [DataW.weights, Try.underlying50]
          exact List.mem_cons_self ..)
        have hb : 1 ≤ Try.prog.bytesOf 52 := of_decide_eq_true (by kernel_rfl)
        simp only [List.length_map, List.length_range, reachBytes] at this
        have h3 := Nat.mul_le_mul_left (len0 + (m - len0)) hb
        omega
      refine ⟨(List.range len0).map E, .inr ⟨g, o, m, by simp, (hrow 0 (by omega)).2.2, ?_⟩, ?_, ?_, by simp; omega⟩
      · intro i x hi
        have hil : i < len0 := by
          have := (List.getElem?_eq_some_iff.1 hi).1
          simpa using this
        rw [List.getElem?_map, List.getElem?_range hil] at hi
        obtain rfl : E i = x := Option.some.inj hi
        exact ⟨(hrow i hil).1, (hrow i hil).2.1⟩
      · intro x hx'
        obtain ⟨i, hi, rfl⟩ := List.mem_map.1 hx'
        exact (hE i (List.mem_range.1 hi)).2.1
      · intro x hx'
        obtain ⟨i, hi, rfl⟩ := List.mem_map.1 hx'
        exact (hE i (List.mem_range.1 hi)).2.2
end

theorem own : ownKnob Try.prog.godebug = none := by kernel_rfl
theorem Try.laidOut : laidOutB Try.prog = true := by kernel_rfl

set_option maxRecDepth 100000 in
theorem bounds_lifted (os : Os) (started : os.Started) (H : Type) (enc : TypeId × Value → H) :
    ReturnsInHanded {} Try.checked os 5 .any (Rows.fragBoundsSpec.pre6 enc Try.prog Try.f5 Rows.fragBoundsRow.domain false) (Rows.fragBoundsSpec.post enc Try.prog Try.f5 false true false false) := by
  refine returnsInHanded_of_change_sized (C := Try.checked) own started (by kernel_rfl) Try.func5
    (ChangeSpec.witness6 (enc := enc) (C := Try.checked) false ⟨#[], #[.slice none 0 0], []⟩ 8 (by kernel_rfl) (by kernel_rfl) (by kernel_rfl) (by kernel_rfl)) ?_
  intro W base args ds gs before hval0 hW _ hsz0 _
  have hsz : (DataW.weightsEach Try.prog (Try.f5.params.toList ++ Rows.fragBoundsSpec.plain.varTypes Try.prog) (ds ++ gs)).all (· ≤ reachBytes) = true := hsz0
  clear hsz0
  have hval : ∀ (j : Nat) t v, Try.f5.params[j]? = some t → args[j]? = some v → Value.okWide Try.prog W .any base t v := hval0
  have hW' := hW
  obtain ⟨p, q, hA0, hV, rfl, _, _⟩ := hW
  have hA : DataW.TrodAll enc Try.prog W 0 (fun _ => true) true Try.f5.params.toList args.toList ds p := hA0
  rw [Try.params5] at hA hval hsz
  obtain ⟨v0, d0, rfl, rfl, h0⟩ := trodAll_one hA
  obtain ⟨rfl, rfl⟩ := trodVars_none hV
  clear hA0 hval0
  simp only [List.append_nil] at hW'
  have hlt : ∀ x ∈ p, x.block < W.heap.size := fun x hx => by simpa using hW'.lt x hx
  obtain ⟨l, hs, hx, hz, hl⟩ := read_script h0 (okWide_slice Try.underlying50 (hval 0 50 v0 rfl rfl)) (fun n hn => by
    have := List.all_eq_true.1 hsz n (DataW.weights_mem_each (j := 0) (t := 50) (d := d0) rfl rfl _ hn)
    simpa using this)
  refine (bounds_any W v0 l hs hx hz hl).mono fun e W' ⟨he, hg⟩ => ?_
  subst he
  refine ⟨_, rfl, _, _, _, [], p, [], hW', ?_, ?_, rfl, hg.below.frame _, fun h => by cases h⟩
  · exact trodAll_mk1 (shut_bool Try.underlying4 true)
  · exact trodAll_mk1 (Below.trod Try.laidOut (by kernel_rfl) (of_decide_eq_true (by kernel_rfl)) h0 hg.below hlt)

/-- Whatever calls come, no more than eight heaps are kept, and no more than eight times 65535 bytes. No condition. -/
theorem fragBounds_holds : Rows.FragBoundsSaid :=
  OpenClaim.holds_of_wide 5 Try.f5 rfl rfl rfl rfl rfl rfl rfl ⟨rfl, rfl, rfl, rfl, rfl⟩ rfl rfl rfl rfl rfl (by kernel_rfl) Try.func5 (by kernel_rfl)
    (of_decide_eq_true (by kernel_rfl)) (by unfold Func.isWrapper; first | (rw [if_pos (by decide +kernel)]; kernel_rfl) | (rw [if_neg (by decide +kernel)]; exact ⟨rfl, rfl⟩))
    (fun os started H enc _ => bounds_lifted os started H enc)
#print axioms fragBounds_holds
end Go.Proofs.Ytfdjpmglfjiamaa
