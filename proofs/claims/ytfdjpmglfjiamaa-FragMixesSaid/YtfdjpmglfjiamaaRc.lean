/- The reading of a Cut. -/
import Derived.Test.YtfdjpmglfjiamaaFw
import Derived.Test.YtfdjpmglfjiamaaRd
import Derived.ProofKit
import Derived.SizedLaws
namespace Go.Proofs.Ytfdjpmglfjiamaa
open Go Go.Sort Go.RowKit Go.Deep Go.ChangeShapes Go.WideShapes Go.ChangeAt
set_option linter.unusedSimpArgs false
set_option linter.unusedVariables false
set_option linter.constructorNameAsVariable false
section
variable {H : Type} {enc : TypeId × Value → H} {w : World} {held : Bool} {fuel : Nat}
theorem Try.cells28 : Try.prog.cellsOf 28 = 1 := by kernel_rfl
theorem Try.cells30 : Try.prog.cellsOf 30 = 5 := by kernel_rfl
theorem Try.bytes3 : Try.prog.bytesOf 3 = 8 := by kernel_rfl

set_option maxRecDepth 100000 in
/-- A slice of integers. -/
theorem read_ints {cs : List Value} {x : DataW H × List MemPlace} (h : DataW.trod enc Try.prog w 0 (fun _ => true) held fuel 28 cs = some x) (hz : ∀ n ∈ x.1.weights Try.prog 28, n ≤ reachBytes) :
    ∃ a n c l, cs = [.slice a n c] ∧ IntsAt w a n l := by
  rcases open_slice1 Try.underlying28 Try.cells3 h with ⟨rfl, rfl⟩ | ⟨a, len, cap, m, n, V, D, Pl, rfl, _, hl, hm, hmm, rfl, hx⟩
  · exact ⟨none, 0, 0, [], rfl, rfl, by simp, by simp, by omega⟩
  · simp only [if_true] at hmm
    subst hmm
    obtain ⟨E, hE⟩ := choose_lt (α := Int) (n := m) (p := fun i e => w.cell? (a.add i) = some (.int .i64 e) ∧ (-9223372036854775808 ≤ e ∧ e ≤ 9223372036854775807)) (fun i hi => by
      obtain ⟨h1, h2⟩ := hx i hi
      obtain ⟨e, he, _, hw⟩ := DataW.trod_int Try.underlying3 h2
      have hv : V i = .int .i64 e := by simpa using he
      exact ⟨e, by rw [h1, hv], bounds_i64 hw⟩)
    have hlb : len ≤ 140737488351232 := by
      have := hz ((((List.range len).map D).length + ((List.range (m - len)).map fun j => D (len + j)).length) * Try.prog.bytesOf 3) (by
        rw [DataW.weights, Try.underlying28]
        exact List.mem_cons_self ..)
      rw [Try.bytes3] at this
      simp only [List.length_map, List.length_range, reachBytes] at this
      omega
    refine ⟨some a, len, m, (List.range len).map E, rfl, by simp, fun hne => ?_, ?_, by omega⟩
    · have h0 : 0 < len := by
        rcases Nat.eq_zero_or_pos len with h0 | h0
        · exact absurd (by rw [h0]; rfl) hne
        · exact h0
      have hsp : a.spot = none := by
        have := World.cell?_spot (hE 0 (by omega)).1
        simpa [Addr.add] using this
      obtain ⟨g, o, sp⟩ := a
      cases hsp
      refine ⟨g, o, rfl, ?_, fun i x hi => ?_⟩
      · have h1 := (hE 0 (by omega)).1
        rw [Addr.add_lit] at h1
        unfold World.cell? at h1
        cases hh : w.heap[g]? with
        | none => rw [hh] at h1; simp at h1
        | some o => exact (Array.getElem?_eq_some_iff.1 hh).1
      · have hil : i < len := by
          have := (List.getElem?_eq_some_iff.1 hi).1
          simpa using this
        rw [List.getElem?_map, List.getElem?_range hil] at hi
        obtain rfl : E i = x := Option.some.inj hi
        have h1 := (hE i (by omega)).1
        rwa [Addr.add_lit] at h1
    · intro x hx'
      obtain ⟨i, hi, rfl⟩ := List.mem_map.1 hx'
      exact (hE i (by have := List.mem_range.1 hi; omega)).2

set_option maxRecDepth 100000 in
set_option maxHeartbeats 1000000 in
/-- A Cut. -/
theorem read_cut {cs : List Value} {x : DataW H × List MemPlace} (h : DataW.trod enc Try.prog w 0 (fun _ => true) held fuel 30 cs = some x) (hz : ∀ n ∈ x.1.weights Try.prog 30, n ≤ reachBytes) :
    ∃ c : Cutx, cs = cutl c ∧ (-9223372036854775808 ≤ c.mtu ∧ c.mtu ≤ 9223372036854775807) ∧ (-9223372036854775808 ≤ c.id ∧ c.id ≤ 9223372036854775807) ∧ IntsAt w c.oa c.ol c.order ∧ IntsAt w c.ta c.tl c.twice := by
  obtain ⟨xs, m, rfl, rfl, hl, hn, hall⟩ := DataW.trod_struct Try.underlying30 h
  rw [Try.cells30] at hl
  have hn2 : xs.length = 5 := hn
  have hw : DataW.weights Try.prog 30 (DataW.agg (xs.map (·.1))) = DataW.weightsEach Try.prog [3, 3, 28, 28, 4] (xs.map (·.1)) := by
    rw [DataW.weights, Try.underlying30]; rfl
  have t0 : DataW.trod enc Try.prog w 0 (fun _ => true) held m 3 ((cs.drop 0).take (Try.prog.cellsOf 3)) = xs[0]? := hall 0 _ rfl
  have t1 : DataW.trod enc Try.prog w 0 (fun _ => true) held m 3 ((cs.drop 1).take (Try.prog.cellsOf 3)) = xs[1]? := hall 1 _ rfl
  have t2 : DataW.trod enc Try.prog w 0 (fun _ => true) held m 28 ((cs.drop 2).take (Try.prog.cellsOf 28)) = xs[2]? := hall 2 _ rfl
  have t3 : DataW.trod enc Try.prog w 0 (fun _ => true) held m 28 ((cs.drop 3).take (Try.prog.cellsOf 28)) = xs[3]? := hall 3 _ rfl
  have t4 : DataW.trod enc Try.prog w 0 (fun _ => true) held m 4 ((cs.drop 4).take (Try.prog.cellsOf 4)) = xs[4]? := hall 4 _ rfl
  rw [Try.cells3, List.getElem?_eq_getElem (show 0 < xs.length by omega)] at t0
  rw [Try.cells3, List.getElem?_eq_getElem (show 1 < xs.length by omega)] at t1
  rw [Try.cells28, List.getElem?_eq_getElem (show 2 < xs.length by omega)] at t2
  rw [Try.cells28, List.getElem?_eq_getElem (show 3 < xs.length by omega)] at t3
  rw [Try.cells4, List.getElem?_eq_getElem (show 4 < xs.length by omega)] at t4
  obtain ⟨f0, e0, _, w0⟩ := DataW.trod_int Try.underlying3 t0
  obtain ⟨f1, e1, _, w1⟩ := DataW.trod_int Try.underlying3 t1
  obtain ⟨oa, ol, oc, lo, e2, h2⟩ := read_ints t2 (fun n hn => hz n (by
    rw [hw]
    exact DataW.weights_mem_each (j := 2) (t := 28) (d := (xs[2]'(by omega)).1) rfl (by simp [hn2]) _ hn))
  obtain ⟨ta, tl, tc, lt, e3, h3⟩ := read_ints t3 (fun n hn => hz n (by
    rw [hw]
    exact DataW.weights_mem_each (j := 3) (t := 28) (d := (xs[3]'(by omega)).1) rfl (by simp [hn2]) _ hn))
  obtain ⟨f4, e4, _⟩ := DataW.trod_bool Try.underlying4 t4
  refine ⟨⟨f0, f1, oa, ol, oc, ta, tl, tc, f4, lo, lt⟩, ?_, bounds_i64 w0, bounds_i64 w1, h2, h3⟩
  have d0 : cs = cs.drop 0 := rfl
  have s0 := take_of e0
  have s1 := take_of e1
  have s2 := take_of e2
  have s3 := take_of e3
  have s4 := take_of e4
  have s5 : cs.drop 5 = [] := List.drop_eq_nil_of_le (by omega)
  rw [d0, s0, s1, show cs.drop 2 = _ from s2, show cs.drop 3 = _ from s3, show cs.drop 4 = _ from s4, s5]
  rfl
/-- A struct by value. -/
theorem agg_of {t : TypeId} {fs : Array Field} {v : Value} {base : Nat} (ht : Try.prog.underlying t = some (.struct fs)) (h : Value.okWide Try.prog w .any base t v) : ∃ cs : Array Value, v = .agg cs := by
  simp only [Value.okWide, ht] at h
  obtain ⟨cs, h1, _⟩ := h
  exact ⟨cs, h1⟩
end

theorem own2 : ownKnob Try.prog.godebug = none := by kernel_rfl
theorem Try.laidOut2 : laidOutB Try.prog = true := by kernel_rfl

end Go.Proofs.Ytfdjpmglfjiamaa
