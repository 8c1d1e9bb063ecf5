/- The row FragMixes: two packets, whose pieces come mixed with each other in any order, are each told whole, as they were, and nothing else is. No condition. -/
import Derived.Test.YtfdjpmglfjiamaaMi
import Derived.Test.YtfdjpmglfjiamaaRc
import Derived.Test.YtfdjpmglfjiamaaRows
namespace Go.Proofs.Ytfdjpmglfjiamaa
open Go Go.Sort Go.RowKit Go.Deep Go.ChangeShapes Go.WideShapes Go.ChangeAt
set_option linter.unusedSimpArgs false
set_option linter.unusedVariables false
set_option linter.constructorNameAsVariable false
set_option maxRecDepth 100000 in
theorem mixes_lifted (os : Os) (started : os.Started) (H : Type) (enc : TypeId × Value → H) :
    ReturnsInHanded {} Try.checked os 4 .any (Rows.fragMixesSpec.pre6 enc Try.prog Try.f4 Rows.fragMixesRow.domain false) (Rows.fragMixesSpec.post enc Try.prog Try.f4 false true false false) := by
  refine returnsInHanded_of_change_sized (C := Try.checked) own2 started (by kernel_rfl) Try.func4
    (ChangeSpec.witness6 (enc := enc) (C := Try.checked) false ⟨#[], #[.agg (pkc zpk), .agg (pkc zpk), .agg #[.int .i64 0, .int .i64 0, .slice none 0 0, .slice none 0 0, .bool false]], []⟩ 8 (by kernel_rfl) (by kernel_rfl) (by kernel_rfl) (by kernel_rfl)) ?_
  intro W base args ds gs before hval0 hW _ hsz0 _
  have hsz : (DataW.weightsEach Try.prog (Try.f4.params.toList ++ Rows.fragMixesSpec.plain.varTypes Try.prog) (ds ++ gs)).all (· ≤ reachBytes) = true := hsz0
  clear hsz0
  have hval : ∀ (j : Nat) t v, Try.f4.params[j]? = some t → args[j]? = some v → Value.okWide Try.prog W .any base t v := hval0
  have hW' := hW
  obtain ⟨p, q, hA0, hV, rfl, _, _⟩ := hW
  have hA : DataW.TrodAll enc Try.prog W 0 (fun _ => true) true Try.f4.params.toList args.toList ds p := hA0
  rw [Try.params4] at hA hval hsz
  obtain ⟨v0, v1, v2, d0, d1, d2, p0, p1, p2, rfl, rfl, rfl, h0, h1, h2⟩ := trodAll_three hA
  obtain ⟨rfl, rfl⟩ := trodVars_none hV
  clear hA0 hval0
  simp only [List.append_nil] at hW'
  have hlt : ∀ x ∈ p0 ++ (p1 ++ p2), x.block < W.heap.size := fun x hx => by
    have := hW'.lt x
    simp at this hx
    exact this hx
  obtain ⟨c0, rfl⟩ := agg_of Try.underlying27 (hval 0 27 v0 rfl rfl)
  obtain ⟨c1, rfl⟩ := agg_of Try.underlying27 (hval 1 27 v1 rfl rfl)
  obtain ⟨c2, rfl⟩ := agg_of Try.underlying30 (hval 2 30 v2 rfl rfl)
  have h0k := h0
  have h1k := h1
  have h2k := h2
  obtain ⟨m0, h0⟩ := h0
  obtain ⟨m1, h1⟩ := h1
  obtain ⟨m2, h2⟩ := h2
  obtain ⟨pa, e0, hxa, hoa, hpa⟩ := read_pk h0 (fun n hn => by
    have := List.all_eq_true.1 hsz n (DataW.weights_mem_each (j := 0) (t := 27) (d := d0) rfl rfl _ hn)
    simpa using this)
  obtain ⟨pb, e1, hxb, hob, hpb⟩ := read_pk h1 (fun n hn => by
    have := List.all_eq_true.1 hsz n (DataW.weights_mem_each (j := 1) (t := 27) (d := d1) rfl rfl _ hn)
    simpa using this)
  obtain ⟨ct, e2, hm, hi, hor, htw⟩ := read_cut h2 (fun n hn => by
    have := List.all_eq_true.1 hsz n (DataW.weights_mem_each (j := 2) (t := 30) (d := d2) rfl rfl _ hn)
    simpa using this)
  have f0 : c0 = pkc pa := by
    apply Array.toList_inj.1
    exact e0
  have f1 : c1 = pkc pb := by
    apply Array.toList_inj.1
    exact e1
  have f2 : c2 = cutc ct := by
    apply Array.toList_inj.1
    exact e2
  subst f0
  subst f1
  subst f2
  refine (mixes_law pa pb ct W hxa hoa hpa hxb hob hpb hm.1 hm.2 hor).mono fun e W' ⟨he, hg⟩ => ?_
  subst he
  refine ⟨_, rfl, _, _, _, [], p0 ++ (p1 ++ p2), [], hW', ?_, ?_, rfl, hg.below.frame _, fun h => by cases h⟩
  · exact trodAll_mk1 (shut_bool Try.underlying4 true)
  · exact trodAll_mk3 (Below.trod Try.laidOut2 (by kernel_rfl) (of_decide_eq_true (by kernel_rfl)) h0k hg.below (fun x hx => hlt x (List.mem_append.2 (.inl hx)))) (Below.trod Try.laidOut2 (by kernel_rfl) (of_decide_eq_true (by kernel_rfl)) h1k hg.below (fun x hx => hlt x (List.mem_append.2 (.inr (List.mem_append.2 (.inl hx))))))
      (Below.trod Try.laidOut2 (by kernel_rfl) (of_decide_eq_true (by kernel_rfl)) h2k hg.below (fun x hx => hlt x (List.mem_append.2 (.inr (List.mem_append.2 (.inr hx))))))

/-- Two packets, whose pieces come mixed, are each told whole, and nothing else is. No condition. -/
theorem fragMixes_holds : Rows.FragMixesSaid :=
  OpenClaim.holds_of_wide 4 Try.f4 rfl rfl rfl rfl rfl rfl rfl ⟨rfl, rfl, rfl, rfl, rfl⟩ rfl rfl rfl rfl rfl (by kernel_rfl) Try.func4 (by kernel_rfl)
    (of_decide_eq_true (by kernel_rfl)) (by unfold Func.isWrapper; first | (rw [if_pos (by decide +kernel)]; kernel_rfl) | (rw [if_neg (by decide +kernel)]; exact ⟨rfl, rfl⟩))
    (fun os started H enc _ => mixes_lifted os started H enc)
#print axioms fragMixes_holds
end Go.Proofs.Ytfdjpmglfjiamaa
