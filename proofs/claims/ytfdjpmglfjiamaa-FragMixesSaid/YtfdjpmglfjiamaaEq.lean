/- Equality of addresses and of keys, as Go's == has it. -/
import Derived.Test.YtfdjpmglfjiamaaProg
import Derived.Test.YtfdjpmglfjiamaaDb
import Derived.KernelRfl
import Derived.Laws.StructEq
namespace Go.Proofs.Ytfdjpmglfjiamaa
open Go Go.Sort Go.RowKit
set_option linter.unusedSimpArgs false
set_option linter.unusedVariables false

theorem size5 (w : World) : (Go.sizeOf 5).run Try.prog w = .ok 1 w := by kernel_rfl
theorem isAgg5 (w : World) : (isAgg 5).run Try.prog w = .ok false w := by kernel_rfl
theorem isAgg22 (w : World) : (isAgg 22).run Try.prog w = .ok true w := by kernel_rfl
theorem size22 (w : World) : (Go.sizeOf 22).run Try.prog w = .ok 16 w := by kernel_rfl
theorem isAgg24 (w : World) : (isAgg 24).run Try.prog w = .ok true w := by kernel_rfl
theorem size24 (w : World) : (Go.sizeOf 24).run Try.prog w = .ok 17 w := by kernel_rfl
theorem isAgg27 (w : World) : (isAgg 27).run Try.prog w = .ok true w := by kernel_rfl
theorem size27 (w : World) : (Go.sizeOf 27).run Try.prog w = .ok 46 w := by kernel_rfl
theorem fields24 : Try.prog.fieldsOf 24 = #[{ name := "V6", type := 4, offset := 0, embedded := false, tag := "", pkgPath := "", byteOffset := 0 }, { name := "B", type := 22, offset := 1, embedded := false, tag := "", pkgPath := "", byteOffset := 1 }] := by kernel_rfl
theorem held24 : Try.prog.stoodInHeld 24 = false := by kernel_rfl
theorem held41 : Try.prog.stoodInHeld 41 = false := by kernel_rfl
theorem held70 : Try.prog.stoodInHeld 70 = false := by kernel_rfl

theorem part5 (cs : Array Value) (i : Nat) (v : Value) (h : cs[i]? = some v) (w : World) : (part 5 cs i).run Try.prog w = .ok v w := by
  simp [part, Sem.run_bind, isAgg5, h]

/-- The loop over the elements of two arrays of bytes, from some index on. -/
theorem eqBytes (d : Nat) (xs ys : List Int) (w : World) (hl : xs.length = ys.length) : ∀ (n i : Nat), i + n = xs.length →
    (forIn (m := Sem) (List.range' i n) ((none, ()) : Option Bool × Unit) fun j (_ : Option Bool × Unit) => do
        if (!(← Op.equalIn (d + 1) 5 (← part 5 (xs.map (Value.int .u8)).toArray (j * 1)) (← part 5 (ys.map (Value.int .u8)).toArray (j * 1)))) = true then pure (ForInStep.done (some false, ())) else pure (ForInStep.yield (none, ()))).run Try.prog w
      = .ok (if xs.drop i = ys.drop i then (none, ()) else (some false, ())) w
  | 0, i, h => by
    have hx : xs.drop i = [] := by simp; omega
    have hy : ys.drop i = [] := by simp; omega
    simp [hx, hy]
  | n + 1, i, h => by
    have hi : i < xs.length := by omega
    have hi' : i < ys.length := by omega
    have px := part5 (xs.map (Value.int .u8)).toArray (i * 1) (.int .u8 xs[i]) (by simp [hi]) w
    have py := part5 (ys.map (Value.int .u8)).toArray (i * 1) (.int .u8 ys[i]) (by simp [hi']) w
    have he : (Op.equalIn (d + 1) 5 (.int .u8 xs[i]) (.int .u8 ys[i])).run Try.prog w = .ok (xs[i] == ys[i]) w := run_equalIn_int w d 5 .u8 .u8 _ _ Try.underlying5
    have ih := eqBytes d xs ys w hl n (i + 1) (by omega)
    rw [List.range'_succ, List.forIn_cons]
    simp only [Sem.run_bind, px, py, he, Result.andThen_ok]
    rw [List.drop_eq_getElem_cons hi, List.drop_eq_getElem_cons hi']
    by_cases hc : xs[i] = ys[i]
    · simp only [hc, beq_self_eq_true, Bool.not_true, Bool.false_eq_true, if_false, Sem.run_pure, Result.andThen_ok, List.cons.injEq, true_and]
      exact ih
    · have hb : (xs[i] == ys[i]) = false := by simp [hc]
      simp only [hb, Bool.not_false, if_true, Sem.run_pure, Result.andThen_ok, List.cons.injEq, hc, false_and, if_false]

theorem eq22 (d : Nat) (xs ys : List Int) (hx : xs.length = 16) (hy : ys.length = 16) (w : World) :
    (Op.equalIn (d + 2) 22 (.agg (xs.map (Value.int .u8)).toArray) (.agg (ys.map (Value.int .u8)).toArray)).run Try.prog w = .ok (decide (xs = ys)) w := by
  have h := eqBytes d xs ys w (by omega) 16 0 (by omega)
  rw [Op.equalIn]
  simp only [Sem.run_bind, run_underlying Try.underlying22 w, Result.andThen_ok, size5]
  simp only [Std.Legacy.Range.forIn_eq_forIn_range', Std.Legacy.Range.size, Nat.sub_zero, Nat.add_sub_cancel, Nat.div_one]
  rw [h]
  simp only [List.drop_zero, Result.andThen_ok]
  by_cases hc : xs = ys <;> simp [hc]

theorem extract_b (a : Ad) : (adc a).extract 1 17 = (a.b.toList.map (Value.int .u8)).toArray := by
  apply Array.toList_inj.1
  simp only [adc, adl, Array.toList_extract, List.extract, List.drop_succ_cons, List.drop_zero, Nat.reduceSub]
  exact List.take_of_length_le (by simp)

theorem part4v (x : Ad) (w : World) : (part 4 (adc x) 0).run Try.prog w = .ok (.bool x.v6) w := by
  simp [part, Sem.run_bind, adc_zero]
theorem part22b (x : Ad) (w : World) : (part 22 (adc x) 1).run Try.prog w = .ok (.agg (x.b.toList.map (Value.int .u8)).toArray) w := by
  simp only [part, Sem.run_bind, isAgg22, Result.andThen_ok, if_true, size22, Sem.run_pure, Nat.reduceAdd, extract_b]

theorem eqAd (a b : Ad) : (a.v6 == b.v6 && decide (a.b.toList = b.b.toList)) = decide (a = b) := by
  have hb : (a.b.toList = b.b.toList) ↔ a.b = b.b := Vector.toList_inj
  have he : a = b ↔ a.v6 = b.v6 ∧ a.b = b.b := by
    constructor
    · intro h; rw [h]; exact ⟨rfl, rfl⟩
    · intro ⟨h1, h2⟩; cases a; cases b; cases h1; cases h2; rfl
  rw [Bool.eq_iff_iff]
  simp only [Bool.and_eq_true, beq_iff_eq, decide_eq_true_eq, hb, he]

theorem eqF24 (d : Nat) (a b : Ad) (w : World) : (Op.eqFields (d + 2) (adc a) (adc b) [{ name := "V6", type := 4, offset := 0, embedded := false, tag := "", pkgPath := "", byteOffset := 0 }, { name := "B", type := 22, offset := 1, embedded := false, tag := "", pkgPath := "", byteOffset := 1 }]).run Try.prog w = .ok (decide (a = b)) w := by
  have e0 : (Op.equalIn (d + 2) 4 (.bool a.v6) (.bool b.v6)).run Try.prog w = .ok (a.v6 == b.v6) w := run_equalIn_bool' w (d + 1) 4 _ _ Try.underlying4
  have e1 := eq22 d a.b.toList b.b.toList (by simp) (by simp) w
  have n0 : ("V6" = "_") = False := by simp
  have n1 : ("B" = "_") = False := by simp
  simp only [Op.eqFields, ne_eq, n0, n1, not_false_eq_true, if_true, Sem.run_bind, part4v, part22b, Result.andThen_ok, e0, e1, Sem.run_ite, Sem.run_pure]
  rw [← eqAd]
  generalize (a.v6 == b.v6) = x
  generalize decide (a.b.toList = b.b.toList) = y
  cases x <;> cases y <;> rfl

theorem under24 : Try.prog.underlying 24 = some (.struct (Try.prog.fieldsOf 24)) := by rw [fields24]; exact Try.underlying24
theorem eq24in (d : Nat) (a b : Ad) (w : World) : (Op.equalIn (d + 3) 24 (.agg (adc a)) (.agg (adc b))).run Try.prog w = .ok (decide (a = b)) w := by
  rw [run_equalIn_struct w (d + 2) 24 (adc a) (adc b) under24 held24, fields24]
  exact eqF24 d a b w

theorem eq24 (a b : Ad) (w : World) : (binOp .eql 24 (.agg (adc a)) (.agg (adc b))).run Try.prog w = .ok (.bool (decide (a = b))) w := by
  rw [run_eql_struct, eq24in 9997 a b w]
  rfl
theorem guard24 (op : BinOp) (x y : Operand) (a b : Ad) (w : World) : (eqGuard op 24 x y (.agg (adc a)) (.agg (adc b))).run Try.prog w = .ok () w :=
  run_eqGuard_agg w op 24 x y _ _ (by kernel_rfl)
end Go.Proofs.Ytfdjpmglfjiamaa
