/- The map of heaps: its keys' equality. The map of heaps: look-up, store, delete. The map of heaps: store, delete. Whole loads, stores, new variables of keys. -/
import Derived.Test.YtfdjpmglfjiamaaRun
import Derived.Laws.IdiomRangeMap
import Derived.Maps.RangeRun
namespace Go.Proofs.Ytfdjpmglfjiamaa
open Go Go.Sort Go.RowKit
set_option linter.unusedSimpArgs false
set_option linter.unusedVariables false

theorem isAgg41 (w : World) : (isAgg 41).run Try.prog w = .ok true w := by kernel_rfl
theorem size41 (w : World) : (Go.sizeOf 41).run Try.prog w = .ok 2 w := by kernel_rfl
theorem isAgg70 (w : World) : (isAgg 70).run Try.prog w = .ok true w := by kernel_rfl
theorem size70 (w : World) : (Go.sizeOf 70).run Try.prog w = .ok 38 w := by kernel_rfl
theorem isAgg3 (w : World) : (isAgg 3).run Try.prog w = .ok false w := by kernel_rfl

theorem key_src (k : Key) : (keyc k).extract 2 19 = adc k.src := by
  apply Array.toList_inj.1
  simp only [keyc, keyl, adc, Array.toList_extract, List.extract, List.drop_succ_cons, List.drop_zero, Nat.reduceSub]
  rw [List.take_append_of_le_length (by rw [adl_len]; omega), List.take_of_length_le (by rw [adl_len]; omega)]
theorem key_dst (k : Key) : (keyc k).extract 19 36 = adc k.dst := by
  apply Array.toList_inj.1
  simp only [keyc, keyl, adc, Array.toList_extract, List.extract, Nat.reduceSub]
  have e : List.drop 19 (Value.int .i64 k.peer :: Value.int .i64 k.epoch :: (adl k.src ++ (adl k.dst ++ [Value.int .i64 k.proto, Value.int .i64 k.id]))) = adl k.dst ++ [Value.int .i64 k.proto, Value.int .i64 k.id] := by
    rw [show (19 : Nat) = 17 + 1 + 1 from rfl, List.drop_succ_cons, List.drop_succ_cons]
    exact List.drop_left' (adl_len _)
  rw [e, List.take_append_of_le_length (by rw [adl_len]; omega), List.take_of_length_le (by rw [adl_len]; omega)]
theorem key_tag (k : Key) : (keyc k).extract 0 2 = #[.int .i64 k.peer, .int .i64 k.epoch] := by
  apply Array.toList_inj.1
  simp [keyc, keyl, List.extract]
theorem key_tail (k : Key) (i : Nat) : (keyc k)[36 + i]? = [Value.int .i64 k.proto, Value.int .i64 k.id][i]? := by
  simp only [keyc, keyl, List.getElem?_toArray]
  rw [show 36 + i = (34 + i) + 1 + 1 by omega, List.getElem?_cons_succ, List.getElem?_cons_succ, List.getElem?_append_right (by rw [adl_len]; omega), List.getElem?_append_right (by rw [adl_len, adl_len]; omega), adl_len, adl_len]
  congr 1
  omega

theorem part41 (k : Key) (w : World) : (part 41 (keyc k) 0).run Try.prog w = .ok (.agg #[.int .i64 k.peer, .int .i64 k.epoch]) w := by
  simp only [part, Sem.run_bind, isAgg41, Result.andThen_ok, if_true, size41, Sem.run_pure, Nat.zero_add, key_tag]
theorem part24s (k : Key) (w : World) : (part 24 (keyc k) 2).run Try.prog w = .ok (.agg (adc k.src)) w := by
  simp only [part, Sem.run_bind, isAgg24, Result.andThen_ok, if_true, size24, Sem.run_pure, Nat.reduceAdd, key_src]
theorem part24d (k : Key) (w : World) : (part 24 (keyc k) 19).run Try.prog w = .ok (.agg (adc k.dst)) w := by
  simp only [part, Sem.run_bind, isAgg24, Result.andThen_ok, if_true, size24, Sem.run_pure, Nat.reduceAdd, key_dst]
theorem part3p (k : Key) (w : World) : (part 3 (keyc k) 36).run Try.prog w = .ok (.int .i64 k.proto) w := by
  have h : (keyc k)[36]? = some (.int .i64 k.proto) := key_tail k 0
  simp [part, Sem.run_bind, isAgg3, h]
theorem part3i (k : Key) (w : World) : (part 3 (keyc k) 37).run Try.prog w = .ok (.int .i64 k.id) w := by
  have h : (keyc k)[37]? = some (.int .i64 k.id) := key_tail k 1
  simp [part, Sem.run_bind, isAgg3, h]

theorem fields41 : Try.prog.fieldsOf 41 = #[{ name := "Peer", type := 3, offset := 0, embedded := false, tag := "", pkgPath := "", byteOffset := 0 }, { name := "Epoch", type := 3, offset := 1, embedded := false, tag := "", pkgPath := "", byteOffset := 8 }] := by kernel_rfl
theorem under41 : Try.prog.underlying 41 = some (.struct (Try.prog.fieldsOf 41)) := by rw [fields41]; exact Try.underlying41
theorem eq41 (d : Nat) (a b a' b' : Int) (w : World) : (Op.equalIn (d + 2) 41 (.agg #[.int .i64 a, .int .i64 b]) (.agg #[.int .i64 a', .int .i64 b'])).run Try.prog w = .ok (decide (a = a' ∧ b = b')) w := by
  have e0 : (Op.equalIn (d + 1) 3 (.int .i64 a) (.int .i64 a')).run Try.prog w = .ok (a == a') w := run_equalIn_int w d 3 .i64 .i64 _ _ Try.underlying3
  have e1 : (Op.equalIn (d + 1) 3 (.int .i64 b) (.int .i64 b')).run Try.prog w = .ok (b == b') w := run_equalIn_int w d 3 .i64 .i64 _ _ Try.underlying3
  have n0 : ("Peer" = "_") = False := by simp
  have n1 : ("Epoch" = "_") = False := by simp
  have p0 : ∀ x y : Int, (part 3 #[Value.int .i64 x, .int .i64 y] 0).run Try.prog w = .ok (.int .i64 x) w := fun x y => by simp [part, Sem.run_bind, isAgg3]
  have p1 : ∀ x y : Int, (part 3 #[Value.int .i64 x, .int .i64 y] 1).run Try.prog w = .ok (.int .i64 y) w := fun x y => by simp [part, Sem.run_bind, isAgg3]
  rw [run_equalIn_struct w (d + 1) 41 _ _ under41 held41, fields41]
  simp only [Op.eqFields, ne_eq, n0, n1, not_false_eq_true, if_true, Sem.run_bind, p0, p1, Result.andThen_ok, e0, e1, Sem.run_ite, Sem.run_pure]
  by_cases h1 : a = a' <;> by_cases h2 : b = b' <;> simp [h1, h2]

theorem fields70 : Try.prog.fieldsOf 70 = #[{ name := "tag", type := 41, offset := 0, embedded := false, tag := "", pkgPath := "adit/frag", byteOffset := 0 },
        { name := "src", type := 24, offset := 2, embedded := false, tag := "", pkgPath := "adit/frag", byteOffset := 16 },
        { name := "dst", type := 24, offset := 19, embedded := false, tag := "", pkgPath := "adit/frag", byteOffset := 33 },
        { name := "proto", type := 3, offset := 36, embedded := false, tag := "", pkgPath := "adit/frag", byteOffset := 56 },
        { name := "id", type := 3, offset := 37, embedded := false, tag := "", pkgPath := "adit/frag", byteOffset := 64 }] := by kernel_rfl
theorem under70 : Try.prog.underlying 70 = some (.struct (Try.prog.fieldsOf 70)) := by rw [fields70]; exact Try.underlying70
theorem eq70in (d : Nat) (k k' : Key) (w : World) : (Op.equalIn (d + 4) 70 (.agg (keyc k)) (.agg (keyc k'))).run Try.prog w = .ok (decide (k = k')) w := by
  have e0 := eq41 (d + 1) k.peer k.epoch k'.peer k'.epoch w
  have e1 := eq24in d k.src k'.src w
  have e2 := eq24in d k.dst k'.dst w
  have e3 : (Op.equalIn (d + 3) 3 (.int .i64 k.proto) (.int .i64 k'.proto)).run Try.prog w = .ok (k.proto == k'.proto) w := run_equalIn_int w (d + 2) 3 .i64 .i64 _ _ Try.underlying3
  have e4 : (Op.equalIn (d + 3) 3 (.int .i64 k.id) (.int .i64 k'.id)).run Try.prog w = .ok (k.id == k'.id) w := run_equalIn_int w (d + 2) 3 .i64 .i64 _ _ Try.underlying3
  have n0 : ("tag" = "_") = False := by simp
  have n1 : ("src" = "_") = False := by simp
  have n2 : ("dst" = "_") = False := by simp
  have n3 : ("proto" = "_") = False := by simp
  have n4 : ("id" = "_") = False := by simp
  rw [run_equalIn_struct w (d + 3) 70 _ _ under70 held70, fields70]
  simp only [Op.eqFields, ne_eq, n0, n1, n2, n3, n4, not_false_eq_true, if_true, Sem.run_bind, part41, part24s, part24d, part3p, part3i, Result.andThen_ok, e0, e1, e2, e3, e4, Sem.run_ite, Sem.run_pure]
  have hk : k = k' ↔ (k.peer = k'.peer ∧ k.epoch = k'.epoch) ∧ k.src = k'.src ∧ k.dst = k'.dst ∧ k.proto = k'.proto ∧ k.id = k'.id := by
    constructor
    · intro h; rw [h]; exact ⟨⟨rfl, rfl⟩, rfl, rfl, rfl, rfl⟩
    · rintro ⟨⟨h1, h2⟩, h3, h4, h5, h6⟩
      cases k; cases k'
      simp at h1 h2 h3 h4 h5 h6
      subst h1 h2 h3 h4 h5 h6
      rfl
  by_cases c0 : k.peer = k'.peer ∧ k.epoch = k'.epoch <;> by_cases c1 : k.src = k'.src <;> by_cases c2 : k.dst = k'.dst <;> by_cases c3 : k.proto = k'.proto <;> by_cases c4 : k.id = k'.id <;> simp [c0, c1, c2, c3, c4, hk]
theorem eq70 (k k' : Key) (w : World) : (Op.equal 70 (.agg (keyc k)) (.agg (keyc k'))).run Try.prog w = .ok (decide (k = k')) w := eq70in 9996 k k' w
end Go.Proofs.Ytfdjpmglfjiamaa
namespace Go.Proofs.Ytfdjpmglfjiamaa
open Go Go.Sort Go.RowKit
set_option linter.unusedSimpArgs false
set_option linter.unusedVariables false

theorem check_plain (b : Bool) (n : Nat) (t : TypeId) (v : Value) (w : World) (k : IntKind) (h : Try.prog.underlying t = some (.int k)) : (Instr.checkKey b (n + 1) t v).run Try.prog w = .ok () w := by
  rw [Instr.checkKey]
  simp only [Sem.run_bind, run_underlying h w, Result.andThen_ok]
  rfl
theorem check_bool (b : Bool) (n : Nat) (v : Value) (w : World) : (Instr.checkKey b (n + 1) 4 v).run Try.prog w = .ok () w := by
  rw [Instr.checkKey]
  simp only [Sem.run_bind, run_underlying Try.underlying4 w, Result.andThen_ok]
  rfl
theorem check22 (b : Bool) (n : Nat) (xs : List Int) (hx : xs.length = 16) (w : World) : (Instr.checkKey b (n + 2) 22 (.agg (xs.map (Value.int .u8)).toArray)).run Try.prog w = .ok () w := by
  rw [Instr.checkKey]
  simp only [Sem.run_bind, run_underlying Try.underlying22 w, Result.andThen_ok, size5]
  simp only [Std.Legacy.Range.forIn_eq_forIn_range', Std.Legacy.Range.size, Nat.sub_zero, Nat.add_sub_cancel, Nat.div_one]
  have h : ∀ (m i : Nat), i + m = 16 → (forIn (m := Sem) (List.range' i m) PUnit.unit fun j (_ : PUnit) => do
      Instr.checkKey b (n + 1) 5 (← part 5 (xs.map (Value.int .u8)).toArray (j * (← Go.sizeOf 5)))
      pure (ForInStep.yield PUnit.unit)).run Try.prog w = .ok PUnit.unit w := by
    intro m
    induction m with
    | zero => intro i _; simp
    | succ m ih =>
      intro i hi
      have px := part5 (xs.map (Value.int .u8)).toArray (i * 1) (.int .u8 xs[i]) (by simp) w
      rw [List.range'_succ, List.forIn_cons]
      simp only [Sem.run_bind, size5, Result.andThen_ok, px, check_plain b n 5 _ w .u8 Try.underlying5, Sem.run_pure]
      exact ih (i + 1) (by omega)
  rw [h 16 0 (by omega)]
  rfl
theorem check24 (b : Bool) (n : Nat) (a : Ad) (w : World) : (Instr.checkKey b (n + 3) 24 (.agg (adc a))).run Try.prog w = .ok () w := by
  have e1 := check22 b n a.b.toList (by simp) w
  have e0 := check_bool b (n + 1) (.bool a.v6) w
  rw [Instr.checkKey]
  simp only [Sem.run_bind, run_underlying Try.underlying24 w, Result.andThen_ok]
  simp [Sem.run_bind, part4v, part22b, e0, e1]
theorem check41 (b : Bool) (n : Nat) (x y : Int) (w : World) : (Instr.checkKey b (n + 2) 41 (.agg #[.int .i64 x, .int .i64 y])).run Try.prog w = .ok () w := by
  have e0 := check_plain b n 3 (.int .i64 x) w .i64 Try.underlying3
  have e1 := check_plain b n 3 (.int .i64 y) w .i64 Try.underlying3
  have p0 : (part 3 #[Value.int .i64 x, .int .i64 y] 0).run Try.prog w = .ok (.int .i64 x) w := by simp [part, Sem.run_bind, isAgg3]
  have p1 : (part 3 #[Value.int .i64 x, .int .i64 y] 1).run Try.prog w = .ok (.int .i64 y) w := by simp [part, Sem.run_bind, isAgg3]
  rw [Instr.checkKey]
  simp only [Sem.run_bind, run_underlying Try.underlying41 w, Result.andThen_ok]
  simp [Sem.run_bind, p0, p1, e0, e1]
theorem check70 (b : Bool) (k : Key) (w : World) : (Instr.checkKey b 10000 70 (.agg (keyc k))).run Try.prog w = .ok () w := by
  have e0 := check41 b 9997 k.peer k.epoch w
  have e1 := check24 b 9996 k.src w
  have e2 := check24 b 9996 k.dst w
  have e3 := check_plain b 9998 3 (.int .i64 k.proto) w .i64 Try.underlying3
  have e4 := check_plain b 9998 3 (.int .i64 k.id) w .i64 Try.underlying3
  rw [show (10000 : Nat) = 9999 + 1 from rfl, Instr.checkKey]
  simp only [Sem.run_bind, run_underlying Try.underlying70 w, Result.andThen_ok]
  simp [Sem.run_bind, part41, part24s, part24d, part3p, part3i, e0, e1, e2, e3, e4]

/-- An entry of the map. -/
structure Ent where
  key : Key
  blk : Nat
  born : Nat
def Ent.me (e : Ent) : MapEntry := ⟨.agg (keyc e.key), .pointer (some ⟨e.blk, 0, none⟩), e.born⟩
def ents (l : List Ent) : Array MapEntry := (l.map Ent.me).toArray

set_option maxRecDepth 100000 in
theorem findAsking70 (k : Key) (w : World) : ∀ (l : List Ent) (i : Nat), (Instr.findAsking 70 (.agg (keyc k)) (l.map Ent.me) i).run Try.prog w =
    .ok ((l.findIdx? fun e => decide (k = e.key)).map fun j => (i + j, .pointer (some ⟨((l.find? fun e => decide (k = e.key)).map (·.blk)).getD 0, 0, none⟩))) w
  | [], i => by simp [Instr.findAsking]
  | e :: l, i => by
    have h := eq70 k e.key w
    rw [List.map_cons, Instr.findAsking, Sem.run_bind]
    rw [show e.me.key = .agg (keyc e.key) from rfl, show e.me.val = .pointer (some ⟨e.blk, 0, none⟩) from rfl, h]
    by_cases hk : k = e.key
    · simp [hk, List.findIdx?_cons, List.find?_cons]
    · have ih := findAsking70 k w l (i + 1)
      have hd : decide (k = e.key) = false := by simp [hk]
      simp only [hd, Result.andThen_ok, Bool.false_eq_true, if_false, ih, List.findIdx?_cons, List.find?_cons, Option.map_map]
      congr 2
      funext j
      simp only [Function.comp]
      congr 1
      omega
/-- Where the key stands. -/
def at? (k : Key) (l : List Ent) : Option Nat := l.findIdx? fun e => decide (k = e.key)
def of? (k : Key) (l : List Ent) : Option Ent := l.find? fun e => decide (k = e.key)

set_option maxRecDepth 100000 in
theorem run_findKey (k : Key) (w : World) (l : List Ent) : (Instr.findKey 70 (.agg (keyc k)) (l.map Ent.me)).run Try.prog w =
    .ok ((at? k l).map fun j => (j, .pointer (some ⟨((of? k l).map (·.blk)).getD 0, 0, none⟩))) w := by
  have h := findAsking70 k w l 0
  unfold Instr.findKey
  rw [Sem.run_bind, run_underlying Try.underlying70 w, Result.andThen_ok]
  cases l with
  | nil => rfl
  | cons e l =>
    have hn : Instr.findNow (TypeDesc.struct (Try.prog.fieldsOf 70)) (.agg (keyc k)) ((e :: l).map Ent.me) 0 = none := rfl
    rw [fields70] at hn
    rw [hn]
    simp only [Nat.zero_add] at h
    exact h

theorem ents_toList (l : List Ent) : (ents l).toList = l.map Ent.me := rfl

set_option maxRecDepth 100000 in
theorem run_lookup61 (k : Key) (w : World) (mb clock : Nat) (l : List Ent) (hb : w.heap[mb]? = some (.map (ents l) clock)) :
    (Instr.lookup 61 (.map (some mb)) (.agg (keyc k)) false).run Try.prog w = .ok (match of? k l with | some e => .pointer (some ⟨e.blk, 0, none⟩) | none => .pointer none) w := by
  unfold Instr.lookup
  rw [Sem.run_bind, run_underlying Try.underlying61 w, Result.andThen_ok]
  simp only [Sem.run_bind, MapKept.run_getObj_map hb, Result.andThen_ok, Sem.run_pure, check70, ents_toList, run_findKey]
  unfold at? of?
  cases hf : l.findIdx? (fun e => decide (k = e.key)) with
  | none =>
    have : l.find? (fun e => decide (k = e.key)) = none := by
      rw [List.findIdx?_eq_none_iff] at hf
      exact List.find?_eq_none.2 fun x hx => by simpa using hf x hx
    rw [this]
    simp [Sem.run_bind, Try.zeroValue71]
  | some j =>
    obtain ⟨e, he⟩ : ∃ e, l.find? (fun e => decide (k = e.key)) = some e := by
      rw [List.findIdx?_eq_some_iff_getElem] at hf
      obtain ⟨hj, h1, _⟩ := hf
      exact Option.isSome_iff_exists.1 (List.find?_isSome.2 ⟨l[j], List.getElem_mem hj, h1⟩)
    rw [he]
    simp

end Go.Proofs.Ytfdjpmglfjiamaa
namespace Go.Proofs.Ytfdjpmglfjiamaa
open Go Go.Sort Go.RowKit
open Go.ChangeMaps (setBlock)
set_option linter.unusedSimpArgs false
set_option linter.unusedVariables false

theorem run_setObj_map {w : World} {r : Nat} {es : Array MapEntry} {c : Nat} (hr : w.heap[r]? = some (.map es c)) (o' : Obj) : (setObj r o').run Try.prog w = .ok () (setBlock w r o') := by
  simp [setObj, Sem.run, hr, setBlock]

theorem setBlock_same {w : World} {r : Nat} {o : Obj} (h : w.heap[r]? = some o) : setBlock w r o = w := by
  obtain ⟨hlt, he⟩ := Array.getElem?_eq_some_iff.1 h
  unfold setBlock
  congr 1
  apply Array.ext_getElem?
  intro i
  simp only [Array.set!_eq_setIfInBounds, Array.getElem?_setIfInBounds]
  by_cases hi : r = i
  · subst hi; simp [hlt, he]
  · simp [hi]

theorem lookup_nil (k : Key) (w : World) : (Instr.lookup 61 (.map none) (.agg (keyc k)) false).run Try.prog w = .ok (.pointer none) w := by
  unfold Instr.lookup
  rw [Sem.run_bind, run_underlying Try.underlying61 w, Result.andThen_ok]
  have h := run_findKey k w []
  simp only [List.map_nil] at h
  simp only [Sem.run_bind, Sem.run_pure, Result.andThen_ok, check70, h]
  simp [at?, Sem.run_bind, Try.zeroValue71]

set_option maxRecDepth 100000 in
theorem run_update61 (k : Key) (w : World) (mb clock blk : Nat) (l : List Ent) (hb : w.heap[mb]? = some (.map (ents l) clock)) (hk : of? k l = none) :
    (Instr.mapUpdate 61 (.map (some mb)) (.agg (keyc k)) (.pointer (some ⟨blk, 0, none⟩))).run Try.prog w = .ok () (setBlock w mb (.map (ents (l ++ [⟨k, blk, clock⟩])) (clock + 1))) := by
  unfold Instr.mapUpdate
  rw [Sem.run_bind, run_underlying Try.underlying61 w, Result.andThen_ok]
  have hn : at? k l = none := by
    unfold at?
    rw [List.findIdx?_eq_none_iff]
    intro x hx
    have := List.find?_eq_none.1 hk x hx
    simpa using this
  simp only [Sem.run_bind, MapKept.run_getObj_map hb, Result.andThen_ok, Sem.run_pure, check70, ents_toList, run_findKey, hn, Option.map_none]
  rw [run_setObj_map hb]
  have : (ents l).push ⟨.agg (keyc k), .pointer (some ⟨blk, 0, none⟩), clock⟩ = ents (l ++ [⟨k, blk, clock⟩]) := by
    apply Array.toList_inj.1
    simp [ents, Ent.me]
  rw [this]

set_option maxRecDepth 100000 in
theorem run_delete61 (k : Key) (w : World) (mb clock : Nat) (ty : TypeId) (l : List Ent) (hb : w.heap[mb]? = some (.map (ents l) clock)) :
    (Builtin.delete_ #[61, 70] ty #[.map (some mb), .agg (keyc k)]).run Try.prog w = .ok (.tuple #[]) (setBlock w mb (.map (ents (match at? k l with | some j => l.eraseIdx j | none => l)) clock)) := by
  unfold Builtin.delete_
  simp only [List.getElem?_toArray, List.getElem?_cons_zero, List.getElem?_cons_succ, Sem.run_bind, run_underlying Try.underlying61 w, Result.andThen_ok, MapKept.run_getObj_map hb, Sem.run_pure, check70, ents_toList, run_findKey]
  have he : ∀ j, (ents l).eraseIdxIfInBounds j = ents (l.eraseIdx j) := fun j => by
    apply Array.toList_inj.1
    rw [Array.eraseIdxIfInBounds_eq]
    split
    · simp [ents, Go.ChangeMaps.map_eraseIdx]
    · rename_i hj
      have : l.length ≤ j := by simpa [ents] using hj
      simp [ents, List.eraseIdx_of_length_le this]
  cases hj : at? k l with
  | none =>
    simp only [Option.map_none, Sem.run_bind, run_setObj_map hb, Result.andThen_ok, Sem.run_pure]
  | some j =>
    simp only [Option.map_some, Sem.run_bind, run_setObj_map hb, Result.andThen_ok, Sem.run_pure, he]

theorem delete_nil (k : Key) (w : World) (ty : TypeId) : (Builtin.delete_ #[61, 70] ty #[.map none, .agg (keyc k)]).run Try.prog w = .ok (.tuple #[]) w := by
  unfold Builtin.delete_
  simp only [List.getElem?_toArray, List.getElem?_cons_zero, List.getElem?_cons_succ, Sem.run_bind, run_underlying Try.underlying61 w, Result.andThen_ok, check70, Sem.run_pure]
end Go.Proofs.Ytfdjpmglfjiamaa
namespace Go.Proofs.Ytfdjpmglfjiamaa
open Go Go.Sort Go.RowKit
set_option linter.unusedSimpArgs false
set_option linter.unusedVariables false

@[go_sem] theorem sz_keyc (k : Key) : sz (keyc k) 38 = True := by simp [sz, keyc_size]
theorem keyl_ones (k : Key) : ∀ v ∈ keyl k, v.oneCell' = true := by
  intro v hv
  simp only [keyl, List.mem_cons, List.mem_append, List.mem_singleton, List.not_mem_nil, or_false] at hv
  rcases hv with rfl | rfl | hv | hv | rfl | rfl
  · rfl
  · rfl
  · exact adl_ones _ v hv
  · exact adl_ones _ v hv
  · rfl
  · rfl
@[go_sem] theorem ones_keyc (k : Key) : ones (keyc k) = True := by
  simp only [ones, eq_iff_iff, iff_true]
  rw [Array.all_eq_true_iff_forall_mem]
  intro v hv
  exact keyl_ones k v (by simpa [keyc] using hv)
@[go_sem] theorem fit_keyc (k : Key) : fitsAt (keyc k) 0 38 = True := by simp [fitsAt, keyc_size]
@[go_sem] theorem ext_keyc (k : Key) : (keyc k).extract 0 38 = keyc k := by
  have := keyc_size k
  rw [← this]; simp
@[go_sem] theorem run_load70 (w : World) (g off : Nat) (h : fitsAt (rowOf w g) off 38) : (xload 70 (.pointer (some ⟨g, off, none⟩))).run Try.prog w = .ok (.value (.agg ((rowOf w g).extract off (off + 38)))) w :=
  run_xload w g off 70 38 isAgg70 size70 (by omega) h
@[go_sem] theorem run_store70 (w : World) (g : Nat) (cs : Array Value) (h0 : sz (rowOf w g) 38) (h1 : freeAt w g = true) (h2 : sz cs 38) (h3 : ones cs) : (xstore 70 (.pointer (some ⟨g, 0, none⟩)) (.agg cs)).run Try.prog w = .ok .skip (w.setRow g cs) :=
  run_xstore w g 70 38 cs size70 h0 h1 h2 h3
def zkey : Key := ⟨0, 0, zad, zad, 0, 0⟩
@[go_sem] theorem run_alloc70 (w : World) : (xalloc 70).run Try.prog w = .ok (.value (.pointer (some ⟨w.heap.size, 0, none⟩))) (w.alloc (.cells (keyc zkey) 70)) := by kernel_rfl
end Go.Proofs.Ytfdjpmglfjiamaa
