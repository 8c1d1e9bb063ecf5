/- How the walk runs loads and stores of whole addresses, packets and keys: one law each, the cells behind a name. -/
import Derived.Test.YtfdjpmglfjiamaaEq
import Derived.Test.YtfdjpmglfjiamaaQuiet
import Derived.Laws.CopyRow
namespace Go.Proofs.Ytfdjpmglfjiamaa
open Go Go.Sort Go.RowKit
set_option linter.unusedSimpArgs false
set_option linter.unusedVariables false

/-- The cells of a block (none: it is no row of cells). -/
def rowOf (w : World) (g : Nat) : Array Value := match w.heap[g]? with | some (.cells c _ _) => c | _ => #[]
/-- No cell of the block is frozen. -/
def freeAt (w : World) (g : Nat) : Bool := match w.heap[g]? with | some (.cells _ _ (0, 0)) => true | _ => false
def sz (c : Array Value) (n : Nat) : Prop := c.size = n
def fitsAt (c : Array Value) (off k : Nat) : Prop := off + k ≤ c.size
def ones (c : Array Value) : Prop := c.all (·.oneCell') = true

section rows
variable (w : World)
theorem rowOf_heap {w : World} {g : Nat} {c : Array Value} {t : TypeId} {fr : Nat × Nat} (h : w.heap[g]? = some (.cells c t fr)) : rowOf w g = c := by simp [rowOf, h]
theorem freeAt_heap {w : World} {g : Nat} {c : Array Value} {t : TypeId} (h : w.heap[g]? = some (.cells c t (0, 0))) : freeAt w g = true := by simp [freeAt, h]
@[go_sem] theorem rowOf_alloc_at (c : Array Value) (t : TypeId) (n : Nat) (h : n = w.heap.size) : rowOf (w.alloc (.cells c t)) n = c := by
  subst h; exact rowOf_heap (heap_alloc_new w _)
@[go_sem] theorem rowOf_alloc_past (o : Obj) (n : Nat) (h : n < w.heap.size) : rowOf (w.alloc o) n = rowOf w n := by
  unfold rowOf; rw [heap_alloc_old w o h]
@[go_sem] theorem rowOf_gr (x : Gx) (n : Nat) (h : n < w.heap.size) : rowOf (gr w x) n = rowOf w n := by
  unfold rowOf; rw [heap_gr w x h]
@[go_sem] theorem rowOf_drewN (m n : Nat) : rowOf (w.drewN m) n = rowOf w n := rfl
@[go_sem] theorem rowOf_drew (n : Nat) : rowOf w.drew n = rowOf w n := rfl
@[go_sem] theorem freeAt_alloc_at (c : Array Value) (t : TypeId) (n : Nat) (h : n = w.heap.size) : freeAt (w.alloc (.cells c t)) n = true := by
  subst h; exact freeAt_heap (heap_alloc_new w _)
@[go_sem] theorem freeAt_alloc_past (o : Obj) (n : Nat) (h : n < w.heap.size) : freeAt (w.alloc o) n = freeAt w n := by
  unfold freeAt; rw [heap_alloc_old w o h]
@[go_sem] theorem freeAt_gr (x : Gx) (n : Nat) (h : n < w.heap.size) : freeAt (gr w x) n = freeAt w n := by
  unfold freeAt; rw [heap_gr w x h]
@[go_sem] theorem freeAt_drewN (m n : Nat) : freeAt (w.drewN m) n = freeAt w n := rfl
@[go_sem] theorem freeAt_drew (n : Nat) : freeAt w.drew n = freeAt w n := rfl

theorem heap_setRow_alloc (o : Obj) (n : Nat) (cs : Array Value) (h : n < w.heap.size) : (w.alloc o).setRow n cs = (w.setRow n cs).alloc o := by
  unfold World.setRow World.alloc
  congr 1
  apply Array.ext_getElem?
  intro k
  simp only [Array.getElem?_modify, Array.getElem?_push, Array.size_modify]
  by_cases hk : k = w.heap.size
  · subst hk
    simp [Nat.ne_of_lt h]
  · simp [hk]
@[go_sem] theorem setRow_alloc_at (c cs : Array Value) (t : TypeId) (n : Nat) (h : n = w.heap.size) : (w.alloc (.cells c t)).setRow n cs = w.alloc (.cells cs t) := by
  subst h
  unfold World.setRow World.alloc
  congr 1
  apply Array.ext_getElem?
  intro k
  simp only [Array.getElem?_modify, Array.getElem?_push]
  by_cases hk : k = w.heap.size
  · subst hk; simp
  · have : ¬ w.heap.size = k := fun e => hk e.symm
    simp [hk, this]
@[go_sem] theorem setRow_alloc_past (o : Obj) (n : Nat) (cs : Array Value) (h : n < w.heap.size) : (w.alloc o).setRow n cs = (w.setRow n cs).alloc o := heap_setRow_alloc w o n cs h
@[go_sem] theorem setRow_gr (x : Gx) (n : Nat) (cs : Array Value) (h : n < w.heap.size) : (gr w x).setRow n cs = gr (w.setRow n cs) x := by
  unfold World.setRow gr grow
  congr 1
  exact modify_append_left _ _ _ _ h
@[go_sem] theorem setRow_drewN (m n : Nat) (cs : Array Value) : (w.drewN m).setRow n cs = (w.setRow n cs).drewN m := rfl
@[go_sem] theorem setRow_drew (n : Nat) (cs : Array Value) : w.drew.setRow n cs = (w.setRow n cs).drew := rfl
@[go_sem] theorem setCell_gr (x : Gx) (n i : Nat) (v : Value) (h : n < w.heap.size) : (gr w x).setCell ⟨n, i, none⟩ v = gr (w.setCell ⟨n, i, none⟩ v) x := by
  unfold World.setCell gr grow
  congr 1
  exact modify_append_left _ _ _ _ h
@[go_sem] theorem setCell_drewN (m : Nat) (a : Addr) (v : Value) : (w.drewN m).setCell a v = (w.setCell a v).drewN m := rfl
attribute [go_sem] size_setRow
end rows

section loads
variable {P : Program} (w : World)
theorem run_loadVar_part (g off ty k : Nat) (ha : ∀ w, (isAgg ty).run P w = .ok true w) (hz : ∀ w, (Go.sizeOf ty).run P w = .ok k w) (hk : 0 < k) (h : fitsAt (rowOf w g) off k) :
    (loadVar ty ⟨g, off, none⟩).run P w = .ok (.agg ((rowOf w g).extract off (off + k))) w := by
  unfold fitsAt at h
  have hb : ∃ c t fr, w.heap[g]? = some (.cells c t fr) := by
    unfold rowOf at h
    split at h
    · rename_i c t fr hh; exact ⟨c, t, fr, hh⟩
    · simp at h; omega
  obtain ⟨c, t, fr, hh⟩ := hb
  rw [rowOf_heap hh] at h ⊢
  have hl := run_loadCells_list (P := P) w ⟨g, off, none⟩ (c.toList.drop off |>.take k) (fun j v hv => by
    rw [Addr.add_lit, cell_of_row w g (off + j) c t fr hh]
    simp only [List.getElem?_take, List.getElem?_drop] at hv
    split at hv
    · simpa using hv
    · cases hv)
  have hlen : (c.toList.drop off |>.take k).length = k := by simp; omega
  rw [hlen] at hl
  simp only [loadVar, Sem.run_bind, ha, hz, Result.andThen_ok, if_true, hl, Sem.run_pure]
  congr 2
  apply Array.toList_inj.1
  simp [List.extract]
theorem run_storeVar_all (g ty k : Nat) (cs : Array Value) (hz : ∀ w, (Go.sizeOf ty).run P w = .ok k w) (h0 : sz (rowOf w g) k) (h1 : freeAt w g = true) (h2 : sz cs k) (h3 : ones cs) :
    (storeVar ty ⟨g, 0, none⟩ (.agg cs)).run P w = .ok () (w.setRow g cs) := by
  unfold sz at h0 h2
  have hb : ∃ c t, w.heap[g]? = some (.cells c t (0, 0)) := by
    unfold freeAt at h1
    split at h1
    · rename_i c t hh; exact ⟨c, t, hh⟩
    · cases h1
  obtain ⟨c, t, hh⟩ := hb
  rw [rowOf_heap hh] at h0
  have hst := run_storeCells_at P g 0 t cs.toList 0 c w hh (by simp; omega) (fun v hv => (Array.all_eq_true_iff_forall_mem.1 h3) v (by simpa using hv))
  simp only [Nat.zero_add, List.take_zero, List.nil_append] at hst
  have hd : c.toList.drop cs.toList.length = [] := by simp; omega
  rw [hd, List.append_nil, Array.toArray_toList] at hst
  simp only [storeVar, Sem.run_bind, hz, Result.andThen_ok, Value.cells, h2, ne_eq, not_true_eq_false, if_false]
  exact hst
end loads

/-! ### A result that lies in a row of its own -/
theorem run_results_cell {P : Program} {fn : Func} {p : Tmp} {ty : TypeId} (k : Nat) (h : fn.results = #[.cell p ty]) (tmps : Array Value) (w : World) (g : Nat) (cs : Array Value) (hp : tmps.getD p undef = .pointer (some ⟨g, 0, none⟩))
    (ha : ∀ w, (isAgg ty).run P w = .ok true w) (hz : ∀ w, (Go.sizeOf ty).run P w = .ok k w) (hk : 0 < k) (hs : sz cs k) (hr : rowOf w g = cs) : (results fn tmps).run P w = .ok (.agg cs) w := by
  have hl := run_loadVar_part (P := P) w g 0 ty k ha hz hk (by rw [hr]; unfold sz at hs; unfold fitsAt; omega)
  rw [hr, Nat.zero_add, show cs.extract 0 k = cs from by rw [← hs]; simp] at hl
  have hp' : tmps[p]?.getD undef = .pointer (some ⟨g, 0, none⟩) := by simpa using hp
  simp [results, h, hp', asAddr, hl]
theorem run_results_cell_tmp {P : Program} {fn : Func} {p u : Tmp} {ty : TypeId} (k : Nat) (h : fn.results = #[.cell p ty, .tmp u]) (tmps : Array Value) (w : World) (g : Nat) (cs : Array Value) (hp : tmps.getD p undef = .pointer (some ⟨g, 0, none⟩))
    (ha : ∀ w, (isAgg ty).run P w = .ok true w) (hz : ∀ w, (Go.sizeOf ty).run P w = .ok k w) (hk : 0 < k) (hs : sz cs k) (hr : rowOf w g = cs) : (results fn tmps).run P w = .ok (.tuple #[.agg cs, tmps.getD u undef]) w := by
  have hl := run_loadVar_part (P := P) w g 0 ty k ha hz hk (by rw [hr]; unfold sz at hs; unfold fitsAt; omega)
  rw [hr, Nat.zero_add, show cs.extract 0 k = cs from by rw [← hs]; simp] at hl
  have hp' : tmps[p]?.getD undef = .pointer (some ⟨g, 0, none⟩) := by simpa using hp
  simp [results, h, hp', asAddr, hl]

/-! ### Addresses -/
@[go_sem] theorem fit_adc (a : Ad) : fitsAt (adc a) 0 17 = True := by simp [fitsAt, adc_size]
@[go_sem] theorem fit_pkc_src (p : Pk) : fitsAt (pkc p) 0 17 = True := by simp [fitsAt, pkc_size]
@[go_sem] theorem fit_pkc_dst (p : Pk) : fitsAt (pkc p) 17 17 = True := by simp [fitsAt, pkc_size]
@[go_sem] theorem ext_adc (a : Ad) : (adc a).extract 0 17 = adc a := by
  rw [show (17 : Nat) = (adc a).size from (adc_size a).symm]; simp
@[go_sem] theorem ext_pkc_src (p : Pk) : (pkc p).extract 0 17 = adc p.src := by
  apply Array.toList_inj.1
  simp only [pkc, pkl, adc, Array.toList_extract, List.extract, List.drop_zero, Nat.sub_zero]
  rw [List.take_append_of_le_length (by rw [adl_len]; omega), List.take_of_length_le (by rw [adl_len]; omega)]
@[go_sem] theorem ext_pkc_dst (p : Pk) : (pkc p).extract 17 34 = adc p.dst := by
  apply Array.toList_inj.1
  simp only [pkc, pkl, adc, Array.toList_extract, List.extract]
  have h : List.drop 17 (adl p.src ++ (adl p.dst ++ pkt p)) = adl p.dst ++ pkt p := by
    rw [← adl_len p.src, List.drop_left]
  rw [h, List.take_append_of_le_length (by rw [adl_len]; omega), List.take_of_length_le (by rw [adl_len]; omega)]
/-- A load, a store, a new variable, behind a name that the walk does not open. -/
def xload (t : TypeId) (v : Value) : Sem Next := do pure (.value (← Instr.loadAt t v))
def xstore (t : TypeId) (a v : Value) : Sem Next := do Instr.storeAt t a v; pure .skip
def xalloc (t : TypeId) : Sem Next := do pure (.value (← Instr.alloc t true (.tuple #[])))
section ops
variable (ρ : Operand → Value) (dst : Option Tmp) (x y : Operand) (ty : TypeId) (pos : String) (after : Array Edge) (guard : Option (Nat × Bool))
@[go_sem ↓] theorem execOp_load24 : execOp ρ { dst, op := .load 24 x, type := ty, pos, after, guard } = xload 24 (ρ x) := rfl
@[go_sem ↓] theorem execOp_load27 : execOp ρ { dst, op := .load 27 x, type := ty, pos, after, guard } = xload 27 (ρ x) := rfl
@[go_sem ↓] theorem execOp_load70 : execOp ρ { dst, op := .load 70 x, type := ty, pos, after, guard } = xload 70 (ρ x) := rfl
@[go_sem ↓] theorem execOp_load52 : execOp ρ { dst, op := .load 52 x, type := ty, pos, after, guard } = xload 52 (ρ x) := rfl
@[go_sem ↓] theorem execOp_store24 : execOp ρ { dst, op := .store 24 x y, type := ty, pos, after, guard } = xstore 24 (ρ x) (ρ y) := rfl
@[go_sem ↓] theorem execOp_store27 : execOp ρ { dst, op := .store 27 x y, type := ty, pos, after, guard } = xstore 27 (ρ x) (ρ y) := rfl
@[go_sem ↓] theorem execOp_store70 : execOp ρ { dst, op := .store 70 x y, type := ty, pos, after, guard } = xstore 70 (ρ x) (ρ y) := rfl
@[go_sem ↓] theorem execOp_store52 : execOp ρ { dst, op := .store 52 x y, type := ty, pos, after, guard } = xstore 52 (ρ x) (ρ y) := rfl
@[go_sem ↓] theorem execOp_alloc24 : execOp ρ { dst, op := .alloc 24, type := ty, pos, after, guard } = xalloc 24 := rfl
@[go_sem ↓] theorem execOp_alloc27 : execOp ρ { dst, op := .alloc 27, type := ty, pos, after, guard } = xalloc 27 := rfl
@[go_sem ↓] theorem execOp_alloc70 : execOp ρ { dst, op := .alloc 70, type := ty, pos, after, guard } = xalloc 70 := rfl
@[go_sem ↓] theorem execOp_alloc52 : execOp ρ { dst, op := .alloc 52, type := ty, pos, after, guard } = xalloc 52 := rfl
end ops
section
variable {P : Program} (w : World)
theorem run_xload (g off ty k : Nat) (ha : ∀ w, (isAgg ty).run P w = .ok true w) (hz : ∀ w, (Go.sizeOf ty).run P w = .ok k w) (hk : 0 < k) (h : fitsAt (rowOf w g) off k) :
    (xload ty (.pointer (some ⟨g, off, none⟩))).run P w = .ok (.value (.agg ((rowOf w g).extract off (off + k)))) w := by
  simp only [xload, Instr.loadAt, Instr.sureAddr, Sem.run_bind, Sem.run_pure, Result.andThen_ok, run_loadVar_part w g off ty k ha hz hk h]
theorem run_xstore (g ty k : Nat) (cs : Array Value) (hz : ∀ w, (Go.sizeOf ty).run P w = .ok k w) (h0 : sz (rowOf w g) k) (h1 : freeAt w g = true) (h2 : sz cs k) (h3 : ones cs) :
    (xstore ty (.pointer (some ⟨g, 0, none⟩)) (.agg cs)).run P w = .ok .skip (w.setRow g cs) := by
  simp only [xstore, Instr.storeAt, Instr.sureAddr, Sem.run_bind, Sem.run_pure, Result.andThen_ok, run_storeVar_all w g ty k cs hz h0 h1 h2 h3]
end
@[go_sem] theorem run_load24 (w : World) (g off : Nat) (h : fitsAt (rowOf w g) off 17) : (xload 24 (.pointer (some ⟨g, off, none⟩))).run Try.prog w = .ok (.value (.agg ((rowOf w g).extract off (off + 17)))) w :=
  run_xload w g off 24 17 isAgg24 size24 (by omega) h
@[go_sem] theorem sz_adc (a : Ad) : sz (adc a) 17 = True := by simp [sz, adc_size]
theorem adl_ones (a : Ad) : ∀ v ∈ adl a, v.oneCell' = true := by
  intro v hv
  simp only [adl, List.mem_cons, List.mem_map] at hv
  rcases hv with rfl | ⟨x, _, rfl⟩ <;> rfl
@[go_sem] theorem ones_adc (a : Ad) : ones (adc a) = True := by
  simp only [ones, adc, eq_iff_iff, iff_true]
  exact Array.all_eq_true_iff_forall_mem.2 (fun v hv => adl_ones a v (by simpa using hv))
@[go_sem] theorem run_store24 (w : World) (g : Nat) (cs : Array Value) (h0 : sz (rowOf w g) 17) (h1 : freeAt w g = true) (h2 : sz cs 17) (h3 : ones cs) : (xstore 24 (.pointer (some ⟨g, 0, none⟩)) (.agg cs)).run Try.prog w = .ok .skip (w.setRow g cs) :=
  run_xstore w g 24 17 cs size24 h0 h1 h2 h3
def zad : Ad := ⟨false, #v[0, 0, 0, 0, 0, 0, 0, 0, 0, 0, 0, 0, 0, 0, 0, 0]⟩
@[go_sem] theorem run_alloc24 (w : World) : (xalloc 24).run Try.prog w = .ok (.value (.pointer (some ⟨w.heap.size, 0, none⟩))) (w.alloc (.cells (adc zad) 24)) := by kernel_rfl
attribute [go_sem] adc_zero pkc_0 pkc_17 pkc_34 pkc_35 pkc_36 pkc_37 pkc_38 pkc_39 pkc_40 pkc_41 pkc_42 pkc_43 pkc_44 pkc_45
theorem adc_1 (a : Ad) : (adc a)[1]? = some (.int .u8 a.b[0]) := adc_succ a 0 (by omega)
theorem adc_2 (a : Ad) : (adc a)[2]? = some (.int .u8 a.b[1]) := adc_succ a 1 (by omega)
theorem adc_3 (a : Ad) : (adc a)[3]? = some (.int .u8 a.b[2]) := adc_succ a 2 (by omega)
theorem adc_4 (a : Ad) : (adc a)[4]? = some (.int .u8 a.b[3]) := adc_succ a 3 (by omega)
attribute [go_sem] adc_1 adc_2 adc_3 adc_4
/-- == on two addresses. -/
def eqlBoth (t : TypeId) (x y : Operand) (u v : Value) : Sem Value := do
  eqGuard .eql t x y u v
  binOp .eql t u v
def xeql (t : TypeId) (x y : Operand) (u v : Value) : Sem Next := do pure (.value (← eqlBoth t x y u v))
@[go_sem ↓] theorem execOp_eql24 (ρ : Operand → Value) (dst : Option Tmp) (x y : Operand) (yt ty : TypeId) (pos : String) (after : Array Edge) (guard : Option (Nat × Bool)) :
    execOp ρ { dst, op := .binOp .eql 24 x y yt, type := ty, pos, after, guard } = xeql 24 x y (ρ x) (ρ y) := rfl
@[go_sem] theorem run_xeql24 (x y : Operand) (a b : Ad) (w : World) : (xeql 24 x y (.agg (adc a)) (.agg (adc b))).run Try.prog w = .ok (.value (.bool (decide (a = b)))) w := by
  simp only [xeql, eqlBoth, Sem.run_bind, guard24, Result.andThen_ok, eq24, Sem.run_pure]

/-! ### Packets -/
@[go_sem] theorem sz_pkc (p : Pk) : sz (pkc p) 46 = True := by simp [sz, pkc_size]
theorem pkl_ones (p : Pk) : ∀ v ∈ pkl p, v.oneCell' = true := by
  intro v hv
  simp only [pkl, pkt, List.mem_append, List.mem_cons, List.not_mem_nil, or_false] at hv
  rcases hv with h | h | h
  · exact adl_ones _ v h
  · exact adl_ones _ v h
  · rcases h with rfl | rfl | rfl | rfl | rfl | rfl | rfl | rfl | rfl | rfl | rfl | rfl <;> rfl
@[go_sem] theorem ones_pkc (p : Pk) : ones (pkc p) = True := by
  simp only [ones, pkc, eq_iff_iff, iff_true]
  exact Array.all_eq_true_iff_forall_mem.2 (fun v hv => pkl_ones p v (by simpa using hv))
@[go_sem] theorem fit_pkc (p : Pk) : fitsAt (pkc p) 0 46 = True := by simp [fitsAt, pkc_size]
@[go_sem] theorem ext_pkc (p : Pk) : (pkc p).extract 0 46 = pkc p := by
  rw [show (46 : Nat) = (pkc p).size from (pkc_size p).symm]; simp
@[go_sem] theorem run_load27 (w : World) (g off : Nat) (h : fitsAt (rowOf w g) off 46) : (xload 27 (.pointer (some ⟨g, off, none⟩))).run Try.prog w = .ok (.value (.agg ((rowOf w g).extract off (off + 46)))) w :=
  run_xload w g off 27 46 isAgg27 size27 (by omega) h
@[go_sem] theorem run_store27 (w : World) (g : Nat) (cs : Array Value) (h0 : sz (rowOf w g) 46) (h1 : freeAt w g = true) (h2 : sz cs 46) (h3 : ones cs) : (xstore 27 (.pointer (some ⟨g, 0, none⟩)) (.agg cs)).run Try.prog w = .ok .skip (w.setRow g cs) :=
  run_xstore w g 27 46 cs size27 h0 h1 h2 h3
def zpk : Pk := ⟨zad, zad, 0, 0, 0, 0, 0, false, false, ByteArray.empty, 0, none, 0, 0, false, ByteArray.empty, []⟩
@[go_sem] theorem run_alloc27 (w : World) : (xalloc 27).run Try.prog w = .ok (.value (.pointer (some ⟨w.heap.size, 0, none⟩))) (w.alloc (.cells (pkc zpk) 27)) := by kernel_rfl
@[go_sem ↓] theorem execOp_build27 (ρ : Operand → Value) (dst : Option Tmp) (ty : TypeId) (pos : String) (after : Array Edge) (guard : Option (Nat × Bool)) (w : World) :
    (execOp ρ { dst, op := .build 27 #[], type := ty, pos, after, guard }).run Try.prog w = .ok (.value (.agg (pkc zpk))) w := by kernel_rfl

/-- A store into one field. -/
theorem pkc_set (p q : Pk) (i : Nat) (v : Value) (h1 : q.src = p.src) (h2 : q.dst = p.dst) (h : pkt q = (pkt p).set i v) : (pkc p).setIfInBounds (34 + i) v = pkc q := by
  apply Array.toList_inj.1
  simp only [pkc, pkl, Array.toList_setIfInBounds]
  rw [List.set_append_right _ _ (by rw [adl_len]; omega), List.set_append_right _ _ (by rw [adl_len, adl_len]; omega), adl_len, adl_len, h1, h2, h]
  congr 3
  omega
@[go_sem] theorem pkc_set37 (p : Pk) (x : Int) : (pkc p).setIfInBounds 37 (.int .i64 x) = pkc { p with id := x } := pkc_set p _ 3 _ rfl rfl rfl
@[go_sem] theorem pkc_set38 (p : Pk) (x : Int) : (pkc p).setIfInBounds 38 (.int .i64 x) = pkc { p with off := x } := pkc_set p _ 4 _ rfl rfl rfl
@[go_sem] theorem pkc_set39 (p : Pk) (x : Bool) : (pkc p).setIfInBounds 39 (.bool x) = pkc { p with more := x } := pkc_set p _ 5 _ rfl rfl rfl
@[go_sem] theorem pkc_set44 (p : Pk) (x : Bool) : (pkc p).setIfInBounds 44 (.bool x) = pkc { p with cut := x } := pkc_set p _ 10 _ rfl rfl rfl
@[go_sem] theorem pkc_set45 (p : Pk) (x : ByteArray) : (pkc p).setIfInBounds 45 (.string x) = pkc { p with pay := x } := pkc_set p _ 11 _ rfl rfl rfl
@[go_sem] theorem pkc_set43 (p : Pk) (a : Option Addr) (l c : Nat) : (pkc p).setIfInBounds 43 (.slice a l c) = pkc { p with xa := a, xl := l, xc := c } := pkc_set p _ 9 _ rfl rfl rfl
/-! ### Extension headers -/
@[go_sem] theorem run_idx25 (p : Pk) (hX : XA p) (i : Int) (w : World) (h0 : 0 ≤ i) (h1 : i < p.xl) :
    (Instr.indexAt 25 (.slice p.xa p.xl p.xc) (.int .i64 i)).run Try.prog w = .ok (.pointer (some ⟨xg p, xo p + i.toNat * 2, none⟩)) w := by
  unfold XA at hX
  rw [hX, run_indexAt_slice w 25 _ _ _ _ _ (by kernel_rfl), if_pos ⟨h0, h1⟩]
  have hz : (Go.sizeOf (Try.prog.elem 25)).run Try.prog w = .ok 2 w := by kernel_rfl
  rw [hz, Result.andThen_ok, Addr.add_lit]
theorem gr_less {w w' : World} {p : Pk} (h : ExtsAt w p) (hg : Gr w w') : ExtsAt w' p := by
  obtain ⟨x, rfl⟩ := hg
  exact h.less (by rw [size_gr]; omega) (fun k hk => heap_gr w x hk)
theorem alloc_less {w : World} {p : Pk} (h : ExtsAt w p) (o : Obj) : ExtsAt (w.alloc o) p := gr_less h ((Gr.refl w).alloc o)

end Go.Proofs.Ytfdjpmglfjiamaa
