/- Walk: ip.Build at version 6. -/
import Derived.Test.YtfdjpmglfjiamaaWk
import Derived.Test.YtfdjpmglfjiamaaWq
import Derived.Test.YtfdjpmglfjiamaaRb
import Derived.RangeFuncNested
import Derived.RangeFuncBound
import Derived.RangeFuncCalls
import Derived.RangeFuncLeaves
namespace Go.Proofs.Ytfdjpmglfjiamaa
open Go Go.Sort Go.RowKit Go.Shelf
set_option linter.unusedSimpArgs false
set_option linter.unusedVariables false

attribute [local go_sem] Oper.semAt_some

attribute [local irreducible] Calls in
set_option maxRecDepth 100000 in
set_option maxHeartbeats 4000000 in
theorem build_v6c (p : Pk) (w : World) (hr : right p = true) (h6 : p.src.v6 = true) (hcut : p.cut = true) (hx : ExtsAt w p) (hp : p.pay.size ≤ 140737488351232) :
    Calls Try.prog 18 #[.agg (pkc p)] w fun e w' => (∃ s, e = .returned (.tuple #[.string s, .int .i64 (bldCode p)])) ∧ Gr w w' := by
  have hX : ∀ x, ExtsAt (gr (w.alloc (.cells (pkc p) 27)) x) p := fun x => gr_less hx (((Gr.refl w).alloc _).more x)
  have hX0 : ExtsAt (w.alloc (.cells (pkc p) 27)) p := gr_less hx ((Gr.refl w).alloc _)
  have ho := right_opts hr
  have hhd := right_head hr
  have s1 : (bytesOfAd p.src).size = 16 := bytesOfAd_v6 h6
  have s2 : (bytesOfAd p.dst).size = 16 := bytesOfAd_v6 (by simp [rightHead, h6] at hhd; simp [hhd])
  have hcls : 0 ≤ p.cls ∧ p.cls ≤ 255 := by simp [rightHead, upto] at hhd; omega
  have hhop : 0 ≤ p.hop ∧ p.hop ≤ 255 := by simp [rightHead, upto] at hhd; omega
  have hpro : 0 ≤ p.proto ∧ p.proto ≤ 255 := by simp [rightHead, upto] at hhd; omega
  have hoff : 0 ≤ p.off ∧ p.off ≤ 65528 := by simp [rightHead, upto] at hhd; omega
  have hid : 0 ≤ p.id ∧ p.id ≤ 4294967295 := by have := hr; simp [right, h6, right6, upto] at this; omega
  have hflow : 0 ≤ p.flow ∧ p.flow ≤ 1048575 := by have := hr; simp [right, h6, right6, upto] at this; omega
  clear hhd
  have hh := headN_le p hr hx.len
  have hh40 : 40 ≤ headN p := by simp only [headN, h6, if_true]; omega
  have hrow : ∀ x, rowOf (gr (w.alloc (.cells (pkc p) 27)) x) w.heap.size = pkc p := fun x => by
    rw [rowOf_gr _ _ _ (by simp), rowOf_alloc_at _ _ _ _ rfl]
  refine (callsIn_wide (n := 9)).1 (callsIn_of_wp_marks Try.func18 rfl trivial ?_ rfl)
  rw [wpIn_wide]
  simp only [Try.ntmps18, List.size_toArray, List.length_cons, List.length_nil, Nat.reduceAdd, Nat.reduceSub, Array.replicate_succ, Array.replicate_zero, List.push_toArray, List.append_toArray, List.nil_append, List.cons_append]
  go_wp2_with (first
    | (go_at_call 10; refine (right_any p _ hX0 (by omega)).mono ?_; rintro e w' ⟨rfl, x, rfl⟩; have hX1 := hX x; have hr1 := hrow x)
    | (go_at_call 21; refine (head_any p _ hr hX1).mono ?_; rintro e w' ⟨rfl, y, rfl⟩))
  have hb : (gr (w.alloc (Obj.cells (pkc p) 27)) ⟨y.n, x.os ++ y.os⟩).heap[w.heap.size]? = some (.cells (pkc p) 27) := by
    rw [heap_gr _ _ (by simp)]; exact heap_alloc_new _ _
  have hG : Hid (Gr w (gr (w.alloc (Obj.cells (pkc p) 27)) ⟨y.n, x.os ++ y.os⟩)) := ((Gr.refl w).alloc _).more _
  have hz : Hid (w.heap.size < (gr (w.alloc (Obj.cells (pkc p) 27)) ⟨y.n, x.os ++ y.os⟩).heap.size) := by
    show w.heap.size < _
    rw [size_gr]; simp; omega
  generalize gr (w.alloc (Obj.cells (pkc p) 27)) ⟨y.n, x.os ++ y.os⟩ = W at hb hG hz ⊢
  obtain ⟨b1, b2, b3, b4⟩ := boxed hb
  have HB : Hid (W.heap[w.heap.size]? = some (.cells (pkc p) 27)) := hb
  clear hb hX hX0 hX1 hr1 hrow
  refine wp_region_gr (by kernel_rfl) (by kernel_rfl) ?_
  repeat (go_big_quiet_step ((go_at_call 34; exact quiet_gr ⟨_, rfl⟩ (bytes_any _ _))))
  refine wpQuiet_nil ?_
  rintro _ ⟨x1, rfl⟩
  have hb := (heap_gr W x1 b1).trans HB.out
  have hG1 : Hid (Gr w (gr W x1)) := hG.out.more x1
  clear b1 b2 b3 b4 HB hG hz
  generalize gr W x1 = W1 at hb hG1 ⊢
  obtain ⟨b1, b2, b3, b4⟩ := boxed hb
  have HB : Hid (W1.heap[w.heap.size]? = some (.cells (pkc p) 27)) := hb
  clear hb
  have hEs : (bytesOfAd p.src ++ bytesOfAd p.dst).size = 32 := by rw [ByteArray.size_append, s1, s2]
  generalize bytesOfAd p.src ++ bytesOfAd p.dst = E at hEs ⊢
  go_wp2
  · refine ⟨_, results_tmp2 rfl _ _ _, ?_⟩
    have hgt : 65575 < headN p + p.pay.size := by omega
    refine ⟨⟨⟨#[]⟩, ?_⟩, hG1.out⟩
    simp [bldCode, hr, h6, hgt]
  have fl1 := flagV_le p.more 1 (by omega)
  have o3 := or_in p.off (flagV p.more 1) (by omega) (by omega) (by omega) (by omega)
  have hc8 : (((W1.alloc (Obj.cells #[Value.int IntKind.i64 p.proto] 3)).alloc (Obj.cells #[Value.string p.pay] 9)).heap[W1.heap.size]?) = some (.cells #[.int .i64 p.proto] 3) := by
    rw [heap_alloc_old _ _ (by simp)]; exact heap_alloc_new _ _
  have hc9 : (((W1.alloc (Obj.cells #[Value.int IntKind.i64 p.proto] 3)).alloc (Obj.cells #[Value.string p.pay] 9)).heap[W1.heap.size + 1]?) = some (.cells #[.string p.pay] 9) := by
    have := heap_alloc_new (W1.alloc (Obj.cells #[Value.int IntKind.i64 p.proto] 3)) (Obj.cells #[Value.string p.pay] 9)
    rwa [World.size_alloc] at this
  have hbp : (((W1.alloc (Obj.cells #[Value.int IntKind.i64 p.proto] 3)).alloc (Obj.cells #[Value.string p.pay] 9)).heap[w.heap.size]?) = some (.cells (pkc p) 27) := by
    rw [heap_alloc_old _ _ (by simp; omega), heap_alloc_old _ _ b1]; exact HB.out
  have hGl : Hid (Gr W1 ((W1.alloc (Obj.cells #[Value.int IntKind.i64 p.proto] 3)).alloc (Obj.cells #[Value.string p.pay] 9))) := ((Gr.refl W1).alloc _).alloc _
  have hS2 : Hid (((W1.alloc (Obj.cells #[Value.int IntKind.i64 p.proto] 3)).alloc (Obj.cells #[Value.string p.pay] 9)).heap.size = W1.heap.size + 2) := by
    show _ = _
    simp
  have hsz1 : w.heap.size < W1.heap.size := b1
  clear b2 b3 b4 b1
  generalize (W1.alloc (Obj.cells #[Value.int IntKind.i64 p.proto] 3)).alloc (Obj.cells #[Value.string p.pay] 9) = W2 at hc8 hc9 hbp hGl hS2 ⊢
  obtain ⟨b1, b2, b3, b4⟩ := boxed hbp
  have a8 : W2.cell? ⟨W1.heap.size, 0, none⟩ = some (.int .i64 p.proto) := cell_of_row W2 W1.heap.size 0 _ 3 (0, 0) hc8
  have a9 : W2.cell? ⟨W1.heap.size + 1, 0, none⟩ = some (.string p.pay) := cell_of_row W2 (W1.heap.size + 1) 0 _ 9 (0, 0) hc9
  have g8 : W2.frozen? ⟨W1.heap.size, 0, none⟩ = false := by simp [World.frozen?, hc8]
  have g9 : W2.frozen? ⟨W1.heap.size + 1, 0, none⟩ = false := by simp [World.frozen?, hc9]
  have z8lt2 : W1.heap.size < W2.heap.size := (Array.getElem?_eq_some_iff.1 hc8).1
  have z9lt2 : W1.heap.size + 1 < W2.heap.size := (Array.getElem?_eq_some_iff.1 hc9).1
  have HBp : Hid (W2.heap[w.heap.size]? = some (.cells (pkc p) 27)) := hbp
  clear hc8 hc9 hbp
  refine wp_region_gr_tail 18 (by kernel_rfl) (by kernel_rfl) ?_
  simp only [List.take, List.drop]
  repeat (go_big_quiet_step ((first
    | (go_at_call 36; exact quiet_gr_same ⟨_, rfl⟩ (flagV_any _ _ _))
    | (go_at_call 35; refine quiet_gr ⟨_, rfl⟩ (put_1 _ _ ?_ ?_) <;> omega)
    | (go_at_call 35; refine quiet_gr ⟨_, rfl⟩ (put_2 _ _ ?_ ?_) <;> omega)
    | (go_at_call 35; refine quiet_gr ⟨_, rfl⟩ (put_4 _ _ ?_ ?_) <;> omega))))
  refine wpQuiet_nil ?_
  rintro _ ⟨y2, rfl⟩
  have a8' := (cell_gr W2 y2 W1.heap.size 0 z8lt2).trans a8
  have a9' := (cell_gr W2 y2 (W1.heap.size + 1) 0 z9lt2).trans a9
  have g8' := (frozen_gr W2 y2 W1.heap.size 0 z8lt2).trans g8
  have g9' := (frozen_gr W2 y2 (W1.heap.size + 1) 0 z9lt2).trans g9
  have hW3 : Hid (Gr W1 (gr W2 y2)) := hGl.out.more y2
  have hS3 : Hid (W2.heap.size ≤ (gr W2 y2).heap.size) := by show _ ≤ _; rw [size_gr]; omega
  have hpc : ∀ v u i, (((gr W2 y2).setCell ⟨W1.heap.size + 1, 0, none⟩ v).setCell ⟨W1.heap.size, 0, none⟩ u).cell? ⟨w.heap.size, i, none⟩ = (pkc p)[i]? := fun v u i => by
    rw [World.cell?_setCell_other _ _ _ _ (by first | (simp; done) | (simp; omega)), World.cell?_setCell_other _ _ _ _ (by first | (simp; done) | (simp; omega)), cell_gr _ _ _ _ b1]
    exact b2 i
  clear a8 a9 g8 g9 b1 b2 b3 b4 HBp hGl
  generalize gr W2 y2 = W3 at a8' a9' g8' g9' hW3 hS3 hpc ⊢
  go_wp2
  have hS0 : (putB p.proto 1 ++ putB 0 1 ++ putB (bits BinOp.or IntKind.i64 p.off (flagV p.more 1)) 2 ++ putB p.id 4 ++ p.pay).size = p.pay.size + 8 := by
    simp [ByteArray.size_append, putB_1, putB_2, putB_4]; omega
  generalize putB p.proto 1 ++ putB 0 1 ++ putB (bits BinOp.or IntKind.i64 p.off (flagV p.more 1)) 2 ++ putB p.id 4 ++ p.pay = S0 at hS0 ⊢
  have e8 : (((W3.setCell ⟨W1.heap.size + 1, 0, none⟩ (.string S0)).setCell ⟨W1.heap.size, 0, none⟩ (.int .i64 44)).alloc (Obj.cells #[Value.slice p.xa p.xl p.xc] 25)).cell? ⟨W1.heap.size, 0, none⟩ = some (.int .i64 44) := by
    have hs3 := hS3.out
    rw [World.cell?_of_block (heap_alloc_old _ _ (by simp; omega))]
    exact World.cell?_setCell_same' _ _ _ (by rw [World.cell?_setCell_other _ _ _ _ (by simp), a8']; rfl)
  have e9 : (((W3.setCell ⟨W1.heap.size + 1, 0, none⟩ (.string S0)).setCell ⟨W1.heap.size, 0, none⟩ (.int .i64 44)).alloc (Obj.cells #[Value.slice p.xa p.xl p.xc] 25)).cell? ⟨W1.heap.size + 1, 0, none⟩ = some (.string S0) := by
    have hs3 := hS3.out
    rw [World.cell?_of_block (heap_alloc_old _ _ (by simp; omega)), World.cell?_setCell_other _ _ _ _ (by simp)]
    exact World.cell?_setCell_same' _ _ _ (by rw [a9']; rfl)
  have g8 : (((W3.setCell ⟨W1.heap.size + 1, 0, none⟩ (.string S0)).setCell ⟨W1.heap.size, 0, none⟩ (.int .i64 44)).alloc (Obj.cells #[Value.slice p.xa p.xl p.xc] 25)).frozen? ⟨W1.heap.size, 0, none⟩ = false := by
    have hs3 := hS3.out
    rw [World.frozen?_of_block (heap_alloc_old _ _ (by simp; omega)), World.frozen?_setCell, World.frozen?_setCell]; exact g8'
  have g9 : (((W3.setCell ⟨W1.heap.size + 1, 0, none⟩ (.string S0)).setCell ⟨W1.heap.size, 0, none⟩ (.int .i64 44)).alloc (Obj.cells #[Value.slice p.xa p.xl p.xc] 25)).frozen? ⟨W1.heap.size + 1, 0, none⟩ = false := by
    have hs3 := hS3.out
    rw [World.frozen?_of_block (heap_alloc_old _ _ (by simp; omega)), World.frozen?_setCell, World.frozen?_setCell]; exact g9'
  have hcB : (((W3.setCell ⟨W1.heap.size + 1, 0, none⟩ (.string S0)).setCell ⟨W1.heap.size, 0, none⟩ (.int .i64 44)).alloc (Obj.cells #[Value.slice p.xa p.xl p.xc] 25)).heap[W3.heap.size]? = some (.cells #[.slice p.xa p.xl p.xc] 25) := by
    have := heap_alloc_new ((W3.setCell ⟨W1.heap.size + 1, 0, none⟩ (.string S0)).setCell ⟨W1.heap.size, 0, none⟩ (.int .i64 44)) (Obj.cells #[Value.slice p.xa p.xl p.xc] 25)
    rwa [World.size_setCell, World.size_setCell] at this
  have hGl : Gr W1 (((W3.setCell ⟨W1.heap.size + 1, 0, none⟩ (.string S0)).setCell ⟨W1.heap.size, 0, none⟩ (.int .i64 44)).alloc (Obj.cells #[Value.slice p.xa p.xl p.xc] 25)) := by
    have hs3 := hS3.out
    exact Gr.of_below (((hW3.out.below.setCell (p := ⟨W1.heap.size + 1, 0, none⟩) (Nat.le_succ _) _).setCell (p := ⟨W1.heap.size, 0, none⟩) (Nat.le_refl _) _).alloc (by simp; omega) _)
  have hBs1 : W1.heap.size + 1 < W3.heap.size := by have hs3 := hS3.out; omega
  generalize ((W3.setCell ⟨W1.heap.size + 1, 0, none⟩ (.string S0)).setCell ⟨W1.heap.size, 0, none⟩ (.int .i64 44)).alloc (Obj.cells #[Value.slice p.xa p.xl p.xc] 25) = Wl at e8 e9 g8 g9 hcB hGl ⊢
  clear hpc a8' a9' g8' g9' hW3 hS3
  generalize W3.heap.size = Bs at hcB hBs1 ⊢
  have b1 := hsz1
  have hxl : ExtsAt Wl p := gr_less hx (hG1.out.trans hGl)
  have hsl : Bs < Wl.heap.size := (Array.getElem?_eq_some_iff.1 hcB).1
  have hxb : p.exts ≠ [] → xg p < W1.heap.size := fun he => Nat.lt_trans (hx.at_ he).2 b1
  have hok := right_kinds hr h6
  have eB := cell_of_row Wl Bs 0 _ 25 (0, 0) hcB
  clear hcB
  rw [← wpIn_wide (n := 9)]
  refine rangeBack (n := 9) (by omega) rfl W1.heap.size (by omega) hsl (back_stops Fence.wide 8 trivial rfl (by omega) _ W1.heap.size p Wl hok hxb hsl eB hxl)
    (Ib W1.heap.size (W1.heap.size + 1) (p.pay.size + 8) Wl) (Ib.own _ _ _ _ _ (by omega) (by omega))
    ⟨⟨44, e8, by omega, by omega⟩, ⟨S0, e9, by simp [hS0]⟩, g8, g9, Below.refl _ _⟩ ?assign ?body ?done
  case assign =>
    intro l pre x W K hi hK
    simp only [List.setIfInBounds_toArray, List.set_cons_zero, List.set_cons_succ] at hK ⊢
    gi_wp2
    have hWl := hi.below.size
    exact hK W.heap.size _ ((KeepsOthers.alloc _ _).from _) ⟨(Below.refl _ W).alloc (by omega) _, heap_alloc_old W _ (by omega)⟩ ((Ib.own _ _ _ Wl.heap.size Wl (by omega) (by omega)).alloc _ hi) hWl (heap_alloc_new W _)
  case body =>
    intro l pre x W Bb hi hB hh hN
    simp only [List.setIfInBounds_toArray, List.set_cons_zero, List.set_cons_succ]
    obtain ⟨k, hk, k0, k1⟩ := hi.kind
    obtain ⟨s, hs, hsz⟩ := hi.rest
    have hf8 := hi.f8
    have hf9 := hi.f9
    have hWl := hi.below.size
    have hx1 := x.2.1
    have hx2 := x.2.2.1
    have hx3 := x.2.2.2
    have hN4 : pre.length < 4 := Nat.lt_of_lt_of_le hN (right_xl hr h6)
    have c1 : W.cell? ⟨Bb, 0, none⟩ = some (.int .i64 x.1.2.kind) := cell_of_row W Bb 0 _ 59 (0, 0) hh
    have c2 : W.cell? ⟨Bb, 1, none⟩ = some (.string x.1.2.body) := cell_of_row W Bb 1 _ 59 (0, 0) hh
    have hBb : Bb < W.heap.size := (Array.getElem?_eq_some_iff.1 hh).1
    have z8lt : W1.heap.size < W.heap.size := by omega
    have z9lt : W1.heap.size + 1 < W.heap.size := by omega
    gi_wp2
    refine wpInR_region_gr_tail 13 (by kernel_rfl) (by kernel_rfl) (by kernel_rfl) ?_
    simp only [List.take, List.drop]
    repeat (go_big_quiet_step ((go_at_call 35; refine quiet_gr ⟨_, rfl⟩ (put_1 _ _ ?_ ?_) <;> omega)))
    refine wpQuiet_nil ?_
    rintro _ ⟨y, rfl⟩
    have d1 : (gr W y).cell? ⟨Bb, 0, none⟩ = some (.int .i64 x.1.2.kind) := (cell_gr _ _ _ _ hBb).trans c1
    have d2 : (gr W y).cell? ⟨W1.heap.size, 0, none⟩ = some (.int .i64 k) := (cell_gr _ _ _ _ (by omega)).trans hk
    have d3 : (gr W y).cell? ⟨W1.heap.size + 1, 0, none⟩ = some (.string s) := (cell_gr _ _ _ _ (by omega)).trans hs
    have d4 : (gr W y).frozen? ⟨W1.heap.size, 0, none⟩ = false := (frozen_gr _ _ _ _ (by omega)).trans hf8
    have d5 : (gr W y).frozen? ⟨W1.heap.size + 1, 0, none⟩ = false := (frozen_gr _ _ _ _ (by omega)).trans hf9
    have d6 : Hid (Gr W (gr W y)) := ⟨_, rfl⟩
    generalize gr W y = Wy at d1 d2 d3 d4 d5 d6 ⊢
    gi_wp2
    have hkp : Below W.heap.size W Wy := d6.out.below
    refine ⟨⟨?_, ?_⟩, ⟨?_, ?_⟩, ⟨⟨x.1.2.kind, ?_, hx2, hx3⟩, ⟨putB k 1 ++ putB ((x.1.2.body.size : Int) / 8) 1 ++ x.1.2.body ++ s, ?_, ?_⟩, ?_, ?_, ?_⟩⟩
    · simpa using hkp.size
    · intro j o hj ho _
      rw [Below.heap_setCell _ _ _ _ (by show j ≠ W1.heap.size; omega), Below.heap_setCell _ _ _ _ (by show j ≠ W1.heap.size + 1; omega), hkp.block j (Array.getElem?_eq_some_iff.1 ho).1]
      exact ho
    · exact ((hkp.mono (by omega)).setCell (p := ⟨W1.heap.size + 1, 0, none⟩) (Nat.le_succ _) _).setCell (p := ⟨W1.heap.size, 0, none⟩) (Nat.le_refl _) _
    · rw [Below.heap_setCell _ _ _ _ (by show Bs ≠ W1.heap.size; omega), Below.heap_setCell _ _ _ _ (by show Bs ≠ W1.heap.size + 1; omega), hkp.block _ (by omega)]
    · exact World.cell?_setCell_same' _ _ _ (by rw [World.cell?_setCell_other _ _ _ _ (by simp)]; rw [d2]; rfl)
    · rw [World.cell?_of_block (Below.heap_setCell _ _ _ _ (by show W1.heap.size + 1 ≠ W1.heap.size; omega))]
      exact World.cell?_setCell_same' _ _ _ (by rw [d3]; rfl)
    · simp only [ByteArray.size_append, putB_1, List.length_append, List.length_singleton]
      omega
    · rw [World.frozen?_setCell, World.frozen?_setCell]; exact d4
    · rw [World.frozen?_setCell, World.frozen?_setCell]; exact d5
    · exact hi.below.trans (((hkp.mono (by omega)).setCell (p := ⟨W1.heap.size + 1, 0, none⟩) (Nat.le_succ _) _).setCell (p := ⟨W1.heap.size, 0, none⟩) (Nat.le_refl _) _)
  case done =>
    rintro D ys W hD hS hi hK
    have hbW : W.heap[w.heap.size]? = some (.cells (pkc p) 27) := (hi.below.block _ b1).trans ((hGl.below.block _ b1).trans HB.out)
    obtain ⟨k, hk, k0, k1⟩ := hi.kind
    obtain ⟨s, hs, hsz⟩ := hi.rest
    have hGW : Hid (Below w.heap.size w W) := hG1.out.below.trans ((hGl.below.mono (by omega)).trans (hi.below.mono (by omega)))
    have hWl := hi.below.size
    have hWl1 : W1.heap.size < Wl.heap.size := by omega
    have hyl : ys.length = p.xl := by rw [hS, upto'_length]
    have hxl4 := right_xl hr h6
    have z8lt : W1.heap.size < W.heap.size := by omega
    have z9lt : W1.heap.size + 1 < W.heap.size := by omega
    clear HB hGl hxl hsl e8 e9 eB g8 g9 hi
    obtain ⟨b2, b3, b4, b5⟩ := boxed hbW
    have o1 := or_in 1610612736 (p.cls * 1048576) (by omega) (by omega) (by omega) (by omega)
    have o2 := or_in _ p.flow o1.1 o1.2 (by omega) (by omega)
    go_wp2
    refine wp_region_gr (by kernel_rfl) (by kernel_rfl) ?_
    repeat (go_big_quiet_step ((first
      | (go_at_call 35; refine quiet_gr ⟨_, rfl⟩ (put_1 _ _ ?_ ?_) <;> omega)
      | (go_at_call 35; refine quiet_gr ⟨_, rfl⟩ (put_2 _ _ ?_ ?_) <;> omega)
      | (go_at_call 35; refine quiet_gr ⟨_, rfl⟩ (put_4 _ _ ?_ ?_) <;> omega))))
    refine wpQuiet_nil ?_
    rintro _ ⟨y, rfl⟩
    go_wp2
    have hDs : D < W.heap.size := (Array.getElem?_eq_some_iff.1 hK).1
    have hK2 : (gr W y).heap[D]? = some (.deferred (some [])) := (heap_gr W y hDs).trans hK
    have hle : ¬ (65575 < headN p + p.pay.size) := by omega
    have hBy : Below w.heap.size w (gr W y) := hGW.out.trans ((((Gr.refl W).more y).below).mono (by omega))
    refine ⟨by simp, .inl ⟨_, _, rfl, run_takeDeferred hK2, ?_⟩⟩
    refine ⟨_, results_tmp2 rfl _ _ _, ?_⟩
    refine ⟨⟨putB (bits BinOp.or IntKind.i64 (bits BinOp.or IntKind.i64 1610612736 (p.cls * 1048576)) p.flow) 4 ++ putB ((headN p : Int) + (p.pay.size : Int) - 40) 2 ++ putB k 1 ++ putB p.hop 1 ++ E ++ s, ?_⟩, ?_⟩
    · simp [bldCode, hr, h6, hle]
    · exact Gr.of_below (w := w) <| hBy.grown (grownBy_putObj' _ D _) (by rw [size_gr]; omega) (fun j e => by cases e; omega)

theorem build_any (p : Pk) (w : World) (hr : right p = true) (hx : ExtsAt w p) (hp : p.pay.size ≤ 140737488351232) :
    Calls Try.prog 18 #[.agg (pkc p)] w fun e w' => (∃ s, e = .returned (.tuple #[.string s, .int .i64 (bldCode p)])) ∧ Gr w w' := by
  cases h6 : p.src.v6
  · exact build_v4 p w hr h6 hx hp
  · cases hc : p.cut
    · exact build_v6u p w hr h6 hc hx hp
    · exact build_v6c p w hr h6 hc hx hp

end Go.Proofs.Ytfdjpmglfjiamaa
