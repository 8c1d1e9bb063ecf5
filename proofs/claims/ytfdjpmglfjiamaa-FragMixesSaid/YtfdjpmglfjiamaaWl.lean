/- Walk: ip.Build at version 4. -/
import Derived.Test.YtfdjpmglfjiamaaWr
import Derived.Test.YtfdjpmglfjiamaaWh
import Derived.Test.YtfdjpmglfjiamaaWb
import Derived.Test.YtfdjpmglfjiamaaWp
import Derived.Test.YtfdjpmglfjiamaaWs
import Derived.Laws.BitsAllLaws
import Derived.Lib.QuoteBits
import Derived.Deep.RegionHeld3
namespace Go.Proofs.Ytfdjpmglfjiamaa
open Go Go.Sort Go.RowKit
set_option linter.unusedSimpArgs false
set_option linter.unusedVariables false

theorem boxed {W : World} {z : Nat} {p : Pk} (h : W.heap[z]? = some (.cells (pkc p) 27)) :
    z < W.heap.size ∧ (∀ i, W.cell? ⟨z, i, none⟩ = (pkc p)[i]?) ∧ (∀ y, rowOf (gr W y) z = pkc p) ∧ rowOf W z = pkc p := by
  have h0 : z < W.heap.size := (Array.getElem?_eq_some_iff.1 h).1
  exact ⟨h0, fun i => cell_of_row W z i _ 27 (0, 0) h, fun y => by rw [rowOf_gr _ _ _ h0]; exact rowOf_heap h, rowOf_heap h⟩
theorem or_in (a b : Int) (a0 : 0 ≤ a) (a1 : a < 4294967296) (b0 : 0 ≤ b) (b1 : b < 4294967296) : 0 ≤ bits .or .i64 a b ∧ bits .or .i64 a b < 4294967296 := by
  obtain ⟨m, rfl⟩ := Int.eq_ofNat_of_zero_le a0
  obtain ⟨n, rfl⟩ := Int.eq_ofNat_of_zero_le b0
  have hm : m < 2 ^ 32 := by omega
  have hn : n < 2 ^ 32 := by omega
  have hl : m ||| n < 2 ^ 32 := Nat.or_lt_two_pow hm hn
  have e : bits .or .i64 (m : Int) (n : Int) = ((m ||| n : Nat) : Int) := by
    show IntKind.i64.wrap ((BitVec.ofInt 64 (m : Int) ||| BitVec.ofInt 64 (n : Int)).toNat : Int) = _
    rw [BitVec.toNat_or, ofInt_u64 m (by omega), ofInt_u64 n (by omega)]
    exact Lib.wrap_i64_small _ (by omega)
  rw [e]
  omega

/-- '+' of two strings. -/
@[go_sem] theorem run_cat (a b : ByteArray) (w : World) :
    (Op.stringOp .add a b).run Try.prog w = if 9223372036854775807 < ((a.size : Int) + (b.size : Int)) then (unsupported (.resourceLimit "string concatenation: a sum of the lengths that is no int") : Sem Value).run Try.prog w else .ok (.string (a ++ b)) w := by
  unfold Op.stringOp
  have e : (((a.size + b.size : Nat) : Int) > IntKind.i64.max) = (9223372036854775807 < ((a.size : Int) + (b.size : Int))) := by
    have : IntKind.i64.max = 9223372036854775807 := by decide
    rw [this]; simp
  by_cases h : 9223372036854775807 < ((a.size : Int) + (b.size : Int))
  · simp only [e, if_pos h]
  · simp only [e, if_neg h]; rfl
theorem bytesOfAd_v4 {a : Ad} (h6 : a.v6 = false) (hv : valid a = true) : (bytesOfAd a).size = 4 := by
  simp [bytesOfAd, h6, hv, strOfNums_size]
theorem bytesOfAd_v6 {a : Ad} (h6 : a.v6 = true) : (bytesOfAd a).size = 16 := by
  simp [bytesOfAd, h6, strOfNums_size]
theorem putB_exact (n : Int) (k : Nat) (hk : k ≤ 8) : (putB n k).size = k := by
  unfold putB
  rw [strOfNums_size, List.length_drop, putL_len]; omega
@[go_sem] theorem putB_1 (n : Int) : (putB n 1).size = 1 := putB_exact n 1 (by omega)
@[go_sem] theorem putB_2 (n : Int) : (putB n 2).size = 2 := putB_exact n 2 (by omega)
@[go_sem] theorem putB_4 (n : Int) : (putB n 4).size = 4 := putB_exact n 4 (by omega)

/-- ip.Build's second result. -/
def bldCode (p : Pk) : Int := if right p then (if (if p.src.v6 then 65575 else 65535) < headN p + p.pay.size then 75 else 0) else 1

theorem keepS {W2 w' : World} {z : Nat} {p : Pk} (hz : z < W2.heap.size) (l1 : W2.cell? ⟨z, 41, none⟩ = some (.string p.opts)) (l2 : W2.cell? ⟨z, 45, none⟩ = some (.string p.pay)) (h : Gr W2 w') :
    w'.cell? ⟨z, 41, none⟩ = some (.string p.opts) ∧ w'.cell? ⟨z, 45, none⟩ = some (.string p.pay) ∧ z < w'.heap.size ∧ Gr W2 w' := by
  obtain ⟨x, rfl⟩ := h
  exact ⟨by rw [cell_gr _ _ _ _ hz]; exact l1, by rw [cell_gr _ _ _ _ hz]; exact l2, by rw [size_gr]; omega, x, rfl⟩
theorem three_cells (W : World) (a b c : ByteArray) : ∀ i s, [a, b, c][i]? = some s → (W.alloc (.cells #[.string a, .string b, .string c] 9)).drew.cell? ⟨W.heap.size, i, none⟩ = some (.string s) := by
  intro i s hs
  show (W.alloc (.cells #[.string a, .string b, .string c] 9)).cell? ⟨W.heap.size, i, none⟩ = some (.string s)
  rw [cell_of_row _ _ _ _ 9 (0, 0) (heap_alloc_new W _)]
  match i, hs with
  | 0, h => simpa using h
  | 1, h => simpa using h
  | 2, h => simpa using h
/-- ip.flag. -/
def flagV (b : Bool) (n : Int) : Int := if b then n else 0
theorem flagV_le (b : Bool) (n : Int) (h0 : 0 ≤ n) : 0 ≤ flagV b n ∧ flagV b n ≤ n := by unfold flagV; split <;> omega
theorem flagV_any (b : Bool) (n : Int) (w : World) : Calls Try.prog 36 #[.bool b, .int .i64 n] w fun e w' => e = .returned (.int .i64 (flagV b n)) ∧ w' = w := flag_any b n w
theorem put_1 (n : Int) (w : World) (h0 : 0 ≤ n) (h1 : n < 9223372036854775808) : Calls Try.prog 35 #[.int .i64 n, .int .i64 1] w fun e w' => e = .returned (.string (putB n 1)) ∧ Gr w w' := put35 n 1 w h0 h1 (by omega) (by omega)
theorem put_2 (n : Int) (w : World) (h0 : 0 ≤ n) (h1 : n < 9223372036854775808) : Calls Try.prog 35 #[.int .i64 n, .int .i64 2] w fun e w' => e = .returned (.string (putB n 2)) ∧ Gr w w' := put35 n 2 w h0 h1 (by omega) (by omega)
theorem put_4 (n : Int) (w : World) (h0 : 0 ≤ n) (h1 : n < 9223372036854775808) : Calls Try.prog 35 #[.int .i64 n, .int .i64 4] w fun e w' => e = .returned (.string (putB n 4)) ∧ Gr w w' := put35 n 4 w h0 h1 (by omega) (by omega)

attribute [local irreducible] Calls in
set_option maxRecDepth 100000 in
set_option maxHeartbeats 4000000 in
theorem build_v4 (p : Pk) (w : World) (hr : right p = true) (h6 : p.src.v6 = false) (hx : ExtsAt w p) (hp : p.pay.size ≤ 140737488351232) :
    Calls Try.prog 18 #[.agg (pkc p)] w fun e w' => (∃ s, e = .returned (.tuple #[.string s, .int .i64 (bldCode p)])) ∧ Gr w w' := by
  have hX : ∀ x, ExtsAt (gr (w.alloc (.cells (pkc p) 27)) x) p := fun x => gr_less hx (((Gr.refl w).alloc _).more x)
  have hX0 : ExtsAt (w.alloc (.cells (pkc p) 27)) p := gr_less hx ((Gr.refl w).alloc _)
  have ho := right_opts hr
  have hhd := right_head hr
  have s1 : (bytesOfAd p.src).size = 4 := bytesOfAd_v4 h6 (by simp [rightHead] at hhd; simp [hhd])
  have s2 : (bytesOfAd p.dst).size = 4 := bytesOfAd_v4 (by simp [rightHead, h6] at hhd; simp [hhd]) (by simp [rightHead] at hhd; simp [hhd])
  have hcls : 0 ≤ p.cls ∧ p.cls ≤ 255 := by simp [rightHead, upto] at hhd; omega
  have hhop : 0 ≤ p.hop ∧ p.hop ≤ 255 := by simp [rightHead, upto] at hhd; omega
  have hpro : 0 ≤ p.proto ∧ p.proto ≤ 255 := by simp [rightHead, upto] at hhd; omega
  have hoff : 0 ≤ p.off ∧ p.off ≤ 65528 := by simp [rightHead, upto] at hhd; omega
  have hid4 : 0 ≤ p.id ∧ p.id ≤ 65535 := by have := hr; simp [right, h6, right4, upto] at this; omega
  clear hhd
  have o1 := or_in 64 ((headN p : Int) / 4) (by omega) (by omega) (by have := headN_le p hr hx.len; omega) (by have := headN_le p hr hx.len; omega)
  have fl1 := flagV_le p.more 8192 (by omega)
  have fl2 := flagV_le p.still 16384 (by omega)
  have o2 := or_in (p.off / 8) (flagV p.more 8192) (by omega) (by omega) (by omega) (by omega)
  have o3 := or_in _ (flagV p.still 16384) o2.1 o2.2 (by omega) (by omega)
  have hh := headN_le p hr hx.len
  have hrow : ∀ x, rowOf (gr (w.alloc (.cells (pkc p) 27)) x) w.heap.size = pkc p := fun x => by
    rw [rowOf_gr _ _ _ (by simp), rowOf_alloc_at _ _ _ _ rfl]
  go_enter Try.func18, Try.ntmps18
  go_wp2_with (first
    | (go_at_call 10; refine (right_any p _ hX0 (by omega)).mono ?_; rintro e w' ⟨rfl, x, rfl⟩; have hX1 := hX x; have hr1 := hrow x)
    | (go_at_call 21; refine (head_any p _ hr hX1).mono ?_; rintro e w' ⟨rfl, y, rfl⟩))
  have hb : (gr (w.alloc (Obj.cells (pkc p) 27)) ⟨y.n, x.os ++ y.os⟩).heap[w.heap.size]? = some (.cells (pkc p) 27) := by
    rw [heap_gr _ _ (by simp)]; exact heap_alloc_new _ _
  have hG : Hid (Gr w (gr (w.alloc (Obj.cells (pkc p) 27)) ⟨y.n, x.os ++ y.os⟩)) := ((Gr.refl w).alloc _).more _
  generalize gr (w.alloc (Obj.cells (pkc p) 27)) ⟨y.n, x.os ++ y.os⟩ = W at hb hG ⊢
  obtain ⟨b1, b2, b3, b4⟩ := boxed hb
  have HB : Hid (W.heap[w.heap.size]? = some (.cells (pkc p) 27)) := hb
  clear hb hX hX0 hX1 hr1 hrow hx
  generalize w.heap.size = z at b1 b2 b3 b4 HB ⊢
  refine wp_region_gr (by kernel_rfl) (by kernel_rfl) ?_
  repeat (go_big_quiet_step ((go_at_call 34; exact quiet_gr ⟨_, rfl⟩ (bytes_any _ _))))
  refine wpQuiet_nil ?_
  rintro _ ⟨x1, rfl⟩
  have hb := (heap_gr W x1 b1).trans HB.out
  have hG1 : Hid (Gr w (gr W x1)) := hG.out.more x1
  clear b1 b2 b3 b4 HB hG
  generalize gr W x1 = W1 at hb hG1 ⊢
  obtain ⟨b1, b2, b3, b4⟩ := boxed hb
  have HB : Hid (W1.heap[z]? = some (.cells (pkc p) 27)) := hb
  clear hb
  go_wp2
  · go_ret2
    have hgt : 65535 < headN p + p.pay.size := by omega
    refine ⟨⟨⟨#[]⟩, ?_⟩, hG1.out⟩
    simp [bldCode, hr, h6, hgt]
  refine wp_region_gr (by kernel_rfl) (by kernel_rfl) ?_
  repeat (go_big_quiet_step ((first
    | (go_at_call 36; exact quiet_gr_same ⟨_, rfl⟩ (flagV_any _ _ _))
    | (go_at_call 35; refine quiet_gr ⟨_, rfl⟩ (put_1 _ _ ?_ ?_) <;> omega)
    | (go_at_call 35; refine quiet_gr ⟨_, rfl⟩ (put_2 _ _ ?_ ?_) <;> omega))))
  refine wpQuiet_nil ?_
  rintro _ ⟨x2, rfl⟩
  have hb := (heap_gr W1 x2 b1).trans HB.out
  have hG2 : Hid (Gr w (gr W1 x2)) := hG1.out.more x2
  clear b1 b2 b3 b4 HB hG1
  generalize gr W1 x2 = W2 at hb hG2 ⊢
  obtain ⟨b1, b2, b3, b4⟩ := boxed hb
  have HB : Hid (W2.heap[z]? = some (.cells (pkc p) 27)) := hb
  clear hb o2
  generalize bits BinOp.or IntKind.i64 (bits BinOp.or IntKind.i64 (p.off / 8) (flagV p.more 8192)) (flagV p.still 16384) = fl at o3 ⊢
  generalize bits BinOp.or IntKind.i64 64 ((headN p : Int) / 4) = h4 at o1 ⊢
  have hFs : (putB h4 1 ++ putB p.cls 1 ++ putB ((headN p : Int) + (p.pay.size : Int)) 2 ++ putB p.id 2 ++ putB fl 2 ++ putB p.hop 1 ++ putB p.proto 1).size = 10 := by simp [ByteArray.size_append, putB_1, putB_2]
  generalize putB h4 1 ++ putB p.cls 1 ++ putB ((headN p : Int) + (p.pay.size : Int)) 2 ++ putB p.id 2 ++ putB fl 2 ++ putB p.hop 1 ++ putB p.proto 1 = F at hFs ⊢
  have hEs : (bytesOfAd p.src ++ bytesOfAd p.dst).size = 8 := by rw [ByteArray.size_append, s1, s2]
  generalize bytesOfAd p.src ++ bytesOfAd p.dst = E at hEs ⊢
  have l1 := (b2 41).trans (pkc_41 p)
  have l2 := (b2 45).trans (pkc_45 p)
  have hlist : ∀ s ∈ [F, E, p.opts], s.size ≤ 1000 := by
    intro s hs
    simp at hs
    rcases hs with rfl | rfl | rfl <;> omega
  have hq1 : ¬ (9223372036854775807 < 20 + p.opts.size) := by omega
  have hq2 : ¬ (9223372036854775807 < 20 + p.opts.size + p.pay.size) := by omega
  go_wp2
  go_region_held3 (fun w' => w'.cell? ⟨z, 41, none⟩ = some (.string p.opts) ∧ w'.cell? ⟨z, 45, none⟩ = some (.string p.pay) ∧ z < w'.heap.size ∧ Gr W2 w')
    (exact keepS b1 l1 l2 (by repeat (first | exact Gr.refl _ | refine Gr.drew ?_ | refine Gr.alloc ?_ _ | refine Gr.more ?_ _ | assumption)))
    (first
      | (go_at_call 37; refine (sum_any _ [F, E, p.opts] _ (by simp) hlist (three_cells _ _ _ _)).mono ?_; rintro e w' ⟨⟨r, rfl, hr0, hr1⟩, rfl⟩)
      | (go_at_call 35; refine (put_2 _ _ hr0 (by omega)).mono ?_; rintro e w' ⟨rfl, x, rfl⟩))
  all_goals go_wp2
  all_goals go_ret2
  all_goals
    have hle : ¬ (65535 < headN p + p.pay.size) := by omega
    refine ⟨⟨F ++ putB r 2 ++ E ++ p.opts ++ p.pay, ?_⟩, hG2.out.trans ((((Gr.refl W2).alloc _).drew).more _)⟩
    simp [bldCode, hr, h6, hle]

end Go.Proofs.Ytfdjpmglfjiamaa
