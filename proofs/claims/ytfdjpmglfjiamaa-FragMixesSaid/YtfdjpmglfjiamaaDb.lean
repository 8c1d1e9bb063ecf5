/- The plain data of the frag laws: addresses, packets, keys; how they lie in cells. No program in sight. Further definitions: what the functions of package ip compute. -/
import Derived.WalkKit
import Derived.Sort.Grow
import Derived.Deep.Draws
import Derived.Sort.Walk0
namespace Go.Proofs.Ytfdjpmglfjiamaa
open Go Go.Sort
set_option linter.unusedSimpArgs false
set_option linter.unusedVariables false

/-- An address: its version, its sixteen bytes. -/
structure Ad where
  v6 : Bool
  b : Vector Int 16
deriving DecidableEq

/-- Its seventeen cells. -/
def adl (a : Ad) : List Value := .bool a.v6 :: a.b.toList.map (Value.int .u8)
def adc (a : Ad) : Array Value := (adl a).toArray
def Ad.ok (a : Ad) : Prop := ∀ x ∈ a.b.toList, 0 ≤ x ∧ x ≤ 255

theorem adl_len (a : Ad) : (adl a).length = 17 := by simp [adl]
theorem adc_size (a : Ad) : (adc a).size = 17 := by simp [adc, adl_len]

theorem adc_zero (a : Ad) : (adc a)[0]? = some (.bool a.v6) := by simp [adc, adl]
theorem adc_succ (a : Ad) (i : Nat) (h : i < 16) : (adc a)[i + 1]? = some (.int .u8 a.b[i]) := by
  simp [adc, adl, h]

structure Ext where
  kind : Int
  body : ByteArray

def extl (x : Ext) : List Value := [.int .i64 x.kind, .string x.body]

structure Pk where
  src : Ad
  dst : Ad
  proto : Int
  hop : Int
  cls : Int
  id : Int
  off : Int
  more : Bool
  still : Bool
  opts : ByteArray
  flow : Int
  xa : Option Addr
  xl : Nat
  xc : Nat
  cut : Bool
  pay : ByteArray
  /-- What its extension headers read as (the cells behind xa). -/
  exts : List Ext

/-- The twelve cells behind the addresses. -/
def pkt (p : Pk) : List Value :=
  [.int .i64 p.proto, .int .i64 p.hop, .int .i64 p.cls, .int .i64 p.id, .int .i64 p.off, .bool p.more, .bool p.still, .string p.opts, .int .i64 p.flow, .slice p.xa p.xl p.xc, .bool p.cut, .string p.pay]
/-- A packet's forty-six cells. -/
def pkl (p : Pk) : List Value := adl p.src ++ (adl p.dst ++ pkt p)
def pkc (p : Pk) : Array Value := (pkl p).toArray

theorem pkl_len (p : Pk) : (pkl p).length = 46 := by simp [pkl, pkt, adl_len]
theorem pkc_size (p : Pk) : (pkc p).size = 46 := by simp [pkc, pkl_len]

theorem pkc_get (p : Pk) (i : Nat) : (pkc p)[34 + i]? = (pkt p)[i]? := by
  simp only [pkc, pkl, List.getElem?_toArray]
  rw [List.getElem?_append_right (by rw [adl_len]; omega), List.getElem?_append_right (by rw [adl_len, adl_len]; omega), adl_len, adl_len]
  congr 1
  omega
theorem pkc_src (p : Pk) (i : Nat) (h : i < 17) : (pkc p)[i]? = (adc p.src)[i]? := by
  simp only [pkc, pkl, adc, List.getElem?_toArray]
  rw [List.getElem?_append_left (by rw [adl_len]; omega)]
theorem pkc_dst (p : Pk) (i : Nat) (h : i < 17) : (pkc p)[17 + i]? = (adc p.dst)[i]? := by
  simp only [pkc, pkl, adc, List.getElem?_toArray]
  rw [List.getElem?_append_right (by rw [adl_len]; omega), adl_len, List.getElem?_append_left (by rw [adl_len]; omega)]
  congr 1
  omega

theorem pkc_0 (p : Pk) : (pkc p)[0]? = some (.bool p.src.v6) := by rw [pkc_src p 0 (by omega), adc_zero]
theorem pkc_17 (p : Pk) : (pkc p)[17]? = some (.bool p.dst.v6) := by rw [pkc_dst p 0 (by omega), adc_zero]
theorem pkc_34 (p : Pk) : (pkc p)[34]? = some (.int .i64 p.proto) := pkc_get p 0
theorem pkc_35 (p : Pk) : (pkc p)[35]? = some (.int .i64 p.hop) := pkc_get p 1
theorem pkc_36 (p : Pk) : (pkc p)[36]? = some (.int .i64 p.cls) := pkc_get p 2
theorem pkc_37 (p : Pk) : (pkc p)[37]? = some (.int .i64 p.id) := pkc_get p 3
theorem pkc_38 (p : Pk) : (pkc p)[38]? = some (.int .i64 p.off) := pkc_get p 4
theorem pkc_39 (p : Pk) : (pkc p)[39]? = some (.bool p.more) := pkc_get p 5
theorem pkc_40 (p : Pk) : (pkc p)[40]? = some (.bool p.still) := pkc_get p 6
theorem pkc_41 (p : Pk) : (pkc p)[41]? = some (.string p.opts) := pkc_get p 7
theorem pkc_42 (p : Pk) : (pkc p)[42]? = some (.int .i64 p.flow) := pkc_get p 8
theorem pkc_43 (p : Pk) : (pkc p)[43]? = some (.slice p.xa p.xl p.xc) := pkc_get p 9
theorem pkc_44 (p : Pk) : (pkc p)[44]? = some (.bool p.cut) := pkc_get p 10
theorem pkc_45 (p : Pk) : (pkc p)[45]? = some (.string p.pay) := pkc_get p 11

/-- What a heap of pieces belongs to. -/
structure Key where
  peer : Int
  epoch : Int
  src : Ad
  dst : Ad
  proto : Int
  id : Int
deriving DecidableEq

def keyl (k : Key) : List Value := .int .i64 k.peer :: .int .i64 k.epoch :: (adl k.src ++ (adl k.dst ++ [.int .i64 k.proto, .int .i64 k.id]))
def keyc (k : Key) : Array Value := (keyl k).toArray
theorem keyc_size (k : Key) : (keyc k).size = 38 := by simp [keyc, keyl, adl_len]


/-! ### What the functions of packages wire and ip compute -/
def v4 (a b c d : Int) : Ad := ⟨false, #v[a, b, c, d, 0, 0, 0, 0, 0, 0, 0, 0, 0, 0, 0, 0]⟩
def valid (a : Ad) : Bool := a.v6 || decide (a = v4 a.b[0] a.b[1] a.b[2] a.b[3])
def upto (n m : Int) : Bool := decide (0 ≤ n) && decide (n ≤ m)
def special (n : Int) : Bool := n == 0 || n == 43 || n == 44 || n == 60

/-- May the i-th extension header be? -/
def extOk (i : Nat) (x : Ext) : Bool := special x.kind && !(x.kind == 44) && !(x.kind == 0 && decide (0 < i)) && decide ((x.body.size : Int) % 8 = 6) && decide ((x.body.size : Int) ≤ 2046)
def extsOk (l : List Ext) : Bool := (List.range l.length).all fun i => (l[i]?).all (extOk i)
theorem extOk_iff (i : Nat) (x : Ext) : extOk i x = true ↔ special x.kind = true ∧ ¬ x.kind = 44 ∧ ¬ (x.kind = 0 ∧ 0 < i) ∧ (x.body.size : Int) % 8 = 6 ∧ (x.body.size : Int) ≤ 2046 := by
  simp [extOk, and_assoc]
  intro _ _ _ _
  by_cases h : x.kind = 0 <;> simp [h]
/-- The first test of Right. -/
def rightHead (p : Pk) : Bool := valid p.src && valid p.dst && (p.src.v6 == p.dst.v6) && upto p.proto 255 && upto p.hop 255 && upto p.cls 255 && upto p.off 65528 && !(p.off.tmod 8 != 0)
def right4 (p : Pk) : Bool := upto p.id 65535 && decide ((p.opts.size : Int) % 4 = 0) && decide ((p.opts.size : Int) ≤ 40) && p.flow == 0 && decide (p.xl = 0) && !p.cut
def right6 (p : Pk) : Bool := upto p.flow 1048575 && decide (p.opts.toList = []) && !p.still && decide (p.xl ≤ 4) && upto p.id 4294967295 && !special p.proto && (p.cut || (p.id == 0 && p.off == 0 && !p.more))
/-- ip.Right. -/
def right (p : Pk) : Bool := rightHead p && (if p.src.v6 then extsOk p.exts && right6 p else right4 p)

/-- Where the extension headers lie. -/
def xg (p : Pk) : Nat := match p.xa with | some a => a.block | none => 0
def xo (p : Pk) : Nat := match p.xa with | some a => a.off | none => 0
def XA (p : Pk) : Prop := p.xa = some ⟨xg p, xo p, none⟩
/-- What a packet's header of extension headers leads to. -/
structure ExtsAt (w : World) (p : Pk) : Prop where
  len : p.xl = p.exts.length
  cap : p.xl ≤ p.xc
  fit : p.xc ≤ 9223372036854775807
  nil : p.xa = none → p.xc = 0
  one : p.xa ≠ none → p.xc ≠ 0 → XA p
  at_ : p.exts ≠ [] → XA p ∧ xg p < w.heap.size
  cells : ∀ i x, p.exts[i]? = some x → w.cell? ⟨xg p, xo p + i * 2, none⟩ = some (.int .i64 x.kind) ∧ w.cell? ⟨xg p, xo p + i * 2 + 1, none⟩ = some (.string x.body)
  small : ∀ x ∈ p.exts, x.body.size ≤ 140737488351232
theorem ExtsAt.stays {w w' : World} {p : Pk} (h : ExtsAt w p) (hs : w.heap.size ≤ w'.heap.size) (hk : w'.heap[xg p]? = w.heap[xg p]?) : ExtsAt w' p := by
  refine ⟨h.len, h.cap, h.fit, h.nil, h.one, fun he => ⟨(h.at_ he).1, Nat.lt_of_lt_of_le (h.at_ he).2 hs⟩, fun i x hx => ?_, h.small⟩
  obtain ⟨c1, c2⟩ := h.cells i x hx
  rw [World.cell?_of_block (w := w) (w' := w') hk, World.cell?_of_block (w := w) (w' := w') hk]
  exact ⟨c1, c2⟩
theorem ExtsAt.less {w w' : World} {p : Pk} (h : ExtsAt w p) (hs : w.heap.size ≤ w'.heap.size) (hk : ∀ k, k < w.heap.size → w'.heap[k]? = w.heap[k]?) : ExtsAt w' p := by
  by_cases he : p.exts = []
  · refine ⟨h.len, h.cap, h.fit, h.nil, h.one, fun hn => absurd he hn, fun i x hx => ?_, h.small⟩
    rw [he] at hx; simp at hx
  · exact h.stays hs (hk _ (h.at_ he).2)

end Go.Proofs.Ytfdjpmglfjiamaa
namespace Go.Proofs.Ytfdjpmglfjiamaa
open Go Go.Sort
set_option linter.unusedSimpArgs false
set_option linter.unusedVariables false

/-- What the extension headers take of a header. -/
def extSum (l : List Ext) : Nat := (l.map fun x => 2 + x.body.size).sum
theorem extSum_take_succ (l : List Ext) (k : Nat) (e : Ext) (h : l[k]? = some e) : extSum (l.take (k + 1)) = extSum (l.take k) + (2 + e.body.size) := by
  rw [List.take_add_one, h]; simp [extSum]
set_option maxRecDepth 20000 in
theorem extSum_le (l : List Ext) (hb : ∀ x ∈ l, x.body.size ≤ 2046) : extSum l ≤ l.length * 2048 := by
  induction l with
  | nil => simp [extSum]
  | cons a l ih =>
    have h1 := ih fun x hx => hb x (List.mem_cons_of_mem _ hx)
    have h2 := hb a (by simp)
    have h3 : extSum (a :: l) = (2 + a.body.size) + extSum l := by simp [extSum]
    rw [h3, List.length_cons]
    omega
set_option maxRecDepth 20000 in
theorem extSum_take_le (l : List Ext) (n : Nat) (hb : ∀ x ∈ l, x.body.size ≤ 2046) (hl : l.length ≤ n) (k : Nat) : extSum (l.take k) ≤ n * 2048 := by
  have h1 := extSum_le (l.take k) fun x hx => hb x (List.mem_of_mem_take hx)
  have h2 : (l.take k).length ≤ n := by simp; omega
  omega
/-- ip.head. -/
def headN (p : Pk) : Nat := if p.src.v6 then 40 + extSum p.exts + (if p.cut then 8 else 0) else 20 + p.opts.size
/-- ip.Size. -/
def sizeN (p : Pk) : Nat := if right p then headN p + p.pay.size else 0

theorem right_xl {p : Pk} (h : right p = true) (h6 : p.src.v6 = true) : p.xl ≤ 4 := by
  simp [right, h6, right6] at h; omega
theorem right_bodies {p : Pk} (h : right p = true) (h6 : p.src.v6 = true) : ∀ x ∈ p.exts, x.body.size ≤ 2046 := by
  intro x hx
  obtain ⟨i, hi⟩ := List.getElem?_of_mem hx
  have h1 : extsOk p.exts = true := by simp [right, h6] at h; exact h.2.1
  have h2 : extOk i x = true := by
    unfold extsOk at h1
    rw [List.all_eq_true] at h1
    have := h1 i (by simp; exact (List.getElem?_eq_some_iff.1 hi).1)
    rw [hi] at this
    simpa using this
  have := ((extOk_iff _ _).1 h2).2.2.2.2
  omega
theorem right_opts {p : Pk} (h : right p = true) : p.opts.size ≤ 40 := by
  by_cases h6 : p.src.v6
  · simp [right, h6, right6] at h
    have h0 : p.opts.toList = [] := by simp [h]
    rw [Lib.toList_data] at h0
    have h1 : p.opts.data.size = 0 := by rw [← Array.length_toList, h0]; rfl
    have h2 : p.opts.size = p.opts.data.size := rfl
    omega
  · simp [right, h6, right4] at h; omega
theorem right_head {p : Pk} (h : right p = true) : rightHead p = true := by
  simp [right] at h; exact h.1
theorem right_off {p : Pk} (h : right p = true) : 0 ≤ p.off ∧ p.off ≤ 65528 := by
  have := right_head h
  simp [rightHead, upto] at this
  omega

theorem right_kinds {p : Pk} (h : right p = true) (h6 : p.src.v6 = true) : ∀ x ∈ p.exts, x.body.size ≤ 2046 ∧ 0 ≤ x.kind ∧ x.kind ≤ 255 := by
  intro x hx
  refine ⟨right_bodies h h6 x hx, ?_⟩
  obtain ⟨i, hi⟩ := List.getElem?_of_mem hx
  have h1 : extsOk p.exts = true := by simp [right, h6] at h; exact h.2.1
  have h2 : extOk i x = true := by
    unfold extsOk at h1
    rw [List.all_eq_true] at h1
    have := h1 i (by simp; exact (List.getElem?_eq_some_iff.1 hi).1)
    rw [hi] at this
    simpa using this
  have h3 := ((extOk_iff _ _).1 h2).1
  simp [special] at h3
  omega

end Go.Proofs.Ytfdjpmglfjiamaa
