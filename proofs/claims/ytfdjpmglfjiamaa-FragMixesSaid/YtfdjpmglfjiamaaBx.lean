/- The box in memory; Waiting. -/
import Derived.Test.YtfdjpmglfjiamaaMk
import Derived.Test.YtfdjpmglfjiamaaWc
import Derived.Laws.AppendOwn
namespace Go.Proofs.Ytfdjpmglfjiamaa
open Go Go.Sort Go.RowKit
set_option linter.unusedSimpArgs false
set_option linter.unusedVariables false

/-- A heap of pieces, and where it lies. -/
structure Hp where
  key : Key
  blk : Nat
  born : Nat
  began : Int
  order : Int
  pv : Value
  pieces : List Pk
def Hp.ent (h : Hp) : Ent := ⟨h.key, h.blk, h.born⟩

structure HeapAt (B : Nat) (w : World) (h : Hp) : Prop where
  lo : B ≤ h.blk
  at_ : w.heap[h.blk]? = some (.cells #[.int .i64 h.began, .int .i64 h.order, h.pv] 74)
  row : w.ownsRow B 27 46 h.pv h.pieces.length (h.pieces.flatMap pkl)
  exts : ∀ p ∈ h.pieces, ExtsAt w p ∧ Cloned B w p
  len : h.pieces.length ≤ 64
  small : ∀ p ∈ h.pieces, right p = true ∧ p.off + p.pay.size ≤ 65535

structure BoxAt (B : Nat) (w : World) (bb : Nat) (now count : Int) (hs : List Hp) : Prop where
  lo : B ≤ bb
  mp : (hs = [] ∧ w.heap[bb]? = some (.cells #[.int .i64 now, .int .i64 count, .map none] 63)) ∨
    ∃ mb clock, B ≤ mb ∧ w.heap[bb]? = some (.cells #[.int .i64 now, .int .i64 count, .map (some mb)] 63) ∧ w.heap[mb]? = some (.map (ents (hs.map Hp.ent)) clock) ∧ ∀ h ∈ hs, h.born < clock
  heaps : ∀ h ∈ hs, HeapAt B w h
  keys : (hs.map (·.key)).Nodup
  borns : (hs.map (·.born)).Nodup
  blks : (hs.map (·.blk)).Nodup
  rows : (hs.filterMap fun h => h.pv.ownBlock).Nodup
  now0 : 0 ≤ now
  now1 : now ≤ 4611686018427387904
  began : ∀ h ∈ hs, 0 ≤ h.began ∧ h.began ≤ now
  count0 : 0 ≤ count
  ords : ∀ h ∈ hs, 0 ≤ h.order ∧ h.order < count
  few : hs.length ≤ 1000

/-- What a call on the box leaves as it was: all below B, and all blocks of cells but packets', boxes', heaps'. -/
structure Fr (B : Nat) (w w' : World) : Prop where
  below : Below B w w'
  calm : ∀ (k : Nat) (a : Array Value) (t : TypeId) (fr : Nat × Nat), w.heap[k]? = some (Obj.cells a t fr) → (t ≠ 27 ∧ t ≠ 63 ∧ t ≠ 74) → w'.heap[k]? = some (Obj.cells a t fr)
theorem Fr.refl (B : Nat) (w : World) : Fr B w w := ⟨Below.refl _ _, fun _ _ _ _ h _ => h⟩
theorem Fr.trans {B : Nat} {a b c : World} (h : Fr B a b) (k : Fr B b c) : Fr B a c := ⟨h.below.trans k.below, fun j x t fr hj ht => k.calm j x t fr (h.calm j x t fr hj ht) ht⟩
theorem Fr.of_gr {B : Nat} {w w' : World} (h : Gr w w') (hB : B ≤ w.heap.size) : Fr B w w' :=
  ⟨h.below.mono hB, fun j x t fr hj _ => by rw [h.below.block j (Array.getElem?_eq_some_iff.1 hj).1]; exact hj⟩

/-- Nothing that the box holds has turned. -/
theorem BoxAt.grown {B : Nat} {w w' : World} {bb : Nat} {now count : Int} {hs : List Hp} (h : BoxAt B w bb now count hs) (hg : Gr w w') : BoxAt B w' bb now count hs := by
  have hk : ∀ {k o}, w.heap[k]? = some o → w'.heap[k]? = some o := fun {k o} hk => by rw [hg.below.block k (Array.getElem?_eq_some_iff.1 hk).1]; exact hk
  refine ⟨h.lo, ?_, ?_, h.keys, h.borns, h.blks, h.rows, h.now0, h.now1, h.began, h.count0, h.ords, h.few⟩
  · rcases h.mp with ⟨h1, h2⟩ | ⟨mb, clock, h1, h2, h3, h4⟩
    · exact .inl ⟨h1, hk h2⟩
    · exact .inr ⟨mb, clock, h1, hk h2, hk h3, h4⟩
  · intro x hx
    have hx' := h.heaps x hx
    refine ⟨hx'.lo, hk hx'.at_, ?_, fun p hp => ⟨gr_less (hx'.exts p hp).1 hg, ?_⟩, hx'.len, hx'.small⟩
    · refine ⟨hx'.row.1, ?_⟩
      rcases hx'.row.2 with h1 | ⟨g, cap, cur, h1, h2, h3, h4⟩
      · exact .inl h1
      · exact .inr ⟨g, cap, cur, h1, h2, hk h3, h4⟩
    · rcases (hx'.exts p hp).2 with h1 | ⟨h1, c, h2⟩
      · exact .inl h1
      · exact .inr ⟨h1, c, hk h2⟩

theorem ents_size (l : List Ent) : (ents l).size = l.length := by simp [ents]

theorem run_len61 (mb clock : Nat) (l : List Ent) (w : World) (ty : TypeId) (hb : w.heap[mb]? = some (.map (ents l) clock)) : (Builtin.len_ #[61] ty #[.map (some mb)]).run Try.prog w = .ok (.int .i64 l.length) w := by
  simp [Builtin.len_, run_underlying Try.underlying61 w, MapKept.run_getObj_map hb, ents_size, goInt]

set_option maxRecDepth 100000 in
theorem waiting_any {B : Nat} {w : World} {bb : Nat} {now count : Int} {hs : List Hp} (h : BoxAt B w bb now count hs) :
    Calls Try.prog 14 #[.pointer (some ⟨bb, 0, none⟩)] w fun e w' => e = .returned (.int .i64 hs.length) ∧ w' = w := by
  have hf := h.few
  rcases h.mp with ⟨rfl, h2⟩ | ⟨mb, clock, h1, h2, h3, h4⟩
  · have c2 : w.cell? ⟨bb, 2, none⟩ = some (.map none) := cell_of_row w bb 2 _ 63 (0, 0) h2
    clear h h2
    go_enter Try.func14, Try.ntmps14
    go_wp2
    go_ret
    exact ⟨rfl, rfl⟩
  · have c2 : w.cell? ⟨bb, 2, none⟩ = some (.map (some mb)) := cell_of_row w bb 2 _ 63 (0, 0) h2
    have hl := fun ty => run_len61 mb clock _ w ty h3
    rw [List.length_map] at hl
    clear h h2
    go_enter Try.func14, Try.ntmps14
    go_wp2
    go_ret
    exact ⟨rfl, rfl⟩

end Go.Proofs.Ytfdjpmglfjiamaa
