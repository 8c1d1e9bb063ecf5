/- Walk: the law FragWhole. -/
import Derived.Test.YtfdjpmglfjiamaaFp
import Derived.Test.YtfdjpmglfjiamaaAw
import Derived.Test.YtfdjpmglfjiamaaWm
import Derived.Deep.DeepCutAuto
import Derived.Deep.OwnRows
namespace Go.Proofs.Ytfdjpmglfjiamaa
open Go Go.Sort Go.RowKit
set_option linter.unusedSimpArgs false
set_option linter.unusedVariables false

theorem info3 : (Try.prog.info? 3).map (fun i => (i.zero, i.size, i.bytes)) = some (some (.int .i64 0), 1, 8) := by kernel_rfl

theorem split_err {p : Pk} {mtu id : Int} (h : (split p mtu id).1 ≠ 0) : (split p mtu id).2 = [] := by
  unfold split at h ⊢
  split
  · rfl
  split
  · rfl
  split
  · rename_i h1 h2 h3
    rw [if_neg h1, if_neg h2, if_pos h3] at h
    exact absurd rfl h
  split
  · rfl
  split
  · rfl
  · rename_i h1 h2 h3 h4 h5
    rw [if_neg h1, if_neg h2, if_neg h3, if_neg h4, if_neg h5] at h
    exact absurd rfl h

/-- What a split that went well gives is small, right, and within the MTU. -/
theorem split_small {p : Pk} {mtu id : Int} {l : List Pk} (h : split (er p) mtu id = (0, l.map er)) (h0 : p.off ≤ 0) (hm : p.more = false) (h64 : l.length ≤ 64) : ∀ x ∈ l, x.opts.size ≤ 140737488351232 ∧ x.pay.size ≤ 140737488351232 ∧ right x = true ∧ (sizeN x : Int) ≤ mtu := by
  intro x hx
  obtain ⟨hr, hc, hb, i0, i1, _⟩ := split_ok h
  have hbs := bld_size hb
  have hx' : er x ∈ l.map er := List.mem_map_of_mem hx
  have fin : right (er x) = true → (er x).pay.size ≤ 65535 → (sizeN (er x) : Int) ≤ mtu → (x.opts.size ≤ 140737488351232 ∧ x.pay.size ≤ 140737488351232 ∧ right x = true ∧ (sizeN x : Int) ≤ mtu) := fun h1 h2 h3 => by
    have hr' : right x = true := by rw [← right_er]; exact h1
    have ho := opts_small hr'
    have e1 : (er x).pay.size = x.pay.size := rfl
    have e2 : sizeN (er x) = sizeN x := rfl
    exact ⟨by omega, by omega, hr', by rw [← e2]; exact h3⟩
  by_cases h1 : l.length = 1
  · obtain ⟨e, hle⟩ := (split_ne h).2.1 (by simpa using h1)
    rw [e, List.mem_singleton] at hx'
    exact fin (by rw [hx']; exact hr) (by rw [hx']; exact hbs) (by rw [hx']; exact hle)
  · have hoff : (er p).off = 0 := by
      have h2 := (right_offs hr).1
      have e : (er p).off = p.off := rfl
      omega
    obtain ⟨C, hs, _⟩ := split_cutting h hoff hm (by simpa using h1) (by simpa using h64)
    obtain ⟨c1, c2⟩ := C.each _ hx'
    refine fin c1 ?_ (hs _ hx')
    unfold badPiece reachN at c2
    rw [Bool.or_eq_false_iff] at c2
    have h3 := (right_offs c1).1
    have h4 := of_decide_eq_false c2.2
    omega

theorem own_range {w : World} {g n : Nat} {cs : Array Value} (h : w.heap[g]? = some (.cells cs 3)) (hs : cs.size = n) (hj : ∀ j, j < n → cs[j]? = some (.int .i64 j)) (hn : n ≤ maxLen) :
    w.ownsRow g 3 1 (.slice (some ⟨g, 0, none⟩) n n) (List.range n).length ((List.range n).map fun (i : Nat) => Value.int .i64 i) := by
  refine ⟨by simp, .inr ⟨g, n, cs, by simp, Nat.le_refl _, h, by simp, hn, by omega, ?_⟩⟩
  apply List.ext_getElem?
  intro i
  by_cases hi : i < n
  · rw [List.getElem?_take_of_lt (by simp; omega)]
    have := hj i hi
    simp [hi] at this ⊢
    exact this
  · rw [List.getElem?_eq_none (by simp; omega), List.getElem?_eq_none (by simp; omega)]

theorem own_calm {B : Nat} {w w' : World} {b : Nat} {v : Value} {n : Nat} {xs : List Value} (h : w.ownsRow b 3 1 v n xs) (hf : Fr B w w') : w'.ownsRow b 3 1 v n xs := by
  refine ⟨h.1, ?_⟩
  rcases h.2 with h1 | ⟨g, cap, cur, h1, h2, h3, h4⟩
  · exact .inl h1
  · exact .inr ⟨g, cap, cur, h1, h2, hf.calm _ _ _ _ h3 (by decide), h4⟩
theorem own_low {w : World} {b b' e : Nat} {size : Nat} {v : Value} {n : Nat} {xs : List Value} (h : w.ownsRow b e size v n xs) (hb : b' ≤ b) : w.ownsRow b' e size v n xs := by
  refine ⟨h.1, ?_⟩
  rcases h.2 with h1 | ⟨g, cap, cur, h1, h2, h3⟩
  · exact .inl h1
  · exact .inr ⟨g, cap, cur, h1, by omega, h3⟩
theorem own_some {w : World} {b e : Nat} {size : Nat} {v : Value} {n : Nat} {xs : List Value} (h : w.ownsRow b e size v n xs) (hn : n ≠ 0) : ∃ g cap, v = .slice (some ⟨g, 0, none⟩) n cap ∧ n ≤ cap ∧ cap ≤ 9223372036854775807 := by
  rcases h.2 with ⟨_, h0⟩ | ⟨g, cap, cur, h1, _, _, h2, h3, _⟩
  · exact absurd h0 hn
  · exact ⟨g, cap, h1, h2, h3⟩
theorem own_take {w : World} {b g n cap : Nat} {l : List Nat} (h : w.ownsRow b 3 1 (.slice (some ⟨g, 0, none⟩) n cap) n (l.map fun (i : Nat) => Value.int .i64 i)) (a : Nat) :
    ∀ (j : Nat) (u : Value), ((l.take a).map fun (i : Nat) => Value.int .i64 i)[j]? = some u → w.cell? ((⟨g, 0, none⟩ : Addr).add j) = some u := by
  intro j u hu
  have hn := h.1
  simp at hn
  rw [Addr.add_lit, Nat.zero_add]
  rw [List.getElem?_map] at hu
  have hj : j < a := by
    rcases Nat.lt_or_ge j a with h' | h'
    · exact h'
    · rw [List.getElem?_eq_none (by simp; omega)] at hu
      cases hu
  rw [List.getElem?_take_of_lt hj] at hu
  have hjl : j < l.length := by
    rcases Nat.lt_or_ge j l.length with h' | h'
    · exact h'
    · rw [List.getElem?_eq_none (by omega)] at hu
      cases hu
  rw [h.cellAt j (by omega), List.getElem?_map]
  exact hu
theorem own_drop {w : World} {b g n cap : Nat} {l : List Nat} (h : w.ownsRow b 3 1 (.slice (some ⟨g, 0, none⟩) n cap) n (l.map fun (i : Nat) => Value.int .i64 i)) (a : Nat) :
    ∀ (j : Nat) (u : Value), ((l.drop a).map fun (i : Nat) => Value.int .i64 i)[j]? = some u → w.cell? ((⟨g, a, none⟩ : Addr).add j) = some u := by
  intro j u hu
  have hn := h.1
  simp at hn
  rw [Addr.add_lit]
  rw [List.getElem?_map, List.getElem?_drop] at hu
  have hjl : a + j < l.length := by
    rcases Nat.lt_or_ge (a + j) l.length with h' | h'
    · exact h'
    · rw [List.getElem?_eq_none (by omega)] at hu
      cases hu
  rw [h.cellAt (a + j) (by omega), List.getElem?_map]
  exact hu
theorem ints_one (l : List Nat) : ∀ u ∈ l.map (fun (i : Nat) => Value.int .i64 i), u.oneCell' = true := by
  intro u hu
  obtain ⟨i, _, rfl⟩ := List.mem_map.1 hu
  rfl
theorem perm_pick {L : List Pk} {T : List Pk} {left : List Nat} {a kv : Nat} (h : (T ++ left.map fun i => L.getD i zpk).Perm L) (hk : left[a]? = some kv) :
    (T ++ L.getD kv zpk :: (left.eraseIdx a).map fun i => L.getD i zpk).Perm L := by
  refine List.Perm.trans ?_ h
  refine List.Perm.append_left T ?_
  obtain ⟨ha, rfl⟩ := List.getElem?_eq_some_iff.1 hk
  have e : left = left.take a ++ left[a] :: left.drop (a + 1) := by
    rw [← List.drop_eq_getElem_cons ha, List.take_append_drop]
  have h1 : (left[a] :: left.eraseIdx a).Perm left := by
    rw [List.eraseIdx_eq_take_drop_succ]
    refine List.Perm.trans List.perm_middle.symm ?_
    rw [← e]
  have := h1.map (fun i => L.getD i zpk)
  simpa using this
theorem range_get (L : List Pk) (n : Nat) (h : n = L.length) : ((List.range n).map fun i => L.getD i zpk) = L := by
  subst h
  apply List.ext_getElem?
  intro i
  by_cases hi : i < L.length
  · simp [hi, List.getD]
  · simp [hi]

/-- In the midst of the second loop: what is left, what lies in the box. -/
structure Md (L : List Pk) (p0 : Pk) (B : Nat) (wc : World) (tb : Nat) (v : Value) (left : List Nat) (n cb : Nat) (T : List Pk) (wr : World) : Prop where
  fr : Fr B wc wr
  own : wr.ownsRow B 3 1 v left.length (left.map fun (i : Nat) => Value.int .i64 i)
  tag : wr.heap[tb]? = some (.cells #[.int .i64 1, .int .i64 1] 41)
  box : ∃ hs now count, BoxAt B wr B now count hs ∧ now ≤ n ∧ count ≤ cb ∧ St L p0 (hs.map Hp.ab) T
theorem Md.grown {L : List Pk} {p0 : Pk} {B : Nat} {wc : World} {tb : Nat} {v : Value} {left : List Nat} {n cb : Nat} {T : List Pk} {wr w' : World} (h : Md L p0 B wc tb v left n cb T wr) (hg : Gr wr w') (hB : B ≤ wr.heap.size) : Md L p0 B wc tb v left n cb T w' := by
  have hk : ∀ {k o}, wr.heap[k]? = some o → w'.heap[k]? = some o := fun {k o} hk => by rw [hg.below.block k (Array.getElem?_eq_some_iff.1 hk).1]; exact hk
  refine ⟨h.fr.trans (Fr.of_gr hg hB), ⟨h.own.1, ?_⟩, hk h.tag, ?_⟩
  · rcases h.own.2 with h1 | ⟨g, cap, cur, h1, h2, h3, h4⟩
    · exact .inl h1
    · exact .inr ⟨g, cap, cur, h1, h2, hk h3, h4⟩
  · obtain ⟨hs, now, count, h1, h2⟩ := h.box
    exact ⟨hs, now, count, h1.grown hg, h2⟩
/-- Behind the call with the next piece y. -/
structure Af (L : List Pk) (p0 : Pk) (B : Nat) (wc : World) (tb : Nat) (v : Value) (left : List Nat) (n cb : Nat) (T : List Pk) (y : Pk) (b : Nat) (q : Pk) (wr : World) : Prop where
  fr : Fr B wc wr
  own : wr.ownsRow B 3 1 v left.length (left.map fun (i : Nat) => Value.int .i64 i)
  tag : wr.heap[tb]? = some (.cells #[.int .i64 1, .int .i64 1] 41)
  blk : wr.heap[b]? = some (.cells (pkc q) 27)
  done : left = [] → er q = p0 ∧ ExtsAt wr q
  more : left ≠ [] → ∃ hs now count, BoxAt B wr B now count hs ∧ now ≤ n ∧ count ≤ cb ∧ St L p0 (hs.map Hp.ab) (T ++ [y])
theorem Af.late {S : Nat → Array Value → Prop} {L : List Pk} {p0 y q : Pk} {B : Nat} {W2 wc W w' : World} {tb : Nat} {v : Value} {left : List Nat} {n cb : Nat} {T R : List Pk} {now count : Int} (h : Md L p0 B W2 tb v left n cb T wc) (hg : Gr wc W)
    (hN : MainEnd S B W B now count L p0 y T R w' q) (hR : R = [] ↔ left = []) (hno : now ≤ n) (hcn : count ≤ cb) : Af L p0 B W2 tb v left n (cb + 1) T y w'.heap.size q (w'.alloc (.cells (pkc q) 27)) := by
  have hB : B ≤ wc.heap.size := by
    obtain ⟨hs, now, count, hb, _⟩ := h.box
    obtain ⟨m, hm⟩ := hb.bb63
    exact Nat.le_of_lt (Array.getElem?_eq_some_iff.1 hm).1
  have f1 : Fr B wc w' := (Fr.of_gr hg hB).trans hN.fr
  have f2 : Fr B w' (w'.alloc (.cells (pkc q) 27)) := Fr.of_gr ((Gr.refl w').alloc _) (by have := f1.below.size; omega)
  have f3 := f1.trans f2
  refine ⟨h.fr.trans f3, own_calm h.own f3, f3.calm _ _ _ _ h.tag (by decide), heap_alloc_new _ _, fun hl => ?_, fun hl => ?_⟩
  · obtain ⟨e1, e2, _⟩ := hN.done (hR.2 hl)
    exact ⟨e1, alloc_less e2 _⟩
  · obtain ⟨hs', count', h1, h2, h3, _⟩ := hN.more (fun e => hl (hR.1 e))
    exact ⟨hs', _, count', h1.grown ((Gr.refl w').alloc _), hno, by omega, h3⟩
theorem Af.early {L : List Pk} {p0 y q : Pk} {B : Nat} {W2 wc W w' : World} {tb : Nat} {v : Value} {left : List Nat} {n cb : Nat} {T R : List Pk} {now count : Int} {b : Nat} (h : Md L p0 B W2 tb v left n cb T wc) (hg : Gr wc W)
    (hN : MainEnd (fun k c => wc.heap.size ≤ k ∧ W.heap[k]? = some (.cells c 27)) B W B now count L p0 y T R w' q) (hR : R = [] ↔ left = []) (hno : now ≤ n) (hcn : count ≤ cb) (hb1 : wc.heap.size ≤ b) (hb2 : W.heap[b]? = some (.cells (pkc zpk) 27)) (hb3 : w'.heap[b]? = some (.cells (pkc zpk) 27)) :
    Af L p0 B W2 tb v left n (cb + 1) T y b q (w'.setRow b (pkc q)) := by
  have hB : B ≤ wc.heap.size := by
    obtain ⟨hs, now, count, hb, _⟩ := h.box
    obtain ⟨m, hm⟩ := hb.bb63
    exact Nat.le_of_lt (Array.getElem?_eq_some_iff.1 hm).1
  have hsz : (w'.setRow b (pkc q)).heap.size = w'.heap.size := by simp [World.setRow]
  have f1 : Fr B wc w' := (Fr.of_gr hg hB).trans hN.fr
  have f2 : Fr B w' (w'.setRow b (pkc q)) := Fr.one rfl rfl rfl (Nat.le_of_eq hsz.symm) (x := b) (by omega) (fun k _ hk => setRow_heap_other hk) (fun a t fr e => by rw [hb3] at e; cases e; simp) (by have := f1.below.size; omega)
  have f3 := f1.trans f2
  refine ⟨h.fr.trans f3, own_calm h.own f3, f3.calm _ _ _ _ h.tag (by decide), setRow_heap_at hb3, fun hl => ?_, fun hl => ?_⟩
  · obtain ⟨e1, e2, e3⟩ := hN.done (hR.2 hl)
    refine ⟨e1, e2.moved (Nat.le_of_eq hsz.symm) ?_⟩
    rcases e3 with r | ⟨_, c, hc⟩
    · exact .inl r
    · exact .inr (setRow_heap_other (by rintro e; rw [e, hb3] at hc; simp at hc))
  · obtain ⟨hs', count', h1, h2, h3, h4⟩ := hN.more (fun e => hl (hR.1 e))
    exact ⟨hs', _, count', h1.but hb3 (fun x hx e => h4 b _ ⟨hb1, hb2⟩ x hx e) (Nat.le_of_eq hsz.symm) (fun k _ hk => setRow_heap_other hk), hno, by omega, h3⟩
/-- Behind a call with a piece that was there: a heap waits. -/
structure Mw (L : List Pk) (p0 : Pk) (B : Nat) (wc : World) (tb : Nat) (v : Value) (left : List Nat) (n cb : Nat) (T : List Pk) (wr : World) : Prop where
  fr : Fr B wc wr
  own : wr.ownsRow B 3 1 v left.length (left.map fun (i : Nat) => Value.int .i64 i)
  tag : wr.heap[tb]? = some (.cells #[.int .i64 1, .int .i64 1] 41)
  box : ∃ hs now count, BoxAt B wr B now count hs ∧ now ≤ n ∧ count ≤ cb ∧ St L p0 (hs.map Hp.ab) T ∧ 1 ≤ hs.length
theorem Mw.md {L : List Pk} {p0 : Pk} {B : Nat} {wc : World} {tb : Nat} {v : Value} {left : List Nat} {n cb : Nat} {T : List Pk} {wr : World} (h : Mw L p0 B wc tb v left n cb T wr) : Md L p0 B wc tb v left n cb T wr := by
  obtain ⟨hs, now, count, h1, h2, h3, h4, _⟩ := h.box
  exact ⟨h.fr, h.own, h.tag, hs, now, count, h1, h2, h3, h4⟩
theorem Af.md {L : List Pk} {p0 : Pk} {B : Nat} {wc : World} {tb : Nat} {v : Value} {left : List Nat} {n cb : Nat} {T : List Pk} {y : Pk} {b : Nat} {q : Pk} {wr : World} (h : Af L p0 B wc tb v left n cb T y b q wr) (hl : left ≠ []) : Md L p0 B wc tb v left n cb (T ++ [y]) wr :=
  ⟨h.fr, h.own, h.tag, h.more hl⟩
/-- What again_take leaves. -/
structure AgEnd (S : Nat → Array Value → Prop) (B : Nat) (W : World) (now count : Int) (L : List Pk) (p0 : Pk) (T : List Pk) (w' : World) : Prop where
  fr : Fr B W w'
  box : ∃ hs' count', BoxAt B w' B now count' hs' ∧ count' ≤ count + 1 ∧ St L p0 (hs'.map Hp.ab) T ∧ 1 ≤ hs'.length ∧ ∀ k c, S k c → w'.heap[k]? = some (.cells c 27) ∧ ∀ h ∈ hs', h.pv.ownBlock ≠ some k
theorem ag_block {S : Nat → Array Value → Prop} {B : Nat} {W : World} {now count : Int} {L : List Pk} {p0 : Pk} {T : List Pk} {w' : World} (h : AgEnd S B W now count L p0 T w') (k : Nat) (c : Array Value) (hs : S k c) : w'.heap[k]? = some (.cells c 27) := by
  obtain ⟨_, _, _, _, _, _, h1⟩ := h.box
  exact (h1 k c hs).1
theorem Mw.late {S : Nat → Array Value → Prop} {L : List Pk} {p0 q : Pk} {B : Nat} {W2 wc W w' : World} {tb : Nat} {v : Value} {left : List Nat} {n cb : Nat} {T : List Pk} {now count : Int} (h : Md L p0 B W2 tb v left n cb T wc) (hg : Gr wc W)
    (hN : AgEnd S B W now count L p0 T w') (hno : now ≤ n) (hcn : count ≤ cb) : Mw L p0 B W2 tb v left n (cb + 1) T (w'.alloc (.cells (pkc q) 27)) := by
  have hB : B ≤ wc.heap.size := by
    obtain ⟨hs, now, count, hb, _⟩ := h.box
    obtain ⟨m, hm⟩ := hb.bb63
    exact Nat.le_of_lt (Array.getElem?_eq_some_iff.1 hm).1
  have f1 : Fr B wc w' := (Fr.of_gr hg hB).trans hN.fr
  have f2 : Fr B w' (w'.alloc (.cells (pkc q) 27)) := Fr.of_gr ((Gr.refl w').alloc _) (by have := f1.below.size; omega)
  have f3 := f1.trans f2
  obtain ⟨hs', count', h1, h2, h3, h4, _⟩ := hN.box
  exact ⟨h.fr.trans f3, own_calm h.own f3, f3.calm _ _ _ _ h.tag (by decide), hs', _, count', h1.grown ((Gr.refl w').alloc _), hno, by omega, h3, h4⟩
theorem Mw.early {L : List Pk} {p0 q : Pk} {B : Nat} {W2 wc W w' : World} {tb : Nat} {v : Value} {left : List Nat} {n cb : Nat} {T : List Pk} {now count : Int} {b : Nat} (h : Md L p0 B W2 tb v left n cb T wc) (hg : Gr wc W)
    (hN : AgEnd (fun k c => wc.heap.size ≤ k ∧ W.heap[k]? = some (.cells c 27)) B W now count L p0 T w') (hno : now ≤ n) (hcn : count ≤ cb) (hb1 : wc.heap.size ≤ b) (hb2 : W.heap[b]? = some (.cells (pkc zpk) 27)) :
    Mw L p0 B W2 tb v left n (cb + 1) T (w'.setRow b (pkc q)) := by
  have hB : B ≤ wc.heap.size := by
    obtain ⟨hs, now, count, hb, _⟩ := h.box
    obtain ⟨m, hm⟩ := hb.bb63
    exact Nat.le_of_lt (Array.getElem?_eq_some_iff.1 hm).1
  obtain ⟨hs', count', h1, h2, h3, h4, h5⟩ := hN.box
  obtain ⟨hb3, hb4⟩ := h5 b _ ⟨hb1, hb2⟩
  have hsz : (w'.setRow b (pkc q)).heap.size = w'.heap.size := by simp [World.setRow]
  have f1 : Fr B wc w' := (Fr.of_gr hg hB).trans hN.fr
  have f2 : Fr B w' (w'.setRow b (pkc q)) := Fr.one rfl rfl rfl (Nat.le_of_eq hsz.symm) (x := b) (by omega) (fun k _ hk => setRow_heap_other hk) (fun a t fr e => by rw [hb3] at e; cases e; simp) (by have := f1.below.size; omega)
  have f3 := f1.trans f2
  exact ⟨h.fr.trans f3, own_calm h.own f3, f3.calm _ _ _ _ h.tag (by decide), hs', _, count', h1.but hb3 hb4 (Nat.le_of_eq hsz.symm) (fun k _ hk => setRow_heap_other hk), hno, by omega, h3, h4⟩
theorem own_shape {w : World} {b e : Nat} {size : Nat} {v : Value} {n : Nat} {xs : List Value} (h : w.ownsRow b e size v n xs) : ∃ ao cp, v = .slice ao n cp ∧ n ≤ cp ∧ cp ≤ 9223372036854775807 := by
  rcases h.2 with ⟨h1, h0⟩ | ⟨g, cap, cur, h1, _, _, h2, h3, _⟩
  · exact ⟨none, 0, by rw [h1, h0], by omega, by omega⟩
  · exact ⟨_, cap, h1, h2, h3⟩
theorem same_er {p q : Pk} {w : World} (h : er q = er p) (hq : ExtsAt w q) (hp : ExtsAt w p) : Calls Try.prog 13 #[.agg (pkc q), .agg (pkc p)] w fun e w' => e = .returned (.bool true) ∧ Gr w w' := by
  have e : p = { q with xa := p.xa, xc := p.xc } := by
    cases p; cases q
    simp only [er, Pk.mk.injEq] at h
    simp only [Pk.mk.injEq]
    simp [h]
  generalize p.xa = a at e
  generalize p.xc = c at e
  subst e
  exact same_any q a c w hq hp
/-- At the second loop's head. -/
structure Lp (L : List Pk) (p0 : Pk) (B : Nat) (wc : World) (tb : Nat) (v : Value) (left : List Nat) (n : Nat) (T : List Pk) (wr : World) : Prop where
  md : Md L p0 B wc tb v left n (3 * n) T wr
  perm : (T ++ left.map fun i => L.getD i zpk).Perm L
  lt : ∀ i ∈ left, i < L.length
  num : n + left.length = L.length
  ne : left ≠ []

/-- The arguments in their boxes. -/
structure Args (W : World) (z : Nat) (p : Pk) (c : Cutx) : Prop where
  b2 : W.heap[z]? = some (.cells (pkc p) 27)
  b3 : W.heap[z + 1]? = some (.cells (cutc c) 30)
theorem Args.below {W W' : World} {z B : Nat} {p : Pk} {c : Cutx} (h : Args W z p c) (hb : Below B W W') (hz : z + 1 < B) : Args W' z p c :=
  ⟨(hb.block _ (by omega)).trans h.b2, (hb.block _ (by omega)).trans h.b3⟩
theorem Args.facts {W : World} {z : Nat} {p : Pk} {c : Cutx} (h : Args W z p c) :
    rowOf W z = pkc p ∧ W.cell? ⟨z, 38, none⟩ = some (.int .i64 p.off) ∧ W.cell? ⟨z, 39, none⟩ = some (.bool p.more) ∧ z + 1 < W.heap.size ∧
    W.cell? ⟨z + 1, 0, none⟩ = some (.int .i64 c.mtu) ∧ W.cell? ⟨z + 1, 1, none⟩ = some (.int .i64 c.id) ∧ W.cell? ⟨z + 1, 2, none⟩ = some (.slice c.oa c.ol c.oc) ∧ W.cell? ⟨z + 1, 3, none⟩ = some (.slice c.ta c.tl c.tc) ∧ W.cell? ⟨z + 1, 4, none⟩ = some (.bool c.other) := by
  refine ⟨rowOf_heap h.b2, ?_, ?_, (Array.getElem?_eq_some_iff.1 h.b3).1, ?_, ?_, ?_, ?_, ?_⟩
  · rw [cell_of_row _ _ _ _ _ _ h.b2]; exact pkc_38 p
  · rw [cell_of_row _ _ _ _ _ _ h.b2]; exact pkc_39 p
  all_goals rw [cell_of_row _ _ _ _ _ _ h.b3]; rfl

def wholeBad (p : Pk) (sc : Int) (n : Nat) : Bool := decide (sc ≠ 0) || decide (0 < p.off) || p.more || decide (64 < n)

attribute [local irreducible] Calls in
set_option maxRecDepth 100000 in
set_option maxHeartbeats 4000000 in
theorem whole_law (p : Pk) (c : Cutx) (w : World) (hx : ExtsAt w p) (hopt : p.opts.size ≤ 140737488351232) (hpay : p.pay.size ≤ 140737488351232)
    (hm0 : -9223372036854775808 ≤ c.mtu) (hm1 : c.mtu ≤ 9223372036854775807) (hi0 : -9223372036854775808 ≤ c.id) (hi1 : c.id ≤ 9223372036854775807) (hor : IntsAt w c.oa c.ol c.order) (htw : IntsAt w c.ta c.tl c.twice) :
    Calls Try.prog 3 #[.agg (pkc p), .agg (cutc c)] w fun e w' => e = .returned (.bool true) ∧ Gr w w' := by
  have HA0 : Hid (Args ((w.alloc (.cells (pkc p) 27)).alloc (.cells (cutc c) 30)) w.heap.size p c) := ⟨(heap_alloc_old _ _ (by simp)).trans (heap_alloc_new _ _), by have := heap_alloc_new (w.alloc (.cells (pkc p) 27)) (.cells (cutc c) 30); simpa using this⟩
  have HG0 : Hid (Gr w ((w.alloc (.cells (pkc p) 27)).alloc (.cells (cutc c) 30))) := ((Gr.refl w).alloc _).alloc _
  have HX := Lib.hid hx
  have HOR := Lib.hid hor
  have HTW := Lib.hid htw
  clear hx hor htw
  go_enter Try.func3, Try.ntmps3
  go_upto_region 1 with (fail)
  generalize hzz : w.heap.size = z at HA0 ⊢
  generalize (w.alloc (.cells (pkc p) 27)).alloc (.cells (cutc c) 30) = W0 at HA0 HG0 ⊢
  have H6 := Lib.hid (awake_any W0)
  go_wp2_with (fail)
  refine H6.out.mono ?_
  rintro e W1 ⟨rfl, hg1⟩
  have HA1 : Hid (Args W1 z p c) := ⟨(hg1.below.block _ (Array.getElem?_eq_some_iff.1 HA0.out.b2).1).trans HA0.out.b2, (hg1.below.block _ (Array.getElem?_eq_some_iff.1 HA0.out.b3).1).trans HA0.out.b3⟩
  have HG1 : Hid (Gr w W1) := HG0.out.trans hg1
  clear hg1 H6 HA0 HG0 hzz
  obtain ⟨r2, c38, c39, z3, c30, c31, c32, c33, c34⟩ := HA1.out.facts
  have H7 := Lib.hid (split_any p c.mtu c.id W1 (gr_less HX.out HG1.out) hopt hpay hm0 hm1 hi0 hi1)
  go_wp2_with (fail)
  refine H7.out.mono ?_
  rintro e W2 ⟨v, l, rfl, hps, her, hex, hg2⟩
  have HG2 : Hid (Gr w W2) := HG1.out.trans hg2
  have HA2 : Hid (Args W2 z p c) := ⟨(hg2.below.block _ (Array.getElem?_eq_some_iff.1 HA1.out.b2).1).trans HA1.out.b2, (hg2.below.block _ (Array.getElem?_eq_some_iff.1 HA1.out.b3).1).trans HA1.out.b3⟩
  have HSE : Hid ((split (er p) c.mtu c.id).1 ≠ 0 → l = []) := fun h => by
    have h2 := split_err h
    rw [h2] at her
    simpa using her
  have HSP : Hid ((split (er p) c.mtu c.id).1 = 0 → split (er p) c.mtu c.id = (0, l.map er)) := fun h => by
    rw [her, ← h]
  generalize (split (er p) c.mtu c.id).1 = sc at HSE HSP ⊢
  have HPS := Lib.hid hps
  have HEX := Lib.hid hex
  obtain ⟨va, vc, rfl⟩ : ∃ va vc, v = .slice va l.length vc := by
    rcases hps with ⟨rfl, rfl⟩ | ⟨b, c, rfl, _⟩
    · exact ⟨none, 0, rfl⟩
    · exact ⟨_, _, rfl⟩
  clear hps hex her hg2 HA1 H7 r2 c38 c39 z3 c30 c31 c32 c33 c34 HG1
  obtain ⟨r2, c38, c39, z3, c30, c31, c32, c33, c34⟩ := HA2.out.facts
  have hl63 : l.length ≤ 9223372036854775807 := by
    rcases HPS.out with ⟨_, h0⟩ | ⟨b, c, _, h1, h2, _⟩
    · rw [h0]; simp
    · omega
  go_upto_region 3 with (fail)
  go_cut [48] from 33 to 48 (fun cx wx => cx = .bool (wholeBad p sc l.length) ∧ W2 = wx)
  case first =>
    by_cases h1 : sc = 0
    · have H1 := Lib.hid h1
      have e1 : (sc == 0) = true := by simp [h1]
      have e2 : (sc != 0) = false := by simp [h1]
      clear h1
      by_cases h2 : 0 < p.off
      · go_wp2
        go_meet
        exact ⟨by simp [wholeBad, h2], rfl⟩
      · cases h3 : p.more
        · rw [h3] at c39
          by_cases h4 : 64 < l.length
          · go_wp2
            go_meet
            exact ⟨by simp [wholeBad, h4]; omega, rfl⟩
          · go_wp2
            go_meet
            exact ⟨by have := H1.out; simp [wholeBad, this, h2, h3, h4]; omega, rfl⟩
        · rw [h3] at c39
          go_wp2
          go_meet
          exact ⟨by simp [wholeBad, h3], rfl⟩
    · have H1 := Lib.hid h1
      have e1 : (sc == 0) = false := by simp [h1]
      have e2 : (sc != 0) = true := by simp [h1]
      clear h1
      go_wp2
      go_meet
      exact ⟨by have := H1.out; simp [wholeBad, this], rfl⟩
  case rest =>
  obtain ⟨rfl, rfl⟩ := hcut
  by_cases hbad : wholeBad p sc l.length = true
  · rw [hbad]
    by_cases h1 : sc = 0
    · subst h1
      go_wp2
      go_ret
      exact ⟨rfl, HG2.out⟩
    · have h2 := HSE.out h1
      subst h2
      go_wp2
      go_ret
      exact ⟨rfl, HG2.out⟩
  · have hb := Bool.eq_false_iff.2 hbad
    rw [hb]
    simp only [wholeBad, Bool.or_eq_false_iff, decide_eq_false_iff_not] at hb
    obtain ⟨⟨⟨b1, b2⟩, b3⟩, b4⟩ := hb
    have hsc : sc = 0 := Classical.byContradiction b1
    subst hsc
    have HSP2 := Lib.hid (HSP.out rfl)
    have HM := Lib.hid b3
    have hne : l ≠ [] := fun h => (split_ne HSP2.out).1 (by rw [h]; rfl)
    obtain ⟨g, hva⟩ : ∃ g, va = some ⟨g, 0, none⟩ := by
      rcases HPS.out with ⟨_, h0⟩ | ⟨b, c, h1, _⟩
      · exact absurd h0 hne
      · simp only [Value.slice.injEq] at h1
        exact ⟨b, h1.1⟩
    subst hva
    have hrow : PkRow W2 g l := by
      rcases HPS.out with ⟨h1, _⟩ | ⟨b, c, h1, _, _, h4⟩
      · cases h1
      · simp only [Value.slice.injEq, Option.some.injEq, Addr.mk.injEq, and_true] at h1
        rw [h1.1]; exact h4
    have HROW := Lib.hid hrow
    have hlen0 : 0 < l.length := List.length_pos_iff.2 hne
    have hlen64 : l.length ≤ 64 := by omega
    clear b1 b3 b4 hbad HSE HSP hne HPS hrow c38 c39
    have H8 := Lib.hid (new_any W2)
    go_wp2_with (fail)
    refine H8.out.mono ?_
    rintro e W3 ⟨rfl, rfl⟩
    have hbox3 := Lib.hid (new_box W2)
    have hfr3 : Hid (Fr W2.heap.size W2 (W2.alloc (.cells #[.int .i64 0, .int .i64 0, .map none] 63))) := Fr.of_gr ((Gr.refl W2).alloc _) (Nat.le_refl _)
    generalize W2.alloc (.cells #[.int .i64 0, .int .i64 0, .map none] 63) = W3 at hbox3 hfr3 ⊢
    have hgB := HROW.out.lt
    have hzB : z + 1 < W2.heap.size := z3
    have hB3 : W2.heap.size ≤ W3.heap.size := hfr3.out.below.size
    have HB2 := Lib.hid (Gr.refl W2)
    generalize hBB : W2.heap.size = B at hbox3 hfr3 hgB hzB hB3 ⊢
    have HA : Hid (∀ W', Fr B W2 W' → Args W' z p c) := fun W' hf => HA2.out.below hf.below hzB
    have HRW : Hid (∀ W', Fr B W2 W' → rowOf W' g = rowOf W2 g ∧ g < W'.heap.size) := fun W' hf => ⟨by unfold rowOf; rw [hf.below.block g hgB], by have := hf.below.size; omega⟩
    have HSM : Hid (∀ x ∈ l, x.opts.size ≤ 140737488351232 ∧ x.pay.size ≤ 140737488351232 ∧ right x = true ∧ (sizeN x : Int) ≤ c.mtu) := split_small HSP2.out b2 HM.out hlen64
    have HXA : Hid (∀ W', Fr B W2 W' → ∀ x ∈ l, ExtsAt W' x ∧ Aside B W' x) := fun W' hf x hx => by
      obtain ⟨x1, x2⟩ := HEX.out x hx
      have hc : Aside B W2 x := Aside.of_cloned x2
      exact ⟨x1.fr hc hf, by
        rcases x2 with r | ⟨_, c, hc⟩
        · exact .inl r
        · exact .inr (.inr ⟨c, _, hf.calm _ _ _ _ hc (by decide)⟩)⟩
    clear H8 HA2 HB2 r2 c30 c31 c32 c33 c34 z3
    have hmk := run_make_row' (P := Try.prog) 28 3 (.int .i64 0) 8 Try.underlying28 info3 rfl .i64 .i64 l.length (by omega) (by omega)
    have hq0 : ((l.length : Int) == 0) = false := beq_false_of_ne (by omega)
    go_wp2
    clear hmk
    go_loopw [10] (fun i wr => ∃ (k : Nat) (cs : Array Value), i = .int .i64 k ∧ k ≤ l.length ∧ wr.heap[W3.heap.size]? = some (.cells cs 3) ∧ cs.size = l.length ∧ (∀ j, j < k → cs[j]? = some (.int .i64 j)) ∧ Below W3.heap.size W3 wr) (fun i _ => l.length - (intOf i).toNat)
    case atStart => exact ⟨0, _, rfl, Nat.zero_le _, heap_alloc_new _ _, by simp [madeCells], fun j hj => by omega, (Below.refl _ _).alloc (Nat.le_refl _) _⟩
    case round =>
      obtain ⟨k, cs, rfl, hk, hcs, hsz, hj, hbl⟩ := hrel
      have HCS := Lib.hid hcs
      have HSZ := Lib.hid hsz
      have HJ := Lib.hid hj
      have HBL := Lib.hid hbl
      have hlb : W3.heap.size < wr.heap.size := (Array.getElem?_eq_some_iff.1 hcs).1
      clear hj hbl
      by_cases hlt : k < l.length
      · --D{
        have cK : ∃ u, wr.cell? ⟨W3.heap.size, k, none⟩ = some u := ⟨cs[k], by rw [cell_of_row _ _ _ _ _ _ hcs]; exact Array.getElem?_eq_getElem (by omega)⟩
        have fK : wr.frozen? ⟨W3.heap.size, k, none⟩ = false := by simp [World.frozen?, hcs]
        obtain ⟨u, cK⟩ := cK
        clear hcs hsz
        go_upto_region 12 with (fail)
        go_cut [] from 70 to 95 (fun wx => wx = wr.setCell ⟨W3.heap.size, k, none⟩ (.int .i64 k))
        case first =>
          go_wp2
          go_meet
          exact rfl
        case rest =>
        subst hcut
        obtain ⟨cs', hcs', hsz', hj'⟩ : ∃ cs', (wr.setCell ⟨W3.heap.size, k, none⟩ (.int .i64 k)).heap[W3.heap.size]? = some (.cells cs' 3) ∧ cs'.size = l.length ∧ ∀ j, j < k + 1 → cs'[j]? = some (.int .i64 j) := by
          refine ⟨_, heap_setCell_same wr _ k cs 3 _ HCS.out, by simpa using HSZ.out, fun j hj => ?_⟩
          rw [Array.getElem?_setIfInBounds]
          by_cases e : k = j
          · subst e
            rw [if_pos rfl, if_pos (by rw [HSZ.out]; omega)]
          · rw [if_neg e]
            exact HJ.out j (by omega)
        have HBL2 : Hid (Below W3.heap.size W3 (wr.setCell ⟨W3.heap.size, k, none⟩ (.int .i64 k))) := HBL.out.setCell (Nat.le_refl _) _
        clear HCS HSZ HJ HBL hlb fK cK
        generalize wr.setCell ⟨W3.heap.size, k, none⟩ (.int .i64 k) = wr2 at hcs' HBL2 ⊢
        have HCS := Lib.hid hcs'
        have HSZ := Lib.hid hsz'
        have HJ := Lib.hid hj'
        clear hcs' hsz' hj'
        have hfr : Hid (Fr B W2 wr2) := hfr3.out.trans (Fr.of_gr (Gr.of_below HBL2.out) hB3)
        obtain ⟨r2, c38, c39, z3, c30, c31, c32, c33, c34⟩ := (HA.out _ hfr.out).facts
        clear r2 c38 c39 c31 c32 c33 c34
        obtain ⟨hrg, hgs⟩ := HRW.out _ hfr.out
        obtain ⟨x, hxk⟩ : ∃ x, l[k]? = some x := ⟨_, List.getElem?_eq_getElem hlt⟩
        have hxm : x ∈ l := List.mem_of_getElem? hxk
        obtain ⟨x1, x2⟩ := HROW.out.row k x hxk
        rw [← hrg] at x1 x2
        have i1 : ∀ W, (Instr.indexAt 32 (.slice (some ⟨g, 0, none⟩) l.length vc) (.int .i64 k)).run Try.prog W = .ok (.pointer (some ⟨g, k * 46, none⟩)) W := fun W => by
          have := run_idx32 g l.length vc k W (by omega) (by omega)
          simpa using this
        have hxs := HSM.out x hxm
        have hxe : Hid (∀ y, ExtsAt (gr wr2 y) x) := fun y => by
          have hc : Aside B W2 x := Aside.of_cloned (HEX.out x hxm).2
          exact gr_less ((HEX.out x hxm).1.fr hc hfr.out) ((Gr.refl wr2).more y)
        have hxr : right x = true := hxs.2.2.1
        have hxz : ¬ (c.mtu < (sizeN x : Int)) := by have := hxs.2.2.2; omega
        have HXS := Lib.hid hxs
        have HR10 : Hid (∀ y, Calls Try.prog 10 #[.agg (pkc x)] (gr wr2 y) fun e w' => e = .returned (.bool true) ∧ Gr (gr wr2 y) w') := fun y => by
          have := right_any x _ (hxe.out y) hxs.1
          rwa [hxr] at this
        clear hrg hxk hxm hxs
        go_upto_region 13 with (fail)
        go_cut [95] from 70 to 95 (fun cx wx => cx = .bool false ∧ Gr wr2 wx)
        case first =>
          refine wp_region_gr (by kernel_rfl) (by kernel_rfl) ?_
          repeat (go_big_quiet_step ((first
            | (go_at_call 9; exact quiet_gr ⟨_, rfl⟩ (size_any x _ (hxe.out _) HXS.out.1 HXS.out.2.1))
            | (go_at_call 10; exact quiet_gr ⟨_, rfl⟩ (HR10.out _)))))
          refine wpQuiet_nil ?_
          rintro _ ⟨y, rfl⟩
          go_wp2
          go_meet
          exact ⟨rfl, _, rfl⟩
        case rest =>
        obtain ⟨rfl, hg⟩ := hcut
        go_wp2
        go_roundw
        case rel => exact ⟨k + 1, _, by go_num, hlt, (hg.below.block _ (Array.getElem?_eq_some_iff.1 HCS.out).1).trans HCS.out, HSZ.out, HJ.out, HBL2.out.trans (hg.below.mono HBL2.out.size)⟩
        case measure => simp [intOf]; omega
        --D}
      · have hkl : k = l.length := by omega
        subst hkl
        have hown : Hid (wr.ownsRow W3.heap.size 3 1 (.slice (some ⟨W3.heap.size, 0, none⟩) l.length l.length) (List.range l.length).length ((List.range l.length).map fun (i : Nat) => Value.int .i64 i)) := own_range HCS.out HSZ.out (by intro j hj; exact HJ.out j (by omega)) (by unfold maxLen; omega)
        have hfr : Hid (Fr B W2 wr) := hfr3.out.trans (Fr.of_gr (Gr.of_below HBL.out) hB3)
        have HGW : Hid (Gr W3 wr) := Gr.of_below HBL.out
        have HBX := Lib.hid (hbox3.out.grown HGW.out)
        clear hcs hsz HCS HSZ HJ HBL hlt
        generalize wr = W4 at hown hfr HGW HBX hlb ⊢
        have hB4 : B ≤ W4.heap.size := by omega
        have hst : Hid (St (l.map er) (er p) [] []) := St.start HSP2.out (by have := HSP2.out; have h1 := (split_ok this).1; have := (right_offs h1).1; show p.off = 0; have e : (er p).off = p.off := rfl; omega) HM.out (by simpa using hlen64)
        go_wp2
        go_loopw [9, 12] (fun v i wx => ∃ (left : List Nat) (n : Nat) (T : List Pk), i = .int .i64 n ∧ Lp (l.map er) (er p) B W2 W4.heap.size v left n T wx) (fun _ i _ => l.length - (intOf i).toNat)
        case atStart =>
          refine ⟨List.range l.length, 0, [], rfl, ⟨(hfr.out.trans (Fr.of_gr ((Gr.refl W4).alloc _) hB4)), ?_, heap_alloc_new _ _, [], 0, 0, HBX.out.grown ((Gr.refl W4).alloc _), by omega, by omega, hst.out⟩, ?_, ?_, by simp, ?_⟩
          · have h1 := hown.out.alloc (Obj.cells #[Value.int IntKind.i64 1, Value.int IntKind.i64 1] 41)
            have h2 := own_low h1 hB3
            simpa using h2
          · rw [List.nil_append, range_get _ _ (by simp)]
          · simp
          · intro h
            rw [List.range_eq_nil] at h
            omega
        case round =>
        obtain ⟨left, n, T, rfl, hL⟩ := hrel
        obtain ⟨lb, cap, rfl, hcap⟩ := own_some hL.md.own (by have := List.length_pos_iff.2 hL.ne; omega)
        have HL := Lib.hid hL
        have hleft : 0 < left.length := List.length_pos_iff.2 hL.ne
        have hnum : n + left.length = l.length := by have := hL.num; simpa using this
        have HF := Lib.hid hL.md.fr
        obtain ⟨r2, c38, c39, z3, c30, c31, c32, c33, c34⟩ := (HA.out _ HF.out).facts
        have C33 := Lib.hid c33
        have C34 := Lib.hid c34
        have R2 := Lib.hid r2
        clear hL r2 c38 c39 c30 c31 c33 c34
        go_upto_if 106 with (fail)
        go_cut [13] from 97 to 202 (fun cx wx => ∃ a : Nat, cx = .int .i64 a ∧ a < left.length ∧ wr = wx)
        case first =>
          have hol := HOR.out.len
          have hfew := HOR.out.few
          by_cases hn : n < c.ol
          · obtain ⟨og, oo, hoa, hog, hoc⟩ := HOR.out.at_ (by intro h; rw [h] at hol; simp at hol; omega)
            obtain ⟨x, hxo⟩ : ∃ x, c.order[n]? = some x := ⟨_, List.getElem?_eq_getElem (by omega)⟩
            have hrg := HOR.out.rng x (List.mem_of_getElem? hxo)
            have cO : wr.cell? ⟨og, oo + n, none⟩ = some (.int .i64 x) := by
              have h1 := hoc n x hxo
              have hb : wr.heap[og]? = w.heap[og]? := by
                have e1 := HG2.out.below.block og hog
                have e2 := HF.out.below.block og (by have := HG2.out.below.size; omega)
                exact e2.trans e1
              rw [World.cell?_of_block (w := w) (w' := wr) hb]; exact h1
            have H11 := Lib.hid (pick_any x left.length wr hrg.1 hrg.2 (by omega) (by omega))
            have hpr := Lib.hid (pick_range x left.length (by omega))
            rw [hoa] at c32
            clear hol hoc hrg hxo hog
            go_wp2_with (fail)
            refine H11.out.mono ?_
            rintro e w' ⟨rfl, rfl⟩
            go_wp2
            go_meet
            exact ⟨(pickN x left.length).toNat, by rw [Int.toNat_of_nonneg hpr.out.1], by have := hpr.out; omega, rfl⟩
          · go_wp2
            go_meet
            exact ⟨0, rfl, hleft, rfl⟩
        case rest =>
        obtain ⟨a, rfl, ha, rfl⟩ := hcut
        obtain ⟨kv, hkv⟩ : ∃ kv, left[a]? = some kv := ⟨_, List.getElem?_eq_getElem ha⟩
        have ck : wr.cell? ⟨lb, a, none⟩ = some (.int .i64 kv) := by
          rw [HL.out.md.own.cellAt a (by omega), List.getElem?_map, hkv]; rfl
        have hBw : B ≤ wr.heap.size := by have := HF.out.below.size; have := hfr3.out.below.size; omega
        have HKV := Lib.hid hkv
        clear hkv c32
        obtain ⟨i0, hi, hz0, hz1, hz2⟩ := info_parts info3
        have hown1 := Lib.hid HL.out.md.own
        obtain ⟨A, hA, hAc⟩ : ∃ A : Addr, (if cap = a + 1 then some ⟨lb, 0, none⟩ else some ⟨lb, a + 1, none⟩ : Option Addr) = some A ∧ ∀ w1, Below wr.heap.size wr w1 → ∀ (j : Nat) (u : Value), ((left.drop (a + 1)).map fun (i : Nat) => Value.int .i64 i)[j]? = some u → w1.cell? (A.add j) = some u := by
          by_cases hc : cap = a + 1
          · refine ⟨⟨lb, 0, none⟩, if_pos hc, fun w1 _ j u hu => ?_⟩
            rw [List.drop_eq_nil_of_le (by omega)] at hu
            simp at hu
          · refine ⟨⟨lb, a + 1, none⟩, if_neg hc, fun w1 hb j u hu => ?_⟩
            have h1 := own_drop hown1.out (a + 1) j u hu
            rw [Addr.add_lit] at h1 ⊢
            rw [World.cell?_of_block (w := wr) (w' := w1) (hb.block lb (hown1.out.lt lb rfl).2)]
            exact h1
        have HAC := Lib.hid hAc
        have hbel : Hid (∀ w1, wr.grownBy w1 (Value.slice none 0 0).ownBlock → Below wr.heap.size wr w1) := fun w1 hg => (Below.refl _ wr).grown hg (Nat.le_refl _) (by intro k hk; simp [Value.ownBlock] at hk)
        have hsz1 : left.length - (a + 1) ≤ 64 := by omega
        clear hAc
        go_upto_region 24 with (fail)
        clear ck
        go_upto_region 26 with (first
          | (at_builtin; refine wpList_append_own _ rfl (.tmp 119) (.tmp 122) 28 rfl wr.heap.size 3 i0 (.int .i64 0) 1 8 Try.underlying28 hi hz0 hz1 hz2 rfl (by decide) (.slice none 0 0) 0 [] rfl (World.ownsRow_nil _ _ _ _) ⟨lb, 0, none⟩ a cap ((left.take a).map fun (i : Nat) => Value.int .i64 i) rfl (by simp; omega) (own_take hown1.out a) (ints_one _) (by unfold maxLen; omega) (by omega) (Nat.le_refl _) ?_; intro v1 w1 hv1 hgr1 _; have HV1 := Lib.hid hv1; have HB1 := Lib.hid (hbel.out w1 hgr1); clear hv1 hgr1)
          | (at_builtin; go_loud (refine wpList_append_own _ rfl (.tmp 124) (.tmp 128) 28 rfl wr.heap.size 3 i0 (.int .i64 0) 1 8 Try.underlying28 hi hz0 hz1 hz2 rfl (by decide) v1 (0 + a) _ rfl HV1.out A (left.length - (a + 1)) (cap - (a + 1)) ((left.drop (a + 1)).map fun (i : Nat) => Value.int .i64 i) rfl (by simp) (HAC.out w1 HB1.out) (ints_one _) (by unfold maxLen; omega) (by omega) HB1.out.size ?_); intro v2 w2 hv2 hgr2 _; have HV2 := Lib.hid hv2; have HB2 := Lib.hid (HB1.out.grown hgr2 (HB1.out.size) (by intro k hk; exact (HV1.out.lt k hk).1)); clear hv2 hgr2))
        have hgr2 : Gr wr w2 := Gr.of_below HB2.out
        have hown2 : w2.ownsRow B 3 1 v2 (left.eraseIdx a).length ((left.eraseIdx a).map fun (i : Nat) => Value.int .i64 i) := by
          have h1 := own_low HV2.out hBw
          have e : left.eraseIdx a = left.take a ++ left.drop (a + 1) := List.eraseIdx_eq_take_drop_succ left a
          have e2 : (left.eraseIdx a).length = 0 + a + (left.length - (a + 1)) := by rw [e]; simp; omega
          rw [e2, e, List.map_append]
          simpa using h1
        have hmd := HL.out.md.grown hgr2 hBw
        have HMD : Hid (Md (l.map er) (er p) B W2 W4.heap.size v2 (left.eraseIdx a) n (3 * n) T w2) := ⟨hmd.fr, hown2, hmd.tag, hmd.box⟩
        clear hgr2 hown2 hmd HV1 HB1 HV2 HB2 HAC hbel hsz1 hA hown1 hBw HF C33 C34 R2 z3
        have HF := Lib.hid HMD.out.fr
        obtain ⟨r2, c38, c39, z3, c30, c31, c32, c33, c34⟩ := (HA.out _ HF.out).facts
        have R2 := Lib.hid r2
        clear r2 c38 c39 c30 c31 c32 c33
        go_cut [136] from 97 to 202 (fun cx wx => cx = .bool (c.other && decide (1 < l.length)) ∧ w2 = wx)
        case first =>
          cases ho : c.other
          · rw [ho] at c34
            go_wp2
            go_meet
            exact ⟨by simp [ho], rfl⟩
          · rw [ho] at c34
            by_cases h1 : 1 < l.length
            · go_wp2
              go_meet
              exact ⟨by first | (simp [ho, h1]; done) | (simp [ho, h1]; omega) | (simp [ho]; omega), rfl⟩
            · go_wp2
              go_meet
              exact ⟨by first | (simp [ho, h1]; done) | (simp [ho, h1]; omega) | (simp [ho]; omega), rfl⟩
        case rest =>
        obtain ⟨rfl, rfl⟩ := hcut
        clear c34
        go_upto_if 136 with (fail)
        go_cut [16, 17] from 97 to 202 (fun x y wx => Md (l.map er) (er p) B W2 W4.heap.size v2 (left.eraseIdx a) n (3 * n + 1) T wx)
        case first =>
          --D{
          by_cases hb : (c.other && decide (1 < l.length)) = true
          · simp only [hb]
            have h1l : 1 < l.length := by simp at hb; exact hb.2
            obtain ⟨x0, hx0⟩ : ∃ x, l[0]? = some x := ⟨_, List.getElem?_eq_getElem hlen0⟩
            have hxm : x0 ∈ l := List.mem_of_getElem? hx0
            obtain ⟨hrg, hgs⟩ := HRW.out _ HF.out
            have hrow0 := HROW.out.row 0 x0 hx0
            rw [← hrg] at hrow0
            simp only [Nat.zero_mul, Nat.zero_add] at hrow0
            obtain ⟨x1, x2⟩ := hrow0
            have i1 : ∀ W, (Instr.indexAt 32 (.slice (some ⟨g, 0, none⟩) l.length vc) (.int .i64 0)).run Try.prog W = .ok (.pointer (some ⟨g, 0, none⟩)) W := fun W => by
              have := run_idx32 g l.length vc 0 W (by omega) (by omega)
              simpa using this
            obtain ⟨hs, now, count, hbox, hnow, hcnt, hSt⟩ := HMD.out.box
            obtain ⟨xe, xa⟩ := HXA.out _ HF.out x0 hxm
            have hno : nowOf now (n : Int) ≤ n := nowOf_le hnow rfl
            have HT := Lib.hid (other_take (S := fun _ _ => False) (L := l.map er) (p0 := er p) (x := x0) (by simpa using h1l) hbox hSt n xe xa (by rw [List.head?_eq_getElem?, List.getElem?_map, hx0]; rfl) (by omega) (by omega) (fun _ _ h => h.elim))
            have HNO := Lib.hid hno
            have HCN := Lib.hid hcnt
            clear hrg hx0 hxm hbox hSt xe xa hno hcnt hnow hb
            go_wp2_with (fail)
            refine HT.out.mono ?_
            rintro e W6 ⟨rfl, hfr6, hs', count', hbox', hcnt', hst', _⟩
            have HM6 : Hid (Md (l.map er) (er p) B W2 W4.heap.size v2 (left.eraseIdx a) n (3 * n + 1) T W6) := ⟨HF.out.trans hfr6, own_calm HMD.out.own hfr6, hfr6.calm _ _ _ _ HMD.out.tag (by decide), hs', _, count', hbox', HNO.out, by have := HCN.out; omega, hst'⟩
            clear hfr6 hbox' hcnt' hst' HT HNO HCN x1 x2
            go_wp2
            go_meet
            exact HM6.out.grown ((Gr.refl W6).alloc _) (by have := HM6.out.fr.below.size; omega)
          · have hbf := Bool.eq_false_iff.2 hb
            simp only [hbf]
            go_wp2
            go_meet
            obtain ⟨hs, now, count, hbox, hnow, hcnt, hSt⟩ := HMD.out.box
            exact ⟨HMD.out.fr, HMD.out.own, HMD.out.tag, hs, now, count, hbox, hnow, by omega, hSt⟩
          --D}
        case rest =>
        have HM7 := Lib.hid hcut
        have HF7 := Lib.hid hcut.fr
        clear hcut HMD HF R2
        have hkl : kv < l.length := by
          have := HL.out.lt kv (List.mem_of_getElem? HKV.out)
          simpa using this
        obtain ⟨x, hxk⟩ : ∃ x, l[kv]? = some x := ⟨_, List.getElem?_eq_getElem hkl⟩
        have hxm : x ∈ l := List.mem_of_getElem? hxk
        have hxg : (l.map er).getD kv zpk = er x := by rw [List.getD_eq_getElem?_getD, List.getElem?_map, hxk]; rfl
        have hpp := perm_pick HL.out.perm HKV.out
        rw [hxg] at hpp
        have HPP := Lib.hid hpp
        obtain ⟨hrg, hgs⟩ := HRW.out _ HF7.out
        obtain ⟨x1, x2⟩ := HROW.out.row kv x hxk
        rw [← hrg] at x1 x2
        have i1 : ∀ W, (Instr.indexAt 32 (.slice (some ⟨g, 0, none⟩) l.length vc) (.int .i64 kv)).run Try.prog W = .ok (.pointer (some ⟨g, kv * 46, none⟩)) W := fun W => by
          have := run_idx32 g l.length vc kv W (by omega) (by omega)
          simpa using this
        have rt : rowOf wc W4.heap.size = #[.int .i64 1, .int .i64 1] := rowOf_heap HM7.out.tag
        have zt : W4.heap.size < wc.heap.size := (Array.getElem?_eq_some_iff.1 HM7.out.tag).1
        obtain ⟨hs, now, count, hbox, hnow, hcnt, hSt⟩ := HM7.out.box
        have hno : nowOf now (n : Int) ≤ n := nowOf_le hnow rfl
        have HT : Hid (∀ W, Gr wc W → Calls Try.prog 12 #[.pointer (some ⟨B, 0, none⟩), .int .i64 n, .agg #[.int .i64 1, .int .i64 1], .agg (pkc x)] W fun e w' =>
            ∃ q, e = .returned (.tuple #[.agg (pkc q), .bool (left.eraseIdx a).isEmpty]) ∧ MainEnd (fun k c => wc.heap.size ≤ k ∧ W.heap[k]? = some (.cells c 27)) B W B (nowOf now n) count (l.map er) (er p) (er x) T ((left.eraseIdx a).map fun i => (l.map er).getD i zpk) w' q ∧ ∀ k c, wc.heap.size ≤ k → W.heap[k]? = some (.cells c 27) → w'.heap[k]? = some (.cells c 27)) := fun W hg => by
          have hfW : Fr B W2 W := HF7.out.trans (Fr.of_gr hg (by have := HF7.out.below.size; omega))
          obtain ⟨xe, xa⟩ := HXA.out _ hfW x hxm
          refine (main_take (S := fun k c => wc.heap.size ≤ k ∧ W.heap[k]? = some (.cells c 27)) (hbox.grown hg) hSt n xe xa (HSM.out x hxm).1 (HSM.out x hxm).2.1 hpp (by omega) (by omega) (fun k c h => ⟨h.2, spare_new hbox k h.1⟩)).mono ?_
          rintro e w' ⟨q, rfl, h1, h2⟩
          exact ⟨q, by simp, h1, fun k c hk hc => h2 k c ⟨hk, hc⟩⟩
        have HNO := Lib.hid hno
        have HCN := Lib.hid hcnt
        clear hrg hxm hxg hpp hbox hSt hno hcnt hnow
        have HXK := Lib.hid hxk
        clear hxk
        go_upto_region 30 with (fail)
        go_cut [18, 19] from 97 to 202 (fun x1 y1 wx => ∃ b q, x1 = .pointer (some ⟨b, 0, none⟩) ∧ y1 = .bool (left.eraseIdx a).isEmpty ∧ Af (l.map er) (er p) B W2 W4.heap.size v2 (left.eraseIdx a) n (3 * n + 2) T (er x) b q wx)
        case first =>
          --D{
          have tld : ∀ W, rowOf W g = rowOf wc g → (xload 27 (.pointer (some ⟨g, kv * 46, none⟩))).run Try.prog W = .ok (.value (.agg (pkc x))) W := fun W hW => by
            rw [run_load27 W g (kv * 46) (by rw [hW]; exact x2), hW, x1]
          have t1 := tld wc.drew rfl
          have t2 : ∀ o, (xload 27 (.pointer (some ⟨g, kv * 46, none⟩))).run Try.prog (wc.drew.alloc o) = .ok (.value (.agg (pkc x))) (wc.drew.alloc o) := fun o => tld _ (rowOf_alloc_past wc.drew o g hgs)
          have t3 : ∀ o, (xload 27 (.pointer (some ⟨g, kv * 46, none⟩))).run Try.prog (wc.alloc o).drew = .ok (.value (.agg (pkc x))) (wc.alloc o).drew := fun o => tld _ (rowOf_alloc_past wc o g hgs)
          clear tld x1 x2
          go_region_law (go_simp; go_at_call 12; refine (HT.out _ (by repeat (first | exact Gr.refl _ | refine Gr.drew ?_ | refine Gr.alloc ?_ _))).mono ?_; rintro e w' ⟨q, rfl, hN, hS⟩; have HN := Lib.hid hN; have HS := Lib.hid hS; (first | (have q0 := hS wc.heap.size (pkc zpk) (Nat.le_refl _) (heap_alloc_new _ _); have r0 := rowOf_heap q0; have f0 := freeAt_heap q0; have z0 := (Array.getElem?_eq_some_iff.1 q0).1; have Q0 := Lib.hid q0; clear q0) | skip); clear hN hS)
          all_goals
            go_wp2
            go_meet
            first
              | exact ⟨_, q, rfl, rfl, Af.late HM7.out (by repeat (first | exact Gr.refl _ | refine Gr.drew ?_ | refine Gr.alloc ?_ _)) HN.out (by simp) HNO.out HCN.out⟩
              | exact ⟨_, q, rfl, rfl, Af.early HM7.out (by repeat (first | exact Gr.refl _ | refine Gr.drew ?_ | refine Gr.alloc ?_ _)) HN.out (by simp) HNO.out HCN.out (Nat.le_refl _) (heap_alloc_new _ _) Q0.out⟩
          --D}
        case rest =>
        obtain ⟨b18, q, rfl, rfl, hAf⟩ := hcut
        have HAF := Lib.hid hAf
        have HF8 := Lib.hid hAf.fr
        clear hAf HT HNO HCN HM7 HF7 i1 rt zt hgs
        have hBw : B ≤ wc.heap.size := by have := HF8.out.below.size; omega
        obtain ⟨ao, cp, rfl, hcp1, hcp2⟩ := own_shape HAF.out.own
        obtain ⟨r2, c38, c39, z3, c30, c31, c32, c33, c34⟩ := (HA.out _ HF8.out).facts
        clear c38 c39 c30 c31 c32 c34
        by_cases hl : left.eraseIdx a = []
        · --D{
          have hl0 : (left.eraseIdx a).length = 0 := by rw [hl]; rfl
          have he : (left.eraseIdx a).isEmpty = true := by rw [hl]; rfl
          obtain ⟨e1, e2⟩ := HAF.out.done hl
          have hxp : ExtsAt wc p := by
            have h1 := gr_less HX.out HG2.out
            exact h1.less (by have := HF8.out.below.size; omega) (fun k hk => HF8.out.below.block k (by omega))
          have H13 := Lib.hid (same_er e1 e2 hxp)
          have rq : rowOf wc b18 = pkc q := rowOf_heap HAF.out.blk
          have zq : b18 < wc.heap.size := (Array.getElem?_eq_some_iff.1 HAF.out.blk).1
          rw [hl0, he]
          have HGW2 : Hid (Gr w wc) := HG2.out.trans (Gr.of_below (by rw [hBB]; exact HF8.out.below))
          clear e1 e2 hxp hl hl0 he
          go_wp2_with (fail)
          refine H13.out.mono ?_
          rintro e w' ⟨rfl, hg⟩
          go_wp2
          go_ret
          exact ⟨rfl, HGW2.out.trans hg⟩
          --D}
        · have hlen : 0 < (left.eraseIdx a).length := List.length_pos_iff.2 hl
          have he : (left.eraseIdx a).isEmpty = false := by
            cases hh : left.eraseIdx a with
            | nil => exact absurd hh hl
            | cons a r => rfl
          have hz : (((left.eraseIdx a).length : Int) == 0) = false := beq_false_of_ne (by omega)
          rw [he]
          have HMD8 := Lib.hid (HAF.out.md hl)
          have HL2 := Lib.hid hl
          clear hl he r2
          have HNEXT : Hid (∀ wx, Md (l.map er) (er p) B W2 W4.heap.size (.slice ao (left.eraseIdx a).length cp) (left.eraseIdx a) n (3 * n + 3) (T ++ [er x]) wx → Lp (l.map er) (er p) B W2 W4.heap.size (.slice ao (left.eraseIdx a).length cp) (left.eraseIdx a) (n + 1) (T ++ [er x]) wx) := fun wx h => by
            refine ⟨?_, ?_, ?_, ?_, HL2.out⟩
            · obtain ⟨hs, now, count, h1, h2, h3, h4⟩ := h.box
              exact ⟨h.fr, h.own, h.tag, hs, now, count, h1, by omega, by omega, h4⟩
            · rw [List.append_assoc]
              exact HPP.out
            · intro i hi
              exact HL.out.lt i (List.mem_of_mem_eraseIdx hi)
            · have h1 := HL.out.num
              rw [List.length_eraseIdx_of_lt ha]
              omega
          have htl := HTW.out.len
          have hfew := HTW.out.few
          by_cases hn : n < c.tl
          · obtain ⟨og, oo, hoa, hog, hoc⟩ := HTW.out.at_ (by intro h; rw [h] at htl; simp at htl; omega)
            obtain ⟨xo, hxo⟩ : ∃ x, c.twice[n]? = some x := ⟨_, List.getElem?_eq_getElem (by omega)⟩
            have hrg := HTW.out.rng xo (List.mem_of_getElem? hxo)
            rw [hoa] at c33
            have hcO : Hid (∀ W, Fr B W2 W → W.cell? ⟨og, oo + n, none⟩ = some (.int .i64 xo)) := fun W hf => by
              have h1 := hoc n xo hxo
              have hb : W.heap[og]? = w.heap[og]? := by
                have e1 := HG2.out.below.block og hog
                have e2 := hf.below.block og (by have := HG2.out.below.size; omega)
                exact e2.trans e1
              rw [World.cell?_of_block (w := w) (w' := W) hb]; exact h1
            have H11 : Hid (∀ W, Calls Try.prog 11 #[.int .i64 xo, .int .i64 3] W fun e w' => e = .returned (.int .i64 (pickN xo 3)) ∧ w' = W) := fun W => pick_any xo 3 W hrg.1 hrg.2 (by omega) (by omega)
            clear htl hfew hoc hxo hog hrg
            obtain ⟨hrg, hgs⟩ := HRW.out _ HF8.out
            have hxk := HXK.out
            obtain ⟨x1, x2⟩ := HROW.out.row kv x hxk
            rw [← hrg] at x1 x2
            have i1 : ∀ W, (Instr.indexAt 32 (.slice (some ⟨g, 0, none⟩) l.length vc) (.int .i64 kv)).run Try.prog W = .ok (.pointer (some ⟨g, kv * 46, none⟩)) W := fun W => by
              have := run_idx32 g l.length vc kv W (by omega) (by omega)
              simpa using this
            have rt : rowOf wc W4.heap.size = #[.int .i64 1, .int .i64 1] := rowOf_heap HMD8.out.tag
            have zt : W4.heap.size < wc.heap.size := (Array.getElem?_eq_some_iff.1 HMD8.out.tag).1
            obtain ⟨hs, now, count, hbox, hnow, hcnt, hSt⟩ := HMD8.out.box
            have hno : nowOf now (n : Int) ≤ n := nowOf_le hnow rfl
            have HT : Hid (∀ W, Gr wc W → Calls Try.prog 12 #[.pointer (some ⟨B, 0, none⟩), .int .i64 n, .agg #[.int .i64 1, .int .i64 1], .agg (pkc x)] W fun e w' =>
                e = .returned (.tuple #[.agg (pkc zpk), .bool false]) ∧ AgEnd (fun k c => wc.heap.size ≤ k ∧ W.heap[k]? = some (.cells c 27)) B W (nowOf now n) count (l.map er) (er p) (T ++ [er x]) w') := fun W hg => by
              have hfW : Fr B W2 W := HF8.out.trans (Fr.of_gr hg (by have := HF8.out.below.size; omega))
              obtain ⟨xe, xa⟩ := HXA.out _ hfW x (List.mem_of_getElem? hxk)
              refine (again_take (S := fun k c => wc.heap.size ≤ k ∧ W.heap[k]? = some (.cells c 27)) (hbox.grown hg) hSt (x := x) (by simp) (List.mem_map_of_mem (List.mem_of_getElem? hxk)) n xe xa (by omega) (by omega) (fun k c h => ⟨h.2, spare_new hbox k h.1⟩)).mono ?_
              rintro e w' ⟨rfl, h1, h2⟩
              exact ⟨rfl, h1, h2⟩
            have HNO := Lib.hid hno
            have HCN := Lib.hid hcnt
            clear hrg hbox hSt hno hcnt hnow hxk
            go_upto_region 37 with (fail)
            go_cut [21, 22] from 97 to 202 (fun x1 y1 wx => y1 = .bool false ∧ Mw (l.map er) (er p) B W2 W4.heap.size (.slice ao (left.eraseIdx a).length cp) (left.eraseIdx a) n (3 * n + 3) (T ++ [er x]) wx)
            case first =>
              --D{
              have tld : ∀ W, rowOf W g = rowOf wc g → (xload 27 (.pointer (some ⟨g, kv * 46, none⟩))).run Try.prog W = .ok (.value (.agg (pkc x))) W := fun W hW => by
                rw [run_load27 W g (kv * 46) (by rw [hW]; exact x2), hW, x1]
              have t1 := tld wc.drew rfl
              have t2 : ∀ o, (xload 27 (.pointer (some ⟨g, kv * 46, none⟩))).run Try.prog (wc.drew.alloc o) = .ok (.value (.agg (pkc x))) (wc.drew.alloc o) := fun o => tld _ (rowOf_alloc_past wc.drew o g hgs)
              have t3 : ∀ o, (xload 27 (.pointer (some ⟨g, kv * 46, none⟩))).run Try.prog (wc.alloc o).drew = .ok (.value (.agg (pkc x))) (wc.alloc o).drew := fun o => tld _ (rowOf_alloc_past wc o g hgs)
              clear tld x1 x2
              go_region_law (go_simp; go_at_call 12; refine (HT.out _ (by repeat (first | exact Gr.refl _ | refine Gr.drew ?_ | refine Gr.alloc ?_ _))).mono ?_; rintro e w' ⟨rfl, hN⟩; have HN := Lib.hid hN; (first | (have q0 := ag_block hN wc.heap.size (pkc zpk) ⟨Nat.le_refl _, heap_alloc_new _ _⟩; have r0 := rowOf_heap q0; have f0 := freeAt_heap q0; have z0 := (Array.getElem?_eq_some_iff.1 q0).1; clear q0) | skip); clear hN)
              all_goals
                go_wp2
                go_meet
                first
                  | exact ⟨rfl, Mw.late HMD8.out (by repeat (first | exact Gr.refl _ | refine Gr.drew ?_ | refine Gr.alloc ?_ _)) HN.out HNO.out HCN.out⟩
                  | exact ⟨rfl, Mw.early HMD8.out (by repeat (first | exact Gr.refl _ | refine Gr.drew ?_ | refine Gr.alloc ?_ _)) HN.out HNO.out HCN.out (Nat.le_refl _) (heap_alloc_new _ _)⟩
              --D}
            case rest =>
            obtain ⟨rfl, hMw⟩ := hcut
            have HMW := Lib.hid hMw
            have HF9 := Lib.hid hMw.fr
            clear hMw HT HNO HCN i1 rt zt hgs x1 x2 c33 z3
            obtain ⟨r2, c38, c39, z3, c30, c31, c32, c33, c34⟩ := (HA.out _ HF9.out).facts
            rw [hoa] at c33
            clear r2 c38 c39 c30 c31 c32 c34
            have cO := hcO.out _ HF9.out
            obtain ⟨hs9, now9, count9, hb9, hn9, hc9, hst9, hw9⟩ := HMW.out.box
            have H14 := Lib.hid (waiting_any hb9)
            have hw9' : ¬ ((hs9.length : Int) < 1) := by omega
            have H11W := Lib.hid (H11.out wc)
            clear hb9 hst9 hn9 hc9 H11
            by_cases hp3 : pickN xo 3 = 0
            · have hp4 : (pickN xo 3 == 0) = true := by rw [hp3]; rfl
              clear hp3
              go_wp2_with (fail)
              refine H11W.out.mono ?_
              rintro e w' ⟨rfl, rfl⟩
              go_wp2_with (fail)
              refine H14.out.mono ?_
              rintro e w' ⟨rfl, rfl⟩
              go_wp2
              go_roundw
              case rel => exact ⟨left.eraseIdx a, n + 1, T ++ [er x], by go_num, HNEXT.out _ HMW.out.md⟩
              case measure => simp [intOf]; omega
            · have hp4 : (pickN xo 3 == 0) = false := beq_false_of_ne hp3
              clear hp3
              go_wp2_with (fail)
              refine H11W.out.mono ?_
              rintro e w' ⟨rfl, rfl⟩
              go_wp2
              go_roundw
              case rel => exact ⟨left.eraseIdx a, n + 1, T ++ [er x], by go_num, HNEXT.out _ HMW.out.md⟩
              case measure => simp [intOf]; omega
          · go_wp2
            go_roundw
            case rel =>
              have h := HMD8.out
              obtain ⟨hs, now, count, h1, h2, h3, h4⟩ := h.box
              exact ⟨left.eraseIdx a, n + 1, T ++ [er x], by go_num, HNEXT.out _ ⟨h.fr, h.own, h.tag, hs, now, count, h1, h2, by omega, h4⟩⟩
            case measure => simp [intOf]; omega
end Go.Proofs.Ytfdjpmglfjiamaa
