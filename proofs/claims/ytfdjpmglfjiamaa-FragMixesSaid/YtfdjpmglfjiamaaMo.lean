/- Walk: a round of the law FragMixes in which a piece of the first packet is fed. -/
import Derived.Test.YtfdjpmglfjiamaaMh
namespace Go.Proofs.Ytfdjpmglfjiamaa
open Go Go.Sort Go.RowKit
set_option linter.unusedSimpArgs false
set_option linter.unusedVariables false
set_option linter.constructorNameAsVariable false
attribute [local irreducible] Calls in
set_option maxRecDepth 100000 in
set_option maxHeartbeats 4000000 in
theorem mix_a {p q : Pk} {c : Cutx} {W3 W5 W6 wr W7 : World} {z vac vbc ga gb tx B i k n b : Nat} {la lb : List Pk} {ye : Int} {K1 : Act → World → Prop} {Q : Exit → Act → World → Prop}
    {u0 u1 u2 u5 u6 u7 u9 u11 u19 u21 u22 u23 u24 u25 u26 u27 u28 u29 u30 u31 u32 u33 u34 u35 u36 u37 u38 u39 u40 u41 u42 u43 u44 u45 u46 u47 u48 u49 u50 u51 u52 u53 u54 u55 u56 u57 u58 u59 u60 u61
      u62 u63 u64 u65 u66 u67 u68 u69 u70 u71 u72 u73 u74 u75 u76 u77 u78 u79 u80 u81 u82 u83 u84 u85 u86 u87 u88 u89 u90 u91 u92 u93 u94 u95 u96 u97 u98 u99 u100 u101 u102 u103 u104 u105 u106 u107
      u108 u109 u110 u111 u112 u113 u114 u115 u116 u117 u118 u119 u120 u121 u122 u123 u124 u125 u126 u127 u128 u129 u130 u131 u132 u133 u134 u135 u136 u137 u138 u139 u140 u141 u142 u143 u144 u145 u146
      u147 u148 u150 u151 u152 u153 u154 u155 u156 u157 u158 u159 u160 u161 u162 u163 u164 u165 u166 u167 u168 u169 u170 u171 u172 u173 u174 u175 u176 u177 u178 u179 u180 u181 u182 u183 u184 u185 u186
      u187 u188 u189 u190 u191 u192 u193 u194 u195 u196 u197 u198 u199 u200 u201 u202 u203 u204 u205 u206 u207 u208 u209 u210 u211 u212 u213 u214 u215 u216 u217 u218 u219 u220 u221 u222 u223 u224 u225
      u226 u227 u228 u229 u230 u231 u232 : Value}
    (hla63 : la.length ≤ 9223372036854775807) (hlb63 : lb.length ≤ 9223372036854775807) (hla64 : la.length ≤ 64) (hlb64 : lb.length ≤ 64)
    (HROWA : Hid (PkRow W3 ga la)) (HROWB : Hid (PkRow W3 gb lb))
    (HCA : Hid (Cutting (la.map er) (er p))) (HCB : Hid (Cutting (lb.map er) (er q)))
    (HK : Hid (kAt 1 ye (lb.map er) (er q) ≠ kAt 1 1 (la.map er) (er p)))
    (hBB : W5.heap.size = B) (hB6 : B ≤ W6.heap.size) (hzB : z + 1 + 1 < B) (htB : tx + 1 < B)
    (HAR : Hid (∀ W', Fr B W5 W' → Args3 W' z p q c))
    (HRA : Hid (∀ W', Fr B W5 W' → rowOf W' ga = rowOf W3 ga ∧ ga < W'.heap.size))
    (HRB : Hid (∀ W', Fr B W5 W' → rowOf W' gb = rowOf W3 gb ∧ gb < W'.heap.size))
    (HTG : Hid (∀ W', Fr B W5 W' → rowOf W' tx = #[.int .i64 1, .int .i64 1] ∧ rowOf W' (tx + 1) = #[.int .i64 1, .int .i64 ye] ∧ tx + 1 < W'.heap.size))
    (HXA : Hid (∀ W', Fr B W5 W' → ∀ x ∈ la, ExtsAt W' x ∧ Aside B W' x))
    (HXB : Hid (∀ W', Fr B W5 W' → ∀ x ∈ lb, ExtsAt W' x ∧ Aside B W' x))
    (HXPQ : Hid (∀ W', Fr B W5 W' → ExtsAt W' p ∧ ExtsAt W' q))
    (HM : Hid (Mx (la.map er) (lb.map er) (kAt 1 1 (la.map er) (er p)) (kAt 1 ye (lb.map er) (er q)) B W5 W6.heap.size i k n n wr))
    (hi2 : i ≤ la.length) (hk2 : k ≤ lb.length) (HN2 : Hid (n = i + k)) (hnb : n ≤ 128)
    (g7 : Hid (Gr wr W7)) (hb7 : Hid (W7.heap[b]? = some (.cells (pkc zpk) 27))) (HBZ : Hid (b = wr.heap.size)) (HF7 : Hid (Fr B W5 W7))
    (hia : i < la.length)
    (HE : ∀ {iv kv v21 v22 v23 v106 v107 v108 v109 v110 v111 v112 v113 v114 v115 v116 v117 v118 v119 v120 v121 v122 v123 v124 v125 v126 v127 v128 v129 v130 v131 v132 v133 v134 v135 v136 v137 v138 v139
      v140 v141 v142 v143 v144 v145 v146 v147 v148 v149 v150 v151 v152 v153 v154 v155 v156 v157 v158 v159 v160 v161 v162 v163 v164 v165 v166 v167 v168 v169 v170 v171 v172 v173 v174 v175 v176 v177 v178
      v179 v180 v181 v182 v183 v184 v185 v186 v187 v188 v189 v190 v191 v192 v193 v194 v195 v196 v197 v198 v199 v200 v201 v202 v203 v204 v205 v206 v207 v208 v209 v210 v211 : Value} (i2 k2 : Nat) (w2 :
      World), iv = .int .i64 (i2 : Int) → kv = .int .i64 (k2 : Int) → i2 + k2 = n + 1 → i ≤ i2 → k ≤ k2 → Mx (la.map er) (lb.map er) (kAt 1 1 (la.map er) (er p)) (kAt 1 ye (lb.map er) (er q)) B W5
      W6.heap.size i2 k2 (n + 1) (n + 1) w2 → K1 ⟨#[u0, u1, u2, .pointer (some ⟨z, 0, none⟩), .pointer (some ⟨z + 1, 0, none⟩), u5, u6, u7, .slice (some ⟨ga, 0, none⟩) la.length vac, u9, .slice (some
      ⟨gb, 0, none⟩) lb.length vbc, u11, .pointer (some ⟨tx, 0, none⟩), .pointer (some ⟨tx + 1, 0, none⟩), .pointer (some ⟨B, 0, none⟩), .pointer (some ⟨W6.heap.size, 0, none⟩), iv, kv, .int .i64 (n :
      Int), u19, .pointer (some ⟨b, 0, none⟩), v21, v22, v23, u24, u25, u26, u27, u28, u29, u30, u31, u32, u33, u34, u35, u36, u37, u38, u39, u40, u41, u42, u43, u44, u45, u46, u47, u48, u49, u50,
      u51, u52, u53, u54, u55, u56, u57, u58, u59, u60, u61, u62, u63, u64, u65, u66, u67, u68, u69, u70, u71, u72, u73, u74, u75, u76, u77, u78, u79, u80, u81, u82, u83, u84, u85, u86, u87, u88, u89,
      u90, u91, u92, u93, u94, u95, u96, u97, u98, u99, u100, u101, u102, u103, u104, u105, v106, v107, v108, v109, v110, v111, v112, v113, v114, v115, v116, v117, v118, v119, v120, v121, v122, v123,
      v124, v125, v126, v127, v128, v129, v130, v131, v132, v133, v134, v135, v136, v137, v138, v139, v140, v141, v142, v143, v144, v145, v146, v147, v148, v149, v150, v151, v152, v153, v154, v155,
      v156, v157, v158, v159, v160, v161, v162, v163, v164, v165, v166, v167, v168, v169, v170, v171, v172, v173, v174, v175, v176, v177, v178, v179, v180, v181, v182, v183, v184, v185, v186, v187,
      v188, v189, v190, v191, v192, v193, v194, v195, v196, v197, v198, v199, v200, v201, v202, v203, v204, v205, v206, v207, v208, v209, v210, v211, u212, u213, u214, u215, u216, u217, u218, u219,
      u220, u221, u222, u223, u224, u225, u226, u227, u228, u229, u230, u231, u232], []⟩ w2) :
    Code.wp Try.prog codeFeed (Exit.inBlock 1 (Exit.then K1 Q)) ⟨#[u0, u1, u2, .pointer (some ⟨z, 0, none⟩), .pointer (some ⟨z + 1, 0, none⟩), u5, u6, u7, .slice (some ⟨ga, 0, none⟩) la.length vac, u9, .slice (some ⟨gb, 0, none⟩) lb.length vbc, u11, .pointer (some
      ⟨tx, 0, none⟩), .pointer (some ⟨tx + 1, 0, none⟩), .pointer (some ⟨B, 0, none⟩), .pointer (some ⟨W6.heap.size, 0, none⟩), .int .i64 (i : Int), .int .i64 (k : Int), .int .i64 (n : Int), u19,
      .pointer (some ⟨b, 0, none⟩), u21, u22, u23, u24, u25, u26, u27, u28, u29, u30, u31, u32, u33, u34, u35, u36, u37, u38, u39, u40, u41, u42, u43, u44, u45, u46, u47, u48, u49, u50, u51, u52, u53,
      u54, u55, u56, u57, u58, u59, u60, u61, u62, u63, u64, u65, u66, u67, u68, u69, u70, u71, u72, u73, u74, u75, u76, u77, u78, u79, u80, u81, u82, u83, u84, u85, u86, u87, u88, u89, u90, u91, u92,
      u93, u94, u95, u96, u97, u98, u99, u100, u101, u102, u103, u104, u105, u106, u107, u108, u109, u110, u111, u112, u113, u114, u115, u116, u117, u118, u119, u120, u121, u122, u123, u124, u125,
      u126, u127, u128, u129, u130, u131, u132, u133, u134, u135, u136, u137, u138, u139, u140, u141, u142, u143, u144, u145, u146, u147, u148, .bool true, u150, u151, u152, u153, u154, u155, u156,
      u157, u158, u159, u160, u161, u162, u163, u164, u165, u166, u167, u168, u169, u170, u171, u172, u173, u174, u175, u176, u177, u178, u179, u180, u181, u182, u183, u184, u185, u186, u187, u188,
      u189, u190, u191, u192, u193, u194, u195, u196, u197, u198, u199, u200, u201, u202, u203, u204, u205, u206, u207, u208, u209, u210, u211, u212, u213, u214, u215, u216, u217, u218, u219, u220,
      u221, u222, u223, u224, u225, u226, u227, u228, u229, u230, u231, u232], []⟩ W7 := by
  refine Code.wp_mono (Q := Exit.inBlock 1 (Exit.then K1 fun _ _ _ => False)) feed_imp ?_
  clear Q
  simp only [codeFeed, codeRight, codeLeft, codeInner, Try.f4, Option.getD_some]
  have hjl : la.length - 1 - i < la.length := by omega
  obtain ⟨x, hxk⟩ : ∃ x, la[la.length - 1 - i]? = some x := ⟨_, List.getElem?_eq_getElem hjl⟩
  have hxm : x ∈ la := List.mem_of_getElem? hxk
  obtain ⟨hrg, hgs⟩ := HRA.out _ HF7.out
  obtain ⟨x1, x2⟩ := HROWA.out.row _ x hxk
  rw [← hrg] at x1 x2
  obtain ⟨rt, _, zt⟩ := HTG.out _ HF7.out
  have i1 : ∀ W, (Instr.indexAt 32 (.slice (some ⟨ga, 0, none⟩) la.length vac) (.int .i64 ((la.length : Int) - 1 - (i : Int)))).run Try.prog W = .ok (.pointer (some ⟨ga, (la.length - 1 - i) * 46, none⟩)) W := fun W => by
    have := run_idx32 ga la.length vac ((la.length : Int) - 1 - (i : Int)) W (by omega) (by omega)
    have e : ((la.length : Int) - 1 - (i : Int)).toNat = la.length - 1 - i := by omega
    rwa [e] at this
  obtain ⟨hs, now, count, TA, TB, hbox, hnow, hcnt, hTw, pA, pB⟩ := HM.out.st
  have hno : nowOf now (n : Int) ≤ n := nowOf_le hnow rfl
  rw [if_neg (show ¬ i = (la.map er).length by simp; omega)] at hTw
  have hxe : (la.map er)[(la.map er).length - 1 - i]'(by simp; omega) = er x := by
    obtain ⟨_, h2⟩ := List.getElem?_eq_some_iff.1 hxk
    simp [h2]
  have hpp := perm_back pA (by simpa using hia)
  rw [hxe] at hpp
  have hxL : er x ∈ la.map er := List.mem_map_of_mem hxm
  have HT := Lib.hid (feed HCA.out HM.out.fr hbox hTw HK.out n 1 1 (key_at HCA.out hxL 1 1) (fun W' hf => HXA.out W' hf x hxm) hpp (by omega) (by omega) (b := b) (by rw [HBZ.out]; exact Nat.le_refl _) HM.out.told)
  obtain ⟨bl, hbl⟩ : ∃ bl : Bool, bl = ((la.map er).take ((la.map er).length - (i + 1))).isEmpty := ⟨_, rfl⟩
  rw [← hbl] at HT
  have HBL := Lib.hid hbl
  clear hbl
  have HP := Lib.hid (And.intro (perm_more hpp) (And.intro pB (And.intro hno hcnt)))
  clear hrg hxk hxm hjl hbox hTw pA pB hpp hno hcnt hnow hxe hxL
  go_upto_region 25 with (fail)
  go_cut [21] from 106 to 211 (fun y wx => ∃ r, y = .bool bl ∧ Fed B W5 (nowOf now n) (count + 1) (er p) (kAt 1 1 (la.map er) (er p)) (kAt 1 ye (lb.map er) (er q)) (er x) TA (if k = (lb.map er).length then [] else TB) ((la.map er).take ((la.map er).length - (i + 1))) W6.heap.size #[.int .i64 (tl i (la.map er).length), .int .i64 (tl k (lb.map er).length)] b r wx)
  case first =>
    have t1 : (xload 27 (.pointer (some ⟨ga, (la.length - 1 - i) * 46, none⟩))).run Try.prog W7.drew = .ok (.value (.agg (pkc x))) W7.drew := by
      rw [run_load27 W7.drew ga _ x2]
      show Result.ok (Next.value (.agg ((rowOf W7 ga).extract _ _))) _ = _
      rw [x1]
    have t2 := HT.out W7.drew g7.out.drew hb7.out
    have HT2 := Lib.hid t2
    clear t2 x1 x2
    have hw1 := wrap_mid ((la.length : Int) - 1) (by omega) (by omega)
    have hw2 := wrap_mid ((la.length : Int) - 1 - (i : Int)) (by omega) (by omega)
    go_region_law (go_simp; go_at_call 12; refine HT2.out.mono ?_; rintro e w' ⟨r, rfl, hq, hN⟩; have HN := Lib.hid hN; have r0 := rowOf_heap hq; have f0 := freeAt_heap hq; have z0 := (Array.getElem?_eq_some_iff.1 hq).1; clear hq hN)
    all_goals
      go_wp2
      go_meet
      exact ⟨r, rfl, HN.out⟩
  case rest =>
  obtain ⟨r, rfl, hFd⟩ := hcut
  have HFD := Lib.hid hFd
  have HF8 := Lib.hid hFd.fr
  clear hFd HT x1 x2 rt zt i1 hgs
  by_cases hlast : i + 1 = la.length
  · have hR : (la.map er).take ((la.map er).length - (i + 1)) = [] := by
      rw [show (la.map er).length - (i + 1) = 0 by simp; omega, List.take_zero]
    have hem : bl = true := by rw [HBL.out, hR]; rfl
    subst hem
    have HRR := Lib.hid hR
    have HLA := Lib.hid hlast
    have hni : ¬ ((i : Int) + 1 < (la.length : Int)) := by omega
    have ht : wc.heap[W6.heap.size]? = some (.cells #[.int .i64 0, .int .i64 (tl k (lb.map er).length)] 48) := by
      have h1 := HFD.out.told
      have e1 : tl i (la.map er).length = 0 := by unfold tl; rw [if_neg (by simp; omega)]
      rwa [e1] at h1
    have ct0 : wc.cell? ⟨W6.heap.size, 0, none⟩ = some (.int .i64 0) := by rw [cell_of_row _ _ _ _ _ _ ht]; rfl
    have ft0 : wc.frozen? ⟨W6.heap.size, 0, none⟩ = false := by simp [World.frozen?, ht]
    have HST := Lib.hid (HFD.out.still hR 0 (.int .i64 1))
    have HF9 : Hid (Fr B W5 (wc.setCell ⟨W6.heap.size, 0, none⟩ (.int .i64 1))) := HF8.out.told hBB hB6 0 _
    have HG9 : Hid (Gr (wc.setCell ⟨W6.heap.size, 0, none⟩ (.int .i64 1)) (wc.setCell ⟨W6.heap.size, 0, none⟩ (.int .i64 1))) := Gr.refl _
    clear ht hlast hR
    go_upto_region 29 with (fail)
    have HNX : Hid (∀ w', Gr (wc.setCell ⟨W6.heap.size, 0, none⟩ (.int .i64 1)) w' → Mx (la.map er) (lb.map er) (kAt 1 1 (la.map er) (er p)) (kAt 1 ye (lb.map er) (er q)) B W5 W6.heap.size (i + 1) k (n + 1) (n + 1) w') := fun w' hg =>
      Mx.lastA (HFD.out.le (by have := HP.out.2.2.2; omega)) hBB hB6 (by simpa using HLA.out) (by simpa using hk2) HN2.out HP.out.2.2.1 HRR.out HP.out.1 HP.out.2.1 hg
    generalize wc.setCell ⟨W6.heap.size, 0, none⟩ (.int .i64 1) = W9 at HST HF9 HG9 HNX ⊢
    obtain ⟨s1, s2, s3, s4⟩ := HST.out
    obtain ⟨r3, _, z5, _, _, _, _, _, _, _, _, _, _⟩ := (HAR.out _ HF9.out).facts
    have z7 : z < W9.heap.size := by omega
    have H13 := Lib.hid (same_er s1 s2 (HXPQ.out _ HF9.out).1)
    clear s1 s2 ct0 ft0
    go_wp2_with (fail)
    refine H13.out.mono ?_
    rintro e w' ⟨rfl, hg⟩
    have HGS := Lib.hid hg
    clear hg
    go_wp2
    exact HE (i + 1) (k) _ (by first | rfl | go_num) (by first | rfl | go_num) (by have := HN2.out; omega) (by omega) (by omega) (HNX.out _ HGS.out)
  · have hR : (la.map er).take ((la.map er).length - (i + 1)) ≠ [] := by
      intro h
      have := congrArg List.length h
      simp at this
      omega
    have hem : bl = false := by
      rw [HBL.out]
      cases hh : (la.map er).take ((la.map er).length - (i + 1)) with
      | nil => exact absurd hh hR
      | cons a r => rfl
    subst hem
    have HNX : Hid (Mx (la.map er) (lb.map er) (kAt 1 1 (la.map er) (er p)) (kAt 1 ye (lb.map er) (er q)) B W5 W6.heap.size (i + 1) k (n + 1) (n + 1) wc) :=
      Mx.nextA (HFD.out.le (by have := HP.out.2.2.2; omega)) hBB hB6 (by simp; omega) (by simpa using hk2) HN2.out HP.out.2.2.1 hR HP.out.1 HP.out.2.1
    clear hR hlast
    go_wp2
    exact HE (i + 1) (k) _ (by first | rfl | go_num) (by first | rfl | go_num) (by have := HN2.out; omega) (by omega) (by omega) (HNX.out)
end Go.Proofs.Ytfdjpmglfjiamaa
