/- THE WALK of the law TableDecodes, its second half, over a frame of letters (printed by a program of ours). -/
import Derived.Test.YtnglgppdkohhpaaDoorTbDecS
import Derived.Deep.DeepCutAuto
namespace Go.Proofs.YtnglgppdkohhpaaDoor
open Go.RowKit
set_option maxRecDepth 1000000 in
set_option maxHeartbeats 16000000 in
theorem decodes_tail {u0 u1 u3 u4 u5 u7 u9 u10 u11 u12 u13 u14 u15 u16 u17 u18 u19 u20 u21 u22 u23 u24 u25 u26 u27 u28 u29 u30 u31 u32 u33 u34 u35 u36 u37 u38 u39 u40 u41 u42 u43 u44 u45 u46 u47 u48 u49 u50 u51 u52 u53 u54 u55 u56 u57 u58 u59 u60 u61 u62 u63 u64 u65 u66 u67 u68 u69 u70 u71 u72 u73 u74 u75 u76 u77 u78 u79 u80 u81 u82 u83 u84 u85 u86 u87 u88 u89 u90 u91 u92 u93 u94 u95 u96 u97 u98 u99 u100 u101 u102 u103 u104 u105 u106 u107 u108 u109 u110 u111 u112 u113 u114 u115 u116 u117 u118 u119 u120 u121 u122 u123 u124 u125 u126 u127 u128 u129 u130 u131 u132 u133 u134 u135 u136 u137 u138 u139 u140 u141 u142 u143 u144 u145 u146 u147 u148 u149 u150 u151 u152 u153 u154 u155 u156 u157 u158 u159 u160 u161 u162 u163 u164 u165 u166 u167 u168 u169 u170 u171 u172 u173 u174 u175 u176 u177 u178 u179 u180 u181 u182 u183 u184 u185 u186 u187 u188 u189 u190 u191 u192 u193 u194 u195 u196 u197 u198 u199 u200 u201 u202 u203 u204 u205 u206 u207 u208 u209 u210 u211 u212 u213 u214 u215 u216 u217 u218 u219 u220 u221 u222 u223 u224 u225 u226 u227 u228 u229 u230 u231 u232 u233 u234 u235 u236 u237 u238 u239 u240 u241 u242 u243 u244 u245 u246 u247 u248 u249 u250 u251 u252 u253 u254 u255 u256 u257 u258 u259 u260 u261 u262 u263 u264 u265 u266 u267 u268 u269 u270 u271 u272 u273 u274 u275 u276 u277 u278 u279 u280 u281 u282 u283 u284 u285 u286 u287 u288 u289 u290 u291 u292 u293 u294 u295 u296 u297 u298 u299 u300 u301 u302 u303 u304 u305 u306 u307 u308 u309 u310 u311 u312 u313 u314 u315 u316 u317 u318 u319 u320 u321 u322 u323 u324 u325 u326 u327 u328 u329 u330 u331 u332 u333 : Value} {K : Act → World → Prop} (w wS : World) (b6 b8 : Nat) (cx cy : Array Value) (t : Tb) (vn1 vf1 ve1 vn2 vf2 ve2 : Value) (N1 N2 m1 m2 : Nat) (gs1 gs2 : List Nat)
    (x6 : Blk wS b6 26 cx) (x8 : Blk wS b8 26 cy) (hcx : cx = dcells t.cls vn1 vf1 ve1) (hcy : cy = dcells t.cls vn2 vf2 ve2) (htc : t.cls.length = 256)
    (l1 : OL wS N1 vn1 vf1 ve1 t m1 gs1) (l2 : OL wS N2 vn2 vf2 ve2 t m2 gs2) (hB : Below w.heap.size w wS) (hN1 : w.heap.size ≤ N1) (hm : m1 ≤ 256 ∧ m2 ≤ 256) (hsz : t.nx.length ≤ 4096 ∧ t.fo.length ≤ 4096 ∧ t.en.length ≤ 4096)
    (hNS : N1 ≤ wS.heap.size) (hlt : N1 ≤ N2 ∧ (∀ k, vn1.ownBlock = some k → k < N2) ∧ (∀ k, vf1.ownBlock = some k → k < N2) ∧ (∀ k, ve1.ownBlock = some k → k < N2) ∧ ∀ (s g : Nat), gs1[s]? = some g → g < N2)
    (hK : ∀ a W, Code.wp Tryd.prog rest20 (bodyPost Tryd.prog Tryd.f4 (RightP true w)) a W → K a W) :
    Code.wp Tryd.prog reg20 (Exit.then K (bodyPost Tryd.prog Tryd.f4 (RightP true w))) ⟨#[u0, u1, .bool false, u3, u4, u5, .pointer (some ⟨b6, 0, none⟩), u7, .pointer (some ⟨b8, 0, none⟩), u9, u10, u11, u12, u13, u14, u15, u16, u17, u18, u19, u20, u21, u22, u23, u24, u25, u26, u27, u28, u29, u30, u31, u32, u33, u34, u35, u36, u37, u38, u39, u40, u41, u42, u43, u44, u45, u46, u47, u48, u49, u50, u51, u52, u53, u54, u55, u56, u57, u58, u59, u60, u61, u62, u63, u64, u65, u66, u67, u68, u69, u70, u71, u72, u73, u74, u75, u76, u77, u78, u79, u80, u81, u82, u83, u84, u85, u86, u87, u88, u89, u90, u91, u92, u93, u94, u95, u96, u97, u98, u99, u100, u101, u102, u103, u104, u105, u106, u107, u108, u109, u110, u111, u112, u113, u114, u115, u116, u117, u118, u119, u120, u121, u122, u123, u124, u125, u126, u127, u128, u129, u130, u131, u132, u133, u134, u135, u136, u137, u138, u139, u140, u141, u142, u143, u144, u145, u146, u147, u148, u149, u150, u151, u152, u153, u154, u155, u156, u157, u158, u159, u160, u161, u162, u163, u164, u165, u166, u167, u168, u169, u170, u171, u172, u173, u174, u175, u176, u177, u178, u179, u180, u181, u182, u183, u184, u185, u186, u187, u188, u189, u190, u191, u192, u193, u194, u195, u196, u197, u198, u199, u200, u201, u202, u203, u204, u205, u206, u207, u208, u209, u210, u211, u212, u213, u214, u215, u216, u217, u218, u219, u220, u221, u222, u223, u224, u225, u226, u227, u228, u229, u230, u231, u232, u233, u234, u235, u236, u237, u238, u239, u240, u241, u242, u243, u244, u245, u246, u247, u248, u249, u250, u251, u252, u253, u254, u255, u256, u257, u258, u259, u260, u261, u262, u263, u264, u265, u266, u267, u268, u269, u270, u271, u272, u273, u274, u275, u276, u277, u278, u279, u280, u281, u282, u283, u284, u285, u286, u287, u288, u289, u290, u291, u292, u293, u294, u295, u296, u297, u298, u299, u300, u301, u302, u303, u304, u305, u306, u307, u308, u309, u310, u311, u312, u313, u314, u315, u316, u317, u318, u319, u320, u321, u322, u323, u324, u325, u326, u327, u328, u329, u330, u331, u332, u333], []⟩ wS := by
  refine Code.wp_mono (Q := Exit.then (fun a W => Code.wp Tryd.prog rest20 (bodyPost Tryd.prog Tryd.f4 (RightP true w)) a W) (bodyPost Tryd.prog Tryd.f4 (RightP true w))) (fun e a W h => by cases e <;> first | exact hK _ _ h | exact h) ?_
  clear hK
  have X6 := Lib.hid x6; have X8 := Lib.hid x8; have L1 := Lib.hid l1; have L2 := Lib.hid l2; have HB := Lib.hid hB; have HN1 := Lib.hid hN1; have HM := Lib.hid hm; have HSZ := Lib.hid hsz; have HLT := Lib.hid hlt
  have sx : Hid (cx.size = 259) := Lib.hid (by rw [hcx]; exact dcells_size htc)
  have sy : Hid (cy.size = 259) := Lib.hid (by rw [hcy]; exact dcells_size htc)
  have dx : Hid (cx[256]? = some vn1 ∧ cx[257]? = some vf1 ∧ cx[258]? = some ve1) := Lib.hid (by rw [hcx]; exact ⟨dcells_nx htc, dcells_fo htc, dcells_en htc⟩)
  have dy : Hid (cy[256]? = some vn2 ∧ cy[257]? = some vf2 ∧ cy[258]? = some ve2) := Lib.hid (by rw [hcy]; exact ⟨dcells_nx htc, dcells_fo htc, dcells_en htc⟩)
  have li6 : Hid ((Tryd.prog.info? 26).map (·.size) = some cx.toList.length) := Lib.hid (by rw [size259, Array.length_toList, sx.out])
  have li8 : Hid ((Tryd.prog.info? 26).map (·.size) = some cy.toList.length) := Lib.hid (by rw [size259, Array.length_toList, sy.out])
  obtain ⟨An1, cn1, rfl, hcn1, rgn1⟩ := rg_own l1.on
  obtain ⟨An2, cn2, rfl, hcn2, rgn2⟩ := rg_own l2.on
  obtain ⟨Af1, cf1, rfl, _⟩ := own_form l1.of_
  obtain ⟨Ae1, ce1, rfl, _⟩ := own_form l1.oe
  obtain ⟨Af2, cf2, rfl, _⟩ := own_form l2.of_
  obtain ⟨Ae2, ce2, rfl, _⟩ := own_form l2.oe
  have e1 : (gs1.map (rowV m1)).length = t.nx.length := by rw [List.length_map]; exact l1.len
  have e2 : (gs2.map (rowV m2)).length = t.nx.length := by rw [List.length_map]; exact l2.len
  rw [e1] at rgn1 hcn1 L1 HLT dx
  rw [e2] at rgn2 hcn2 L2 dy
  rw [List.length_map] at L1 L2 HLT dx dy
  rw [List.length_map] at L1 L2 HLT dx dy
  have R1 := Lib.hid rgn1; have R2 := Lib.hid rgn2
  obtain ⟨n, hn⟩ : ∃ n, n = t.nx.length := ⟨_, rfl⟩
  obtain ⟨f, hf⟩ : ∃ f, f = t.fo.length := ⟨_, rfl⟩
  obtain ⟨g, hg⟩ : ∃ g, g = t.en.length := ⟨_, rfl⟩
  have HN : Hid (n = t.nx.length ∧ f = t.fo.length ∧ g = t.en.length ∧ gs1.length = n ∧ gs2.length = n) := Lib.hid ⟨hn, hf, hg, by rw [hn]; exact l1.len, by rw [hn]; exact l2.len⟩
  rw [← hn] at R1 R2 L1 L2 HLT dx dy
  rw [← hf] at L1 L2 HLT dx dy
  rw [← hg] at L1 L2 HLT dx dy
  have hnb : n ≤ 4096 := by rw [hn]; exact hsz.1
  have o1 : Hid (∀ u ∈ gs1.map (rowV m1), u.oneCell' = true) := Lib.hid (fun u hu => by obtain ⟨_, _, rfl⟩ := List.mem_map.1 hu; rfl)
  have o2 : Hid (∀ u ∈ gs2.map (rowV m2), u.oneCell' = true) := Lib.hid (fun u hu => by obtain ⟨_, _, rfl⟩ := List.mem_map.1 hu; rfl)
  have HNS : Hid (N1 ≤ wS.heap.size) := Lib.hid hNS
  have L1S := L1; have L2S := L2
  clear x6 x8 hcx hcy htc l1 l2 hB hN1 hm hsz hlt hcn1 hcn2 rgn1 rgn2 e1 e2 hn hf hg
  have p1 : wS.cell? ⟨b6, 256, none⟩ = some (.slice An1 n cn1) := (X6.out.cell 256).trans dx.out.1
  have p2 : wS.cell? ⟨b8, 256, none⟩ = some (.slice An2 n cn2) := (X8.out.cell 256).trans dy.out.1
  conv => arg 2; whnf
  go_wp2_with fail
  conv => arg 2; whnf
  obtain ⟨w1, hw1⟩ : ∃ w1, w1 = wS.alloc (.cells #[.slice An1 n cn1, .slice An2 n cn2] 23) := ⟨_, rfl⟩
  obtain ⟨gR, hgR⟩ : ∃ gR, gR = wS.heap.size := ⟨_, rfl⟩
  have BK1 : Hid (Below wS.heap.size wS w1) := Lib.hid (by rw [hw1]; exact below_alloc _ _)
  have XR1 : Hid (Blk w1 gR 23 #[.slice An1 n cn1, .slice An2 n cn2]) := Lib.hid (by rw [hw1, hgR]; exact Blk.new _ _ _ rfl)
  have HGR : Hid (gR = wS.heap.size) := Lib.hid hgR
  have XR1L : Hid (gR < w1.heap.size) := Lib.hid XR1.out.lt
  rw [← hw1, ← hgR]
  clear hw1 hgR p1 p2
  have K1 := Lib.hid (L1.out.keep BK1.out); have K2 := Lib.hid (L2.out.keep BK1.out); have Y6 := Lib.hid (X6.out.keep BK1.out); have Y8 := Lib.hid (X8.out.keep BK1.out)
  have IA := Lib.hid (ints_any cx cy An1 An2 n n cn1 cn2 (gs1.map (rowV m1)) (gs2.map (rowV m2)) w1 dx.out.1 dy.out.1 (R1.out.keep BK1.out) (R2.out.keep BK1.out) o1.out o2.out (by omega) (by omega))
  have RG6 := Lib.hid (rangeAt_blk Y6.out); have RG8 := Lib.hid (rangeAt_blk Y8.out)
  go_wp2_with (first | (with_reducible refine wpList_load_mid rfl _ _ rfl b6 0 rfl cx.toList _ RG6.out Tryd.underlying26 rfl li6.out ?_) | (with_reducible refine wpList_load_mid rfl _ _ rfl b8 0 rfl cy.toList _ RG8.out Tryd.underlying26 rfl li8.out ?_))
  refine IA.out.mono ?_
  rintro e w2 ⟨vl, rfl, hol, hb2⟩
  have OL2 := Lib.hid hol
  have K12 := Lib.hid (K1.out.keep hb2); have K22 := Lib.hid (K2.out.keep hb2); have Y62 := Lib.hid (Y6.out.keep hb2); have Y82 := Lib.hid (Y8.out.keep hb2); have XR2 := Lib.hid (XR1.out.keep hb2)
  have BK2 : Hid (Below wS.heap.size wS w2) := Lib.hid (BK1.out.trans (hb2.mono BK1.out.size))
  have S12 := Lib.hid hb2.size
  clear hol hb2 IA RG6 RG8 K1 K2 Y6 Y8 XR1 L1 L2 X6 X8
  have q1 : w2.cell? ⟨b6, 257, none⟩ = some (.slice Af1 f cf1) := (Y62.out.cell 257).trans dx.out.2.1
  have q2 : w2.cell? ⟨b6, 258, none⟩ = some (.slice Ae1 g ce1) := (Y62.out.cell 258).trans dx.out.2.2
  have q3 : w2.cell? ⟨b8, 257, none⟩ = some (.slice Af2 f cf2) := (Y82.out.cell 257).trans dy.out.2.1
  have q4 : w2.cell? ⟨b8, 258, none⟩ = some (.slice Ae2 g ce2) := (Y82.out.cell 258).trans dy.out.2.2
  go_upto_region 23 with fail
  obtain ⟨wA, hwA⟩ : ∃ wA, wA = w2.alloc (.cells #[.slice Af1 f cf1, .slice Ae1 g ce1, .slice Af2 f cf2, .slice Ae2 g ce2] 24) := ⟨_, rfl⟩
  obtain ⟨gW, hgW⟩ : ∃ gW, gW = w2.heap.size := ⟨_, rfl⟩
  have BKA : Hid (Below w2.heap.size w2 wA) := Lib.hid (by rw [hwA]; exact below_alloc _ _)
  have XW : Hid (Blk wA gW 24 #[.slice Af1 f cf1, .slice Ae1 g ce1, .slice Af2 f cf2, .slice Ae2 g ce2]) := Lib.hid (by rw [hwA, hgW]; exact Blk.new _ _ _ rfl)
  have J1 := Lib.hid (K12.out.keep BKA.out); have J2 := Lib.hid (K22.out.keep BKA.out); have XR := Lib.hid (XR2.out.keep BKA.out)
  have OLA := Lib.hid (own_keep OL2.out BKA.out)
  have HLO : Hid (w.heap.size ≤ N1 ∧ N1 ≤ N2 ∧ N1 ≤ wS.heap.size ∧ gR = wS.heap.size ∧ gR < w1.heap.size ∧ w1.heap.size ≤ w2.heap.size ∧ gW = w2.heap.size ∧ w2.heap.size ≤ wA.heap.size) := Lib.hid (by
    have h1 := HGR.out; have h2 := BK1.out.size; have h3 := S12.out; have h4 := BKA.out.size; have h5 := HNS.out
    have h6 := HLT.out.1; have h7 := HN1.out; have h8 := XR1L.out
    exact ⟨h7, h6, h5, h1, h8, h3, hgW, h4⟩)
  rw [← hwA, ← hgW]
  clear hwA hgW q1 q2 q3 q4
  have HBA : Hid (Below w.heap.size w wA) := Lib.hid ((HB.out.trans (BK2.out.mono HB.out.size)).trans (BKA.out.mono (by have := HLO.out; omega)))
  obtain ⟨vs, hvs⟩ : ∃ vs, vs = gs1.map (rowV m1) ++ gs2.map (rowV m2) := ⟨_, rfl⟩
  have hnx : ∀ row ∈ t.nx, row.length ≤ 256 := fun row hm => by
    obtain ⟨i, hi⟩ := List.getElem?_of_mem hm
    have hil := (List.getElem?_eq_some_iff.1 hi).1
    obtain ⟨q, hq⟩ : ∃ q, gs1[i]? = some q := ⟨_, List.getElem?_eq_getElem (by rw [HN.out.2.2.2.1, HN.out.1]; exact hil)⟩
    have := (J1.out.rows i q row hq hi).2.1
    have := HM.out.1
    omega
  have LA0 := la_of (h := w1.heap.size) J1.out J2.out HM.out HLT.out.2.2.2.2 HLT.out.1 (by have := HLO.out; omega) OLA.out
  have LW0 := lw_of (h := w1.heap.size) J1.out J2.out HLT.out.2.2.1 HLT.out.2.2.2.1 HLT.out.1 (by have := HLO.out; omega) XW.out
  have LR0 := lr_of (h := w1.heap.size) J1.out J2.out HLT.out.2.1 ⟨fun k hk => by have := (L1S.out.on.lt k hk).2; have := HLO.out; omega, fun k hk => by have := (L2S.out.on.lt k hk).2; have := HLO.out; omega⟩ HLT.out.1 (by have := HLO.out; omega) XR.out
  obtain ⟨C0, hC0⟩ : ∃ C0, C0 = col0 wA N1 w1.heap.size := ⟨_, rfl⟩
  rw [← hC0] at LA0 LW0 LR0
  rw [← hvs] at LA0
  have HCL : Hid (∀ b, C0 b ≠ 0 → N1 ≤ b) := Lib.hid (fun b hb => by rw [hC0] at hb; exact col0_low hb)
  have hvl : vs.length = n + n := by rw [hvs, List.length_append, List.length_map, List.length_map, HN.out.2.2.2.1, HN.out.2.2.2.2]
  obtain ⟨Al, cl, rfl, _⟩ := LA0.form2
  obtain ⟨nl, hnl⟩ : ∃ nl, nl = n + n := ⟨_, rfl⟩
  rw [hvl, ← hnl] at LA0 ⊢
  have hnl2 : nl ≤ 8192 := by omega
  have HVL : Hid (vs.length = nl) := Lib.hid (by rw [hvl, hnl])
  have BD1 : Hid (∀ row ∈ t.nx ++ t.nx, row.length ≤ 5000) := Lib.hid (fun row hm => by
    rcases List.mem_append.1 hm with h | h <;> (have := hnx row h; omega))
  have BD2 : Hid (∀ row ∈ [t.fo, t.en, t.fo, t.en], row.length ≤ 5000) := Lib.hid (fun row hm => by
    simp only [List.mem_cons, List.not_mem_nil, or_false] at hm
    rcases hm with rfl | rfl | rfl | rfl <;> (have := HSZ.out; omega))
  have BD3 : Hid (∀ row ∈ [gs1.map (rowV m1), gs2.map (rowV m2)], row.length ≤ 5000) := Lib.hid (fun row hm => by
    simp only [List.mem_cons, List.not_mem_nil, or_false] at hm
    rcases hm with rfl | rfl <;> (rw [List.length_map]; have := HN.out; omega))
  have LA := Lib.hid LA0; have LW := Lib.hid LW0; have LR := Lib.hid LR0
  clear LA0 LW0 LR0 hC0 hvs hvl hnl hnx J1 J2 XR XW OLA OL2 K12 K22 Y62 Y82 XR2 BK1 BK2 BKA dx dy R1 R2 o1 o2 HGR S12 XR1L L1S L2S HNS li6 li8 sx sy HB
  go_wp2_with fail
  go_loopw [160] (fun iv W => ∃ s : Nat, s ≤ nl ∧ iv = .int .i64 (s : Int) ∧ ∃ ls' : List (List Int), Hid (LL 35 3 iV W C0 1 (.slice Al nl cl) vs ls') ∧ Hid (MkP (fun i x => x = mkI i) s ls' ∧ ∀ row ∈ ls', row.length ≤ 5000) ∧ Hid (Chg (fun b => C0 b = 1) wA W)) (fun iv _ => nl - (intOf iv).toNat)
  case atStart => exact ⟨0, Nat.zero_le _, rfl, _, LA, Lib.hid ⟨MkP.zero, BD1.out⟩, Lib.hid (Chg.refl _ _)⟩
  case round =>
    obtain ⟨s, hs, rfl, ls', HL, HM, HC⟩ := hrel
    by_cases hlt : s < nl
    · obtain ⟨-, -, gq, u, l, hA, hu, hl, hc1, -, hro, -, -⟩ := HL.out.at2 hlt
      obtain rfl := hA
      obtain ⟨AR, cr, rfl, -, -⟩ := row_form hro
      obtain ⟨r, hr⟩ : ∃ r, r = l.length := ⟨_, rfl⟩
      rw [← hr] at hc1 hu
      have hrb : r ≤ 5000 := by rw [hr]; exact HM.out.2 l (List.mem_of_getElem? hl)
      have HU := Lib.hid hu
      have HRK : Hid (RowK (fun i x => x = mkI i) s 0 r ls') := Lib.hid (RowK.zero hl hr.symm)
      have hs0 : (0 : Int) ≤ (s : Int) := Int.natCast_nonneg s
      have hsn : (s : Int) < ((nl : Nat) : Int) := Int.ofNat_lt.2 hlt
      obtain ⟨w5, hw5⟩ : ∃ w5, w5 = wr := ⟨_, rfl⟩
      rw [← hw5] at HL HC hc1 ⊢
      clear hu hl hro hr hw5
      go_wp2_with fail
      clear hc1
      go_loopw [168] (fun iv W => ∃ k : Nat, k ≤ r ∧ iv = .int .i64 (k : Int) ∧ ∃ ls2 : List (List Int), Hid (LL 35 3 iV W C0 1 (.slice (some ⟨gq, 0, none⟩) nl cl) vs ls2) ∧ Hid (MkP (fun i x => x = mkI i) s ls2 ∧ (∀ row ∈ ls2, row.length ≤ 5000) ∧ RowK (fun i x => x = mkI i) s k r ls2) ∧ Hid (Chg (fun b => C0 b = 1) wA W)) (fun iv _ => r - (intOf iv).toNat)
      case atStart => exact ⟨0, Nat.zero_le _, rfl, _, HL, Lib.hid ⟨HM.out.1, HM.out.2, HRK.out⟩, HC⟩
      case round =>
        obtain ⟨k, hk, rfl, ls2, HL2, HM2, HC2⟩ := hrel
        by_cases hlt2 : k < r
        · obtain ⟨row, hrow, hrl, -⟩ := HM2.out.2.2
          obtain ⟨-, -, gq2, u2, l2, hA2, hu2, hl2, hc2, -, -, -, -⟩ := HL2.out.at2 hlt
          obtain rfl : gq = gq2 := by injection hA2 with hA2; injection hA2
          rw [HU.out] at hu2
          obtain rfl := Option.some.inj hu2
          obtain ⟨AR', cr', hAR, -, hcel⟩ := row_form (HL2.out.row s _ row HU.out hrow)
          injection hAR with hAR1 hAR2 hAR3
          obtain ⟨gr, hgr, -, hcell, hfr⟩ := hcel (by omega)
          rw [hgr] at hAR1
          subst hAR1
          obtain ⟨x, hx⟩ : ∃ x, row[k]? = some x := ⟨_, List.getElem?_eq_getElem (by omega)⟩
          have y3 := hcell k x hx
          unfold iV at y3
          have y4 := hfr k
          obtain ⟨hput, hcol⟩ := HL2.out.put (by decide) (k := k) (mkI s) HU.out hrow
          have hmk : MkP (fun i x => x = mkI i) s (ls2.set s (row.set k (mkI s))) ∧ (∀ r ∈ ls2.set s (row.set k (mkI s)), r.length ≤ 5000) ∧ RowK (fun i x => x = mkI i) s (k + 1) r (ls2.set s (row.set k (mkI s))) := ⟨HM2.out.1.set, len_set HM2.out.2.1 hrow, HM2.out.2.2.set hrow hlt2 rfl⟩
          have hvx : iV (mkI s) = .int .i64 (-1000 - (s : Int)) := by unfold iV mkI; first | rfl | (rw [Int.natCast_add]; rfl)
          rw [hvx] at hput
          have HPN := Lib.hid hput; have HMN := Lib.hid hmk
          have HCN : Hid (Chg (fun b => C0 b = 1) wA (wr.setCell ⟨gr, k, none⟩ (.int .i64 (-1000 - (s : Int))))) := Lib.hid (HC2.out.setCell (.inl hcol) _)
          have hk0 : (0 : Int) ≤ (k : Int) := Int.natCast_nonneg k
          have hkr : (k : Int) < (r : Int) := Int.ofNat_lt.2 hlt2
          have hsb : s ≤ 10000 := by omega
          clear hrow hrl hl2 hcel hgr hcell hfr hx hput hcol hmk hvx hAR2 hAR3
          go_wp2_with fail
          go_roundw
          case rel =>
            first
              | exact ⟨k + 1, by omega, by go_num, _, HPN, HMN, HCN⟩
              | ((repeat apply Exists.intro); exact ⟨⟨k + 1, by omega, by go_num, _, HPN, HMN, HCN⟩, rfl⟩)
          case measure => simp [intOf]; omega
        · obtain rfl : k = r := by omega
          have HMN : Hid (MkP (fun i x => x = mkI i) (s + 1) ls2 ∧ ∀ row ∈ ls2, row.length ≤ 5000) := Lib.hid (by
            obtain ⟨h1, h2, row, h3, h4, h5⟩ := HM2.out
            exact ⟨h1.next h3 (fun q x hx => h5 q x (by rw [← h4]; exact (List.getElem?_eq_some_iff.1 hx).1) hx), h2⟩)
          clear HRK HM HL
          go_wp2_with fail
          go_roundw
          case rel =>
            first
              | exact ⟨s + 1, by omega, by go_num, _, HL2, HMN, HC2⟩
              | ((repeat apply Exists.intro); exact ⟨⟨s + 1, by omega, by go_num, _, HL2, HMN, HC2⟩, rfl⟩)
          case measure => simp [intOf]; omega
    · obtain rfl : nl = s := by omega
      obtain ⟨wB, hwn⟩ : ∃ wn, wn = wr := ⟨_, rfl⟩
      rw [← hwn] at HL HC ⊢
      clear hwn
      have HNW : Hid (N1 ≤ wB.heap.size) := Lib.hid (by have := HC.out.size; have := HLO.out; omega)
      have LAB := HL
      obtain ⟨lsA, hlsA⟩ : ∃ lsA, lsA = ls' := ⟨_, rfl⟩
      subst hlsA
      have MA := HM
      have LWB := Lib.hid (LW.out.step HC.out (Sam.refl _ _) (fun b h e => by omega))
      have LRB := Lib.hid (LR.out.step HC.out (Sam.refl _ _) (fun b h e => by omega))
      have HBB : Hid (Below w.heap.size w wB) := Lib.hid (HBA.out.trans (HC.out.below (fun b hb h => by have := HCL.out b (by omega); have := HLO.out; omega) HBA.out.size))
      clear HL HM HC LA LW LR BD1 HBA
      go_wp2_with fail
      go_loopw [183] (fun iv W => ∃ s : Nat, s ≤ 4 ∧ iv = .int .i64 (s : Int) ∧ ∃ ls' : List (List Nat), Hid (LL 24 34 uV W C0 2 (.slice (some ⟨gW, 0, none⟩) 4 4) [.slice Af1 f cf1, .slice Ae1 g ce1, .slice Af2 f cf2, .slice Ae2 g ce2] ls') ∧ Hid (MkP (fun i x => x = mkU i) s ls' ∧ ∀ row ∈ ls', row.length ≤ 5000) ∧ Hid (Chg (fun b => C0 b = 2) wB W)) (fun iv _ => 4 - (intOf iv).toNat)
      case atStart => exact ⟨0, Nat.zero_le _, rfl, _, LWB, Lib.hid ⟨MkP.zero, BD2.out⟩, Lib.hid (Chg.refl _ _)⟩
      case round =>
        obtain ⟨s, hs, rfl, ls', HL, HM, HC⟩ := hrel
        by_cases hlt : s < 4
        · obtain ⟨-, -, gq, u, l, hA, hu, hl, hc1, -, hro, -, -⟩ := HL.out.at2 hlt
          obtain rfl : gW = gq := by injection hA with hA; injection hA
          obtain ⟨AR, cr, rfl, -, -⟩ := row_form hro
          obtain ⟨r, hr⟩ : ∃ r, r = l.length := ⟨_, rfl⟩
          rw [← hr] at hc1 hu
          have hrb : r ≤ 5000 := by rw [hr]; exact HM.out.2 l (List.mem_of_getElem? hl)
          have HU := Lib.hid hu
          have HRK : Hid (RowK (fun i x => x = mkU i) s 0 r ls') := Lib.hid (RowK.zero hl hr.symm)
          have hs0 : (0 : Int) ≤ (s : Int) := Int.natCast_nonneg s
          have hsn : (s : Int) < ((4 : Nat) : Int) := Int.ofNat_lt.2 hlt
          obtain ⟨w5, hw5⟩ : ∃ w5, w5 = wr := ⟨_, rfl⟩
          rw [← hw5] at HL HC hc1 ⊢
          clear hu hl hro hr hw5
          go_wp2_with fail
          clear hc1
          go_loopw [191] (fun iv W => ∃ k : Nat, k ≤ r ∧ iv = .int .i64 (k : Int) ∧ ∃ ls2 : List (List Nat), Hid (LL 24 34 uV W C0 2 (.slice (some ⟨gW, 0, none⟩) 4 4) [.slice Af1 f cf1, .slice Ae1 g ce1, .slice Af2 f cf2, .slice Ae2 g ce2] ls2) ∧ Hid (MkP (fun i x => x = mkU i) s ls2 ∧ (∀ row ∈ ls2, row.length ≤ 5000) ∧ RowK (fun i x => x = mkU i) s k r ls2) ∧ Hid (Chg (fun b => C0 b = 2) wB W)) (fun iv _ => r - (intOf iv).toNat)
          case atStart => exact ⟨0, Nat.zero_le _, rfl, _, HL, Lib.hid ⟨HM.out.1, HM.out.2, HRK.out⟩, HC⟩
          case round =>
            obtain ⟨k, hk, rfl, ls2, HL2, HM2, HC2⟩ := hrel
            by_cases hlt2 : k < r
            · obtain ⟨row, hrow, hrl, -⟩ := HM2.out.2.2
              obtain ⟨-, -, gq2, u2, l2, hA2, hu2, hl2, hc2, -, -, -, -⟩ := HL2.out.at2 hlt
              obtain rfl : gW = gq2 := by injection hA2 with hA2; injection hA2
              rw [HU.out] at hu2
              obtain rfl := Option.some.inj hu2
              obtain ⟨AR', cr', hAR, -, hcel⟩ := row_form (HL2.out.row s _ row HU.out hrow)
              injection hAR with hAR1 hAR2 hAR3
              obtain ⟨gr, hgr, -, hcell, hfr⟩ := hcel (by omega)
              rw [hgr] at hAR1
              subst hAR1
              obtain ⟨x, hx⟩ : ∃ x, row[k]? = some x := ⟨_, List.getElem?_eq_getElem (by omega)⟩
              have y3 := hcell k x hx
              unfold uV at y3
              have y4 := hfr k
              obtain ⟨hput, hcol⟩ := HL2.out.put (by decide) (k := k) (mkU s) HU.out hrow
              have hmk : MkP (fun i x => x = mkU i) s (ls2.set s (row.set k (mkU s))) ∧ (∀ r ∈ ls2.set s (row.set k (mkU s)), r.length ≤ 5000) ∧ RowK (fun i x => x = mkU i) s (k + 1) r (ls2.set s (row.set k (mkU s))) := ⟨HM2.out.1.set, len_set HM2.out.2.1 hrow, HM2.out.2.2.set hrow hlt2 rfl⟩
              have hvx : uV (mkU s) = .int .u32 (1000 + (s : Int)) := by unfold uV mkU; first | rfl | (rw [Int.natCast_add]; rfl)
              rw [hvx] at hput
              have HPN := Lib.hid hput; have HMN := Lib.hid hmk
              have HCN : Hid (Chg (fun b => C0 b = 2) wB (wr.setCell ⟨gr, k, none⟩ (.int .u32 (1000 + (s : Int))))) := Lib.hid (HC2.out.setCell (.inl hcol) _)
              have hk0 : (0 : Int) ≤ (k : Int) := Int.natCast_nonneg k
              have hkr : (k : Int) < (r : Int) := Int.ofNat_lt.2 hlt2
              have hsb : s ≤ 10000 := by omega
              clear hrow hrl hl2 hcel hgr hcell hfr hx hput hcol hmk hvx hAR2 hAR3
              go_wp2_with fail
              go_roundw
              case rel =>
                first
                  | exact ⟨k + 1, by omega, by go_num, _, HPN, HMN, HCN⟩
                  | ((repeat apply Exists.intro); exact ⟨⟨k + 1, by omega, by go_num, _, HPN, HMN, HCN⟩, rfl⟩)
              case measure => simp [intOf]; omega
            · obtain rfl : k = r := by omega
              have HMN : Hid (MkP (fun i x => x = mkU i) (s + 1) ls2 ∧ ∀ row ∈ ls2, row.length ≤ 5000) := Lib.hid (by
                obtain ⟨h1, h2, row, h3, h4, h5⟩ := HM2.out
                exact ⟨h1.next h3 (fun q x hx => h5 q x (by rw [← h4]; exact (List.getElem?_eq_some_iff.1 hx).1) hx), h2⟩)
              clear HRK HM HL
              go_wp2_with fail
              go_roundw
              case rel =>
                first
                  | exact ⟨s + 1, by omega, by go_num, _, HL2, HMN, HC2⟩
                  | ((repeat apply Exists.intro); exact ⟨⟨s + 1, by omega, by go_num, _, HL2, HMN, HC2⟩, rfl⟩)
              case measure => simp [intOf]; omega
        · obtain rfl : 4 = s := by omega
          obtain ⟨wC, hwn⟩ : ∃ wn, wn = wr := ⟨_, rfl⟩
          rw [← hwn] at HL HC ⊢
          clear hwn
          have HNW2 : Hid (N1 ≤ wC.heap.size) := Lib.hid (by have := HC.out.size; have := HNW.out; omega)
          obtain ⟨lsW, hlsW⟩ : ∃ lsW, lsW = ls' := ⟨_, rfl⟩
          subst hlsW
          have LWC := HL
          have MW := HM
          have LAC := Lib.hid (LAB.out.step HC.out (Sam.refl _ _) (fun b h e => by omega))
          have LRC := Lib.hid (LRB.out.step HC.out (Sam.refl _ _) (fun b h e => by omega))
          have HBC : Hid (Below w.heap.size w wC) := Lib.hid (HBB.out.trans (HC.out.below (fun b hb h => by have := HCL.out b (by omega); have := HLO.out; omega) HBB.out.size))
          clear HL HM HC LAB LWB LRB BD2 HBB HNW
          have HNW := HNW2
          clear HNW2
          have OW := Lib.hid (own_any C0 1 2 _ _ _ _ _ _ wC LAC.out LWC.out (by have := MA.out.1; rw [← LAC.out.len, HVL.out]; exact this) (by have := MW.out.1; rw [← LWC.out.len]; exact this) ⟨by rw [HVL.out]; omega, by show 4 ≤ 100000; omega⟩ (fun l hl => by have := MA.out.2 l hl; omega) (fun l hl => by have := MW.out.2 l hl; omega))
          go_wp2_with fail
          refine OW.out.mono ?_
          rintro e w' ⟨rfl, rfl⟩
          clear OW
          go_wp2_with fail
          go_loopw [211] (fun iv W => ∃ s : Nat, s ≤ nl ∧ iv = .int .i64 (s : Int) ∧ ∃ C' vs' ls', Hid (LL 35 3 iV W C' 1 (.slice Al nl cl) vs' ls') ∧ Hid (vs'.length = nl ∧ MkP (fun i x => x = mkI i) nl ls' ∧ BdF 5000 s 0 ls') ∧ Hid (Chg (fun b => C0 b = 1) wC W ∧ Sam wC.heap.size C0 C' ∧ ∀ b, C' b ≠ 0 → N1 ≤ b)) (fun iv _ => nl - (intOf iv).toNat)
          case atStart => exact ⟨0, Nat.zero_le _, rfl, C0, _, _, LAC, Lib.hid ⟨HVL.out, MA.out.1, BdF.start MA.out.2⟩, Lib.hid ⟨Chg.refl _ _, Sam.refl _ _, HCL.out⟩⟩
          case round =>
            obtain ⟨s, hs, rfl, C', vs', ls', HL, HM, HC⟩ := hrel
            by_cases hlt : s < nl
            · have hsnI : (s : Int) < (nl : Int) := by omega
              go_wp2_with fail
              go_loopw [214] (fun iv W => ∃ j : Nat, j ≤ 3 ∧ iv = .int .i64 (j : Int) ∧ ∃ C' vs' ls', Hid (LL 35 3 iV W C' 1 (.slice Al nl cl) vs' ls') ∧ Hid (vs'.length = nl ∧ MkP (fun i x => x = mkI i) nl ls' ∧ BdF 5000 s j ls') ∧ Hid (Chg (fun b => C0 b = 1) wC W ∧ Sam wC.heap.size C0 C' ∧ ∀ b, C' b ≠ 0 → N1 ≤ b)) (fun iv _ => 3 - (intOf iv).toNat)
              case atStart => exact ⟨0, by omega, rfl, C', vs', ls', HL, HM, HC⟩
              clear HL HM HC C' vs' ls'
              case round =>
                obtain ⟨j, hj, rfl, C', vs', ls', HL, HM, HC⟩ := hrel
                by_cases hlt2 : j < 3
                · obtain ⟨-, -, gq, u, row, hA, hu, hl, hc1, hf1, hro, hcg, -⟩ := HL.out.at2 hlt
                  obtain rfl := hA
                  obtain ⟨AR, cr, rfl, -, -⟩ := row_form hro
                  obtain ⟨r, hr⟩ : ∃ r, r = row.length := ⟨_, rfl⟩
                  rw [← hr] at hc1 hu hro
                  have hrb : r ≤ 5003 := by rw [hr]; have := HM.out.2.2.le hl; omega
                  have HU := Lib.hid hu
                  have HLR := Lib.hid (And.intro hl hr)
                  have HLA : Hid (LL 35 3 iV (wr.alloc (.cells #[.int .i64 (-1000 - (s : Int))] 3)) C' 1 (.slice (some ⟨gq, 0, none⟩) nl cl) vs' ls') := Lib.hid (HL.out.keep (below_alloc _ _))
                  have OWN : Hid ((wr.alloc (.cells #[.int .i64 (-1000 - (s : Int))] 3)).ownsRow 0 3 1 (.slice AR r cr) (row.map iV).length (row.map iV)) := Lib.hid (own_keep hro (below_alloc _ _))
                  have CA : Hid ((wr.alloc (.cells #[.int .i64 (-1000 - (s : Int))] 3)).cell? ⟨wr.heap.size, 0, none⟩ = some (.int .i64 (-1000 - (s : Int)))) := Lib.hid ((Blk.new wr 3 _ rfl).cell 0)
                  have HLEN : Hid ((row.map iV).length = r) := Lib.hid (by rw [List.length_map, hr])
                  have hs0 : (0 : Int) ≤ (s : Int) := Int.natCast_nonneg s
                  have hsn : (s : Int) < ((nl : Nat) : Int) := Int.ofNat_lt.2 hlt
                  have hsb : s ≤ 10000 := by omega
                  have HCG : Hid (gq < wC.heap.size → C0 gq = 1) := Lib.hid (fun h => by rw [← HC.out.2.1 _ h]; exact hcg)
                  have HCU : Hid (∀ k, (Value.slice AR r cr).ownBlock = some k → k < wC.heap.size → C0 k = 1) := Lib.hid (fun k hk h => by rw [← HC.out.2.1 _ h]; exact HL.out.mem s _ k hu hk)
                  have HSW : Hid (N1 ≤ (wr.alloc (.cells #[.int .i64 (-1000 - (s : Int))] 3)).heap.size) := Lib.hid (by have := HC.out.1.size; have := HNW.out; simp; omega)
                  clear hu hl hro hr
                  go_wp2_with ((at_builtin; go_must (refine append_cell rfl (.tmp 221) (.tmp 224) 35 3 rfl Tryd.underlying35 infoInt rfl 0 (.slice AR r cr) (row.map iV) rfl OWN.out wr.heap.size 1 (.int .i64 (-1000 - (s : Int))) rfl CA.out rfl (by rw [HLEN.out]; omega) (by rw [HLEN.out]; unfold maxLen; omega) (Nat.zero_le _) ?_); intro v9 w9 ho9 hg9 ha9; refine halt ?_))
                  refine unhalt ?_
                  obtain ⟨A9, c9, hv9, -⟩ := own_form ho9
                  obtain ⟨n9, hn9⟩ : ∃ n9, n9 = (row.map iV ++ [Value.int .i64 (-1000 - (s : Int))]).length := ⟨_, rfl⟩
                  rw [← hn9] at hv9
                  subst hv9
                  have hvx : iV (mkI s) = .int .i64 (-1000 - (s : Int)) := by unfold iV mkI; first | rfl | (rw [Int.natCast_add]; rfl)
                  have ho9' : w9.ownsRow 0 3 1 (.slice A9 n9 c9) ((row ++ [mkI s]).map iV).length ((row ++ [mkI s]).map iV) := by
                    rw [List.map_append, List.map_cons, List.map_nil, hvx]; exact ho9
                  obtain ⟨z1, z2⟩ := HLA.out.after (by decide) HU.out hg9
                  have HPN := Lib.hid (HLA.out.grow (by decide) rfl HU.out HLR.out.1 hg9 ho9' ha9)
                  have HMN : Hid ((vs'.set s (.slice A9 n9 c9)).length = nl ∧ MkP (fun i x => x = mkI i) nl (ls'.set s (row ++ [mkI s])) ∧ BdF 5000 s (j + 1) (ls'.set s (row ++ [mkI s]))) := Lib.hid ⟨by rw [List.length_set]; exact HM.out.1, HM.out.2.1.app HLR.out.1 hlt rfl, HM.out.2.2.one HLR.out.1⟩
                  have HCN : Hid (Chg (fun b => C0 b = 1) wC (w9.setCell ⟨gq, s, none⟩ (.slice A9 n9 c9)) ∧ Sam wC.heap.size C0 (paint C' (wr.alloc (.cells #[.int .i64 (-1000 - (s : Int))] 3)).heap.size 1) ∧ ∀ b, paint C' (wr.alloc (.cells #[.int .i64 (-1000 - (s : Int))] 3)).heap.size 1 b ≠ 0 → N1 ≤ b) := Lib.hid ⟨by
                    have h1 := (HC.out.1.alloc (.cells #[.int .i64 (-1000 - (s : Int))] 3)).grown hg9 (fun k hk hlt => HCU.out k hk hlt)
                    by_cases hg0 : gq < wC.heap.size
                    · exact h1.setCell (.inl (HCG.out hg0)) _
                    · exact h1.setCell (.inr (Nat.le_of_not_lt hg0)) _, HC.out.2.1.trans (sam_paint C' _ _) (by have := HC.out.1.size; simp; omega), paint_low HC.out.2.2 HSW.out⟩
                  clear ho9 ho9' hg9 ha9 hn9 hvx HLA OWN CA HLEN hc1 hf1 HCG HCU HSW hcg
                  go_wp2_with fail
                  go_roundw
                  case rel =>
                    first
                      | exact ⟨j + 1, by omega, by go_num, _, _, _, HPN, HMN, HCN⟩
                      | ((repeat apply Exists.intro); exact ⟨⟨j + 1, by omega, by go_num, _, _, _, HPN, HMN, HCN⟩, rfl⟩)
                  case measure => simp [intOf]; omega
                · obtain rfl : 3 = j := by omega
                  have HMN : Hid (vs'.length = nl ∧ MkP (fun i x => x = mkI i) nl ls' ∧ BdF 5000 (s + 1) 0 ls') := Lib.hid ⟨HM.out.1, HM.out.2.1, HM.out.2.2.next⟩
                  go_wp2_with fail
                  go_roundw
                  case rel =>
                    first
                      | exact ⟨s + 1, by omega, by go_num, C', vs', ls', HL, HMN, HC⟩
                      | ((repeat apply Exists.intro); exact ⟨⟨s + 1, by omega, by go_num, C', vs', ls', HL, HMN, HC⟩, rfl⟩)
                  case measure => simp [intOf]; omega
            · obtain rfl : nl = s := by omega
              obtain ⟨wD, hwn⟩ : ∃ wn, wn = wr := ⟨_, rfl⟩
              rw [← hwn] at HL HC ⊢
              clear hwn
              obtain ⟨C1, hC1⟩ : ∃ C1, C1 = C' := ⟨_, rfl⟩
              subst hC1
              obtain ⟨vsA, hvsA⟩ : ∃ v, v = vs' := ⟨_, rfl⟩
              subst hvsA
              obtain ⟨lsA1, hlsA1⟩ : ∃ v, v = ls' := ⟨_, rfl⟩
              subst hlsA1
              have LA1 := HL; have MA1 := HM
              have LWD := Lib.hid (LWC.out.step HC.out.1 HC.out.2.1 (fun b h e => by omega))
              have LRD := Lib.hid (LRC.out.step HC.out.1 HC.out.2.1 (fun b h e => by omega))
              have HCL1 : Hid (∀ b, C1 b ≠ 0 → N1 ≤ b) := Lib.hid HC.out.2.2
              have HBD : Hid (Below w.heap.size w wD) := Lib.hid (HBC.out.trans (HC.out.1.below (fun b hb h => by have := HCL.out b (by omega); have := HLO.out; omega) HBC.out.size))
              have HNW2 : Hid (N1 ≤ wD.heap.size) := Lib.hid (by have := HC.out.1.size; have := HNW.out; omega)
              clear HL HM HC LAC LWC LRC HBC HNW HCL MA
              have HNW := HNW2
              clear HNW2
              go_wp2_with fail
              go_loopw [231] (fun iv W => ∃ s : Nat, s ≤ 4 ∧ iv = .int .i64 (s : Int) ∧ ∃ C' vs' ls', Hid (LL 24 34 uV W C' 2 (.slice (some ⟨gW, 0, none⟩) 4 4) vs' ls') ∧ Hid (vs'.length = 4 ∧ MkP (fun i x => x = mkU i) 4 ls' ∧ BdF 5000 s 0 ls') ∧ Hid (Chg (fun b => C1 b = 2) wD W ∧ Sam wD.heap.size C1 C' ∧ ∀ b, C' b ≠ 0 → N1 ≤ b)) (fun iv _ => 4 - (intOf iv).toNat)
              case atStart => exact ⟨0, Nat.zero_le _, rfl, C1, _, _, LWD, Lib.hid ⟨rfl, MW.out.1, BdF.start MW.out.2⟩, Lib.hid ⟨Chg.refl _ _, Sam.refl _ _, HCL1.out⟩⟩
              case round =>
                obtain ⟨s, hs, rfl, C', vs', ls', HL, HM, HC⟩ := hrel
                by_cases hlt : s < 4
                · have hsnI : (s : Int) < 4 := by omega
                  go_wp2_with fail
                  go_loopw [234] (fun iv W => ∃ j : Nat, j ≤ 3 ∧ iv = .int .i64 (j : Int) ∧ ∃ C' vs' ls', Hid (LL 24 34 uV W C' 2 (.slice (some ⟨gW, 0, none⟩) 4 4) vs' ls') ∧ Hid (vs'.length = 4 ∧ MkP (fun i x => x = mkU i) 4 ls' ∧ BdF 5000 s j ls') ∧ Hid (Chg (fun b => C1 b = 2) wD W ∧ Sam wD.heap.size C1 C' ∧ ∀ b, C' b ≠ 0 → N1 ≤ b)) (fun iv _ => 3 - (intOf iv).toNat)
                  case atStart => exact ⟨0, by omega, rfl, C', vs', ls', HL, HM, HC⟩
                  clear HL HM HC C' vs' ls'
                  case round =>
                    obtain ⟨j, hj, rfl, C', vs', ls', HL, HM, HC⟩ := hrel
                    by_cases hlt2 : j < 3
                    · obtain ⟨-, -, gq, u, row, hA, hu, hl, hc1, hf1, hro, hcg, -⟩ := HL.out.at2 hlt
                      obtain rfl : gW = gq := by injection hA with hA; injection hA
                      obtain ⟨AR, cr, rfl, -, -⟩ := row_form hro
                      obtain ⟨r, hr⟩ : ∃ r, r = row.length := ⟨_, rfl⟩
                      rw [← hr] at hc1 hu hro
                      have hrb : r ≤ 5003 := by rw [hr]; have := HM.out.2.2.le hl; omega
                      have HU := Lib.hid hu
                      have HLR := Lib.hid (And.intro hl hr)
                      have HLA : Hid (LL 24 34 uV (wr.alloc (.cells #[.int .u32 (1000 + (s : Int))] 34)) C' 2 (.slice (some ⟨gW, 0, none⟩) 4 4) vs' ls') := Lib.hid (HL.out.keep (below_alloc _ _))
                      have OWN : Hid ((wr.alloc (.cells #[.int .u32 (1000 + (s : Int))] 34)).ownsRow 0 34 1 (.slice AR r cr) (row.map uV).length (row.map uV)) := Lib.hid (own_keep hro (below_alloc _ _))
                      have CA : Hid ((wr.alloc (.cells #[.int .u32 (1000 + (s : Int))] 34)).cell? ⟨wr.heap.size, 0, none⟩ = some (.int .u32 (1000 + (s : Int)))) := Lib.hid ((Blk.new wr 34 _ rfl).cell 0)
                      have HLEN : Hid ((row.map uV).length = r) := Lib.hid (by rw [List.length_map, hr])
                      have hs0 : (0 : Int) ≤ (s : Int) := Int.natCast_nonneg s
                      have hsn : (s : Int) < ((4 : Nat) : Int) := Int.ofNat_lt.2 hlt
                      have hsb : s ≤ 10000 := by omega
                      have HCG : Hid (gW < wD.heap.size → C1 gW = 2) := Lib.hid (fun h => by rw [← HC.out.2.1 _ h]; exact hcg)
                      have HCU : Hid (∀ k, (Value.slice AR r cr).ownBlock = some k → k < wD.heap.size → C1 k = 2) := Lib.hid (fun k hk h => by rw [← HC.out.2.1 _ h]; exact HL.out.mem s _ k hu hk)
                      have HSW : Hid (N1 ≤ (wr.alloc (.cells #[.int .u32 (1000 + (s : Int))] 34)).heap.size) := Lib.hid (by have := HC.out.1.size; have := HNW.out; simp; omega)
                      clear hu hl hro hr
                      go_wp2_with ((at_builtin; go_must (refine append_cell rfl (.tmp 241) (.tmp 245) 24 34 rfl Tryd.underlying24 infoU rfl 0 (.slice AR r cr) (row.map uV) rfl OWN.out wr.heap.size 1 (.int .u32 (1000 + (s : Int))) rfl CA.out rfl (by rw [HLEN.out]; omega) (by rw [HLEN.out]; unfold maxLen; omega) (Nat.zero_le _) ?_); intro v9 w9 ho9 hg9 ha9; refine halt ?_))
                      refine unhalt ?_
                      obtain ⟨A9, c9, hv9, -⟩ := own_form ho9
                      obtain ⟨n9, hn9⟩ : ∃ n9, n9 = (row.map uV ++ [Value.int .u32 (1000 + (s : Int))]).length := ⟨_, rfl⟩
                      rw [← hn9] at hv9
                      subst hv9
                      have hvx : uV (mkU s) = .int .u32 (1000 + (s : Int)) := by unfold uV mkU; first | rfl | (rw [Int.natCast_add]; rfl)
                      have ho9' : w9.ownsRow 0 34 1 (.slice A9 n9 c9) ((row ++ [mkU s]).map uV).length ((row ++ [mkU s]).map uV) := by
                        rw [List.map_append, List.map_cons, List.map_nil, hvx]; exact ho9
                      obtain ⟨z1, z2⟩ := HLA.out.after (by decide) HU.out hg9
                      have HPN := Lib.hid (HLA.out.grow (by decide) rfl HU.out HLR.out.1 hg9 ho9' ha9)
                      have HMN : Hid ((vs'.set s (.slice A9 n9 c9)).length = 4 ∧ MkP (fun i x => x = mkU i) 4 (ls'.set s (row ++ [mkU s])) ∧ BdF 5000 s (j + 1) (ls'.set s (row ++ [mkU s]))) := Lib.hid ⟨by rw [List.length_set]; exact HM.out.1, HM.out.2.1.app HLR.out.1 hlt rfl, HM.out.2.2.one HLR.out.1⟩
                      have HCN : Hid (Chg (fun b => C1 b = 2) wD (w9.setCell ⟨gW, s, none⟩ (.slice A9 n9 c9)) ∧ Sam wD.heap.size C1 (paint C' (wr.alloc (.cells #[.int .u32 (1000 + (s : Int))] 34)).heap.size 2) ∧ ∀ b, paint C' (wr.alloc (.cells #[.int .u32 (1000 + (s : Int))] 34)).heap.size 2 b ≠ 0 → N1 ≤ b) := Lib.hid ⟨by
                        have h1 := (HC.out.1.alloc (.cells #[.int .u32 (1000 + (s : Int))] 34)).grown hg9 (fun k hk hlt => HCU.out k hk hlt)
                        by_cases hg0 : gW < wD.heap.size
                        · exact h1.setCell (.inl (HCG.out hg0)) _
                        · exact h1.setCell (.inr (Nat.le_of_not_lt hg0)) _, HC.out.2.1.trans (sam_paint C' _ _) (by have := HC.out.1.size; simp; omega), paint_low HC.out.2.2 HSW.out⟩
                      clear ho9 ho9' hg9 ha9 hn9 hvx HLA OWN CA HLEN hc1 hf1 HCG HCU HSW hcg
                      go_wp2_with fail
                      go_roundw
                      case rel =>
                        first
                          | exact ⟨j + 1, by omega, by go_num, _, _, _, HPN, HMN, HCN⟩
                          | ((repeat apply Exists.intro); exact ⟨⟨j + 1, by omega, by go_num, _, _, _, HPN, HMN, HCN⟩, rfl⟩)
                      case measure => simp [intOf]; omega
                    · obtain rfl : 3 = j := by omega
                      have HMN : Hid (vs'.length = 4 ∧ MkP (fun i x => x = mkU i) 4 ls' ∧ BdF 5000 (s + 1) 0 ls') := Lib.hid ⟨HM.out.1, HM.out.2.1, HM.out.2.2.next⟩
                      go_wp2_with fail
                      go_roundw
                      case rel =>
                        first
                          | exact ⟨s + 1, by omega, by go_num, C', vs', ls', HL, HMN, HC⟩
                          | ((repeat apply Exists.intro); exact ⟨⟨s + 1, by omega, by go_num, C', vs', ls', HL, HMN, HC⟩, rfl⟩)
                      case measure => simp [intOf]; omega
                · obtain rfl : 4 = s := by omega
                  obtain ⟨wE, hwn⟩ : ∃ wn, wn = wr := ⟨_, rfl⟩
                  rw [← hwn] at HL HC ⊢
                  clear hwn
                  obtain ⟨C2, hC2⟩ : ∃ C1, C1 = C' := ⟨_, rfl⟩
                  subst hC2
                  have LWE := HL; have MW1 := HM
                  have LAE := Lib.hid (LA1.out.step HC.out.1 HC.out.2.1 (fun b h e => by omega))
                  have LRE := Lib.hid (LRD.out.step HC.out.1 HC.out.2.1 (fun b h e => by omega))
                  have HCL2 : Hid (∀ b, C2 b ≠ 0 → N1 ≤ b) := Lib.hid HC.out.2.2
                  have HBE : Hid (Below w.heap.size w wE) := Lib.hid (HBD.out.trans (HC.out.1.below (fun b hb h => by have := HCL1.out b (by omega); have := HLO.out; omega) HBD.out.size))
                  have HNW2 : Hid (N1 ≤ wE.heap.size) := Lib.hid (by have := HC.out.1.size; have := HNW.out; omega)
                  have OW := Lib.hid (own_any C2 1 2 _ _ _ _ _ _ wE LAE.out LWE.out (by have := MA1.out.2.1; rw [← LAE.out.len, MA1.out.1]; exact this) (by have := MW1.out.2.1; rw [← LWE.out.len, MW1.out.1]; exact this) ⟨by rw [MA1.out.1]; omega, by rw [MW1.out.1]; omega⟩ (fun l hl => by have := MA1.out.2.2.all l hl; omega) (fun l hl => by have := MW1.out.2.2.all l hl; omega))
                  clear HL HM HC LA1 LWD LRD HBD HNW HCL1 MA1 LAE
                  have HNW := HNW2
                  clear HNW2
                  go_wp2_with fail
                  refine OW.out.mono ?_
                  rintro e w' ⟨rfl, rfl⟩
                  clear OW LWE MW1
                  go_wp2_with fail
                  go_loopw [256] (fun iv W => ∃ s : Nat, s ≤ 2 ∧ iv = .int .i64 (s : Int) ∧ ∃ C' rl, Hid (LL 23 35 (id : Value → Value) W C' 3 (.slice (some ⟨gR, 0, none⟩) 2 2) [.slice An1 n cn1, .slice An2 n cn2] rl) ∧ Hid (MkP (oneI W C') s rl ∧ (∀ row ∈ rl, row.length ≤ 5000)) ∧ Hid (Chg (fun b => C2 b = 3) wE W ∧ Sam wE.heap.size C2 C' ∧ ∀ b, C' b ≠ 0 → N1 ≤ b)) (fun iv _ => 2 - (intOf iv).toNat)
                  case atStart => exact ⟨0, by omega, rfl, C2, _, LRE, Lib.hid ⟨MkP.zero, BD3.out⟩, Lib.hid ⟨Chg.refl _ _, Sam.refl _ _, HCL2.out⟩⟩
                  case round =>
                    obtain ⟨s, hs, rfl, C', rl, HL, HM, HC⟩ := hrel
                    by_cases hlt : s < 2
                    · obtain ⟨-, -, gq, u, l, hA, hu, hl, hc1, -, hro, -, -⟩ := HL.out.at2 hlt
                      obtain rfl : gR = gq := by injection hA with hA; injection hA
                      obtain ⟨AR, cr, rfl, -, -⟩ := row_form hro
                      obtain ⟨r, hr⟩ : ∃ r, r = l.length := ⟨_, rfl⟩
                      rw [← hr] at hc1 hu
                      have hrb : r ≤ 5000 := by rw [hr]; exact HM.out.2 l (List.mem_of_getElem? hl)
                      have HU := Lib.hid hu
                      have HRK : Hid (RowK (oneI wr C') s 0 r rl) := Lib.hid (RowK.zero hl hr.symm)
                      have hs0 : (0 : Int) ≤ (s : Int) := Int.natCast_nonneg s
                      have hsn : (s : Int) < 2 := by omega
                      obtain ⟨w5, hw5⟩ : ∃ w5, w5 = wr := ⟨_, rfl⟩
                      rw [← hw5] at HL HM HC HRK hc1 ⊢
                      clear hu hl hro hr hw5
                      go_wp2_with fail
                      clear hc1
                      go_loopw [264] (fun iv W => ∃ k : Nat, k ≤ r ∧ iv = .int .i64 (k : Int) ∧ ∃ C' rl, Hid (LL 23 35 (id : Value → Value) W C' 3 (.slice (some ⟨gR, 0, none⟩) 2 2) [.slice An1 n cn1, .slice An2 n cn2] rl) ∧ Hid (MkP (oneI W C') s rl ∧ (∀ row ∈ rl, row.length ≤ 5000)  ∧ RowK (oneI W C') s k r rl) ∧ Hid (Chg (fun b => C2 b = 3) wE W ∧ Sam wE.heap.size C2 C' ∧ ∀ b, C' b ≠ 0 → N1 ≤ b)) (fun iv _ => r - (intOf iv).toNat)
                      case atStart => exact ⟨0, Nat.zero_le _, rfl, C', rl, HL, Lib.hid ⟨HM.out.1, HM.out.2, HRK.out⟩, HC⟩
                      clear HL HM HC HRK C' rl
                      case round =>
                        obtain ⟨k, hk, rfl, C', rl, HL, HM, HC⟩ := hrel
                        by_cases hlt2 : k < r
                        · have hbl := below_alloc wr (.cells #[.int .i64 (s : Int)] 3)
                          have hch : Chg (fun _ => False) wr (wr.alloc (.cells #[.int .i64 (s : Int)] 3)) := Chg.of_below hbl _
                          have hll : LL 23 35 (id : Value → Value) (wr.alloc (.cells #[.int .i64 (s : Int)] 3)) (paint C' wr.heap.size 4) 3 (.slice (some ⟨gR, 0, none⟩) 2 2) [.slice An1 n cn1, .slice An2 n cn2] rl := HL.out.step hch (sam_paint _ _ _) (fun _ e => e.elim)
                          have hon : ∀ i x, oneI wr C' i x → oneI (wr.alloc (.cells #[.int .i64 (s : Int)] 3)) (paint C' wr.heap.size 4) i x := fun i x h => h.step hch (sam_paint _ _ _) (fun _ e => e.elim)
                          have hnew : oneI (wr.alloc (.cells #[.int .i64 (s : Int)] 3)) (paint C' wr.heap.size 4) s (.slice (some ⟨wr.heap.size, 0, none⟩) 1 1) := ⟨wr.heap.size, rfl, paint_new _ _ (Nat.le_refl _), by simp, (Blk.new wr 3 _ rfl).cell 0⟩
                          obtain ⟨row, hrow, hrl, -⟩ := HM.out.2.2
                          obtain ⟨-, -, gq2, u2, l2, hA2, hu2, hl2, hc2, -, -, -, -⟩ := HL.out.at2 hlt
                          obtain rfl : gR = gq2 := by injection hA2 with hA2; injection hA2
                          rw [HU.out] at hu2
                          obtain rfl := Option.some.inj hu2
                          obtain ⟨AR', cr', hAR, -, hcel⟩ := row_form (hll.row s _ row HU.out hrow)
                          injection hAR with hAR1 hAR2 hAR3
                          obtain ⟨gr, hgr, hgl, hcell, hfr⟩ := hcel (by omega)
                          rw [hgr] at hAR1
                          subst hAR1
                          obtain ⟨x, hx⟩ : ∃ x, row[k]? = some x := ⟨_, List.getElem?_eq_getElem (by omega)⟩
                          have y3 : (wr.alloc (.cells #[.int .i64 (s : Int)] 3)).cell? ⟨gr, k, none⟩ = some x := hcell k x hx
                          have y4 := hfr k
                          obtain ⟨hput, hcol⟩ := hll.put (by decide) (k := k) (.slice (some ⟨wr.heap.size, 0, none⟩) 1 1) HU.out hrow
                          have hstep : ∀ i x, oneI (wr.alloc (.cells #[.int .i64 (s : Int)] 3)) (paint C' wr.heap.size 4) i x → oneI ((wr.alloc (.cells #[.int .i64 (s : Int)] 3)).setCell ⟨gr, k, none⟩ (.slice (some ⟨wr.heap.size, 0, none⟩) 1 1)) (paint C' wr.heap.size 4) i x := fun i x h => h.step (S := fun b => b = gr) (Chg.setCell (S := fun b => b = gr) (p := ⟨gr, k, none⟩) (Chg.refl _ _) (.inl rfl) _) (Sam.refl _ _) (fun b e => by rw [e, hcol]; decide)
                          have hmk : MkP (oneI ((wr.alloc (.cells #[.int .i64 (s : Int)] 3)).setCell ⟨gr, k, none⟩ (.slice (some ⟨wr.heap.size, 0, none⟩) 1 1)) (paint C' wr.heap.size 4)) s (rl.set s (row.set k (.slice (some ⟨wr.heap.size, 0, none⟩) 1 1))) ∧ (∀ r ∈ rl.set s (row.set k (.slice (some ⟨wr.heap.size, 0, none⟩) 1 1)), r.length ≤ 5000) ∧ RowK (oneI ((wr.alloc (.cells #[.int .i64 (s : Int)] 3)).setCell ⟨gr, k, none⟩ (.slice (some ⟨wr.heap.size, 0, none⟩) 1 1)) (paint C' wr.heap.size 4)) s (k + 1) r (rl.set s (row.set k (.slice (some ⟨wr.heap.size, 0, none⟩) 1 1))) :=
                            ⟨(HM.out.1.mono (fun i x h => hstep i x (hon i x h))).set, len_set HM.out.2.1 hrow, (HM.out.2.2.mono (fun i x h => hstep i x (hon i x h))).set hrow hlt2 (hstep s _ hnew)⟩
                          have HPN := Lib.hid hput; have HMN := Lib.hid hmk
                          have HCN : Hid (Chg (fun b => C2 b = 3) wE ((wr.alloc (.cells #[.int .i64 (s : Int)] 3)).setCell ⟨gr, k, none⟩ (.slice (some ⟨wr.heap.size, 0, none⟩) 1 1)) ∧ Sam wE.heap.size C2 (paint C' wr.heap.size 4) ∧ ∀ b, paint C' wr.heap.size 4 b ≠ 0 → N1 ≤ b) := Lib.hid ⟨by
                            have h1 := HC.out.1.alloc (.cells #[.int .i64 (s : Int)] 3)
                            by_cases hg0 : gr < wE.heap.size
                            · refine h1.setCell (.inl ?_) _
                              show C2 gr = 3
                              rw [← HC.out.2.1 gr hg0, ← sam_paint C' wr.heap.size 4 gr (by have := HC.out.1.size; omega)]
                              exact hcol
                            · exact h1.setCell (.inr (Nat.le_of_not_lt hg0)) _, HC.out.2.1.trans (sam_paint C' _ _) HC.out.1.size, paint_low HC.out.2.2 (by have := HC.out.1.size; have := HNW.out; omega)⟩
                          have hk0 : (0 : Int) ≤ (k : Int) := Int.natCast_nonneg k
                          have hkr : (k : Int) < (r : Int) := Int.ofNat_lt.2 hlt2
                          clear hbl hch hll hon hnew hrow hrl hl2 hcel hgr hgl hcell hfr hx hput hcol hmk hstep hAR2 hAR3
                          go_wp2_with fail
                          go_roundw
                          case rel =>
                            first
                              | exact ⟨k + 1, by omega, by go_num, _, _, HPN, HMN, HCN⟩
                              | ((repeat apply Exists.intro); exact ⟨⟨k + 1, by omega, by go_num, _, _, HPN, HMN, HCN⟩, rfl⟩)
                          case measure => simp [intOf]; omega
                        · obtain rfl : r = k := by omega
                          have HMN : Hid (MkP (oneI wr C') (s + 1) rl ∧ ∀ row ∈ rl, row.length ≤ 5000) := Lib.hid (by
                            obtain ⟨h1, h2, row, h3, h4, h5⟩ := HM.out
                            exact ⟨h1.next h3 (fun q x hx => h5 q x (by rw [← h4]; exact (List.getElem?_eq_some_iff.1 hx).1) hx), h2⟩)
                          go_wp2_with fail
                          go_roundw
                          case rel =>
                            first
                              | exact ⟨s + 1, by omega, by go_num, C', rl, HL, HMN, HC⟩
                              | ((repeat apply Exists.intro); exact ⟨⟨s + 1, by omega, by go_num, C', rl, HL, HMN, HC⟩, rfl⟩)
                          case measure => simp [intOf]; omega
                    · obtain rfl : 2 = s := by omega
                      obtain ⟨wF, hwn⟩ : ∃ wn, wn = wr := ⟨_, rfl⟩
                      rw [← hwn] at HL HM HC ⊢
                      clear hwn
                      obtain ⟨C3, hC3⟩ : ∃ C1, C1 = C' := ⟨_, rfl⟩
                      subst hC3
                      have LRF := HL; have MF := HM
                      have HCL3 : Hid (∀ b, C3 b ≠ 0 → N1 ≤ b) := Lib.hid HC.out.2.2
                      have HBF : Hid (Below w.heap.size w wF) := Lib.hid (HBE.out.trans (HC.out.1.below (fun b hb h => by have := HCL2.out b (by omega); have := HLO.out; omega) HBE.out.size))
                      have HNW2 : Hid (N1 ≤ wF.heap.size) := Lib.hid (by have := HC.out.1.size; have := HNW.out; omega)
                      clear HL HM HC LRE HBE HNW HCL2
                      have HNW := HNW2
                      clear HNW2
                      go_wp2_with fail
                      go_loopw [279] (fun iv W => ∃ s : Nat, s ≤ 2 ∧ iv = .int .i64 (s : Int) ∧ ∃ C' rs rl, Hid (LL 23 35 (id : Value → Value) W C' 3 (.slice (some ⟨gR, 0, none⟩) 2 2) rs rl) ∧ Hid (rs.length = 2 ∧ MkP (oneI W C') 2 rl ∧ BdF 5000 s 0 rl) ∧ Hid (Chg (fun b => C3 b = 3) wF W ∧ Sam wF.heap.size C3 C' ∧ ∀ b, C' b ≠ 0 → N1 ≤ b)) (fun iv _ => 2 - (intOf iv).toNat)
                      case atStart => exact ⟨0, by omega, rfl, C3, _, _, LRF, Lib.hid ⟨rfl, MF.out.1, BdF.start MF.out.2⟩, Lib.hid ⟨Chg.refl _ _, Sam.refl _ _, HCL3.out⟩⟩
                      case round =>
                        obtain ⟨s, hs, rfl, C', rs, rl, HL, HM, HC⟩ := hrel
                        by_cases hlt : s < 2
                        · have hsnI : (s : Int) < 2 := by omega
                          go_wp2_with fail
                          go_loopw [282] (fun iv W => ∃ j : Nat, j ≤ 3 ∧ iv = .int .i64 (j : Int) ∧ ∃ C' rs rl, Hid (LL 23 35 (id : Value → Value) W C' 3 (.slice (some ⟨gR, 0, none⟩) 2 2) rs rl) ∧ Hid (rs.length = 2 ∧ MkP (oneI W C') 2 rl ∧ BdF 5000 s j rl) ∧ Hid (Chg (fun b => C3 b = 3) wF W ∧ Sam wF.heap.size C3 C' ∧ ∀ b, C' b ≠ 0 → N1 ≤ b)) (fun iv _ => 3 - (intOf iv).toNat)
                          case atStart => exact ⟨0, by omega, rfl, C', rs, rl, HL, HM, HC⟩
                          clear HL HM HC C' rs rl
                          case round =>
                            obtain ⟨j, hj, rfl, C', rs, rl, HL, HM, HC⟩ := hrel
                            by_cases hlt2 : j < 3
                            · obtain ⟨-, -, gq, u, row, hA, hu, hl, hc1, hf1, hro, hcg, -⟩ := HL.out.at2 hlt
                              obtain rfl : gR = gq := by injection hA with hA; injection hA
                              obtain ⟨AR, cr, rfl, -, -⟩ := row_form hro
                              obtain ⟨r, hr⟩ : ∃ r, r = row.length := ⟨_, rfl⟩
                              rw [← hr] at hc1 hu hro
                              have hrb : r ≤ 5003 := by rw [hr]; have := HM.out.2.2.le hl; omega
                              have HU := Lib.hid hu
                              have HLR := Lib.hid (And.intro hl hr)
                              have hbl : Below wr.heap.size wr ((wr.alloc (.cells #[.int .i64 (s : Int)] 3)).alloc (.cells #[.slice (some ⟨wr.heap.size, 0, none⟩) 1 1] 35)) := (below_alloc _ _).trans ((below_alloc _ _).mono (by simp))
                              have hch : Chg (fun _ => False) wr ((wr.alloc (.cells #[.int .i64 (s : Int)] 3)).alloc (.cells #[.slice (some ⟨wr.heap.size, 0, none⟩) 1 1] 35)) := Chg.of_below hbl _
                              have HLA : Hid (LL 23 35 (id : Value → Value) ((wr.alloc (.cells #[.int .i64 (s : Int)] 3)).alloc (.cells #[.slice (some ⟨wr.heap.size, 0, none⟩) 1 1] 35)) (paint C' wr.heap.size 4) 3 (.slice (some ⟨gR, 0, none⟩) 2 2) rs rl) := Lib.hid (HL.out.step hch (sam_paint _ _ _) (fun _ e => e.elim))
                              have HON : Hid (∀ i x, oneI wr C' i x → oneI ((wr.alloc (.cells #[.int .i64 (s : Int)] 3)).alloc (.cells #[.slice (some ⟨wr.heap.size, 0, none⟩) 1 1] 35)) (paint C' wr.heap.size 4) i x) := Lib.hid (fun i x h => h.step hch (sam_paint _ _ _) (fun _ e => e.elim))
                              have HNE : Hid (oneI ((wr.alloc (.cells #[.int .i64 (s : Int)] 3)).alloc (.cells #[.slice (some ⟨wr.heap.size, 0, none⟩) 1 1] 35)) (paint C' wr.heap.size 4) s (.slice (some ⟨wr.heap.size, 0, none⟩) 1 1)) := Lib.hid ⟨wr.heap.size, rfl, paint_new _ _ (Nat.le_refl _), by simp; omega, by
                                have h1 : Blk (wr.alloc (.cells #[.int .i64 (s : Int)] 3)) wr.heap.size 3 #[.int .i64 (s : Int)] := Blk.new wr 3 _ rfl
                                exact ((h1.alloc _).cell 0).trans rfl⟩
                              have OWN : Hid (((wr.alloc (.cells #[.int .i64 (s : Int)] 3)).alloc (.cells #[.slice (some ⟨wr.heap.size, 0, none⟩) 1 1] 35)).ownsRow 0 35 1 (.slice AR r cr) (row.map (id : Value → Value)).length (row.map (id : Value → Value))) := Lib.hid (own_keep hro hbl)
                              have CA : Hid (((wr.alloc (.cells #[.int .i64 (s : Int)] 3)).alloc (.cells #[.slice (some ⟨wr.heap.size, 0, none⟩) 1 1] 35)).cell? ⟨wr.heap.size + 1, 0, none⟩ = some (.slice (some ⟨wr.heap.size, 0, none⟩) 1 1)) := Lib.hid ((Blk.new (wr.alloc (.cells #[.int .i64 (s : Int)] 3)) 35 _ (by simp)).cell 0)
                              have HLEN : Hid ((row.map (id : Value → Value)).length = r) := Lib.hid (by rw [List.length_map, hr])
                              have hs0 : (0 : Int) ≤ (s : Int) := Int.natCast_nonneg s
                              have HCG : Hid (gR < wF.heap.size → C3 gR = 3) := Lib.hid (fun h => by rw [← HC.out.2.1 _ h]; exact hcg)
                              have HCU : Hid (∀ k, (Value.slice AR r cr).ownBlock = some k → (paint C' wr.heap.size 4) k = 3 ∧ (k < wF.heap.size → C3 k = 3)) := Lib.hid (fun k hk => ⟨HLA.out.mem s _ k hu hk, fun h => by rw [← HC.out.2.1 _ h]; exact HL.out.mem s _ k hu hk⟩)
                              have HSW : Hid (N1 ≤ wr.heap.size ∧ N1 ≤ ((wr.alloc (.cells #[.int .i64 (s : Int)] 3)).alloc (.cells #[.slice (some ⟨wr.heap.size, 0, none⟩) 1 1] 35)).heap.size ∧ wF.heap.size ≤ wr.heap.size ∧ wr.heap.size ≤ ((wr.alloc (.cells #[.int .i64 (s : Int)] 3)).alloc (.cells #[.slice (some ⟨wr.heap.size, 0, none⟩) 1 1] 35)).heap.size) := Lib.hid (by have := HC.out.1.size; have := HNW.out; simp; omega)
                              have HGC : Hid ((paint C' wr.heap.size 4) gR = 3 ∧ gR < ((wr.alloc (.cells #[.int .i64 (s : Int)] 3)).alloc (.cells #[.slice (some ⟨wr.heap.size, 0, none⟩) 1 1] 35)).heap.size) := Lib.hid ⟨HLA.out.memv gR rfl, (World.ownsRow.lt HLA.out.own gR rfl).2⟩
                              clear hu hl hro hr hbl hch
                              go_wp2_with ((at_builtin; go_must (refine append_cell rfl (.tmp 289) (.tmp 292) 23 35 rfl Tryd.underlying23 infoRow rfl 0 (.slice AR r cr) (row.map (id : Value → Value)) rfl OWN.out (wr.heap.size + 1) 1 (.slice (some ⟨wr.heap.size, 0, none⟩) 1 1) rfl CA.out rfl (by rw [HLEN.out]; omega) (by rw [HLEN.out]; unfold maxLen; omega) (Nat.zero_le _) ?_); intro v9 w9 ho9 hg9 ha9; refine halt ?_))
                              refine unhalt ?_
                              obtain ⟨A9, c9, hv9, -⟩ := own_form ho9
                              obtain ⟨n9, hn9⟩ : ∃ n9, n9 = (row.map (id : Value → Value) ++ [Value.slice (some ⟨wr.heap.size, 0, none⟩) 1 1]).length := ⟨_, rfl⟩
                              rw [← hn9] at hv9
                              subst hv9
                              have ho9' : w9.ownsRow 0 35 1 (.slice A9 n9 c9) ((row ++ [Value.slice (some ⟨wr.heap.size, 0, none⟩) 1 1]).map (id : Value → Value)).length ((row ++ [Value.slice (some ⟨wr.heap.size, 0, none⟩) 1 1]).map (id : Value → Value)) := by
                                rw [List.map_append, List.map_cons, List.map_nil]; exact ho9
                              obtain ⟨z1, z2⟩ := HLA.out.after (by decide) HU.out hg9
                              have HPN := Lib.hid (HLA.out.grow (by decide) rfl HU.out HLR.out.1 hg9 ho9' ha9)
                              have hcs : Chg (fun b => b = gR ∨ (Value.slice AR r cr).ownBlock = some b) ((wr.alloc (.cells #[.int .i64 (s : Int)] 3)).alloc (.cells #[.slice (some ⟨wr.heap.size, 0, none⟩) 1 1] 35)) (w9.setCell ⟨gR, s, none⟩ (.slice A9 n9 c9)) := ((Chg.refl _ ((wr.alloc (.cells #[.int .i64 (s : Int)] 3)).alloc (.cells #[.slice (some ⟨wr.heap.size, 0, none⟩) 1 1] 35))).grown hg9 (fun k hk _ => .inr hk)).setCell (.inl (.inl rfl)) _
                              have hone : ∀ i x, oneI ((wr.alloc (.cells #[.int .i64 (s : Int)] 3)).alloc (.cells #[.slice (some ⟨wr.heap.size, 0, none⟩) 1 1] 35)) (paint C' wr.heap.size 4) i x → oneI (w9.setCell ⟨gR, s, none⟩ (.slice A9 n9 c9)) (paint (paint C' wr.heap.size 4) ((wr.alloc (.cells #[.int .i64 (s : Int)] 3)).alloc (.cells #[.slice (some ⟨wr.heap.size, 0, none⟩) 1 1] 35)).heap.size 3) i x := fun i x h => h.step hcs (sam_paint _ _ _) (fun b e => by
                                rcases e with e | e
                                · rw [e, HGC.out.1]; decide
                                · rw [(HCU.out b e).1]; decide)
                              have HMN : Hid ((rs.set s (.slice A9 n9 c9)).length = 2 ∧ MkP (oneI (w9.setCell ⟨gR, s, none⟩ (.slice A9 n9 c9)) (paint (paint C' wr.heap.size 4) ((wr.alloc (.cells #[.int .i64 (s : Int)] 3)).alloc (.cells #[.slice (some ⟨wr.heap.size, 0, none⟩) 1 1] 35)).heap.size 3)) 2 (rl.set s (row ++ [Value.slice (some ⟨wr.heap.size, 0, none⟩) 1 1])) ∧ BdF 5000 s (j + 1) (rl.set s (row ++ [Value.slice (some ⟨wr.heap.size, 0, none⟩) 1 1]))) := Lib.hid ⟨by rw [List.length_set]; exact HM.out.1, (HM.out.2.1.mono (fun i x h => hone i x (HON.out i x h))).app HLR.out.1 hlt (hone s _ HNE.out), HM.out.2.2.one HLR.out.1⟩
                              have HCN : Hid (Chg (fun b => C3 b = 3) wF (w9.setCell ⟨gR, s, none⟩ (.slice A9 n9 c9)) ∧ Sam wF.heap.size C3 (paint (paint C' wr.heap.size 4) ((wr.alloc (.cells #[.int .i64 (s : Int)] 3)).alloc (.cells #[.slice (some ⟨wr.heap.size, 0, none⟩) 1 1] 35)).heap.size 3) ∧ ∀ b, (paint (paint C' wr.heap.size 4) ((wr.alloc (.cells #[.int .i64 (s : Int)] 3)).alloc (.cells #[.slice (some ⟨wr.heap.size, 0, none⟩) 1 1] 35)).heap.size 3) b ≠ 0 → N1 ≤ b) := Lib.hid ⟨by
                                have h1 := ((HC.out.1.alloc (.cells #[.int .i64 (s : Int)] 3)).alloc (.cells #[.slice (some ⟨wr.heap.size, 0, none⟩) 1 1] 35)).grown hg9 (fun k hk hlt => (HCU.out k hk).2 hlt)
                                by_cases hg0 : gR < wF.heap.size
                                · exact h1.setCell (.inl (HCG.out hg0)) _
                                · exact h1.setCell (.inr (Nat.le_of_not_lt hg0)) _, (HC.out.2.1.trans (sam_paint C' _ _) HSW.out.2.2.1).trans (sam_paint _ _ _) (Nat.le_trans HSW.out.2.2.1 HSW.out.2.2.2), paint_low (paint_low HC.out.2.2 HSW.out.1) HSW.out.2.1⟩
                              clear ho9 ho9' hg9 ha9 hn9 HLA OWN CA HLEN hc1 hf1 HCG HCU HSW HGC HON HNE hcg hcs hone
                              go_wp2_with fail
                              go_roundw
                              case rel =>
                                first
                                  | exact ⟨j + 1, by omega, by go_num, _, _, _, HPN, HMN, HCN⟩
                                  | ((repeat apply Exists.intro); exact ⟨⟨j + 1, by omega, by go_num, _, _, _, HPN, HMN, HCN⟩, rfl⟩)
                              case measure => simp [intOf]; omega
                            · obtain rfl : 3 = j := by omega
                              have HMN : Hid (rs.length = 2 ∧ MkP (oneI wr C') 2 rl ∧ BdF 5000 (s + 1) 0 rl) := Lib.hid ⟨HM.out.1, HM.out.2.1, HM.out.2.2.next⟩
                              go_wp2_with fail
                              go_roundw
                              case rel =>
                                first
                                  | exact ⟨s + 1, by omega, by go_num, C', rs, rl, HL, HMN, HC⟩
                                  | ((repeat apply Exists.intro); exact ⟨⟨s + 1, by omega, by go_num, C', rs, rl, HL, HMN, HC⟩, rfl⟩)
                              case measure => simp [intOf]; omega
                        · obtain rfl : 2 = s := by omega
                          obtain ⟨wG, hwn⟩ : ∃ wn, wn = wr := ⟨_, rfl⟩
                          rw [← hwn] at HL HM HC ⊢
                          clear hwn
                          have HBG : Hid (Below w.heap.size w wG) := Lib.hid (HBF.out.trans (HC.out.1.below (fun b hb h => by have := HCL3.out b (by omega); have := HLO.out; omega) HBF.out.size))
                          obtain ⟨C4, hC4⟩ : ∃ C1, C1 = C' := ⟨_, rfl⟩
                          subst hC4
                          clear HC LRF MF HBF
                          go_wp2_with fail
                          go_loop [299] (fun iv => ∃ s : Nat, s ≤ 2 ∧ iv = .int .i64 (s : Int)) (fun iv => 2 - (intOf iv).toNat)
                          case atStart => exact ⟨0, by omega, rfl⟩
                          case round =>
                            obtain ⟨s, hs, rfl⟩ := hrel
                            by_cases hlt : s < 2
                            · obtain ⟨-, -, gq, u, row, hA, hu, hl, hc1, -, hro, -, -⟩ := HL.out.at2 hlt
                              obtain rfl : gR = gq := by injection hA with hA; injection hA
                              obtain ⟨AR, cr, rfl, -, hrc⟩ := row_form hro
                              obtain ⟨r, hr⟩ : ∃ r, r = row.length := ⟨_, rfl⟩
                              rw [← hr] at hc1 hu hro hrc
                              have hrb : r ≤ 5003 := by rw [hr]; exact HM.out.2.2.all row (List.mem_of_getElem? hl)
                              have HRC := Lib.hid hrc
                              have HLR := Lib.hid (And.intro hl hr)
                              have hs0 : (0 : Int) ≤ (s : Int) := Int.natCast_nonneg s
                              have hsn : (s : Int) < 2 := by omega
                              clear hu hl hro hr hrc
                              go_wp2_with fail
                              go_loop [307] (fun iv => ∃ k : Nat, k ≤ r ∧ iv = .int .i64 (k : Int)) (fun iv => r - (intOf iv).toNat)
                              case atStart => exact ⟨0, Nat.zero_le _, rfl⟩
                              case round =>
                                obtain ⟨k, hk, rfl⟩ := hrel
                                by_cases hlt2 : k < r
                                · obtain ⟨gu, rfl, -, hcell, -⟩ := HRC.out (by omega)
                                  obtain ⟨x, hx⟩ : ∃ x, row[k]? = some x := ⟨_, List.getElem?_eq_getElem (by rw [← HLR.out.2]; exact hlt2)⟩
                                  obtain ⟨gx, rfl, -, -, hx0⟩ := HM.out.2.1 s row hlt HLR.out.1 x (List.mem_of_getElem? hx)
                                  have y3 : wG.cell? ⟨gu, k, none⟩ = some (.slice (some ⟨gx, 0, none⟩) 1 1) := hcell k _ hx
                                  have hk0 : (0 : Int) ≤ (k : Int) := Int.natCast_nonneg k
                                  have hkr : (k : Int) < (r : Int) := Int.ofNat_lt.2 hlt2
                                  clear hcell hx
                                  go_wp2_with fail
                                  go_round
                                  case rel =>
                                    first
                                      | exact ⟨k + 1, by omega, by go_num⟩
                                      | ((repeat apply Exists.intro); refine ⟨⟨k + 1, by omega, by go_num⟩, ?_⟩; first | rfl | exact ⟨rfl, rfl⟩ | exact ⟨rfl, rfl, rfl⟩ | exact ⟨rfl, rfl, rfl, rfl⟩ | exact ⟨rfl, rfl, rfl, rfl, rfl⟩)
                                  case measure => first | (simp [intOf]; omega) | (simp only [intOf]; omega) | omega
                                · obtain rfl : r = k := by omega
                                  go_wp2_with fail
                                  go_round
                                  case rel =>
                                    first
                                      | exact ⟨s + 1, by omega, by go_num⟩
                                      | ((repeat apply Exists.intro); refine ⟨⟨s + 1, by omega, by go_num⟩, ?_⟩; first | rfl | exact ⟨rfl, rfl⟩ | exact ⟨rfl, rfl, rfl⟩ | exact ⟨rfl, rfl, rfl, rfl⟩ | exact ⟨rfl, rfl, rfl, rfl, rfl⟩)
                                  case measure => first | (simp [intOf]; omega) | (simp only [intOf]; omega) | omega
                            · obtain rfl : 2 = s := by omega
                              have HFIN : Hid (RightP true w (.returned (.bool true)) wG) := Lib.hid ⟨rfl, HBG.out⟩
                              go_wp2_with fail
                              go_ret
                              exact HFIN.out
end Go.Proofs.YtnglgppdkohhpaaDoor
