/- THE WALK of heronlaw12.same (printed by a program of ours). -/
import Derived.Test.YtnglgppdkohhpaaDoorTbOne
namespace Go.Proofs.YtnglgppdkohhpaaDoor
open Go.RowKit
open Classical in
noncomputable def sameB (t t' : Tb) : Bool := decide (t = t')
theorem sameB_false {t t' : Tb} (h : ¬ t = t') : sameB t t' = false := by unfold sameB; simp [h]
theorem sameB_true {t t' : Tb} (h : t = t') : sameB t t' = true := by unfold sameB; simp [h]
theorem tb_eq {t t' : Tb} (h1 : t.cls = t'.cls) (h2 : t.nx = t'.nx) (h3 : t.fo = t'.fo) (h4 : t.en = t'.en) : t = t' := by
  cases t; cases t'; simp_all
theorem take_ext {α : Type} {l l' : List α} (h : l.length = l'.length) (hh : ∀ j : Nat, j < l.length → l[j]? = l'[j]?) : l = l' := by
  apply List.ext_getElem?
  intro j
  by_cases hj : j < l.length
  · exact hh j hj
  · rw [List.getElem?_eq_none (by omega), List.getElem?_eq_none (by omega)]
set_option maxRecDepth 100000 in
set_option maxHeartbeats 4000000 in
theorem same_any (cs cs' : Array Value) (t t' : Tb) (w : World) (h : TB w cs t) (h' : TB w cs' t') :
    Calls Tryd.prog 21 #[.agg cs, .agg cs'] w (RightP (sameB t t') w) := by
  have HT := Lib.hid h; have HT' := Lib.hid h'
  clear h h'
  have hgd := guard_cls
  obtain ⟨w2, hw2⟩ : ∃ w2, w2 = (w.alloc (.cells cs 26)).alloc (.cells cs' 26) := ⟨_, rfl⟩
  obtain ⟨b, hb⟩ : ∃ b, b = w.heap.size := ⟨_, rfl⟩
  obtain ⟨b', hb'⟩ : ∃ b', b' = w.heap.size + 1 := ⟨_, rfl⟩
  have B2 : Hid (Below w.heap.size w w2) := Lib.hid (by rw [hw2]; exact (below_alloc _ _).trans ((below_alloc _ _).mono (by simp)))
  have D : Hid (DX w2 b cs t) := Lib.hid ⟨by rw [hw2, hb]; exact (Blk.new _ _ _ rfl).alloc _, HT.out.keep B2.out⟩
  have D' : Hid (DX w2 b' cs' t') := Lib.hid ⟨by rw [hw2, hb']; exact Blk.new _ _ _ (by simp), HT'.out.keep B2.out⟩
  go_enter Tryd.func21, Tryd.ntmps21
  go_upto_region 1 with fail
  rw [← hw2, ← hb', ← hb]
  clear hw2 hb hb'
  obtain ⟨An, cn, Af, cf, Ae, ce, c1, c2, c3, l1, l2, l3, r1, r2, r3⟩ := D.out.open_
  obtain ⟨Bn, dn, Bf, df, Be, de, d1, d2, d3, m1, m2, m3, s1, s2, s3⟩ := D'.out.open_
  have R1 := Lib.hid r1; have R2 := Lib.hid r2; have R3 := Lib.hid r3; have S1 := Lib.hid s1; have S2 := Lib.hid s2; have S3 := Lib.hid s3
  have RC := Lib.hid (rangeAt_cls D.out); have RD := Lib.hid (rangeAt_cls D'.out)
  have RCL : Hid ((Tryd.prog.info? 22).map (·.size) = some (t.cls.map iV).length) := Lib.hid (by rw [size256, List.length_map, HT.out.hc])
  have RDL : Hid ((Tryd.prog.info? 22).map (·.size) = some (t'.cls.map iV).length) := Lib.hid (by rw [size256, List.length_map, HT'.out.hc])
  obtain ⟨n, hn⟩ : ∃ n, n = t.nx.length := ⟨_, rfl⟩
  obtain ⟨n', hn'⟩ : ∃ n, n = t'.nx.length := ⟨_, rfl⟩
  obtain ⟨f, hf⟩ : ∃ n, n = t.fo.length := ⟨_, rfl⟩
  obtain ⟨f', hf'⟩ : ∃ n, n = t'.fo.length := ⟨_, rfl⟩
  obtain ⟨g, hg⟩ : ∃ n, n = t.en.length := ⟨_, rfl⟩
  obtain ⟨g', hg'⟩ : ∃ n, n = t'.en.length := ⟨_, rfl⟩
  rw [← hn] at c1 R1; rw [← hf] at c2 R2; rw [← hg] at c3 R3
  rw [← hn'] at d1 S1; rw [← hf'] at d2 S2; rw [← hg'] at d3 S3
  have HN : Hid ((n = t.nx.length ∧ f = t.fo.length ∧ g = t.en.length) ∧ (n' = t'.nx.length ∧ f' = t'.fo.length ∧ g' = t'.en.length)) := Lib.hid ⟨⟨hn, hf, hg⟩, hn', hf', hg'⟩
  have hsz : n ≤ 9223372036854775807 ∧ f ≤ 9223372036854775807 ∧ g ≤ 9223372036854775807 := by
    have := HT.out.hs; omega
  obtain ⟨hz1, hz2, hz3⟩ := hsz
  clear r1 r2 r3 s1 s2 s3 l1 l2 l3 m1 m2 m3 hn hf hg hn' hf' hg'
  have hq := neq_cls t.cls t'.cls HT.out.hc HT'.out.hc
  have BW : Hid (Below w.heap.size w w2) := B2
  by_cases hcl : t.cls = t'.cls
  · have e0 : (t.cls == t'.cls) = true := beq_iff_eq.2 hcl
    have HCL := Lib.hid hcl
    rw [e0] at hq
    clear hcl e0
    simp only [Bool.not_true] at hq
    by_cases e1 : n = n'
    · by_cases e2 : f = f'
      · by_cases e3 : g = g'
        · subst e1; subst e2; subst e3
          go_wp2_with (first | (with_reducible refine wpList_load_mid rfl _ _ rfl b 0 rfl (t.cls.map iV) _ RC.out Tryd.underlying22 rfl (RCL.out) ?_) | (with_reducible refine wpList_load_mid rfl _ _ rfl b' 0 rfl (t'.cls.map iV) _ RD.out Tryd.underlying22 rfl (RDL.out) ?_))
          clear hq hgd RC RD RCL RDL
          go_loopw [44] (fun iv W => ∃ s : Nat, s ≤ n ∧ iv = .int .i64 (s : Int) ∧ Hid (Below w2.heap.size w2 W) ∧ Hid (∀ j : Nat, j < s → t.nx[j]? = t'.nx[j]?)) (fun iv _ => n - (intOf iv).toNat)
          case atStart => exact ⟨0, Nat.zero_le _, rfl, Lib.hid (Below.refl _ _), Lib.hid (fun j hj => absurd hj (by omega))⟩
          case round =>
            obtain ⟨s, hs, rfl, BS, HS⟩ := hrel
            have c1' : wr.cell? ⟨b, 256, none⟩ = some (.slice An n cn) := cell_later BS.out c1
            by_cases hlt : s < n
            · obtain ⟨bn, on, rfl, hbn, row, A1, v1, hrow, hrc, k1, rr⟩ := (R1.out.keep BS.out).at_ hlt
              obtain ⟨bm, om, rfl, hbm, row', A2, v2, hrow', hrc', k2, rr'⟩ := (S1.out.keep BS.out).at_ hlt
              have d1' : wr.cell? ⟨b', 256, none⟩ = some (.slice (some ⟨bm, om, none⟩) n dn) := cell_later BS.out d1
              have HV := Lib.hid (And.intro hrow hrow')
              have hrs : row.length ≤ 9223372036854775807 := HT.out.hs.2.2.2 row (List.mem_of_getElem? hrow)
              obtain ⟨r, hr⟩ : ∃ r, r = row.length := ⟨_, rfl⟩
              obtain ⟨r', hr'⟩ : ∃ r, r = row'.length := ⟨_, rfl⟩
              rw [← hr] at k1 rr hrc hrs
              rw [← hr'] at k2 rr' hrc'
              have HR := Lib.hid (And.intro hr hr')
              have RR := Lib.hid rr; have RR' := Lib.hid rr'
              have hs0 : (0 : Int) ≤ (s : Int) := by omega
              have hsn : (s : Int) < (n : Int) := by omega
              have BR : Hid (Below w.heap.size w wr) := Lib.hid (B2.out.trans (BS.out.mono B2.out.size))
              clear hrow hrow' hr hr' rr rr'
              by_cases er : r = r'
              · subst er
                have hq2 : ((r : Int) != (r : Int)) = false := by simp
                go_upto_region 6 with fail
                go_quiet (fail)
                obtain ⟨w3, hw3⟩ : ∃ w3, w3 = wr.drewN nq := ⟨_, rfl⟩
                have B0 : Hid (Below wr.heap.size wr w3) := Lib.hid (by rw [hw3]; exact below_drewN (Below.refl wr.heap.size wr) nq)
                have B3 : Hid (Below w2.heap.size w2 w3) := Lib.hid (BS.out.trans (B0.out.mono BS.out.size))
                have x1 : w3.cell? ⟨b, 256, none⟩ = some (.slice (some ⟨bn, on, none⟩) n cn) := cell_later B3.out c1
                have x2 : w3.cell? ⟨bn, on + s, none⟩ = some (.slice A1 r v1) := cell_later B0.out k1
                have x3 : w3.cell? ⟨bm, om + s, none⟩ = some (.slice A2 r v2) := cell_later B0.out k2
                have R4 := Lib.hid (RR.out.keep B0.out)
                have R5 := Lib.hid (RR'.out.keep B0.out)
                have K12 := Lib.hid (And.intro x2 x3)
                rw [← hw3]
                clear hw3 k1 k2 c1' d1' RR RR' hq2 x3
                go_wp2_with fail
                clear x1 x2
                go_loopw [66] (fun iv W => ∃ k : Nat, k ≤ r ∧ iv = .int .i64 (k : Int) ∧ Hid (Below w3.heap.size w3 W) ∧ Hid (∀ j : Nat, j < k → row[j]? = row'[j]?)) (fun iv _ => r - (intOf iv).toNat)
                case atStart => exact ⟨0, Nat.zero_le _, rfl, Lib.hid (Below.refl _ _), Lib.hid (fun j hj => absurd hj (by omega))⟩
                case round =>
                  obtain ⟨k, hk, rfl, BK, HK⟩ := hrel
                  have B5 : Hid (Below w2.heap.size w2 wr) := Lib.hid (B3.out.trans (BK.out.mono B3.out.size))
                  have x1 : wr.cell? ⟨b, 256, none⟩ = some (.slice (some ⟨bn, on, none⟩) n cn) := cell_later B5.out c1
                  have x2 : wr.cell? ⟨bn, on + s, none⟩ = some (.slice A1 r v1) := cell_later BK.out K12.out.1
                  by_cases hlt2 : k < r
                  · obtain ⟨bx, ox, rfl, hbx, x, hx, ex⟩ := (R4.out.keep BK.out).at_ hlt2
                    obtain ⟨by_, oy, rfl, hby, y, hy, ey⟩ := (R5.out.keep BK.out).at_ hlt2
                    simp only [iV] at ex ey
                    have x3 : wr.cell? ⟨bm, om + s, none⟩ = some (.slice (some ⟨by_, oy, none⟩) r v2) := cell_later BK.out K12.out.2
                    have x4 : wr.cell? ⟨b', 256, none⟩ = some (.slice (some ⟨bm, om, none⟩) n dn) := cell_later B5.out d1
                    have HX := Lib.hid (And.intro hx hy)
                    have hk0 : (0 : Int) ≤ (k : Int) := by omega
                    have hkn : (k : Int) < (r : Int) := by omega
                    have BRR : Hid (Below w.heap.size w wr) := Lib.hid (B2.out.trans (B5.out.mono B2.out.size))
                    clear hx hy
                    by_cases exy : x = y
                    · subst exy
                      have hq3 : (x != x) = false := by simp
                      go_upto_region 11 with fail
                      go_quiet (fail)
                      have BN : Hid (Below w3.heap.size w3 (wr.drewN nq)) := Lib.hid (below_drewN BK.out _)
                      have HN2 : Hid (∀ j : Nat, j < k + 1 → row[j]? = row'[j]?) := Lib.hid (fun j hj => by
                        by_cases e : j = k
                        · subst e; rw [HX.out.1, HX.out.2]
                        · exact HK.out j (by omega))
                      go_wp2_with fail
                      go_roundw
                      case rel =>
                        first
                          | exact ⟨k + 1, by omega, by go_num, BN, HN2⟩
                          | ((repeat apply Exists.intro); exact ⟨⟨k + 1, by omega, by go_num, BN, HN2⟩, rfl⟩)
                      case measure => simp [intOf]; omega
                    · have hq3 : (x != y) = true := by rw [bne_iff_ne]; exact exy
                      go_upto_region 11 with fail
                      go_quiet (fail)
                      have BN : Hid (Below w.heap.size w (wr.drewN nq)) := Lib.hid (below_drewN BRR.out _)
                      go_wp2_with fail
                      go_ret
                      refine ⟨?_, BN.out⟩
                      rw [sameB_false (fun e => exy (by
                        have h1 := HV.out.1
                        rw [e, HV.out.2] at h1
                        have h2 := HX.out.1
                        rw [← Option.some.inj h1, HX.out.2] at h2
                        exact (Option.some.inj h2).symm))]
                      rfl
                  · obtain rfl : k = r := by omega
                    have HS2 : Hid (∀ j : Nat, j < s + 1 → t.nx[j]? = t'.nx[j]?) := Lib.hid (fun j hj => by
                      by_cases e : j = s
                      · subst e
                        rw [HV.out.1, HV.out.2, take_ext (HR.out.1.symm.trans HR.out.2) (fun j hj => HK.out j (by rw [HR.out.1]; exact hj))]
                      · exact HS.out j (by omega))
                    go_wp2_with fail
                    go_roundw
                    case rel =>
                      first
                        | exact ⟨s + 1, by omega, by go_num, B5, HS2⟩
                        | ((repeat apply Exists.intro); exact ⟨⟨s + 1, by omega, by go_num, B5, HS2⟩, rfl⟩)
                    case measure => simp [intOf]; omega
              · have hq2 : ((r : Int) != (r' : Int)) = true := by rw [bne_iff_ne]; omega
                go_upto_region 6 with fail
                go_quiet (fail)
                have BN : Hid (Below w.heap.size w (wr.drewN nq)) := Lib.hid (below_drewN BR.out _)
                go_wp2_with fail
                go_ret
                refine ⟨?_, BN.out⟩
                rw [sameB_false (fun e => er (by have h1 := HV.out.1; rw [e, HV.out.2] at h1; rw [HR.out.1, HR.out.2, Option.some.inj h1]))]
                rfl
            · obtain rfl : s = n := by omega
              have HNX : Hid (t.nx = t'.nx) := Lib.hid (take_ext (by rw [← HN.out.1.1, ← HN.out.2.1]) (fun j hj => HS.out j (by rw [HN.out.1.1]; exact hj)))
              have BX := BS
              have c2' : wr.cell? ⟨b, 257, none⟩ = some (.slice Af f cf) := cell_later BS.out c2
              go_wp2_with fail
              clear c2'
              go_loopw [91] (fun iv W => ∃ k : Nat, k ≤ f ∧ iv = .int .i64 (k : Int) ∧ Hid (Below w2.heap.size w2 W) ∧ Hid (∀ j : Nat, j < k → t.fo[j]? = t'.fo[j]?)) (fun iv _ => f - (intOf iv).toNat)
              case atStart => exact ⟨0, Nat.zero_le _, rfl, BX, Lib.hid (fun j hj => absurd hj (by omega))⟩
              case round =>
                obtain ⟨k, hk, rfl, BK, HKf⟩ := hrel
                have c2' : wr.cell? ⟨b, 257, none⟩ = some (.slice Af f _) := cell_later BK.out c2
                by_cases hltf : k < f
                · obtain ⟨bx, ox, rfl, hbx, x, hx, ex⟩ := (R2.out.keep BK.out).at_ hltf
                  obtain ⟨by_, oy, rfl, hby, y, hy, ey⟩ := (S2.out.keep BK.out).at_ hltf
                  simp only [uV] at ex ey
                  have d2' : wr.cell? ⟨b', 257, none⟩ = some (.slice (some ⟨by_, oy, none⟩) f _) := cell_later BK.out d2
                  have HX := Lib.hid (And.intro hx hy)
                  have hk0 : (0 : Int) ≤ (k : Int) := by omega
                  have hkn : (k : Int) < (f : Int) := by omega
                  have BR : Hid (Below w.heap.size w wr) := Lib.hid (B2.out.trans (BK.out.mono B2.out.size))
                  clear hx hy
                  by_cases exy : x = y
                  · subst exy
                    have hq2 : ((x : Int) != (x : Int)) = false := by simp
                    go_upto_region 18 with fail
                    go_quiet (fail)
                    have BN : Hid (Below w2.heap.size w2 (wr.drewN nq)) := Lib.hid (below_drewN BK.out _)
                    have HN2 : Hid (∀ j : Nat, j < k + 1 → t.fo[j]? = t'.fo[j]?) := Lib.hid (fun j hj => by
                      by_cases e : j = k
                      · subst e; rw [HX.out.1, HX.out.2]
                      · exact HKf.out j (by omega))
                    go_wp2_with fail
                    go_roundw
                    case rel =>
                      first
                        | exact ⟨k + 1, by omega, by go_num, BN, HN2⟩
                        | ((repeat apply Exists.intro); exact ⟨⟨k + 1, by omega, by go_num, BN, HN2⟩, rfl⟩)
                    case measure => simp [intOf]; omega
                  · have hq2 : ((x : Int) != (y : Int)) = true := by rw [bne_iff_ne]; omega
                    go_upto_region 18 with fail
                    go_quiet (fail)
                    have BN : Hid (Below w.heap.size w (wr.drewN nq)) := Lib.hid (below_drewN BR.out _)
                    go_wp2_with fail
                    go_ret
                    refine ⟨?_, BN.out⟩
                    rw [sameB_false (fun e => exy (by have h1 := HX.out.1; rw [e, HX.out.2] at h1; exact (Option.some.inj h1).symm))]
                    rfl
                · obtain rfl : k = f := by omega
                  have HFO : Hid (t.fo = t'.fo) := Lib.hid (take_ext (by rw [← HN.out.1.2.1, ← HN.out.2.2.1]) (fun j hj => HKf.out j (by rw [HN.out.1.2.1]; exact hj)))
                  have BF := BK
                  have c3' : wr.cell? ⟨b, 258, none⟩ = some (.slice Ae g ce) := cell_later BK.out c3
                  go_wp2_with fail
                  clear c3'
                  go_loopw [109] (fun iv W => ∃ k : Nat, k ≤ g ∧ iv = .int .i64 (k : Int) ∧ Hid (Below w2.heap.size w2 W) ∧ Hid (∀ j : Nat, j < k → t.en[j]? = t'.en[j]?)) (fun iv _ => g - (intOf iv).toNat)
                  case atStart => exact ⟨0, Nat.zero_le _, rfl, BF, Lib.hid (fun j hj => absurd hj (by omega))⟩
                  case round =>
                    obtain ⟨k, hk, rfl, BK, HKe⟩ := hrel
                    have c3' : wr.cell? ⟨b, 258, none⟩ = some (.slice Ae g _) := cell_later BK.out c3
                    by_cases hlte : k < g
                    · obtain ⟨bx, ox, rfl, hbx, x, hx, ex⟩ := (R3.out.keep BK.out).at_ hlte
                      obtain ⟨by_, oy, rfl, hby, y, hy, ey⟩ := (S3.out.keep BK.out).at_ hlte
                      simp only [uV] at ex ey
                      have d3' : wr.cell? ⟨b', 258, none⟩ = some (.slice (some ⟨by_, oy, none⟩) g _) := cell_later BK.out d3
                      have HX := Lib.hid (And.intro hx hy)
                      have hk0 : (0 : Int) ≤ (k : Int) := by omega
                      have hkn : (k : Int) < (g : Int) := by omega
                      have BR : Hid (Below w.heap.size w wr) := Lib.hid (B2.out.trans (BK.out.mono B2.out.size))
                      clear hx hy
                      by_cases exy : x = y
                      · subst exy
                        have hq2 : ((x : Int) != (x : Int)) = false := by simp
                        go_upto_region 24 with fail
                        go_quiet (fail)
                        have BN : Hid (Below w2.heap.size w2 (wr.drewN nq)) := Lib.hid (below_drewN BK.out _)
                        have HN2 : Hid (∀ j : Nat, j < k + 1 → t.en[j]? = t'.en[j]?) := Lib.hid (fun j hj => by
                          by_cases e : j = k
                          · subst e; rw [HX.out.1, HX.out.2]
                          · exact HKe.out j (by omega))
                        go_wp2_with fail
                        go_roundw
                        case rel =>
                          first
                            | exact ⟨k + 1, by omega, by go_num, BN, HN2⟩
                            | ((repeat apply Exists.intro); exact ⟨⟨k + 1, by omega, by go_num, BN, HN2⟩, rfl⟩)
                        case measure => simp [intOf]; omega
                      · have hq2 : ((x : Int) != (y : Int)) = true := by rw [bne_iff_ne]; omega
                        go_upto_region 24 with fail
                        go_quiet (fail)
                        have BN : Hid (Below w.heap.size w (wr.drewN nq)) := Lib.hid (below_drewN BR.out _)
                        go_wp2_with fail
                        go_ret
                        refine ⟨?_, BN.out⟩
                        rw [sameB_false (fun e => exy (by have h1 := HX.out.1; rw [e, HX.out.2] at h1; exact (Option.some.inj h1).symm))]
                        rfl
                    · obtain rfl : k = g := by omega
                      have BR : Hid (Below w.heap.size w wr) := Lib.hid (B2.out.trans (BK.out.mono B2.out.size))
                      go_wp2_with fail
                      go_ret
                      refine ⟨?_, BR.out⟩
                      rw [sameB_true (tb_eq HCL.out HNX.out HFO.out (take_ext (by rw [← HN.out.1.2.2, ← HN.out.2.2.2]) (fun j hj => HKe.out j (by rw [HN.out.1.2.2]; exact hj))))]
                      rfl
        · subst e1; subst e2
          have hq2 : ((g : Int) != (g' : Int)) = true := by rw [bne_iff_ne]; omega
          go_wp2_with (first | (with_reducible refine wpList_load_mid rfl _ _ rfl b 0 rfl (t.cls.map iV) _ RC.out Tryd.underlying22 rfl (RCL.out) ?_) | (with_reducible refine wpList_load_mid rfl _ _ rfl b' 0 rfl (t'.cls.map iV) _ RD.out Tryd.underlying22 rfl (RDL.out) ?_))
          go_ret
          refine ⟨?_, BW.out⟩
          rw [sameB_false (fun e => e3 (by rw [HN.out.1.2.2, HN.out.2.2.2, e]))]
          rfl
      · subst e1
        have hq2 : ((f : Int) != (f' : Int)) = true := by rw [bne_iff_ne]; omega
        go_wp2_with (first | (with_reducible refine wpList_load_mid rfl _ _ rfl b 0 rfl (t.cls.map iV) _ RC.out Tryd.underlying22 rfl (RCL.out) ?_) | (with_reducible refine wpList_load_mid rfl _ _ rfl b' 0 rfl (t'.cls.map iV) _ RD.out Tryd.underlying22 rfl (RDL.out) ?_))
        go_ret
        refine ⟨?_, BW.out⟩
        rw [sameB_false (fun e => e2 (by rw [HN.out.1.2.1, HN.out.2.2.1, e]))]
        rfl
    · skip
      have hq2 : ((n : Int) != (n' : Int)) = true := by rw [bne_iff_ne]; omega
      go_wp2_with (first | (with_reducible refine wpList_load_mid rfl _ _ rfl b 0 rfl (t.cls.map iV) _ RC.out Tryd.underlying22 rfl (RCL.out) ?_) | (with_reducible refine wpList_load_mid rfl _ _ rfl b' 0 rfl (t'.cls.map iV) _ RD.out Tryd.underlying22 rfl (RDL.out) ?_))
      go_ret
      refine ⟨?_, BW.out⟩
      rw [sameB_false (fun e => e1 (by rw [HN.out.1.1, HN.out.2.1, e]))]
      rfl
  · have e0 : (t.cls == t'.cls) = false := beq_eq_false_iff_ne.2 hcl
    have HCL := Lib.hid hcl
    rw [e0] at hq
    clear hcl e0
    simp only [Bool.not_false] at hq
    go_wp2_with (first | (with_reducible refine wpList_load_mid rfl _ _ rfl b 0 rfl (t.cls.map iV) _ RC.out Tryd.underlying22 rfl (RCL.out) ?_) | (with_reducible refine wpList_load_mid rfl _ _ rfl b' 0 rfl (t'.cls.map iV) _ RD.out Tryd.underlying22 rfl (RDL.out) ?_))
    go_ret
    refine ⟨?_, BW.out⟩
    rw [sameB_false (fun e => HCL.out (by rw [e]))]
    rfl
end Go.Proofs.YtnglgppdkohhpaaDoor
