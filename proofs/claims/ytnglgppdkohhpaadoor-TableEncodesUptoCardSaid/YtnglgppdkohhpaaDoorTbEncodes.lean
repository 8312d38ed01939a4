/- THE WALK of the law TableEncodes (printed by a program of ours). -/
import Derived.Test.YtnglgppdkohhpaaDoorTbTurn
import Derived.Test.YtnglgppdkohhpaaDoorTbKept
import Derived.BigQuiet
namespace Go.Proofs.YtnglgppdkohhpaaDoor
open Go.RowKit
def half (x : Int) : Int := IntKind.i64.wrap (Int.tdiv x 2)
/-- the table that the law makes out of a table -/
def halved (t : Tb) : Tb := ⟨t.cls, t.nx.map (fun r => r.map half), t.fo, t.en.map or31⟩
set_option maxRecDepth 100000 in
set_option maxHeartbeats 8000000 in
theorem tencodes_any (cs : Array Value) (t : Tb) (w : World) (hT : CrcTab w) (h : TB w cs t) (hs : t.nx.length ≤ 1048576 ∧ t.fo.length ≤ 1048576 ∧ t.en.length ≤ 1048576 ∧ ∀ l ∈ t.nx, l.length ≤ 1048576) :
    Calls Tryd.prog 3 #[.agg cs] w (RightP true w) := by
  have HT := Lib.hid hT; have TB0 := Lib.hid h; have HS := Lib.hid hs
  clear hT h hs
  have hz := zero_run
  obtain ⟨zc, hzc⟩ : ∃ zc, zc = dcells zcls nilV nilV nilV := ⟨_, rfl⟩
  have HZC := Lib.hid hzc
  rw [← hzc] at hz
  clear hzc
  have li : Hid ((Tryd.prog.info? 26).map (·.size) = some cs.toList.length) := Lib.hid (by rw [size259, Array.length_toList, TB0.out.size])
  obtain ⟨w1, hw1⟩ : ∃ w1, w1 = w.alloc (.cells cs 26) := ⟨_, rfl⟩
  obtain ⟨b, hb⟩ : ∃ b, b = w.heap.size := ⟨_, rfl⟩
  have B1 : Hid (Below w.heap.size w w1) := Lib.hid (by rw [hw1]; exact below_alloc _ _)
  have D1 : Hid (DX w1 b cs t) := Lib.hid (by rw [hw1, hb]; exact DX.new TB0.out)
  go_enter Tryd.func3, Tryd.ntmps3
  go_upto_region 1 with fail
  rw [← hw1, ← hb]
  clear hw1 hb
  go_wp2_with fail
  refine (known_any w1 (HT.out.keep B1.out)).mono ?_
  rintro e w2 ⟨rfl, hb2⟩
  have B2 : Hid (Below w.heap.size w w2) := Lib.hid (B1.out.trans (hb2.mono B1.out.size))
  have D2 := Lib.hid (D1.out.keep hb2)
  clear hb2 B1 D1
  have RG2 := Lib.hid (rangeAt_blk D2.out.blk)
  have CE := Lib.hid (renc_both cs t w2 D2.out.tb)
  go_wp2_with (with_reducible refine wpList_load_mid rfl _ _ rfl b 0 rfl cs.toList _ RG2.out Tryd.underlying26 rfl li.out ?_)
  refine CE.out.mono ?_
  rintro e w3 ⟨v3, rfl, ho3, hb3⟩
  have B3 : Hid (Below w.heap.size w w3) := Lib.hid (B2.out.trans (hb3.mono B2.out.size))
  have D3 := Lib.hid (D2.out.keep hb3)
  obtain ⟨E, hE⟩ : ∃ E, E = encE t := ⟨_, rfl⟩
  obtain ⟨er, hEr⟩ : ∃ er, er = errE t := ⟨_, rfl⟩
  rw [← hE] at ho3
  rw [← hEr]
  have HE := Lib.hid hE; have HER := Lib.hid hEr
  obtain ⟨A3, c3, rfl, _, _, _⟩ := ho3.form
  obtain ⟨ne, hne⟩ : ∃ ne, ne = E.length := ⟨_, rfl⟩
  have neE := Lib.hid hne
  have neB : Hid (ne ≤ 2130194) := Lib.hid (by rw [hne, hE]; exact encE_len t TB0.out.hc)
  have hneb := neB.out
  rw [← hne] at ho3 ⊢
  have V3 := Lib.hid ho3
  have V3L : Hid (∀ k, (Value.slice A3 ne c3).ownBlock = some k → k < w3.heap.size) := Lib.hid (fun k hk => (ho3.lt k hk).2)
  have S2 : Hid (w.heap.size ≤ w2.heap.size) := Lib.hid B2.out.size
  clear hE hEr hne ho3 hb3 CE RG2 B2 D2
  have RG3 := Lib.hid (rangeAt_blk D3.out.blk)
  have CC := Lib.hid (copied_any cs t w3 D3.out.tb HS.out)
  go_wp2_with (with_reducible refine wpList_load_mid rfl _ _ rfl b 0 rfl cs.toList _ RG3.out Tryd.underlying26 rfl li.out ?_)
  refine CC.out.mono ?_
  rintro e w4 ⟨vn, vf, ve, vs, z, rfl, hc, hb4⟩
  have B4 : Hid (Below w.heap.size w w4) := Lib.hid (B3.out.trans (hb4.mono B3.out.size))
  have D4 := Lib.hid (D3.out.keep hb4); have V4 := Lib.hid (V3.out.keep hb4)
  obtain ⟨N0, hN0⟩ : ∃ N0, N0 = w3.heap.size := ⟨_, rfl⟩
  rw [← hN0] at hc
  have HN0 : Hid (w.heap.size ≤ N0 ∧ N0 = w3.heap.size ∧ N0 ≤ w4.heap.size) := Lib.hid ⟨by rw [hN0]; exact B3.out.size, hN0, by rw [hN0]; exact hb4.size⟩
  clear hN0
  have hblk := hc.blks
  obtain ⟨gn, kn, rfl, pn⟩ := hc.on.form
  obtain ⟨gf, kf, rfl, pf⟩ := hc.of_.form
  obtain ⟨ge, ke, rfl, pe⟩ := hc.oe.form
  obtain ⟨n, hn⟩ : ∃ n, n = t.nx.length := ⟨_, rfl⟩
  obtain ⟨f, hf⟩ : ∃ f, f = t.fo.length := ⟨_, rfl⟩
  obtain ⟨g, hg⟩ : ∃ g, g = t.en.length := ⟨_, rfl⟩
  have hvl : vs.length = n := by rw [hn]; exact hc.len
  rw [hvl] at pn hc hblk ⊢
  rw [List.length_map, ← hf] at pf hc hblk ⊢
  rw [List.length_map, ← hg] at pe hc hblk ⊢
  have HN : Hid (n = t.nx.length ∧ f = t.fo.length ∧ g = t.en.length ∧ vs.length = n) := Lib.hid ⟨hn, hf, hg, hvl⟩
  have hnb : n ≤ 1048576 := by rw [hn]; exact HS.out.1
  have hgb : g ≤ 1048576 := by rw [hg]; exact HS.out.2.2.1
  have HBK := Lib.hid hblk
  have HGE : Hid (N0 ≤ ge ∧ ge < w4.heap.size ∧ gn < w4.heap.size ∧ N0 ≤ gn) := Lib.hid ⟨pe.cell.2.2.2.1, pe.cell.2.2.2.2.1, pn.cell.2.2.2.2.1, pn.cell.2.2.2.1⟩
  have C4 := Lib.hid hc
  clear hn hf hg hvl pn pf pe hblk hc hb4 B3 D3 V3 RG3 CC
  have MKT0 : ∀ W (nx : List (List Int)) (en : List Nat), CP W N0 (.slice (some ⟨gn, 0, none⟩) n kn) (.slice (some ⟨gf, 0, none⟩) f kf) (.slice (some ⟨ge, 0, none⟩) g ke) ⟨t.cls, nx, t.fo, en⟩ vs z → (∀ l ∈ nx, l.length ≤ 9223372036854775807) → nx.length ≤ 9223372036854775807 → en.length ≤ 9223372036854775807 → (∀ x ∈ en, x < 4294967296) → TB W (dcells t.cls (.slice (some ⟨gn, 0, none⟩) n kn) (.slice (some ⟨gf, 0, none⟩) f kf) (.slice (some ⟨ge, 0, none⟩) g ke)) ⟨t.cls, nx, t.fo, en⟩ := fun W nx en hc h1 h2 h3 h4 => hc.tb TB0.out.hc ⟨TB0.out.hu.1, h4⟩ h1 ⟨h2, by have := HS.out.2.1; show t.fo.length ≤ _; omega, h3⟩
  have dco : Hid ((dcells t.cls (.slice (some ⟨gn, 0, none⟩) n kn) (.slice (some ⟨gf, 0, none⟩) f kf) (.slice (some ⟨ge, 0, none⟩) g ke))[256]? = some (.slice (some ⟨gn, 0, none⟩) n kn) ∧ (dcells t.cls (.slice (some ⟨gn, 0, none⟩) n kn) (.slice (some ⟨gf, 0, none⟩) f kf) (.slice (some ⟨ge, 0, none⟩) g ke))[258]? = some (.slice (some ⟨ge, 0, none⟩) g ke)) := Lib.hid ⟨dcells_nx TB0.out.hc, dcells_en TB0.out.hc⟩
  have ds : Hid ((dcells t.cls (.slice (some ⟨gn, 0, none⟩) n kn) (.slice (some ⟨gf, 0, none⟩) f kf) (.slice (some ⟨ge, 0, none⟩) g ke)).size = 259 ∧ (dcells t.cls (.slice (some ⟨gn, 0, none⟩) n kn) (.slice (some ⟨gf, 0, none⟩) f kf) (.slice (some ⟨ge, 0, none⟩) g ke)).all (·.oneCell') = true) := Lib.hid ⟨dcells_size TB0.out.hc, dcells_one rfl rfl rfl⟩
  have KP : Hid (∀ W, TB W cs t → CP W N0 (.slice (some ⟨gn, 0, none⟩) n kn) (.slice (some ⟨gf, 0, none⟩) f kf) (.slice (some ⟨ge, 0, none⟩) g ke) t vs z → Calls Tryd.prog 11 #[.agg (dcells t.cls (.slice (some ⟨gn, 0, none⟩) n kn) (.slice (some ⟨gf, 0, none⟩) f kf) (.slice (some ⟨ge, 0, none⟩) g ke)), .agg cs] W (RightP true W)) := Lib.hid (fun W h1 h2 => kept_any cs t W N0 _ _ _ vs z h1 h2 HS.out)
  obtain ⟨dc, hdc⟩ : ∃ dc, dc = dcells t.cls (.slice (some ⟨gn, 0, none⟩) n kn) (.slice (some ⟨gf, 0, none⟩) f kf) (.slice (some ⟨ge, 0, none⟩) g ke) := ⟨_, rfl⟩
  rw [← hdc] at dco ds MKT0 KP ⊢
  have MKT := Lib.hid MKT0
  clear hdc MKT0
  have MT : Hid (∀ W, CP W N0 (.slice (some ⟨gn, 0, none⟩) n kn) (.slice (some ⟨gf, 0, none⟩) f kf) (.slice (some ⟨ge, 0, none⟩) g ke) t vs z → TB W dc t) := Lib.hid (fun W h => MKT.out W t.nx t.en h (fun l hl => by have := HS.out.2.2.2 l hl; omega) (by have := HS.out.1; omega) (by have := HS.out.2.2.1; omega) TB0.out.hu.2)
  have di : Hid ((Tryd.prog.info? 26).map (·.size) = some dc.size) := Lib.hid (by rw [size259, ds.out.1])
  have dl : Hid ((Tryd.prog.info? 26).map (·.size) = some dc.toList.length) := Lib.hid (by rw [size259, Array.length_toList, ds.out.1])
  have BA : Hid (Blk (w4.alloc (.cells zc 26)) w4.heap.size 26 zc) := Lib.hid (Blk.new _ _ _ rfl)
  have BAs : Hid (Blk ((w4.alloc (.cells zc 26)).setCells w4.heap.size 0 dc.toList) w4.heap.size 26 dc) := Lib.hid (Blk.setAll BA.out dc (by rw [ds.out.1, HZC.out, zsize]))
  go_upto_region 5 with (with_reducible refine wpList_store_mid rfl _ _ _ rfl w4.heap.size 0 dc rfl (by simp [Act.eval]) (there_blk BA.out _ (by rw [ds.out.1, HZC.out, zsize]; exact Nat.le_refl _)) di.out ds.out.2 ?_)
  obtain ⟨w5, hw5⟩ : ∃ w5, w5 = (w4.alloc (.cells zc 26)).setCells w4.heap.size 0 dc.toList := ⟨_, rfl⟩
  have hb5 : Below w4.heap.size w4 w5 := by
    rw [hw5]
    have hc := Chg.setCells (S := fun b => b = w4.heap.size) dc.toList 0 (Chg.refl (fun b => b = w4.heap.size) (w4.alloc (.cells zc 26))) rfl
    exact (below_alloc _ _).trans (hc.below (fun k hk e => by omega) (by simp))
  obtain ⟨b5, hb55⟩ : ∃ b5, b5 = w4.heap.size := ⟨_, rfl⟩
  have X5 : Hid (Blk w5 b5 26 dc) := Lib.hid (by rw [hw5, hb55]; exact BAs.out)
  have D5 := Lib.hid (D4.out.keep hb5); have V5 := Lib.hid (V4.out.keep hb5); have C5 := Lib.hid (C4.out.keep hb5)
  have B5 : Hid (Below w.heap.size w w5) := Lib.hid (B4.out.trans (hb5.mono B4.out.size))
  rw [← hw5, ← hb55]
  rw [← hb55] at HBK HGE
  have HB5 : Hid (b5 < w5.heap.size ∧ N0 ≤ b5 ∧ w.heap.size ≤ N0) := Lib.hid ⟨X5.out.lt, by rw [hb55]; exact HN0.out.2.2, HN0.out.1⟩
  clear hw5 hb5 hb55 BA BAs B4 D4 V4 C4 hz di
  have RG5 := Lib.hid (rangeAt_blk X5.out)
  have EA := Lib.hid (enc_both dc t w5 (HT.out.keep B5.out) (MT.out w5 C5.out))
  go_wp2_with (with_reducible refine wpList_load_mid rfl _ _ rfl b5 0 rfl dc.toList _ RG5.out Tryd.underlying26 rfl dl.out ?_)
  refine EA.out.mono ?_
  rintro e w6 ⟨va, rfl, hoa, hb6⟩
  rw [← HE.out] at hoa
  rw [← HER.out]
  obtain ⟨A6, c6, rfl, hc6, _, _⟩ := hoa.form
  rw [← neE.out] at hoa hc6 ⊢
  have OA6 := Lib.hid hoa
  have X6 := Lib.hid (X5.out.keep hb6); have D6 := Lib.hid (D5.out.keep hb6); have V6 := Lib.hid (V5.out.keep hb6); have C6 := Lib.hid (C5.out.keep hb6)
  have B6 : Hid (Below w.heap.size w w6) := Lib.hid (B5.out.trans (hb6.mono B5.out.size))
  have S6 := Lib.hid hb6.size
  clear hoa hb6 EA RG5 X5 D5 V5 C5
  have RG6 := Lib.hid (rangeAt_blk X6.out)
  have EB := Lib.hid (enc_both dc t w6 (HT.out.keep B6.out) (MT.out w6 C6.out))
  go_wp2_with (with_reducible refine wpList_load_mid rfl _ _ rfl b5 0 rfl dc.toList _ RG6.out Tryd.underlying26 rfl dl.out ?_)
  refine EB.out.mono ?_
  rintro e w7 ⟨vb, rfl, hob, hb7⟩
  rw [← HE.out] at hob
  rw [← HER.out]
  obtain ⟨A8, c8, rfl, hc8, _, _⟩ := hob.form
  rw [← neE.out] at hob hc8 ⊢
  have OB7 := Lib.hid hob
  have OA7 := Lib.hid (OA6.out.keep hb7)
  have X7 := Lib.hid (X6.out.keep hb7); have D7 := Lib.hid (D6.out.keep hb7); have V7 := Lib.hid (V6.out.keep hb7); have C7 := Lib.hid (C6.out.keep hb7)
  have B7 : Hid (Below w.heap.size w w7) := Lib.hid (B6.out.trans (hb7.mono B6.out.size))
  have S7 := Lib.hid hb7.size
  clear hob hb7 EB RG6 X6 D6 V6 C6 B6
  have cs6 := conv_bytes w7 A6 ne c6 E OA7.out.rb
  have cs8 := conv_bytes w7 A8 ne c8 E OB7.out.rb
  have cs3 := conv_bytes w7 A3 ne c3 E V7.out.rb
  have KC := Lib.hid (KP.out w7 D7.out.tb C7.out)
  have RGC := Lib.hid (rangeAt_blk X7.out); have RGD := Lib.hid (rangeAt_blk D7.out.blk)
  have ter : (er == er) = true := by simp
  go_wp2_with (first | (with_reducible refine wpList_load_mid rfl _ _ rfl b5 0 rfl dc.toList _ RGC.out Tryd.underlying26 rfl dl.out ?_) | (with_reducible refine wpList_load_mid rfl _ _ rfl b 0 rfl cs.toList _ RGD.out Tryd.underlying26 rfl li.out ?_))
  refine wp_load_mid _ _ rfl b5 0 rfl dc.toList _ RGC.out Tryd.underlying26 rfl dl.out ?_
  rename_i hK
  refine hK _ _ ?_
  clear hK
  go_wp2_with fail
  refine wp_load_mid _ _ rfl b 0 rfl cs.toList _ RGD.out Tryd.underlying26 rfl li.out ?_
  rename_i hK
  refine hK _ _ ?_
  clear hK
  go_wp2_with fail
  refine KC.out.mono ?_
  rintro e w8 ⟨rfl, hb8⟩
  have OA8 := Lib.hid (OA7.out.keep hb8); have OB8 := Lib.hid (OB7.out.keep hb8); have V8 := Lib.hid (V7.out.keep hb8); have C8 := Lib.hid (C7.out.keep hb8); have X8 := Lib.hid (X7.out.keep hb8)
  have B8 : Hid (Below w.heap.size w w8) := Lib.hid (B7.out.trans (hb8.mono B7.out.size))
  have S8 := Lib.hid hb8.size
  have PAB : Hid (Apt (.slice A6 ne c6) (.slice A8 ne c8)) := Lib.hid (apt_later OA6.out OB7.out (Nat.le_refl _))
  have PAV : Hid (Apt (.slice A3 ne c3) (.slice A6 ne c6)) := Lib.hid (fun k hk hk' => by
    have h1 := (OA6.out.lt k hk').1
    have h2 := (V3L.out k hk)
    have := HN0.out; have := HB5.out
    omega)
  clear hb8 KC RGC RGD cs6 cs8 cs3 KP D7 X7 C7 V7 B7 OA7
  go_wp2_with fail
  go_loopw [67] (fun iv W => ∃ k : Nat, k ≤ ne ∧ iv = .int .i64 (k : Int) ∧ Hid (OB W w5.heap.size (.slice A6 ne c6) (List.replicate k 91 ++ E.drop k)) ∧ Hid (Chg (fun q => (Value.slice A6 ne c6).ownBlock = some q) w8 W)) (fun iv _ => ne - (intOf iv).toNat)
  case atStart => exact ⟨0, Nat.zero_le _, rfl, Lib.hid (by simpa using OA8.out), Lib.hid (Chg.refl _ _)⟩
  case round =>
    obtain ⟨k, hk, rfl, HO, HC⟩ := hrel
    by_cases hlt : k < ne
    · obtain ⟨g, hg⟩ : ∃ g, A6 = some ⟨g, 0, none⟩ := ob_some HO.out (by omega)
      obtain ⟨cc, hcc⟩ := fill_at E 91 (k := k) (by rw [← neE.out]; exact hlt)
      have HST := Lib.hid (fill_step E 91 (k := k) (by rw [← neE.out]; exact hlt))
      have ho := HO.out
      rw [hg] at ho
      have c0 : wr.cell? ⟨g, k, none⟩ = some (.int .u8 (cc.toNat : Int)) := ho.cellAt hcc
      have f0 : wr.frozen? ⟨g, k, none⟩ = false := ho.frozenAt k
      have hst : OB (wr.setCell ⟨g, k, none⟩ (.int .u8 91)) w5.heap.size (.slice (some ⟨g, 0, none⟩) ne c6) ((List.replicate k 91 ++ E.drop k).set k 91) := (ho.stored k 91).1
      rw [HST.out, ← hg] at hst
      have HS1 := Lib.hid hst
      have HC1 : Hid (Chg (fun q => (Value.slice A6 ne c6).ownBlock = some q) w8 (wr.setCell ⟨g, k, none⟩ (.int .u8 91))) := Lib.hid (HC.out.setCell (.inl (by rw [hg]; rfl)) _)
      clear hcc ho hst
      subst hg
      go_wp2_with fail
      go_roundw
      case rel => exact ⟨k + 1, by omega, by go_num, HS1, HC1⟩
      case measure => simp [intOf]; omega
    · obtain rfl : ne = k := by omega
      have HO2 := HO.out
      rw [List.drop_of_length_le (by rw [← neE.out]; exact Nat.le_refl _), List.append_nil] at HO2
      obtain ⟨w9, hw9⟩ : ∃ w9, w9 = wr := ⟨_, rfl⟩
      subst hw9
      have OA9 := Lib.hid HO2
      have OB9 : Hid (OB w9 w6.heap.size (.slice A8 ne c8) E) := Lib.hid (HC.out.ob OB8.out (fun q hq h => PAB.out q h hq))
      have V9 : Hid (OB w9 w2.heap.size (.slice A3 ne c3) E) := Lib.hid (HC.out.ob V8.out (fun q hq h => PAV.out q hq h))
      have C9 := Lib.hid (C8.out.chgB HBK.out HC.out (fun q h1 h2 h => by
        have := (OA6.out.lt q h).1
        have := HB5.out
        omega))
      have X9 : Hid (Blk w9 b5 26 dc) := Lib.hid (X8.out.chg HC.out (fun h => by
        have := (OA6.out.lt b5 h).1
        have := HB5.out
        omega))
      have B9 : Hid (Below w.heap.size w w9) := Lib.hid (B8.out.trans (HC.out.below (B := w.heap.size) (fun q hq h => by
        have := (OA6.out.lt q h).1
        have := HB5.out
        omega) B8.out.size))
      have S9 := Lib.hid HC.out.size
      have cs8 := conv_bytes w9 A8 ne c8 E OB9.out.rb
      have cs3 := conv_bytes w9 A3 ne c3 E V9.out.rb
      have ve9 : w9.cell? ⟨b5, 258, none⟩ = some (.slice (some ⟨ge, 0, none⟩) g ke) := (X9.out.cell 258).trans dco.out.2
      clear HO HO2 HC OA8 OB8 V8 C8 X8 B8 PAV
      go_wp2_with fail
      clear cs8 cs3 ve9 V9
      go_loopw [82] (fun iv W => ∃ k : Nat, k ≤ g ∧ iv = .int .i64 (k : Int) ∧ Hid (CP W N0 (.slice (some ⟨gn, 0, none⟩) n kn) (.slice (some ⟨gf, 0, none⟩) f kf) (.slice (some ⟨ge, 0, none⟩) g ke) ⟨t.cls, t.nx, t.fo, turnF or31 t.en k⟩ vs z) ∧ Hid (Chg (fun q => q = ge) w9 W)) (fun iv _ => g - (intOf iv).toNat)
      case atStart => exact ⟨0, Nat.zero_le _, rfl, Lib.hid (by rw [turnF_zero]; exact C9.out), Lib.hid (Chg.refl _ _)⟩
      case round =>
        obtain ⟨k, hk, rfl, HP, HC⟩ := hrel
        have XR : Hid (Blk wr b5 26 dc) := Lib.hid (X9.out.chg HC.out (fun h => by have := HGE.out; omega))
        by_cases hlt : k < g
        · obtain ⟨x, hx⟩ : ∃ x, t.en[k]? = some x := ⟨_, List.getElem?_eq_getElem (by rw [← HN.out.2.2.1]; exact hlt)⟩
          have hxl : x < 4294967296 := TB0.out.hu.2 x (List.mem_of_getElem? hx)
          have hat := turnF_at (f := or31) hx
          have hpc := HP.out.oe.cell
          have y1 : wr.cell? ⟨b5, 258, none⟩ = some (.slice (some ⟨ge, 0, none⟩) g ke) := (XR.out.cell 258).trans dco.out.2
          have y2 : wr.cell? ⟨ge, k, none⟩ = some (.int .u32 (x : Int)) := hpc.2.2.2.2.2.1 k _ (by rw [List.getElem?_append_left (by rw [List.length_map, turnF_length, ← HN.out.2.2.1]; exact hlt), List.getElem?_map, hat]; rfl)
          have y3 : wr.frozen? ⟨ge, k, none⟩ = false := hpc.2.2.2.2.2.2 k
          have hset := (HP.out.keep (Below.drew (Below.refl _ _))).setE (k := k) (by show k < (turnF or31 t.en k).length; rw [turnF_length, ← HN.out.2.2.1]; exact hlt) (or31 x)
          have hbits := bits_or31 hxl
          have HPN : Hid (CP (wr.drew.setCell ⟨ge, k, none⟩ (uV (or31 x))) N0 (.slice (some ⟨gn, 0, none⟩) n kn) (.slice (some ⟨gf, 0, none⟩) f kf) (.slice (some ⟨ge, 0, none⟩) g ke) ⟨t.cls, t.nx, t.fo, turnF or31 t.en (k + 1)⟩ vs z) := Lib.hid (by
            rw [← turnF_set hx]; exact hset)
          have HCN : Hid (Chg (fun q => q = ge) w9 (wr.drew.setCell ⟨ge, k, none⟩ (uV (or31 x)))) := Lib.hid (HC.out.drew.setCell (.inl rfl) _)
          obtain ⟨y, hy⟩ : ∃ y, y = or31 x := ⟨_, rfl⟩
          rw [← hy] at hbits HPN HCN
          have HT0 : Hid (wr.drew.cell? ⟨b5, 258, none⟩ = some (.slice (some ⟨ge, 0, none⟩) g ke) ∧ wr.drew.cell? ⟨ge, k, none⟩ = some (.int .u32 (x : Int))) := Lib.hid ⟨y1, y2⟩
          have hk0 : (0 : Int) ≤ (k : Int) := Int.natCast_nonneg k
          have hkn0 : (k : Int) < (g : Int) := Int.ofNat_lt.2 hlt
          clear hx hat hpc hset hy XR
          go_upto_region 19 with fail
          refine wp_region_any (by kernel_rfl) ?_
          change wpAny _ _ _ _ _ _ _ (World.drew _)
          refine any_of_L (S := SL 10 (fun w' => w'.cell? ⟨b5, 258, none⟩ = some (.slice (some ⟨ge, 0, none⟩) g ke) ∧ w'.cell? ⟨ge, k, none⟩ = some (.int .u32 (x : Int)))) _ _ _ _ ?_
          have hT0 : (fun w' => w'.cell? ⟨b5, 258, none⟩ = some (.slice (some ⟨ge, 0, none⟩) g ke) ∧ w'.cell? ⟨ge, k, none⟩ = some (.int .u32 (x : Int))) wr.drew := HT0.out
          refine anyL_take (i := 0) 10 (v := ?_) (fun w' => w'.cell? ⟨b5, 258, none⟩ = some (.slice (some ⟨ge, 0, none⟩) g ke) ∧ w'.cell? ⟨ge, k, none⟩ = some (.int .u32 (x : Int))) rfl rfl (by kernel_rfl) (by kernel_rfl) (by kernel_rfl) (by kernel_rfl) (by kernel_rfl) (fun _ _ _ h => h) (fun _ _ h0 h => h h0) (SL.irr (i := 0) (by decide)).1 (SL.irr (i := 0) (by decide)).2 (Or.inl ⟨by rfl, ?_⟩) (SL.of hT0) ?_
          rotate_left 1
          · intro w hSw; (try dsimp only at hSw); go_simp <;> with_reducible rfl
          try simp only [Act.put, List.setIfInBounds_toArray, List.set_cons_zero, List.set_cons_succ, List.getElem_toArray, List.getElem_cons_zero]
          refine anyL_take (i := 1) 10 (v := ?_) (fun w' => w'.cell? ⟨b5, 258, none⟩ = some (.slice (some ⟨ge, 0, none⟩) g ke) ∧ w'.cell? ⟨ge, k, none⟩ = some (.int .u32 (x : Int))) rfl rfl (by kernel_rfl) (by kernel_rfl) (by kernel_rfl) (by kernel_rfl) (by kernel_rfl) (fun _ _ _ h => h) (fun _ _ h0 h => h h0) (SL.irr (i := 1) (by decide)).1 (SL.irr (i := 1) (by decide)).2 (Or.inl ⟨by rfl, ?_⟩) (SL.of hT0) ?_
          rotate_left 1
          · intro w hSw; obtain ⟨z1, z2⟩ := hSw; (try dsimp only at hSw); go_simp <;> with_reducible rfl
          try simp only [Act.put, List.setIfInBounds_toArray, List.set_cons_zero, List.set_cons_succ, List.getElem_toArray, List.getElem_cons_zero, List.getElem_cons_succ]
          refine anyL_take (i := 2) 10 (v := ?_) (fun w' => w'.cell? ⟨b5, 258, none⟩ = some (.slice (some ⟨ge, 0, none⟩) g ke) ∧ w'.cell? ⟨ge, k, none⟩ = some (.int .u32 (x : Int))) rfl rfl (by kernel_rfl) (by kernel_rfl) (by kernel_rfl) (by kernel_rfl) (by kernel_rfl) (fun _ _ _ h => h) (fun _ _ h0 h => h h0) (SL.irr (i := 2) (by decide)).1 (SL.irr (i := 2) (by decide)).2 (Or.inl ⟨by rfl, ?_⟩) (SL.of hT0) ?_
          rotate_left 1
          · intro w hSw; (try dsimp only at hSw); go_simp <;> with_reducible rfl
          try simp only [Act.put, List.setIfInBounds_toArray, List.set_cons_zero, List.set_cons_succ, List.getElem_toArray, List.getElem_cons_zero, List.getElem_cons_succ]
          refine anyL_take (i := 3) 10 (v := ?_) (fun w' => w'.cell? ⟨b5, 258, none⟩ = some (.slice (some ⟨ge, 0, none⟩) g ke) ∧ w'.cell? ⟨ge, k, none⟩ = some (.int .u32 (x : Int))) rfl rfl (by kernel_rfl) (by kernel_rfl) (by kernel_rfl) (by kernel_rfl) (by kernel_rfl) (fun _ _ _ h => h) (fun _ _ h0 h => h h0) (SL.irr (i := 3) (by decide)).1 (SL.irr (i := 3) (by decide)).2 (Or.inl ⟨by rfl, ?_⟩) (SL.of hT0) ?_
          rotate_left 1
          · intro w hSw; (try dsimp only at hSw); go_simp <;> with_reducible rfl
          try simp only [Act.put, List.setIfInBounds_toArray, List.set_cons_zero, List.set_cons_succ, List.getElem_toArray, List.getElem_cons_zero, List.getElem_cons_succ]
          refine anyL_take (i := 4) 10 (v := ?_) (fun w' => w'.cell? ⟨b5, 258, none⟩ = some (.slice (some ⟨ge, 0, none⟩) g ke) ∧ w'.cell? ⟨ge, k, none⟩ = some (.int .u32 (x : Int))) rfl rfl (by kernel_rfl) (by kernel_rfl) (by kernel_rfl) (by kernel_rfl) (by kernel_rfl) (fun _ _ _ h => h) (fun _ _ h0 h => h h0) (SL.irr (i := 4) (by decide)).1 (SL.irr (i := 4) (by decide)).2 (Or.inl ⟨by rfl, ?_⟩) (SL.of hT0) ?_
          rotate_left 1
          · intro w hSw; obtain ⟨z1, z2⟩ := hSw; (try dsimp only at hSw); go_simp <;> with_reducible rfl
          try simp only [Act.put, List.setIfInBounds_toArray, List.set_cons_zero, List.set_cons_succ, List.getElem_toArray, List.getElem_cons_zero, List.getElem_cons_succ]
          refine anyL_take (i := 5) 10 (v := ?_) (fun w' => w'.cell? ⟨b5, 258, none⟩ = some (.slice (some ⟨ge, 0, none⟩) g ke) ∧ w'.cell? ⟨ge, k, none⟩ = some (.int .u32 (x : Int))) rfl rfl (by kernel_rfl) (by kernel_rfl) (by kernel_rfl) (by kernel_rfl) (by kernel_rfl) (fun _ _ _ h => h) (fun _ _ h0 h => h h0) (SL.irr (i := 5) (by decide)).1 (SL.irr (i := 5) (by decide)).2 (Or.inl ⟨by rfl, ?_⟩) (SL.of hT0) ?_
          rotate_left 1
          · intro w hSw; (try dsimp only at hSw); go_simp <;> with_reducible rfl
          try simp only [Act.put, List.setIfInBounds_toArray, List.set_cons_zero, List.set_cons_succ, List.getElem_toArray, List.getElem_cons_zero, List.getElem_cons_succ]
          refine anyL_take (i := 6) 10 (v := ?_) (fun w' => w'.cell? ⟨b5, 258, none⟩ = some (.slice (some ⟨ge, 0, none⟩) g ke) ∧ w'.cell? ⟨ge, k, none⟩ = some (.int .u32 (x : Int))) rfl rfl (by kernel_rfl) (by kernel_rfl) (by kernel_rfl) (by kernel_rfl) (by kernel_rfl) (fun _ _ _ h => h) (fun _ _ h0 h => h h0) (SL.irr (i := 6) (by decide)).1 (SL.irr (i := 6) (by decide)).2 (Or.inl ⟨by rfl, ?_⟩) (SL.of hT0) ?_
          rotate_left 1
          · intro w hSw; (try dsimp only at hSw); go_simp <;> with_reducible rfl
          try simp only [Act.put, List.setIfInBounds_toArray, List.set_cons_zero, List.set_cons_succ, List.getElem_toArray, List.getElem_cons_zero, List.getElem_cons_succ]
          refine anyL_take (i := 7) 10 (v := ?_) (fun w' => w'.cell? ⟨b5, 258, none⟩ = some (.slice (some ⟨ge, 0, none⟩) g ke) ∧ w'.cell? ⟨ge, k, none⟩ = some (.int .u32 (x : Int))) rfl rfl (by kernel_rfl) (by kernel_rfl) (by kernel_rfl) (by kernel_rfl) (by kernel_rfl) (fun _ _ _ h => h) (fun _ _ h0 h => h h0) (SL.irr (i := 7) (by decide)).1 (SL.irr (i := 7) (by decide)).2 (Or.inl ⟨by rfl, ?_⟩) (SL.of hT0) ?_
          rotate_left 1
          · intro w hSw; obtain ⟨z1, z2⟩ := hSw; (try dsimp only at hSw); go_simp <;> with_reducible rfl
          try simp only [Act.put, List.setIfInBounds_toArray, List.set_cons_zero, List.set_cons_succ, List.getElem_toArray, List.getElem_cons_zero, List.getElem_cons_succ]
          refine anyL_take (i := 8) 10 (v := ?_) (fun w' => w'.cell? ⟨b5, 258, none⟩ = some (.slice (some ⟨ge, 0, none⟩) g ke) ∧ w'.cell? ⟨ge, k, none⟩ = some (.int .u32 (x : Int))) rfl rfl (by kernel_rfl) (by kernel_rfl) (by kernel_rfl) (by kernel_rfl) (by kernel_rfl) (fun _ _ _ h => h) (fun _ _ h0 h => h h0) (SL.irr (i := 8) (by decide)).1 (SL.irr (i := 8) (by decide)).2 (Or.inl ⟨by rfl, ?_⟩) (SL.of hT0) ?_
          rotate_left 1
          · intro w hSw; (try dsimp only at hSw); go_simp <;> with_reducible rfl
          try simp only [Act.put, List.setIfInBounds_toArray, List.set_cons_zero, List.set_cons_succ, List.getElem_toArray, List.getElem_cons_zero, List.getElem_cons_succ]
          refine anyL_take (i := 9) 10 (v := ?_) (fun w' => w'.cell? ⟨b5, 258, none⟩ = some (.slice (some ⟨ge, 0, none⟩) g ke) ∧ w'.cell? ⟨ge, k, none⟩ = some (.int .u32 (x : Int))) rfl rfl (by kernel_rfl) (by kernel_rfl) (by kernel_rfl) (by kernel_rfl) (by kernel_rfl) (fun _ _ _ h => h) (fun _ _ h0 h => h h0) (SL.irr (i := 9) (by decide)).1 (SL.irr (i := 9) (by decide)).2 (Or.inl ⟨by rfl, ?_⟩) (SL.of hT0) ?_
          rotate_left 1
          · intro w hSw; (try dsimp only at hSw); go_simp <;> with_reducible rfl
          try simp only [Act.put, List.setIfInBounds_toArray, List.set_cons_zero, List.set_cons_succ, List.getElem_toArray, List.getElem_cons_zero, List.getElem_cons_succ]
          have z2 : wr.drew.cell? ⟨ge, k, none⟩ = some (.int .u32 (x : Int)) := y2
          have z3 : wr.drew.frozen? ⟨ge, k, none⟩ = false := y3
          refine anyL_ready (rs := [10]) (by kernel_rfl) (by simp) (AllL.cons rfl (fun K hK => ?_) AllL.nil)
          go_simp
          refine hK.out _ _ (SL.fin (by kernel_rfl)) ?_
          clear hK K hT0
          try simp only [Act.put, List.setIfInBounds_toArray, List.set_cons_zero, List.set_cons_succ, List.getElem_toArray, List.getElem_cons_zero, List.getElem_cons_succ]
          refine anyL_done (by kernel_rfl) ?_ _
          have HPD : Hid (CP (wr.drew.setCell ⟨ge, k, none⟩ (.int .u32 (y : Int))) N0 (.slice (some ⟨gn, 0, none⟩) n kn) (.slice (some ⟨gf, 0, none⟩) f kf) (.slice (some ⟨ge, 0, none⟩) g ke) ⟨t.cls, t.nx, t.fo, turnF or31 t.en (k + 1)⟩ vs z) := HPN
          have HCD : Hid (Chg (fun q => q = ge) w9 (wr.drew.setCell ⟨ge, k, none⟩ (.int .u32 (y : Int)))) := HCN
          clear z2 z3 y1 y2 y3 HPN HCN HT0
          go_wp2_with fail
          go_roundw
          case rel =>
            first
              | exact ⟨k + 1, by omega, by go_num, HPD, HCD⟩
              | ((repeat apply Exists.intro); exact ⟨⟨k + 1, by omega, by go_num, HPD, HCD⟩, rfl⟩)
          case measure => simp [intOf]; omega
        · obtain rfl : k = g := by omega
          obtain ⟨w10, hw10⟩ : ∃ w10, w10 = wr := ⟨_, rfl⟩
          subst hw10
          have hp := HP.out
          rw [turnF_all (by rw [← HN.out.2.2.1]; exact Nat.le_refl _)] at hp
          obtain ⟨en2, hen2⟩ : ∃ en2, en2 = t.en.map or31 := ⟨_, rfl⟩
          rw [← hen2] at hp
          have HEN := Lib.hid hen2
          have C10 := Lib.hid hp
          have X10 := XR
          have OA10 : Hid (OB w10 w5.heap.size (.slice A6 ne c6) (List.replicate ne 91)) := Lib.hid (HC.out.ob OA9.out (fun q hq h => by
            have := (OA6.out.lt q hq).1
            have := HGE.out; have := HB5.out
            omega))
          have OB10 : Hid (OB w10 w6.heap.size (.slice A8 ne c8) E) := Lib.hid (HC.out.ob OB9.out (fun q hq h => by
            have := (OB7.out.lt q hq).1
            have := HGE.out; have := HB5.out; have := S6.out
            omega))
          have B10 : Hid (Below w.heap.size w w10) := Lib.hid (B9.out.trans (HC.out.below (B := w.heap.size) (fun q hq h => by
            have := HGE.out; have := HB5.out
            omega) B9.out.size))
          have S10 := Lib.hid HC.out.size
          have vn10 : w10.cell? ⟨b5, 256, none⟩ = some (.slice (some ⟨gn, 0, none⟩) n kn) := (X10.out.cell 256).trans dco.out.1
          clear HP HC hp hen2 XR C9 X9 OA9 OB9 B9
          go_wp2_with fail
          clear vn10
          go_loopw [99] (fun iv W => ∃ s : Nat, s ≤ n ∧ iv = .int .i64 (s : Int) ∧ Hid (CP W N0 (.slice (some ⟨gn, 0, none⟩) n kn) (.slice (some ⟨gf, 0, none⟩) f kf) (.slice (some ⟨ge, 0, none⟩) k ke) ⟨t.cls, turnF (fun r => r.map half) t.nx s, t.fo, en2⟩ vs z) ∧ Hid (Chg (fun q => N0 ≤ q ∧ q < b5) w10 W)) (fun iv _ => n - (intOf iv).toNat)
          case atStart => exact ⟨0, Nat.zero_le _, rfl, Lib.hid (by rw [turnF_zero]; exact C10.out), Lib.hid (Chg.refl _ _)⟩
          case round =>
            obtain ⟨s, hs, rfl, HP, HC⟩ := hrel
            have XR : Hid (Blk wr b5 26 dc) := Lib.hid (X10.out.chg HC.out (fun h => by omega))
            have vn1 : wr.cell? ⟨b5, 256, none⟩ = some (.slice (some ⟨gn, 0, none⟩) n kn) := (XR.out.cell 256).trans dco.out.1
            by_cases hlt2 : s < n
            · obtain ⟨row, hrow⟩ : ∃ row, t.nx[s]? = some row := ⟨_, List.getElem?_eq_getElem (by rw [← HN.out.1]; exact hlt2)⟩
              obtain ⟨v, hv⟩ : ∃ v, vs[s]? = some v := ⟨_, List.getElem?_eq_getElem (by rw [HN.out.2.2.2]; exact hlt2)⟩
              have hat := turnF_at (f := fun r : List Int => r.map half) hrow
              obtain ⟨gr, cr, rfl, hpr⟩ := (HP.out.rows s v row hv hat).form
              obtain ⟨r, hr⟩ : ∃ r, r = row.length := ⟨_, rfl⟩
              rw [List.length_map, ← hr] at hv hpr
              have hrb : r ≤ 1048576 := by rw [hr]; exact HS.out.2.2.2 row (List.mem_of_getElem? hrow)
              have HGR : Hid (N0 ≤ gr ∧ gr < b5) := Lib.hid (HBK.out _ (.inr (.inr (.inr (List.mem_of_getElem? hv)))) gr rfl)
              have hpn := HP.out.on.cell
              have vr1 : wr.cell? ⟨gn, s, none⟩ = some (.slice (some ⟨gr, 0, none⟩) r cr) := hpn.2.2.2.2.2.1 s _ (by rw [List.getElem?_append_left (by rw [HN.out.2.2.2]; exact hlt2), hv])
              have HROW := Lib.hid hrow; have HV := Lib.hid hv; have HR := Lib.hid hr; have HAT := Lib.hid hat
              have hs0 : (0 : Int) ≤ (s : Int) := Int.natCast_nonneg s
              have hsn0 : (s : Int) < (n : Int) := Int.ofNat_lt.2 hlt2
              have HWR : Hid (CP wr N0 (.slice (some ⟨gn, 0, none⟩) n kn) (.slice (some ⟨gf, 0, none⟩) f kf) (.slice (some ⟨ge, 0, none⟩) k ke) ⟨t.cls, (turnF (fun r => r.map half) t.nx s).set s (turnF half row 0), t.fo, en2⟩ vs z) := Lib.hid (by
                rw [turnF_zero, turnF_self hrow]; exact HP.out)
              clear hrow hv hr hat hpr hpn
              go_wp2_with fail
              clear vn1 vr1
              obtain ⟨w11, hw11⟩ : ∃ w11, w11 = wr := ⟨_, rfl⟩
              rw [← hw11] at HWR HC XR ⊢
              clear hw11
              go_loopw [108] (fun iv W => ∃ q : Nat, q ≤ r ∧ iv = .int .i64 (q : Int) ∧ Hid (CP W N0 (.slice (some ⟨gn, 0, none⟩) n kn) (.slice (some ⟨gf, 0, none⟩) f kf) (.slice (some ⟨ge, 0, none⟩) k ke) ⟨t.cls, (turnF (fun r => r.map half) t.nx s).set s (turnF half row q), t.fo, en2⟩ vs z) ∧ Hid (Chg (fun q => N0 ≤ q ∧ q < b5) w10 W)) (fun iv _ => r - (intOf iv).toNat)
              case atStart => exact ⟨0, Nat.zero_le _, rfl, HWR, HC⟩
              case round =>
                obtain ⟨q, hq, rfl, HP2, HC2⟩ := hrel
                by_cases hlt3 : q < r
                · obtain ⟨x, hx⟩ : ∃ x, row[q]? = some x := ⟨_, List.getElem?_eq_getElem (by rw [← HR.out]; exact hlt3)⟩
                  have XS : Hid (Blk wr b5 26 dc) := Lib.hid (X10.out.chg HC2.out (fun h => by omega))
                  have hat2 := turnF_at (f := half) hx
                  have hsl : s < (turnF (fun r : List Int => r.map half) t.nx s).length := (List.getElem?_eq_some_iff.1 HAT.out).1
                  have hrow2 : ((turnF (fun r : List Int => r.map half) t.nx s).set s (turnF half row q))[s]? = some (turnF half row q) := List.getElem?_set_self hsl
                  have hpc := (HP2.out.rows s _ _ HV.out hrow2).cell
                  have hpn := HP2.out.on.cell
                  have y1 : wr.cell? ⟨b5, 256, none⟩ = some (.slice (some ⟨gn, 0, none⟩) n kn) := (XS.out.cell 256).trans dco.out.1
                  have y2 : wr.cell? ⟨gn, s, none⟩ = some (.slice (some ⟨gr, 0, none⟩) r cr) := hpn.2.2.2.2.2.1 s _ (by rw [List.getElem?_append_left (by rw [HN.out.2.2.2]; exact hlt2), HV.out])
                  have y3 : wr.cell? ⟨gr, q, none⟩ = some (.int .i64 x) := hpc.2.2.2.2.2.1 q _ (by rw [List.getElem?_append_left (by rw [List.length_map, turnF_length, ← HR.out]; exact hlt3), List.getElem?_map, hat2]; rfl)
                  have y4 : wr.frozen? ⟨gr, q, none⟩ = false := hpc.2.2.2.2.2.2 q
                  have hset := (HP2.out.keep (Below.drew (Below.refl _ _))).setN HV.out hrow2 (k := q) (by rw [turnF_length, ← HR.out]; exact hlt3) (half x)
                  rw [List.set_set, turnF_set hx] at hset
                  have HPN := Lib.hid hset
                  have HCN : Hid (Chg (fun q => N0 ≤ q ∧ q < b5) w10 (wr.drew.setCell ⟨gr, q, none⟩ (iV (half x)))) := Lib.hid (HC2.out.drew.setCell (.inl HGR.out) _)
                  obtain ⟨y, hy⟩ : ∃ y, y = half x := ⟨_, rfl⟩
                  have hhalf : IntKind.i64.wrap (Int.tdiv x 2) = y := by rw [hy]; rfl
                  rw [← hy] at HPN HCN
                  have HT0 : Hid (wr.drew.cell? ⟨b5, 256, none⟩ = some (.slice (some ⟨gn, 0, none⟩) n kn) ∧ wr.drew.cell? ⟨gn, s, none⟩ = some (.slice (some ⟨gr, 0, none⟩) r cr) ∧ wr.drew.cell? ⟨gr, q, none⟩ = some (.int .i64 x)) := Lib.hid ⟨y1, y2, y3⟩
                  have hq0 : (0 : Int) ≤ (q : Int) := Int.natCast_nonneg q
                  have hqr0 : (q : Int) < (r : Int) := Int.ofNat_lt.2 hlt3
                  clear hx hat2 hsl hrow2 hpc hpn hset hy XS
                  go_upto_region 27 with fail
                  refine wp_region_any (by kernel_rfl) ?_
                  change wpAny _ _ _ _ _ _ _ (World.drew _)
                  refine any_of_L (S := SL 16 (fun w' => w'.cell? ⟨b5, 256, none⟩ = some (.slice (some ⟨gn, 0, none⟩) n kn) ∧ w'.cell? ⟨gn, s, none⟩ = some (.slice (some ⟨gr, 0, none⟩) r cr) ∧ w'.cell? ⟨gr, q, none⟩ = some (.int .i64 x))) _ _ _ _ ?_
                  have hT0 : (fun w' => w'.cell? ⟨b5, 256, none⟩ = some (.slice (some ⟨gn, 0, none⟩) n kn) ∧ w'.cell? ⟨gn, s, none⟩ = some (.slice (some ⟨gr, 0, none⟩) r cr) ∧ w'.cell? ⟨gr, q, none⟩ = some (.int .i64 x)) wr.drew := HT0.out
                  refine anyL_take (i := 0) 16 (v := ?_) (fun w' => w'.cell? ⟨b5, 256, none⟩ = some (.slice (some ⟨gn, 0, none⟩) n kn) ∧ w'.cell? ⟨gn, s, none⟩ = some (.slice (some ⟨gr, 0, none⟩) r cr) ∧ w'.cell? ⟨gr, q, none⟩ = some (.int .i64 x)) rfl rfl (by kernel_rfl) (by kernel_rfl) (by kernel_rfl) (by kernel_rfl) (by kernel_rfl) (fun _ _ _ h => h) (fun _ _ h0 h => h h0) (SL.irr (i := 0) (by decide)).1 (SL.irr (i := 0) (by decide)).2 (Or.inl ⟨by rfl, ?_⟩) (SL.of hT0) ?_
                  rotate_left 1
                  · intro w hSw; (try dsimp only at hSw); go_simp <;> with_reducible rfl
                  try simp only [Act.put, List.setIfInBounds_toArray, List.set_cons_zero, List.set_cons_succ, List.getElem_toArray, List.getElem_cons_zero]
                  refine anyL_take (i := 1) 16 (v := ?_) (fun w' => w'.cell? ⟨b5, 256, none⟩ = some (.slice (some ⟨gn, 0, none⟩) n kn) ∧ w'.cell? ⟨gn, s, none⟩ = some (.slice (some ⟨gr, 0, none⟩) r cr) ∧ w'.cell? ⟨gr, q, none⟩ = some (.int .i64 x)) rfl rfl (by kernel_rfl) (by kernel_rfl) (by kernel_rfl) (by kernel_rfl) (by kernel_rfl) (fun _ _ _ h => h) (fun _ _ h0 h => h h0) (SL.irr (i := 1) (by decide)).1 (SL.irr (i := 1) (by decide)).2 (Or.inl ⟨by rfl, ?_⟩) (SL.of hT0) ?_
                  rotate_left 1
                  · intro w hSw; obtain ⟨z1, z2, z3⟩ := hSw; (try dsimp only at hSw); go_simp <;> with_reducible rfl
                  try simp only [Act.put, List.setIfInBounds_toArray, List.set_cons_zero, List.set_cons_succ, List.getElem_toArray, List.getElem_cons_zero, List.getElem_cons_succ]
                  refine anyL_take (i := 2) 16 (v := ?_) (fun w' => w'.cell? ⟨b5, 256, none⟩ = some (.slice (some ⟨gn, 0, none⟩) n kn) ∧ w'.cell? ⟨gn, s, none⟩ = some (.slice (some ⟨gr, 0, none⟩) r cr) ∧ w'.cell? ⟨gr, q, none⟩ = some (.int .i64 x)) rfl rfl (by kernel_rfl) (by kernel_rfl) (by kernel_rfl) (by kernel_rfl) (by kernel_rfl) (fun _ _ _ h => h) (fun _ _ h0 h => h h0) (SL.irr (i := 2) (by decide)).1 (SL.irr (i := 2) (by decide)).2 (Or.inl ⟨by rfl, ?_⟩) (SL.of hT0) ?_
                  rotate_left 1
                  · intro w hSw; (try dsimp only at hSw); go_simp <;> with_reducible rfl
                  try simp only [Act.put, List.setIfInBounds_toArray, List.set_cons_zero, List.set_cons_succ, List.getElem_toArray, List.getElem_cons_zero, List.getElem_cons_succ]
                  refine anyL_take (i := 3) 16 (v := ?_) (fun w' => w'.cell? ⟨b5, 256, none⟩ = some (.slice (some ⟨gn, 0, none⟩) n kn) ∧ w'.cell? ⟨gn, s, none⟩ = some (.slice (some ⟨gr, 0, none⟩) r cr) ∧ w'.cell? ⟨gr, q, none⟩ = some (.int .i64 x)) rfl rfl (by kernel_rfl) (by kernel_rfl) (by kernel_rfl) (by kernel_rfl) (by kernel_rfl) (fun _ _ _ h => h) (fun _ _ h0 h => h h0) (SL.irr (i := 3) (by decide)).1 (SL.irr (i := 3) (by decide)).2 (Or.inl ⟨by rfl, ?_⟩) (SL.of hT0) ?_
                  rotate_left 1
                  · intro w hSw; (try dsimp only at hSw); go_simp <;> with_reducible rfl
                  try simp only [Act.put, List.setIfInBounds_toArray, List.set_cons_zero, List.set_cons_succ, List.getElem_toArray, List.getElem_cons_zero, List.getElem_cons_succ]
                  refine anyL_take (i := 4) 16 (v := ?_) (fun w' => w'.cell? ⟨b5, 256, none⟩ = some (.slice (some ⟨gn, 0, none⟩) n kn) ∧ w'.cell? ⟨gn, s, none⟩ = some (.slice (some ⟨gr, 0, none⟩) r cr) ∧ w'.cell? ⟨gr, q, none⟩ = some (.int .i64 x)) rfl rfl (by kernel_rfl) (by kernel_rfl) (by kernel_rfl) (by kernel_rfl) (by kernel_rfl) (fun _ _ _ h => h) (fun _ _ h0 h => h h0) (SL.irr (i := 4) (by decide)).1 (SL.irr (i := 4) (by decide)).2 (Or.inl ⟨by rfl, ?_⟩) (SL.of hT0) ?_
                  rotate_left 1
                  · intro w hSw; obtain ⟨z1, z2, z3⟩ := hSw; (try dsimp only at hSw); go_simp <;> with_reducible rfl
                  try simp only [Act.put, List.setIfInBounds_toArray, List.set_cons_zero, List.set_cons_succ, List.getElem_toArray, List.getElem_cons_zero, List.getElem_cons_succ]
                  refine anyL_take (i := 5) 16 (v := ?_) (fun w' => w'.cell? ⟨b5, 256, none⟩ = some (.slice (some ⟨gn, 0, none⟩) n kn) ∧ w'.cell? ⟨gn, s, none⟩ = some (.slice (some ⟨gr, 0, none⟩) r cr) ∧ w'.cell? ⟨gr, q, none⟩ = some (.int .i64 x)) rfl rfl (by kernel_rfl) (by kernel_rfl) (by kernel_rfl) (by kernel_rfl) (by kernel_rfl) (fun _ _ _ h => h) (fun _ _ h0 h => h h0) (SL.irr (i := 5) (by decide)).1 (SL.irr (i := 5) (by decide)).2 (Or.inl ⟨by rfl, ?_⟩) (SL.of hT0) ?_
                  rotate_left 1
                  · intro w hSw; (try dsimp only at hSw); go_simp <;> with_reducible rfl
                  try simp only [Act.put, List.setIfInBounds_toArray, List.set_cons_zero, List.set_cons_succ, List.getElem_toArray, List.getElem_cons_zero, List.getElem_cons_succ]
                  refine anyL_take (i := 6) 16 (v := ?_) (fun w' => w'.cell? ⟨b5, 256, none⟩ = some (.slice (some ⟨gn, 0, none⟩) n kn) ∧ w'.cell? ⟨gn, s, none⟩ = some (.slice (some ⟨gr, 0, none⟩) r cr) ∧ w'.cell? ⟨gr, q, none⟩ = some (.int .i64 x)) rfl rfl (by kernel_rfl) (by kernel_rfl) (by kernel_rfl) (by kernel_rfl) (by kernel_rfl) (fun _ _ _ h => h) (fun _ _ h0 h => h h0) (SL.irr (i := 6) (by decide)).1 (SL.irr (i := 6) (by decide)).2 (Or.inl ⟨by rfl, ?_⟩) (SL.of hT0) ?_
                  rotate_left 1
                  · intro w hSw; (try dsimp only at hSw); go_simp <;> with_reducible rfl
                  try simp only [Act.put, List.setIfInBounds_toArray, List.set_cons_zero, List.set_cons_succ, List.getElem_toArray, List.getElem_cons_zero, List.getElem_cons_succ]
                  refine anyL_take (i := 7) 16 (v := ?_) (fun w' => w'.cell? ⟨b5, 256, none⟩ = some (.slice (some ⟨gn, 0, none⟩) n kn) ∧ w'.cell? ⟨gn, s, none⟩ = some (.slice (some ⟨gr, 0, none⟩) r cr) ∧ w'.cell? ⟨gr, q, none⟩ = some (.int .i64 x)) rfl rfl (by kernel_rfl) (by kernel_rfl) (by kernel_rfl) (by kernel_rfl) (by kernel_rfl) (fun _ _ _ h => h) (fun _ _ h0 h => h h0) (SL.irr (i := 7) (by decide)).1 (SL.irr (i := 7) (by decide)).2 (Or.inl ⟨by rfl, ?_⟩) (SL.of hT0) ?_
                  rotate_left 1
                  · intro w hSw; obtain ⟨z1, z2, z3⟩ := hSw; (try dsimp only at hSw); go_simp <;> with_reducible rfl
                  try simp only [Act.put, List.setIfInBounds_toArray, List.set_cons_zero, List.set_cons_succ, List.getElem_toArray, List.getElem_cons_zero, List.getElem_cons_succ]
                  refine anyL_take (i := 8) 16 (v := ?_) (fun w' => w'.cell? ⟨b5, 256, none⟩ = some (.slice (some ⟨gn, 0, none⟩) n kn) ∧ w'.cell? ⟨gn, s, none⟩ = some (.slice (some ⟨gr, 0, none⟩) r cr) ∧ w'.cell? ⟨gr, q, none⟩ = some (.int .i64 x)) rfl rfl (by kernel_rfl) (by kernel_rfl) (by kernel_rfl) (by kernel_rfl) (by kernel_rfl) (fun _ _ _ h => h) (fun _ _ h0 h => h h0) (SL.irr (i := 8) (by decide)).1 (SL.irr (i := 8) (by decide)).2 (Or.inl ⟨by rfl, ?_⟩) (SL.of hT0) ?_
                  rotate_left 1
                  · intro w hSw; (try dsimp only at hSw); go_simp <;> with_reducible rfl
                  try simp only [Act.put, List.setIfInBounds_toArray, List.set_cons_zero, List.set_cons_succ, List.getElem_toArray, List.getElem_cons_zero, List.getElem_cons_succ]
                  refine anyL_take (i := 9) 16 (v := ?_) (fun w' => w'.cell? ⟨b5, 256, none⟩ = some (.slice (some ⟨gn, 0, none⟩) n kn) ∧ w'.cell? ⟨gn, s, none⟩ = some (.slice (some ⟨gr, 0, none⟩) r cr) ∧ w'.cell? ⟨gr, q, none⟩ = some (.int .i64 x)) rfl rfl (by kernel_rfl) (by kernel_rfl) (by kernel_rfl) (by kernel_rfl) (by kernel_rfl) (fun _ _ _ h => h) (fun _ _ h0 h => h h0) (SL.irr (i := 9) (by decide)).1 (SL.irr (i := 9) (by decide)).2 (Or.inl ⟨by rfl, ?_⟩) (SL.of hT0) ?_
                  rotate_left 1
                  · intro w hSw; (try dsimp only at hSw); go_simp <;> with_reducible rfl
                  try simp only [Act.put, List.setIfInBounds_toArray, List.set_cons_zero, List.set_cons_succ, List.getElem_toArray, List.getElem_cons_zero, List.getElem_cons_succ]
                  refine anyL_take (i := 10) 16 (v := ?_) (fun w' => w'.cell? ⟨b5, 256, none⟩ = some (.slice (some ⟨gn, 0, none⟩) n kn) ∧ w'.cell? ⟨gn, s, none⟩ = some (.slice (some ⟨gr, 0, none⟩) r cr) ∧ w'.cell? ⟨gr, q, none⟩ = some (.int .i64 x)) rfl rfl (by kernel_rfl) (by kernel_rfl) (by kernel_rfl) (by kernel_rfl) (by kernel_rfl) (fun _ _ _ h => h) (fun _ _ h0 h => h h0) (SL.irr (i := 10) (by decide)).1 (SL.irr (i := 10) (by decide)).2 (Or.inl ⟨by rfl, ?_⟩) (SL.of hT0) ?_
                  rotate_left 1
                  · intro w hSw; obtain ⟨z1, z2, z3⟩ := hSw; (try dsimp only at hSw); go_simp <;> with_reducible rfl
                  try simp only [Act.put, List.setIfInBounds_toArray, List.set_cons_zero, List.set_cons_succ, List.getElem_toArray, List.getElem_cons_zero, List.getElem_cons_succ]
                  refine anyL_take (i := 11) 16 (v := ?_) (fun w' => w'.cell? ⟨b5, 256, none⟩ = some (.slice (some ⟨gn, 0, none⟩) n kn) ∧ w'.cell? ⟨gn, s, none⟩ = some (.slice (some ⟨gr, 0, none⟩) r cr) ∧ w'.cell? ⟨gr, q, none⟩ = some (.int .i64 x)) rfl rfl (by kernel_rfl) (by kernel_rfl) (by kernel_rfl) (by kernel_rfl) (by kernel_rfl) (fun _ _ _ h => h) (fun _ _ h0 h => h h0) (SL.irr (i := 11) (by decide)).1 (SL.irr (i := 11) (by decide)).2 (Or.inl ⟨by rfl, ?_⟩) (SL.of hT0) ?_
                  rotate_left 1
                  · intro w hSw; (try dsimp only at hSw); go_simp <;> with_reducible rfl
                  try simp only [Act.put, List.setIfInBounds_toArray, List.set_cons_zero, List.set_cons_succ, List.getElem_toArray, List.getElem_cons_zero, List.getElem_cons_succ]
                  refine anyL_take (i := 12) 16 (v := ?_) (fun w' => w'.cell? ⟨b5, 256, none⟩ = some (.slice (some ⟨gn, 0, none⟩) n kn) ∧ w'.cell? ⟨gn, s, none⟩ = some (.slice (some ⟨gr, 0, none⟩) r cr) ∧ w'.cell? ⟨gr, q, none⟩ = some (.int .i64 x)) rfl rfl (by kernel_rfl) (by kernel_rfl) (by kernel_rfl) (by kernel_rfl) (by kernel_rfl) (fun _ _ _ h => h) (fun _ _ h0 h => h h0) (SL.irr (i := 12) (by decide)).1 (SL.irr (i := 12) (by decide)).2 (Or.inl ⟨by rfl, ?_⟩) (SL.of hT0) ?_
                  rotate_left 1
                  · intro w hSw; (try dsimp only at hSw); go_simp <;> with_reducible rfl
                  try simp only [Act.put, List.setIfInBounds_toArray, List.set_cons_zero, List.set_cons_succ, List.getElem_toArray, List.getElem_cons_zero, List.getElem_cons_succ]
                  refine anyL_take (i := 13) 16 (v := ?_) (fun w' => w'.cell? ⟨b5, 256, none⟩ = some (.slice (some ⟨gn, 0, none⟩) n kn) ∧ w'.cell? ⟨gn, s, none⟩ = some (.slice (some ⟨gr, 0, none⟩) r cr) ∧ w'.cell? ⟨gr, q, none⟩ = some (.int .i64 x)) rfl rfl (by kernel_rfl) (by kernel_rfl) (by kernel_rfl) (by kernel_rfl) (by kernel_rfl) (fun _ _ _ h => h) (fun _ _ h0 h => h h0) (SL.irr (i := 13) (by decide)).1 (SL.irr (i := 13) (by decide)).2 (Or.inl ⟨by rfl, ?_⟩) (SL.of hT0) ?_
                  rotate_left 1
                  · intro w hSw; obtain ⟨z1, z2, z3⟩ := hSw; (try dsimp only at hSw); go_simp <;> with_reducible rfl
                  try simp only [Act.put, List.setIfInBounds_toArray, List.set_cons_zero, List.set_cons_succ, List.getElem_toArray, List.getElem_cons_zero, List.getElem_cons_succ]
                  refine anyL_take (i := 14) 16 (v := ?_) (fun w' => w'.cell? ⟨b5, 256, none⟩ = some (.slice (some ⟨gn, 0, none⟩) n kn) ∧ w'.cell? ⟨gn, s, none⟩ = some (.slice (some ⟨gr, 0, none⟩) r cr) ∧ w'.cell? ⟨gr, q, none⟩ = some (.int .i64 x)) rfl rfl (by kernel_rfl) (by kernel_rfl) (by kernel_rfl) (by kernel_rfl) (by kernel_rfl) (fun _ _ _ h => h) (fun _ _ h0 h => h h0) (SL.irr (i := 14) (by decide)).1 (SL.irr (i := 14) (by decide)).2 (Or.inl ⟨by rfl, ?_⟩) (SL.of hT0) ?_
                  rotate_left 1
                  · intro w hSw; (try dsimp only at hSw); go_simp <;> with_reducible rfl
                  try simp only [Act.put, List.setIfInBounds_toArray, List.set_cons_zero, List.set_cons_succ, List.getElem_toArray, List.getElem_cons_zero, List.getElem_cons_succ]
                  refine anyL_take (i := 15) 16 (v := ?_) (fun w' => w'.cell? ⟨b5, 256, none⟩ = some (.slice (some ⟨gn, 0, none⟩) n kn) ∧ w'.cell? ⟨gn, s, none⟩ = some (.slice (some ⟨gr, 0, none⟩) r cr) ∧ w'.cell? ⟨gr, q, none⟩ = some (.int .i64 x)) rfl rfl (by kernel_rfl) (by kernel_rfl) (by kernel_rfl) (by kernel_rfl) (by kernel_rfl) (fun _ _ _ h => h) (fun _ _ h0 h => h h0) (SL.irr (i := 15) (by decide)).1 (SL.irr (i := 15) (by decide)).2 (Or.inl ⟨by rfl, ?_⟩) (SL.of hT0) ?_
                  rotate_left 1
                  · intro w hSw; (try dsimp only at hSw); go_simp <;> with_reducible rfl
                  try simp only [Act.put, List.setIfInBounds_toArray, List.set_cons_zero, List.set_cons_succ, List.getElem_toArray, List.getElem_cons_zero, List.getElem_cons_succ]
                  have z2 : wr.drew.cell? ⟨gr, q, none⟩ = some (.int .i64 x) := y3
                  have z3 : wr.drew.frozen? ⟨gr, q, none⟩ = false := y4
                  refine anyL_ready (rs := [16]) (by kernel_rfl) (by simp) (AllL.cons rfl (fun K hK => ?_) AllL.nil)
                  go_simp
                  refine hK.out _ _ (SL.fin (by kernel_rfl)) ?_
                  clear hK K hT0
                  try simp only [Act.put, List.setIfInBounds_toArray, List.set_cons_zero, List.set_cons_succ, List.getElem_toArray, List.getElem_cons_zero, List.getElem_cons_succ]
                  refine anyL_done (by kernel_rfl) ?_ _
                  have HPD : Hid (CP (wr.drew.setCell ⟨gr, q, none⟩ (.int .i64 y)) N0 (.slice (some ⟨gn, 0, none⟩) n kn) (.slice (some ⟨gf, 0, none⟩) f kf) (.slice (some ⟨ge, 0, none⟩) k ke) ⟨t.cls, (turnF (fun r => r.map half) t.nx s).set s (turnF half row (q + 1)), t.fo, en2⟩ vs z) := HPN
                  have HCD : Hid (Chg (fun q => N0 ≤ q ∧ q < b5) w10 (wr.drew.setCell ⟨gr, q, none⟩ (.int .i64 y))) := HCN
                  clear z2 z3 y1 y2 y3 y4 HPN HCN HT0
                  go_wp2_with fail
                  go_roundw
                  case rel =>
                    first
                      | exact ⟨q + 1, by omega, by go_num, HPD, HCD⟩
                      | ((repeat apply Exists.intro); exact ⟨⟨q + 1, by omega, by go_num, HPD, HCD⟩, rfl⟩)
                  case measure => simp [intOf]; omega
                · obtain rfl : q = r := by omega
                  have HPE : Hid (CP wr N0 (.slice (some ⟨gn, 0, none⟩) n kn) (.slice (some ⟨gf, 0, none⟩) f kf) (.slice (some ⟨ge, 0, none⟩) k ke) ⟨t.cls, turnF (fun r => r.map half) t.nx (s + 1), t.fo, en2⟩ vs z) := Lib.hid (by
                    have := HP2.out
                    rw [turnF_all (f := half) (l := row) (by rw [← HR.out]; exact Nat.le_refl _), turnF_set (f := fun r : List Int => r.map half) HROW.out] at this
                    exact this)
                  clear HP2 HWR
                  go_wp2_with fail
                  go_roundw
                  case rel =>
                    first
                      | exact ⟨s + 1, by omega, by go_num, HPE, HC2⟩
                      | ((repeat apply Exists.intro); exact ⟨⟨s + 1, by omega, by go_num, HPE, HC2⟩, rfl⟩)
                  case measure => simp [intOf]; omega
            · obtain rfl : s = n := by omega
              obtain ⟨w11, hw11⟩ : ∃ w11, w11 = wr := ⟨_, rfl⟩
              subst hw11
              have hp := HP.out
              rw [turnF_all (f := fun r : List Int => r.map half) (l := t.nx) (by rw [← HN.out.1]; exact Nat.le_refl _)] at hp
              have htb2 : TB w11 dc ⟨t.cls, t.nx.map (fun r => r.map half), t.fo, en2⟩ := MKT.out w11 _ en2 hp (fun l hl => by
                obtain ⟨l0, h0, rfl⟩ := List.mem_map.1 hl
                rw [List.length_map]
                have := HS.out.2.2.2 l0 h0
                omega) (by rw [List.length_map, ← HN.out.1]; omega) (by rw [HEN.out, List.length_map, ← HN.out.2.2.1]; omega) (fun x hx => by
                rw [HEN.out] at hx
                obtain ⟨y, hy, rfl⟩ := List.mem_map.1 hx
                exact or31_lt (TB0.out.hu.2 y hy))
              obtain ⟨t2, ht2⟩ : ∃ t2 : Tb, t2 = ⟨t.cls, t.nx.map (fun r => r.map half), t.fo, en2⟩ := ⟨_, rfl⟩
              have HC2 : Hid (t2.cls.length = 256) := Lib.hid (by rw [ht2]; exact TB0.out.hc)
              rw [← ht2] at htb2
              have TB11 := Lib.hid htb2
              have X11 := XR
              have OA11 : Hid (OB w11 w5.heap.size (.slice A6 ne c6) (List.replicate ne 91)) := Lib.hid (HC.out.ob OA10.out (fun q hq h => by
                have := (OA6.out.lt q hq).1
                have := HB5.out
                omega))
              have OB11 : Hid (OB w11 w6.heap.size (.slice A8 ne c8) E) := Lib.hid (HC.out.ob OB10.out (fun q hq h => by
                have := (OB7.out.lt q hq).1
                have := HB5.out; have := S6.out
                omega))
              have B11 : Hid (Below w.heap.size w w11) := Lib.hid (B10.out.trans (HC.out.below (B := w.heap.size) (fun q hq h => by
                have := HB5.out
                omega) B10.out.size))
              have CHN : Hid (w.heap.size ≤ w5.heap.size ∧ w5.heap.size ≤ w6.heap.size ∧ w6.heap.size ≤ w7.heap.size ∧ w7.heap.size ≤ w11.heap.size) := Lib.hid (by
                have := B5.out.size; have := S6.out; have := S7.out; have := S8.out; have := S9.out; have := S10.out; have := HC.out.size
                omega)
              have EC := Lib.hid (enc_both dc t2 w11 (HT.out.keep B11.out) htb2)
              have RG11 := Lib.hid (rangeAt_blk X11.out)
              clear HP HC hp htb2 ht2 XR C10 X10 OA10 OB10 B10 S6 S7 S8 S9 S10 vn1
              go_wp2_with (with_reducible refine wpList_load_mid rfl _ _ rfl b5 0 rfl dc.toList _ RG11.out Tryd.underlying26 rfl dl.out ?_)
              refine EC.out.mono ?_
              rintro e w12 ⟨vc, rfl, hoc, hb12⟩
              obtain ⟨E2, hE2⟩ : ∃ E2, E2 = encE t2 := ⟨_, rfl⟩
              obtain ⟨er2, hEr2⟩ : ∃ er2, er2 = errE t2 := ⟨_, rfl⟩
              rw [← hE2] at hoc
              rw [← hEr2]
              have HE2 := Lib.hid hE2; have HER2 := Lib.hid hEr2
              obtain ⟨A12, c12, rfl, hc12, _, _⟩ := hoc.form
              obtain ⟨n2, hn2⟩ : ∃ n2, n2 = E2.length := ⟨_, rfl⟩
              have n2E := Lib.hid hn2
              have n2B : Hid (n2 ≤ 2130194) := Lib.hid (by rw [hn2, hE2]; exact encE_len t2 HC2.out)
              have hn2b := n2B.out
              rw [← hn2] at hoc hc12 ⊢
              have OC12 := Lib.hid hoc
              have OA12 := Lib.hid (OA11.out.keep hb12); have OB12 := Lib.hid (OB11.out.keep hb12); have X12 := Lib.hid (X11.out.keep hb12); have TB12 := Lib.hid (TB11.out.keep hb12)
              have B12 : Hid (Below w.heap.size w w12) := Lib.hid (B11.out.trans (hb12.mono B11.out.size))
              have SZ12 := Lib.hid hb12.size
              have ED := Lib.hid (renc_both dc t2 w12 TB12.out)
              have RG12 := Lib.hid (rangeAt_blk X12.out)
              clear hoc hb12 hE2 hEr2 hn2 EC RG11 OA11 OB11 X11 TB11
              go_wp2_with (with_reducible refine wpList_load_mid rfl _ _ rfl b5 0 rfl dc.toList _ RG12.out Tryd.underlying26 rfl dl.out ?_)
              refine ED.out.mono ?_
              rintro e w13 ⟨vd, rfl, hod, hb13⟩
              rw [← HE2.out] at hod
              rw [← HER2.out]
              obtain ⟨A13, c13, rfl, _, _, hrd⟩ := hod.form
              rw [← n2E.out] at hrd ⊢
              have OA13 := Lib.hid (OA12.out.keep hb13); have OB13 := Lib.hid (OB12.out.keep hb13); have OC13 := Lib.hid (OC12.out.keep hb13)
              have B13 : Hid (Below w.heap.size w w13) := Lib.hid (B12.out.trans (hb13.mono B12.out.size))
              have cs12 := conv_bytes w13 A12 n2 c12 E2 OC13.out.rb
              have cs13 := conv_bytes w13 A13 n2 c13 E2 hrd
              have PAC : Hid (Apt (.slice A6 ne c6) (.slice A12 n2 c12)) := Lib.hid (apt_later OA6.out OC12.out (by have := CHN.out; omega))
              have PBC : Hid (Apt (.slice A8 ne c8) (.slice A12 n2 c12)) := Lib.hid (apt_later OB7.out OC12.out (by have := CHN.out; omega))
              have SZ13 : Hid (w11.heap.size ≤ w13.heap.size) := Lib.hid (Nat.le_trans SZ12.out hb13.size)
              have ter2 : (er2 == er2) = true := by simp
              clear hod hb13 hrd ED RG12 OA12 OB12 X12 TB12
              go_wp2_with fail
              clear cs12 cs13
              go_wp2_with fail
              go_loopw [151] (fun iv W => ∃ k : Nat, k ≤ ne ∧ iv = .int .i64 (k : Int) ∧ Hid (OB W w6.heap.size (.slice A8 ne c8) (List.replicate k 92 ++ E.drop k)) ∧ Hid (Chg (fun q => (Value.slice A8 ne c8).ownBlock = some q) w13 W)) (fun iv _ => ne - (intOf iv).toNat)
              case atStart => exact ⟨0, Nat.zero_le _, rfl, Lib.hid (by simpa using OB13.out), Lib.hid (Chg.refl _ _)⟩
              case round =>
                obtain ⟨k, hk, rfl, HO, HC⟩ := hrel
                by_cases hlt : k < ne
                · obtain ⟨g, hg⟩ : ∃ g, A8 = some ⟨g, 0, none⟩ := ob_some HO.out (by omega)
                  obtain ⟨cc, hcc⟩ := fill_at E 92 (k := k) (by rw [← neE.out]; exact hlt)
                  have HST := Lib.hid (fill_step E 92 (k := k) (by rw [← neE.out]; exact hlt))
                  have ho := HO.out
                  rw [hg] at ho
                  have c0 : wr.cell? ⟨g, k, none⟩ = some (.int .u8 (cc.toNat : Int)) := ho.cellAt hcc
                  have f0 : wr.frozen? ⟨g, k, none⟩ = false := ho.frozenAt k
                  have hst : OB (wr.setCell ⟨g, k, none⟩ (.int .u8 92)) w6.heap.size (.slice (some ⟨g, 0, none⟩) ne c8) ((List.replicate k 92 ++ E.drop k).set k 92) := (ho.stored k 92).1
                  rw [HST.out, ← hg] at hst
                  have HS1 := Lib.hid hst
                  have HC1 : Hid (Chg (fun q => (Value.slice A8 ne c8).ownBlock = some q) w13 (wr.setCell ⟨g, k, none⟩ (.int .u8 92))) := Lib.hid (HC.out.setCell (.inl (by rw [hg]; rfl)) _)
                  clear hcc ho hst
                  subst hg
                  go_wp2_with fail
                  go_roundw
                  case rel => exact ⟨k + 1, by omega, by go_num, HS1, HC1⟩
                  case measure => simp [intOf]; omega
                · obtain rfl : ne = k := by omega
                  have HO2 := HO.out
                  rw [List.drop_of_length_le (by rw [← neE.out]; exact Nat.le_refl _), List.append_nil] at HO2
                  obtain ⟨w14, hw14⟩ : ∃ w14, w14 = wr := ⟨_, rfl⟩
                  subst hw14
                  have OB14 := Lib.hid HO2
                  have SZ14 : Hid (w11.heap.size ≤ w14.heap.size) := Lib.hid (Nat.le_trans SZ13.out HC.out.size)
                  have OA14 : Hid (OB w14 w5.heap.size (.slice A6 ne c6) (List.replicate ne 91)) := Lib.hid (HC.out.ob OA13.out (fun q hq h => PAB.out q hq h))
                  have OC14 : Hid (OB w14 w11.heap.size (.slice A12 n2 c12) E2) := Lib.hid (HC.out.ob OC13.out (fun q hq h => PBC.out q h hq))
                  have B14 : Hid (Below w.heap.size w w14) := Lib.hid (B13.out.trans (HC.out.below (B := w.heap.size) (fun q hq h => by
                    have := (OB7.out.lt q h).1
                    have := CHN.out
                    omega) B13.out.size))
                  clear HO HO2 HC OA13 OB13 OC13
                  go_wp2_with fail
                  go_loopw [160] (fun iv W => ∃ k : Nat, k ≤ n2 ∧ iv = .int .i64 (k : Int) ∧ Hid (OB W w11.heap.size (.slice A12 n2 c12) (List.replicate k 93 ++ E2.drop k)) ∧ Hid (Chg (fun q => (Value.slice A12 n2 c12).ownBlock = some q) w14 W)) (fun iv _ => n2 - (intOf iv).toNat)
                  case atStart => exact ⟨0, Nat.zero_le _, rfl, Lib.hid (by simpa using OC14.out), Lib.hid (Chg.refl _ _)⟩
                  case round =>
                    obtain ⟨k, hk, rfl, HO, HC⟩ := hrel
                    by_cases hlt : k < n2
                    · obtain ⟨g, hg⟩ : ∃ g, A12 = some ⟨g, 0, none⟩ := ob_some HO.out (by omega)
                      obtain ⟨cc, hcc⟩ := fill_at E2 93 (k := k) (by rw [← n2E.out]; exact hlt)
                      have HST := Lib.hid (fill_step E2 93 (k := k) (by rw [← n2E.out]; exact hlt))
                      have ho := HO.out
                      rw [hg] at ho
                      have c0 : wr.cell? ⟨g, k, none⟩ = some (.int .u8 (cc.toNat : Int)) := ho.cellAt hcc
                      have f0 : wr.frozen? ⟨g, k, none⟩ = false := ho.frozenAt k
                      have hst : OB (wr.setCell ⟨g, k, none⟩ (.int .u8 93)) w11.heap.size (.slice (some ⟨g, 0, none⟩) n2 c12) ((List.replicate k 93 ++ E2.drop k).set k 93) := (ho.stored k 93).1
                      rw [HST.out, ← hg] at hst
                      have HS1 := Lib.hid hst
                      have HC1 : Hid (Chg (fun q => (Value.slice A12 n2 c12).ownBlock = some q) w14 (wr.setCell ⟨g, k, none⟩ (.int .u8 93))) := Lib.hid (HC.out.setCell (.inl (by rw [hg]; rfl)) _)
                      clear hcc ho hst
                      subst hg
                      go_wp2_with fail
                      go_roundw
                      case rel => exact ⟨k + 1, by omega, by go_num, HS1, HC1⟩
                      case measure => simp [intOf]; omega
                    · obtain rfl : n2 = k := by omega
                      have HO2 := HO.out
                      rw [List.drop_of_length_le (by rw [← n2E.out]; exact Nat.le_refl _), List.append_nil] at HO2
                      obtain ⟨w15, hw15⟩ : ∃ w15, w15 = wr := ⟨_, rfl⟩
                      subst hw15
                      have OC15 : Hid (OB w15 w11.heap.size (.slice A12 n2 c12) (List.replicate (n2 + 0) 93)) := Lib.hid HO2
                      have SZ15 : Hid (w11.heap.size ≤ w15.heap.size) := Lib.hid (Nat.le_trans SZ14.out HC.out.size)
                      have OA15 : Hid (OB w15 w5.heap.size (.slice A6 ne c6) (List.replicate (ne + 0) 91)) := Lib.hid (HC.out.ob OA14.out (fun q hq h => PAC.out q hq h))
                      have OB15 : Hid (OB w15 w6.heap.size (.slice A8 ne c8) (List.replicate (ne + 0) 92)) := Lib.hid (HC.out.ob OB14.out (fun q hq h => PBC.out q hq h))
                      have B15 : Hid (Below w.heap.size w w15) := Lib.hid (B14.out.trans (HC.out.below (B := w.heap.size) (fun q hq h => by
                        have := (OC12.out.lt q h).1
                        have := CHN.out
                        omega) B14.out.size))
                      have OA15B : Hid (w5.heap.size ≤ w15.heap.size) := Lib.hid (by have := SZ15.out; have := CHN.out; omega)
                      clear HO HO2 HC OA14 OB14 OC14
                      go_wp2_with fail
                      go_loopw [6, 167] (fun sv iv W => ∃ j : Nat, j ≤ 3 ∧ iv = .int .i64 (j : Int) ∧ Hid (OB W w5.heap.size sv (List.replicate (ne + j) 91)) ∧ Hid (Chg (fun q => (Value.slice A6 ne c6).ownBlock = some q) w15 W) ∧ Hid (FreshV w15 (Value.slice A6 ne c6) sv)) (fun _ iv _ => 3 - (intOf iv).toNat)
                      case atStart => exact ⟨0, by omega, rfl, OA15, Lib.hid (Chg.refl _ _), Lib.hid (fun q hq => .inl hq)⟩
                      case round =>
                        obtain ⟨j, hj, rfl, HO, HC, HF⟩ := hrel
                        by_cases hlt : j < 3
                        · have hb0 : Below wr.heap.size wr (wr.alloc (.cells #[.int .u8 91] 5)) := (Below.refl _ _).alloc (Nat.le_refl _) _
                          have O1 := Lib.hid (HO.out.keep hb0)
                          have R1 : Hid (RB (wr.alloc (.cells #[.int .u8 91] 5)) (some ⟨wr.heap.size, 0, none⟩) 1 [91]) := Lib.hid (RB.new' wr 5 (0, 0) #[.int .u8 91] [91] rfl 1 wr.heap.size rfl rfl)
                          have C1 := Lib.hid (HC.out.alloc (.cells #[.int .u8 91] 5))
                          have HBS : Hid (w5.heap.size ≤ (wr.alloc (.cells #[.int .u8 91] 5)).heap.size) := Lib.hid (by have := HC.out.size; have := OA15B.out; simp; omega)
                          have HLL : Hid ((List.replicate (ne + j) (91 : UInt8)).length + 1 ≤ 140737488355328) := Lib.hid (by have := neB.out; simp; omega)
                          have HW := Lib.hid hb0.size
                          clear hb0
                          go_wp2_with ((at_builtin; go_must (refine append_bytes rfl (.tmp 169) (.tmp 170) rfl w5.heap.size u6 (List.replicate (ne + j) 91) rfl O1.out (some ⟨wr.heap.size, 0, none⟩) 1 1 [91] rfl R1.out HLL.out HBS.out ?_); intro v' w' ho' hg' ha'; refine halt ?_))
                          refine unhalt ?_
                          have HN : Hid (OB w' w5.heap.size v' (List.replicate (ne + (j + 1)) 91)) := Lib.hid (by rw [← Nat.add_assoc, List.replicate_succ']; exact ho')
                          have HC1 : Hid (Chg (fun q => (Value.slice A6 ne c6).ownBlock = some q) w15 w') := Lib.hid (C1.out.grown hg' (fun q hq hlt => by
                            rcases HF.out q hq with h | h
                            · exact h
                            · omega))
                          have HF1 : Hid (FreshV w15 (Value.slice A6 ne c6) v') := Lib.hid (fun q hq => by
                            rcases ha' with h | h
                            · rw [h] at hq; exact HF.out q hq
                            · right
                              rw [hq] at h
                              have := Option.some.inj h
                              have := C1.out.size
                              omega)
                          clear ho' hg' ha'
                          go_wp2_with fail
                          go_roundw
                          first
                            | (case rel => exact ⟨j + 1, by omega, by go_num, HN, HC1, HF1⟩)
                            | (case rel => (repeat apply Exists.intro); exact ⟨⟨j + 1, by omega, by go_num, HN, HC1, HF1⟩, rfl⟩)
                          case measure => simp [intOf]; omega
                        · obtain rfl : 3 = j := by omega
                          obtain ⟨w16, hw16⟩ : ∃ w16, w16 = wr := ⟨_, rfl⟩
                          subst hw16
                          obtain ⟨A16, c16, rfl, _, _, _⟩ := HO.out.form
                          have OA16 := HO
                          rw [List.length_replicate] at OA16 HF ⊢
                          have OB16 : Hid (OB w16 w6.heap.size (.slice A8 ne c8) (List.replicate (ne + 0) 92)) := Lib.hid (HC.out.ob OB15.out (fun q hq h => PAB.out q h hq))
                          have OC16 : Hid (OB w16 w11.heap.size (.slice A12 n2 c12) (List.replicate (n2 + 0) 93)) := Lib.hid (HC.out.ob OC15.out (fun q hq h => PAC.out q h hq))
                          have PAB2 : Hid (Apt (.slice A16 (ne + 3) c16) (.slice A8 ne c8)) := Lib.hid (apt_fresh HF.out PAB.out (fun q hq => (OB15.out.lt q hq).2))
                          have PAC2 : Hid (Apt (.slice A16 (ne + 3) c16) (.slice A12 n2 c12)) := Lib.hid (apt_fresh HF.out PAC.out (fun q hq => (OC15.out.lt q hq).2))
                          have B16 : Hid (Below w.heap.size w w16) := Lib.hid (B15.out.trans (HC.out.below (B := w.heap.size) (fun q hq h => by
                            have := (OA6.out.lt q h).1
                            have := CHN.out
                            omega) B15.out.size))
                          have OB16B : Hid (w6.heap.size ≤ w16.heap.size) := Lib.hid (by have := HC.out.size; have := SZ15.out; have := CHN.out; omega)
                          have SZ16 : Hid (w11.heap.size ≤ w16.heap.size) := Lib.hid (Nat.le_trans SZ15.out HC.out.size)
                          clear HO HC HF OA15 OB15 OC15 PAB PAC
                          go_wp2_with fail
                          go_loopw [8, 173] (fun sv iv W => ∃ j : Nat, j ≤ 3 ∧ iv = .int .i64 (j : Int) ∧ Hid (OB W w6.heap.size sv (List.replicate (ne + j) 92)) ∧ Hid (Chg (fun q => (Value.slice A8 ne c8).ownBlock = some q) w16 W) ∧ Hid (FreshV w16 (Value.slice A8 ne c8) sv)) (fun _ iv _ => 3 - (intOf iv).toNat)
                          case atStart => exact ⟨0, by omega, rfl, OB16, Lib.hid (Chg.refl _ _), Lib.hid (fun q hq => .inl hq)⟩
                          case round =>
                            obtain ⟨j, hj, rfl, HO, HC, HF⟩ := hrel
                            by_cases hlt : j < 3
                            · have hb0 : Below wr.heap.size wr (wr.alloc (.cells #[.int .u8 92] 5)) := (Below.refl _ _).alloc (Nat.le_refl _) _
                              have O1 := Lib.hid (HO.out.keep hb0)
                              have R1 : Hid (RB (wr.alloc (.cells #[.int .u8 92] 5)) (some ⟨wr.heap.size, 0, none⟩) 1 [92]) := Lib.hid (RB.new' wr 5 (0, 0) #[.int .u8 92] [92] rfl 1 wr.heap.size rfl rfl)
                              have C1 := Lib.hid (HC.out.alloc (.cells #[.int .u8 92] 5))
                              have HBS : Hid (w6.heap.size ≤ (wr.alloc (.cells #[.int .u8 92] 5)).heap.size) := Lib.hid (by have := HC.out.size; have := OB16B.out; simp; omega)
                              have HLL : Hid ((List.replicate (ne + j) (92 : UInt8)).length + 1 ≤ 140737488355328) := Lib.hid (by have := neB.out; simp; omega)
                              have HW := Lib.hid hb0.size
                              clear hb0
                              go_wp2_with ((at_builtin; go_must (refine append_bytes rfl (.tmp 175) (.tmp 176) rfl w6.heap.size u8 (List.replicate (ne + j) 92) rfl O1.out (some ⟨wr.heap.size, 0, none⟩) 1 1 [92] rfl R1.out HLL.out HBS.out ?_); intro v' w' ho' hg' ha'; refine halt ?_))
                              refine unhalt ?_
                              have HN : Hid (OB w' w6.heap.size v' (List.replicate (ne + (j + 1)) 92)) := Lib.hid (by rw [← Nat.add_assoc, List.replicate_succ']; exact ho')
                              have HC1 : Hid (Chg (fun q => (Value.slice A8 ne c8).ownBlock = some q) w16 w') := Lib.hid (C1.out.grown hg' (fun q hq hlt => by
                                rcases HF.out q hq with h | h
                                · exact h
                                · omega))
                              have HF1 : Hid (FreshV w16 (Value.slice A8 ne c8) v') := Lib.hid (fun q hq => by
                                rcases ha' with h | h
                                · rw [h] at hq; exact HF.out q hq
                                · right
                                  rw [hq] at h
                                  have := Option.some.inj h
                                  have := C1.out.size
                                  omega)
                              clear ho' hg' ha'
                              go_wp2_with fail
                              go_roundw
                              first
                                | (case rel => exact ⟨j + 1, by omega, by go_num, HN, HC1, HF1⟩)
                                | (case rel => (repeat apply Exists.intro); exact ⟨⟨j + 1, by omega, by go_num, HN, HC1, HF1⟩, rfl⟩)
                              case measure => simp [intOf]; omega
                            · obtain rfl : 3 = j := by omega
                              obtain ⟨w17, hw17⟩ : ∃ w17, w17 = wr := ⟨_, rfl⟩
                              subst hw17
                              obtain ⟨A17, c17, rfl, _, _, _⟩ := HO.out.form
                              have OB17 := HO
                              rw [List.length_replicate] at OB17 HF ⊢
                              have OA17 : Hid (OB w17 w5.heap.size (.slice A16 (ne + 3) c16) (List.replicate (ne + 3) 91)) := Lib.hid (HC.out.ob OA16.out (fun q hq h => PAB2.out q hq h))
                              have OC17 : Hid (OB w17 w11.heap.size (.slice A12 n2 c12) (List.replicate (n2 + 0) 93)) := Lib.hid (HC.out.ob OC16.out (fun q hq h => PBC.out q h hq))
                              have PBC2 : Hid (Apt (.slice A17 (ne + 3) c17) (.slice A12 n2 c12)) := Lib.hid (apt_fresh HF.out PBC.out (fun q hq => (OC16.out.lt q hq).2))
                              have B17 : Hid (Below w.heap.size w w17) := Lib.hid (B16.out.trans (HC.out.below (B := w.heap.size) (fun q hq h => by
                                have := (OB7.out.lt q h).1
                                have := CHN.out
                                omega) B16.out.size))
                              have OC17B : Hid (w11.heap.size ≤ w17.heap.size) := Lib.hid (Nat.le_trans SZ16.out HC.out.size)
                              clear HO HC HF OA16 OB16 OC16 PBC PAB2
                              go_wp2_with fail
                              go_loopw [14, 179] (fun sv iv W => ∃ j : Nat, j ≤ 3 ∧ iv = .int .i64 (j : Int) ∧ Hid (OB W w11.heap.size sv (List.replicate (n2 + j) 93)) ∧ Hid (Chg (fun q => (Value.slice A12 n2 c12).ownBlock = some q) w17 W) ∧ Hid (FreshV w17 (Value.slice A12 n2 c12) sv)) (fun _ iv _ => 3 - (intOf iv).toNat)
                              case atStart => exact ⟨0, by omega, rfl, OC17, Lib.hid (Chg.refl _ _), Lib.hid (fun q hq => .inl hq)⟩
                              case round =>
                                obtain ⟨j, hj, rfl, HO, HC, HF⟩ := hrel
                                by_cases hlt : j < 3
                                · have hb0 : Below wr.heap.size wr (wr.alloc (.cells #[.int .u8 93] 5)) := (Below.refl _ _).alloc (Nat.le_refl _) _
                                  have O1 := Lib.hid (HO.out.keep hb0)
                                  have R1 : Hid (RB (wr.alloc (.cells #[.int .u8 93] 5)) (some ⟨wr.heap.size, 0, none⟩) 1 [93]) := Lib.hid (RB.new' wr 5 (0, 0) #[.int .u8 93] [93] rfl 1 wr.heap.size rfl rfl)
                                  have C1 := Lib.hid (HC.out.alloc (.cells #[.int .u8 93] 5))
                                  have HBS : Hid (w11.heap.size ≤ (wr.alloc (.cells #[.int .u8 93] 5)).heap.size) := Lib.hid (by have := HC.out.size; have := OC17B.out; simp; omega)
                                  have HLL : Hid ((List.replicate (n2 + j) (93 : UInt8)).length + 1 ≤ 140737488355328) := Lib.hid (by have := n2B.out; simp; omega)
                                  have HW := Lib.hid hb0.size
                                  clear hb0
                                  go_wp2_with ((at_builtin; go_must (refine append_bytes rfl (.tmp 181) (.tmp 182) rfl w11.heap.size u14 (List.replicate (n2 + j) 93) rfl O1.out (some ⟨wr.heap.size, 0, none⟩) 1 1 [93] rfl R1.out HLL.out HBS.out ?_); intro v' w' ho' hg' ha'; refine halt ?_))
                                  refine unhalt ?_
                                  have HN : Hid (OB w' w11.heap.size v' (List.replicate (n2 + (j + 1)) 93)) := Lib.hid (by rw [← Nat.add_assoc, List.replicate_succ']; exact ho')
                                  have HC1 : Hid (Chg (fun q => (Value.slice A12 n2 c12).ownBlock = some q) w17 w') := Lib.hid (C1.out.grown hg' (fun q hq hlt => by
                                    rcases HF.out q hq with h | h
                                    · exact h
                                    · omega))
                                  have HF1 : Hid (FreshV w17 (Value.slice A12 n2 c12) v') := Lib.hid (fun q hq => by
                                    rcases ha' with h | h
                                    · rw [h] at hq; exact HF.out q hq
                                    · right
                                      rw [hq] at h
                                      have := Option.some.inj h
                                      have := C1.out.size
                                      omega)
                                  clear ho' hg' ha'
                                  go_wp2_with fail
                                  go_roundw
                                  first
                                    | (case rel => exact ⟨j + 1, by omega, by go_num, HN, HC1, HF1⟩)
                                    | (case rel => (repeat apply Exists.intro); exact ⟨⟨j + 1, by omega, by go_num, HN, HC1, HF1⟩, rfl⟩)
                                  case measure => simp [intOf]; omega
                                · obtain rfl : 3 = j := by omega
                                  obtain ⟨w18, hw18⟩ : ∃ w18, w18 = wr := ⟨_, rfl⟩
                                  subst hw18
                                  obtain ⟨A18, c18, rfl, _, _, _⟩ := HO.out.form
                                  have OC18 := HO
                                  rw [List.length_replicate] at OC18 HF ⊢
                                  have OA18 : Hid (OB w18 w5.heap.size (.slice A16 (ne + 3) c16) (List.replicate (ne + 3) 91)) := Lib.hid (HC.out.ob OA17.out (fun q hq h => PAC2.out q hq h))
                                  have OB18 : Hid (OB w18 w6.heap.size (.slice A17 (ne + 3) c17) (List.replicate (ne + 3) 92)) := Lib.hid (HC.out.ob OB17.out (fun q hq h => PBC2.out q hq h))
                                  have B18 : Hid (Below w.heap.size w w18) := Lib.hid (B17.out.trans (HC.out.below (B := w.heap.size) (fun q hq h => by
                                    have := (OC12.out.lt q h).1
                                    have := CHN.out
                                    omega) B17.out.size))
                                  have hbn := neB.out
                                  have hb2 := n2B.out
                                  have F1 : Hid (Calls Tryd.prog 12 #[.slice A16 (ne + 3) c16, .int .u8 91] w18 fun e w' => e = .returned (.bool true) ∧ w18 = w') := Lib.hid (full_any A16 (ne + 3) c16 _ 91 w18 OA18.out.rb (fun c hc => List.eq_of_mem_replicate hc) (by omega))
                                  have F2 : Hid (Calls Tryd.prog 12 #[.slice A17 (ne + 3) c17, .int .u8 92] w18 fun e w' => e = .returned (.bool true) ∧ w18 = w') := Lib.hid (full_any A17 (ne + 3) c17 _ 92 w18 OB18.out.rb (fun c hc => List.eq_of_mem_replicate hc) (by omega))
                                  have F3 : Hid (Calls Tryd.prog 12 #[.slice A18 (n2 + 3) c18, .int .u8 93] w18 fun e w' => e = .returned (.bool true) ∧ w18 = w') := Lib.hid (full_any A18 (n2 + 3) c18 _ 93 w18 OC18.out.rb (fun c hc => List.eq_of_mem_replicate hc) (by omega))
                                  clear HO HC HF hbn hb2
                                  go_wp2_with fail
                                  refine F1.out.mono ?_
                                  rintro e w' ⟨rfl, rfl⟩
                                  go_wp2_with fail
                                  refine F2.out.mono ?_
                                  rintro e w' ⟨rfl, rfl⟩
                                  go_wp2_with fail
                                  refine F3.out.mono ?_
                                  rintro e w' ⟨rfl, rfl⟩
                                  have HF : Hid (RightP true w (.returned (.bool true)) w18) := Lib.hid ⟨rfl, B18.out⟩
                                  go_wp2_with fail
                                  go_ret
                                  exact HF.out
end Go.Proofs.YtnglgppdkohhpaaDoor
