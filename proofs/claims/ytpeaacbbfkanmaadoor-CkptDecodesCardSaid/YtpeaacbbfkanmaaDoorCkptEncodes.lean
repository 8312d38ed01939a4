/- THE WALK of the law CkptEncodes. -/
import Derived.Test.YtpeaacbbfkanmaaDoorCkptFill
import Derived.Deep.DeepCutAuto
namespace Go.Proofs.YtpeaacbbfkanmaaDoor
open Go.RowKit
theorem fill_at (E : List UInt8) (x : UInt8) {k : Nat} (hk : k < E.length) : ∃ c, (List.replicate k x ++ E.drop k)[k]? = some c :=
  ⟨_, List.getElem?_eq_getElem (by rw [List.length_append, List.length_replicate, List.length_drop]; omega)⟩
theorem fill_step (E : List UInt8) (x : UInt8) {k : Nat} (hk : k < E.length) : (List.replicate k x ++ E.drop k).set k x = List.replicate (k + 1) x ++ E.drop (k + 1) := by
  rw [List.set_append_right _ _ (by simp), List.length_replicate, Nat.sub_self, List.drop_eq_getElem_cons hk, List.set_cons_zero, List.replicate_succ', List.append_assoc]
  rfl
theorem ob_some {w : World} {base n c : Nat} {A : Option Addr} {l : List UInt8} (h : OB w base (.slice A n c) l) (hn : 0 < n) : ∃ g, A = some ⟨g, 0, none⟩ := by
  have hl := h.len
  rcases h.2 with ⟨e, h0⟩ | ⟨g, cap, cur, e, _⟩
  · omega
  · injection e with e _ _
    exact ⟨g, e⟩
theorem turn_step (l : List Mk) {k : Nat} {m : Mk} (hm : l[k]? = some m) : ((l.take k).map turnM ++ l.drop k)[k]? = some m ∧ ((l.take k).map turnM ++ l.drop k).set k (turnM m) = (l.take (k + 1)).map turnM ++ l.drop (k + 1) := by
  obtain ⟨hk, rfl⟩ := List.getElem?_eq_some_iff.1 hm
  have hl : ((l.take k).map turnM).length = k := by rw [List.length_map, List.length_take, Nat.min_eq_left (by omega)]
  constructor
  · rw [List.getElem?_append_right (by omega), hl, Nat.sub_self, List.drop_eq_getElem_cons hk]; rfl
  · rw [List.set_append_right _ _ (by omega), hl, Nat.sub_self, List.drop_eq_getElem_cons hk, List.set_cons_zero, take_snoc (List.getElem?_eq_getElem hk), List.map_append, List.append_assoc]
    rfl
def EPost (w : World) (e : Ending) (w' : World) : Prop := e = .returned (.bool true) ∧ Below w.heap.size w w'
set_option maxRecDepth 100000 in
set_option maxHeartbeats 8000000 in
theorem encodes_any (A0 : Option Addr) (n0 c0 : Nat) (l0 : List Mk) (w : World) (hT : CrcTab w) (hl0 : MS w A0 n0 l0) (hc0 : n0 ≤ c0) :
    Calls Tryd.prog 3 #[.slice A0 n0 c0] w (EPost w) := by
  have HL := Lib.hid hl0; have HT := Lib.hid hT
  clear hl0 hT
  go_enter Tryd.func3, Tryd.ntmps3
  go_upto_if 18 with fail
  go_cut [0] (fun s wx => (∃ n l, n ≤ 20 ∧ s = .slice A0 n c0 ∧ n ≤ c0 ∧ Hid (MS w A0 n l)) ∧ wx = w)
  case first =>
    by_cases h20 : n0 ≤ 20
    · have t : decide ((20 : Int) < n0) = false := by simp; omega
      go_wp2_with fail
      go_meet
      exact ⟨⟨n0, l0, h20, rfl, hc0, HL⟩, rfl⟩
    · have t : decide ((20 : Int) < n0) = true := by simp; omega
      have hc20 : 20 ≤ c0 := by omega
      go_wp2_with fail
      go_meet
      exact ⟨⟨20, l0.take 20, by omega, rfl, hc20, Lib.hid (HL.out.take (by omega))⟩, rfl⟩
  case rest =>
    obtain ⟨⟨n, l, hn, rfl, hc, HM⟩, hcut⟩ := hcut
    rw [hcut]
    clear hcut wc HL hc0
    have hln := HM.out.1
    have HLN := Lib.hid hln
    clear hln
    go_wp2_with fail
    refine (known_any _ HT.out).mono ?_
    rintro e w1 ⟨rfl, hb1⟩
    have B1 := Lib.hid hb1; have M1 := Lib.hid (HM.out.keep hb1)
    clear hb1
    go_wp2_with fail
    refine (refEnc_all A0 n c0 l _ M1.out hc (by omega)).mono ?_
    intro e w2 hpost
    obtain ⟨v3, rfl, ho3, hb2⟩ := hpost
    have B2 := Lib.hid (B1.out.trans (hb2.mono B1.out.size)); have M2 := Lib.hid (M1.out.keep hb2)
    obtain ⟨E, hE⟩ : ∃ E, E = encR l := ⟨_, rfl⟩
    obtain ⟨er, hEr⟩ : ∃ er, er = errR l := ⟨_, rfl⟩
    rw [← hE] at ho3
    rw [← hEr]
    have HE := Lib.hid hE; have HER := Lib.hid hEr
    obtain ⟨A3, c3, rfl, _, _, _⟩ := ho3.form
    obtain ⟨ne, hne⟩ : ∃ ne, ne = E.length := ⟨_, rfl⟩
    have neE := Lib.hid hne
    have neB : Hid (ne ≤ 600) := Lib.hid (by rw [hne, hE]; exact encR_len l)
    have hneb := neB.out
    rw [← hne] at ho3 ⊢
    have V3 := Lib.hid ho3
    clear hE hEr hne ho3 hb2 M1 B1
    go_wp2_with ((at_builtin; go_must (refine append_marks rfl (.tmp 28) (.tmp 29) rfl w2.heap.size (.slice none 0 0) [] rfl (OM.nil w2 _) A0 n c0 l rfl M2.out (by simp; omega) (Nat.le_refl _) ?_); intro v5 w3 ho5 hg5 ha5; refine halt ?_))
    refine unhalt ?_
    have hb3 : Below w2.heap.size w2 w3 := (Below.refl _ _).grown hg5 (Nat.le_refl _) (fun q hq => by cases hq)
    have V3b := Lib.hid (V3.out.keep hb3); have B3 := Lib.hid (B2.out.trans (hb3.mono B2.out.size)); have M3 := Lib.hid (M2.out.keep hb3)
    rw [List.nil_append] at ho5
    have hb4 : Below w3.heap.size w3 (w3.alloc (.cells (offM (-77)).cells 31)) := (Below.refl _ _).alloc (Nat.le_refl _) _
    have O4 : Hid (OM (w3.alloc (.cells (offM (-77)).cells 31)) w2.heap.size v5 l) := Lib.hid (ho5.keep hb4)
    have S4 : Hid (MS (w3.alloc (.cells (offM (-77)).cells 31)) (some ⟨w3.heap.size, 0, none⟩) 1 [offM (-77)]) := Lib.hid (MS.new w3 _ rfl)
    have B4 : Hid (Below w2.heap.size w2 (w3.alloc (.cells (offM (-77)).cells 31))) := Lib.hid (hb3.trans (hb4.mono hb3.size))
    unfold offM Mk.cells at O4 S4 B4
    have HLL : Hid (l.length + 1 ≤ 1048600) := Lib.hid (by have := HLN.out; omega)
    clear ho5 hg5 ha5 hb3 hb4
    go_wp2_with ((at_builtin; go_must (refine append_marks rfl (.tmp 31) (.tmp 33) rfl w2.heap.size v5 l rfl O4.out (some ⟨w3.heap.size, 0, none⟩) 1 1 _ rfl S4.out HLL.out B4.out.size ?_); intro v6 w4 ho6 hg6 ha6; refine halt ?_))
    refine unhalt ?_
    have hb5 : Below w2.heap.size w2 w4 := B4.out.grown hg6 (B4.out.size) (fun q hq => (O4.out.lt q hq).1)
    obtain ⟨lf, hlf⟩ : ∃ lf, lf = l ++ [offM (-77)] := ⟨_, rfl⟩
    have ho7 : OM w4 w2.heap.size v6 lf := by rw [hlf]; exact ho6
    have V4 := Lib.hid (V3.out.keep hb5); have B5 := Lib.hid (B2.out.trans (hb5.mono B2.out.size)); have M4 := Lib.hid (M2.out.keep hb5)
    obtain ⟨A5, c5, rfl, hc5, _, hA5⟩ := ho7.form
    have hlfl : lf.length = n + 1 := by rw [hlf, List.length_append, HLN.out]; rfl
    obtain ⟨g5, rfl⟩ : ∃ g5, A5 = some ⟨g5, 0, none⟩ := by
      rcases hA5 with ⟨_, h⟩ | ⟨g, h, _⟩
      · omega
      · exact ⟨g, h⟩
    rw [hlfl] at hc5 ho7 ⊢
    have O7 := Lib.hid ho7; have HLF := Lib.hid hlf; have HLFL := Lib.hid hlfl
    have S2 := Lib.hid hb5.size
    have S1 := Lib.hid B2.out.size
    have HG5 : Hid (w2.heap.size ≤ g5 ∧ g5 < w4.heap.size) := Lib.hid (O7.out.lt g5 rfl)
    clear ho6 hg6 ha6 hb5 ho7 hlf hlfl hA5 O4 S4 B4 V3b B2 B3 M2 M3
    have msO := fun (W : World) (q : List Mk) (h : OM W w2.heap.size (.slice (some ⟨g5, 0, none⟩) (n + 1) c5) q) => (show MS W (some ⟨g5, 0, none⟩) n (q.take n) from by
      obtain ⟨_, _, e, _, h2, _⟩ := h.form
      injection e with e1 e2 e3
      rw [e1]
      exact h2.take (by omega))
    have HMS := Lib.hid msO
    have htk : lf.take n = l := by rw [HLF.out]; exact List.take_left' HLN.out
    have HTK := Lib.hid htk
    have hmsl : MS w4 (some ⟨g5, 0, none⟩) n l := by have := HMS.out w4 lf O7.out; rwa [htk] at this
    have hcn5 : n ≤ c5 := by omega
    have EA := Lib.hid (enc_all (some ⟨g5, 0, none⟩) n c5 l w4 (HT.out.keep B5.out) hmsl hcn5 (by omega))
    clear msO htk hmsl
    go_wp2_with fail
    refine EA.out.mono ?_
    intro e w5 hpost
    obtain ⟨va, rfl, hoa, hb6⟩ := hpost
    rw [← HE.out] at hoa
    rw [← HER.out]
    obtain ⟨A6, c6, rfl, hc6, _, _⟩ := hoa.form
    rw [← neE.out] at hoa hc6 ⊢
    have OA5 := Lib.hid hoa
    have O8 := Lib.hid (O7.out.keep hb6); have V5 := Lib.hid (V4.out.keep hb6); have B6 := Lib.hid (B5.out.trans (hb6.mono B5.out.size)); have M5 := Lib.hid (M4.out.keep hb6)
    have S3 := Lib.hid hb6.size
    have hmsl : MS w5 (some ⟨g5, 0, none⟩) n l := by have := HMS.out w5 lf O8.out; rwa [HTK.out] at this
    have EB := Lib.hid (enc_all (some ⟨g5, 0, none⟩) n c5 l w5 (HT.out.keep B6.out) hmsl hcn5 (by omega))
    clear hoa hb6 EA O7 V4 M4 hmsl
    go_wp2_with fail
    refine EB.out.mono ?_
    intro e w6 hpost
    obtain ⟨vb, rfl, hob, hb7⟩ := hpost
    rw [← HE.out] at hob
    rw [← HER.out]
    obtain ⟨A8, c8, rfl, hc8, _, _⟩ := hob.form
    rw [← neE.out] at hob hc8 ⊢
    have OB6 := Lib.hid hob
    have OA6 := Lib.hid (OA5.out.keep hb7)
    have O9 := Lib.hid (O8.out.keep hb7); have V6 := Lib.hid (V5.out.keep hb7); have B7 := Lib.hid (B6.out.trans (hb7.mono B6.out.size)); have M6 := Lib.hid (M5.out.keep hb7)
    have S4 := Lib.hid hb7.size
    clear hob hb7 EB O8 V5 M5
    have cs6 := conv_bytes w6 A6 ne c6 E OA6.out.rb
    have cs8 := conv_bytes w6 A8 ne c8 E OB6.out.rb
    have cs3 := conv_bytes w6 A3 ne c3 E V6.out.rb
    have ce : w6.cell? ⟨g5, n * 9 + 3, none⟩ = some (.int .i64 (-77)) := O9.out.at_ (k := n) (m := offM (-77)) (by rw [HLF.out, List.getElem?_append_right (by rw [HLN.out]; exact Nat.le_refl _), HLN.out, Nat.sub_self]; rfl) (j := 3) rfl
    have hss : sameB l l = true := (sameB_iff l l).2 rfl
    have hmsl : MS w6 (some ⟨g5, 0, none⟩) n l := by have := HMS.out w6 lf O9.out; rwa [HTK.out] at this
    have hsm := same_any (some ⟨g5, 0, none⟩) A0 n n c5 c0 l l w6 hmsl M6.out (by omega) (by omega) hcn5 hc
    rw [hss] at hsm
    have SM := Lib.hid hsm
    have ter : (er == er) = true := by simp
    clear hss hmsl hsm
    go_wp2_with fail
    refine SM.out.mono ?_
    rintro e w7 ⟨rfl, md, hw7⟩
    have OA7 : Hid (OB w7 w4.heap.size (.slice A6 ne c6) E) := Lib.hid (by rw [hw7]; exact OA6.out)
    have OB7 : Hid (OB w7 w5.heap.size (.slice A8 ne c8) E) := Lib.hid (by rw [hw7]; exact OB6.out)
    have V7 : Hid (OB w7 w1.heap.size (.slice A3 ne c3) E) := Lib.hid (by rw [hw7]; exact V6.out)
    have O10 : Hid (OM w7 w2.heap.size (.slice (some ⟨g5, 0, none⟩) (n + 1) c5) lf) := Lib.hid (by rw [hw7]; exact O9.out)
    have B8 : Hid (Below w.heap.size w w7) := Lib.hid (by rw [hw7]; exact below_drewN B7.out _)
    have hs7 : w7.heap.size = w6.heap.size := by rw [hw7]; rfl
    have ce7 : w7.cell? ⟨g5, n * 9 + 3, none⟩ = some (.int .i64 (-77)) := by rw [hw7]; exact ce
    have S7 := Lib.hid hs7
    have PAB : Hid (Apt (.slice A6 ne c6) (.slice A8 ne c8)) := Lib.hid (apt_later OA5.out OB6.out (Nat.le_refl _))
    have PAV : Hid (Apt (.slice A3 ne c3) (.slice A6 ne c6)) := Lib.hid (apt_later V3.out OA5.out (by have := S2.out; omega))
    clear hw7 hs7 ce cs6 cs8 cs3 SM O9 V6 M6 B7 OA6

    go_wp2_with fail
    go_loopw [93] (fun iv W => ∃ k : Nat, k ≤ ne ∧ iv = .int .i64 (k : Int) ∧ Hid (OB W w4.heap.size (.slice A6 ne c6) (List.replicate k 91 ++ E.drop k)) ∧ Hid (Chg (fun q => (Value.slice A6 ne c6).ownBlock = some q) w7 W)) (fun iv _ => ne - (intOf iv).toNat)
    case atStart => exact ⟨0, Nat.zero_le _, rfl, Lib.hid (by simpa using OA7.out), Lib.hid (Chg.refl _ _)⟩
    case round =>
      obtain ⟨k, hk, rfl, HO, HC⟩ := hrel
      by_cases hlt : k < ne
      · obtain ⟨g, hg⟩ : ∃ g, A6 = some ⟨g, 0, none⟩ := ob_some HO.out (by omega)
        obtain ⟨cc, hcc⟩ := fill_at E 91 (k := k) (by rw [← neE.out]; exact hlt)
        have HST := Lib.hid (fill_step E 91 (k := k) (by rw [← neE.out]; exact hlt))
        have ho := HO.out
        rw [hg] at ho
        have c0 : wr.cell? ⟨g, k, none⟩ = some (.int .u8 (cc.toNat : Int)) := ho.cellAt hcc
        have f0 : wr.frozen? ⟨g, k, none⟩ = false := ho.frozenAt k
        have hst : OB (wr.setCell ⟨g, k, none⟩ (.int .u8 91)) w4.heap.size (.slice (some ⟨g, 0, none⟩) ne c6) ((List.replicate k 91 ++ E.drop k).set k 91) := (ho.stored k 91).1
        rw [HST.out, ← hg] at hst
        have HS1 := Lib.hid hst
        have HC1 : Hid (Chg (fun q => (Value.slice A6 ne c6).ownBlock = some q) w7 (wr.setCell ⟨g, k, none⟩ (.int .u8 91))) := Lib.hid (HC.out.setCell (.inl (by rw [hg]; rfl)) _)
        clear hcc ho hst
        subst hg
        go_wp2_with fail
        go_roundw
        case rel => exact ⟨k + 1, by omega, by go_num, HS1, HC1⟩
        case measure => simp [intOf]; omega
      · obtain rfl : ne = k := by omega
        have HO2 := HO.out
        rw [List.drop_of_length_le (by rw [← neE.out]; exact Nat.le_refl _), List.append_nil] at HO2
        obtain ⟨w8, hw8⟩ : ∃ w8, w8 = wr := ⟨_, rfl⟩
        subst hw8
        have OA8 := Lib.hid HO2
        have OB8 : Hid (OB w8 w5.heap.size (.slice A8 ne c8) E) := Lib.hid (HC.out.ob OB7.out (fun q hq h => PAB.out q h hq))
        have V8 : Hid (OB w8 w1.heap.size (.slice A3 ne c3) E) := Lib.hid (HC.out.ob V7.out (fun q hq h => PAV.out q hq h))
        have O11 : Hid (OM w8 w2.heap.size (.slice (some ⟨g5, 0, none⟩) (n + 1) c5) lf) := Lib.hid (HC.out.own O10.out (fun q hq h => by
          have e1 : g5 = q := Option.some.inj hq
          have := (OA5.out.lt q h).1
          have := HG5.out
          omega))
        have B9 : Hid (Below w.heap.size w w8) := Lib.hid (B8.out.trans (HC.out.below (B := w.heap.size) (fun q hq h => by
          have := (OA5.out.lt q h).1
          have := B5.out.size
          omega) B8.out.size))
        have S8 : Hid (w6.heap.size ≤ w8.heap.size) := Lib.hid (by have := HC.out.size; rw [S7.out] at this; exact this)
        have cs8 := conv_bytes w8 A8 ne c8 E OB8.out.rb
        have cs3 := conv_bytes w8 A3 ne c3 E V8.out.rb
        clear HO HO2 HC OA7 OB7 V7 O10 ce7 PAV
        go_wp2_with fail
        clear cs8 cs3
        go_loopw [107] (fun iv W => ∃ k : Nat, k ≤ n + 1 ∧ iv = .int .i64 (k : Int) ∧ Hid (OM W w2.heap.size (.slice (some ⟨g5, 0, none⟩) (n + 1) c5) ((lf.take k).map turnM ++ lf.drop k)) ∧ Hid (Chg (fun q => q = g5) w8 W)) (fun iv _ => n + 1 - (intOf iv).toNat)
        case atStart => exact ⟨0, Nat.zero_le _, rfl, Lib.hid (by simpa using O11.out), Lib.hid (Chg.refl _ _)⟩
        case round =>
          obtain ⟨k, hk, rfl, HO, HC⟩ := hrel
          by_cases hlt : k < n + 1
          · obtain ⟨m, hm⟩ : ∃ m, lf[k]? = some m := ⟨_, List.getElem?_eq_getElem (by rw [HLFL.out]; exact hlt)⟩
            obtain ⟨hat, hset⟩ := turn_step lf hm
            have d3 : wr.cell? ⟨g5, k * 9 + 3, none⟩ = some (.int .i64 m.a3) := HO.out.at_ hat (j := 3) rfl
            have f3 : wr.frozen? ⟨g5, k * 9 + 3, none⟩ = false := HO.out.frozen _
            have ho1 := HO.out.stored hat (j := 3) (by decide) (bits .xor .i64 m.a3 5)
            have HSET := Lib.hid hset
            have hlt2 : k < ((lf.take k).map turnM ++ lf.drop k).length := (List.getElem?_eq_some_iff.1 hat).1
            obtain ⟨x3, hx3⟩ : ∃ x3, x3 = bits .xor .i64 m.a3 5 := ⟨_, rfl⟩
            obtain ⟨x8, hx8⟩ : ∃ x8, x8 = bits .xor .i64 m.a8 1099511627776 := ⟨_, rfl⟩
            have ex3 := hx3.symm
            have ex8 := hx8.symm
            rw [ex3] at ho1
            have hat1 : (((lf.take k).map turnM ++ lf.drop k).set k (m.put 3 x3))[k]? = some (m.put 3 x3) := by rw [List.getElem?_set_self hlt2]
            have ho2 := ho1.stored hat1 (j := 8) (by decide) x8
            have d8 := ho1.at_ hat1 (j := 8) (u := .int .i64 m.a8) rfl
            have f8 := ho1.frozen (k * 9 + 8)
            rw [List.set_set, show (m.put 3 x3).put 8 x8 = turnM m from by rw [hx3, hx8]; rfl, HSET.out] at ho2
            have HO3 := Lib.hid ho2
            have HC3 : Hid (Chg (fun q => q = g5) w8 ((wr.setCell ⟨g5, k * 9 + 3, none⟩ (.int .i64 x3)).setCell ⟨g5, k * 9 + 8, none⟩ (.int .i64 x8))) := Lib.hid ((HC.out.setCell (.inl rfl) _).setCell (.inl rfl) _)
            clear hm hat hset hlt2 hx3 hx8 hat1 ho1 ho2
            go_upto_region 24 with fail
            obtain ⟨w9, hw9⟩ : ∃ w9, w9 = wr.setCell ⟨g5, k * 9 + 3, none⟩ (.int .i64 x3) := ⟨_, rfl⟩
            rw [← hw9] at HO3 HC3 d8 f8 ⊢
            clear hw9 d3 f3
            go_wp2_with fail
            go_roundw
            case rel => exact ⟨k + 1, by omega, by go_num, HO3, HC3⟩
            case measure => simp [intOf]; omega
          · obtain rfl : n + 1 = k := by omega
            have ho := HO.out
            rw [List.take_of_length_le (by rw [HLFL.out]; exact Nat.le_refl _), List.drop_of_length_le (by rw [HLFL.out]; exact Nat.le_refl _), List.append_nil] at ho
            obtain ⟨w10, hw10⟩ : ∃ w10, w10 = wr := ⟨_, rfl⟩
            subst hw10
            have OA10 : Hid (OB w10 w4.heap.size (.slice A6 ne c6) (List.replicate ne 91)) := Lib.hid (HC.out.ob OA8.out (fun q hq h => by
              have := (OA5.out.lt q hq).1
              have := HG5.out
              omega))
            have OB10 : Hid (OB w10 w5.heap.size (.slice A8 ne c8) E) := Lib.hid (HC.out.ob OB8.out (fun q hq h => by
              have := (OB6.out.lt q hq).1
              have := HG5.out
              have := S3.out
              omega))
            have B10 : Hid (Below w.heap.size w w10) := Lib.hid (B9.out.trans (HC.out.below (B := w.heap.size) (fun q hq h => by
              have := HG5.out
              have := S1.out
              omega) B9.out.size))
            have S10 : Hid (w6.heap.size ≤ w10.heap.size) := Lib.hid (Nat.le_trans S8.out HC.out.size)
            obtain ⟨l2, hl2⟩ : ∃ l2, l2 = (lf.map turnM).take n := ⟨_, rfl⟩
            have hms2 := HMS.out w10 _ ho
            rw [← hl2] at hms2
            have MS10 := Lib.hid hms2
            have T10 := Lib.hid (HT.out.keep B10.out)
            have EC := Lib.hid (enc_all (some ⟨g5, 0, none⟩) n c5 l2 w10 T10.out hms2 hcn5 (by omega))
            clear ho HO HC hl2 hms2 OA8 OB8 V8 O11 B9
            go_wp2_with fail
            refine EC.out.mono ?_
            intro e w11 hpost
            obtain ⟨vc, rfl, hoc, hb11⟩ := hpost
            obtain ⟨E2, hE2⟩ : ∃ E2, E2 = encR l2 := ⟨_, rfl⟩
            obtain ⟨er2, hEr2⟩ : ∃ er2, er2 = errR l2 := ⟨_, rfl⟩
            rw [← hE2] at hoc
            rw [← hEr2]
            have HE2 := Lib.hid hE2; have HER2 := Lib.hid hEr2
            obtain ⟨A12, c12, rfl, hc12, _, _⟩ := hoc.form
            obtain ⟨n2, hn2⟩ : ∃ n2, n2 = E2.length := ⟨_, rfl⟩
            have n2E := Lib.hid hn2
            have n2B : Hid (n2 ≤ 600) := Lib.hid (by rw [hn2, hE2]; exact encR_len l2)
            have hn2b := n2B.out
            rw [← hn2] at hoc hc12 ⊢
            have OC11 := Lib.hid hoc
            have OA11 := Lib.hid (OA10.out.keep hb11); have OB11 := Lib.hid (OB10.out.keep hb11); have B11 := Lib.hid (B10.out.trans (hb11.mono B10.out.size)); have MS11 := Lib.hid (MS10.out.keep hb11)
            have SZ11 := Lib.hid hb11.size
            have ED := Lib.hid (refEnc_all (some ⟨g5, 0, none⟩) n c5 l2 w11 MS11.out hcn5 (by omega))
            clear hoc hb11 hE2 hEr2 hn2 EC OA10 OB10
            go_wp2_with fail
            refine ED.out.mono ?_
            intro e w12 hpost
            obtain ⟨vd, rfl, hod, hb12⟩ := hpost
            rw [← HE2.out] at hod
            rw [← HER2.out]
            obtain ⟨A13, c13, rfl, _, _, hrd⟩ := hod.form
            rw [← n2E.out] at hrd ⊢
            have OA12 := Lib.hid (OA11.out.keep hb12); have OB12 := Lib.hid (OB11.out.keep hb12); have OC12 := Lib.hid (OC11.out.keep hb12); have B12 := Lib.hid (B11.out.trans (hb12.mono B11.out.size))
            have cs12 := conv_bytes w12 A12 n2 c12 E2 OC12.out.rb
            have cs13 := conv_bytes w12 A13 n2 c13 E2 hrd
            have PAC : Hid (Apt (.slice A6 ne c6) (.slice A12 n2 c12)) := Lib.hid (apt_later OA5.out OC11.out (by have := S4.out; have := S10.out; omega))
            have PBC : Hid (Apt (.slice A8 ne c8) (.slice A12 n2 c12)) := Lib.hid (apt_later OB6.out OC11.out S10.out)
            have ter2 : (er2 == er2) = true := by simp
            have SZ12 : Hid (w10.heap.size ≤ w12.heap.size) := Lib.hid (Nat.le_trans SZ11.out hb12.size)
            clear hod hb12 hrd ED OA11 OB11
            go_wp2_with fail
            clear cs12 cs13
            go_wp2_with fail
            go_loopw [161] (fun iv W => ∃ k : Nat, k ≤ ne ∧ iv = .int .i64 (k : Int) ∧ Hid (OB W w5.heap.size (.slice A8 ne c8) (List.replicate k 92 ++ E.drop k)) ∧ Hid (Chg (fun q => (Value.slice A8 ne c8).ownBlock = some q) w12 W)) (fun iv _ => ne - (intOf iv).toNat)
            case atStart => exact ⟨0, Nat.zero_le _, rfl, Lib.hid (by simpa using OB12.out), Lib.hid (Chg.refl _ _)⟩
            case round =>
              obtain ⟨k, hk, rfl, HO, HC⟩ := hrel
              by_cases hlt : k < ne
              · obtain ⟨g, hg⟩ : ∃ g, A8 = some ⟨g, 0, none⟩ := ob_some HO.out (by omega)
                obtain ⟨cc, hcc⟩ := fill_at E 92 (k := k) (by rw [← neE.out]; exact hlt)
                have HST := Lib.hid (fill_step E 92 (k := k) (by rw [← neE.out]; exact hlt))
                have ho := HO.out
                rw [hg] at ho
                have c0 : wr.cell? ⟨g, k, none⟩ = some (.int .u8 (cc.toNat : Int)) := ho.cellAt hcc
                have f0 : wr.frozen? ⟨g, k, none⟩ = false := ho.frozenAt k
                have hst : OB (wr.setCell ⟨g, k, none⟩ (.int .u8 92)) w5.heap.size (.slice (some ⟨g, 0, none⟩) ne c8) ((List.replicate k 92 ++ E.drop k).set k 92) := (ho.stored k 92).1
                rw [HST.out, ← hg] at hst
                have HS1 := Lib.hid hst
                have HC1 : Hid (Chg (fun q => (Value.slice A8 ne c8).ownBlock = some q) w12 (wr.setCell ⟨g, k, none⟩ (.int .u8 92))) := Lib.hid (HC.out.setCell (.inl (by rw [hg]; rfl)) _)
                clear hcc ho hst
                subst hg
                go_wp2_with fail
                go_roundw
                case rel => exact ⟨k + 1, by omega, by go_num, HS1, HC1⟩
                case measure => simp [intOf]; omega
              · obtain rfl : ne = k := by omega
                have HO2 := HO.out
                rw [List.drop_of_length_le (by rw [← neE.out]; exact Nat.le_refl _), List.append_nil] at HO2
                obtain ⟨w13, hw13⟩ : ∃ w13, w13 = wr := ⟨_, rfl⟩
                subst hw13
                have OB13 := Lib.hid HO2 -- b
                have SZ13 : Hid (w10.heap.size ≤ w13.heap.size) := Lib.hid (Nat.le_trans SZ12.out HC.out.size)
                have OA13 : Hid (OB w13 w4.heap.size (.slice A6 ne c6) (List.replicate ne 91)) := Lib.hid (HC.out.ob OA12.out (fun q hq h => PAB.out q hq h))
                have OC13 : Hid (OB w13 w10.heap.size (.slice A12 n2 c12) E2) := Lib.hid (HC.out.ob OC12.out (fun q hq h => PBC.out q h hq))
                have B13 : Hid (Below w.heap.size w w13) := Lib.hid (B12.out.trans (HC.out.below (B := w.heap.size) (fun q hq h => by
                  have := (OB6.out.lt q h).1
                  have := S3.out
                  have := B5.out.size
                  omega) B12.out.size))
                clear HO HO2 HC OA12 OB12 OC12
                go_wp2_with fail
                go_loopw [170] (fun iv W => ∃ k : Nat, k ≤ n2 ∧ iv = .int .i64 (k : Int) ∧ Hid (OB W w10.heap.size (.slice A12 n2 c12) (List.replicate k 93 ++ E2.drop k)) ∧ Hid (Chg (fun q => (Value.slice A12 n2 c12).ownBlock = some q) w13 W)) (fun iv _ => n2 - (intOf iv).toNat)
                case atStart => exact ⟨0, Nat.zero_le _, rfl, Lib.hid (by simpa using OC13.out), Lib.hid (Chg.refl _ _)⟩
                case round =>
                  obtain ⟨k, hk, rfl, HO, HC⟩ := hrel
                  by_cases hlt : k < n2
                  · obtain ⟨g, hg⟩ : ∃ g, A12 = some ⟨g, 0, none⟩ := ob_some HO.out (by omega)
                    obtain ⟨cc, hcc⟩ := fill_at E2 93 (k := k) (by rw [← n2E.out]; exact hlt)
                    have HST := Lib.hid (fill_step E2 93 (k := k) (by rw [← n2E.out]; exact hlt))
                    have ho := HO.out
                    rw [hg] at ho
                    have c0 : wr.cell? ⟨g, k, none⟩ = some (.int .u8 (cc.toNat : Int)) := ho.cellAt hcc
                    have f0 : wr.frozen? ⟨g, k, none⟩ = false := ho.frozenAt k
                    have hst : OB (wr.setCell ⟨g, k, none⟩ (.int .u8 93)) w10.heap.size (.slice (some ⟨g, 0, none⟩) n2 c12) ((List.replicate k 93 ++ E2.drop k).set k 93) := (ho.stored k 93).1
                    rw [HST.out, ← hg] at hst
                    have HS1 := Lib.hid hst
                    have HC1 : Hid (Chg (fun q => (Value.slice A12 n2 c12).ownBlock = some q) w13 (wr.setCell ⟨g, k, none⟩ (.int .u8 93))) := Lib.hid (HC.out.setCell (.inl (by rw [hg]; rfl)) _)
                    clear hcc ho hst
                    subst hg
                    go_wp2_with fail
                    go_roundw
                    case rel => exact ⟨k + 1, by omega, by go_num, HS1, HC1⟩
                    case measure => simp [intOf]; omega
                  · obtain rfl : n2 = k := by omega
                    have HO2 := HO.out
                    rw [List.drop_of_length_le (by rw [← n2E.out]; exact Nat.le_refl _), List.append_nil] at HO2
                    obtain ⟨w14, hw14⟩ : ∃ w14, w14 = wr := ⟨_, rfl⟩
                    subst hw14
                    have OC14 : Hid (OB w14 w10.heap.size (.slice A12 n2 c12) (List.replicate (n2 + 0) 93)) := Lib.hid HO2
                    have SZ14 : Hid (w10.heap.size ≤ w14.heap.size) := Lib.hid (Nat.le_trans SZ13.out HC.out.size)
                    have OA14 : Hid (OB w14 w4.heap.size (.slice A6 ne c6) (List.replicate (ne + 0) 91)) := Lib.hid (HC.out.ob OA13.out (fun q hq h => PAC.out q hq h))
                    have OB14 : Hid (OB w14 w5.heap.size (.slice A8 ne c8) (List.replicate (ne + 0) 92)) := Lib.hid (HC.out.ob OB13.out (fun q hq h => PBC.out q hq h))
                    have B14 : Hid (Below w.heap.size w w14) := Lib.hid (B13.out.trans (HC.out.below (B := w.heap.size) (fun q hq h => by
                      have := (OC11.out.lt q h).1
                      have := B10.out.size
                      omega) B13.out.size))
                    have OA14B : Hid (w4.heap.size ≤ w14.heap.size) := Lib.hid (by have := HC.out.size; have := SZ13.out; have := S3.out; have := S4.out; have := S10.out; omega)
                    clear HO HO2 HC OA13 OB13 OC13
                    go_wp2_with fail
                    go_loopw [6, 177] (fun sv iv W => ∃ j : Nat, j ≤ 3 ∧ iv = .int .i64 (j : Int) ∧ Hid (OB W w4.heap.size sv (List.replicate (ne + j) 91)) ∧ Hid (Chg (fun q => (Value.slice A6 ne c6).ownBlock = some q) w14 W) ∧ Hid (FreshV w14 (Value.slice A6 ne c6) sv)) (fun _ iv _ => 3 - (intOf iv).toNat)
                    case atStart => exact ⟨0, by omega, rfl, OA14, Lib.hid (Chg.refl _ _), Lib.hid (fun q hq => .inl hq)⟩
                    case round =>
                      obtain ⟨j, hj, rfl, HO, HC, HF⟩ := hrel
                      by_cases hlt : j < 3
                      · have hb0 : Below wr.heap.size wr (wr.alloc (.cells #[.int .u8 91] 5)) := (Below.refl _ _).alloc (Nat.le_refl _) _
                        have O1 := Lib.hid (HO.out.keep hb0)
                        have R1 : Hid (RB (wr.alloc (.cells #[.int .u8 91] 5)) (some ⟨wr.heap.size, 0, none⟩) 1 [91]) := Lib.hid (RB.new' wr 5 (0, 0) #[.int .u8 91] [91] rfl 1 wr.heap.size rfl rfl)
                        have C1 := Lib.hid (HC.out.alloc (.cells #[.int .u8 91] 5))
                        have HBS : Hid (w4.heap.size ≤ (wr.alloc (.cells #[.int .u8 91] 5)).heap.size) := Lib.hid (by have := HC.out.size; have := OA14B.out; simp; omega)
                        have HLL : Hid ((List.replicate (ne + j) (91 : UInt8)).length + 1 ≤ 140737488355328) := Lib.hid (by have := neB.out; simp; omega)
                        have HW := Lib.hid hb0.size
                        clear hb0
                        go_wp2_with ((at_builtin; go_must (refine append_bytes rfl (.tmp 179) (.tmp 180) rfl w4.heap.size u6 (List.replicate (ne + j) 91) rfl O1.out (some ⟨wr.heap.size, 0, none⟩) 1 1 [91] rfl R1.out HLL.out HBS.out ?_); intro v' w' ho' hg' ha'; refine halt ?_))
                        refine unhalt ?_
                        have HN : Hid (OB w' w4.heap.size v' (List.replicate (ne + (j + 1)) 91)) := Lib.hid (by rw [← Nat.add_assoc, List.replicate_succ']; exact ho')
                        have HC1 : Hid (Chg (fun q => (Value.slice A6 ne c6).ownBlock = some q) w14 w') := Lib.hid (C1.out.grown hg' (fun q hq hlt => by
                          rcases HF.out q hq with h | h
                          · exact h
                          · omega))
                        have HF1 : Hid (FreshV w14 (Value.slice A6 ne c6) v') := Lib.hid (fun q hq => by
                          rcases ha' with h | h
                          · rw [h] at hq; exact HF.out q hq
                          · right
                            rw [hq] at h
                            have := Option.some.inj h
                            have := C1.out.size
                            omega)
                        clear ho' hg' ha'
                        go_wp2_with fail
                        go_roundw
                        first
                          | (case rel => exact ⟨j + 1, by omega, by go_num, HN, HC1, HF1⟩)
                          | (case rel => (repeat apply Exists.intro); exact ⟨⟨j + 1, by omega, by go_num, HN, HC1, HF1⟩, rfl⟩)
                        case measure => simp [intOf]; omega
                      · obtain rfl : 3 = j := by omega
                        obtain ⟨w15, hw15⟩ : ∃ w15, w15 = wr := ⟨_, rfl⟩
                        subst hw15
                        obtain ⟨A15, c15, rfl, _, _, _⟩ := HO.out.form
                        have OA15 := HO
                        rw [List.length_replicate] at OA15 HF ⊢
                        have OB15 : Hid (OB w15 w5.heap.size (.slice A8 ne c8) (List.replicate (ne + 0) 92)) := Lib.hid (HC.out.ob OB14.out (fun q hq h => PAB.out q h hq))
                        have OC15 : Hid (OB w15 w10.heap.size (.slice A12 n2 c12) (List.replicate (n2 + 0) 93)) := Lib.hid (HC.out.ob OC14.out (fun q hq h => PAC.out q h hq))
                        have PAB2 : Hid (Apt (.slice A15 (ne + 3) c15) (.slice A8 ne c8)) := Lib.hid (apt_fresh HF.out PAB.out (fun q hq => (OB14.out.lt q hq).2))
                        have PAC2 : Hid (Apt (.slice A15 (ne + 3) c15) (.slice A12 n2 c12)) := Lib.hid (apt_fresh HF.out PAC.out (fun q hq => (OC14.out.lt q hq).2))
                        have B15 : Hid (Below w.heap.size w w15) := Lib.hid (B14.out.trans (HC.out.below (B := w.heap.size) (fun q hq h => by
                          have := (OA5.out.lt q h).1
                          have := B5.out.size
                          omega) B14.out.size))
                        have OB15B : Hid (w5.heap.size ≤ w15.heap.size) := Lib.hid (by have := HC.out.size; have := OA14B.out; have := SZ14.out; have := S4.out; have := S10.out; omega)
                        have SZ15 : Hid (w10.heap.size ≤ w15.heap.size) := Lib.hid (Nat.le_trans SZ14.out HC.out.size)
                        clear HO HC HF OA14 OB14 OC14 PAB PAC
                        go_wp2_with fail
                        go_loopw [8, 183] (fun sv iv W => ∃ j : Nat, j ≤ 3 ∧ iv = .int .i64 (j : Int) ∧ Hid (OB W w5.heap.size sv (List.replicate (ne + j) 92)) ∧ Hid (Chg (fun q => (Value.slice A8 ne c8).ownBlock = some q) w15 W) ∧ Hid (FreshV w15 (Value.slice A8 ne c8) sv)) (fun _ iv _ => 3 - (intOf iv).toNat)
                        case atStart => exact ⟨0, by omega, rfl, OB15, Lib.hid (Chg.refl _ _), Lib.hid (fun q hq => .inl hq)⟩
                        case round =>
                          obtain ⟨j, hj, rfl, HO, HC, HF⟩ := hrel
                          by_cases hlt : j < 3
                          · have hb0 : Below wr.heap.size wr (wr.alloc (.cells #[.int .u8 92] 5)) := (Below.refl _ _).alloc (Nat.le_refl _) _
                            have O1 := Lib.hid (HO.out.keep hb0)
                            have R1 : Hid (RB (wr.alloc (.cells #[.int .u8 92] 5)) (some ⟨wr.heap.size, 0, none⟩) 1 [92]) := Lib.hid (RB.new' wr 5 (0, 0) #[.int .u8 92] [92] rfl 1 wr.heap.size rfl rfl)
                            have C1 := Lib.hid (HC.out.alloc (.cells #[.int .u8 92] 5))
                            have HBS : Hid (w5.heap.size ≤ (wr.alloc (.cells #[.int .u8 92] 5)).heap.size) := Lib.hid (by have := HC.out.size; have := OB15B.out; simp; omega)
                            have HLL : Hid ((List.replicate (ne + j) (92 : UInt8)).length + 1 ≤ 140737488355328) := Lib.hid (by have := neB.out; simp; omega)
                            have HW := Lib.hid hb0.size
                            clear hb0
                            go_wp2_with ((at_builtin; go_must (refine append_bytes rfl (.tmp 185) (.tmp 186) rfl w5.heap.size u8 (List.replicate (ne + j) 92) rfl O1.out (some ⟨wr.heap.size, 0, none⟩) 1 1 [92] rfl R1.out HLL.out HBS.out ?_); intro v' w' ho' hg' ha'; refine halt ?_))
                            refine unhalt ?_
                            have HN : Hid (OB w' w5.heap.size v' (List.replicate (ne + (j + 1)) 92)) := Lib.hid (by rw [← Nat.add_assoc, List.replicate_succ']; exact ho')
                            have HC1 : Hid (Chg (fun q => (Value.slice A8 ne c8).ownBlock = some q) w15 w') := Lib.hid (C1.out.grown hg' (fun q hq hlt => by
                              rcases HF.out q hq with h | h
                              · exact h
                              · omega))
                            have HF1 : Hid (FreshV w15 (Value.slice A8 ne c8) v') := Lib.hid (fun q hq => by
                              rcases ha' with h | h
                              · rw [h] at hq; exact HF.out q hq
                              · right
                                rw [hq] at h
                                have := Option.some.inj h
                                have := C1.out.size
                                omega)
                            clear ho' hg' ha'
                            go_wp2_with fail
                            go_roundw
                            first
                              | (case rel => exact ⟨j + 1, by omega, by go_num, HN, HC1, HF1⟩)
                              | (case rel => (repeat apply Exists.intro); exact ⟨⟨j + 1, by omega, by go_num, HN, HC1, HF1⟩, rfl⟩)
                            case measure => simp [intOf]; omega
                          · obtain rfl : 3 = j := by omega
                            obtain ⟨w16, hw16⟩ : ∃ w16, w16 = wr := ⟨_, rfl⟩
                            subst hw16
                            obtain ⟨A16, c16, rfl, _, _, _⟩ := HO.out.form
                            have OB16 := HO
                            rw [List.length_replicate] at OB16 HF ⊢
                            have OA16 : Hid (OB w16 w4.heap.size (.slice A15 (ne + 3) c15) (List.replicate (ne + 3) 91)) := Lib.hid (HC.out.ob OA15.out (fun q hq h => PAB2.out q hq h))
                            have OC16 : Hid (OB w16 w10.heap.size (.slice A12 n2 c12) (List.replicate (n2 + 0) 93)) := Lib.hid (HC.out.ob OC15.out (fun q hq h => PBC.out q h hq))
                            have PBC2 : Hid (Apt (.slice A16 (ne + 3) c16) (.slice A12 n2 c12)) := Lib.hid (apt_fresh HF.out PBC.out (fun q hq => (OC15.out.lt q hq).2))
                            have B16 : Hid (Below w.heap.size w w16) := Lib.hid (B15.out.trans (HC.out.below (B := w.heap.size) (fun q hq h => by
                              have := (OB6.out.lt q h).1
                              have := S3.out
                              have := B5.out.size
                              omega) B15.out.size))
                            have OC16B : Hid (w10.heap.size ≤ w16.heap.size) := Lib.hid (Nat.le_trans SZ15.out HC.out.size)
                            clear HO HC HF OA15 OB15 OC15 PBC PAB2
                            go_wp2_with fail
                            go_loopw [12, 189] (fun sv iv W => ∃ j : Nat, j ≤ 3 ∧ iv = .int .i64 (j : Int) ∧ Hid (OB W w10.heap.size sv (List.replicate (n2 + j) 93)) ∧ Hid (Chg (fun q => (Value.slice A12 n2 c12).ownBlock = some q) w16 W) ∧ Hid (FreshV w16 (Value.slice A12 n2 c12) sv)) (fun _ iv _ => 3 - (intOf iv).toNat)
                            case atStart => exact ⟨0, by omega, rfl, OC16, Lib.hid (Chg.refl _ _), Lib.hid (fun q hq => .inl hq)⟩
                            case round =>
                              obtain ⟨j, hj, rfl, HO, HC, HF⟩ := hrel
                              by_cases hlt : j < 3
                              · have hb0 : Below wr.heap.size wr (wr.alloc (.cells #[.int .u8 93] 5)) := (Below.refl _ _).alloc (Nat.le_refl _) _
                                have O1 := Lib.hid (HO.out.keep hb0)
                                have R1 : Hid (RB (wr.alloc (.cells #[.int .u8 93] 5)) (some ⟨wr.heap.size, 0, none⟩) 1 [93]) := Lib.hid (RB.new' wr 5 (0, 0) #[.int .u8 93] [93] rfl 1 wr.heap.size rfl rfl)
                                have C1 := Lib.hid (HC.out.alloc (.cells #[.int .u8 93] 5))
                                have HBS : Hid (w10.heap.size ≤ (wr.alloc (.cells #[.int .u8 93] 5)).heap.size) := Lib.hid (by have := HC.out.size; have := OC16B.out; simp; omega)
                                have HLL : Hid ((List.replicate (n2 + j) (93 : UInt8)).length + 1 ≤ 140737488355328) := Lib.hid (by have := n2B.out; simp; omega)
                                have HW := Lib.hid hb0.size
                                clear hb0
                                go_wp2_with ((at_builtin; go_must (refine append_bytes rfl (.tmp 191) (.tmp 192) rfl w10.heap.size u12 (List.replicate (n2 + j) 93) rfl O1.out (some ⟨wr.heap.size, 0, none⟩) 1 1 [93] rfl R1.out HLL.out HBS.out ?_); intro v' w' ho' hg' ha'; refine halt ?_))
                                refine unhalt ?_
                                have HN : Hid (OB w' w10.heap.size v' (List.replicate (n2 + (j + 1)) 93)) := Lib.hid (by rw [← Nat.add_assoc, List.replicate_succ']; exact ho')
                                have HC1 : Hid (Chg (fun q => (Value.slice A12 n2 c12).ownBlock = some q) w16 w') := Lib.hid (C1.out.grown hg' (fun q hq hlt => by
                                  rcases HF.out q hq with h | h
                                  · exact h
                                  · omega))
                                have HF1 : Hid (FreshV w16 (Value.slice A12 n2 c12) v') := Lib.hid (fun q hq => by
                                  rcases ha' with h | h
                                  · rw [h] at hq; exact HF.out q hq
                                  · right
                                    rw [hq] at h
                                    have := Option.some.inj h
                                    have := C1.out.size
                                    omega)
                                clear ho' hg' ha'
                                go_wp2_with fail
                                go_roundw
                                first
                                  | (case rel => exact ⟨j + 1, by omega, by go_num, HN, HC1, HF1⟩)
                                  | (case rel => (repeat apply Exists.intro); exact ⟨⟨j + 1, by omega, by go_num, HN, HC1, HF1⟩, rfl⟩)
                                case measure => simp [intOf]; omega
                              · obtain rfl : 3 = j := by omega
                                obtain ⟨w17, hw17⟩ : ∃ w17, w17 = wr := ⟨_, rfl⟩
                                subst hw17
                                obtain ⟨A17, c17, rfl, _, _, _⟩ := HO.out.form
                                have OC17 := HO
                                rw [List.length_replicate] at OC17 HF ⊢
                                have OA17 : Hid (OB w17 w4.heap.size (.slice A15 (ne + 3) c15) (List.replicate (ne + 3) 91)) := Lib.hid (HC.out.ob OA16.out (fun q hq h => PAC2.out q hq h))
                                have OB17 : Hid (OB w17 w5.heap.size (.slice A16 (ne + 3) c16) (List.replicate (ne + 3) 92)) := Lib.hid (HC.out.ob OB16.out (fun q hq h => PBC2.out q hq h))
                                have B17 : Hid (Below w.heap.size w w17) := Lib.hid (B16.out.trans (HC.out.below (B := w.heap.size) (fun q hq h => by
                                  have := (OC11.out.lt q h).1
                                  have := B10.out.size
                                  omega) B16.out.size))
                                have hbn := neB.out
                                have hb2 := n2B.out
                                have F1 : Hid (Calls Tryd.prog 11 #[.slice A15 (ne + 3) c15, .int .u8 91] w17 fun e w' => e = .returned (.bool true) ∧ w17 = w') := Lib.hid (full_any A15 (ne + 3) c15 _ 91 w17 OA17.out.rb (fun c hc => List.eq_of_mem_replicate hc) (by omega))
                                have F2 : Hid (Calls Tryd.prog 11 #[.slice A16 (ne + 3) c16, .int .u8 92] w17 fun e w' => e = .returned (.bool true) ∧ w17 = w') := Lib.hid (full_any A16 (ne + 3) c16 _ 92 w17 OB17.out.rb (fun c hc => List.eq_of_mem_replicate hc) (by omega))
                                have F3 : Hid (Calls Tryd.prog 11 #[.slice A17 (n2 + 3) c17, .int .u8 93] w17 fun e w' => e = .returned (.bool true) ∧ w17 = w') := Lib.hid (full_any A17 (n2 + 3) c17 _ 93 w17 OC17.out.rb (fun c hc => List.eq_of_mem_replicate hc) (by omega))
                                clear HO HC HF hbn hb2
                                go_wp2_with fail
                                refine F1.out.mono ?_
                                rintro e w' ⟨rfl, rfl⟩
                                go_wp2_with fail
                                refine F2.out.mono ?_
                                rintro e w' ⟨rfl, rfl⟩
                                go_wp2_with fail
                                refine F3.out.mono ?_
                                rintro e w' ⟨rfl, rfl⟩
                                have HF : Hid (EPost w (.returned (.bool true)) w17) := Lib.hid ⟨rfl, B17.out⟩
                                go_wp2_with fail
                                go_ret
                                exact HF.out
end Go.Proofs.YtpeaacbbfkanmaaDoor
