/- THE WALK of alike (package heronlaw22): two disks that are alike are told to be. -/
import Derived.Test.YtlojmmcagglpoaaGreatEPair2
import Derived.Test.YtlojmmcagglpoaaGreatEStr
import Derived.Test.YtlojmmcagglpoaaGreatETextsP
namespace Go.Proofs.YtlojmmcagglpoaaGreat
open Go.RowKit Go.Maps
theorem sti_ok {r : Rd} {n : Nat} (hok : r.Ok n) (nm : List UInt8) : okInt (r.sti nm).1 ∧ okInt (r.sti nm).2.2.2.1 := by
  have z : okInt 0 := ⟨by decide, by decide⟩
  have hb := hok.big
  unfold Rd.sti
  split
  · split
    · exact ⟨z, z⟩
    · split
      · rename_i y x hy hx
        have h1 := hok.bl y (List.mem_of_getElem? hy)
        have h2 := hok.file_le nm
        have h3 := hok.il
        exact ⟨by unfold okInt; simp only; omega, by unfold okInt; simp only; omega⟩
      · exact ⟨z, z⟩
  · exact ⟨z, z⟩
def AlQ (W : World) (e : Ending) (w' : World) : Prop := e = .returned (.bool true) ∧ Below W.heap.size W w'
set_option maxRecDepth 20000 in
set_option maxHeartbeats 4000000 in
theorem alike_any {W : World} {N : Nat} {C : Nat → Nat} {c c' p q n : Nat} {d : Dk} {r : Rd} (hd : DC W N C c p n d) (hr : RC W N C c' q r) (al : Alike d r n) (hn : n < 1000000) : Calls Tryz.prog 25 #[.pointer (some ⟨p, 0, none⟩), .pointer (some ⟨q, 0, none⟩)] W (AlQ W) := by
  have CN := Lib.hid (ask_names (p := p) al hn hd)
  have CR := Lib.hid (fun w (hb : Below W.heap.size W w) => ask_all (q := q) al.rok (hr.keep hb (Sam.refl _ _)))
  have HSD := Lib.hid (fun w (hb : Below W.heap.size W w) nm => ask_stat (p := p) al nm (hd.keep hb (Sam.refl _ _)))
  have HSR := Lib.hid (fun w (hb : Below W.heap.size W w) nm => ask_rstat (q := q) al.rok nm (hr.keep hb (Sam.refl _ _)))
  have HRD := Lib.hid (fun w (hb : Below W.heap.size W w) nm => ask_read (p := p) al (r.sti nm).1 (r.sti nm).2.2.1 0 (r.sti nm).2.2.2.1 (sti_ok al.rok nm).1 ⟨by decide, by decide⟩ (sti_ok al.rok nm).2 (hd.keep hb (Sam.refl _ _)))
  have HRR := Lib.hid (fun w (hb : Below W.heap.size W w) nm => ask_rread (q := q) al hd.ok (r.sti nm).1 (r.sti nm).2.2.1 0 (r.sti nm).2.2.2.1 ⟨by decide, by decide⟩ (sti_ok al.rok nm).2 (hr.keep hb (Sam.refl _ _)))
  have HLN : Hid (r.all.length ≤ 1000000) := Lib.hid (Nat.le_trans r.all_len (Nat.le_trans al.rok.nl al.rok.big))
  clear hd hr al hn
  go_enter Tryz.func25, Tryz.ntmps25
  go_wp2_with fail
  refine CN.out.mono ?_
  rintro e w1 ⟨v1, rfl, ho1, hb1⟩
  have B1 := Lib.hid hb1
  have O1 := Lib.hid ho1
  clear CN hb1 ho1
  go_wp2_with fail
  refine (CR.out w1 B1.out).mono ?_
  rintro e w2 ⟨v2, rfl, ho2, hb2⟩
  have B2 : Hid (Below W.heap.size W w2) := Lib.hid (B1.out.trans (hb2.mono B1.out.size))
  obtain ⟨L, hL⟩ : ∃ L, L = r.all.length := ⟨_, rfl⟩
  rw [← hL] at O1 ho2 HLN
  obtain ⟨A1, cp1, rfl, hc1, _⟩ := own_form O1.out
  obtain ⟨A2, cp2, rfl, hc2, _⟩ := own_form ho2
  have T1 : Hid (TX w2 A1 L r.all) := Lib.hid (TX.of_own hL.symm (own_keep O1.out hb2))
  have T2 : Hid (TX w2 A2 L r.all) := Lib.hid (TX.of_own hL.symm ho2)
  clear O1 ho2 hb2 CR B1 hL
  have hLb := HLN.out
  go_wp2_with fail
  go_loopw [26] (fun s26 w => ∃ k : Nat, s26 = .int .i64 (k : Int) ∧ k ≤ L ∧ Hid (Below w2.heap.size w2 w)) (fun s26 _ => L - (intOf s26).toNat)
  case atStart => exact ⟨0, rfl, Nat.zero_le _, Lib.hid (Below.refl _ _)⟩
  case round =>
    obtain ⟨k, rfl, hk, BR⟩ := hrel
    by_cases hlt : k < L
    · have hki : (k : Int) < (L : Int) := by omega
      have hk0 : (0 : Int) ≤ (k : Int) := by omega
      obtain ⟨b1, o1, s, rfl, hs1, c1⟩ := T1.out.at_ hlt
      obtain ⟨b2, o2, s', rfl, hs2, c2⟩ := T2.out.at_ hlt
      have hss : s = s' := by rw [hs1] at hs2; exact Option.some.inj hs2
      subst hss
      have d1 : wr.cell? ⟨b1, o1 + k, none⟩ = some (.string (strB s)) := cell_later BR.out c1
      have d2 : wr.cell? ⟨b2, o2 + k, none⟩ = some (.string (strB s)) := cell_later BR.out c2
      clear c1 c2 hs1 hs2
      have HB0 : Hid (Below W.heap.size W wr) := Lib.hid (B2.out.trans (BR.out.mono B2.out.size))
      have CS := Lib.hid (HSD.out wr HB0.out s)
      obtain ⟨⟨t0, t1, t2, t3, t4⟩, ht⟩ : ∃ t, t = r.sti s := ⟨_, rfl⟩
      rw [← ht] at CS
      have HT := Lib.hid ht
      clear ht
      go_wp2_with fail
      refine CS.out.mono ?_
      rintro e w3 ⟨rfl, hb3⟩
      simp only
      have B3 := Lib.hid hb3
      clear hb3 CS d1 d2
      obtain ⟨w4, hw4⟩ : ∃ w4, w4 = w3.alloc (.cells #[.int .i64 t0, .int .i64 t1, .int .i64 t2, .int .i64 t3] 119) := ⟨_, rfl⟩
      obtain ⟨g4, hg4⟩ : ∃ g4, g4 = w3.heap.size := ⟨_, rfl⟩
      have B4 : Hid (Below wr.heap.size wr w4) := Lib.hid (by rw [hw4]; exact B3.out.alloc B3.out.size _)
      have K4 : Hid (Blk w4 g4 119 #[.int .i64 t0, .int .i64 t1, .int .i64 t2, .int .i64 t3]) := Lib.hid (by rw [hw4]; exact Blk.new w3 _ _ hg4)
      have CS2 := Lib.hid (HSR.out w4 (HB0.out.trans (B4.out.mono HB0.out.size)) s)
      rw [← HT.out] at CS2
      go_wp2_with fail
      rw [← hw4, ← hg4]
      clear hw4 hg4 B3
      refine CS2.out.mono ?_
      rintro e w5 ⟨rfl, hb5⟩
      simp only
      obtain ⟨w6, hw6⟩ : ∃ w6, w6 = w5.alloc (.cells #[.int .i64 t0, .int .i64 t1, .int .i64 t2, .int .i64 t3] 119) := ⟨_, rfl⟩
      obtain ⟨g6, hg6⟩ : ∃ g6, g6 = w5.heap.size := ⟨_, rfl⟩
      have B6 : Hid (Below wr.heap.size wr w6) := Lib.hid (by rw [hw6]; exact (B4.out.trans (hb5.mono B4.out.size)).alloc (Nat.le_trans B4.out.size hb5.size) _)
      have K6 : Hid (Blk w6 g6 119 #[.int .i64 t0, .int .i64 t1, .int .i64 t2, .int .i64 t3]) := Lib.hid (by rw [hw6]; exact Blk.new w5 _ _ hg6)
      have K46 : Hid (Blk w6 g4 119 #[.int .i64 t0, .int .i64 t1, .int .i64 t2, .int .i64 t3]) := Lib.hid (by rw [hw6]; exact (K4.out.keep hb5).alloc _)
      have e0 : w6.cell? ⟨g4, 0, none⟩ = some (.int .i64 t0) := (K46.out.cell 0).trans rfl
      have e1 : w6.cell? ⟨g4, 1, none⟩ = some (.int .i64 t1) := (K46.out.cell 1).trans rfl
      have e2 : w6.cell? ⟨g4, 2, none⟩ = some (.int .i64 t2) := (K46.out.cell 2).trans rfl
      have e3 : w6.cell? ⟨g4, 3, none⟩ = some (.int .i64 t3) := (K46.out.cell 3).trans rfl
      have f0 : w6.cell? ⟨g6, 0, none⟩ = some (.int .i64 t0) := (K6.out.cell 0).trans rfl
      have f1 : w6.cell? ⟨g6, 1, none⟩ = some (.int .i64 t1) := (K6.out.cell 1).trans rfl
      have f2 : w6.cell? ⟨g6, 2, none⟩ = some (.int .i64 t2) := (K6.out.cell 2).trans rfl
      have f3 : w6.cell? ⟨g6, 3, none⟩ = some (.int .i64 t3) := (K6.out.cell 3).trans rfl
      have ns : ∀ w, (binOp .neq 119 (.agg #[.int .i64 t0, .int .i64 t1, .int .i64 t2, .int .i64 t3]) (.agg #[.int .i64 t0, .int .i64 t1, .int .i64 t2, .int .i64 t3])).run Tryz.prog w = .ok (.bool false) w := fun w => by rw [neq_stat]; unfold eqS4; simp
      have CD := Lib.hid (HRD.out w6 (HB0.out.trans (B6.out.mono HB0.out.size)) s)
      obtain ⟨⟨bs, er⟩, hbs⟩ : ∃ x, x = r.read (r.sti s).1 (r.sti s).2.2.1 0 (r.sti s).2.2.2.1 := ⟨_, rfl⟩
      have HBS := Lib.hid hbs
      rw [← hbs, ← HT.out] at CD
      simp only at CD
      clear hb5 CS2 K4 B4 hbs
      go_upto_region 11 with fail
      rw [← hw6, ← hg6]
      clear hw6 hg6
      go_wp2_with fail
      refine CD.out.mono ?_
      rintro e w7 ⟨v7, rfl, ho7, hb7⟩
      have B7 : Hid (Below wr.heap.size wr w7) := Lib.hid (B6.out.trans (hb7.mono B6.out.size))
      have K7 := Lib.hid (K6.out.keep hb7)
      obtain ⟨A7, cp7, rfl, _, _, hr7⟩ := ho7.form
      have R7 := Lib.hid hr7
      have CR := Lib.hid (HRR.out w7 (HB0.out.trans (B7.out.mono HB0.out.size)) s)
      rw [← HBS.out, ← HT.out] at CR
      simp only at CR
      clear hb7 ho7 hr7 CD e0 e1 e2 e3 f0 f1 f2 f3 K46 K6 B6
      have f0 : w7.cell? ⟨g6, 0, none⟩ = some (.int .i64 t0) := (K7.out.cell 0).trans rfl
      have f2 : w7.cell? ⟨g6, 2, none⟩ = some (.int .i64 t2) := (K7.out.cell 2).trans rfl
      have f3 : w7.cell? ⟨g6, 3, none⟩ = some (.int .i64 t3) := (K7.out.cell 3).trans rfl
      simp only
      go_wp2_with fail
      refine CR.out.mono ?_
      rintro e w8 ⟨v8, rfl, ho8, hb8⟩
      have B8 : Hid (Below w2.heap.size w2 w8) := Lib.hid (BR.out.trans ((B7.out.trans (hb8.mono B7.out.size)).mono BR.out.size))
      obtain ⟨A8, cp8, rfl, _, _, hr8⟩ := ho8.form
      have v1 := conv_bytes w8 A7 bs.length cp7 bs (R7.out.keep hb8)
      have v2 := conv_bytes w8 A8 bs.length cp8 bs hr8
      clear hb8 ho8 hr8 CR R7 B7 K7 f0 f2 f3
      simp only
      go_wp2_with fail
      go_roundw
      first
        | (case rel => exact ⟨k + 1, by go_num, by omega, B8⟩)
        | (case rel => (repeat apply Exists.intro); exact ⟨⟨k + 1, by go_num, by omega, B8⟩, rfl⟩)
      case measure => simp [intOf]; omega
    · obtain rfl : k = L := by omega
      have HF : Hid (AlQ W (.returned (.bool true)) wr) := Lib.hid ⟨rfl, B2.out.trans (BR.out.mono B2.out.size)⟩
      go_wp2_with fail
      go_ret
      exact HF.out
end Go.Proofs.YtlojmmcagglpoaaGreat
