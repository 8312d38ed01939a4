/- THE WALK of the document's Read (heronref14). -/
import Derived.Test.YtlojmmcagglpoaaGreatURfInode
namespace Go.Proofs.YtlojmmcagglpoaaGreat
open Go.RowKit Go.Maps
open Classical in
noncomputable def Rd.read (r : Rd) (i gen off size : Int) : List UInt8 × Int := if off < 0 ∨ size < 0 then ([], 1) else if (r.inode i).2.2.2.2 ≠ 0 then ([], (r.inode i).2.2.2.2) else if (r.inode i).2.2.1 ≠ gen then ([], 144) else match r.is[i.toNat - 1]? with
  | some y => ((y.b.drop off.toNat).take size.toNat, 0)
  | none => ([], 0)
set_option maxRecDepth 20000 in
set_option maxHeartbeats 4000000 in
theorem rread_any {W : World} {N : Nat} {C : Nat → Nat} {c p n : Nat} {r : Rd} (h : RC W N C c p r) (hok : r.Ok n) (i gen off size : Int) (hoff : okInt off) (hsize : okInt size) (hcons : (r.inode i).2.2.2.2 = 0 → ∃ k y, i = ((k : Nat) : Int) + 1 ∧ r.is[k]? = some y ∧ (r.inode i).2.2.2.1 = (y.b.length : Int)) : Calls Tryz.prog 57 #[.pointer (some ⟨p, 0, none⟩), .int .i64 i, .int .i64 gen, .int .i64 off, .int .i64 size] W (BytesQ W (r.read i gen off size)) := by
  have CI := Lib.hid (rinode_any h hok i)
  have hno : ∀ e : Int, r.read i gen off size = ([], e) → Hid (∀ w', Below W.heap.size W w' → BytesQ W (r.read i gen off size) (.returned (.tuple #[.slice none 0 0, .int .i64 e])) w') := fun e he => Lib.hid (fun w' hb => by rw [he]; exact ⟨_, rfl, OB.nil _ _, hb⟩)
  by_cases h0 : off < 0
  · have HE := hno 1 (by unfold Rd.read; rw [if_pos (.inl h0)])
    clear hno h hok hcons CI
    go_enter Tryz.func57, Tryz.ntmps57
    go_wp2_with fail
    go_ret2
    exact HE.out _ (Below.refl _ _)
  by_cases h1 : size < 0
  · have HE := hno 1 (by unfold Rd.read; rw [if_pos (.inr h1)])
    clear hno h hok hcons CI
    go_enter Tryz.func57, Tryz.ntmps57
    go_wp2_with fail
    go_ret2
    exact HE.out _ (Below.refl _ _)
  have hrd : r.read i gen off size = if (r.inode i).2.2.2.2 ≠ 0 then ([], (r.inode i).2.2.2.2) else if (r.inode i).2.2.1 ≠ gen then ([], 144) else match r.is[i.toNat - 1]? with
    | some y => ((y.b.drop off.toNat).take size.toNat, 0)
    | none => ([], 0) := by unfold Rd.read; rw [if_neg (by omega)]
  obtain ⟨⟨t0, t1, t2, t3, t4⟩, ht⟩ : ∃ t, t = r.inode i := ⟨_, rfl⟩
  rw [← ht] at hrd CI hcons
  simp only at hrd hcons
  unfold RAskQ stiV statV at CI
  simp only at CI
  by_cases h4 : t4 = 0
  · obtain ⟨k, y, hik, hy, hsz⟩ := hcons h4
    subst hik
    subst h4
    rw [if_neg (by simp)] at hrd
    by_cases hg : t2 = gen
    · rw [if_neg (by simpa using hg), show ((k : Int) + 1).toNat - 1 = k from by omega, hy] at hrd
      simp only at hrd
      rw [hrd]
      obtain ⟨o, ho⟩ : ∃ o : Nat, off = (o : Int) := ⟨off.toNat, by omega⟩
      obtain ⟨z, hz⟩ : ∃ z : Nat, size = (z : Int) := ⟨size.toNat, by omega⟩
      subst ho
      subst hz
      simp only [Int.toNat_natCast]
      have hkr : k < r.is.length := (List.getElem?_eq_some_iff.1 hy).1
      have hbl := hok.bl y (List.mem_of_getElem? hy)
      obtain ⟨b, hb⟩ : ∃ b, b = y.b.length := ⟨_, rfl⟩
      rw [← hb] at hsz hbl
      subst hsz
      have HH := Lib.hid h
      have HB := Lib.hid hb
      have HY := Lib.hid (And.intro hy (And.intro hok.il hok.big))
      have hk3 : (k : Int) ≤ 1000000 := by have := hok.il; have := hok.big; omega
      unfold okInt at hoff hsize
      have ho9 : (o : Int) ≤ 9223372036854775807 := by omega
      have hz9 : (z : Int) ≤ 9223372036854775807 := by omega
      have hgg : (t2 == gen) = true := by rw [beq_iff_eq]; exact hg
      subst hg
      have hbi : (b : Int) ≤ 1048576 := by omega
      clear hno hrd h hcons hy hb hok h0 h1 ht hoff hsize hkr
      go_enter Tryz.func57, Tryz.ntmps57
      go_wp2_with fail
      refine CI.out.mono ?_
      rintro e w2 ⟨rfl, hb2⟩
      have B2 := Lib.hid hb2
      clear hb2 CI
      go_upto_region 4 with fail
      obtain ⟨w3, hw3⟩ : ∃ w3, w3 = w2.alloc (.cells #[.int .i64 t0, .int .i64 t1, .int .i64 t2, .int .i64 (b : Int)] 119) := ⟨_, rfl⟩
      obtain ⟨sb, hsb⟩ : ∃ sb, sb = w2.heap.size := ⟨_, rfl⟩
      have B3 : Hid (Below W.heap.size W w3) := Lib.hid (by rw [hw3]; exact B2.out.alloc B2.out.size _)
      have K3 : Hid (Blk w3 sb 119 #[.int .i64 t0, .int .i64 t1, .int .i64 t2, .int .i64 (b : Int)]) := Lib.hid (by rw [hw3]; exact Blk.new w2 _ _ hsb)
      rw [← hw3, ← hsb]
      clear hw3 hsb B2
      have z2 : w3.cell? ⟨sb, 2, none⟩ = some (.int .i64 t2) := (K3.out.cell 2).trans rfl
      go_wp2_with fail
      go_loopw [14, 15] (fun s14 s15 w => ∃ q m : Nat, s15 = .int .i64 (q : Int) ∧ o ≤ q ∧ (q = o ∨ q ≤ b) ∧ m = q - o ∧ m ≤ z ∧ (∃ A cp, s14 = .slice A m cp) ∧ Hid (OB w w3.heap.size s14 ((y.b.drop o).take m)) ∧ Hid (Below w3.heap.size w3 w)) (fun _ s15 _ => b - (intOf s15).toNat)
      case atStart => exact ⟨o, 0, rfl, Nat.le_refl _, .inl rfl, by omega, Nat.zero_le _, ⟨none, 0, rfl⟩, Lib.hid (OB.nil _ _), Lib.hid (Below.refl _ _)⟩
      case round =>
        obtain ⟨q, m, rfl, hq1, hq2, hm, hmz, ⟨A, cp, rfl⟩, OJ, BJ⟩ := hrel
        have HMQ := Lib.hid hm
        have z3 : wr.cell? ⟨sb, 3, none⟩ = some (.int .i64 (b : Int)) := cell_later BJ.out ((K3.out.cell 3).trans rfl)
        have HEND : Hid ((b ≤ q ∨ z ≤ m) → BytesQ W ((y.b.drop o).take z, 0) (.returned (.tuple #[.slice A m cp, .int .i64 0])) wr) := Lib.hid (fun he => by
          have e1 : (y.b.drop o).take m = (y.b.drop o).take z := by
            rcases he with e | e
            · rw [List.take_of_length_le (by rw [List.length_drop]; have := HB.out; omega), List.take_of_length_le (by rw [List.length_drop]; have := HB.out; omega)]
            · rw [show m = z by omega]
          have o2 := OJ.out
          rw [e1] at o2
          exact ⟨_, rfl, o2.less B3.out.size, B3.out.trans (BJ.out.mono B3.out.size)⟩)
        have hq9 : (q : Int) ≤ 9223372036854775807 := by omega
        have hq0 : (0 : Int) ≤ (q : Int) := by omega
        by_cases e1 : q < b
        · have hqb : (q : Int) < (b : Int) := by omega
          have hws : wrap64 ((q : Int) - (o : Int)) = (m : Int) := by unfold wrap64; omega
          by_cases e2 : m < z
          · have hmz2 : (q : Int) - (o : Int) < (z : Int) := by omega
            have hQ : Below W.heap.size W wr := B3.out.trans (BJ.out.mono B3.out.size)
            obtain ⟨us, vi, vn, hw⟩ := HH.out.keep hQ (Sam.refl _ _)
            obtain ⟨u, hu, hu2⟩ := hw.inode (List.getElem?_eq_some_iff.1 HY.out.1).1
            have hu3 : u.2 = y := by rw [HY.out.1] at hu2; exact (Option.some.inj hu2).symm
            have hob := hw.ob k u hu
            obtain ⟨v, y'⟩ := u
            simp only at hu3 hob
            subst hu3
            obtain ⟨Av, cv, hv, hv1, hv2, hrb⟩ := hob.form
            subst hv
            rw [← HB.out] at hrb hv1
            obtain ⟨bB, oB, hAv, _, ch, hch, cch⟩ := hrb.at_ e1
            subst hAv
            obtain ⟨Ai, capi, hvi, hi1, _, hAi⟩ := hw.fi
            subst hvi
            obtain ⟨g, hgA⟩ := hAi (by have := (List.getElem?_eq_some_iff.1 hu).1; omega)
            subst hgA
            obtain ⟨L, hL⟩ : ∃ L, L = us.length := ⟨_, rfl⟩
            have hkL : (k : Int) < (L : Int) := by have := (List.getElem?_eq_some_iff.1 hu).1; omega
            rw [← hL] at hw
            have q0 : wr.cell? ⟨p, 0, none⟩ = some (.slice (some ⟨g, 0, none⟩) L capi) := (hw.bd.cell 0).trans rfl
            obtain ⟨-, c0, -, -, -⟩ := hw.ci_at hu
            simp only at c0
            rw [← HB.out] at c0
            have hk0 : (0 : Int) ≤ (k : Int) := by omega
            have HCH := Lib.hid hch
            have BA : Hid (Below wr.heap.size wr (wr.alloc (.cells #[.int .u8 (ch.toNat : Int)] 5))) := Lib.hid ((Below.refl _ _).alloc (Nat.le_refl _) _)
            have OA := Lib.hid (OJ.out.alloc (.cells #[.int .u8 (ch.toNat : Int)] 5))
            have RA : Hid (RB (wr.alloc (.cells #[.int .u8 (ch.toNat : Int)] 5)) (some ⟨wr.heap.size, 0, none⟩) 1 [ch]) := Lib.hid (RB.new wr 5 (0, 0) #[.int .u8 (ch.toNat : Int)] [ch] rfl 1 rfl)
            have hlm : ((y'.b.drop o).take m).length = m := by rw [List.length_take, List.length_drop]; have := HB.out; omega
            have HLM := Lib.hid hlm
            have hLb : L ≤ 1000000 := by rw [hL, hw.len]; exact Nat.le_trans HY.out.2.1 HY.out.2.2
            clear hws hw hu hu2 hob hrb hch hi1 hAi hL HEND hQ hlm hv1 hv2 hm
            go_wp2_with ((at_builtin; go_must (refine append_bytes rfl (.tmp 49) (.tmp 62) rfl w3.heap.size (.slice A m cp) ((y'.b.drop o).take m) rfl OA.out (some ⟨wr.heap.size, 0, none⟩) 1 1 [ch] rfl RA.out (by rw [HLM.out]; have := HMQ.out; omega) (Nat.le_trans BJ.out.size BA.out.size) ?_); intro v5 w5 ho5 hg5 ha5; refine halt ?_))
            refine unhalt ?_
            have O5 : Hid (OB w5 w3.heap.size v5 ((y'.b.drop o).take (m + 1))) := Lib.hid (by
              have e3 : (y'.b.drop o).take (m + 1) = (y'.b.drop o).take m ++ [ch] := take_snoc (by rw [List.getElem?_drop, show o + m = q by have := HMQ.out; omega]; exact HCH.out)
              rw [e3]; exact ho5)
            have B5 : Hid (Below w3.heap.size w3 w5) := Lib.hid ((BJ.out.trans (BA.out.mono BJ.out.size)).grown hg5 (BJ.out.trans (BA.out.mono BJ.out.size)).size (fun j hj => (OA.out.lt j hj).1))
            obtain ⟨A5, c5, hv5, _⟩ := O5.out.form
            have hl5 : ((y'.b.drop o).take (m + 1)).length = m + 1 := by rw [List.length_take, List.length_drop]; have := HB.out; have := HMQ.out; omega
            rw [hl5] at hv5
            subst hv5
            clear ho5 hg5 ha5 OA RA BA hl5 OJ BJ q0 c0 z3
            go_wp2_with fail
            go_roundw
            case rel => exact ⟨q + 1, m + 1, by go_num, by omega, .inr (by omega), by have := HMQ.out; omega, by omega, ⟨A5, c5, rfl⟩, O5, B5⟩
            case measure => simp [intOf]; omega
          · have hmz2 : ¬ (q : Int) - (o : Int) < (z : Int) := by omega
            clear hws
            have HF := Lib.hid (HEND.out (.inr (by omega)))
            clear HEND hm
            go_wp2_with fail
            go_ret2
            exact HF.out
        · have hqb : ¬ (q : Int) < (b : Int) := by omega
          have HF := Lib.hid (HEND.out (.inl (by omega)))
          clear HEND hm
          go_wp2_with fail
          go_ret2
          exact HF.out
    · have HE := hno 144 (by rw [hrd, if_pos hg])
      have hgg : (t2 == gen) = false := by rw [beq_eq_false_iff_ne]; exact hg
      clear hno hrd h hok hcons hy hsz ht
      go_enter Tryz.func57, Tryz.ntmps57
      go_wp2_with fail
      refine CI.out.mono ?_
      rintro e w2 ⟨rfl, hb2⟩
      have hb3 := Lib.hid (show Below W.heap.size W (w2.alloc (.cells #[.int .i64 t0, .int .i64 t1, .int .i64 t2, .int .i64 t3] 119)) from hb2.alloc hb2.size _)
      have z2 : (w2.alloc (.cells #[.int .i64 t0, .int .i64 t1, .int .i64 t2, .int .i64 t3] 119)).cell? ⟨w2.heap.size, 2, none⟩ = some (.int .i64 t2) := ((Blk.new w2 _ _ rfl).cell 2).trans rfl
      clear hb2
      go_wp2_with fail
      go_ret2
      exact HE.out _ hb3.out
  · have HE := hno t4 (by rw [hrd, if_pos h4])
    have h4b : (t4 == 0) = false := by rw [beq_eq_false_iff_ne]; exact h4
    clear hno hrd h hok hcons ht h4
    go_enter Tryz.func57, Tryz.ntmps57
    go_wp2_with fail
    refine CI.out.mono ?_
    rintro e w2 ⟨rfl, hb2⟩
    have hb3 := Lib.hid (show Below W.heap.size W (w2.alloc (.cells #[.int .i64 t0, .int .i64 t1, .int .i64 t2, .int .i64 t3] 119)) from hb2.alloc hb2.size _)
    clear hb2
    go_wp2_with fail
    go_ret2
    exact HE.out _ hb3.out
end Go.Proofs.YtlojmmcagglpoaaGreat
