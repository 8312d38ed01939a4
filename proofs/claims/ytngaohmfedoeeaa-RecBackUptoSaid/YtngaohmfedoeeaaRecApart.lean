/- THE WALK of heronlaw02.RecApart. -/
import Derived.Test.YtngaohmfedoeeaaRecFixed
namespace Go.Proofs.Ytngaohmfedoeeaa
open Go.RowKit
theorem Blk.keep {w w' : World} {g : Nat} {t : TypeId} {cs : Array Value} (h : Blk w g t cs) (hb : Below w.heap.size w w') : Blk w' g t cs := (hb.block g h.lt).trans h
/-- the four cells of an item at block g -/
def It (w : World) (g : Nat) (k n : Int) (v : Nat) (s : ByteArray) : Prop :=
  w.cell? ⟨g, 0, none⟩ = some (.int .i64 k) ∧ w.cell? ⟨g, 1, none⟩ = some (.int .i64 n) ∧ w.cell? ⟨g, 2, none⟩ = some (.int .u64 (v : Int)) ∧ w.cell? ⟨g, 3, none⟩ = some (.string s)
theorem It.of {w : World} {g : Nat} {k n : Int} {v : Nat} {s : ByteArray} (h : Blk w g 58 #[.int .i64 k, .int .i64 n, .int .u64 (v : Int), .string s]) : It w g k n v s :=
  ⟨h.cell 0, h.cell 1, h.cell 2, h.cell 3⟩
theorem extract_list (s : ByteArray) (n : Nat) : (s.extract 0 n).toList = s.data.toList.take n := by
  rw [ByteArray.toList_eq, ByteArray.data_extract, Array.toList_extract]
  simp [List.extract]
theorem begin_eq {sa sb t1 t2 : ByteArray} (h1 : t1 = strOf (textB sa.data.toList)) (h2 : t2 = strOf (textB sb.data.toList)) (ha : sa.size ≤ 1048576) (hb : sb.size ≤ 1048576) :
    ((t2.extract 0 t1.size).toList == t1.toList) = (sa.toList == sb.toList) := by
  subst h1; subst h2
  have la : sa.data.toList.length < 256 ^ 4 := by have : sa.data.toList.length = sa.size := rfl; omega
  have lb : sb.data.toList.length < 256 ^ 4 := by have : sb.data.toList.length = sb.size := rfl; omega
  have e0 : (strOf (textB sa.data.toList)).size = (textB sa.data.toList).length := rfl
  rw [extract_list, ByteArray.toList_eq, ByteArray.toList_eq, ByteArray.toList_eq, e0, Bool.eq_iff_iff, beq_iff_eq, beq_iff_eq]
  show List.take _ (textB sb.data.toList) = textB sa.data.toList ↔ _
  constructor
  · intro h; exact textB_begin la lb h
  · intro h; rw [h]; exact List.take_of_length_le (Nat.le_refl _)
theorem len_ne {sa sb t1 t2 : ByteArray} (h1 : t1 = strOf (textB sa.data.toList)) (h2 : t2 = strOf (textB sb.data.toList)) (h : t2.size < t1.size) : (sa.toList == sb.toList) = false := by
  rw [beq_eq_false_iff_ne, ByteArray.toList_eq, ByteArray.toList_eq]
  intro he
  rw [h1, h2, he] at h
  omega
set_option maxRecDepth 100000 in
set_option maxHeartbeats 4000000 in
theorem apart_any (ka na kb nb : Int) (va vb : Nat) (sa sb : ByteArray) (w : World) (hva : va < 18446744073709551616) (hvb : vb < 18446744073709551616) (hsa : sa.size ≤ 1048576) (hsb : sb.size ≤ 1048576) :
    Calls Try.prog 5 #[.agg (itemV ka na va sa), .agg (itemV kb nb vb sb)] w fun e w' => e = .returned (.bool true) ∧ Below w.heap.size w w' := by
  unfold itemV
  have HVA := Lib.hid hva; clear hva
  have HVB := Lib.hid hvb; clear hvb
  have CA := fun w' => value_any ka na va sa w' HVA.out
  unfold ValPost itemV at CA
  have CW := fun w' => width_any na w'
  have hva := valN_lt na va
  have hwd := widN_bd na
  obtain ⟨x, hx⟩ : ∃ x, x = widN na := ⟨_, rfl⟩
  obtain ⟨p, hp⟩ : ∃ p, p = valN na va := ⟨_, rfl⟩
  rw [← hx, ← hp] at hva
  rw [← hx] at hwd CW
  rw [← hp] at CA
  have CN := fun w' => num_ok p x w' hwd.1 hwd.2 hva
  have C1 := Lib.hid CA; have C2 := Lib.hid CW; have C3 := Lib.hid CN; have HX := Lib.hid hx; have HP := Lib.hid hp; have HA := Lib.hid hva
  clear CA CW CN hx hp hva
  have CB := fun w' => value_any kb na vb sb w' HVB.out
  unfold ValPost itemV at CB
  have hvb := valN_lt na vb
  obtain ⟨q, hq⟩ : ∃ q, q = valN na vb := ⟨_, rfl⟩
  rw [← HX.out, ← hq] at hvb
  rw [← hq] at CB
  have CM := fun w' => num_ok q x w' hwd.1 hwd.2 hvb
  have D1 := Lib.hid CB; have D3 := Lib.hid CM; have HB := Lib.hid hvb; have HQ := Lib.hid hq
  clear CB CM hvb hq
  obtain ⟨hx1, hx8⟩ := hwd
  have B0 : Blk ((w.alloc (.cells #[.int .i64 ka, .int .i64 na, .int .u64 (va : Int), .string sa] 58)).alloc (.cells #[.int .i64 kb, .int .i64 nb, .int .u64 (vb : Int), .string sb] 58)) w.heap.size 58 #[.int .i64 ka, .int .i64 na, .int .u64 (va : Int), .string sa] := (Blk.new w _ _ rfl).alloc _
  have B1 : Blk ((w.alloc (.cells #[.int .i64 ka, .int .i64 na, .int .u64 (va : Int), .string sa] 58)).alloc (.cells #[.int .i64 kb, .int .i64 nb, .int .u64 (vb : Int), .string sb] 58)) (w.heap.size + 1) 58 #[.int .i64 kb, .int .i64 nb, .int .u64 (vb : Int), .string sb] := Blk.new _ _ _ (by simp)
  have hz0 : Below w.heap.size w ((w.alloc (.cells #[.int .i64 ka, .int .i64 na, .int .u64 (va : Int), .string sa] 58)).alloc (.cells #[.int .i64 kb, .int .i64 nb, .int .u64 (vb : Int), .string sb] 58)) := (((Below.refl _ _).alloc (Nat.le_refl _) _).alloc (by simp) _)
  have H0 := Lib.hid B0; have H1 := Lib.hid B1; have Z0 := Lib.hid hz0
  clear B0 B1 hz0
  go_enter Try.func5, Try.ntmps5
  go_wp2_with fail
  refine (fixed_any _).mono ?_
  rintro e w1 ⟨rfl, hb1⟩
  have A1 := H0.out.keep hb1
  have E1 := H1.out.keep hb1
  have Z1 := Lib.hid (Z0.out.trans (hb1.mono (by simp; omega)))
  obtain ⟨g, hg⟩ : ∃ g, g = w.heap.size := ⟨_, rfl⟩
  rw [← hg] at A1 E1 ⊢
  have GG := Lib.hid hg
  have hgz : w.heap.size ≤ g := by omega
  clear hg H0 H1 Z0 hb1
  obtain ⟨a0, a1, a2, a3⟩ := It.of A1
  obtain ⟨b0, b1, b2, b3⟩ := It.of E1
  have fb := E1.frozen 1
  have E2 := E1.set_ 1 (.int .i64 na)
  have A2 := A1.far (p := ⟨g + 1, 1, none⟩) (by simp) (.int .i64 na)
  go_upto_region 4 with fail
  clear a0 a1 a2 a3 b0 b1 b2 b3 fb A1 E1
  obtain ⟨w2, hw2⟩ : ∃ w2, w2 = w1.setCell ⟨g + 1, 1, none⟩ (.int .i64 na) := ⟨_, rfl⟩
  have Z2 : Hid (Below w.heap.size w w2) := Lib.hid (by rw [hw2]; exact Z1.out.setCell (by simp; omega) _)
  rw [← hw2] at A2 E2 ⊢
  clear hw2 Z1
  obtain ⟨a0, a1, a2, a3⟩ := It.of A2
  have E2' : Blk w2 (g + 1) 58 #[.int .i64 kb, .int .i64 na, .int .u64 (vb : Int), .string sb] := E2
  have AH := Lib.hid A2; have EH := Lib.hid E2'
  clear A2 E2 E2'
  have hne : w2.heap.size ≠ g := by have := AH.out.lt; omega
  go_region_held3 (fun w' => w'.cell? ⟨g, 0, none⟩ = some (.int .i64 ka) ∧ w'.cell? ⟨g, 1, none⟩ = some (.int .i64 na) ∧ w'.cell? ⟨g, 2, none⟩ = some (.int .u64 (va : Int)) ∧ w'.cell? ⟨g, 3, none⟩ = some (.string sa)) (first | go_keep | exact ⟨cell_later hbn (by go_keep), cell_later hbn (by go_keep), cell_later hbn (by go_keep), cell_later hbn (by go_keep)⟩)
    (first | (go_at_call 25; refine (C1.out _).mono ?_; rintro e w' ⟨rfl, m, rfl⟩) | (go_at_call 26; refine (C2.out _).mono ?_; rintro e w' ⟨rfl, rfl⟩) | (go_at_call 10; refine (C3.out _).mono ?_; rintro e wn ⟨g1, rfl, hg1, ho1, hbn⟩))
  have hbx : Below w2.heap.size w2 wn := Below.trans (b := _) (by repeat (first | exact Below.refl _ _ | assumption | refine below_drewN ?_ _ | refine Below.drew ?_ | refine Below.alloc ?_ (by first | omega | (simp; done) | (simp; omega)) _)) (hbn.mono (by simp))
  have AN := Lib.hid (AH.out.keep hbx); have EN := Lib.hid (EH.out.keep hbx); have ZN := Lib.hid (Z2.out.trans (hbx.mono Z2.out.size)); have RN := Lib.hid ho1.rb
  clear hbx hbn ho1 hg1 AH EH Z2 a0 a1 a2 a3 hne
  obtain ⟨b0, b1, b2, b3⟩ := It.of EN.out
  have hne : wn.heap.size ≠ g + 1 := by have := EN.out.lt; omega
  go_upto_region 5 with fail
  go_region_held3 (fun w' => w'.cell? ⟨g + 1, 0, none⟩ = some (.int .i64 kb) ∧ w'.cell? ⟨g + 1, 1, none⟩ = some (.int .i64 na) ∧ w'.cell? ⟨g + 1, 2, none⟩ = some (.int .u64 (vb : Int)) ∧ w'.cell? ⟨g + 1, 3, none⟩ = some (.string sb)) (first | go_keep | exact ⟨cell_later hbn (by go_keep), cell_later hbn (by go_keep), cell_later hbn (by go_keep), cell_later hbn (by go_keep)⟩)
    (first | (go_at_call 25; refine (D1.out _).mono ?_; rintro e w' ⟨rfl, m, rfl⟩) | (go_at_call 26; refine (C2.out _).mono ?_; rintro e w' ⟨rfl, rfl⟩) | (go_at_call 10; refine (D3.out _).mono ?_; rintro e wm ⟨g2, rfl, hg1, ho1, hbn⟩))
  have hbx : Below wn.heap.size wn wm := Below.trans (b := _) (by repeat (first | exact Below.refl _ _ | assumption | refine below_drewN ?_ _ | refine Below.drew ?_ | refine Below.alloc ?_ (by first | omega | (simp; done) | (simp; omega)) _)) (hbn.mono (by simp))
  have AM := Lib.hid (AN.out.keep hbx); have EM := Lib.hid (EN.out.keep hbx); have ZM := Lib.hid (ZN.out.trans (hbx.mono ZN.out.size)); have R1 := Lib.hid (RN.out.keep hbx); have R2 := Lib.hid ho1.rb
  clear hbx hbn ho1 hg1 AN EN ZN RN b0 b1 b2 b3 hne
  obtain ⟨a0, a1, a2, a3⟩ := It.of AM.out
  obtain ⟨b0, b1, b2, b3⟩ := It.of EM.out
  have hne : wm.heap.size ≠ g := by have := AM.out.lt; omega
  have hne' : wm.heap.size ≠ g + 1 := by have := EM.out.lt; omega
  have k1 := fun W (h : RB W (some ⟨g1, 0, none⟩) x (leB p x)) => conv_bytes W _ x x _ h
  have k2 := fun W (h : RB W (some ⟨g2, 0, none⟩) x (leB q x)) => conv_bytes W _ x x _ h
  have hss : ((strOf (leB p x)).toList == (strOf (leB q x)).toList) = ((p : Int) == (q : Int)) := by
    rw [ByteArray.toList_eq, ByteArray.toList_eq]
    show (leB p x == leB q x) = _
    rw [Bool.eq_iff_iff, beq_iff_eq, beq_iff_eq]
    exact ⟨fun h => by rw [leB_inj HA.out HB.out h], fun h => by rw [show p = q by omega]⟩
  generalize strOf (leB p x) = s1 at *
  generalize strOf (leB q x) = s2 at *
  obtain ⟨bb, hbb⟩ : ∃ bb, ((p : Int) == (q : Int)) = bb := ⟨_, rfl⟩
  rw [hbb] at hss
  go_upto_region 6 with fail
  go_region_held3 (fun w' => w'.cell? ⟨g, 0, none⟩ = some (.int .i64 ka) ∧ w'.cell? ⟨g, 1, none⟩ = some (.int .i64 na) ∧ w'.cell? ⟨g, 2, none⟩ = some (.int .u64 (va : Int)) ∧ w'.cell? ⟨g, 3, none⟩ = some (.string sa) ∧ w'.cell? ⟨g + 1, 0, none⟩ = some (.int .i64 kb) ∧ w'.cell? ⟨g + 1, 1, none⟩ = some (.int .i64 na) ∧ w'.cell? ⟨g + 1, 2, none⟩ = some (.int .u64 (vb : Int)) ∧ w'.cell? ⟨g + 1, 3, none⟩ = some (.string sb) ∧ (convert 22 9 (.slice (some ⟨g1, 0, none⟩) x x)).run Try.prog w' = .ok (.string s1) w' ∧ (convert 22 9 (.slice (some ⟨g2, 0, none⟩) x x)).run Try.prog w' = .ok (.string s2) w')
    (exact ⟨by go_keep, by go_keep, by go_keep, by go_keep, by go_keep, by go_keep, by go_keep, by go_keep, k1 _ (R1.out.keep (by repeat (first | exact Below.refl _ _ | assumption | refine below_drewN ?_ _ | refine Below.drew ?_ | refine Below.alloc ?_ (by first | omega | (simp; done) | (simp; omega)) _))), k2 _ (R2.out.keep (by repeat (first | exact Below.refl _ _ | assumption | refine below_drewN ?_ _ | refine Below.drew ?_ | refine Below.alloc ?_ (by first | omega | (simp; done) | (simp; omega)) _)))⟩)
    (first | (go_at_call_of 25 (Value.agg #[.int .i64 ka, .int .i64 na, .int .u64 (va : Int), .string sa]); refine (C1.out _).mono ?_; rintro e w' ⟨rfl, m, rfl⟩) | (go_at_call 25; refine (D1.out _).mono ?_; rintro e w' ⟨rfl, m, rfl⟩))
  clear k1 k2
  go_wp2_with fail
  refine (text_any sa _ (by omega)).mono ?_
  intro e w8 hpost
  obtain ⟨v8, rfl, ho8, hb8⟩ := hpost
  obtain ⟨A8, c8, rfl, _, _, hr8⟩ := ho8.form
  have hbx : Below wm.heap.size wm w8 := Below.trans (b := _) (by repeat (first | exact Below.refl _ _ | assumption | refine below_drewN ?_ _ | refine Below.drew ?_ | refine Below.alloc ?_ (by first | omega | (simp; done) | (simp; omega)) _)) (hb8.mono (by first | omega | (simp; done) | (simp; omega)))
  have A9 := Lib.hid (AM.out.keep hbx); have E9 := Lib.hid (EM.out.keep hbx); have Z9 := Lib.hid (ZM.out.trans (hbx.mono ZM.out.size))
  have hcv := conv_bytes _ _ _ c8 _ hr8
  clear a0 a1 a2 a3 b0 b1 b2 b3 hne hne' hbx hb8 hr8 ho8 AM EM ZM R1 R2
  obtain ⟨a0, a1, a2, a3⟩ := It.of A9.out
  obtain ⟨b0, b1, b2, b3⟩ := It.of E9.out
  obtain ⟨t1, ht1⟩ : ∃ t1, t1 = strOf (textB sa.data.toList) := ⟨_, rfl⟩
  obtain ⟨l1, hl1⟩ : ∃ l1, l1 = (textB sa.data.toList).length := ⟨_, rfl⟩
  rw [← ht1, ← hl1] at hcv
  rw [← hl1]
  have T1 := Lib.hid ht1; clear ht1 hl1
  go_wp2_with fail
  refine (text_any sb _ (by omega)).mono ?_
  intro e w10 hpost
  obtain ⟨v10, rfl, ho10, hb10⟩ := hpost
  obtain ⟨A10, c10, rfl, _, _, hr10⟩ := ho10.form
  have A11 := Lib.hid (A9.out.keep hb10); have E11 := Lib.hid (E9.out.keep hb10); have Z11 := Lib.hid (Z9.out.trans (hb10.mono Z9.out.size))
  have hcv' := conv_bytes _ _ _ c10 _ hr10
  clear a0 a1 a2 a3 b0 b1 b2 b3 hcv hb10 hr10 ho10 A9 E9 Z9
  obtain ⟨a0, a1, a2, a3⟩ := It.of A11.out
  obtain ⟨b0, b1, b2, b3⟩ := It.of E11.out
  obtain ⟨t2, ht2⟩ : ∃ t2, t2 = strOf (textB sb.data.toList) := ⟨_, rfl⟩
  obtain ⟨l2, hl2⟩ : ∃ l2, l2 = (textB sb.data.toList).length := ⟨_, rfl⟩
  rw [← ht2, ← hl2] at hcv'
  rw [← hl2]
  have T2 := Lib.hid ht2; clear ht2 hl2
  have hbeg : ((t2.extract 0 t1.size).toList == t1.toList) = (sa.toList == sb.toList) := begin_eq T1.out T2.out hsa hsb
  obtain ⟨bs, hbs⟩ : ∃ bs, (sa.toList == sb.toList) = bs := ⟨_, rfl⟩
  rw [hbs] at hbeg
  have hlen : t2.size < t1.size → bs = false := fun h => by rw [← hbs]; exact len_ne T1.out T2.out h
  have HLN := Lib.hid hlen; clear hlen
  clear HP HQ hbb hss C3 D1 D3 HB T1 T2
  have hfork : (t2.size < t1.size ∧ bs = false) ∨ t1.size ≤ t2.size := by
    by_cases h : t2.size < t1.size
    · exact .inl ⟨h, HLN.out h⟩
    · exact .inr (by omega)
  have hne : w10.heap.size ≠ g := by have := A11.out.lt; omega
  rcases hfork with ⟨hsz, rfl⟩ | hsz
  all_goals
    go_wp2_with fail
    refine (C2.out _).mono ?_
    rintro e w' ⟨rfl, rfl⟩
    by_cases hx : x = 8
    · have t8 : ((x : Int) == 8) = true := by rw [beq_iff_eq]; omega
      have HX8 := Lib.hid hx; clear hx
      go_wp2_with fail
      go_ret
      exact ⟨rfl, Z11.out⟩
    · have t8 : ((x : Int) == 8) = false := by rw [beq_eq_false_iff_ne]; omega
      have hx7 : x < 8 := by omega
      have HX8 := Lib.hid hx; clear hx
      go_wp2_with fail
      obtain ⟨y, hy⟩ : ∃ y, y = 256 ^ x := ⟨_, rfl⟩
      obtain ⟨z, hz⟩ : ∃ z, z = p + y := ⟨_, rfl⟩
      have hy7 : y ≤ 72057594037927936 := by rw [hy]; exact pow_le7 hx7
      have hpy : p < y := by rw [hy]; exact HA.out
      have BG := Lib.hid (fun w' => num_big z x w' hx1 hx7 (by rw [hz, hy]; omega))
      have f3 : (8 * (x : Int)).toNat = 8 * x := by omega
      have f4 : IntKind.u64.wrap (2 ^ (8 * x)) = (y : Int) := by
        have e : ((2 : Int) ^ (8 * x)) = ((256 ^ x : Nat) : Int) := by rw [← pow_256]; simp
        rw [e, ← hy]; exact IntWalk.u64_in _ (by omega)
      have f5 : IntKind.u64.wrap ((p : Int) + (y : Int)) = (z : Int) := by rw [IntWalk.u64_in _ (by omega)]; omega
      have f1 : IntKind.i64.wrap (8 * (x : Int)) = 8 * (x : Int) := IntWalk.i64_in _ (by omega)
      have f2 : (0 : Int) ≤ 8 * (x : Int) := by omega
      have HY := Lib.hid hy; have HZ := Lib.hid hz; clear hy hz
      go_region_held3 (fun w' => w'.cell? ⟨g, 0, none⟩ = some (.int .i64 ka) ∧ w'.cell? ⟨g, 1, none⟩ = some (.int .i64 na) ∧ w'.cell? ⟨g, 2, none⟩ = some (.int .u64 (va : Int)) ∧ w'.cell? ⟨g, 3, none⟩ = some (.string sa)) (first | go_keep | exact ⟨cell_later hbn (by go_keep), cell_later hbn (by go_keep), cell_later hbn (by go_keep), cell_later hbn (by go_keep)⟩)
        (first | (go_at_call 25; refine (C1.out _).mono ?_; rintro e w' ⟨rfl, m, rfl⟩) | (go_at_call 10; refine (BG.out _).mono ?_; rintro e w' ⟨rfl, rfl⟩))
      clear f1 f2 f3 f4 f5
      go_wp2_with fail
      go_ret
      exact ⟨rfl, by have hz := Z11.out.size; repeat (first | exact Z11.out | refine below_drewN ?_ _ | refine Below.drew ?_ | refine Below.alloc ?_ (by first | omega | (simp; done) | (simp; omega)) _)⟩
end Go.Proofs.Ytngaohmfedoeeaa
