/- THE WALK of an item's second method: is it what the reader takes next. -/
import Derived.Test.YtngaohmfedoeeaaRecItem
namespace Go.Proofs.Ytngaohmfedoeeaa
open Go.RowKit
theorem RD.chg {S : Nat → Prop} {w w' : World} {g : Nat} {A : Option Addr} {n cap : Nat} {l : List UInt8} (h : RD w g A n cap l) (hb : Chg S w w') (hg : ¬ S g) (hn : 0 < n → ∀ ad, A = some ad → ¬ S ad.block) : RD w' g A n cap l :=
  ⟨h.blk.chg hb hg, hb.rb h.rd hn, h.hc⟩
def TakenPost (g : Nat) (rest : List UInt8) (w : World) (e : Ending) (w' : World) : Prop :=
  e = .returned (.bool true) ∧ ∃ A' n' cap', RD w' g A' n' cap' rest ∧ Chg (fun k => k = g) w w'
def FailPost (g : Nat) (A : Option Addr) (n cap : Nat) (l : List UInt8) (w : World) (e : Ending) (w' : World) : Prop :=
  e = .returned (.bool false) ∧ RD w' g A n cap l ∧ Below w.heap.size w w'
theorem bel_chg {w w' : World} (S : Nat → Prop) (h : Below w.heap.size w w') : Chg S w w' := Chg.of_below h S
theorem strOf_data (s : ByteArray) : strOf s.data.toList = s := by unfold strOf; cases s; simp
theorem encI_len0 (n : Int) (v : Nat) (s : ByteArray) : (encI 0 n v s).length = widN n := by unfold encI; rw [if_pos rfl, leB_length]
set_option maxRecDepth 100000 in
set_option maxHeartbeats 4000000 in
theorem taken_ok (k n : Int) (v : Nat) (s : ByteArray) (g : Nat) (A : Option Addr) (nl cap : Nat) (rest : List UInt8) (w : World) (hv : v < 18446744073709551616) (hs : s.size ≤ 1048576) (hm : RD w g A nl cap (encI k n v s ++ rest)) (hnl : nl ≤ 140737488355328) :
    Calls Try.prog 24 #[.agg (itemV k n v s), .pointer (some ⟨g, 0, none⟩)] w (TakenPost g rest w) := by
  have B0 : Blk (w.alloc (.cells #[.int .i64 k, .int .i64 n, .int .u64 (v : Int), .string s] 58)) w.heap.size 58 #[.int .i64 k, .int .i64 n, .int .u64 (v : Int), .string s] := Blk.new w _ _ rfl
  have hz0 : Chg (fun k => k = g) w (w.alloc (.cells #[.int .i64 k, .int .i64 n, .int .u64 (v : Int), .string s] 58)) := (Chg.refl _ _).alloc _
  have H0 := Lib.hid B0; have Z0 := Lib.hid hz0; have M0 := Lib.hid (hm.alloc (.cells #[.int .i64 k, .int .i64 n, .int .u64 (v : Int), .string s] 58))
  have hgl : g < w.heap.size := hm.blk.lt
  clear B0 hz0 hm
  unfold itemV
  by_cases h0 : k = 0
  · subst h0
    have HE : Hid (encI 0 n v s = leB (valN n v) (widN n)) := Lib.hid rfl
    have CA := fun w' => value_any 0 n v s w' hv
    unfold ValPost itemV at CA
    have CW := fun w' => width_any n w'
    have hva := valN_lt n v
    have hwd := widN_bd n
    obtain ⟨x, hx⟩ : ∃ x, x = widN n := ⟨_, rfl⟩
    obtain ⟨p, hp⟩ : ∃ p, p = valN n v := ⟨_, rfl⟩
    rw [← hx, ← hp] at hva HE
    rw [← hx] at hwd CW
    rw [← hp] at CA
    rw [HE.out] at M0
    have hxn : x ≤ nl := by have := M0.out.len; rw [List.length_append, leB_length] at this; omega
    have htk : (leB p x ++ rest).take x = leB p x := List.take_left' (leB_length p x)
    have hdr : (leB p x ++ rest).drop x = rest := List.drop_left' (leB_length p x)
    have hval : leV (leB p x) = p := by rw [leV_leB]; exact Nat.mod_eq_of_lt hva
    have CN := fun w' hm' => rnum_ok g A nl cap (leB p x ++ rest) x w' hm' hwd.1 hwd.2 hxn
    rw [htk, hval] at CN
    have M1 := M0.out.adv (k := x) hxn
    rw [hdr] at M1
    have M1' : RD (advW (w.alloc (.cells #[.int .i64 0, .int .i64 n, .int .u64 (v : Int), .string s] 58)) g A nl cap x) g (advA A cap x) (nl - x) (cap - x) rest := M1
    have H1 : Blk (advW (w.alloc (.cells #[.int .i64 0, .int .i64 n, .int .u64 (v : Int), .string s] 58)) g A nl cap x) w.heap.size 58 #[.int .i64 0, .int .i64 n, .int .u64 (v : Int), .string s] := H0.out.far (p := ⟨g, 0, none⟩) (by show w.heap.size ≠ g; omega) _
    have Z1 : Chg (fun k => k = g) w (advW (w.alloc (.cells #[.int .i64 0, .int .i64 n, .int .u64 (v : Int), .string s] 58)) g A nl cap x) := Z0.out.setCell (p := ⟨g, 0, none⟩) (.inl rfl) _
    have C1 := Lib.hid CA; have C2 := Lib.hid CW; have C3 := Lib.hid CN
    have HM1 := Lib.hid M1'; have HH1 := Lib.hid H1; have HZ1 := Lib.hid Z1
    clear CA CW CN hx hp hva hv htk hdr hval M1 M1' H1 Z1 HE
    obtain ⟨a0, a1, a2, a3⟩ := It.of H0.out
    go_enter Try.func24, Try.ntmps24
    go_wp2_with fail
    refine (C2.out _).mono ?_
    rintro e w' ⟨rfl, rfl⟩
    go_wp2_with fail
    refine (C3.out _ M0.out).mono ?_
    rintro e w' ⟨rfl, rfl⟩
    obtain ⟨w2, hw2⟩ : ∃ w2, w2 = advW (w.alloc (.cells #[.int .i64 0, .int .i64 n, .int .u64 (v : Int), .string s] 58)) g A nl cap x := ⟨_, rfl⟩
    rw [← hw2] at HM1 HH1 HZ1 ⊢
    clear hw2 a0 a1 a2 a3
    obtain ⟨a0, a1, a2, a3⟩ := It.of HH1.out
    have HF : Hid (∀ (m : Nat) (O : Obj), TakenPost g rest w (.returned (.bool true)) ((w2.alloc O).drewN m)) := Lib.hid (fun m O =>
      ⟨rfl, _, _, _, (HM1.out.alloc O).chg ((Chg.refl (fun _ => False) _).drewN m) id (fun _ _ _ => id), (HZ1.out.alloc O).drewN m⟩)
    go_wp2_with fail
    refine (C1.out _).mono ?_
    rintro e w' ⟨rfl, m, rfl⟩
    go_wp2_with fail
    go_ret
    exact HF.out m _
  · have t0 : (k == 0) = false := by simpa using h0
    by_cases h1 : k = 1
    · subst h1
      have HE : Hid (encI 1 n v s = textB s.data.toList) := Lib.hid rfl
      rw [HE.out] at M0
      have hsl : s.data.toList.length = s.size := rfl
      have hln : 4 + s.size ≤ nl := by have := M0.out.len; rw [List.length_append, textB_length] at this; omega
      have htk : leV ((textB s.data.toList ++ rest).take 4) = s.size := by
        unfold textB
        rw [List.append_assoc, List.take_left' (leB_length _ 4), leV_leB, hsl, Nat.mod_eq_of_lt (by omega)]
      have hdr : ((textB s.data.toList ++ rest).drop 4).take s.size = s.data.toList := by
        unfold textB
        rw [List.append_assoc, List.drop_left' (leB_length _ 4), List.take_left' hsl]
      have hdr2 : (textB s.data.toList ++ rest).drop (4 + s.size) = rest := List.drop_left' (by rw [textB_length, hsl])
      have CN := fun w' hm' => rtext_ok g A nl cap (textB s.data.toList ++ rest) s.size w' hm' (by omega) htk hln hnl
      rw [hdr, strOf_data] at CN
      have M1 := M0.out.adv (k := 4 + s.size) hln
      rw [hdr2] at M1
      have M1' : RD (advW (w.alloc (.cells #[.int .i64 1, .int .i64 n, .int .u64 (v : Int), .string s] 58)) g A nl cap (4 + s.size)) g (advA A cap (4 + s.size)) (nl - (4 + s.size)) (cap - (4 + s.size)) rest := M1
      have H1 : Blk (advW (w.alloc (.cells #[.int .i64 1, .int .i64 n, .int .u64 (v : Int), .string s] 58)) g A nl cap (4 + s.size)) w.heap.size 58 #[.int .i64 1, .int .i64 n, .int .u64 (v : Int), .string s] := H0.out.far (p := ⟨g, 0, none⟩) (by show w.heap.size ≠ g; omega) _
      have Z1 : Chg (fun k => k = g) w (advW (w.alloc (.cells #[.int .i64 1, .int .i64 n, .int .u64 (v : Int), .string s] 58)) g A nl cap (4 + s.size)) := Z0.out.setCell (p := ⟨g, 0, none⟩) (.inl rfl) _
      have C3 := Lib.hid CN
      have HM1 := Lib.hid M1'; have HH1 := Lib.hid H1; have HZ1 := Lib.hid Z1
      clear CN htk hdr hdr2 hsl M1 M1' H1 Z1 HE
      have hss : (s.toList == s.toList) = true := by simp
      go_enter Try.func24, Try.ntmps24
      go_wp2_with fail
      refine (C3.out _ M0.out).mono ?_
      rintro e w' ⟨rfl, rfl⟩
      obtain ⟨w2, hw2⟩ : ∃ w2, w2 = advW (w.alloc (.cells #[.int .i64 1, .int .i64 n, .int .u64 (v : Int), .string s] 58)) g A nl cap (4 + s.size) := ⟨_, rfl⟩
      rw [← hw2] at HM1 HH1 HZ1 ⊢
      clear hw2
      obtain ⟨a0, a1, a2, a3⟩ := It.of HH1.out
      have HF : Hid (TakenPost g rest w (.returned (.bool true)) w2) := Lib.hid ⟨rfl, _, _, _, HM1.out, HZ1.out⟩
      go_wp2_with fail
      go_ret
      exact HF.out
    · have t1 : (k == 1) = false := by simpa using h1
      have hE : encI k n v s = s.data.toList := by unfold encI; rw [if_neg h0, if_neg h1]
      rw [hE] at M0
      have hsl : s.data.toList.length = s.size := rfl
      have hln : s.size ≤ nl := by have := M0.out.len; rw [List.length_append] at this; omega
      have htk : (s.data.toList ++ rest).take s.size = s.data.toList := List.take_left' hsl
      have hdr : (s.data.toList ++ rest).drop s.size = rest := List.drop_left' hsl
      have CN := fun w' hm' => rtake_ok g A nl cap (s.data.toList ++ rest) s.size w' hm' hln
      have M1 := M0.out.adv (k := s.size) hln
      have R1 := (M0.out.rd.take hln).adv M0.out s.size
      rw [htk] at R1
      rw [hdr] at M1
      have M1' : RD (advW (w.alloc (.cells #[.int .i64 k, .int .i64 n, .int .u64 (v : Int), .string s] 58)) g A nl cap s.size) g (advA A cap s.size) (nl - s.size) (cap - s.size) rest := M1
      have H1 : Blk (advW (w.alloc (.cells #[.int .i64 k, .int .i64 n, .int .u64 (v : Int), .string s] 58)) g A nl cap s.size) w.heap.size 58 #[.int .i64 k, .int .i64 n, .int .u64 (v : Int), .string s] := H0.out.far (p := ⟨g, 0, none⟩) (by show w.heap.size ≠ g; omega) _
      have Z1 : Chg (fun k => k = g) w (advW (w.alloc (.cells #[.int .i64 k, .int .i64 n, .int .u64 (v : Int), .string s] 58)) g A nl cap s.size) := Z0.out.setCell (p := ⟨g, 0, none⟩) (.inl rfl) _
      have C3 := Lib.hid CN
      have HM1 := Lib.hid M1'; have HH1 := Lib.hid H1; have HZ1 := Lib.hid Z1; have HR1 := Lib.hid R1
      clear CN htk hdr hsl M1 M1' H1 Z1 hE R1
      have hss : (s.toList == s.toList) = true := by simp
      go_enter Try.func24, Try.ntmps24
      go_wp2_with fail
      refine (C3.out _ M0.out).mono ?_
      rintro e w' ⟨rfl, rfl⟩
      obtain ⟨w2, hw2⟩ : ∃ w2, w2 = advW (w.alloc (.cells #[.int .i64 k, .int .i64 n, .int .u64 (v : Int), .string s] 58)) g A nl cap s.size := ⟨_, rfl⟩
      rw [← hw2] at HM1 HH1 HZ1 HR1 ⊢
      clear hw2
      have hcv := conv_bytes _ _ _ s.size _ HR1.out
      rw [strOf_data] at hcv
      obtain ⟨a0, a1, a2, a3⟩ := It.of HH1.out
      have HF : Hid (TakenPost g rest w (.returned (.bool true)) w2) := Lib.hid ⟨rfl, _, _, _, HM1.out, HZ1.out⟩
      go_wp2_with fail
      go_ret
      exact HF.out
theorem encI_one (n : Int) (v : Nat) (s : ByteArray) : encI 1 n v s = textB s.data.toList := rfl
set_option maxRecDepth 100000 in
set_option maxHeartbeats 4000000 in
theorem taken_no (k n : Int) (v : Nat) (s : ByteArray) (g : Nat) (A : Option Addr) (nl cap : Nat) (l : List UInt8) (w : World) (hs : s.size ≤ 1048576) (hm : RD w g A nl cap l) (hl : l = (encI k n v s).dropLast) (hp : 0 < (encI k n v s).length) (hnl : nl ≤ 140737488355328) :
    Calls Try.prog 24 #[.agg (itemV k n v s), .pointer (some ⟨g, 0, none⟩)] w (FailPost g A nl cap l w) := by
  have B0 : Blk (w.alloc (.cells #[.int .i64 k, .int .i64 n, .int .u64 (v : Int), .string s] 58)) w.heap.size 58 #[.int .i64 k, .int .i64 n, .int .u64 (v : Int), .string s] := Blk.new w _ _ rfl
  have hz0 : Below w.heap.size w (w.alloc (.cells #[.int .i64 k, .int .i64 n, .int .u64 (v : Int), .string s] 58)) := (Below.refl _ _).alloc (Nat.le_refl _) _
  have M0 := Lib.hid (hm.alloc (.cells #[.int .i64 k, .int .i64 n, .int .u64 (v : Int), .string s] 58))
  have hF : FailPost g A nl cap l w (.returned (.bool false)) (w.alloc (.cells #[.int .i64 k, .int .i64 n, .int .u64 (v : Int), .string s] 58)) := ⟨rfl, M0.out, hz0⟩
  have HF := Lib.hid hF
  obtain ⟨a0, a1, a2, a3⟩ := It.of B0
  have hnn : nl + 1 = (encI k n v s).length := by
    have h1 := hm.len
    rw [hl, List.length_dropLast] at h1
    omega
  have HN := Lib.hid hnn
  have HL := Lib.hid hl
  clear B0 hz0 hm hF hnn hl
  unfold itemV
  by_cases h0 : k = 0
  · subst h0
    have CW := fun w' => width_any n w'
    have hwd := widN_bd n
    have hx : nl + 1 = widN n := by rw [HN.out, encI_len0]
    obtain ⟨x, hxx⟩ : ∃ x, x = widN n := ⟨_, rfl⟩
    rw [← hxx] at hwd CW hx
    have CN := fun w' hm' => rnum_short g A nl cap l x w' hm' hwd.1 hwd.2 (by omega)
    have C2 := Lib.hid CW; have C3 := Lib.hid CN
    clear CW CN hx hxx hp
    go_enter Try.func24, Try.ntmps24
    go_wp2_with fail
    refine (C2.out _).mono ?_
    rintro e w' ⟨rfl, rfl⟩
    go_wp2_with fail
    refine (C3.out _ M0.out).mono ?_
    rintro e w' ⟨rfl, rfl⟩
    go_wp2_with fail
    go_ret
    exact HF.out
  · have t0 : (k == 0) = false := by simpa using h0
    by_cases h1 : k = 1
    · subst h1
      have hsl : s.data.toList.length = s.size := rfl
      have hx : nl + 1 = 4 + s.size := by rw [HN.out, encI_one, textB_length, hsl]
      have CN := fun w' hm' => rtext_short g A nl cap l w' hm' (by
        by_cases h4 : nl < 4
        · exact .inl h4
        · right
          have e4 : l.take 4 = leB s.size 4 := by
            rw [HL.out, encI_one, List.dropLast_eq_take, List.take_take, Nat.min_eq_left (by rw [textB_length]; omega)]
            unfold textB
            rw [List.take_left' (leB_length _ 4)]; rfl
          rw [e4, leV_leB, Nat.mod_eq_of_lt (by omega)]
          omega) hnl
      have C3 := Lib.hid CN
      clear CN hx hsl hp
      go_enter Try.func24, Try.ntmps24
      go_wp2_with fail
      refine (C3.out _ M0.out).mono ?_
      rintro e w' ⟨rfl, rfl⟩
      go_wp2_with fail
      go_ret
      exact HF.out
    · have t1 : (k == 1) = false := by simpa using h1
      have hE : encI k n v s = s.data.toList := by unfold encI; rw [if_neg h0, if_neg h1]
      have hx : nl + 1 = s.size := by rw [HN.out, hE]; rfl
      have CN := fun w' hm' => rtake_short g A nl cap l (s.size : Int) w' hm' (by omega)
      have C3 := Lib.hid CN
      clear CN hE hp hx
      go_enter Try.func24, Try.ntmps24
      go_wp2_with fail
      refine (C3.out _ M0.out).mono ?_
      rintro e w' ⟨rfl, rfl⟩
      go_wp2_with fail
      go_ret
      exact HF.out
end Go.Proofs.Ytngaohmfedoeeaa
