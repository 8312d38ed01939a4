/- THE WALK of the law CkptBack. -/
import Derived.Test.YtpeaacbbfkanmaaDoorCkptOf
import Derived.Test.YtpeaacbbfkanmaaDoorCkptSet
namespace Go.Proofs.YtpeaacbbfkanmaaDoor
open Go.RowKit
theorem quiet2 {P : Program} {f : FuncId} {args : Array Value} {w : World} {n : Nat} {v : Value} (h : Calls P f args (w.drewN n) fun e w' => e = .returned v ∧ ∃ m, w' = (w.drewN n).drewN m) :
    Calls P f args (w.drewN n) fun e w'' => e = .returned v ∧ ∃ m, w'' = w.drewN m := h.mono fun _ _ ⟨he, m, hm⟩ => ⟨he, n + m, hm.trans (by simp)⟩
theorem OM.atk {w : World} {base g c n : Nat} {la : List Mk} {k : Nat} {M : Mk} (h : OM w base (.slice (some ⟨g, 0, none⟩) n c) (la.set k M)) (hk : k < la.length) {j : Nat} {u : Value} (hu : M.cells[j]? = some u) : w.cell? ⟨g, k * 9 + j, none⟩ = some u :=
  h.at_ (by rw [List.getElem?_set_self hk]) hu
theorem OM.put {w : World} {base g c n : Nat} {la : List Mk} {k : Nat} {M : Mk} (h : OM w base (.slice (some ⟨g, 0, none⟩) n c) (la.set k M)) (hk : k < la.length) {j : Nat} (hj : j < 9) (x : Int) :
    OM (w.setCell ⟨g, k * 9 + j, none⟩ (.int .i64 x)) base (.slice (some ⟨g, 0, none⟩) n c) (la.set k (M.put j x)) := by
  have := h.stored (k := k) (by rw [List.getElem?_set_self hk]) hj x
  rwa [List.set_set] at this
theorem may_set {la : List Mk} (h : mayB la = true) {k : Nat} {M : Mk} (hM : mayM M = true) : mayB (la.set k M) = true := by
  obtain ⟨h1, h2, h3⟩ := mayB_parts h
  unfold mayB
  have e : (la.set k M).all mayM = true := by
    rw [List.all_eq_true]
    intro x hx
    rcases List.mem_or_eq_of_mem_set hx with hx | rfl
    · exact List.all_eq_true.1 h1 x hx
    · exact hM
  rw [e, List.length_set]
  simp [h2, h3]
def TruePost (w : World) (e : Ending) (w' : World) : Prop := e = .returned (.bool true) ∧ Below w.heap.size w w'
def DecXPost (l : List Mk) (many : Int) (w : World) (e : Ending) (w' : World) : Prop := Below w.heap.size w w' ∧ ((many = (l.length : Int) ∧ ∃ g, e = .returned (.tuple #[.slice (some ⟨g, 0, none⟩) l.length l.length, .int .i64 0]) ∧ MS w' (some ⟨g, 0, none⟩) l.length l) ∨ (many ≠ (l.length : Int) ∧ e = .returned (.tuple #[.slice none 0 0, .int .i64 210])))
theorem dec_x (D : Option Addr) (n dc : Nat) (l : List Mk) (many : Int) (w : World) (hT : CrcTab w) (hr : RB w D n (encB l)) (hcap : n ≤ dc) (hmay : mayB l = true) :
    Calls Tryd.prog 13 #[.slice D n dc, .int .i64 many] w (DecXPost l many w) := by
  show Calls _ _ _ _ fun e w' => Below w.heap.size w w' ∧ ((many = (l.length : Int) ∧ ∃ g, e = .returned (.tuple #[.slice (some ⟨g, 0, none⟩) l.length l.length, .int .i64 0]) ∧ MS w' (some ⟨g, 0, none⟩) l.length l) ∨ (many ≠ (l.length : Int) ∧ e = .returned (.tuple #[.slice none 0 0, .int .i64 210])))
  obtain ⟨_, hp1, hp8⟩ := mayB_parts hmay
  have hn := hr.1
  rw [encB_length] at hn
  by_cases hm : 1 ≤ many ∧ many ≤ 8
  · obtain ⟨m, rfl⟩ := Int.eq_ofNat_of_zero_le (show 0 ≤ many by omega)
    refine (decode_any D n dc (encB l) m w hT hr hcap (by omega) (by omega) (by omega) (by omega)).mono ?_
    intro e w' hpost
    by_cases hml : m = l.length
    · subst hml
      have h := hpost.1 (decB_enc hmay)
      rw [parse_encB hmay] at h
      obtain ⟨g, C, he, _, _, _, hms, hb⟩ := h
      exact ⟨hb, .inl ⟨rfl, g, he, hms⟩⟩
    · have h := hpost.2 (decB_len (by rw [encB_length]; omega))
      exact ⟨h.2, .inr ⟨by omega, h.1⟩⟩
  · refine (decode_args D n dc (encB l) many w hr (by omega)).mono ?_
    intro e w' h
    exact ⟨h.2, .inr ⟨by omega, h.1⟩⟩
set_option maxRecDepth 100000 in
set_option maxHeartbeats 4000000 in
theorem back_any (A0 A1 : Option Addr) (n0 c0 n1 c1 : Nat) (l0 l1 : List Mk) (many bad : Int) (w : World) (hT : CrcTab w) (hl0 : MS w A0 n0 l0) (hl1 : MS w A1 n1 l1) (hc0 : n0 ≤ c0) (hc1 : n1 ≤ c1) (hn0 : n0 ≤ 9223372036854775807) (hn1 : n1 ≤ 9223372036854775807) (h0 : ∀ m ∈ l0, M64 m) (h1 : ∀ m ∈ l1, M64 m) (hb1 : -9223372036854775808 ≤ bad) (hb2 : bad ≤ 9223372036854775807) :
    Calls Tryd.prog 5 #[.slice A0 n0 c0, .slice A1 n1 c1, .int .i64 many, .int .i64 bad] w (TruePost w) := by
  have Q0 := Lib.hid (lawmay_any A0 n0 c0 l0 w hl0 hc0 hn0 h0)
  have L1 := Lib.hid (fun w' h => lawmay_any A1 n1 c1 l1 w' h hc1 hn1 h1)
  have HL1 := Lib.hid hl1; have HT := Lib.hid hT
  have MA := Lib.hid (mayOf_may h0); have MB := Lib.hid (mayOf_may h1)
  obtain ⟨la, hla⟩ : ∃ la, la = mayOf l0 := ⟨_, rfl⟩
  obtain ⟨lb, hlb⟩ : ∃ lb, lb = mayOf l1 := ⟨_, rfl⟩
  rw [← hla] at Q0 MA
  rw [← hlb] at L1 MB
  clear hT hl0 hl1 h0 h1 hla hlb hn0 hn1
  go_enter Tryd.func5, Tryd.ntmps5
  go_wp2_with fail
  refine Q0.out.mono ?_
  intro e w1 hpost
  obtain ⟨v9, rfl, ho9, hbw1⟩ := hpost
  have OA1 := Lib.hid ho9; have B1 := Lib.hid hbw1
  clear ho9 hbw1
  go_wp2_with fail
  refine (L1.out _ (HL1.out.keep B1.out)).mono ?_
  intro e w2 hpost
  obtain ⟨v10, rfl, ho10, hbw2⟩ := hpost
  have OA2 := Lib.hid (OA1.out.keep hbw2); have B2 := Lib.hid (B1.out.trans (hbw2.mono B1.out.size)); have OB2 := Lib.hid ho10
  clear ho10 hbw2 OA1
  obtain ⟨A9, ca, rfl, hca, _, hfa⟩ := OA2.out.form
  obtain ⟨A10, cb, rfl, hcb, _, _⟩ := OB2.out.form
  obtain ⟨_, hp1, hp8⟩ := mayB_parts MA.out
  obtain ⟨ga, rfl⟩ : ∃ ga, A9 = some ⟨ga, 0, none⟩ := by
    rcases hfa with ⟨_, h⟩ | ⟨g, h, _⟩
    · omega
    · exact ⟨g, h⟩
  obtain ⟨na, hna⟩ : ∃ na, na = la.length := ⟨_, rfl⟩
  obtain ⟨nb, hnb⟩ : ∃ nb, nb = lb.length := ⟨_, rfl⟩
  rw [← hna] at hp1 hp8 hca OA2 ⊢
  rw [← hnb] at hcb OB2 ⊢
  have NA := Lib.hid hna; have NB := Lib.hid hnb
  clear hfa hna hnb
  have msA := fun (w' : World) (h : OM w' w.heap.size (.slice (some ⟨ga, 0, none⟩) na ca) la) => (show MS w' (some ⟨ga, 0, none⟩) na la from by
    obtain ⟨_, _, e, _, h2, _⟩ := h.form
    injection e with e1 e2 e3
    rw [e1, e2]; exact h2)
  have msB := fun (w' : World) (h : OM w' w1.heap.size (.slice A10 nb cb) lb) => (show MS w' A10 nb lb from by
    obtain ⟨_, _, e, _, h2, _⟩ := h.form
    injection e with e1 e2 e3
    rw [e1, e2]; exact h2)
  have SA := Lib.hid msA; have SB := Lib.hid msB
  clear msA msB
  go_wp2_with fail
  refine (encode_ok _ na ca la _ (HT.out.keep B2.out) (SA.out _ OA2.out) hca MA.out).mono ?_
  intro e w3 hpost
  obtain ⟨v11, rfl, hx3, hbw3⟩ := hpost
  have OA3 := Lib.hid (OA2.out.keep hbw3); have OB3 := Lib.hid (OB2.out.keep hbw3); have B3 := Lib.hid (B2.out.trans (hbw3.mono B2.out.size)); have X3 := Lib.hid hx3
  obtain ⟨AX, cx, rfl, hcx, _, _⟩ := hx3.form
  clear hbw3 hx3 OA2 OB2
  go_wp2_with fail
  refine (encode_ok _ nb cb lb _ (HT.out.keep B3.out) (SB.out _ OB3.out) hcb MB.out).mono ?_
  intro e w4 hpost
  obtain ⟨v13, rfl, hy4, hbw4⟩ := hpost
  have OA4 := Lib.hid (OA3.out.keep hbw4); have OB4 := Lib.hid (OB3.out.keep hbw4); have B4 := Lib.hid (B3.out.trans (hbw4.mono B3.out.size)); have X4 := Lib.hid (X3.out.keep hbw4); have Y4 := Lib.hid hy4
  obtain ⟨AY, cy, rfl, hcy, _, _⟩ := hy4.form
  clear hbw4 hy4 OA3 OB3 X3
  obtain ⟨nx, hnx⟩ : ∃ nx, nx = (encB la).length := ⟨_, rfl⟩
  obtain ⟨ny, hny⟩ : ∃ ny, ny = (encB lb).length := ⟨_, rfl⟩
  rw [← hnx] at hcx X4 ⊢
  rw [← hny] at hcy Y4 ⊢
  have NX := Lib.hid hnx
  have hnx2 : nx = 13 + 72 * na := by rw [hnx, encB_length, NA.out]
  have NX2 := Lib.hid hnx2
  clear hnx hny hnx2
  go_wp2_with fail
  have CX := dec_x AX nx cx la (na : Int) w4 (HT.out.keep B4.out) X4.out.rb hcx MA.out
  refine CX.mono ?_
  intro e w5 hpost
  obtain ⟨hbw5, hpost⟩ := hpost
  have OA5 := Lib.hid (OA4.out.keep hbw5); have OB5 := Lib.hid (OB4.out.keep hbw5); have B5 := Lib.hid (B4.out.trans (hbw5.mono B4.out.size)); have X5 := Lib.hid (X4.out.keep hbw5); have Y5 := Lib.hid (Y4.out.keep hbw5)
  clear hbw5 OA4 OB4 X4 Y4
  rcases hpost with ⟨hx0, gl, rfl, hml⟩ | ⟨hne, _⟩
  rotate_left
  · exact absurd (by rw [NA.out]) hne
  clear hx0
  rw [← NA.out] at hml ⊢
  have ML := Lib.hid hml
  clear hml
  go_wp2_with fail
  refine (known_any _ (HT.out.keep B5.out)).mono ?_
  rintro e w6 ⟨rfl, hbw6⟩
  have OA6 := Lib.hid (OA5.out.keep hbw6); have OB6 := Lib.hid (OB5.out.keep hbw6); have B6 := Lib.hid (B5.out.trans (hbw6.mono B5.out.size)); have X6 := Lib.hid (X5.out.keep hbw6); have Y6 := Lib.hid (Y5.out.keep hbw6)
  have ML6 := Lib.hid (ML.out.keep hbw6)
  clear hbw6 OA5 OB5 X5 Y5 ML
  have hss : sameB la la = true := (sameB_iff la la).2 rfl
  have HSS := Lib.hid hss
  have tw : RowKit.wrap64 (72 * (na : Int)) = 72 * (na : Int) := by unfold RowKit.wrap64; omega
  have tx : ((nx : Int) == 13 + 72 * (na : Int)) = true := by have := NX2.out; simp; omega
  clear hss
  go_wp2_with fail
  refine (same_any _ _ na na na ca la la _ ML6.out (SA.out _ OA6.out) (by omega) (by omega) (Nat.le_refl _) hca).mono ?_
  rintro e w7 ⟨rfl, md7, rfl⟩
  rw [HSS.out]
  go_upto_region 8 with fail
  obtain ⟨w7, hw7⟩ : ∃ w7, w7 = w6.drewN md7 := ⟨_, rfl⟩
  have OA7 : Hid (OM w7 w.heap.size (.slice (some ⟨ga, 0, none⟩) na ca) la) := Lib.hid (by rw [hw7]; exact OA6.out)
  have OB7 : Hid (OM w7 w1.heap.size (.slice A10 nb cb) lb) := Lib.hid (by rw [hw7]; exact OB6.out)
  have X7 : Hid (OB w7 w3.heap.size (.slice AX nx cx) (encB la)) ∨ Hid (OB w7 w2.heap.size (.slice AX nx cx) (encB la)) := by
    rw [hw7]
    first | exact .inl (Lib.hid X6.out) | exact .inr (Lib.hid X6.out)
  have RX7 : Hid (RB w7 AX nx (encB la)) := Lib.hid (by rw [hw7]; exact (X6.out.rb).drewN _)
  have RY7 : Hid (RB w7 AY ny (encB lb)) := Lib.hid (by rw [hw7]; exact (Y6.out.rb).drewN _)
  have B7 : Hid (Below w.heap.size w w7) := Lib.hid (by rw [hw7]; exact below_drewN B6.out _)
  rw [← hw7]
  clear hw7 OA6 OB6 X6 Y6 ML6 tx tw X7
  have CX2 := Lib.hid (dec_x AX nx cx la many w7 (HT.out.keep B7.out) RX7.out hcx MA.out)
  go_cut [17, 18] (fun s17 s18 wx => Below w7.heap.size w7 wx ∧ ((many = (na : Int) ∧ s18 = .int .i64 0 ∧ ∃ g, s17 = .slice (some ⟨g, 0, none⟩) na na) ∨ (many ≠ (na : Int) ∧ s18 = .int .i64 210 ∧ s17 = .slice none 0 0)))
  case first =>
    go_wp2_with fail
    refine CX2.out.mono ?_
    intro e w8 hpost
    obtain ⟨hb8, hpost⟩ := hpost
    rcases hpost with ⟨hm, gl2, rfl, _⟩ | ⟨hm, rfl⟩
    · rw [← NA.out] at hm ⊢
      have HM := Lib.hid hm; have HB8 := Lib.hid hb8
      clear hm hb8
      go_wp2_with fail
      go_meet
      exact ⟨HB8.out, .inl ⟨HM.out, rfl, gl2, rfl⟩⟩
    · rw [← NA.out] at hm
      have HM := Lib.hid hm; have HB8 := Lib.hid hb8
      clear hm hb8
      go_wp2_with fail
      go_meet
      exact ⟨HB8.out, .inr ⟨HM.out, rfl, rfl⟩⟩
  case rest =>
    obtain ⟨hb8, hcut⟩ := hcut
    have OA8 := Lib.hid (OA7.out.keep hb8); have OB8 := Lib.hid (OB7.out.keep hb8); have RX8 := Lib.hid (RX7.out.keep hb8); have RY8 := Lib.hid (RY7.out.keep hb8); have B8 := Lib.hid (B7.out.trans (hb8.mono B7.out.size))
    have HCUT := Lib.hid hcut
    clear hb8 hcut OA7 OB7 RX7 RY7 B7 CX2
    obtain ⟨w8, hw8⟩ : ∃ w8, w8 = wc := ⟨_, rfl⟩
    subst hw8
    go_upto_region 9 with fail
    go_cut [104] (fun s wx => s = .bool false ∧ wx = w8)
    case first =>
      rcases HCUT.out with ⟨hm, rfl, g2, rfl⟩ | ⟨hm, rfl, rfl⟩
      · have tm : (many == (na : Int)) = true := by simp [hm]
        have HM := Lib.hid hm
        clear hm HCUT
        go_wp2_with fail
        go_meet
        exact ⟨rfl, rfl⟩
      · have tm : (many == (na : Int)) = false := by simp [hm]
        have HM := Lib.hid hm
        clear hm HCUT
        go_wp2_with fail
        go_meet
        exact ⟨rfl, rfl⟩
    case rest =>
      obtain ⟨rfl, hcut⟩ := hcut
      rw [hcut]
      clear hcut HCUT wc
      have q1 : ∀ k, (convert 24 9 (.slice AX nx cx)).run Tryd.prog (w8.drewN k) = .ok (.string (strOf (encB la))) (w8.drewN k) := fun k => conv_bytes (w8.drewN k) AX nx cx _ (RX8.out.drewN k)
      have q2 : ∀ k, (convert 24 9 (.slice AY ny cy)).run Tryd.prog (w8.drewN k) = .ok (.string (strOf (encB lb))) (w8.drewN k) := fun k => conv_bytes (w8.drewN k) AY ny cy _ (RY8.out.drewN k)
      have hnb8 : nb ≤ 8 := by rw [NB.out]; exact (mayB_parts MB.out).2.2
      have q3 := Lib.hid (fun k => same_any (some ⟨ga, 0, none⟩) A10 na nb ca cb la lb (w8.drewN k) (SA.out _ OA8.out) (SB.out _ OB8.out) (by omega) (by omega) hca hcb)
      have hss : ((strOf (encB la)).toList == (strOf (encB lb)).toList) = sameB la lb := by
        rw [strOf_toList, strOf_toList]
        cases hs : sameB la lb with
        | true => rw [(sameB_iff la lb).1 hs]; simp
        | false =>
          rw [beq_eq_false_iff_ne]
          intro h
          rw [(sameB_iff la lb).2 (encB_inj MA.out MB.out h)] at hs
          cases hs
      obtain ⟨sv, hsv⟩ : ∃ sv, sv = sameB la lb := ⟨_, rfl⟩
      rw [← hsv] at hss q3
      clear hsv
      unfold SamePost at q3
      go_upto_region 11 with fail
      go_cut [113] (fun s wx => s = .bool false ∧ Below w8.heap.size w8 wx)
      case first =>
        cases sv
        all_goals
          go_quiet ((with_reducible exact quiet2 (q3.out _)))
          go_wp2_with fail
          go_meet
          exact ⟨rfl, below_drewN (Below.refl _ _) _⟩
      case rest =>
        obtain ⟨rfl, hb9⟩ := hcut
        have OA9 := Lib.hid (OA8.out.keep hb9); have B9 := Lib.hid (B8.out.trans (hb9.mono B8.out.size))
        clear hb9 OA8 OB8 RX8 RY8 B8
        obtain ⟨w9, hw9⟩ : ∃ w9, w9 = wc := ⟨_, rfl⟩
        subst hw9
        go_upto_if 119 with fail
        go_cut [19] (fun s wx => (∃ k : Nat, k < na ∧ s = .int .i64 (k : Int)) ∧ wx = w9)
        case first =>
          have hr1 : bad.tmod (na : Int) < (na : Int) := Int.tmod_lt_of_pos _ (by omega)
          have hr2 : -(na : Int) < bad.tmod (na : Int) := Int.lt_tmod_of_pos _ (by omega)
          obtain ⟨r, hr⟩ : ∃ r, r = bad.tmod (na : Int) := ⟨_, rfl⟩
          rw [← hr] at hr1 hr2 ⊢
          clear hr
          by_cases hneg : r < 0
          · obtain ⟨k, rfl⟩ : ∃ k : Nat, r = -(k : Int) := ⟨(-r).toNat, by omega⟩
            go_wp2_with fail
            go_meet
            exact ⟨⟨k, by omega, by simp⟩, rfl⟩
          · obtain ⟨k, rfl⟩ := Int.eq_ofNat_of_zero_le (show 0 ≤ r by omega)
            go_wp2_with fail
            go_meet
            exact ⟨⟨k, by omega, rfl⟩, rfl⟩
        case rest =>
          obtain ⟨⟨k, hk, rfl⟩, hcut⟩ := hcut
          rw [hcut]
          clear hcut wc
          have hkl : k < la.length := by have := NA.out; omega
          obtain ⟨m, hm⟩ : ∃ m, la[k]? = some m := ⟨_, List.getElem?_eq_getElem hkl⟩
          have hset : la.set k m = la := by
            obtain ⟨h, e⟩ := List.getElem?_eq_some_iff.1 hm
            rw [← e]; exact List.set_getElem_self h
          have O1 : Hid (OM w9 w.heap.size (.slice (some ⟨ga, 0, none⟩) na ca) (la.set k m)) := Lib.hid (by rw [hset]; exact OA9.out)
          have hmm : mayM m = true := List.all_eq_true.1 (mayB_parts MA.out).1 m (List.mem_of_getElem? hm)
          have hb : ∀ x ∈ m.list, 0 ≤ x ∧ x ≤ 4611686018427387904 := fun x hx => by
            unfold mayM at hmm
            simp only [Bool.and_eq_true] at hmm
            have h2 := List.all_eq_true.1 hmm.1 x hx
            simp [bigB] at h2
            omega
          have HMB := Lib.hid hb
          have HMK := Lib.hid hkl
          have hga : w.heap.size ≤ ga := (OA9.out.lt ga rfl).1
          obtain ⟨hg0, hg1⟩ := hb m.a2 (by simp [Mk.list])
          have SA2 : Hid (∀ (w' : World) (M : Mk), OM w' w.heap.size (.slice (some ⟨ga, 0, none⟩) na ca) (la.set k M) → MS w' (some ⟨ga, 0, none⟩) na (la.set k M)) := Lib.hid (fun w' M h => by
            obtain ⟨_, _, e, _, h2, _⟩ := h.form
            injection e with e1 e2 e3
            rw [e1, e2]; exact h2)
          clear hm hset hmm hb hkl OA9
          have c1 : w9.cell? ⟨ga, k * 9 + 1, none⟩ = some (.int .i64 m.a1) := O1.out.atk HMK.out (j := 1) rfl
          have c2 : w9.cell? ⟨ga, k * 9 + 2, none⟩ = some (.int .i64 m.a2) := O1.out.atk HMK.out (j := 2) rfl
          have f2 : w9.frozen? ⟨ga, k * 9 + 2, none⟩ = false := O1.out.frozen _
          have hdv : m.a2.tdiv 2 = m.a2 / 2 := Int.tdiv_eq_ediv_of_nonneg hg0
          go_upto_region 18 with fail
          obtain ⟨x1, hx1⟩ : ∃ x1, x1 = -1 - m.a2 := ⟨_, rfl⟩
          rw [← hx1]
          have O2 := Lib.hid (O1.out.put HMK.out (j := 2) (by decide) x1)
          have B10 := Lib.hid (B9.out.setCell (p := ⟨ga, k * 9 + 2, none⟩) hga (.int .i64 x1))
          obtain ⟨w10, hw10⟩ : ∃ w10, w10 = w9.setCell ⟨ga, k * 9 + 2, none⟩ (.int .i64 x1) := ⟨_, rfl⟩
          rw [← hw10] at O2 B10 ⊢
          have hbad1 : mayB (la.set k (m.put 2 x1)) = false := bad_mark (k := k) (m := m.put 2 x1) (j := 2) (x := x1) (by rw [List.getElem?_set_self HMK.out]) rfl (by unfold bigB; rw [decide_eq_true]; left; omega)
          have HBAD1 := Lib.hid hbad1
          clear hw10 hx1 c1 c2 f2 hbad1
          go_wp2_with fail
          refine (encode_bad _ na ca _ _ (SA2.out _ _ O2.out) hca (by omega) HBAD1.out).mono ?_
          rintro e w11 ⟨rfl, hb11⟩
          have O3 := Lib.hid (O2.out.keep hb11); have B11 := Lib.hid (B10.out.trans (hb11.mono B10.out.size))
          clear hb11 O2 B10
          have d2 : w11.cell? ⟨ga, k * 9 + 2, none⟩ = some (.int .i64 x1) := O3.out.atk HMK.out (j := 2) rfl
          have f2 : w11.frozen? ⟨ga, k * 9 + 2, none⟩ = false := O3.out.frozen _
          go_upto_region 20 with fail
          obtain ⟨x2, hx2⟩ : ∃ x2, x2 = 4611686018427387905 + m.a2 / 2 := ⟨_, rfl⟩
          rw [← hx2]
          have O4 := Lib.hid (O3.out.put HMK.out (j := 2) (by decide) x2)
          have B12 := Lib.hid (B11.out.setCell (p := ⟨ga, k * 9 + 2, none⟩) hga (.int .i64 x2))
          obtain ⟨w12, hw12⟩ : ∃ w12, w12 = w11.setCell ⟨ga, k * 9 + 2, none⟩ (.int .i64 x2) := ⟨_, rfl⟩
          rw [← hw12] at O4 B12 ⊢
          have hbad2 : mayB (la.set k ((m.put 2 x1).put 2 x2)) = false := bad_mark (k := k) (m := (m.put 2 x1).put 2 x2) (j := 2) (x := x2) (by rw [List.getElem?_set_self HMK.out]) rfl (by unfold bigB; rw [decide_eq_true]; right; omega)
          have HBAD2 := Lib.hid hbad2
          clear hw12 hx2 d2 f2 hbad2 O3
          go_wp2_with fail
          refine (encode_bad _ na ca _ _ (SA2.out _ _ O4.out) hca (by omega) HBAD2.out).mono ?_
          rintro e w13 ⟨rfl, hb13⟩
          have O5 := Lib.hid (O4.out.keep hb13); have B13 := Lib.hid (B12.out.trans (hb13.mono B12.out.size))
          clear hb13 O4 B12 HBAD1 HBAD2
          have e1 : w13.cell? ⟨ga, k * 9 + 1, none⟩ = some (.int .i64 m.a1) := O5.out.atk HMK.out (j := 1) rfl
          have f1 : w13.frozen? ⟨ga, k * 9 + 1, none⟩ = false := O5.out.frozen _
          go_upto_region 22 with fail
          have O6 := Lib.hid (O5.out.put HMK.out (j := 1) (by decide) 0)
          have B14 := Lib.hid (B13.out.setCell (p := ⟨ga, k * 9 + 1, none⟩) hga (.int .i64 0))
          obtain ⟨w14, hw14⟩ : ∃ w14, w14 = w13.setCell ⟨ga, k * 9 + 1, none⟩ (.int .i64 0) := ⟨_, rfl⟩
          rw [← hw14] at O6 B14 ⊢
          clear hw14 e1 f1 O5 B13
          have e2 : w14.cell? ⟨ga, k * 9 + 2, none⟩ = some (.int .i64 x2) := O6.out.atk HMK.out (j := 2) rfl
          have f2 : w14.frozen? ⟨ga, k * 9 + 2, none⟩ = false := O6.out.frozen _
          go_upto_region 23 with fail
          have O7 := Lib.hid (O6.out.put HMK.out (j := 2) (by decide) 0)
          have B15 := Lib.hid (B14.out.setCell (p := ⟨ga, k * 9 + 2, none⟩) hga (.int .i64 0))
          obtain ⟨w15, hw15⟩ : ∃ w15, w15 = w14.setCell ⟨ga, k * 9 + 2, none⟩ (.int .i64 0) := ⟨_, rfl⟩
          rw [← hw15] at O7 B15 ⊢
          clear hw15 e2 f2 O6 B14
          have e3 : w15.cell? ⟨ga, k * 9 + 3, none⟩ = some (.int .i64 m.a3) := O7.out.atk HMK.out (j := 3) rfl
          have f3 : w15.frozen? ⟨ga, k * 9 + 3, none⟩ = false := O7.out.frozen _
          go_upto_region 24 with fail
          have O8 := Lib.hid (O7.out.put HMK.out (j := 3) (by decide) 1)
          have B16 := Lib.hid (B15.out.setCell (p := ⟨ga, k * 9 + 3, none⟩) hga (.int .i64 1))
          obtain ⟨w16, hw16⟩ : ∃ w16, w16 = w15.setCell ⟨ga, k * 9 + 3, none⟩ (.int .i64 1) := ⟨_, rfl⟩
          rw [← hw16] at O8 B16 ⊢
          have hbad3 := odd_mark (l := la.set k (((((m.put 2 x1).put 2 x2).put 1 0).put 2 0).put 3 1)) (k := k) (by rw [List.getElem?_set_self HMK.out]) (by simp [oddB, Mk.put])
          have HBAD3 := Lib.hid hbad3
          clear hw16 e3 f3 O7 B15 hbad3
          go_wp2_with fail
          refine (encode_bad _ na ca _ _ (SA2.out _ _ O8.out) hca (by omega) HBAD3.out).mono ?_
          rintro e w17 ⟨rfl, hb17⟩
          have O9 := Lib.hid (O8.out.keep hb17); have B17 := Lib.hid (B16.out.trans (hb17.mono B16.out.size))
          clear hb17 O8 B16 HBAD3
          have e3 : w17.cell? ⟨ga, k * 9 + 3, none⟩ = some (.int .i64 1) := O9.out.atk HMK.out (j := 3) rfl
          have f3 : w17.frozen? ⟨ga, k * 9 + 3, none⟩ = false := O9.out.frozen _
          go_upto_region 26 with fail
          have O10 := Lib.hid (O9.out.put HMK.out (j := 3) (by decide) 0)
          have B18 := Lib.hid (B17.out.setCell (p := ⟨ga, k * 9 + 3, none⟩) hga (.int .i64 0))
          obtain ⟨w18, hw18⟩ : ∃ w18, w18 = w17.setCell ⟨ga, k * 9 + 3, none⟩ (.int .i64 0) := ⟨_, rfl⟩
          rw [← hw18] at O10 B18 ⊢
          have hok : mayM ((((((m.put 2 x1).put 2 x2).put 1 0).put 2 0).put 3 1).put 3 0) = true := by
            have hb := HMB.out
            simp only [Mk.list, List.mem_cons, List.not_mem_nil, or_false, forall_eq_or_imp, forall_eq] at hb
            obtain ⟨q0, q1, q2, q3, q4, q5, q6, q7, q8⟩ := hb
            have hf : ∀ x : Int, 0 ≤ x ∧ x ≤ 4611686018427387904 → bigB x = false := fun x hx => by unfold bigB; simp; omega
            unfold mayM
            simp [Mk.put, Mk.list, hf _ q0, hf _ q4, hf _ q5, hf _ q6, hf _ q7, hf _ q8, hf 0 (by omega), oddB]
          have HOK := Lib.hid (may_set MA.out (k := k) hok)
          clear hw18 e3 f3 O9 B17 hok
          go_wp2_with fail
          refine (encode_ok _ na ca _ _ (HT.out.keep B18.out) (SA2.out _ _ O10.out) hca HOK.out).mono ?_
          intro e w19 hpost
          obtain ⟨v27, rfl, _, hb19⟩ := hpost
          have HF : Hid (TruePost w (.returned (.bool true)) w19) := Lib.hid ⟨rfl, B18.out.trans (hb19.mono B18.out.size)⟩
          clear hb19
          go_wp2_with fail
          go_ret
          exact HF.out
end Go.Proofs.YtpeaacbbfkanmaaDoor
