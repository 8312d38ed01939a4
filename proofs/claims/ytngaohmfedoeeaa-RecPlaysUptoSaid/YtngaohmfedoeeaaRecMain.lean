/- THE WALK of the law RecPlays. -/
import Derived.Test.YtngaohmfedoeeaaRecState
import Derived.Deep.LoopGhost
import Derived.Deep.CutBlock
namespace Go.Proofs.Ytngaohmfedoeeaa
open Go.RowKit
/-- a call; a []Op that came in -/
structure ROp where
  kind : Int
  n : Int
  v : Nat
  s : ByteArray
def ROp.ok (o : ROp) : Prop := o.v < 18446744073709551616 ∧ o.s.size ≤ 1048576
def RSl (w : World) (A : Option Addr) (n : Nat) (l : List ROp) : Prop :=
  l.length = n ∧ (∀ o ∈ l, o.ok) ∧ (0 < n → ∃ b off, A = some ⟨b, off, none⟩ ∧ b < w.heap.size ∧ ∀ (j : Nat) (o : ROp), l[j]? = some o → w.cell? ⟨b, off + j * 4, none⟩ = some (.int .i64 o.kind) ∧ w.cell? ⟨b, off + j * 4 + 1, none⟩ = some (.int .i64 o.n) ∧ w.cell? ⟨b, off + j * 4 + 2, none⟩ = some (.int .u64 (o.v : Int)) ∧ w.cell? ⟨b, off + j * 4 + 3, none⟩ = some (.string o.s))
theorem RSl.keep {w w' : World} {A : Option Addr} {n : Nat} {l : List ROp} (h : RSl w A n l) (hb : Below w.heap.size w w') : RSl w' A n l :=
  ⟨h.1, h.2.1, fun hn => by
    obtain ⟨b, off, e, hlt, hc⟩ := h.2.2 hn
    exact ⟨b, off, e, Nat.lt_of_lt_of_le hlt hb.size, fun j x hj => ⟨(hb.cell (p := ⟨b, _, none⟩) hlt).trans (hc j x hj).1, (hb.cell (p := ⟨b, _, none⟩) hlt).trans (hc j x hj).2.1, (hb.cell (p := ⟨b, _, none⟩) hlt).trans (hc j x hj).2.2.1, (hb.cell (p := ⟨b, _, none⟩) hlt).trans (hc j x hj).2.2.2⟩⟩⟩
def PT (w0 W : World) (b : List UInt8) (fb cf g r : Nat) (B : Option Addr) (cb kb M : Nat) : Prop :=
  ∃ C A n cap t vR vW us ls, ST w0 W C b fb cf g A n cap r B cb t kb vR vW us ls M
def MainPost (w : World) (e : Ending) (w' : World) : Prop := e = .returned (.bool true) ∧ Below w.heap.size w w'
theorem str_add (b : List UInt8) : strOf b ++ ⟨#[77, 78]⟩ = strOf (b ++ [77, 78]) := by
  unfold strOf
  apply ByteArray.ext
  rw [ByteArray.data_append]
  simp
set_option maxRecDepth 100000 in
set_option maxHeartbeats 8000000 in
theorem plays_any (A0 A1 : Option Addr) (n0 c0 n1 cap1 : Nat) (b : List UInt8) (l1 : List ROp) (w : World) (h0 : RB w A0 n0 b) (h1 : RSl w A1 n1 l1) (hc0 : n0 ≤ c0) (hc1 : n1 ≤ cap1) (hn0 : n0 ≤ 1048576) (hn1 : n1 ≤ 1048576) :
    Calls Try.prog 3 #[.slice A0 n0 c0, .slice A1 n1 cap1] w (MainPost w) := by
  have H1 := Lib.hid h1
  have HB0 := Lib.hid h0
  clear h1 h0
  go_enter Try.func3, Try.ntmps3
  go_wp2_with fail
  refine (fixed_any w).mono ?_
  rintro e w1 ⟨rfl, hb1⟩
  have B1 : Hid (Below w.heap.size w w1) := Lib.hid hb1
  have R1 := Lib.hid (HB0.out.keep hb1)
  clear hb1
  have hal : Below w1.heap.size w1 (w1.alloc (.cells #[] 5)) := (Below.refl _ _).alloc (Nat.le_refl _) _
  have B2 : Hid (Below w.heap.size w (w1.alloc (.cells #[] 5))) := Lib.hid (B1.out.trans (hal.mono B1.out.size))
  have R2 := Lib.hid (R1.out.keep hal)
  have O2 : Hid (OB (w1.alloc (.cells #[] 5)) w.heap.size (.slice (some ⟨w1.heap.size, 0, none⟩) 0 0) []) := Lib.hid (OB.fresh rfl B1.out.size)
  have hsz := B2.out.size
  go_wp2_with ((at_builtin; go_must (refine append_bytes rfl (.tmp 35) (.tmp 36) rfl w.heap.size (.slice (some ⟨w1.heap.size, 0, none⟩) 0 0) [] rfl O2.out A0 n0 c0 b rfl R2.out (by simp; omega) hsz ?_); intro v3 w3 hv3 hg3 ha3; refine halt ?_))
  refine unhalt ?_
  rw [List.nil_append] at hv3
  have B3 : Hid (Below w.heap.size w w3) := Lib.hid (B2.out.grown hg3 hsz (fun j hj => (O2.out.lt j hj).1))
  have O3 := Lib.hid hv3
  have R3 : Hid (RB w3 A0 n0 b) := Lib.hid (HB0.out.keep B3.out)
  clear hv3 hg3 ha3 O2 B2 R2 hal hsz R1 B1
  have hal : Below w3.heap.size w3 (w3.alloc (.cells #[.int .u8 77, .int .u8 78] 5)) := (Below.refl _ _).alloc (Nat.le_refl _) _
  have B4 : Hid (Below w.heap.size w (w3.alloc (.cells #[.int .u8 77, .int .u8 78] 5))) := Lib.hid (B3.out.trans (hal.mono B3.out.size))
  have O4 := Lib.hid (O3.out.keep hal)
  have N4 : Hid (RB (w3.alloc (.cells #[.int .u8 77, .int .u8 78] 5)) (some ⟨w3.heap.size, 0, none⟩) 2 [77, 78]) := Lib.hid (RB.new w3 5 (0, 0) #[.int .u8 77, .int .u8 78] [77, 78] rfl 2 rfl)
  have hsz := B4.out.size
  have hbl := R3.out.1
  have HBL := Lib.hid hbl
  clear hbl
  go_wp2_with ((at_builtin; go_must (refine append_bytes rfl (.tmp 37) (.tmp 38) rfl w.heap.size v3 b rfl O4.out (some ⟨w3.heap.size, 0, none⟩) 2 2 [77, 78] rfl N4.out (by rw [HBL.out]; omega) hsz ?_); intro v5 w5 hv5 hg5 ha5; refine halt ?_))
  refine unhalt ?_
  have B5 : Hid (Below w.heap.size w w5) := Lib.hid (B4.out.grown hg5 hsz (fun j hj => (O4.out.lt j hj).1))
  have O5 := Lib.hid hv5
  obtain ⟨fb, cf, hv, hcf, hfb⟩ : ∃ fb cf, v5 = .slice (some ⟨fb, 0, none⟩) (n0 + 2) cf ∧ n0 + 2 ≤ cf ∧ w.heap.size ≤ fb := by
    have hl : (b ++ [77, 78]).length = n0 + 2 := by rw [List.length_append, HBL.out]; rfl
    rcases hv5.2 with ⟨_, h0⟩ | ⟨fb, cf, cur, e, hb, _, h1, _⟩
    · omega
    · exact ⟨fb, cf, by rw [e, hl], by omega, hb⟩
  subst hv
  have HFB := Lib.hid hfb
  clear hv5 hg5 ha5 O4 N4 B4 B3 O3 R3 hal hsz hfb
  have RM5 : Hid (RB w5 (some ⟨fb, 0, none⟩) n0 b) := Lib.hid (by
    have h2 := (O5.out.rb).take (k := n0) (by omega)
    rwa [List.take_left' HBL.out] at h2)
  have CR := Lib.hid (read_any (some ⟨fb, 0, none⟩) n0 cf b w5 RM5.out (by omega))
  have hcfI : (n0 : Int) ≤ (cf : Int) := by omega
  go_wp2_with fail
  refine CR.out.mono ?_
  rintro e w6 ⟨g, D, dc, rfl, hg, hrd, hod, hb6⟩
  rw [HBL.out] at hrd hod
  have B6 : Hid (Below w.heap.size w w6) := Lib.hid (B5.out.trans (hb6.mono B5.out.size))
  have D6 := Lib.hid hrd; have OD6 := Lib.hid hod; have H56 := Lib.hid hb6; have HG := Lib.hid hg
  have R6 : Hid (RB w6 A0 n0 b) := Lib.hid (HB0.out.keep B6.out)
  have CX := Lib.hid (refread_any A0 n0 c0 b w6 R6.out (by omega))
  clear hrd hod hb6 hg CR RM5
  go_wp2_with fail
  refine CX.out.mono ?_
  rintro e w7 ⟨r, B, cb, rfl, hr, hxf, hox, hb7⟩
  have B7 : Hid (Below w.heap.size w w7) := Lib.hid (B6.out.trans (hb7.mono B6.out.size))
  have X7 := Lib.hid hxf; have OX7 := Lib.hid hox; have H67 := Lib.hid hb7; have HR := Lib.hid hr
  clear hxf hox hb7 hr CX R6
  have e1 := conv_bytes w7 _ _ cf _ ((O5.out.rb.keep H56.out).keep H67.out)
  have e2 := conv_bytes w7 _ _ c0 _ (HB0.out.keep B7.out)
  have e3 := str_add b
  obtain ⟨sa, hsa⟩ : ∃ sa, sa = strOf (b ++ [77, 78]) := ⟨_, rfl⟩
  rw [← hsa] at e1 e3
  have hsb : (strOf b).size ≤ 1048576 := by
    have : (strOf b).size = b.length := rfl
    rw [this, HBL.out]; exact hn0
  generalize strOf b = sb at *
  have hss : (sa.toList == sa.toList) = true := by simp
  have hal : Below w7.heap.size w7 (w7.alloc (.cells #[.slice none 0 0, .slice none 0 0] 33)) := (Below.refl _ _).alloc (Nat.le_refl _) _
  have P8 : Hid (PT w (w7.alloc (.cells #[.slice none 0 0, .slice none 0 0] 33)) b fb cf g r B cb w7.heap.size 0) := Lib.hid (by
    have s5 := B5.out.size
    have s6 := H56.out.size
    have s7 := H67.out.size
    have hgl := D6.out.blk.lt
    have hrl := X7.out.blk.lt
    have hg := HG.out; have hr := HR.out; have hfb := HFB.out
    have hfl := (O5.out.lt fb rfl).2
    obtain ⟨d1, d2⟩ := SG.of_ob OD6.out
    have hdn : (Value.slice D n0 dc).ownBlock ≠ some g := D6.out.blk.apart OD6.out (by decide)
    have hxn : (Value.slice B b.length cb).ownBlock ≠ some r := X7.out.blk.apart OX7.out (by decide)
    obtain ⟨C8, hC8⟩ : ∃ C8 : Nat → Nat, C8 = fun x => if x < w.heap.size then 0 else if x < w5.heap.size then 1 else if x < w6.heap.size then (if x = g then 2 else 3) else if x < w7.heap.size then (if x = r then 4 else 5) else 6 := ⟨_, rfl⟩
    have hC : ∀ x, C8 x = if x < w.heap.size then 0 else if x < w5.heap.size then 1 else if x < w6.heap.size then (if x = g then 2 else 3) else if x < w7.heap.size then (if x = r then 4 else 5) else 6 := fun x => by rw [hC8]
    have hseg : ∀ x o, SegIn (.slice D n0 dc) x o → w5.heap.size ≤ x ∧ x < w6.heap.size ∧ x ≠ g := fun x o hs => by
      obtain ⟨q1, q2⟩ := d2 x o hs
      exact ⟨q1, (OD6.out.lt x q2).2, fun e => hdn (by rw [q2, e])⟩
    refine ⟨C8, D, n0, dc, 0, _, _, [], [], Blk.new _ _ _ rfl, (D6.out.blk.keep H67.out).keep hal, ?_, X7.out.chg (Chg.of_below hal (fun _ => False)) id (fun _ _ _ => id), SL.nil _ _, WS.nil _ _, fun j u x o h => by simp at h, fun x o hs => ?_, ?_, ?_, ?_, fun ad hb e => ?_, ⟨b, rfl, ?_⟩, ?_, Nat.le_refl _, fun l h => by simp at h, B7.out.trans (hal.mono B7.out.size), fun x hx => ?_⟩
    · rw [List.drop_zero]; exact (d1.keep H67.out).keep hal
    · obtain ⟨q1, q2, q3⟩ := hseg x o hs
      rw [hC, if_neg (by omega), if_neg (by omega), if_pos q2, if_neg q3]
    · rw [hC, if_neg (by omega), if_neg (by omega), if_neg (by omega), if_neg (by omega)]
    · rw [hC, if_neg (by omega), if_neg (by omega), if_pos hgl, if_pos rfl]
    · rw [hC, if_neg (by omega), if_neg (by omega), if_neg (by omega), if_pos hrl, if_pos rfl]
    · have hob : (Value.slice B b.length cb).ownBlock = some ad.block := by rw [e]; rfl
      have h2 := OX7.out.lt _ hob
      rw [hC, if_neg (by omega), if_neg (by omega), if_neg (by omega), if_pos h2.2, if_neg (fun e2 => hxn (by rw [hob, e2]))]
    · have := ((O5.out.keep H56.out).keep H67.out).keep hal
      rw [HBL.out]
      exact this.less (Nat.zero_le _)
    · rw [hC, if_neg (by omega), if_pos hfl]
    · rw [hC, if_pos hx])
  clear hsa hal O5 B5 OD6 D6 H56 HG B6 X7 OX7 H67 HR HFB
  go_wp2_with fail
  obtain ⟨w8, hw8⟩ : ∃ w8, w8 = w7.alloc (.cells #[.slice none 0 0, .slice none 0 0] 33) := ⟨_, rfl⟩
  obtain ⟨kb, hkb⟩ : ∃ kb, kb = w7.heap.size := ⟨_, rfl⟩
  rw [← hw8] at P8 ⊢
  rw [← hkb] at P8 ⊢
  clear hw8 hkb e1 e2 e3 hss hsb B7
  go_loopw [10] (fun iv W => ∃ k : Nat, k ≤ n1 ∧ k ≤ 200 ∧ iv = .int .i64 (k : Int) ∧ Hid (PT w W b fb cf g r B cb kb (2 * k))) (fun iv _ => n1 - (intOf iv).toNat)
  case atStart => exact ⟨0, Nat.zero_le _, by omega, rfl, P8⟩
  case round =>
    obtain ⟨k, hk, hk2, rfl, P9⟩ := hrel
    clear P8
    by_cases hlt : k < n1 ∧ k < 200
    · obtain ⟨hlt, hlt2⟩ := hlt
      obtain ⟨o, ho⟩ : ∃ o, l1[k]? = some o := ⟨_, List.getElem?_eq_getElem (by have := H1.out.1; omega)⟩
      obtain ⟨C, A, n, cap, t, vR, vW, us, ls, S9⟩ := P9.out
      obtain ⟨bb, off, rfl, hbb, hcx⟩ := (H1.out.keep S9.bel).2.2 (by omega)
      obtain ⟨d0, d1, d2, d3⟩ := hcx k o ho
      have hok := H1.out.2.1 o (List.mem_of_getElem? ho)
      obtain ⟨kind, N, v, s⟩ := o
      obtain ⟨hv, hs⟩ := hok
      simp only at d0 d1 d2 d3 hv hs
      have hal : Below wr.heap.size wr (wr.alloc (.cells #[.int .i64 kind, .int .i64 N, .int .u64 (v : Int), .string s] 36)) := (Below.refl _ _).alloc (Nat.le_refl _) _
      have S10 := Lib.hid (S9.step (Chg.of_below hal (fun _ => False)) (sam_paint C _ 0) (fun _ h => h.elim))
      have X10 : Hid (Blk (wr.alloc (.cells #[.int .i64 kind, .int .i64 N, .int .u64 (v : Int), .string s] 36)) wr.heap.size 36 #[.int .i64 kind, .int .i64 N, .int .u64 (v : Int), .string s]) := Lib.hid (Blk.new _ _ _ rfl)
      have CX : Hid (paint C wr.heap.size 0 wr.heap.size = 0 ∧ w.heap.size ≤ wr.heap.size) := Lib.hid ⟨paint_new _ _ (Nat.le_refl _), S9.bel.size⟩
      have HV := Lib.hid hv; have HS := Lib.hid hs
      clear hal hcx ho S9 P9 hbb hv hs
      go_upto_block 2 with fail
      obtain ⟨w10, hw10⟩ : ∃ w10, w10 = wr.alloc (.cells #[.int .i64 kind, .int .i64 N, .int .u64 (v : Int), .string s] 36) := ⟨_, rfl⟩
      obtain ⟨bx, hbx⟩ : ∃ bx, bx = wr.heap.size := ⟨_, rfl⟩
      rw [← hw10] at S10 X10 ⊢
      rw [← hbx] at S10 X10 CX ⊢
      obtain ⟨C10, hC10⟩ : ∃ C10, C10 = paint C bx 0 := ⟨_, rfl⟩
      rw [← hC10] at S10 CX
      clear hw10 hbx hC10 d0 d1 d2 d3
      have x0 : w10.cell? ⟨bx, 0, none⟩ = some (.int .i64 kind) := X10.out.cell 0
      have x1 : w10.cell? ⟨bx, 1, none⟩ = some (.int .i64 N) := X10.out.cell 1
      have x2 : w10.cell? ⟨bx, 2, none⟩ = some (.int .u64 (v : Int)) := X10.out.cell 2
      have x3 : w10.cell? ⟨bx, 3, none⟩ = some (.string s) := X10.out.cell 3
      go_cut [12] (fun s12 wx => s12 = .bool true ∧ Hid (PT w wx b fb cf g r B cb kb (2 * k + 2)))
      case first =>
        have HCX : Hid (C10 bx = 0) := Lib.hid CX.out.1
        have S0 := Lib.hid (S10.out.later (Below.refl _ _))
        obtain ⟨C0, hC0⟩ : ∃ C0, C0 = paint C10 w10.heap.size 9 := ⟨_, rfl⟩
        have HC9 : Hid (∀ x, w10.heap.size ≤ x → C0 x = 9) := Lib.hid (fun x hx => by rw [hC0]; exact paint_new C10 9 hx)
        rw [← hC0] at S0
        have HCX : Hid (C0 bx = 0) := Lib.hid (by rw [hC0]; exact (sam_paint C10 _ 9 bx X10.out.lt).trans HCX.out)
        have HLT : Hid ((∀ (j : Nat) (y : Value) (x o : Nat), us[j]? = some y → SegIn y x o → x < w10.heap.size) ∧ ∀ x o, SegIn (.slice A n cap) x o → x < w10.heap.size) := Lib.hid ⟨fun j y x o hy hx => S0.out.sl.lt hy hx, fun x o hx => S0.out.rsg.lt hx⟩
        have HN : Hid (n = b.length - t) := Lib.hid S0.out.len
        have HNM : Hid (2 * k ≤ 400) := Lib.hid (by omega)
        clear hC0 S10 CX
        by_cases k0 : kind = 0
        · subst k0
          as_aux_lemma =>
            by_cases hok : ∃ m : Nat, N = (m : Int) ∧ 1 ≤ m ∧ m ≤ 8 ∧ v < 256 ^ m
            · obtain ⟨m, rfl, hm1, hm8, hvm⟩ := hok
              have P1 := Lib.hid (refnum_ok v m w10 hm1 hm8 hvm HV.out)
              have P2 : Hid (∀ w', Calls Try.prog 10 #[.int .u64 (v : Int), .int .i64 (m : Int)] w' (NumPost (leB v m) m w')) := Lib.hid (fun w' => num_ok v m w' hm1 hm8 hvm)
              have HLL : Hid ((leB v m).length = m) := Lib.hid (leB_length v m)
              clear hvm
              generalize leB v m = l at *
              go_wp2_with fail
              refine P1.out.mono ?_
              rintro e w11 ⟨vw, rfl, how, hb11⟩
              obtain ⟨Aw, cw, rfl, _, _, hrw⟩ := how.form
              rw [HLL.out] at hrw how ⊢
              have OW := Lib.hid how; have RW := Lib.hid hrw; have B11 := Lib.hid hb11
              have d1 : w11.cell? ⟨bx, 1, none⟩ = some (.int .i64 (m : Int)) := (X10.out.keep hb11).cell 1
              have d2 : w11.cell? ⟨bx, 2, none⟩ = some (.int .u64 (v : Int)) := (X10.out.keep hb11).cell 2
              clear how hrw hb11 P1
              go_wp2_with fail
              refine (P2.out w11).mono ?_
              rintro e w12 ⟨g1, rfl, hg1, ho1, hb12⟩
              have O1 := Lib.hid ho1; have B12 := Lib.hid (B11.out.trans (hb12.mono B11.out.size))
              have H12 := Lib.hid hb12
              have e1 : w12.cell? ⟨bx, 1, none⟩ = some (.int .i64 (m : Int)) := (X10.out.keep B12.out).cell 1
              have e2 : w12.cell? ⟨bx, 2, none⟩ = some (.int .u64 (v : Int)) := (X10.out.keep B12.out).cell 2
              clear ho1 hb12 hg1 d1 d2
              go_wp2_with fail
              refine (P2.out w12).mono ?_
              rintro e w13 ⟨g2, rfl, hg2, ho2, hb13⟩
              have O2 := Lib.hid ho2; have B13 := Lib.hid (B12.out.trans (hb13.mono B12.out.size)); have H13 := Lib.hid hb13
              have S13 := Lib.hid (S0.out.same B13.out)
              have R13 : Hid (RB w13 Aw m l) := Lib.hid ((RW.out.keep H12.out).keep H13.out)
              have U1 : Hid (OB w13 w11.heap.size (.slice (some ⟨g1, 0, none⟩) m m) l) := Lib.hid (O1.out.keep H13.out)
              have HWC : Hid (∀ ad, 0 < m → Aw = some ad → C0 ad.block = 9 ∧ ad.block < w13.heap.size) := Lib.hid (fun ad _ e => by
                have := OW.out.lt ad.block (by rw [e]; rfl)
                exact ⟨HC9.out _ this.1, by have h1 := H12.out.size; have h2 := H13.out.size; omega⟩)
              have hs11 := B11.out.size
              have hs12 := H12.out.size
              have T1 := Lib.hid (take_st S13.out (by have := HNM.out; omega) cw (SG.of_ob U1.out).1 (fun x o hs => by
                have h1 := ((SG.of_ob U1.out).2 x o hs).1
                exact ⟨.inl (HC9.out x (by omega)), fun j y hj hy => by have := HLT.out.1 j y x o hj hy; omega, fun hy => by have := HLT.out.2 x o hy; omega⟩) R13.out (fun ad hn e => (HWC.out ad hn e).1) (by rw [HLL.out]; omega))
              clear ho2 hb13 hg2 e1 e2
              go_wp2_with fail
              refine T1.out.mono ?_
              rintro e w14 ⟨rfl, C14, vR4, vW4, st4, ch4, sm4⟩
              have S14 := Lib.hid st4
              have hn678 : ∀ x, C0 x = 9 → ¬ (C0 x = 6 ∨ C0 x = 7 ∨ C0 x = 8) := fun x e h => by omega
              have R14 : Hid (RB w14 Aw m l) := Lib.hid (ch4.rb R13.out (fun hn ad e => hn678 _ (HWC.out ad hn e).1))
              have hs13 := H13.out.size
              have U2 : Hid (SG w14 (.slice (some ⟨g2, 0, none⟩) m m) l) := Lib.hid ((SG.of_ob O2.out).1.chg ch4 (fun x o hs => hn678 x (HC9.out x (by have := ((SG.of_ob O2.out).2 x o hs).1; omega))))
              have T2 := Lib.hid (take_st S14.out (by have := HNM.out; omega) cw U2.out (fun x o hs => by
                have h1 := ((SG.of_ob O2.out).2 x o hs)
                have h2 := (O2.out.lt x h1.2).2
                refine ⟨.inl ((sm4 x h2).trans (HC9.out x (by omega))), fun j y hj hy => ?_, fun hy => by have := HLT.out.2 x o hy; omega⟩
                rcases get_snoc hj with ⟨q1, _⟩ | ⟨_, q2⟩
                · have := HLT.out.1 j y x o q1 hy; omega
                · rw [q2] at hy
                  have h3 := (SG.of_ob O1.out).2 x o hy
                  have h4 := (O1.out.lt x h3.2).2
                  omega) R14.out (fun ad hn e => (sm4 _ (HWC.out ad hn e).2).trans (HWC.out ad hn e).1) (by rw [HLL.out]; omega))
              clear st4 ch4 sm4 T1 S13 R13 U1
              go_wp2_with fail
              refine T2.out.mono ?_
              rintro e w15 ⟨rfl, C15, vR5, vW5, st5, _, _⟩
              have HF : Hid (PT w w15 b fb cf g r B cb kb (2 * k + 2)) := Lib.hid ⟨C15, _, _, _, _, _, _, _, _, st5⟩
              clear st5 T2
              go_wp2_with fail
              go_meet
              exact ⟨rfl, HF⟩
            · have P1 : Hid (Calls Try.prog 9 #[.int .u64 (v : Int), .int .i64 N] w10 fun e w' => e = .returned (.tuple #[.slice none 0 0, .int .i64 21]) ∧ w10 = w') := Lib.hid (by
                by_cases hwd : N < 1 ∨ 8 < N
                · exact refnum_wide v N w10 hwd
                · obtain ⟨m, rfl⟩ := Int.eq_ofNat_of_zero_le (show 0 ≤ N by omega)
                  have hv : 256 ^ m ≤ v := Nat.le_of_not_lt (fun h => hok ⟨m, rfl, by omega, by omega, h⟩)
                  have hm8 : m < 8 := by
                    by_cases h8 : m = 8
                    · subst h8; have := HV.out; omega
                    · omega
                  exact refnum_big v m w10 (by omega) hm8 hv)
              have P2 : Hid (Calls Try.prog 10 #[.int .u64 (v : Int), .int .i64 N] w10 fun e w' => e = .returned (.tuple #[.slice none 0 0, .int .i64 21]) ∧ w10 = w') := Lib.hid (by
                by_cases hwd : N < 1 ∨ 8 < N
                · exact num_wide v N w10 hwd
                · obtain ⟨m, rfl⟩ := Int.eq_ofNat_of_zero_le (show 0 ≤ N by omega)
                  have hv : 256 ^ m ≤ v := Nat.le_of_not_lt (fun h => hok ⟨m, rfl, by omega, by omega, h⟩)
                  have hm8 : m < 8 := by
                    by_cases h8 : m = 8
                    · subst h8; have := HV.out; omega
                    · omega
                  exact num_big v m w10 (by omega) hm8 hv)
              have T1 := Lib.hid (take_st S0.out (by have := HNM.out; omega) 0 (SG.nil w10 none) (fun x o hs => absurd hs segIn_nil) (RB.nil w10 none) (fun ad h => absurd h (by omega)) (by simp))
              clear hok
              go_wp2_with fail
              refine P1.out.mono ?_
              rintro e w' ⟨rfl, rfl⟩
              go_wp2_with fail
              refine P2.out.mono ?_
              rintro e w' ⟨rfl, rfl⟩
              go_wp2_with fail
              refine P2.out.mono ?_
              rintro e w' ⟨rfl, rfl⟩
              go_wp2_with fail
              refine T1.out.mono ?_
              rintro e w14 ⟨rfl, C14, vR4, vW4, st4, _, _⟩
              have T2 := Lib.hid (take_st st4 (by have := HNM.out; omega) 0 (SG.nil w14 none) (fun x o hs => absurd hs segIn_nil) (RB.nil w14 none) (fun ad h => absurd h (by omega)) (by simp))
              clear st4 T1 P1 P2
              go_wp2_with fail
              refine T2.out.mono ?_
              rintro e w15 ⟨rfl, C15, vR5, vW5, st5, _, _⟩
              have HF : Hid (PT w w15 b fb cf g r B cb kb (2 * k + 2)) := Lib.hid ⟨C15, _, _, _, _, _, _, _, _, st5⟩
              clear st5 T2
              go_wp2_with fail
              go_meet
              exact ⟨rfl, HF⟩
        · by_cases k1 : kind = 1
          · subst k1
            as_aux_lemma =>
              have P1 := Lib.hid (reftext_any s w10 HS.out)
              have P2 : Hid (∀ w', Calls Try.prog 13 #[.string s] w' (TextPost (textB s.data.toList) w')) := Lib.hid (fun w' => text_any s w' (by have := HS.out; omega))
              have HLL : Hid ((textB s.data.toList).length ≤ 3000000) := Lib.hid (by rw [textB_length]; have : s.data.toList.length = s.size := rfl; have := HS.out; omega)
              generalize textB s.data.toList = l at *
              go_wp2_with fail
              refine P1.out.mono ?_
              rintro e w11 ⟨vw, rfl, how, hb11⟩
              obtain ⟨Aw, cw, rfl, _, _, hrw⟩ := how.form
              have OW := Lib.hid how; have RW := Lib.hid hrw; have B11 := Lib.hid hb11
              have d3 : w11.cell? ⟨bx, 3, none⟩ = some (.string s) := (X10.out.keep hb11).cell 3
              clear how hrw hb11 P1
              go_wp2_with fail
              refine (P2.out w11).mono ?_
              rintro e w12 ⟨v1, rfl, ho1, hb12⟩
              obtain ⟨A1', c1', rfl, _, _, _⟩ := ho1.form
              have O1 := Lib.hid ho1; have B12 := Lib.hid (B11.out.trans (hb12.mono B11.out.size)); have H12 := Lib.hid hb12
              have S12 := Lib.hid (S0.out.same B12.out)
              have R12 : Hid (RB w12 Aw l.length l) := Lib.hid (RW.out.keep H12.out)
              have HWC : Hid (∀ ad, 0 < l.length → Aw = some ad → C0 ad.block = 9 ∧ ad.block < w12.heap.size) := Lib.hid (fun ad _ e => by
                have := OW.out.lt ad.block (by rw [e]; rfl)
                exact ⟨HC9.out _ this.1, by have h1 := H12.out.size; omega⟩)
              have hs11 := B11.out.size
              have hs12 := H12.out.size
              have T1 := Lib.hid (take_st S12.out (by have := HNM.out; omega) cw (SG.of_ob O1.out).1 (fun x o hs => by
                have h1 := ((SG.of_ob O1.out).2 x o hs).1
                exact ⟨.inl (HC9.out x (by omega)), fun j y hj hy => by have := HLT.out.1 j y x o hj hy; omega, fun hy => by have := HLT.out.2 x o hy; omega⟩) R12.out (fun ad hn e => (HWC.out ad hn e).1) HLL.out)
              clear ho1 hb12 d3
              go_wp2_with fail
              refine T1.out.mono ?_
              rintro e w13 ⟨rfl, C13, vR3, vW3, st3, ch3, sm3⟩
              have S13 := Lib.hid st3
              have hn678 : ∀ x, C0 x = 9 → ¬ (C0 x = 6 ∨ C0 x = 7 ∨ C0 x = 8) := fun x e h => by omega
              have R13 : Hid (RB w13 Aw l.length l) := Lib.hid (ch3.rb R12.out (fun hn ad e => hn678 _ (HWC.out ad hn e).1))
              have d3 : w13.cell? ⟨bx, 3, none⟩ = some (.string s) := ((X10.out.keep B12.out).chg ch3 (by rw [HCX.out]; omega)).cell 3
              have SM3 := Lib.hid sm3
              have hs13 := ch3.size
              clear st3 ch3 sm3 T1 S12 R12
              go_wp2_with fail
              refine (P2.out w13).mono ?_
              rintro e w14 ⟨v2, rfl, ho2, hb14⟩
              obtain ⟨A2', c2', rfl, _, _, _⟩ := ho2.form
              have O2 := Lib.hid ho2; have H14 := Lib.hid hb14
              have S14 := Lib.hid (S13.out.later H14.out)
              have T2 := Lib.hid (take_st S14.out (by have := HNM.out; omega) cw (SG.of_ob O2.out).1 (fun x o hs => by
                have h1 := ((SG.of_ob O2.out).2 x o hs).1
                refine ⟨.inl (paint_new C13 9 h1), fun j y hj hy => ?_, fun hy => by have := HLT.out.2 x o hy; omega⟩
                rcases get_snoc hj with ⟨q1, _⟩ | ⟨_, q2⟩
                · have := HLT.out.1 j y x o q1 hy; omega
                · rw [q2] at hy
                  have h3 := (SG.of_ob O1.out).2 x o hy
                  have h4 := (O1.out.lt x h3.2).2
                  omega) (R13.out.keep H14.out) (fun ad hn e => by
                    have h1 := HWC.out ad hn e
                    rw [sam_paint C13 _ 9 ad.block (by omega), SM3.out _ h1.2]
                    exact h1.1) HLL.out)
              clear ho2 hb14 d3
              go_wp2_with fail
              refine T2.out.mono ?_
              rintro e w15 ⟨rfl, C15, vR5, vW5, st5, _, _⟩
              have HF : Hid (PT w w15 b fb cf g r B cb kb (2 * k + 2)) := Lib.hid ⟨C15, _, _, _, _, _, _, _, _, st5⟩
              clear st5 T2
              go_wp2_with fail
              go_meet
              exact ⟨rfl, HF⟩
          · by_cases k2 : kind = 2
            · subst k2
              as_aux_lemma =>
                by_cases hwd : N < 1 ∨ 8 < N
                · have P1 := Lib.hid (refrnum_wide r N w10 hwd)
                  have P2 := Lib.hid (rnum_wide g N w10 hwd)
                  clear hwd
                  go_wp2_with fail
                  refine P1.out.mono ?_
                  rintro e w' ⟨rfl, rfl⟩
                  go_wp2_with fail
                  refine P2.out.mono ?_
                  rintro e w' ⟨rfl, rfl⟩
                  go_wp2_with fail
                  go_meet
                  exact ⟨rfl, Lib.hid ⟨C0, A, n, cap, t, vR, vW, us, ls, S0.out.le (by omega)⟩⟩
                · obtain ⟨m, rfl⟩ := Int.eq_ofNat_of_zero_le (show 0 ≤ N by omega)
                  have hm1 : 1 ≤ m := by omega
                  have hm8 : m ≤ 8 := by omega
                  clear hwd
                  by_cases hsh : n < m
                  · have P1 := Lib.hid (refrnum_short r B b.length cb t m b w10 S0.out.xf hm1 hm8 (by rw [← HN.out]; exact hsh))
                    have P2 : Hid (∀ i, Calls Try.prog 15 #[.pointer (some ⟨g, 0, none⟩), .int .i64 (m : Int)] (w10.drewN i) fun e w' => e = .returned (.tuple #[.int .u64 0, .int .i64 20]) ∧ w10.drewN i = w') := Lib.hid (fun i => rnum_short g A n cap (b.drop t) m (w10.drewN i) (S0.out.same (below_drewN (Below.refl _ _) i)).rd hm1 hm8 hsh)
                    have HF : Hid (∀ i, PT w (w10.drewN i) b fb cf g r B cb kb (2 * k + 2)) := Lib.hid (fun i => ⟨C0, A, n, cap, t, vR, vW, us, ls, (S0.out.same (below_drewN (Below.refl _ _) i)).le (by omega)⟩)
                    go_wp2_with fail
                    refine P1.out.mono ?_
                    rintro e w' ⟨rfl, i, hw⟩
                    have d1 : w'.cell? ⟨bx, 1, none⟩ = some (.int .i64 (m : Int)) := by rw [hw]; exact x1
                    have HW := Lib.hid hw
                    clear hw
                    go_wp2_with fail
                    refine (show Calls Try.prog 15 #[.pointer (some ⟨g, 0, none⟩), .int .i64 (m : Int)] w' fun e w'' => e = .returned (.tuple #[.int .u64 0, .int .i64 20]) ∧ w' = w'' by rw [HW.out]; exact P2.out i).mono ?_
                    rintro e w'' ⟨rfl, rfl⟩
                    go_wp2_with fail
                    go_meet
                    exact ⟨rfl, Lib.hid (by rw [HW.out]; exact HF.out i)⟩
                  · have hmn : m ≤ n := by omega
                    have P1 := Lib.hid (refrnum_ok r B b.length cb t m b w10 S0.out.xf hm1 hm8 (by have := HN.out; have := S0.out.xf.ht; omega))
                    have X10' := Lib.hid X10.out
                    go_wp2_with fail
                    refine P1.out.mono ?_
                    rintro e w11 ⟨rfl, hx11, hc11⟩
                    obtain ⟨a1, a2, a3, a4, a5⟩ := S0.out.adv hx11 hc11 hmn
                    have hbr : bx ≠ r := fun e => by have h1 := S0.out.cr; rw [← e, HCX.out] at h1; omega
                    have d1 : w11.cell? ⟨bx, 1, none⟩ = some (.int .i64 (m : Int)) := (X10.out.chg hc11 hbr).cell 1
                    have P2 := Lib.hid (rnum_ok g A n cap (b.drop t) m w11 a1 hm1 hm8 hmn)
                    have HF : Hid (PT w (advW w11 g A n cap m) b fb cf g r B cb kb (2 * k + 2)) := Lib.hid ⟨C0, _, _, _, _, vR, vW, us, ls, a2.le (by omega)⟩
                    obtain ⟨w12, hw12⟩ : ∃ w12, w12 = advW w11 g A n cap m := ⟨_, rfl⟩
                    rw [← hw12] at P2 HF
                    obtain ⟨val, hval⟩ : ∃ val : Int, val = (leV ((b.drop t).take m) : Int) := ⟨_, rfl⟩
                    rw [← hval] at P2 ⊢
                    clear a1 a2 a3 a4 a5 hx11 hc11 hw12 hval P1 hbr
                    go_wp2_with fail
                    refine P2.out.mono ?_
                    rintro e w'' ⟨rfl, rfl⟩
                    go_wp2_with fail
                    go_meet
                    exact ⟨rfl, HF⟩
            · by_cases k3 : kind = 3
              · subst k3
                as_aux_lemma =>
                  have hn9 : n ≤ 1048576 := by have := HN.out; have := HBL.out; omega
                  by_cases hsh : n < 4 ∨ n < 4 + leV ((b.drop t).take 4)
                  · have P1 := Lib.hid (refrtext_short r B b.length cb t b w10 S0.out.xf (by rw [← HN.out]; exact hsh))
                    have P2 : Hid (∀ i, Calls Try.prog 17 #[.pointer (some ⟨g, 0, none⟩)] (w10.drewN i) fun e w' => e = .returned (.tuple #[.string ByteArray.empty, .int .i64 20]) ∧ w10.drewN i = w') := Lib.hid (fun i => rtext_short g A n cap (b.drop t) (w10.drewN i) (S0.out.same (below_drewN (Below.refl _ _) i)).rd hsh (by omega))
                    have HF : Hid (∀ i, PT w (w10.drewN i) b fb cf g r B cb kb (2 * k + 2)) := Lib.hid (fun i => ⟨C0, A, n, cap, t, vR, vW, us, ls, (S0.out.same (below_drewN (Below.refl _ _) i)).le (by omega)⟩)
                    clear hsh
                    go_wp2_with fail
                    refine P1.out.mono ?_
                    rintro e w' ⟨rfl, i, rfl⟩
                    go_wp2_with fail
                    refine (P2.out i).mono ?_
                    rintro e w'' ⟨rfl, rfl⟩
                    go_wp2_with fail
                    go_meet
                    exact ⟨rfl, HF.out i⟩
                  · obtain ⟨m, hm⟩ : ∃ m, leV ((b.drop t).take 4) = m := ⟨_, rfl⟩
                    rw [hm] at hsh
                    have hmn : 4 + m ≤ n := by omega
                    have P1 := Lib.hid (refrtext_ok r B b.length cb t m b w10 S0.out.xf hm (by have := HN.out; omega))
                    have HM := Lib.hid hm
                    obtain ⟨tx, htx⟩ : ∃ tx, tx = strOf ((b.drop (t + 4)).take m) := ⟨_, rfl⟩
                    rw [← htx] at P1
                    have HTX := Lib.hid htx
                    have hss : (tx.toList == tx.toList) = true := by simp
                    clear hsh hm htx
                    go_wp2_with fail
                    refine P1.out.mono ?_
                    rintro e w11 ⟨rfl, hx11, hc11⟩
                    rw [Nat.add_assoc] at hx11
                    obtain ⟨a1, a2, a3, a4, a5⟩ := S0.out.adv hx11 hc11 hmn
                    have P2 := rtext_ok g A n cap (b.drop t) m w11 a1 (by omega) HM.out hmn (by omega)
                    rw [List.drop_drop, ← HTX.out] at P2
                    have P2 := Lib.hid P2
                    have HF : Hid (PT w (advW w11 g A n cap (4 + m)) b fb cf g r B cb kb (2 * k + 2)) := Lib.hid ⟨C0, _, _, _, _, vR, vW, us, ls, a2.le (by omega)⟩
                    obtain ⟨w12, hw12⟩ : ∃ w12, w12 = advW w11 g A n cap (4 + m) := ⟨_, rfl⟩
                    rw [← hw12] at P2 HF
                    clear a1 a2 a3 a4 a5 hx11 hc11 hw12 P1
                    go_wp2_with fail
                    refine P2.out.mono ?_
                    rintro e w'' ⟨rfl, rfl⟩
                    go_wp2_with fail
                    go_meet
                    exact ⟨rfl, HF⟩
              · by_cases k4 : kind = 4
                · subst k4
                  as_aux_lemma =>
                    by_cases hng : N < 0
                    · have P1 := Lib.hid (refrtake_neg r N w10 hng)
                      have P2 := Lib.hid (rtake_neg g N w10 hng)
                      have T1 := Lib.hid (take_st S0.out (by have := HNM.out; omega) 0 (SG.nil w10 none) (fun x o hs => absurd hs segIn_nil) (RB.nil w10 none) (fun ad h => absurd h (by omega)) (by simp))
                      clear hng
                      go_wp2_with fail
                      refine P1.out.mono ?_
                      rintro e w' ⟨rfl, rfl⟩
                      go_wp2_with fail
                      refine P2.out.mono ?_
                      rintro e w' ⟨rfl, rfl⟩
                      go_wp2_with fail
                      refine T1.out.mono ?_
                      rintro e w15 ⟨rfl, C15, vR5, vW5, st5, _, _⟩
                      have HF : Hid (PT w w15 b fb cf g r B cb kb (2 * k + 2)) := Lib.hid ⟨C15, _, _, _, _, _, _, _, _, st5.le (by omega)⟩
                      clear st5 T1
                      go_wp2_with fail
                      go_meet
                      exact ⟨rfl, HF⟩
                    · obtain ⟨m, rfl⟩ := Int.eq_ofNat_of_zero_le (show 0 ≤ N by omega)
                      clear hng
                      by_cases hsh : n < m
                      · have P1 := Lib.hid (refrtake_short r B b.length cb t (m : Int) b w10 S0.out.xf (by rw [← HN.out]; omega))
                        have P2 : Hid (∀ i, Calls Try.prog 19 #[.pointer (some ⟨g, 0, none⟩), .int .i64 (m : Int)] (w10.drewN i) fun e w' => e = .returned (.tuple #[.slice none 0 0, .int .i64 20]) ∧ w10.drewN i = w') := Lib.hid (fun i => rtake_short g A n cap (b.drop t) (m : Int) (w10.drewN i) (S0.out.same (below_drewN (Below.refl _ _) i)).rd (by omega))
                        have T1 : Hid (∀ i, Calls Try.prog 11 #[.pointer (some ⟨kb, 0, none⟩), .slice none 0 0, .slice none 0 0] (w10.drewN i) (TakeS w C0 b fb cf g A n cap r B cb t kb (us ++ [.slice none 0 0]) (ls ++ [[]]) (2 * k + 1) (w10.drewN i))) := Lib.hid (fun i => take_st (S0.out.same (below_drewN (Below.refl _ _) i)) (by have := HNM.out; omega) 0 (SG.nil _ none) (fun x o hs => absurd hs segIn_nil) (RB.nil _ none) (fun ad h => absurd h (by omega)) (by simp))
                        clear hsh
                        go_wp2_with fail
                        refine P1.out.mono ?_
                        rintro e w' ⟨rfl, i, hw⟩
                        have d1 : w'.cell? ⟨bx, 1, none⟩ = some (.int .i64 (m : Int)) := by rw [hw]; exact x1
                        subst hw
                        go_wp2_with fail
                        refine (P2.out i).mono ?_
                        rintro e w'' ⟨rfl, rfl⟩
                        go_wp2_with fail
                        refine (T1.out i).mono ?_
                        rintro e w15 ⟨rfl, C15, vR5, vW5, st5, _, _⟩
                        have HF : Hid (PT w w15 b fb cf g r B cb kb (2 * k + 2)) := Lib.hid ⟨C15, _, _, _, _, _, _, _, _, st5.le (by omega)⟩
                        clear st5 T1
                        go_wp2_with fail
                        go_meet
                        exact ⟨rfl, HF⟩
                      · have hmn : m ≤ n := by omega
                        have P1 := Lib.hid (refrtake_ok r B b.length cb t m b w10 S0.out.xf (by have := HN.out; have := S0.out.xf.ht; omega))
                        have HBS : Hid (b.length ≤ 1048576) := Lib.hid (by rw [HBL.out]; exact hn0)
                        go_wp2_with fail
                        refine P1.out.mono ?_
                        rintro e w11 ⟨vw, rfl, how, hx11, hc11⟩
                        obtain ⟨a1, a2, a3, a4, a5⟩ := S0.out.adv hx11 hc11 hmn
                        have hbr : bx ≠ r := fun e => by have h1 := S0.out.cr; rw [← e, HCX.out] at h1; omega
                        have d1 : w11.cell? ⟨bx, 1, none⟩ = some (.int .i64 (m : Int)) := (X10.out.chg hc11 hbr).cell 1
                        have P2 := Lib.hid (rtake_ok g A n cap (b.drop t) m w11 a1 hmn)
                        obtain ⟨Aw, cw, rfl, _, _, hrw⟩ := how.form
                        have hlm : ((b.drop t).take m).length = m := by rw [List.length_take, Nat.min_eq_left (by have := a1.rd.1; omega)]
                        rw [hlm] at hrw how ⊢
                        have T1 := Lib.hid (take_st a2 (by have := HNM.out; omega) cw a3 (fun x o hs => ⟨.inr (a4 x o hs).1, (a4 x o hs).2⟩) (hrw.adv a1 m) (fun ad _ e => HC9.out _ (how.lt ad.block (by rw [e]; rfl)).1) (by rw [hlm]; have := HBS.out; have := HN.out; omega))
                        obtain ⟨w12, hw12⟩ : ∃ w12, w12 = advW w11 g A n cap m := ⟨_, rfl⟩
                        rw [← hw12] at P2 T1
                        clear a1 a2 a3 a4 a5 hx11 hc11 hw12 P1 hbr hrw how hlm
                        go_wp2_with fail
                        refine P2.out.mono ?_
                        rintro e w'' ⟨rfl, rfl⟩
                        go_wp2_with fail
                        refine T1.out.mono ?_
                        rintro e w15 ⟨rfl, C15, vR5, vW5, st5, _, _⟩
                        have HF : Hid (PT w w15 b fb cf g r B cb kb (2 * k + 2)) := Lib.hid ⟨C15, _, _, _, _, _, _, _, _, st5.le (by omega)⟩
                        clear st5 T1
                        go_wp2_with fail
                        go_meet
                        exact ⟨rfl, HF⟩
                · by_cases k5 : kind = 5
                  · subst k5
                    as_aux_lemma =>
                      have CL := Lib.hid (left_any g A n cap (b.drop t) w10 S0.out.rd)
                      have CM := Lib.hid (refleft_any r B b.length cb t b w10 S0.out.xf)
                      rw [← HN.out] at CM
                      have HP : Hid (∀ m, PT w (w10.drewN m) b fb cf g r B cb kb (2 * k + 2)) := Lib.hid (fun m => ⟨C0, A, n, cap, t, vR, vW, us, ls, (S0.out.same (below_drewN (Below.refl _ _) m)).le (by omega)⟩)
                      go_wp2_with fail
                      refine CL.out.mono ?_
                      rintro e w' ⟨rfl, rfl⟩
                      go_wp2_with fail
                      refine CM.out.mono ?_
                      rintro e w' ⟨rfl, m, rfl⟩
                      go_wp2_with fail
                      go_meet
                      exact ⟨rfl, HP.out m⟩
                  · by_cases k6 : kind = 6
                    · subst k6
                      as_aux_lemma =>
                        have HT6 : Hid (PT w w10 b fb cf g r B cb kb (2 * k + 2)) := Lib.hid ⟨C0, A, n, cap, t, vR, vW, us, ls, S0.out.le (by omega)⟩
                        clear S0
                        go_wp2_with fail
                        go_loopw [32] (fun iv W => ∃ j : Nat, j ≤ n0 ∧ iv = .int .i64 (j : Int) ∧ Hid (PT w W b fb cf g r B cb kb (2 * k + 2))) (fun iv _ => n0 - (intOf iv).toNat)
                        case atStart => exact ⟨0, Nat.zero_le _, rfl, HT6⟩
                        case round =>
                          obtain ⟨j, hj, rfl, P6⟩ := hrel
                          clear HT6
                          by_cases hlt3 : j < n0
                          · obtain ⟨C6, A6, n6, cap6, t6, vR6, vW6, us6, ls6, S6⟩ := P6.out
                            obtain ⟨y, hy, ho⟩ := S6.full
                            have hyj : j < y.length := by rw [hy, HBL.out]; exact hlt3
                            have hyc : (y ++ [77, 78])[j]? = some y[j] := by rw [List.getElem?_append_left hyj]; exact List.getElem?_eq_getElem hyj
                            obtain ⟨c, hc⟩ : ∃ c, c = y[j] := ⟨_, rfl⟩
                            rw [← hc] at hyc
                            have cc : wr.cell? ⟨fb, j, none⟩ = some (.int .u8 (c.toNat : Int)) := ho.cellAt hyc
                            have fc : wr.frozen? ⟨fb, j, none⟩ = false := ho.frozenAt j
                            have hcl : c.toNat < 256 := c.toNat_lt
                            obtain ⟨x, hx⟩ : ∃ x : UInt8, (x.toNat : Int) = 255 - (c.toNat : Int) := ⟨UInt8.ofNat (255 - c.toNat), by rw [UInt8.toNat_ofNat_of_lt' (by show _ < 256; omega)]; omega⟩
                            have hxl : x.toNat < 256 := x.toNat_lt
                            have q1 : IntKind.u8.wrap (255 - (c.toNat : Int)) = (x.toNat : Int) := by rw [← hx]; simp [IntKind.wrap, IntKind.bits, IntKind.signed]; omega
                            have q2 : (255 - (c.toNat : Int)) % 256 = (x.toNat : Int) := by omega
                            have P7 : Hid (PT w (wr.setCell ⟨fb, j, none⟩ (.int .u8 (x.toNat : Int))) b fb cf g r B cb kb (2 * k + 2)) := Lib.hid ⟨C6, A6, n6, cap6, t6, vR6, vW6, us6, ls6, S6.flip x hy ho (by rw [HBL.out]; exact hlt3)⟩
                            clear S6 ho hy hyj hyc hc P6 hx
                            go_wp2_with fail
                            go_roundw
                            first
                              | (case rel => exact ⟨j + 1, by omega, by go_num, P7⟩)
                              | (case rel => (repeat apply Exists.intro); exact ⟨⟨j + 1, by omega, by go_num, P7⟩, rfl⟩)
                            case measure => simp [intOf]; omega
                          · obtain rfl : j = n0 := by omega
                            go_wp2_with fail
                            go_meet
                            exact ⟨rfl, P6⟩
                    · go_wp2_with fail
                      go_meet
                      exact ⟨rfl, Lib.hid ⟨C0, A, n, cap, t, vR, vW, us, ls, S0.out.le (by omega)⟩⟩
      case rest =>
        as_aux_lemma =>
          obtain ⟨rfl, P11⟩ := hcut
          clear S10 X10 CX x0 x1 x2 x3
          obtain ⟨w11, hw11⟩ : ∃ w11, w11 = wc := ⟨_, rfl⟩
          subst hw11
          obtain ⟨C, A, n, cap, t, vR, vW, us, ls, S11⟩ := P11.out
          have CL := Lib.hid (left_any g A n cap (b.drop t) w11 S11.rd)
          have CM := Lib.hid (refleft_any r B b.length cb t b w11 S11.xf)
          have hlen := S11.len
          rw [← hlen] at CM
          have HP : Hid (∀ m, PT w (w11.drewN m) b fb cf g r B cb kb (2 * (k + 1))) := Lib.hid (fun m => ⟨C, A, n, cap, t, vR, vW, us, ls, (S11.same (below_drewN (Below.refl _ _) m)).le (by omega)⟩)
          clear S11 P11 hlen
          go_wp2_with fail
          refine CL.out.mono ?_
          rintro e w' ⟨rfl, rfl⟩
          go_wp2_with fail
          refine CM.out.mono ?_
          rintro e w' ⟨rfl, m, rfl⟩
          go_wp2_with fail
          go_roundw
          first
            | (case rel => exact ⟨k + 1, by omega, by omega, by go_num, HP.out m⟩)
            | (case rel => (repeat apply Exists.intro); exact ⟨⟨k + 1, by omega, by omega, by go_num, HP.out m⟩, rfl⟩)
          case measure => simp [intOf]; omega
    · as_aux_lemma =>
        have hend : ∃ bv : Bool, decide ((k : Int) < (n1 : Int)) = bv ∧ (bv = true → k = 200) := ⟨_, rfl, fun h => by
          rw [decide_eq_true_iff] at h; omega⟩
        obtain ⟨C, A, n, cap, t, vR, vW, us, ls, S11⟩ := P9.out
        have CW := Lib.hid (whole_any C kb vR vW us ls wr S11.blk S11.sl S11.ws S11.ck (by have := S11.nm; omega) (fun l hl => by have := S11.sm l hl; omega))
        have SS := Lib.hid S11
        have HFI : Hid (∀ w', Chg (fun x => C x = 9 ∨ C x = 3) wr w' → MainPost w (.returned (.bool true)) w' ∧ w'.cell? ⟨fb, n0, none⟩ = some (.int .u8 77) ∧ w'.cell? ⟨fb, n0 + 1, none⟩ = some (.int .u8 78)) := Lib.hid (fun w' hc => by
          obtain ⟨y, hy, ho⟩ := SS.out.full
          rw [HBL.out] at hy ho
          have hfc := SS.out.cfb
          have ho' := hc.ob ho (fun q hq hx => by
            have : fb = q := by simpa [Value.ownBlock] using hq
            subst this
            omega)
          refine ⟨⟨rfl, SS.out.bel.trans (hc.below (B := w.heap.size) (fun x hx hx2 => ?_) SS.out.bel.size)⟩, ho'.cellAt (c := 77) ?_, ho'.cellAt (c := 78) ?_⟩
          · have := SS.out.sam x hx
            simp only at this
            omega
          · rw [List.getElem?_append_right (by omega), hy, Nat.sub_self]; rfl
          · rw [List.getElem?_append_right (by omega), hy, Nat.add_sub_cancel_left]; rfl)
        clear S11 P9
        by_cases hkn : k = n1
        · subst hkn
          go_wp2_with fail
          refine CW.out.mono ?_
          rintro e w11 ⟨rfl, hc11⟩
          obtain ⟨f1, f2, f3⟩ := HFI.out w11 hc11
          have HF := Lib.hid f1
          clear f1 hc11 CW SS HFI
          go_wp2_with fail
          go_ret
          exact HF.out
        · have hk200 : k = 200 := by omega
          subst hk200
          go_wp2_with fail
          refine CW.out.mono ?_
          rintro e w11 ⟨rfl, hc11⟩
          obtain ⟨f1, f2, f3⟩ := HFI.out w11 hc11
          have HF := Lib.hid f1
          clear f1 hc11 CW SS HFI
          go_wp2_with fail
          go_ret
          exact HF.out
end Go.Proofs.Ytngaohmfedoeeaa
