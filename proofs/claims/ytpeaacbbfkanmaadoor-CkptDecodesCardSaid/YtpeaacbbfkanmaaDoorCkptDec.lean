/- THE WALK of ckpt.Decode. -/
import Derived.Test.YtpeaacbbfkanmaaDoorCkptMath
import Derived.Deep.LoopGhost
import Derived.Deep.CutBlock
namespace Go.Proofs.YtpeaacbbfkanmaaDoor
open Go.RowKit
theorem infoM : (Tryd.prog.info? 31).map (fun i => (i.size, i.bytes)) = some (9, 72) := by kernel_rfl
/-- it answers no marks -/
def NonePost (w : World) (e : Ending) (w' : World) : Prop := e = .returned (.tuple #[.slice none 0 0, .int .i64 210]) ∧ Below w.heap.size w w'
theorem decode_args (A : Option Addr) (n cap : Nat) (b : List UInt8) (many : Int) (w : World) (_hr : RB w A n b) (h : n < 4 ∨ many < 1 ∨ 8 < many) :
    Calls Tryd.prog 13 #[.slice A n cap, .int .i64 many] w (NonePost w) := by
  by_cases h4 : n < 4
  · clear h
    have t1 : decide ((n : Int) < 4) = true := by simp; omega
    go_enter Tryd.func13, Tryd.ntmps13
    go_wp2_with fail
    go_step3
    go_wp2_with fail
    rw [Exit.noGoto_ret]
    go_ret2
    exact ⟨rfl, Below.refl _ _⟩
  · have t1 : decide ((n : Int) < 4) = false := by simp; omega
    by_cases h1 : many < 1
    · clear h
      go_enter Tryd.func13, Tryd.ntmps13
      go_wp2_with fail
      go_step3
      go_wp2_with fail
      rw [Exit.noGoto_ret]
      go_ret2
      exact ⟨rfl, Below.refl _ _⟩
    · have h8 : 8 < many := by omega
      clear h
      go_enter Tryd.func13, Tryd.ntmps13
      go_wp2_with fail
      go_step3
      go_wp2_with fail
      rw [Exit.noGoto_ret]
      go_ret2
      exact ⟨rfl, Below.refl _ _⟩
/-- the number i of all marks' numbers -/
def nAt (b : List UInt8) (i : Nat) : Nat := numAt b (9 + 8 * i)
theorem nAt_mk (b : List UInt8) (k j : Nat) (hj : j < 9) : (mkAt b (9 + 72 * k)).list[j]? = some (nAt b (9 * k + j) : Int) := by
  unfold nAt mkAt Mk.list
  have e : ∀ q, 9 + 8 * (9 * k + q) = 9 + 72 * k + 8 * q := fun q => by omega
  rw [e]
  match j, hj with
  | 0, _ => rfl
  | 1, _ => rfl
  | 2, _ => rfl
  | 3, _ => rfl
  | 4, _ => rfl
  | 5, _ => rfl
  | 6, _ => rfl
  | 7, _ => rfl
  | 8, _ => rfl
/-- these bytes are an image of so many marks that may be -/
def decB (b : List UInt8) (n : Nat) : Bool := decide (b.length = 13 + 72 * n) && (decide (b.take 8 = magicB) && (decide (leV ((b.drop 8).take 1) = n) && (mayB (parse b n) && decide (leV (b.drop (b.length - 4)) = crcMore 0 (b.take (b.length - 4))))))
theorem decB_len {b : List UInt8} {n : Nat} (h : b.length ≠ 13 + 72 * n) : decB b n = false := by unfold decB; rw [decide_eq_false h]; rfl
theorem decB_mag {b : List UInt8} {n : Nat} (h : b.take 8 ≠ magicB) : decB b n = false := by unfold decB; rw [decide_eq_false h]; simp
theorem decB_cnt {b : List UInt8} {n : Nat} (h : leV ((b.drop 8).take 1) ≠ n) : decB b n = false := by unfold decB; rw [decide_eq_false h]; simp
theorem decB_may {b : List UInt8} {n : Nat} (h : mayB (parse b n) = false) : decB b n = false := by unfold decB; rw [h]; simp
theorem decB_sum {b : List UInt8} {n : Nat} (h : leV (b.drop (b.length - 4)) ≠ crcMore 0 (b.take (b.length - 4))) : decB b n = false := by unfold decB; rw [decide_eq_false h]; simp
theorem parse_at (b : List UInt8) (n k : Nat) (h : k < n) : (parse b n)[k]? = some (mkAt b (9 + 72 * k)) := by
  unfold parse
  rw [List.getElem?_map, List.getElem?_range h]; rfl
theorem decB_big {b : List UInt8} {n k j : Nat} (hk : k < n) (hj : j < 9) (h : 4611686018427387904 < nAt b (9 * k + j)) : decB b n = false :=
  decB_may (bad_mark (parse_at b n k hk) (nAt_mk b k j hj) (by unfold bigB; rw [decide_eq_true]; right; omega))
/-- the marks that were read lie there -/
def MarksPost (l : List Mk) (w : World) (e : Ending) (w' : World) : Prop :=
  ∃ g C, e = .returned (.tuple #[.slice (some ⟨g, 0, none⟩) l.length l.length, .int .i64 0]) ∧ w.heap.size ≤ g ∧ Blk w' g 31 C ∧ C.size = 9 * l.length ∧ MS w' (some ⟨g, 0, none⟩) l.length l ∧ Below w.heap.size w w'
def DecPost (b : List UInt8) (n : Nat) (w : World) (e : Ending) (w' : World) : Prop :=
  (decB b n = true → MarksPost (parse b n) w e w') ∧ (decB b n = false → NonePost w e w')
theorem DecPost.none {b : List UInt8} {n : Nat} {w w' : World} {e : Ending} (h : decB b n = false) (hp : NonePost w e w') : DecPost b n w e w' :=
  ⟨fun h' => (by rw [h] at h'; cases h'), fun _ => hp⟩
/-- the state of the reading: i numbers have been read -/
structure DSt (w0 : World) (b : List UInt8) (many gR gM i : Nat) (W : World) : Prop where
  blk : ∃ C, Blk W gM 31 C ∧ C.size = 9 * many ∧ ∀ q, q < i → C[q]? = some (.int .i64 (nAt b q : Int))
  rd : ∃ A' c', RD W gR A' (b.length - (9 + 8 * i)) c' (b.drop (9 + 8 * i)) ∧ ∀ ad, A' = some ad → ad.block ≠ gM
  hp : 9 + 8 * i ≤ b.length
  below : Below w0.heap.size w0 W
theorem strOf_toList (l : List UInt8) : (strOf l).toList = l := by rw [ByteArray.toList_eq]; simp [strOf]
theorem advA_block {A : Option Addr} {cap k gM : Nat} (h : ∀ ad, A = some ad → ad.block ≠ gM) : ∀ ad, advA A cap k = some ad → ad.block ≠ gM := by
  intro ad e
  unfold advA at e
  split at e
  · exact h ad e
  · cases A with
    | none => cases e
    | some a =>
      obtain rfl := Option.some.inj e
      have hb : (a.add k).block = a.block := by unfold Addr.add; split <;> rfl
      rw [hb]; exact h a rfl
theorem RD.set_far {w : World} {g : Nat} {A : Option Addr} {n cap : Nat} {l : List UInt8} (h : RD w g A n cap l) {p : Addr} (hg : g ≠ p.block) (hA : ∀ ad, A = some ad → ad.block ≠ p.block) (u : Value) : RD (w.setCell p u) g A n cap l :=
  ⟨h.blk.far hg u, h.rd.set_far (fun _ => hA) u, h.hc⟩
theorem DSt.step {w0 W : World} {b : List UInt8} {many gR gM i : Nat} (h : DSt w0 b many gR gM i W) (hRM : gR ≠ gM) (hR : w0.heap.size ≤ gR) (hM : w0.heap.size ≤ gM) {A' : Option Addr} {c' : Nat}
    (hrd : RD W gR A' (b.length - (9 + 8 * i)) c' (b.drop (9 + 8 * i))) (hA : ∀ ad, A' = some ad → ad.block ≠ gM) (hi : i < 9 * many) (hp : 9 + 8 * i + 8 ≤ b.length) :
    DSt w0 b many gR gM (i + 1) ((advW W gR A' (b.length - (9 + 8 * i)) c' 8).setCell ⟨gM, i, none⟩ (.int .i64 (nAt b i : Int))) := by
  obtain ⟨C, hC, hs, hq⟩ := h.blk
  have hr2 := hrd.adv (show 8 ≤ b.length - (9 + 8 * i) by omega)
  have e1 : b.length - (9 + 8 * i) - 8 = b.length - (9 + 8 * (i + 1)) := by omega
  have e2 : (b.drop (9 + 8 * i)).drop 8 = b.drop (9 + 8 * (i + 1)) := by rw [List.drop_drop, Nat.mul_succ, Nat.add_assoc]
  refine ⟨⟨C.setIfInBounds i (.int .i64 (nAt b i : Int)), (hC.far hRM.symm _).set_ i _, by simpa using hs, fun q hq' => ?_⟩, ⟨advA A' c' 8, c' - 8, ?_, advA_block hA⟩, by omega, (h.below.setCell hR _).setCell hM _⟩
  · by_cases hqi : q = i
    · subst hqi
      rw [Array.getElem?_setIfInBounds_self]
      rw [if_pos (by omega)]
    · rw [Array.getElem?_setIfInBounds_ne (by omega)]
      exact hq q (by omega)
  · rw [e1, e2] at hr2
    have := hr2.set_far (p := ⟨gM, i, none⟩) hRM (advA_block hA) (.int .i64 (nAt b i : Int))
    unfold advW
    rwa [e1]
theorem DSt.ms {w0 W : World} {b : List UInt8} {many gR gM : Nat} (h : DSt w0 b many gR gM (9 * many) W) : ∃ C, Blk W gM 31 C ∧ C.size = 9 * many ∧ MS W (some ⟨gM, 0, none⟩) many (parse b many) := by
  obtain ⟨C, hC, hs, hq⟩ := h.blk
  refine ⟨C, hC, hs, parse_length b many, fun _ => ⟨gM, 0, rfl, hC.lt, fun j m hj k u hu => ?_⟩⟩
  have hjm : j < many := by
    have := (List.getElem?_eq_some_iff.1 hj).1
    rwa [parse_length] at this
  rw [parse_at b many j hjm] at hj
  obtain rfl := Option.some.inj hj
  have hk : k < 9 := (Array.getElem?_eq_some_iff.1 hu).1
  have hx := list_cell _ k _ (nAt_mk b j k hk)
  rw [hx] at hu
  obtain rfl := Option.some.inj hu
  rw [Nat.zero_add, hC.cell, Nat.mul_comm j 9]
  exact hq _ (by omega)
theorem DSt.keep {w0 W W' : World} {b : List UInt8} {many gR gM i : Nat} (h : DSt w0 b many gR gM i W) (hb : Below W.heap.size W W') (hs : w0.heap.size ≤ W.heap.size) : DSt w0 b many gR gM i W' := by
  obtain ⟨C, hC, hs1, hq⟩ := h.blk
  obtain ⟨A', c', hrd, hA⟩ := h.rd
  exact ⟨⟨C, hC.keep hb, hs1, hq⟩, ⟨A', c', ⟨hrd.blk.keep hb, hrd.rd.keep hb, hrd.hc⟩, hA⟩, h.hp, h.below.trans (hb.mono hs)⟩
/-- behind the loops: all was read, or it is no image -/
def DEnd (w0 : World) (b : List UInt8) (many gR gM : Nat) (s : Value) (W : World) : Prop :=
  (s = .bool true ∧ DSt w0 b many gR gM (9 * many) W) ∨ (s = .bool false ∧ decB b many = false ∧ Below w0.heap.size w0 W ∧ ∃ A' n' c' l', RD W gR A' n' c' l')
theorem run_make_marks (n : Nat) (hn : n ≤ 1000000) (W : World) :
    ∃ C, (Instr.makeSlice 22 (.int .i64 (n : Int)) (.int .i64 (n : Int))).run Tryd.prog W = .ok (.slice (some ⟨W.heap.size, 0, none⟩) n n) (W.alloc (.cells C 31)) ∧ C.size = 9 * n := by
  have hM : (Tryd.prog.info? 31).map (fun i => (i.zero.isSome, i.size, i.bytes)) = some (true, 9, 72) := by kernel_rfl
  obtain ⟨i0, hi, hz⟩ := Option.map_eq_some_iff.1 hM
  simp only [Prod.mk.injEq] at hz
  obtain ⟨hz0, hz1, hz2⟩ := hz
  obtain ⟨z, hz0⟩ := Option.isSome_iff_exists.1 hz0
  have := run_make W 22 31 i0 z Tryd.underlying22 hi hz0 .i64 .i64 (n : Int) (n : Int) (by omega) (by omega) (by rw [hz2]; omega) (by omega)
  rw [Int.toNat_natCast] at this
  refine ⟨_, this, ?_⟩
  rw [size_madeCells, hz1]; omega
set_option maxRecDepth 100000 in
set_option maxHeartbeats 4000000 in
theorem decode_any (A : Option Addr) (n cap : Nat) (b : List UInt8) (many : Nat) (w : World) (hT : CrcTab w) (hr : RB w A n b) (hcap : n ≤ cap) (h4 : 4 ≤ n) (h1 : 1 ≤ many) (h8 : many ≤ 8) (hn : n ≤ 140737488355328) :
    Calls Tryd.prog 13 #[.slice A n cap, .int .i64 (many : Int)] w (DecPost b many w) := by
  have hln := hr.1
  have HR := Lib.hid hr; have HT := Lib.hid hT; have HLN := Lib.hid hln
  clear hr hT hln
  have t4 : decide ((n : Int) < 4) = false := by simp; omega
  have t1 : decide ((many : Int) < 1) = false := by simp; omega
  have t8 : decide ((8 : Int) < many) = false := by simp; omega
  go_enter Tryd.func13, Tryd.ntmps13
  go_wp2_with fail
  go_step3
  go_wp2_with fail
  refine (read_any A n cap b _ HR.out hn).mono ?_
  rintro e w1 ⟨gR, D, dc, rfl, hgR, hrd, hob, hb1⟩
  rw [HLN.out] at hrd hob
  have hDR : ∀ ad, D = some ad → ad.block ≠ gR := fun ad e h => by
    subst e
    exact hrd.blk.apart hob (by decide) (by show some ad.block = _; rw [h])
  have hDlt : ∀ ad, D = some ad → ad.block < w1.heap.size := fun ad e => by
    subst e
    exact (hob.lt ad.block rfl).2
  have hRlt := hrd.blk.lt
  have RD1 := Lib.hid hrd; have OB1 := Lib.hid hob; have B1 := Lib.hid hb1; have DR := Lib.hid hDR; have DLT := Lib.hid hDlt; have RLT := Lib.hid hRlt
  clear hrd hob hb1 hDR hDlt hRlt
  by_cases h9 : n < 9
  · have HN := Lib.hid (decB_len (b := b) (n := many) (by rw [HLN.out]; omega))
    by_cases h8n : n < 8
    · have h8n' : (n : Int) < 8 := by omega
      go_wp2_with fail
      refine (rtake_short gR D n dc b 8 _ RD1.out h8n').mono ?_
      rintro e w2 ⟨rfl, rfl⟩
      go_wp2_with fail
      refine (rnum_ok gR D n dc b 1 _ RD1.out (by omega) (by omega) (by omega)).mono ?_
      rintro e w3 ⟨rfl, hw3⟩
      have HE : Hid (DecPost b many w (.returned (.tuple #[.slice none 0 0, .int .i64 210])) w3) := Lib.hid (DecPost.none HN.out ⟨rfl, by rw [← hw3]; exact B1.out.setCell hgR _⟩)
      clear hw3
      go_wp2_with fail
      rw [Exit.noGoto_ret]
      go_ret2
      exact HE.out
    · obtain rfl : n = 8 := by omega
      go_wp2_with fail
      refine (rtake_ok gR D 8 dc b 8 _ RD1.out (by omega)).mono ?_
      rintro e w2 ⟨rfl, hw2⟩
      have RD2 : Hid (RD w2 gR (advA D dc 8) 0 (dc - 8) (b.drop 8)) := Lib.hid (by rw [← hw2]; exact RD1.out.adv (k := 8) (by omega))
      have HE : Hid (DecPost b many w (.returned (.tuple #[.slice none 0 0, .int .i64 210])) w2) := Lib.hid (DecPost.none HN.out ⟨rfl, by rw [← hw2]; exact B1.out.setCell hgR _⟩)
      clear hw2
      go_wp2_with fail
      refine (rnum_short gR _ 0 _ _ 1 _ RD2.out (by omega) (by omega) (by omega)).mono ?_
      rintro e w3 ⟨rfl, rfl⟩
      go_wp2_with fail
      rw [Exit.noGoto_ret]
      go_ret2
      exact HE.out
  · have h9' : ¬ n < 8 := by omega
    go_wp2_with fail
    refine (rtake_ok gR D n dc b 8 _ RD1.out (by omega)).mono ?_
    rintro e w2 ⟨rfl, hw2⟩
    have RD2 : Hid (RD w2 gR (advA D dc 8) (n - 8) (dc - 8) (b.drop 8)) := Lib.hid (by rw [← hw2]; exact RD1.out.adv (k := 8) (by omega))
    have B2 : Hid (Below w.heap.size w w2) := Lib.hid (by rw [← hw2]; exact B1.out.setCell hgR _)
    have F2 : Hid (RB w2 D 8 (b.take 8)) := Lib.hid (by rw [← hw2]; exact (RD1.out.rd.set_far (fun _ => DR.out) _).take (by omega))
    have S2 : Hid (w2.heap.size = w1.heap.size) := Lib.hid (by rw [← hw2]; simp [advW])
    clear hw2
    go_wp2_with fail
    refine (rnum_ok gR _ (n - 8) _ _ 1 _ RD2.out (by omega) (by omega) (by omega)).mono ?_
    rintro e w3 ⟨rfl, hw3⟩
    have RD3 : Hid (RD w3 gR (advA (advA D dc 8) (dc - 8) 1) (n - 9) (dc - 8 - 1) (b.drop 9)) := Lib.hid (by
      rw [← hw3]
      have := RD2.out.adv (k := 1) (by omega)
      rw [List.drop_drop, show n - 8 - 1 = n - 9 from by omega] at this
      unfold advW
      rwa [show n - 8 - 1 = n - 9 from by omega])
    have B3 : Hid (Below w.heap.size w w3) := Lib.hid (by rw [← hw3]; exact B2.out.setCell hgR _)
    have F3 : Hid (RB w3 D 8 (b.take 8)) := Lib.hid (by rw [← hw3]; exact F2.out.set_far (fun _ => DR.out) _)
    have S3 : Hid (w3.heap.size = w1.heap.size) := Lib.hid (by rw [← hw3, ← S2.out]; simp [advW])
    clear hw3 RD2 RD1 F2 S2 B2
    have D3 : Hid (∀ ad, advA (advA D dc 8) (dc - 8) 1 = some ad → ad.block ≠ w3.heap.size) := Lib.hid (advA_block (advA_block (fun ad e => by
      rw [S3.out]
      have := DLT.out ad e
      omega)))
    have R3 : Hid (gR ≠ w3.heap.size) := Lib.hid (by rw [S3.out]; have := RLT.out; omega)
    have cs := conv_bytes w3 D 8 8 (b.take 8) F3.out
    obtain ⟨cnt, hcnt⟩ : ∃ cnt, cnt = leV ((b.drop 8).take 1) := ⟨_, rfl⟩
    rw [← hcnt]
    have HC := Lib.hid hcnt
    clear hcnt
    by_cases hmag : b.take 8 = magicB
    · rw [hmag] at cs
      have s1 : (strOf magicB).toList = [72, 69, 82, 79, 78, 67, 75, 49] := strOf_toList _
      have HMAG := Lib.hid hmag
      clear hmag
      by_cases hcm : cnt = many
      · subst hcm
        obtain ⟨C, hmk, hCs⟩ := run_make_marks cnt (by omega) w3
        have hd : DSt w b cnt gR w3.heap.size 0 (w3.alloc (.cells C 31)) := ⟨⟨C, Blk.new _ _ _ rfl, hCs, fun q h => absurd h (by omega)⟩, ⟨_, _, by
          rw [HLN.out]
          exact ⟨RD3.out.blk.alloc _, RD3.out.rd.alloc _, RD3.out.hc⟩, D3.out⟩, by rw [HLN.out]; omega, B3.out.alloc B3.out.size _⟩
        have HD := Lib.hid hd
        have hM : w.heap.size ≤ w3.heap.size := B3.out.size
        have hR0 := hgR
        clear hCs hd
        go_upto_region 10 with fail
        obtain ⟨gM, hgM⟩ : ∃ gM, gM = w3.heap.size := ⟨_, rfl⟩
        obtain ⟨w4, hw4⟩ : ∃ w4, w4 = (w3.alloc (.cells C 31)) := ⟨_, rfl⟩
        rw [← hgM] at HD R3 hM ⊢
        rw [← hw4] at HD ⊢
        clear hgM hw4 hmk cs F3 RD3 S3 D3 RLT DLT DR B3 s1 OB1 B1
        go_wp2_with fail
        go_step3
        go_upto_block 0 with fail
        go_cut [13, 14, 16, 17, 18] (fun s _ _ _ _ wx => DEnd w b cnt gR gM s wx)
        case first =>
          go_wp2_with fail
          go_loopg [13, 67] cnt (fun g s13 s67 wx => ∃ k : Nat, k ≤ cnt ∧ g = cnt - k ∧ s13 = .bool true ∧ s67 = .int .i64 (k : Int) ∧ Hid (DSt w b cnt gR gM (9 * k) wx))
          case atStart => exact ⟨0, Nat.zero_le _, rfl, rfl, rfl, HD⟩
          case round =>
            obtain ⟨k, hk, rfl, rfl, rfl, HDk⟩ := hrel
            by_cases hlt : k < cnt
            · clear HD
              go_wp2_with fail
              refine (numbers_any gM _ _).mono ?_
              rintro e w5 ⟨rfl, md, hw5⟩
              have hb5 : Below wr.heap.size wr w5 := by rw [← hw5]; exact below_drewN ((Below.refl _ _).alloc (Nat.le_refl _) _) md
              have P5 : Hid (Blk w5 wr.heap.size 52 (ptrs gM (k * 9))) := Lib.hid (by rw [← hw5]; exact (Blk.new wr _ _ rfl).drewN md)
              have D5 := Lib.hid (HDk.out.keep hb5 HDk.out.below.size)
              obtain ⟨ph, hph⟩ : ∃ ph, ph = wr.heap.size := ⟨_, rfl⟩
              have hphR : gR ≠ ph := by
                obtain ⟨_, _, hx, _⟩ := HDk.out.rd
                have := hx.blk.lt
                omega
              have hphM : gM ≠ ph := by
                obtain ⟨_, hx, _⟩ := HDk.out.blk
                have := hx.lt
                omega
              rw [← hph] at P5 ⊢
              clear hw5 hb5 hph HDk
              go_wp2_with fail
              go_loopg [13, 75] 9 (fun g s13 s75 wx => ∃ j : Nat, j ≤ 9 ∧ g = 9 - j ∧ s13 = .bool true ∧ s75 = .int .i64 (j : Int) ∧ Hid (DSt w b cnt gR gM (9 * k + j) wx) ∧ Hid (Blk wx ph 52 (ptrs gM (k * 9))))
              case atStart => exact ⟨0, by omega, rfl, rfl, rfl, D5, P5⟩
              case round =>
                obtain ⟨j, hj, rfl, rfl, rfl, HDj, HPj⟩ := hrel
                by_cases hlt9 : j < 9
                · obtain ⟨i, hi⟩ : ∃ i, i = 9 * k + j := ⟨_, rfl⟩
                  have cp : wr.cell? ⟨ph, j, none⟩ = some (.pointer (some ⟨gM, i, none⟩)) := by
                    have := (HPj.out.cell j).trans (ptrs_at gM (k * 9) j hlt9)
                    rwa [show k * 9 + j = i from by omega] at this
                  rw [← hi] at HDj
                  have HI := Lib.hid hi
                  have him : i < 9 * cnt := by omega
                  clear hi
                  obtain ⟨A', c', hrdj, hAj⟩ := HDj.out.rd
                  have RJ := Lib.hid hrdj; have AJ := Lib.hid hAj
                  clear hrdj hAj
                  obtain ⟨n', hn'⟩ : ∃ n', n' = b.length - (9 + 8 * i) := ⟨_, rfl⟩
                  rw [← hn'] at RJ
                  have HN' := Lib.hid hn'
                  clear hn'
                  by_cases hsh : n' < 8
                  · go_wp2_with fail
                    refine (rnum_short gR A' n' c' _ 8 _ RJ.out (by omega) (by omega) hsh).mono ?_
                    rintro e w6 ⟨rfl, rfl⟩
                    have HE : Hid (DEnd w b cnt gR gM (.bool false) wr) := Lib.hid (.inr ⟨rfl, decB_len (by have := HN'.out; have := HI.out; omega), HDj.out.below, _, _, _, _, RJ.out⟩)
                    go_wp2_with fail
                    go_meet
                    exact HE.out
                  · have h8' : 8 ≤ n' := by omega
                    go_wp2_with fail
                    refine (rnum_ok gR A' n' c' _ 8 _ RJ.out (by omega) (by omega) h8').mono ?_
                    rintro e w6 ⟨rfl, hw6⟩
                    obtain ⟨x, hx⟩ : ∃ x, x = leV ((b.drop (9 + 8 * i)).take 8) := ⟨_, rfl⟩
                    rw [← hx]
                    have hxx : x = nAt b i := hx
                    have HX := Lib.hid hxx
                    clear hx hxx
                    by_cases hbig : 4611686018427387904 < x
                    · have HE : Hid (DEnd w b cnt gR gM (.bool false) w6) := Lib.hid (.inr ⟨rfl, decB_big hlt hlt9 (by rw [← HI.out, ← HX.out]; exact hbig), by rw [← hw6]; exact HDj.out.below.setCell hR0 _, _, _, _, _, by rw [← hw6]; exact RJ.out.adv h8'⟩)
                      clear hw6
                      go_wp2_with fail
                      go_meet
                      exact HE.out
                    · have hD7 := HDj.out.step R3.out hR0 hM (by rw [← HN'.out]; exact RJ.out) AJ.out him (by have := HN'.out; omega)
                      rw [← HN'.out, hw6, ← HX.out] at hD7
                      have hP7 : Blk (w6.setCell ⟨gM, i, none⟩ (.int .i64 (x : Int))) ph 52 (ptrs gM (k * 9)) := by
                        rw [← hw6]
                        exact (HPj.out.far (fun h => hphR h.symm) _).far (fun h => hphM h.symm) _
                      have D7 := Lib.hid hD7; have P7 := Lib.hid hP7
                      obtain ⟨C6, hC6, hs6, _⟩ := HDj.out.blk
                      have hB6 : Blk w6 gM 31 C6 := by rw [← hw6]; exact hC6.far (fun h => R3.out h.symm) _
                      obtain ⟨u6, hu6⟩ : ∃ u6, C6[i]? = some u6 := ⟨_, Array.getElem?_eq_getElem (by omega)⟩
                      have c6 : w6.cell? ⟨gM, i, none⟩ = some u6 := by rw [hB6.cell]; exact hu6
                      have f6 : w6.frozen? ⟨gM, i, none⟩ = false := hB6.frozen i
                      clear hw6 hD7 hP7 hC6 hs6 hB6 hu6
                      go_wp2_with fail
                      go_roundg (9 - (j + 1))
                      case measure => omega
                      case rel => exact ⟨j + 1, by omega, rfl, rfl, by go_num, by rw [show 9 * k + (j + 1) = i + 1 from by have := HI.out; omega]; exact D7, P7⟩
                · obtain rfl : j = 9 := by omega
                  go_wp2_with fail
                  go_roundg (cnt - (k + 1))
                  case measure => omega
                  case rel => exact ⟨k + 1, by omega, rfl, rfl, by go_num, HDj⟩
            · obtain rfl : k = cnt := by omega
              go_wp2_with fail
              go_meet
              exact .inl ⟨rfl, HDk.out⟩
        case rest =>
          clear HD
          rcases hcut with ⟨rfl, hd⟩ | ⟨rfl, hN, hb, A', n', c', l', hrd⟩
          · obtain ⟨A', c', hrd, hA'⟩ := hd.rd
            obtain ⟨n', hn'⟩ : ∃ n', n' = b.length - (9 + 8 * (9 * cnt)) := ⟨_, rfl⟩
            rw [← hn'] at hrd
            obtain ⟨n4, hn4⟩ : ∃ n4, n = n4 + 4 := ⟨n - 4, by omega⟩
            rw [show ((n : Int) - 4) = ((n4 : Nat) : Int) from by omega]
            have HN' := Lib.hid hn'; have HRD := Lib.hid hrd; have HDD := Lib.hid hd; have HN4 := Lib.hid hn4; have HP := Lib.hid hd.hp
            clear hn' hrd hd hA' hn4
            by_cases h4' : n' < 4
            · have HN := decB_len (b := b) (n := cnt) (by have := HN'.out; have := HP.out; omega)
              have HE : Hid (DecPost b cnt w (.returned (.tuple #[.slice none 0 0, .int .i64 210])) wc) := Lib.hid (DecPost.none HN ⟨rfl, HDD.out.below⟩)
              clear HN
              go_wp2_with fail
              refine (rnum_short gR A' n' c' _ 4 _ HRD.out (by omega) (by omega) h4').mono ?_
              rintro e w6 ⟨rfl, rfl⟩
              go_wp2_with fail
              rw [Exit.noGoto_ret]
              go_ret2
              exact HE.out
            · have h4'' : 4 ≤ n' := by omega
              go_wp2_with fail
              refine (rnum_ok gR A' n' c' _ 4 _ HRD.out (by omega) (by omega) h4'').mono ?_
              rintro e w6 ⟨rfl, hw6⟩
              obtain ⟨C6, hC6, hs6, hms6⟩ := HDD.out.ms
              have RD6 : Hid (RD w6 gR (advA A' c' 4) (n' - 4) (c' - 4) ((b.drop (9 + 8 * (9 * cnt))).drop 4)) := Lib.hid (by rw [← hw6]; exact HRD.out.adv h4'')
              have B6 : Hid (Below w.heap.size w w6) := Lib.hid (by rw [← hw6]; exact HDD.out.below.setCell hR0 _)
              have K6 : Hid (Blk w6 gM 31 C6) := Lib.hid (by rw [← hw6]; exact hC6.far (fun h => R3.out h.symm) _)
              have M6 : Hid (MS w6 (some ⟨gM, 0, none⟩) cnt (parse b cnt)) := Lib.hid (by
                rw [← hw6]
                refine ⟨hms6.1, fun hp => ?_⟩
                obtain ⟨bb, off, e1, e2, e3⟩ := hms6.2 hp
                injection e1 with e1
                injection e1 with e1 e1' e1''
                subst e1
                refine ⟨gM, off, by rw [e1'], by simpa [advW] using e2, fun j m hj k u hu => ?_⟩
                rw [← e3 j m hj k u hu]
                exact World.cell?_of_block (Below.heap_setCell _ _ _ _ (fun h => R3.out h.symm)))
              have SZ6 := Lib.hid hs6
              clear hw6 hC6 hs6 hms6
              obtain ⟨sv, hsv⟩ : ∃ sv, sv = leV ((b.drop (9 + 8 * (9 * cnt))).take 4) := ⟨_, rfl⟩
              rw [← hsv]
              have HSV := Lib.hid hsv
              clear hsv
              go_wp2_with fail
              refine (may_any _ cnt cnt _ _ M6.out (Nat.le_refl _) (by omega)).mono ?_
              rintro e w7 ⟨rfl, hb7⟩
              have RD7 := Lib.hid (show RD w7 gR (advA A' c' 4) (n' - 4) (c' - 4) ((b.drop (9 + 8 * (9 * cnt))).drop 4) from ⟨RD6.out.blk.keep hb7, RD6.out.rd.keep hb7, RD6.out.hc⟩)
              have B7 := Lib.hid (B6.out.trans (hb7.mono B6.out.size))
              have M7 := Lib.hid (M6.out.keep hb7)
              have K7 := Lib.hid (K6.out.keep hb7)
              clear hb7
              cases hmay : mayB (parse b cnt) with
              | false =>
                have HE : Hid (DecPost b cnt w (.returned (.tuple #[.slice none 0 0, .int .i64 210])) w7) := Lib.hid (DecPost.none (decB_may hmay) ⟨rfl, B7.out⟩)
                clear hmay
                go_wp2_with fail
                rw [Exit.noGoto_ret]
                go_ret2
                exact HE.out
              | true =>
                have HMAY := Lib.hid hmay
                clear hmay
                go_wp2_with fail
                refine (left_any gR _ _ _ _ _ RD7.out).mono ?_
                rintro e w8 ⟨rfl, rfl⟩
                by_cases hn0 : 0 < n' - 4
                · have HE : Hid (DecPost b cnt w (.returned (.tuple #[.slice none 0 0, .int .i64 210])) w7) := Lib.hid (DecPost.none (decB_len (by have := HN'.out; have := HP.out; omega)) ⟨rfl, B7.out⟩)
                  go_wp2_with fail
                  rw [Exit.noGoto_ret]
                  go_ret2
                  exact HE.out
                · obtain ⟨z, hz⟩ : ∃ z, z = n' - 4 := ⟨_, rfl⟩
                  rw [← hz] at hn0 ⊢
                  obtain rfl : z = 0 := by omega
                  have hlen : b.length = 13 + 72 * cnt := by have := HN'.out; have := HP.out; omega
                  have h4n : b.length - 4 = n4 := by have := HLN.out; have := HN4.out; omega
                  have hds : b.drop (b.length - 4) = (b.drop (9 + 8 * (9 * cnt))).take 4 := by
                    rw [List.take_of_length_le (by rw [List.length_drop]; omega), show b.length - 4 = 9 + 8 * (9 * cnt) from by omega]
                  have hra := (HR.out.keep B7.out).take (k := n4) (by have := HN4.out; omega)
                  have hcr := of_any A n4 cap (b.take n4) w7 (HT.out.keep B7.out) hra (by have := HN4.out; omega)
                  obtain ⟨cv, hcv⟩ : ∃ cv, cv = crcMore 0 (b.take n4) := ⟨_, rfl⟩
                  rw [← hcv] at hcr
                  have CR := Lib.hid hcr
                  have hcvl : cv < 4294967296 := by rw [hcv]; exact crcMore_lt _ (by omega)
                  have hdec : decB b cnt = true ↔ sv = cv := by
                    unfold decB
                    rw [decide_eq_true hlen, decide_eq_true HMAG.out, decide_eq_true HC.out.symm, HMAY.out, hds, ← HSV.out, h4n, ← hcv]
                    simp
                  have b1 : n4 ≤ n := by have := HN4.out; omega
                  have b2 : n4 ≤ cap := by omega
                  by_cases hsc : sv = cv
                  · have hdt := hdec.2 hsc
                    have HE : Hid (DecPost b cnt w (.returned (.tuple #[.slice (some ⟨gM, 0, none⟩) cnt cnt, .int .i64 0])) w7) := Lib.hid ⟨fun _ => ⟨gM, C6, by rw [parse_length], hM, K7.out, by rw [parse_length]; exact SZ6.out, by rw [parse_length]; exact M7.out, B7.out⟩, fun h => by rw [hdt] at h; cases h⟩
                    subst hsc
                    clear hcr hdec hdt hcv hlen h4n hds hra hz
                    go_wp2_with fail
                    refine CR.out.mono ?_
                    rintro e w9 ⟨rfl, rfl⟩
                    go_wp2_with fail
                    rw [Exit.noGoto_ret]
                    go_ret2
                    exact HE.out
                  · have hdf : decB b cnt = false := by
                      cases hq : decB b cnt with
                      | false => rfl
                      | true => exact absurd (hdec.1 hq) hsc
                    have HE : Hid (DecPost b cnt w (.returned (.tuple #[.slice none 0 0, .int .i64 210])) w7) := Lib.hid (DecPost.none hdf ⟨rfl, B7.out⟩)
                    have hsc' : ((sv : Int) == (cv : Int)) = false := by simp; omega
                    clear hcr hdec hdf hcv hlen h4n hds hra hz
                    go_wp2_with fail
                    refine CR.out.mono ?_
                    rintro e w9 ⟨rfl, rfl⟩
                    go_wp2_with fail
                    rw [Exit.noGoto_ret]
                    go_ret2
                    exact HE.out
          · have HN := Lib.hid hN; have HB := Lib.hid hb; have HRD := Lib.hid hrd
            clear hN hb hrd
            by_cases h4' : n' < 4
            · go_wp2_with fail
              refine (rnum_short gR A' n' c' _ 4 _ HRD.out (by omega) (by omega) h4').mono ?_
              rintro e w6 ⟨rfl, rfl⟩
              have HE : Hid (DecPost b cnt w (.returned (.tuple #[.slice none 0 0, .int .i64 210])) wc) := Lib.hid (DecPost.none HN.out ⟨rfl, HB.out⟩)
              go_wp2_with fail
              rw [Exit.noGoto_ret]
              go_ret2
              exact HE.out
            · go_wp2_with fail
              refine (rnum_ok gR A' n' c' _ 4 _ HRD.out (by omega) (by omega) (by omega)).mono ?_
              rintro e w6 ⟨rfl, hw6⟩
              have HE : Hid (DecPost b cnt w (.returned (.tuple #[.slice none 0 0, .int .i64 210])) w6) := Lib.hid (DecPost.none HN.out ⟨rfl, by rw [← hw6]; exact HB.out.setCell hR0 _⟩)
              clear hw6
              go_wp2_with fail
              rw [Exit.noGoto_ret]
              go_ret2
              exact HE.out
      · have HE : Hid (DecPost b many w (.returned (.tuple #[.slice none 0 0, .int .i64 210])) w3) := Lib.hid (DecPost.none (decB_cnt (by rw [← HC.out]; exact hcm)) ⟨rfl, B3.out⟩)
        have hcm' : ((cnt : Int) == (many : Int)) = false := by simp; omega
        go_wp2_with fail
        rw [Exit.noGoto_ret]
        go_ret2
        exact HE.out
    · have HE : Hid (DecPost b many w (.returned (.tuple #[.slice none 0 0, .int .i64 210])) w3) := Lib.hid (DecPost.none (decB_mag hmag) ⟨rfl, B3.out⟩)
      have s1 : (strOf (b.take 8)).toList ≠ [72, 69, 82, 79, 78, 67, 75, 49] := by rw [strOf_toList]; exact hmag
      clear hmag
      go_wp2_with fail
      rw [Exit.noGoto_ret]
      go_ret2
      exact HE.out
end Go.Proofs.YtpeaacbbfkanmaaDoor
