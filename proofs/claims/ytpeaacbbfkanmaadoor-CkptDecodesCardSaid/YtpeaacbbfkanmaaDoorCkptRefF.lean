/- THE WALK of the reference's Decode. -/
import Derived.Test.YtpeaacbbfkanmaaDoorCkptRefE
namespace Go.Proofs.YtpeaacbbfkanmaaDoor
open Go.RowKit
def RMarksPost (l : List Mk) (w : World) (e : Ending) (w' : World) : Prop :=
  ∃ v, e = .returned (.tuple #[v, .int .i64 0]) ∧ OM w' w.heap.size v l ∧ Below w.heap.size w w'
def RDecPost (b : List UInt8) (n : Nat) (w : World) (e : Ending) (w' : World) : Prop :=
  (decB b n = true → RMarksPost (parse b n) w e w') ∧ (decB b n = false → NonePost w e w')
theorem RDecPost.none {b : List UInt8} {n : Nat} {w w' : World} {e : Ending} (h : decB b n = false) (hp : NonePost w e w') : RDecPost b n w e w' :=
  ⟨fun h' => (by rw [h] at h'; cases h'), fun _ => hp⟩
theorem refDec_args (A : Option Addr) (n cap : Nat) (many : Int) (w : World) (h : many < 1 ∨ 8 < many) :
    Calls Tryd.prog 12 #[.slice A n cap, .int .i64 many] w (NonePost w) := by
  by_cases h1 : many < 1
  · clear h
    go_enter Tryd.func12, Tryd.ntmps12
    go_wp2_with fail
    go_ret2
    exact ⟨rfl, Below.refl _ _⟩
  · have h8 : 8 < many := by omega
    clear h
    go_enter Tryd.func12, Tryd.ntmps12
    go_wp2_with fail
    go_ret2
    exact ⟨rfl, Below.refl _ _⟩
theorem iw_small (q : Nat) (h : q < 9223372036854775808) : IntKind.i64.wrap (q : Int) = (q : Int) := by rw [IntKind.wrap_i64]; omega
theorem wrap_small (q : Nat) (h : q < 9223372036854775808) : RowKit.wrap64 (q : Int) = (q : Int) := by unfold RowKit.wrap64; omega
set_option maxRecDepth 100000 in
set_option maxHeartbeats 4000000 in
theorem refDec_any (A : Option Addr) (n cap : Nat) (b : List UInt8) (many : Nat) (w : World) (hr : RB w A n b) (_hcap : n ≤ cap) (h1 : 1 ≤ many) (h8 : many ≤ 8) (hn : n ≤ 140737488355328) :
    Calls Tryd.prog 12 #[.slice A n cap, .int .i64 (many : Int)] w (RDecPost b many w) := by
  have hln := hr.1
  have t1 : decide ((many : Int) < 1) = false := by simp; omega
  have t8 : decide ((8 : Int) < many) = false := by simp; omega
  have tw : RowKit.wrap64 (72 * (many : Int)) = 72 * (many : Int) := by unfold RowKit.wrap64; omega
  by_cases hlen : n = 13 + 72 * many
  · have HR := Lib.hid hr; have HLN := Lib.hid hln; have HLEN := Lib.hid hlen
    clear hr hln
    have tn : ((n : Int) == 13 + 72 * (many : Int)) = true := by simp; omega
    clear hlen
    go_enter Tryd.func12, Tryd.ntmps12
    go_wp2_with fail
    rw [show ((n : Int) != 13 + 72 * (many : Int)) = false from by rw [bne, tn]; rfl]
    clear tw tn t1 t8
    go_loopw [6, 7] (fun lv iv W => ∃ i : Nat, i ≤ many ∧ iv = .int .i64 (i : Int) ∧ Hid (OM W w.heap.size lv (parseR b i)) ∧ Hid (Below w.heap.size w W)) (fun _ iv _ => many - (intOf iv).toNat)
    case atStart => exact ⟨0, Nat.zero_le _, rfl, Lib.hid (OM.nil _ _), Lib.hid (Below.refl _ _)⟩
    case round =>
      obtain ⟨i, hi, rfl, HO, HB⟩ := hrel
      obtain ⟨wO, hwO⟩ : ∃ wO, wO = wr := ⟨_, rfl⟩
      rw [← hwO] at HO HB ⊢
      clear hwO wr
      by_cases hlt : i < many
      · have B1 : Hid (Below wO.heap.size wO (wO.alloc (.cells (rowF (fK b (9 + 72 * i) 0)) 43))) := Lib.hid ((Below.refl _ _).alloc (Nat.le_refl _) _)
        have K1 : Hid (Blk (wO.alloc (.cells (rowF (fK b (9 + 72 * i) 0)) 43)) wO.heap.size 43 (rowF (fK b (9 + 72 * i) 0))) := Lib.hid (Blk.new _ _ _ rfl)
        have e0 : rowF (fK b (9 + 72 * i) 0) = #[.int .i64 0, .int .i64 0, .int .i64 0, .int .i64 0, .int .i64 0, .int .i64 0, .int .i64 0, .int .i64 0, .int .i64 0] := by
          unfold rowF fK
          simp only [Nat.not_lt_zero, if_false]
        have tw2 : RowKit.wrap64 (72 * (i : Int)) = 72 * (i : Int) := by unfold RowKit.wrap64; omega
        have E0 := Lib.hid e0
        rw [e0] at B1
        have hal : (wO.alloc (.cells (rowF (fK b (9 + 72 * i) 0)) 43)) = wO.alloc (.cells #[.int .i64 0, .int .i64 0, .int .i64 0, .int .i64 0, .int .i64 0, .int .i64 0, .int .i64 0, .int .i64 0, .int .i64 0] 43) := by rw [e0]
        rw [hal] at K1
        clear e0 hal
        go_upto_region 8 with fail
        obtain ⟨w1, hw1⟩ : ∃ w1, w1 = wO.alloc (.cells #[.int .i64 0, .int .i64 0, .int .i64 0, .int .i64 0, .int .i64 0, .int .i64 0, .int .i64 0, .int .i64 0, .int .i64 0] 43) := ⟨_, rfl⟩
        obtain ⟨g, hg⟩ : ∃ g, g = wO.heap.size := ⟨_, rfl⟩
        rw [← hw1] at B1 K1 ⊢
        rw [← hg] at K1 ⊢
        have GG := Lib.hid hg
        clear hw1 hg
        go_wp2_with fail
        go_loopw [9, 10, 11] (fun kv av jv W => ∃ k : Nat, k ≤ 9 ∧ kv = .int .i64 (k : Int) ∧ Hid (Blk W g 43 (rowF (fK b (9 + 72 * i) k))) ∧ Hid (Below wO.heap.size wO W)) (fun kv _ _ _ => 9 - (intOf kv).toNat)
        case atStart => exact ⟨0, by omega, rfl, K1, B1⟩
        case round =>
          obtain ⟨k, hk, rfl, KK, BK⟩ := hrel
          by_cases hlt9 : k < 9
          · have tw3 : RowKit.wrap64 (8 * (k : Int)) = 8 * (k : Int) := by unfold RowKit.wrap64; omega
            go_wp2_with fail
            clear tw2
            obtain ⟨p, hp⟩ : ∃ p, p = 9 + 72 * i + 8 * k := ⟨_, rfl⟩
            rw [show (9 + 72 * (i : Int) + 8 * (k : Int)) = ((p : Nat) : Int) from by omega]
            have hpn : p + 8 ≤ n := by have := HLEN.out; omega
            have HP := Lib.hid hp
            clear hp tw3
            go_loopw [11] (fun jv W => ∃ t : Nat, t ≤ 8 ∧ jv = .int .i64 ((t : Int) - 1) ∧ ∃ v : Int, Hid (v = s64 (leV ((b.drop (p + t)).take (8 - t)))) ∧ Hid (Blk W g 43 (rowF (upF (fK b (9 + 72 * i) k) k v))) ∧ Hid (Below wO.heap.size wO W)) (fun jv _ => ((intOf jv) + 1).toNat)
            case atStart => exact ⟨8, by omega, rfl, 0, Lib.hid (by simp [leV, s64, RowKit.wrap64]), Lib.hid (by rw [fK_zero]; exact KK.out), BK⟩
            case round =>
              obtain ⟨t, ht, rfl, v, HV, KT, BT⟩ := hrel
              by_cases ht0 : 0 < t
              · obtain ⟨t', rfl⟩ : ∃ t', t = t' + 1 := ⟨t - 1, by omega⟩
                rw [show (((t' + 1 : Nat) : Int) - 1) = ((t' : Nat) : Int) from by omega]
                obtain ⟨q, hq⟩ : ∃ q, q = p + t' := ⟨_, rfl⟩
                have hqn : q < n := by omega
                obtain ⟨bb, off, rfl, hbb, c, hc, c1⟩ := (HR.out.keep (HB.out.trans (BT.out.mono HB.out.size))).at_ hqn
                have c2 : wr.cell? ⟨g, k, none⟩ = some (.int .i64 v) := (KT.out.cell k).trans (by rw [rowF_at _ _ hlt9]; unfold upF; rw [if_pos rfl])
                have f2 : wr.frozen? ⟨g, k, none⟩ = false := KT.out.frozen k
                have HC := Lib.hid hc
                have HQB : Hid (q < 9223372036854775808) := Lib.hid (Nat.lt_of_lt_of_le hqn (Nat.le_trans hn (by decide)))
                have hpt : ((p : Int) + (t' : Int)) = (q : Int) := by rw [hq]; exact (Int.natCast_add p t').symm
                have hwt : RowKit.wrap64 (q : Int) = (q : Int) := wrap_small q HQB.out
                have hqi : (q : Int) < (n : Int) := Int.ofNat_lt.2 hqn
                have hq0 : (0 : Int) ≤ (q : Int) := Int.natCast_nonneg q
                have hst : s64 (leV ((b.drop (p + t')).take (8 - t'))) = RowKit.wrap64 (RowKit.wrap64 (v * 256) + RowKit.wrap64 (c.toNat : Int)) := by
                  have hd : b.drop (p + t') = c :: b.drop (p + (t' + 1)) := by
                    rw [hq] at hc
                    obtain ⟨hl, he⟩ := List.getElem?_eq_some_iff.1 hc
                    rw [List.drop_eq_getElem_cons hl, he, Nat.add_assoc]
                  rw [hd, show 8 - t' = (8 - (t' + 1)) + 1 from by omega, List.take_succ_cons]
                  show s64 (c.toNat + 256 * leV _) = _
                  rw [← s64_step, HV.out, wrap_small c.toNat (by have := c.toNat_lt; omega)]
                have HST := Lib.hid hst
                have KT2 := KT.out.set_ k (.int .i64 (RowKit.wrap64 (RowKit.wrap64 (v * 256) + RowKit.wrap64 (c.toNat : Int))))
                rw [rowF_set _ _ hlt9, upF_upF] at KT2
                have K2 := Lib.hid KT2
                have hgO : wO.heap.size ≤ g := by rw [GG.out]; exact Nat.le_refl _
                have BT2 := Lib.hid (BT.out.setCell (p := ⟨g, k, none⟩) hgO (.int .i64 (RowKit.wrap64 (RowKit.wrap64 (v * 256) + RowKit.wrap64 (c.toNat : Int)))))
                clear hq hc ht0 hst KT2 hgO
                go_upto_region 15 with fail
                go_region
                go_wp2_with fail
                go_roundw
                case rel => exact ⟨t', by omega, rfl, _, HST.out.symm, K2, Lib.hid BT2.out.drew⟩
                case measure => simp [intOf]
              · obtain rfl : t = 0 := by omega
                have HK1 : Hid (Blk wr g 43 (rowF (fK b (9 + 72 * i) (k + 1)))) := Lib.hid (by
                  have := KT.out
                  rw [HV.out, HP.out] at this
                  rw [← fK_succ]
                  exact this)
                go_wp2_with fail
                go_roundw
                case rel => exact ⟨k + 1, by omega, by go_num, HK1, BT⟩
                case measure => simp [intOf]; omega
          · obtain rfl : k = 9 := by omega
            obtain ⟨m, hm⟩ : ∃ m, m = mkRAt b (9 + 72 * i) := ⟨_, rfl⟩
            have KM : Hid (Blk wr g 43 m.cells) := Lib.hid (by rw [hm, ← fK_nine]; exact KK.out)
            have HMM := Lib.hid hm
            clear hm KK K1 B1 E0
            have a0 : wr.cell? ⟨g, 0, none⟩ = some (.int .i64 m.a0) := KM.out.cell 0
            have a1 : wr.cell? ⟨g, 1, none⟩ = some (.int .i64 m.a1) := KM.out.cell 1
            have a2 : wr.cell? ⟨g, 2, none⟩ = some (.int .i64 m.a2) := KM.out.cell 2
            have a3 : wr.cell? ⟨g, 3, none⟩ = some (.int .i64 m.a3) := KM.out.cell 3
            have a4 : wr.cell? ⟨g, 4, none⟩ = some (.int .i64 m.a4) := KM.out.cell 4
            have a5 : wr.cell? ⟨g, 5, none⟩ = some (.int .i64 m.a5) := KM.out.cell 5
            have a6 : wr.cell? ⟨g, 6, none⟩ = some (.int .i64 m.a6) := KM.out.cell 6
            have a7 : wr.cell? ⟨g, 7, none⟩ = some (.int .i64 m.a7) := KM.out.cell 7
            have a8 : wr.cell? ⟨g, 8, none⟩ = some (.int .i64 m.a8) := KM.out.cell 8
            have CM := Lib.hid (refMark_any m wr)
            unfold Mk.cells at CM
            go_wp2_with fail
            refine CM.out.mono ?_
            rintro e w5 ⟨rfl, hb5⟩
            have hbx : Below wO.heap.size wO (w5.alloc (.cells m.cells 31)) := by
              have h1 := BK.out.trans (hb5.mono BK.out.size)
              exact h1.alloc h1.size _
            have B6 : Hid (Below wO.heap.size wO ((w5.alloc (.cells m.cells 31)).alloc (.cells m.cells 31))) := Lib.hid (hbx.alloc hbx.size _)
            have O6 : Hid (OM ((w5.alloc (.cells m.cells 31)).alloc (.cells m.cells 31)) w.heap.size u6 (parseR b i)) := Lib.hid (HO.out.keep B6.out)
            have BB6 : Hid (Below w.heap.size w ((w5.alloc (.cells m.cells 31)).alloc (.cells m.cells 31))) := Lib.hid (HB.out.trans (B6.out.mono HB.out.size))
            have M6 : Hid (MS ((w5.alloc (.cells m.cells 31)).alloc (.cells m.cells 31)) (some ⟨w5.heap.size + 1, 0, none⟩) 1 [m]) := Lib.hid (MS.new _ m (by simp))
            unfold Mk.cells at B6 O6 BB6 M6
            have HLL : Hid ((parseR b i).length + 1 ≤ 1048600) := Lib.hid (by rw [parseR_length]; omega)
            have HSN : Hid (parseR b (i + 1) = parseR b i ++ [m]) := Lib.hid (by rw [parseR_succ, HMM.out])
            clear hb5 hbx a0 a1 a2 a3 a4 a5 a6 a7 a8 KM
            go_wp2_with ((at_builtin; go_must (refine append_marks rfl (.tmp 64) (.tmp 66) rfl w.heap.size u6 (parseR b i) rfl O6.out (some ⟨w5.heap.size + 1, 0, none⟩) 1 1 [m] rfl M6.out HLL.out BB6.out.size ?_); intro v7 w7 ho7 hg7 ha7; refine halt ?_))
            refine unhalt ?_
            have HO7 : Hid (OM w7 w.heap.size v7 (parseR b (i + 1))) := Lib.hid (by rw [HSN.out]; exact ho7)
            have HB7 : Hid (Below w.heap.size w w7) := Lib.hid (BB6.out.grown hg7 BB6.out.size (fun q hq => (O6.out.lt q hq).1))
            clear ho7 hg7 ha7
            go_wp2_with fail
            go_roundw
            first
              | (case rel => exact ⟨i + 1, by omega, by go_num, HO7, HB7⟩)
              | (case rel => (repeat apply Exists.intro); exact ⟨⟨i + 1, by omega, by go_num, HO7, HB7⟩, rfl⟩)
            case measure => simp [intOf]; omega
      · obtain rfl : i = many := by omega
        obtain ⟨A6, cap6, rfl, hc6, hms6, _⟩ := HO.out.form
        rw [parseR_length] at hc6 hms6 ⊢
        have M6 := Lib.hid hms6
        have HOO := HO
        unfold OM at HOO
        clear hms6 HOO
        cases hmay : mayB (parseR b i) with
        | false =>
          have hdf : decB b i = false := by
            cases hq : decB b i with
            | false => rfl
            | true => rw [(decR_true hq).2.1] at hmay; cases hmay
          have HDF := Lib.hid hdf; have HMAY := Lib.hid hmay
          clear hdf hmay
          go_wp2_with fail
          refine (refEnc_bad A6 i cap6 (parseR b i) _ M6.out hc6 (by omega) HMAY.out).mono ?_
          rintro e w8 ⟨rfl, hb8⟩
          have HF : Hid (RDecPost b i w (.returned (.tuple #[.slice none 0 0, .int .i64 210])) w8) := Lib.hid (RDecPost.none HDF.out ⟨rfl, HB.out.trans (hb8.mono HB.out.size)⟩)
          clear hb8
          go_wp2_with fail
          go_ret2
          exact HF.out
        | true =>
          have HIF := Lib.hid (decR_iff hmay)
          have HMAY := Lib.hid hmay
          have hel : (encB (parseR b i)).length = n := by rw [encB_length, parseR_length, HLEN.out]
          have HEL := Lib.hid hel
          clear hmay hel
          go_wp2_with fail
          refine (refEnc_ok A6 i cap6 (parseR b i) _ M6.out hc6 HMAY.out).mono ?_
          intro e w8 hpost
          obtain ⟨v8, rfl, ho8, hb8⟩ := hpost
          obtain ⟨D8, c8, rfl, hc8, _, hr8⟩ := ho8.form
          rw [HEL.out] at hr8 ⊢
          have hbw : Below w.heap.size w w8 := HB.out.trans (hb8.mono HB.out.size)
          have cs1 := conv_bytes w8 D8 n c8 _ hr8
          have cs2 := conv_bytes w8 A n cap b (HR.out.keep hbw)
          have BW := Lib.hid hbw
          have O8 := Lib.hid (HO.out.keep hb8)
          clear hb8 hr8 ho8 hbw hc8
          by_cases heq : encB (parseR b i) = b
          · have hdt := HIF.out.2 heq
            have hpp := (decR_true hdt).1
            have HF : Hid (RDecPost b i w (.returned (.tuple #[.slice A6 i cap6, .int .i64 0])) w8) := Lib.hid ⟨fun _ => ⟨_, rfl, by
              have := O8.out
              rw [parseR_length] at this
              rw [← hpp]; exact this, BW.out⟩, fun h => by rw [hdt] at h; cases h⟩
            rw [heq] at cs1
            clear heq hdt hpp
            go_wp2_with fail
            go_ret2
            exact HF.out
          · have hdf : decB b i = false := by
              cases hq : decB b i with
              | false => rfl
              | true => exact absurd (HIF.out.1 hq) heq
            have HF : Hid (RDecPost b i w (.returned (.tuple #[.slice none 0 0, .int .i64 210])) w8) := Lib.hid (RDecPost.none hdf ⟨rfl, BW.out⟩)
            have s1 : ((strOf (encB (parseR b i))).toList == (strOf b).toList) = false := by
              rw [strOf_toList, strOf_toList]
              simpa using heq
            clear heq hdf
            go_wp2_with fail
            go_ret2
            exact HF.out
  · have HN := Lib.hid (decB_len (b := b) (n := many) (by omega))
    have tn : ((n : Int) == 13 + 72 * (many : Int)) = false := by simp; omega
    clear hr hln hlen
    go_enter Tryd.func12, Tryd.ntmps12
    go_wp2_with fail
    go_ret2
    exact RDecPost.none HN.out ⟨rfl, Below.refl _ _⟩
end Go.Proofs.YtpeaacbbfkanmaaDoor
