/- THE WALK of heronlaw16.LinesCuts. -/
import Derived.Test.YtjldbpnphilkaaaLinesDrops
namespace Go.Proofs.Ytjldbpnphilkaaa
open Go.RowKit
theorem RI.keep {w w' : World} {C : Option Addr} {m : Nat} {cs : List Int} (h : RI w C m cs) (hb : Below w.heap.size w w') : RI w' C m cs := h.chg (Chg.of_below hb (fun _ => False)) (fun _ _ _ => id)
theorem runL_snoc (M : Nat) (s : RS) (b : List UInt8) (c : UInt8) : runL M s (b ++ [c]) = stepL M (runL M s b) c := by rw [runL_append]; rfl
theorem take_drop_snoc {b : List UInt8} {i f : Nat} {c : UInt8} (hc : b[i]? = some c) (hf : f ≤ i) : (b.take (i + 1)).drop f = (b.take i).drop f ++ [c] := by
  have hi := (List.getElem?_eq_some_iff.1 hc).1
  rw [take_snoc hc, List.drop_append_of_le_length (by rw [List.length_take]; omega)]
set_option maxRecDepth 100000 in
set_option maxHeartbeats 4000000 in
theorem cuts_any (x : Int) (A C : Option Addr) (n cap m capm : Nat) (b : List UInt8) (cs : List Int) (w : World) (hb : RB w A n b) (hc : RI w C m cs) (hncap : n ≤ cap) (hmcap : m ≤ capm) (hn : n ≤ 1048576) (hm : m ≤ 1048576) :
    Calls Try.prog 4 #[.int .i64 x, .slice A n cap, .slice C m capm] w fun e w' => e = .returned (.bool true) ∧ Below w.heap.size w w' := by
  have HB := Lib.hid hb; have HC := Lib.hid hc
  clear hb hc
  go_enter Try.func4, Try.ntmps4
  go_wp2_with fail
  refine (known_any _).mono ?_
  rintro e w1 ⟨rfl, hb1⟩
  have B1 := Lib.hid hb1; clear hb1
  go_upto_region 4 with fail
  obtain ⟨M, hM, hMe⟩ := most_eq x
  rw [hMe]
  clear hMe
  go_wp2_with fail
  go_loopw [7, 8, 9, 27] (fun lv gv fv iv W => ∃ (i f : Nat) (R : RS), i ≤ n ∧ iv = .int .i64 (i : Int) ∧ fv = .int .i64 (f : Int) ∧ f ≤ i ∧ gv = .int .i64 (R.long : Int) ∧ SR W w.heap.size lv R.ls ∧ Hid (R = runL M ⟨[], [], 0⟩ (b.take i)) ∧ Hid (R.u = (b.take i).drop f) ∧ R.long ≤ i ∧ R.ls.length ≤ i ∧ Below w.heap.size w W) (fun _ _ _ iv _ => n - (intOf iv).toNat)
  case atStart => exact ⟨0, 0, ⟨[], [], 0⟩, Nat.zero_le _, rfl, rfl, Nat.le_refl _, rfl, World.ownsRow_nil _ _ _ 1, Lib.hid rfl, Lib.hid rfl, Nat.le_refl _, Nat.le_refl _, B1.out⟩
  case round =>
    obtain ⟨i, f, R, hi, rfl, rfl, hfi, rfl, hsr, HR, HU, hlg, hll, hbl⟩ := hrel
    have S1 := Lib.hid hsr; have B2 := Lib.hid hbl
    clear hsr hbl
    obtain ⟨lg, hlge⟩ : ∃ lg, lg = R.long := ⟨_, rfl⟩
    rw [← hlge] at hlg ⊢
    have LG := Lib.hid hlge; clear hlge
    by_cases hlt : i < n
    · obtain ⟨bb, off, rfl, hbb, c, hci, hcell0⟩ := HB.out.at_ hlt
      have hcell : wr.cell? ⟨bb, off + i, none⟩ = some (.int .u8 (c.toNat : Int)) := (B2.out.cell (p := ⟨bb, off + i, none⟩) hbb).trans hcell0
      have hst : runL M ⟨[], [], 0⟩ (b.take (i + 1)) = stepL M R c := by rw [take_snoc hci, runL_snoc, ← HR.out]
      have hul : R.u.length = i - f := by rw [HU.out, List.length_drop, List.length_take]; have := HB.out.1; omega
      have HST := Lib.hid hst; have HCI := Lib.hid hci; have HUL := Lib.hid hul
      clear hst hci hcell0 hul
      by_cases h10 : c = 10
      · have ht : ((c.toNat : Int) != 10) = false := by rw [h10]; rfl
        by_cases hbig : M < i - f
        · have hE : Hid (⟨R.ls, [], lg + 1⟩ = runL M ⟨[], [], 0⟩ (b.take (i + 1))) := Lib.hid (by rw [HST.out, LG.out]; unfold stepL; rw [if_pos h10, if_neg (by rw [HUL.out]; omega)])
          have H10 := Lib.hid h10; clear h10
          have t1 : decide ((M : Int) < (i : Int) - (f : Int)) = true := by simp; omega
          go_wp2_with fail
          go_roundw
          case rel => exact ⟨i + 1, i + 1, ⟨R.ls, [], lg + 1⟩, by omega, by go_num, by go_num, Nat.le_refl _, by go_num, S1.out, hE, Lib.hid (by rw [List.drop_of_length_le (by rw [List.length_take]; omega)]), by show lg + 1 ≤ i + 1; omega, by show R.ls.length ≤ i + 1; omega, B2.out⟩
          case measure => simp [intOf]; omega
        · have hE : Hid (⟨R.ls ++ [R.u], [], lg⟩ = runL M ⟨[], [], 0⟩ (b.take (i + 1))) := Lib.hid (by rw [HST.out, LG.out]; unfold stepL; rw [if_pos h10, if_pos (by rw [HUL.out]; omega)])
          have H10 := Lib.hid h10; clear h10
          have t1 : decide ((M : Int) < (i : Int) - (f : Int)) = false := by simp; omega
          have hrb : RB wr (some ⟨bb, off + f, none⟩) (i - f) R.u := by
            have h1 := (((HB.out.keep B2.out).take (k := i) hi).drop (k := f) (cap := n + 1) hfi (by omega))
            rw [if_neg (by omega), ← HU.out] at h1
            have e : ((some ⟨bb, off, none⟩ : Option Addr).map (·.add f)) = some ⟨bb, off + f, none⟩ := by
              simp only [Option.map_some, Addr.add]
              by_cases h0 : f = 0
              · subst h0; simp
              · simp [h0]
            rwa [e] at h1
          have hcv := conv_bytes _ _ _ (cap - f) _ hrb
          obtain ⟨st, hst⟩ : ∃ st, st = strOf R.u := ⟨_, rfl⟩
          rw [← hst] at hcv
          have ST := Lib.hid hst
          have hxl : (R.ls.map fun l => Value.string (strOf l)).length = R.ls.length := List.length_map _
          have hl4 : SR (wr.alloc (.cells #[.string st] 9)) w.heap.size u7 R.ls := World.ownsRow.alloc S1.out _
          have hx4 : (wr.alloc (.cells #[.string st] 9)).ownsRow w.heap.size 9 1 u7 (R.ls.map fun l => Value.string (strOf l)).length (R.ls.map fun l => Value.string (strOf l)) := by rw [hxl]; exact hl4
          have hcl : (wr.alloc (.cells #[.string st] 9)).cell? ⟨wr.heap.size, 0, none⟩ = some (.string st) := by simp
          have hlen4 : ((R.ls.map fun l => Value.string (strOf l)).length + 1) * 16 ≤ 140737488355328 := by rw [hxl]; omega
          have hmax4 : (R.ls.map fun l => Value.string (strOf l)).length + 1 ≤ maxLen := by rw [hxl]; simp only [maxLen]; omega
          have hz4 : w.heap.size ≤ (wr.alloc (.cells #[.string st] 9)).heap.size := by have := B2.out.size; simp; omega
          have X4 := Lib.hid hx4; have CL := Lib.hid hcl; have L4 := Lib.hid hl4
          have N4 := Lib.hid hlen4; have K4 := Lib.hid hmax4; have Z4 := Lib.hid hz4
          generalize hxs : (R.ls.map fun l => Value.string (strOf l)) = xs at X4 N4 K4
          have XS := Lib.hid hxs
          clear hst hxl hl4 hx4 hcl hlen4 hmax4 hz4 hxs hrb
          go_wp2_with ((at_builtin; go_must (refine append_one rfl (.tmp 42) (.tmp 48) 47 9 rfl Try.underlying47 infoS rfl w.heap.size u7 xs rfl X4.out wr.heap.size 1 _ rfl CL.out rfl N4.out K4.out Z4.out ?_); intro v5 w5 ho5 hg5 ha5; refine halt ?_))
          refine unhalt ?_
          have B5 := Lib.hid ((B2.out.alloc B2.out.size (.cells #[.string st] 9)).grown hg5 Z4.out (fun j hj => (World.ownsRow.lt L4.out j hj).1))
          have S5 := Lib.hid (show SR w5 w.heap.size v5 (R.ls ++ [R.u]) from by
            unfold SR
            rw [List.map_append, XS.out, List.length_append, List.map_cons, List.map_nil, ← ST.out]
            have : xs.length = R.ls.length := by rw [← XS.out, List.length_map]
            rw [List.length_append, this] at ho5
            exact ho5)
          clear ho5 hg5 ha5 X4 CL L4 N4 K4 Z4 hcv hcell
          go_wp2_with fail
          go_roundw
          case rel => exact ⟨i + 1, i + 1, ⟨R.ls ++ [R.u], [], lg⟩, by omega, by go_num, by go_num, Nat.le_refl _, by go_num, S5.out, hE, Lib.hid (by rw [List.drop_of_length_le (by rw [List.length_take]; omega)]), by show lg ≤ i + 1; omega, by show (R.ls ++ [R.u]).length ≤ i + 1; rw [List.length_append]; simp; omega, B5.out⟩
          case measure => simp [intOf]; omega
      · have hE : Hid (⟨R.ls, R.u ++ [c], lg⟩ = runL M ⟨[], [], 0⟩ (b.take (i + 1))) := Lib.hid (by rw [HST.out, LG.out]; unfold stepL; rw [if_neg h10])
        have ht : ((c.toNat : Int) != 10) = true := by
          rw [bne_iff_ne]
          intro h
          exact h10 (UInt8.toNat_inj.1 (by have : (10 : UInt8).toNat = 10 := rfl; omega))
        have H10 := Lib.hid h10; clear h10
        go_wp2_with fail
        go_roundw
        case rel => exact ⟨i + 1, f, ⟨R.ls, R.u ++ [c], lg⟩, by omega, by go_num, rfl, by omega, by go_num, S1.out, hE, Lib.hid (by rw [take_drop_snoc HCI.out hfi, ← HU.out]), by show lg ≤ i + 1; omega, by show R.ls.length ≤ i + 1; omega, B2.out⟩
        case measure => simp [intOf]; omega
    · obtain rfl : i = n := by omega
      have htk : b.take i = b := List.take_of_length_le (by have := HB.out.1; omega)
      rw [htk] at HR HU
      have hul : R.u.length = i - f := by rw [HU.out, List.length_drop, HB.out.1]
      have HUL := Lib.hid hul
      clear htk hul
      have HEq : Hid (runL M ⟨[], [], 0⟩ b = R) := Lib.hid HR.out.symm
      have hbb2 : Below wr.heap.size wr ((wr.alloc (.cells #[.int .i64 1] 3)).alloc (.cells #[.slice C m capm, .slice (some ⟨wr.heap.size, 0, none⟩) 1 1, .slice none 0 0] 45)) := ((Below.refl _ _).alloc (Nat.le_refl _) _).alloc (by simp) _
      have hblk : Blk ((wr.alloc (.cells #[.int .i64 1] 3)).alloc (.cells #[.slice C m capm, .slice (some ⟨wr.heap.size, 0, none⟩) 1 1, .slice none 0 0] 45)) (wr.heap.size + 1) 45 #[.slice C m capm, .slice (some ⟨wr.heap.size, 0, none⟩) 1 1, .slice none 0 0] := Blk.new _ _ _ (by simp)
      have hone : Blk ((wr.alloc (.cells #[.int .i64 1] 3)).alloc (.cells #[.slice C m capm, .slice (some ⟨wr.heap.size, 0, none⟩) 1 1, .slice none 0 0] 45)) wr.heap.size 3 #[.int .i64 1] := (Blk.new _ _ _ rfl).alloc _
      have B3 := Lib.hid (B2.out.trans (hbb2.mono B2.out.size))
      have S3 := Lib.hid (S1.out.keep hbb2)
      have K3 := Lib.hid hblk; have O3 := Lib.hid hone
      have C3 := Lib.hid ((HC.out.keep B2.out).keep hbb2)
      clear hbb2 hblk hone S1 B2 hlt hi
      go_wp2_with fail
      obtain ⟨w3, hw3⟩ : ∃ w3, w3 = (wr.alloc (.cells #[.int .i64 1] 3)).alloc (.cells #[.slice C m capm, .slice (some ⟨wr.heap.size, 0, none⟩) 1 1, .slice none 0 0] 45) := ⟨_, rfl⟩
      obtain ⟨h, hh⟩ : ∃ h, h = wr.heap.size := ⟨_, rfl⟩
      rw [← hw3] at B3 S3 K3 O3 C3 ⊢
      rw [← hh] at K3 O3 ⊢
      have hh1 := O3.out.lt
      clear hw3 hh
      obtain ⟨V, cv, rfl, hcv, hV⟩ := S3.out.form
      obtain ⟨ll, hle⟩ : ∃ ll, ll = R.ls.length := ⟨_, rfl⟩
      obtain ⟨ul, hule⟩ : ∃ ul, ul = R.u.length := ⟨_, rfl⟩
      rw [← hle] at hcv hV hll ⊢
      have HV := Lib.hid hV
      have hllb : ll ≤ 1048576 := by omega
      have LLH := Lib.hid hle; have ULH := Lib.hid hule
      have hul2 : ul = i - f := by rw [hule]; exact HUL.out
      have t1 : ((ul : Int) != (i : Int) - (f : Int)) = false := by rw [bne_eq_false_iff_eq]; omega
      have HUL2 := Lib.hid hul2
      clear hV hll hle hule hul2 S3
      go_loopw [57] (fun iv W => ∃ j : Nat, j ≤ 3 ∧ iv = .int .i64 (j : Int) ∧ Below w3.heap.size w3 W) (fun iv _ => 3 - (intOf iv).toNat)
      case atStart => exact ⟨0, by omega, rfl, Below.refl _ _⟩
      case round =>
        obtain ⟨j, hj, rfl, hbw⟩ := hrel
        have BW := Lib.hid hbw
        have B4 := Lib.hid (B3.out.trans (hbw.mono B3.out.size))
        clear hbw
        by_cases hlt : j < 3
        · have hcut : ∃ (D : Option Addr) (q capq : Nat) (qs : List Int), wr.cell? ⟨h + 1, j, none⟩ = some (.slice D q capq) ∧ RI wr D q qs ∧ q ≤ capq ∧ q ≤ 1048576 := by
            have hk := K3.out.keep BW.out
            match j, hlt with
            | 0, _ => exact ⟨C, m, capm, cs, hk.cell 0, C3.out.keep BW.out, hmcap, hm⟩
            | 1, _ => exact ⟨some ⟨h, 0, none⟩, 1, 1, [1], hk.cell 1, ⟨rfl, fun _ => ⟨h, 0, rfl, by have := BW.out.size; omega, fun j' x' hj' => by
                match j', hj' with
                | 0, hj' => obtain rfl := Option.some.inj hj'; exact (O3.out.keep BW.out).cell 0
                | j' + 1, hj' => simp at hj'⟩⟩, Nat.le_refl _, by omega⟩
            | 2, _ => exact ⟨none, 0, 0, [], hk.cell 2, ⟨rfl, fun h => absurd h (by omega)⟩, Nat.le_refl _, by omega⟩
          obtain ⟨D, q, capq, qs, hcell, hri, hqc, hqm⟩ := hcut
          have RQ := Lib.hid hri; clear hri
          go_wp2_with fail
          refine (new_ok M _ hM).mono ?_
          intro e w4 hpost
          obtain ⟨g, hg, rfl, hm4, hb4, hsz4⟩ := hpost
          have M4 : Hid (MS w w4 g (.slice none 0 0) M [] 0) := Lib.hid ⟨hm4, B4.out.trans (hb4.mono B4.out.size), by have := B4.out.size; omega, fun k h => by simp [Value.ownBlock] at h⟩
          have hgl : g < w4.heap.size := hm4.blk.lt
          have R4 := Lib.hid (RQ.out.keep hb4)
          have hsep : 0 < q → Sep w4 g (.slice none 0 0) D := fun hq ad e => by
            obtain ⟨bb, off, e', hlt', _⟩ := RQ.out.2 hq
            rw [e] at e'
            obtain rfl := Option.some.inj e'
            exact ⟨by show bb ≠ g; omega, by simp [Value.ownBlock], by show bb < w4.heap.size; omega⟩
          have SP := Lib.hid hsep
          have BX := Lib.hid hb4
          have hgw : wr.heap.size ≤ g := by omega
          clear hm4 hb4 hsz4 hg hsep hcell
          (go_wp2_with fail; refine (num_any _ _).mono ?_; rintro e w' ⟨rfl, rfl⟩)
          go_wp2_with fail
          refine (fed_any g (.slice none 0 0) M ⟨[], [], 0⟩ R A D i cap q capq b qs _ M4.out HB.out hncap hM (by omega) R4.out SP.out hqc hqm (by simp) (by simp) rfl HEq.out).mono ?_
          intro e w5 hpost
          obtain ⟨vx, v5, rfl, hm5, hc5, hf5, hl5⟩ := hpost
          have M5 := Lib.hid hm5
          have B5 := Lib.hid (BX.out.trans (hc5.below (B := wr.heap.size) (fun k hk hs => by
            rcases hs with hs | hs
            · omega
            · simp [Value.ownBlock] at hs) BX.out.size))
          obtain ⟨X, cx, rfl, hcx, hX⟩ := hl5.form
          rw [← LLH.out] at hcx hX ⊢
          have HX := Lib.hid hX
          clear hm5 hc5 hf5 hl5 hX M4 R4 SP BX RQ
          go_wp2_with fail
          refine (long_any g v5 M R.long R.u _ M5.out.ob).mono ?_
          rintro e w' ⟨rfl, rfl⟩
          rw [← LG.out]
          go_wp2_with fail
          refine (begun_any g v5 M R.long R.u _ M5.out.ob).mono ?_
          rintro e w' ⟨rfl, rfl⟩
          rw [← ULH.out]
          go_wp2_with fail
          have BW5 := Lib.hid (BW.out.trans (B5.out.mono BW.out.size))
          go_loopw [107] (fun iv W => ∃ z : Nat, z ≤ ll ∧ iv = .int .i64 (z : Int) ∧ ∃ k, W = w5.drewN k) (fun iv _ => ll - (intOf iv).toNat)
          case atStart => exact ⟨0, Nat.zero_le _, rfl, 0, rfl⟩
          case round =>
            obtain ⟨z, hz, rfl, k, rfl⟩ := hrel
            by_cases hlt3 : z < ll
            · have hlj : z < R.ls.length := by have := LLH.out; omega
              have hel : R.ls[z]? = some (R.ls[z]) := List.getElem?_eq_getElem hlj
              obtain ⟨gX, rfl, hx⟩ := HX.out (by omega)
              obtain ⟨gV, rfl, hv⟩ := HV.out (by omega)
              have c1 : w5.cell? ⟨gX, z, none⟩ = some (.string (strOf (R.ls[z]))) := hx z _ hel
              have c2 : w5.cell? ⟨gV, z, none⟩ = some (.string (strOf (R.ls[z]))) := cell_later BW5.out (hv z _ hel)
              generalize strOf (R.ls[z]) = st at *
              clear hx hv hel hlj
              go_wp2_with fail
              go_quiet (fail)
              go_wp2_with fail
              go_roundw
              case rel => exact ⟨z + 1, by omega, by go_num, _, rfl⟩
              case measure => simp [intOf]; omega
            · obtain rfl : z = ll := by omega
              have HD := Lib.hid (held_any g v5 M R.long R.u (w5.drewN k) (M5.out.drewN k).ob)
              have hho : (heldOf M R.u).length = if ul ≤ M then ul else 0 := by unfold heldOf; rw [← ULH.out]; split; exact ULH.out.symm; rfl
              rw [hho] at HD
              have hulI : (i : Int) - (f : Int) = (ul : Int) := by have := HUL2.out; omega
              have HUI := Lib.hid hulI
              clear hho hulI
              by_cases hbig : M < ul
              · have t3 : decide ((M : Int) < (i : Int) - (f : Int)) = true := by have := HUI.out; simp; omega
                have t4 : decide ((i : Int) - (f : Int) ≤ (M : Int)) = false := by have := HUI.out; simp; omega
                rw [if_neg (by omega)] at HD
                go_wp2_with fail
                refine HD.out.mono ?_
                rintro e w' ⟨rfl, rfl⟩
                go_wp2_with fail
                go_roundw
                case rel => exact ⟨j + 1, by omega, by go_num, below_drewN BW5.out k⟩
                case measure => simp [intOf]; omega
              · have t3 : decide ((M : Int) < (i : Int) - (f : Int)) = false := by have := HUI.out; simp; omega
                have t4 : decide ((i : Int) - (f : Int) ≤ (M : Int)) = true := by have := HUI.out; simp; omega
                rw [if_pos (by omega)] at HD
                go_wp2_with fail
                refine HD.out.mono ?_
                rintro e w' ⟨rfl, rfl⟩
                go_wp2_with fail
                go_roundw
                case rel => exact ⟨j + 1, by omega, by go_num, below_drewN BW5.out k⟩
                case measure => simp [intOf]; omega
        · obtain rfl : j = 3 := by omega
          go_wp2_with fail
          go_ret
          exact ⟨rfl, B4.out⟩
end Go.Proofs.Ytjldbpnphilkaaa
