/- THE WALK of heronlaw16.fed. -/
import Derived.Test.YtjldbpnphilkaaaLinesKnown
import Derived.Test.YtjldbpnphilkaaaLinesRun
import Derived.Test.YtjldbpnphilkaaaStr
import Derived.Deep.DeepCutAuto
import Derived.Lib.MinMax
namespace Go.Proofs.Ytjldbpnphilkaaa
open Go.RowKit
theorem infoS : (Try.prog.info? 9).map (fun i => (i.zero, i.size, i.bytes)) = some (some (.string ByteArray.empty), 1, 16) := by kernel_rfl
/-- a slice that reads as these ints -/
def RI (w : World) (C : Option Addr) (m : Nat) (cs : List Int) : Prop := cs.length = m ∧ (0 < m → ∃ b off, C = some ⟨b, off, none⟩ ∧ b < w.heap.size ∧ ∀ (j : Nat) (x : Int), cs[j]? = some x → w.cell? ⟨b, off + j, none⟩ = some (.int .i64 x))
/-- a row of strings of the call's own -/
def SR (w : World) (base : Nat) (v : Value) (ls : List (List UInt8)) : Prop := w.ownsRow base 9 1 v ls.length (ls.map fun l => .string (strOf l))
/-- apart from the maker -/
def Sep (w : World) (g : Nat) (v : Value) (D : Option Addr) : Prop := ∀ ad, D = some ad → ad.block ≠ g ∧ v.ownBlock ≠ some ad.block ∧ ad.block < w.heap.size
section
variable {S : Nat → Prop} {w0 w W W' : World} {g base : Nat} {v v' vl : Value} {most long long' : Nat} {u u' : List UInt8} {ls : List (List UInt8)} {C D : Option Addr} {m : Nat} {cs : List Int}
theorem SR.chg (h : SR W base vl ls) (hm : MS w0 W g v most u long) (hc : Chg (ownF g v) W W') : SR W' base vl ls :=
  hc.own h (fun k hk hs => by
    rcases hs with rfl | hs
    · exact Blk.apart hm.ob.blk h (by decide) hk
    · rcases own_apart h hm.ob.own (by decide) with h' | h'
      · rw [h'] at hk; cases hk
      · exact h' (hk.trans hs.symm))
theorem SR.keep (h : SR W base vl ls) (hb : Below W.heap.size W W') : SR W' base vl ls :=
  World.ownsRow.kept (row := none) h ⟨hb.os, hb.tape, hb.output, hb.size, fun k hk _ => hb.block k hk⟩ (by
    cases vl.ownBlock with
    | none => exact .inl rfl
    | some k => exact .inr (by simp))
theorem MS.grown (h : MS w0 W g v most u long) (hl : SR W base vl ls) (hg : W.grownBy W' vl.ownBlock) (hb : w0.heap.size ≤ base) : MS w0 W' g v most u long :=
  ⟨⟨h.ob.blk.grown hg (Blk.apart h.ob.blk hl (by decide)), World.ownsRow.kept h.ob.own hg (own_apart h.ob.own hl (by decide))⟩, h.below.grown hg h.below.size (fun j hj => by have := (World.ownsRow.lt hl j hj).1; omega), h.hg, h.hv⟩
theorem RI.chg (h : RI W C m cs) (hc : Chg S W W') (hn : 0 < m → ∀ ad, C = some ad → ¬ S ad.block) : RI W' C m cs :=
  ⟨h.1, fun hp => by
    obtain ⟨b, off, rfl, hlt, hcell⟩ := h.2 hp
    exact ⟨b, off, rfl, Nat.lt_of_lt_of_le hlt hc.size, fun j x hj => (hc.cell (p := ⟨b, off + j, none⟩) hlt (hn hp ⟨b, off, none⟩ rfl)).trans (hcell j x hj)⟩⟩
theorem Sep.step (h : Sep W g v D) (hs : W.heap.size ≤ W'.heap.size) (hf : Fresh W v v') : Sep W' g v' D := fun ad e => by
  obtain ⟨h1, h2, h3⟩ := h ad e
  refine ⟨h1, fun hk => ?_, Nat.lt_of_lt_of_le h3 hs⟩
  rcases hf _ hk with h' | h'
  · exact h2 h'
  · omega
theorem Sep.add (h : Sep W g v D) (k : Nat) : Sep W g v (D.map fun x => x.add k) := fun ad e => by
  cases D with
  | none => cases e
  | some a =>
    obtain rfl := Option.some.inj e
    have := h a rfl
    have hb : (a.add k).block = a.block := by unfold Addr.add; split <;> rfl
    rw [hb]; exact this
end
def SepL (l : Value) (D : Option Addr) : Prop := ∀ ad, D = some ad → l.ownBlock ≠ some ad.block
theorem SepL.drop {l : Value} {D : Option Addr} (h : SepL l D) (k c : Nat) : SepL l (if c = k then D else D.map fun x => x.add k) := by
  split
  · exact h
  · intro ad e
    cases D with
    | none => cases e
    | some a =>
      obtain rfl := Option.some.inj e
      have hb : (a.add k).block = a.block := by unfold Addr.add; split <;> rfl
      rw [hb]; exact h a rfl
theorem Sep.drop {w : World} {g : Nat} {v : Value} {D : Option Addr} (h : Sep w g v D) (k c : Nat) : Sep w g v (if c = k then D else D.map fun x => x.add k) := by
  split
  · exact h
  · exact h.add k
def FedPost (w0 : World) (g : Nat) (v : Value) (most : Nat) (E : RS) (w : World) (e : Ending) (w' : World) : Prop :=
  ∃ vl v', e = .returned (.tuple #[vl, .bool true]) ∧ MS w0 w' g v' most E.u E.long ∧ Chg (ownF g v) w w' ∧ Fresh w v v' ∧ SR w' w.heap.size vl E.ls
theorem feed_ms2 {w0 : World} (g : Nat) (v : Value) (most : Nat) (s E : RS) (A : Option Addr) (n cap : Nat) (q : List UInt8) (W : World) (hm : MS w0 W g v most s.u s.long) (hr : RB W A n q) (hncap : n ≤ cap) (hmost : most ≤ 4096) (hlen : s.u.length + n ≤ 140737488355328) (hlong : s.long ≤ 140737488355328) (hE : runL most s q = E) (hn : 0 < n) :
    Calls Try.prog 11 #[.pointer (some ⟨g, 0, none⟩), .slice A n cap] W fun e W' => ∃ (S : ByteArray) (N : Nat) (B : Bool) (s' : RS) (v' : Value), e = .returned (.tuple #[.string S, .int .i64 (N : Int), .bool B]) ∧ 1 ≤ N ∧ N ≤ n ∧ S.size ≤ most ∧ (B = false → S = ByteArray.empty ∧ s'.ls = s.ls) ∧ (B = true → ∃ x, S = strOf x ∧ s'.ls = s.ls ++ [x]) ∧ MS w0 W' g v' most s'.u s'.long ∧ Chg (ownF g v) W W' ∧ Fresh W v v' ∧ runL most s' (q.drop N) = E ∧ s'.ls.length ≤ s.ls.length + N ∧ s'.u.length ≤ s.u.length + N ∧ s'.long ≤ s.long + N := by
  refine (feed_any g v most s.long s.u A n cap q W hm.ob hr hncap hmost hlen hlong).mono ?_
  rintro e W' ⟨rfl, v', hm', hc, hf⟩
  have hq := hr.1
  have hrun := feed_run most s q
  have hb := runL_bound most (q.take (feedN q)) s
  have h1 := feedN_le q
  rw [hrun] at hb
  have hl : (q.take (feedN q)).length = feedN q := by rw [List.length_take]; omega
  rw [hl] at hb
  refine ⟨_, feedN q, _, _, v', rfl, feedN_pos q (by omega), by omega, ?_, ?_, ?_, hm.step hm' hc hf, hc, hf, ?_, hb⟩
  · exact feedS_le most s.u q
  · intro h
    rw [feedS_nil _ _ _ h]
    exact ⟨rfl, by simp [h]⟩
  · intro h
    exact ⟨_, rfl, by simp [h]⟩
  · rw [← hrun, ← runL_append, List.take_append_drop]; exact hE
set_option maxRecDepth 100000 in
set_option maxHeartbeats 4000000 in
theorem fed_any {w0 : World} (g : Nat) (v : Value) (most : Nat) (s E : RS) (A C : Option Addr) (n cap m capm : Nat) (b : List UInt8) (cs : List Int) (w : World) (hm : MS w0 w g v most s.u s.long) (hr : RB w0 A n b) (hncap : n ≤ cap) (hmost : most ≤ 4096) (hn : n ≤ 1048576) (hcs : RI w C m cs) (hcsep : 0 < m → Sep w g v C) (hmc : m ≤ capm) (hmm : m ≤ 1048576) (hlen : s.u.length ≤ 1048576) (hlong : s.long ≤ 1048576) (hls : s.ls = []) (hE : runL most s b = E) :
    Calls Try.prog 20 #[.pointer (some ⟨g, 0, none⟩), .slice A n cap, .slice C m capm, .int .i64 (most : Int)] w (FedPost w0 g v most E w) := by
  have HM := Lib.hid hm
  have HR := Lib.hid hr; clear hr
  have HC := Lib.hid hcs; clear hcs
  have HS := Lib.hid hcsep; clear hcsep
  have HE := Lib.hid hE; clear hE
  have HL := Lib.hid hls; clear hls
  have Z0 := hm.size
  clear hm
  go_enter Try.func20, Try.ntmps20
  go_wp2_with fail
  go_loopw [1, 10, 11, 12, 13, 14, 15, 16] (fun bv lv kv _ _ _ _ _ W => ∃ (A' : Option Addr) (c' k : Nat) (r : List UInt8) (rl : Nat) (s' : RS) (v' : Value), bv = .slice A' rl c' ∧ kv = .int .i64 (k : Int) ∧ Hid (r.length = rl) ∧ rl ≤ c' ∧ k + rl ≤ n ∧ RB w0 A' rl r ∧ MS w0 W g v' most s'.u s'.long ∧ Chg (ownF g v) w W ∧ Fresh w v v' ∧ SR W w.heap.size lv s'.ls ∧ Hid (runL most s' r = E) ∧ Hid (s'.ls.length + rl ≤ n ∧ s'.u.length + rl ≤ 1048576 + n ∧ s'.long + rl ≤ 1048576 + n)) (fun bv _ _ _ _ _ _ _ _ => match bv with | .slice _ x _ => x | _ => 0)
  case atStart =>
    refine ⟨A, cap, 0, b, n, s, v, rfl, rfl, HR.out.1, hncap, by omega, HR.out, HM.out, Chg.refl _ _, fun k h => .inl h, ?_, HE.out, ?_⟩
    · unfold SR; rw [HL.out]; exact World.ownsRow_nil _ _ _ 1
    · rw [HL.out]; exact ⟨by simp, by omega, by omega⟩
  case round =>
    obtain ⟨A', c', k, r, rl, s', v', rfl, rfl, HRL, hrc, hkr, hr', hm', hch, hfr, hsr, HE', HB⟩ := hrel
    have HR' := Lib.hid hr'; clear hr'
    have HM' := Lib.hid hm'; clear hm'
    have HF := Lib.hid hfr; clear hfr
    have HCH := Lib.hid hch; clear hch
    have HSR := Lib.hid hsr; clear hsr
    by_cases hr0 : rl = 0
    · subst hr0
      obtain rfl : r = [] := List.eq_nil_of_length_eq_zero HRL.out
      obtain rfl : s' = E := HE'.out
      have hF : FedPost w0 g v most s' w (.returned (.tuple #[u10, .bool true])) wr := ⟨u10, v', rfl, HM'.out, HCH.out, HF.out, HSR.out⟩
      have HFP := Lib.hid hF; clear hF
      go_wp2_with fail
      go_ret2
      exact HFP.out
    · have t1 : decide ((0 : Int) < (rl : Int)) = true := by simp; omega
      have hrp : 0 < rl := by omega
      have HC' := Lib.hid (HC.out.chg HCH.out (fun hp ad e hs => by
        obtain ⟨q1, q2, _⟩ := HS.out hp ad e
        rcases hs with h | h
        · exact q1 h
        · exact q2 h))
      obtain ⟨wo, hwo⟩ : ∃ wo, wo = wr := ⟨_, rfl⟩
      have HWO := Lib.hid hwo; clear hwo
      go_upto_region 6 with fail
      go_cut [36] (fun s36 wx => ∃ tb : Bool, s36 = .bool tb ∧ (tb = true → ∃ (i : Nat) (bb off : Nat) (c : Int), 0 < m ∧ i < m ∧ (i : Int) = (k : Int) % (m : Int) ∧ C = some ⟨bb, off, none⟩ ∧ wr.cell? ⟨bb, off + i, none⟩ = some (.int .i64 c) ∧ 0 < c) ∧ wx = wr)
      case first =>
        by_cases hm0 : m = 0
        · subst hm0
          go_wp2_with fail
          go_meet
          exact ⟨false, rfl, by simp, rfl⟩
        · obtain ⟨bb, off, rfl, hbb, hcell⟩ := HC'.out.2 (by omega)
          obtain ⟨i, hi⟩ : ∃ i, i = k % m := ⟨_, rfl⟩
          have him : i < m := by rw [hi]; exact Nat.mod_lt _ (by omega)
          have hiI : (i : Int) = (k : Int) % (m : Int) := by rw [hi]; simp
          have hci : cs[i]? = some (cs[i]'(by rw [HC'.out.1]; exact him)) := List.getElem?_eq_getElem _
          obtain ⟨c, hc⟩ : ∃ c, c = cs[i]'(by rw [HC'.out.1]; exact him) := ⟨_, rfl⟩
          rw [← hc] at hci
          have hcc := hcell i c hci
          clear hcell hc hci hi
          have hmp : decide ((0 : Int) < (m : Int)) = true := by simp; omega
          have hmI : (1 : Int) ≤ (m : Int) := by omega
          have hmod : (k : Int) % (m : Int) = (i : Int) := hiI.symm
          have HI := Lib.hid hiI; clear hiI
          by_cases hc0 : 0 < c
          · go_wp2_with fail
            go_meet
            exact ⟨true, rfl, fun _ => ⟨i, bb, off, c, by omega, him, HI.out, rfl, hcc, hc0⟩, rfl⟩
          · go_wp2_with fail
            go_meet
            exact ⟨false, rfl, by simp, rfl⟩
      case rest =>
        obtain ⟨tb, rfl, htb, hw⟩ := hcut
        rw [hw]
        clear hw wc
        have HTB := Lib.hid htb; clear htb
        go_upto_if 36 with fail
        go_cut [12] (fun s12 wx => ∃ nn : Nat, 1 ≤ nn ∧ nn ≤ rl ∧ s12 = .int .i64 (nn : Int) ∧ wx = wr)
        case first =>
          cases tb with
          | false =>
            go_wp2_with fail
            go_meet
            exact ⟨rl, by omega, by omega, rfl, rfl⟩
          | true =>
            obtain ⟨i, bb, off, c, hmp, him, hiI, rfl, hcc, hc0⟩ := HTB.out rfl
            have hmI : (1 : Int) ≤ (m : Int) := by omega
            have hmod : (k : Int) % (m : Int) = (i : Int) := hiI.symm
            have hmin : ∀ W : World, (Builtin.min_ #[3, 3] 3 #[.int .i64 (rl : Int), .int .i64 c]).run Try.prog W = .ok (.int .i64 ((min rl c.toNat : Nat) : Int)) W := by
              intro W; rw [run_min_int2]; congr 2; split <;> omega
            have HI := Lib.hid hiI; clear hiI
            go_wp2_with fail
            go_meet
            exact ⟨min rl c.toNat, by omega, by omega, rfl, rfl⟩
        case rest =>
          obtain ⟨nn, hn1, hnr, rfl, hw⟩ := hcut
          rw [hw]
          clear hw wc HTB
          have hql : (r.take nn).length = nn := by rw [List.length_take, HRL.out]; omega
          have RT := Lib.hid (((HR'.out.keep HM'.out.below).take (k := nn) (by omega)).alloc (.cells #[] 5))
          have OF := Lib.hid (OB.fresh (w := wr) (base := wr.heap.size) rfl (Nat.le_refl _))
          have QL := Lib.hid hql; clear hql
          have hL : ([] : List UInt8).length + nn ≤ 140737488355328 := by simp; omega
          have hB0 : wr.heap.size ≤ (wr.alloc (.cells #[] 5)).heap.size := by simp
          have E1 := Lib.hid (show runL most (runL most s' (r.take nn)) (r.drop nn) = E from by rw [← runL_append, List.take_append_drop]; exact HE'.out)
          go_wp2_with ((at_builtin; go_must (refine append_bytes rfl (.tmp 46) (.tmp 49) rfl wr.heap.size _ [] rfl OF.out A' nn c' (r.take nn) rfl RT.out hL hB0 ?_); intro v3 w3 ho3 hg3 ha3; refine halt ?_))
          refine unhalt ?_
          have hbw : Below wr.heap.size wr w3 := ((Below.refl _ _).alloc (Nat.le_refl _) _).grown hg3 (by simp) (fun j hj => by
            obtain rfl := Option.some.inj hj
            exact Nat.le_refl _)
          have M3 := Lib.hid (HM'.out.keep hbw)
          have C3 := Lib.hid (HCH.out.trans (Chg.of_below hbw (ownF g v)) (fun _ _ h => h))
          have S3 := Lib.hid (HSR.out.keep hbw)
          have ho3' : OB w3 wr.heap.size v3 (r.take nn) := ho3
          obtain ⟨D, dc, rfl, hdc, _, hrd⟩ := ho3'.form
          rw [QL.out] at hdc hrd ⊢
          have hsep : Sep w3 g v' D := fun ad e => by
            subst e
            have h1 := ho3'.lt ad.block rfl
            have h2 := HM'.out.ob.blk.lt
            exact ⟨by omega, fun hk => by have := (HM'.out.ob.own.lt _ hk).2; omega, h1.2⟩
          have hsl : SepL u10 D := fun ad e hs => by
            subst e
            have h1 := ho3'.lt ad.block rfl
            have h2 := (World.ownsRow.lt HSR.out _ hs).2
            omega
          have P3 := Lib.hid hsep; have L3 := Lib.hid hsl; have R3 := Lib.hid hrd
          clear hbw ho3 ho3' hg3 ha3 hrd hsep hsl RT OF hL hB0
          go_upto_region 9 with fail
          go_cut [1] (fun s1 wx => ∃ (A2 : Option Addr) (c2 : Nat), s1 = .slice A2 (rl - nn) c2 ∧ rl - nn ≤ c2 ∧ RB w0 A2 (rl - nn) (r.drop nn) ∧ wx = w3)
          case first =>
            have RD := HR'.out.drop (k := nn) (cap := c') hnr hrc
            by_cases hcd : c' = nn
            · rw [if_pos hcd] at RD
              have RX := Lib.hid RD; clear RD
              go_wp2_with fail
              go_meet
              exact ⟨_, _, rfl, by omega, RX.out, rfl⟩
            · rw [if_neg hcd] at RD
              have RX := Lib.hid RD; clear RD
              go_wp2_with fail
              go_meet
              exact ⟨_, _, rfl, by omega, RX.out, rfl⟩
          case rest =>
            obtain ⟨A2, c2, rfl, hc2, hr2, hw⟩ := hcut
            rw [hw]
            clear hw wc
            have R2' := Lib.hid hr2; clear hr2
            obtain ⟨q, hq⟩ : ∃ q, q = r.take nn := ⟨_, rfl⟩
            obtain ⟨rest, hrest⟩ : ∃ q, q = r.drop nn := ⟨_, rfl⟩
            obtain ⟨rs, hrs⟩ : ∃ x, x = rl - nn := ⟨_, rfl⟩
            rw [← hq] at QL R3 E1
            rw [← hrest] at E1 R2'
            rw [← hrs] at R2' hc2 ⊢
            have hrl : rl = nn + rs := by omega
            obtain ⟨G, hG⟩ : ∃ G, G = runL most s' q := ⟨_, rfl⟩
            rw [← hG] at E1
            have RL2 := Lib.hid (show rest.length = rs from by rw [hrest, List.length_drop, HRL.out]; omega)
            have Q1 := Lib.hid (show runL most s' q = G from hG.symm)
            have BB := Lib.hid (show s'.ls.length + (nn + rs) ≤ n ∧ s'.u.length + (nn + rs) ≤ 1048576 + n ∧ s'.long + (nn + rs) ≤ 1048576 + n from by have := HB.out; omega)
            have hkr2 : k + nn + rs ≤ n := by omega
            have hrsl : rs < rl := by omega
            have HRLE := Lib.hid hrl
            clear hq hrest hrs hG hrl HB HRL HE' HR' HM' HCH HSR HC' t1
            go_wp2_with fail
            go_loopw [10, 13, 14, 15, 16] (fun lv pv _ _ _ W => ∃ (D' : Option Addr) (dc' ql : Nat) (q' : List UInt8) (s2 : RS) (v2 : Value), pv = .slice D' ql dc' ∧ Hid (q'.length = ql) ∧ ql ≤ dc' ∧ ql ≤ nn ∧ RB W D' ql q' ∧ Sep W g v2 D' ∧ MS w0 W g v2 most s2.u s2.long ∧ Chg (ownF g v) w W ∧ Fresh w v v2 ∧ SR W w.heap.size lv s2.ls ∧ SepL lv D' ∧ Hid (runL most s2 q' = G) ∧ Hid (s2.ls.length + (ql + rs) ≤ n ∧ s2.u.length + (ql + rs) ≤ 1048576 + n ∧ s2.long + (ql + rs) ≤ 1048576 + n)) (fun _ pv _ _ _ _ => match pv with | .slice _ x _ => x | _ => 0)
            case atStart => exact ⟨D, dc, nn, q, s', v', rfl, QL.out, hdc, Nat.le_refl _, R3.out, P3.out, M3.out, C3.out, HF.out, S3.out, L3.out, Q1.out, BB.out⟩
            case round =>
              obtain ⟨D', dc', ql, q', s2, v2, rfl, QL2, hdq, hqn, hrq, hsp, hm2, hc2', hf2, hs2, L2, G2, B2⟩ := hrel
              have LL := Lib.hid L2; clear L2
              have R2 := Lib.hid hrq
              have P2 := Lib.hid hsp
              have M2 := Lib.hid hm2
              have C2 := Lib.hid hc2'
              have F2 := Lib.hid hf2
              have S2 := Lib.hid hs2
              clear hrq hsp hm2 hc2' hf2 hs2
              by_cases hq0 : ql = 0
              · subst hq0
                obtain rfl : q' = [] := List.eq_nil_of_length_eq_zero QL2.out
                obtain rfl : s2 = G := G2.out
                go_wp2_with fail
                go_roundw
                case rel => exact ⟨_, _, k + 1, rest, rs, s2, v2, rfl, by go_num, RL2.out, hc2, by omega, R2'.out, M2.out, C2.out, F2.out, S2.out, E1.out, by have := B2.out; simp only [Nat.zero_add] at this; exact this⟩
                case measure => exact hrsl
              · have tq : decide ((0 : Int) < (ql : Int)) = true := by simp; omega
                go_wp2_with fail
                refine (feed_ms2 g v2 most s2 G D' ql dc' q' _ M2.out R2.out hdq hmost (by have := B2.out; omega) (by have := B2.out; omega) G2.out (by omega)).mono ?_
                intro e w4 hpost
                obtain ⟨St, N, B, s4, v4, rfl, hN1, hNq, hSm, hBf, hBt, hm4, hc4, hf4, hg4, hb4⟩ := hpost
                have M4 := Lib.hid hm4
                have C4 := Lib.hid (C2.out.trans hc4 (fun i hi h => by
                  rcases h with h | h
                  · exact .inl h
                  · rcases F2.out i h with h' | h'
                    · exact .inr h'
                    · omega))
                have hsz := C2.out.size
                have F4 := Lib.hid (show Fresh w v v4 from fun i hi => by
                  rcases hf4 i hi with h | h
                  · exact F2.out i h
                  · exact .inr (by omega))
                have S4 := Lib.hid (S2.out.chg M2.out hc4)
                have R4 := Lib.hid (hc4.rb R2.out (fun hp ad e hs => by
                  obtain ⟨h1, h2, h3⟩ := P2.out ad e
                  rcases hs with hs | hs
                  · exact h1 hs
                  · exact h2 hs))
                have P4 := Lib.hid (P2.out.step hc4.size hf4)
                have G4 := Lib.hid hg4
                have B4 := Lib.hid (show s4.ls.length + ((ql - N) + rs) ≤ n ∧ s4.u.length + ((ql - N) + rs) ≤ 1048576 + n ∧ s4.long + ((ql - N) + rs) ≤ 1048576 + n from by have := B2.out; omega)
                have B5 := Lib.hid (show s2.ls.length + 1 ≤ n from by have := B2.out; omega)
                obtain ⟨hd, hhd⟩ : ∃ m, m = (heldOf most s4.u).length := ⟨_, rfl⟩
                obtain ⟨ul, hul⟩ : ∃ m, m = s4.u.length := ⟨_, rfl⟩
                have hh := heldOf_le most s4.u
                rw [← hhd, ← hul] at hh
                obtain ⟨hh1, hh2⟩ := hh
                have HH := Lib.hid hhd
                have UU := Lib.hid hul
                have HBF := Lib.hid hBf; have HBT := Lib.hid hBt
                clear hhd hul hm4 hc4 hf4 hg4 hb4 hsz R2 P2 M2 C2 F2 S2 hBf hBt
                have t5 : decide ((N : Int) < 1) = false := by simp; omega
                have t6 : decide (ql < N) = false := by simp; omega
                have t8 : decide (most < St.size) = false := by simp; omega
                have t9 : decide (most < hd) = false := by simp; omega
                have t10 : decide (ul < hd) = false := by simp; omega
                go_upto_region 12 with fail
                go_cut [102] (fun s102 wx => s102 = .bool false ∧ wx = w4)
                case first =>
                  cases B with
                  | false =>
                    obtain ⟨rfl, _⟩ := HBF.out rfl
                    go_wp2_with fail
                    refine (held_any g v4 most s4.long s4.u _ M4.out.ob).mono ?_
                    rintro e w' ⟨rfl, rfl⟩
                    rw [← HH.out]
                    go_wp2_with fail
                    refine (held_any g v4 most s4.long s4.u _ M4.out.ob).mono ?_
                    rintro e w' ⟨rfl, rfl⟩
                    rw [← HH.out]
                    go_wp2_with fail
                    refine (begun_any g v4 most s4.long s4.u _ M4.out.ob).mono ?_
                    rintro e w' ⟨rfl, rfl⟩
                    rw [← UU.out]
                    go_wp2_with fail
                    go_meet
                    exact ⟨rfl, rfl⟩
                  | true =>
                    go_wp2_with fail
                    refine (held_any g v4 most s4.long s4.u _ M4.out.ob).mono ?_
                    rintro e w' ⟨rfl, rfl⟩
                    rw [← HH.out]
                    go_wp2_with fail
                    refine (held_any g v4 most s4.long s4.u _ M4.out.ob).mono ?_
                    rintro e w' ⟨rfl, rfl⟩
                    rw [← HH.out]
                    go_wp2_with fail
                    refine (begun_any g v4 most s4.long s4.u _ M4.out.ob).mono ?_
                    rintro e w' ⟨rfl, rfl⟩
                    rw [← UU.out]
                    go_wp2_with fail
                    go_meet
                    exact ⟨rfl, rfl⟩
                case rest =>
                  obtain ⟨rfl, hw⟩ := hcut
                  rw [hw]
                  clear hw wc
                  go_upto_if 103 with fail
                  go_cut [10] (fun s10 wx => SR wx w.heap.size s10 s4.ls ∧ MS w0 wx g v4 most s4.u s4.long ∧ Chg (ownF g v) w wx ∧ RB wx D' ql q' ∧ Sep wx g v4 D' ∧ SepL s10 D')
                  case first =>
                    cases B with
                    | false =>
                      obtain ⟨rfl, hls⟩ := HBF.out rfl
                      have LS := Lib.hid hls; clear hls
                      go_wp2_with fail
                      go_meet
                      exact ⟨by rw [LS.out]; exact S4.out, M4.out, C4.out, R4.out, P4.out, LL.out⟩
                    | true =>
                      obtain ⟨x, hSx, hls⟩ := HBT.out rfl
                      have LS := Lib.hid hls
                      have SX := Lib.hid hSx
                      have hxl : (s2.ls.map fun l => Value.string (strOf l)).length = s2.ls.length := List.length_map _
                      have hl4 : SR (w4.alloc (.cells #[.string St] 9)) w.heap.size u10 s2.ls := World.ownsRow.alloc S4.out _
                      have hx4 : (w4.alloc (.cells #[.string St] 9)).ownsRow w.heap.size 9 1 u10 (s2.ls.map fun l => Value.string (strOf l)).length (s2.ls.map fun l => Value.string (strOf l)) := by rw [hxl]; exact hl4
                      have hcl : (w4.alloc (.cells #[.string St] 9)).cell? ⟨w4.heap.size, 0, none⟩ = some (.string St) := by simp
                      have hb16 : s2.ls.length ≤ 1048576 := by have := B5.out; omega
                      have hlen4 : ((s2.ls.map fun l => Value.string (strOf l)).length + 1) * 16 ≤ 140737488355328 := by rw [hxl]; omega
                      have hmax4 : (s2.ls.map fun l => Value.string (strOf l)).length + 1 ≤ maxLen := by rw [hxl]; simp only [maxLen]; omega
                      have hz4 : w.heap.size ≤ (w4.alloc (.cells #[.string St] 9)).heap.size := by have := C4.out.size; simp; omega
                      have X4 := Lib.hid hx4; have CL := Lib.hid hcl; have L4 := Lib.hid hl4
                      have N4 := Lib.hid hlen4; have K4 := Lib.hid hmax4; have Z4 := Lib.hid hz4
                      generalize hxs : (s2.ls.map fun l => Value.string (strOf l)) = xs at X4 N4 K4
                      have XS := Lib.hid hxs
                      clear hls hSx hxl hl4 hx4 hcl hlen4 hmax4 hz4 hb16 hxs t5 t6 t8 t9 t10
                      go_wp2_with ((at_builtin; go_must (refine append_one rfl (.tmp 104) (.tmp 106) 47 9 rfl Try.underlying47 infoS rfl w.heap.size u10 xs rfl X4.out w4.heap.size 1 _ rfl CL.out rfl N4.out K4.out Z4.out ?_); intro v5 w5 ho5 hg5 ha5; refine halt ?_))
                      refine unhalt ?_
                      have M5 := Lib.hid ((M4.out.alloc _).grown L4.out hg5 Z0)
                      have C5 := Lib.hid ((C4.out.alloc (.cells #[.string St] 9)).grown hg5 (fun j hj hlt => by have := (World.ownsRow.lt L4.out j hj).1; omega))
                      have S5 := Lib.hid (show SR w5 w.heap.size v5 s4.ls from by
                        rw [LS.out]
                        unfold SR
                        rw [List.map_append, XS.out, List.length_append, List.map_cons, List.map_nil, ← SX.out]
                        have : xs.length = s2.ls.length := by rw [← XS.out, List.length_map]
                        rw [List.length_append, this] at ho5
                        exact ho5)
                      have hch5 : Chg (fun k => u10.ownBlock = some k) (w4.alloc (.cells #[.string St] 9)) w5 := (Chg.refl _ _).grown hg5 (fun k h _ => h)
                      have R6 := Lib.hid (hch5.rb (R4.out.alloc _) (fun _ ad e hs => LL.out ad e hs))
                      have P5 := Lib.hid (P4.out.step (W' := w5) (v' := v4) (by have := hch5.size; simp at this; omega) (fun i h => .inl h))
                      have L5 := Lib.hid (show SepL v5 D' from fun ad e hs => by
                        have h3 := (P4.out ad e).2.2
                        rcases ha5 with h | h
                        · rw [h] at hs; exact LL.out ad e hs
                        · rw [h] at hs; simp at hs; omega)
                      clear ho5 hg5 ha5 hch5 X4 CL L4 N4 K4 Z4
                      go_wp2_with fail
                      go_meet
                      exact ⟨S5.out, M5.out, C5.out, R6.out, P5.out, L5.out⟩
                  case rest =>
                    obtain ⟨hs5, hm5, hc5, hr5, hp5, hl5⟩ := hcut
                    have S5 := Lib.hid hs5; have M5 := Lib.hid hm5; have C5 := Lib.hid hc5; have R5 := Lib.hid (hr5.drop (k := N) (cap := dc') hNq hdq); have P5 := Lib.hid (hp5.drop N dc'); have L5 := Lib.hid (hl5.drop N dc')
                    clear hs5 hm5 hc5 hr5 hp5 hl5 t5 t6 t8 t9 t10
                    have hcN : dc' = N → ql = N := by omega
                    by_cases hcd : dc' = N
                    · rw [if_pos hcd] at R5 P5 L5
                      go_wp2_with fail
                      have hz0 : ql - N = 0 := by have := hcN hcd; omega
                      have HZ0 := Lib.hid hz0; clear hz0
                      go_wp2_with fail
                      go_roundw
                      case rel => exact ⟨_, _, 0, q'.drop N, s4, v4, rfl, Lib.hid (by rw [List.length_drop, QL2.out, HZ0.out]), Nat.le_refl _, Nat.zero_le _, by have := R5.out; rwa [HZ0.out] at this, P5.out, M5.out, C5.out, F4.out, S5.out, L5.out, G4, by have := B4.out; rw [HZ0.out] at this; exact Lib.hid this⟩
                      case measure => show 0 < ql; omega
                    · rw [if_neg hcd] at R5 P5 L5
                      go_wp2_with fail
                      go_roundw
                      case rel => exact ⟨_, _, ql - N, q'.drop N, s4, v4, rfl, Lib.hid (by rw [List.length_drop, QL2.out]), by omega, by omega, R5.out, P5.out, M5.out, C5.out, F4.out, S5.out, L5.out, G4, B4⟩
                      case measure => show ql - N < ql; omega
end Go.Proofs.Ytjldbpnphilkaaa
