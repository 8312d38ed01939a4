/- THE WALK of heronlaw01.CrcExact. -/
import Derived.Test.YtnnlbnonffjjiaaDoorCrcKnown
import Derived.Test.YtnnlbnonffjjiaaDoorCrcMath
import Derived.Test.YtnnlbnonffjjiaaDoorCrcRoom
import Derived.Lib.SmallJoins
namespace Go.Proofs.YtnnlbnonffjjiaaDoor
open Go.RowKit
theorem info22 : (Tryd.prog.info? 22).map (fun i => (i.zero, i.size, i.bytes)) = some (some (.slice none 0 0), 1, 24) := by kernel_rfl
set_option maxRecDepth 100000 in
set_option maxHeartbeats 4000000 in
theorem exact_any (A B : Option Addr) (n cap m capm : Nat) (b : List UInt8) (ps : List (List UInt8)) (sum : Nat) (w : World) (hT : CrcTab w) (hb : RB w A n b) (hr : RR w B m ps) (hncap : n ≤ cap) (hmcap : m ≤ capm) (hn : n ≤ 1048576) (hm : m ≤ 1048576) (hsum : (ps.map List.length).sum ≤ 1048576) (hs : sum < 4294967296) :
    Calls Tryd.prog 3 #[.slice A n cap, .slice B m capm, .int .u32 (sum : Int)] w fun e w' => e = .returned (.bool true) ∧ Below w.heap.size w w' := by
  have HT := Lib.hid hT; clear hT
  have HB := Lib.hid hb; clear hb
  have HR := Lib.hid hr; clear hr
  have HP := Lib.hid (fun p (hp : p ∈ ps) => le_sum ps hp)
  have HS := Lib.hid hsum; clear hsum
  have q1 : crcMoreR 0 b = crcMore 0 b := (crcMore_eq 0 b).symm
  have q2 : crcMoreR sum b = crcMore sum b := (crcMore_eq sum b).symm
  have Q1 := Lib.hid q1; clear q1
  have Q2 := Lib.hid q2; clear q2
  go_enter Tryd.func3, Tryd.ntmps3
  go_wp2_with fail
  refine (known_any _ HT.out).mono ?_
  rintro e w1 ⟨rfl, hb1⟩
  have Z1 := hb1.size
  go_wp2_with fail
  refine (roomy_any _ _ _ b _ (HB.out.keep hb1) (by omega)).mono ?_
  intro e w2 hpost
  obtain ⟨g0, c0, rfl, hroom, hb12⟩ := hpost
  have hb2 : Below w.heap.size w w2 := hb1.trans (hb12.mono Z1)
  have Z2 := hb2.size
  have RM := Lib.hid (hroom.less Z1); clear hroom
  have R2 := Lib.hid RM.out.read
  have T2 := Lib.hid (HT.out.keep hb2)
  have B2 := Lib.hid (HB.out.keep hb2)
  go_wp2_with fail
  refine (of_any _ _ _ b _ T2.out R2.out (by omega)).mono ?_
  rintro e w' ⟨rfl, rfl⟩
  go_wp2_with fail
  refine (more_any _ _ _ b sum _ T2.out R2.out (by omega) hs).mono ?_
  rintro e w' ⟨rfl, rfl⟩
  go_wp2_with fail
  refine (refOf_any _ _ _ b _ B2.out (by omega)).mono ?_
  rintro e w' ⟨rfl, rfl⟩
  rw [Q1.out]
  go_wp2_with fail
  refine (refMore_any _ _ _ b sum _ B2.out (by omega) hs).mono ?_
  rintro e w' ⟨rfl, rfl⟩
  rw [Q2.out]
  go_wp2_with fail
  refine (kept_any _ _ _ _ _ _ b _ RM.out B2.out (by omega)).mono ?_
  intro e w' hpost
  obtain ⟨rfl, kd, rfl⟩ := hpost
  have hb3 : Below w.heap.size w (w2.drewN kd) := below_drewN hb2 kd
  generalize w2.drewN kd = w3 at *
  clear RM R2 T2 B2 hb2 Z2 hb12
  go_wp2_with fail
  go_loopw [10, 44] (fun v i W => ∃ k : Nat, k ≤ m ∧ i = .int .i64 k ∧ Below w.heap.size w W ∧ ∃ vals : List Value, W.ownsRow w.heap.size 22 1 v vals.length vals ∧ LR W w.heap.size vals (ps.take k)) (fun _ i _ => m - (intOf i).toNat)
  case atStart => exact ⟨0, Nat.zero_le _, rfl, hb3, [], World.ownsRow_nil _ _ _ 1, LR.nil _ _⟩
  case round =>
    obtain ⟨k, hk, rfl, hbr, vals, hown, hlr⟩ := hrel
    have HO := Lib.hid hown; clear hown
    have HL := Lib.hid hlr; clear hlr
    have Zr := hbr.size
    have hvl : vals.length = k := by have := HL.out.1; have := HR.out.1; simp at *; omega
    by_cases hlt : k < m
    · obtain ⟨bb, off, rfl, hbb, p, A', c', hc, hpc, hcell, hp⟩ := HR.out.at_ hlt
      rw [← hbr.cell (p := ⟨bb, off + k, none⟩) hbb] at hcell
      have hpl := HP.out p (List.mem_of_getElem? hc)
      have hpl' : p.length ≤ 1048576 := by have := HS.out; omega
      clear hpl
      have HC := Lib.hid hc; clear hc
      have HQ := Lib.hid (hp.keep hbr); clear hp
      go_wp2_with fail
      refine (roomy_any _ _ _ p _ HQ.out (by omega)).mono ?_
      intro e w4 hpost
      obtain ⟨g, c, rfl, hroom, hb34⟩ := hpost
      have hb4 : Below w.heap.size w w4 := hbr.trans (hb34.mono Zr)
      have Z4 := hb4.size
      have hxs := (HO.out.kept (row := none) ⟨hb34.os, hb34.tape, hb34.output, hb34.size, fun k hk _ => hb34.block k hk⟩ (by
        cases u10.ownBlock with
        | none => exact .inl rfl
        | some k => exact .inr (by simp))).alloc (.cells #[.slice (some ⟨g, 0, none⟩) p.length c] 22)
      have X4 := Lib.hid hxs; clear hxs
      have L4 := Lib.hid (((HL.out.keep hb34).snoc (hroom.less Zr)).keep ((Below.refl _ _).alloc (Nat.le_refl _) (.cells #[.slice (some ⟨g, 0, none⟩) p.length c] 22)))
      have hcl : (w4.alloc (.cells #[.slice (some ⟨g, 0, none⟩) p.length c] 22)).cell? ⟨w4.heap.size, 0, none⟩ = some (.slice (some ⟨g, 0, none⟩) p.length c) := by simp
      have CL := Lib.hid hcl; clear hcl
      clear hroom HO HL HQ hcell
      have hlen4 : (vals.length + 1) * 24 ≤ 140737488355328 := by omega
      have hmax4 : vals.length + 1 ≤ maxLen := by simp only [maxLen]; omega
      go_wp2_with ((at_builtin; go_must (refine append_one rfl (.tmp 48) (.tmp 51) 23 22 rfl Tryd.underlying23 info22 rfl w.heap.size u10 vals rfl X4.out w4.heap.size 1 _ rfl CL.out rfl hlen4 hmax4 (by simp; omega) ?_); intro v5 w5 ho5 hg5 ha5; refine halt ?_))
      refine unhalt ?_
      have hb5 : Below w.heap.size w w5 := (hb4.alloc Z4 _).grown hg5 (by simp; omega) (fun j hj => (World.ownsRow.lt X4.out j hj).1)
      have L5 := Lib.hid (L4.out.grown X4.out hg5)
      have O5 := Lib.hid ho5; clear ho5
      clear X4 L4 CL hg5 ha5 hlen4 hmax4 hb4 Z4 hb34 hbr Zr
      go_wp2_with fail
      go_roundw
      case rel => exact ⟨k + 1, by omega, by go_num, hb5, _, O5.out, by rw [take_snoc HC.out]; exact L5.out⟩
      case measure => simp [intOf]; omega
    · obtain rfl : k = m := by omega
      have htk : ps.take k = ps := List.take_of_length_le (by have := HR.out.1; omega)
      rw [htk] at HL
      clear htk
      have kc := fun (w : World) (C : Array Value) (n c g : Nat) (hg : g = w.heap.size) => Joins.run_convert_bytes_const_at (P := Tryd.prog) w 22 5 C n c g hg Tryd.underlying22 Tryd.underlying5
      have hpsl : ps.length = k := HR.out.1
      have hx1 := (HO.out.alloc (.cells #[.int .u8 109, .int .u8 97, .int .u8 114, .int .u8 107] 5 (4, 5))).alloc (.cells #[.slice (some ⟨wr.heap.size, 0, none⟩) 4 4] 22)
      have X1 := Lib.hid hx1; clear hx1
      have hl1 := (HL.out.keep ((Below.refl _ _).alloc (Nat.le_refl _) (.cells #[.int .u8 109, .int .u8 97, .int .u8 114, .int .u8 107] 5 (4, 5)))).keep ((Below.refl _ _).alloc (Nat.le_refl _) (.cells #[.slice (some ⟨wr.heap.size, 0, none⟩) 4 4] 22))
      have LX := Lib.hid hl1; clear hl1
      have hmk := (RB.new wr 5 (4, 5) #[.int .u8 109, .int .u8 97, .int .u8 114, .int .u8 107] [109, 97, 114, 107] rfl 4 rfl).alloc (.cells #[.slice (some ⟨wr.heap.size, 0, none⟩) 4 4] 22)
      have MK := Lib.hid hmk; clear hmk
      have hcl : ((wr.alloc (.cells #[.int .u8 109, .int .u8 97, .int .u8 114, .int .u8 107] 5 (4, 5))).alloc (.cells #[.slice (some ⟨wr.heap.size, 0, none⟩) 4 4] 22)).cell? ⟨wr.heap.size + 1, 0, none⟩ = some (.slice (some ⟨wr.heap.size, 0, none⟩) 4 4) := by simp
      have CL := Lib.hid hcl; clear hcl
      have hlen4 : (vals.length + 1) * 24 ≤ 140737488355328 := by omega
      have hmax4 : vals.length + 1 ≤ maxLen := by simp only [maxLen]; omega
      have hnew := (Below.refl w.heap.size w).size
      go_wp2_with ((at_builtin; go_must (refine append_one rfl (.tmp 54) (.tmp 57) 23 22 rfl Tryd.underlying23 info22 rfl w.heap.size u10 vals rfl X1.out (wr.heap.size + 1) 1 _ rfl CL.out rfl hlen4 hmax4 (by simp; omega) ?_); intro v5 w5 ho5 hg5 ha5; refine halt ?_))
      refine unhalt ?_
      clear kc hnew
      have hb5 : Below w.heap.size w w5 := ((hbr.alloc Zr _).alloc (by simp; omega) _).grown hg5 (by simp; omega) (fun j hj => (World.ownsRow.lt X1.out j hj).1)
      have Z5 := hb5.size
      have L5 := LX.out.grown X1.out hg5
      have mk5 : RB w5 (some ⟨wr.heap.size, 0, none⟩) 4 [109, 97, 114, 107] := by
        have hne : some wr.heap.size ≠ u10.ownBlock := fun e => by
          have := (World.ownsRow.lt HO.out wr.heap.size e.symm).2; omega
        obtain ⟨b', off', e', hlt', hcells⟩ := MK.out.2 (by omega)
        simp only [Option.some.injEq, Addr.mk.injEq, and_true] at e'
        obtain ⟨rfl, rfl⟩ := e'
        exact ⟨rfl, fun _ => ⟨_, _, rfl, Nat.lt_of_lt_of_le hlt' hg5.size, fun j c hj => hg5.cell (hcells j c hj) hne⟩⟩
      have O5 := Lib.hid ho5
      have hform : ∃ g c, v5 = .slice (some ⟨g, 0, none⟩) (k + 1) c ∧ k + 1 ≤ c := by
        rcases ho5.2 with ⟨_, h0⟩ | ⟨g, cap, cur, h, _, _, hc, _⟩
        · simp at h0
        · refine ⟨g, cap, ?_, ?_⟩
          · rw [h]; congr 1; simp; omega
          · simp at hc; omega
      obtain ⟨gl, cl, rfl, hgc⟩ := hform
      clear ho5 X1 LX MK CL hlen4 hmax4 HO HL
      have hvl1 : (vals ++ [Value.slice (some ⟨wr.heap.size, 0, none⟩) 4 4]).length = k + 1 := by simp; omega
      have O6 : w5.ownsRow w.heap.size 22 1 (.slice (some ⟨gl, 0, none⟩) (k + 1) cl) (k + 1) (vals ++ [Value.slice (some ⟨wr.heap.size, 0, none⟩) 4 4]) := by
        have := O5.out; rw [hvl1] at this; exact this
      have R5 := L5.read O6 (by omega)
      rw [hpsl] at R5
      have R5x := Lib.hid R5; clear R5
      have T5 := Lib.hid (HT.out.keep hb5)
      have L5' := Lib.hid L5; clear L5
      have K5 := Lib.hid mk5; clear mk5
      have O7 := Lib.hid O6; clear O6
      clear O5 hg5 ha5 hvl1
      have HVL := Lib.hid hvl; clear hvl
      have HPS := Lib.hid hpsl; clear hpsl
      go_wp2_with fail
      refine (all_any _ _ _ ps _ T5.out R5x.out (by omega) (fun p hp => by have := HP.out p hp; have := HS.out; omega)).mono ?_
      rintro e w' ⟨rfl, rfl⟩
      go_wp2_with fail
      go_loopw [66] (fun i W => ∃ j : Nat, j ≤ k ∧ i = .int .i64 j ∧ ∃ q : Nat, W = w5.drewN q) (fun i _ => k - (intOf i).toNat)
      case atStart => exact ⟨0, Nat.zero_le _, rfl, 0, rfl⟩
      case round =>
        obtain ⟨j, hj, rfl, q, rfl⟩ := hrel
        by_cases hlt' : j < k
        · obtain ⟨bb, off, rfl, hbb, p, A', c', hc, hpc, hcell, hp⟩ := HR.out.at_ hlt'
          rw [← hb5.cell (p := ⟨bb, off + j, none⟩) hbb] at hcell
          obtain ⟨g, c, hv, hroom⟩ := L5'.out.2 j p hc
          have hpl' : p.length ≤ 1048576 := by have := HP.out p (List.mem_of_getElem? hc); have := HS.out; omega
          have hcell2 : w5.cell? ⟨gl, j, none⟩ = some (.slice (some ⟨g, 0, none⟩) p.length c) := by
            rw [World.ownsRow.cellAt O7.out j (by omega), List.getElem?_append_left (by have := HVL.out; omega)]
            exact hv
          have hj1 : j < k + 1 := by omega
          have HQ := Lib.hid (hp.keep hb5); clear hp
          have HM := Lib.hid hroom; clear hroom
          clear hc hv
          go_wp2_with fail
          refine (kept_any _ _ _ _ _ _ p _ (HM.out.drewN q) (HQ.out.drewN q) (by omega)).mono ?_
          intro e w' hpost
          obtain ⟨rfl, kd2, rfl⟩ := hpost
          go_wp2_with fail
          go_roundw
          case rel => exact ⟨j + 1, by omega, by go_num, _, rfl⟩
          case measure => simp [intOf]; omega
        · have hb6 : Below w.heap.size w (w5.drewN q) := below_drewN hb5 q
          have hall : crcMoreR 0 ps.flatten = crcAll 0 ps := by rw [crcAll_eq, crcMore_eq]
          have HA := Lib.hid hall; clear hall
          have hcellm : w5.cell? ⟨gl, k, none⟩ = some (.slice (some ⟨wr.heap.size, 0, none⟩) 4 4) := by
            rw [World.ownsRow.cellAt O7.out k (by omega), List.getElem?_append_right (by have := HVL.out; omega), HVL.out, Nat.sub_self]; rfl
          go_wp2_with fail
          refine (refAll_any _ _ _ ps _ ((HR.out.keep hb5).drewN q) (by omega) HS.out).mono ?_
          rintro e w6 ⟨rfl, hb56⟩
          have hb7 : Below w.heap.size w w6 := hb6.trans (hb56.mono hb6.size)
          have hb8 : Below w5.heap.size w5 w6 := (below_drewN (Below.refl _ _) q).trans hb56
          have hlt6 : gl < w5.heap.size := (World.ownsRow.lt O7.out gl rfl).2
          rw [← hb8.cell (p := ⟨gl, k, none⟩) hlt6] at hcellm
          have hcv := conv_bytes _ (some ⟨wr.heap.size, 0, none⟩) 4 4 _ (K5.out.keep hb8)
          rw [HA.out]
          have hse : (strOf [109, 97, 114, 107]) = ⟨#[109, 97, 114, 107]⟩ := rfl
          rw [hse] at hcv
          clear hse hb8 hlt6 hb56
          have hk1 : k < k + 1 := by omega
          go_wp2_with fail
          go_ret
          exact ⟨rfl, hb7⟩
end Go.Proofs.YtnnlbnonffjjiaaDoor
