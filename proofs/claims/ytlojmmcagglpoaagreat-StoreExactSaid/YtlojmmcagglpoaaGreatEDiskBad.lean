/- THE WALKS of the disk's calls at a name that may not be (printed by a program of ours). -/
import Derived.Test.YtlojmmcagglpoaaGreatEDiskRead
import Derived.Test.YtlojmmcagglpoaaGreatEDiskStat
namespace Go.Proofs.YtlojmmcagglpoaaGreat
open Go.RowKit Go.Maps
/-- what a call gives that is refused for a name -/
def BadQ (v : Value) (W : World) (e : Ending) (w' : World) : Prop := e = .returned v ∧ Below W.heap.size W w'
set_option maxRecDepth 20000 in
theorem of_bad {W : World} (p : Nat) (nm : List UInt8) (hm : MayC nm false) : Calls Tryz.prog 98 #[.pointer (some ⟨p, 0, none⟩), .string (strB nm)] W (BadQ (.tuple #[.pointer none, .int .i64 140]) W) := by
  have HM := Lib.hid (hm W)
  clear hm
  go_enter Tryz.func98, Tryz.ntmps98
  go_wp2_with fail
  refine HM.out.mono ?_
  rintro e w1 ⟨rfl, hb⟩
  have HB := Lib.hid hb
  clear hb HM
  go_wp2_with fail
  go_ret2
  exact ⟨rfl, HB.out⟩
set_option maxRecDepth 20000 in
theorem create_bad {W : World} (p : Nat) (nm : List UInt8) (hm : MayC nm false) : Calls Tryz.prog 46 #[.pointer (some ⟨p, 0, none⟩), .string (strB nm)] W (BadQ (.int .i64 140) W) := by
  have HM := Lib.hid (hm W)
  clear hm
  go_enter Tryz.func46, Tryz.ntmps46
  go_wp2_with fail
  refine HM.out.mono ?_
  rintro e w1 ⟨rfl, hb⟩
  have HB := Lib.hid hb
  clear hb HM
  go_wp2_with fail
  go_ret
  exact ⟨rfl, HB.out⟩
set_option maxRecDepth 20000 in
theorem append_bad {W : World} (p : Nat) (nm : List UInt8) (hm : MayC nm false) (A : Option Addr) (n c : Nat) : Calls Tryz.prog 47 #[.pointer (some ⟨p, 0, none⟩), .string (strB nm), .slice A n c] W (BadQ (.int .i64 140) W) := by
  have OF := Lib.hid (of_bad (W := W) p nm hm)
  clear hm
  go_enter Tryz.func47, Tryz.ntmps47
  go_wp2_with fail
  refine OF.out.mono ?_
  rintro e w1 ⟨rfl, hb⟩
  have HB := Lib.hid hb
  clear hb OF
  go_wp2_with fail
  go_ret
  exact ⟨rfl, HB.out⟩
set_option maxRecDepth 20000 in
theorem cut_bad {W : World} (p : Nat) (nm : List UInt8) (hm : MayC nm false) : Calls Tryz.prog 53 #[.pointer (some ⟨p, 0, none⟩), .string (strB nm)] W (BadQ (.int .i64 140) W) := by
  have OF := Lib.hid (of_bad (W := W) p nm hm)
  clear hm
  go_enter Tryz.func53, Tryz.ntmps53
  go_wp2_with fail
  refine OF.out.mono ?_
  rintro e w1 ⟨rfl, hb⟩
  have HB := Lib.hid hb
  clear hb OF
  go_wp2_with fail
  go_ret
  exact ⟨rfl, HB.out⟩
set_option maxRecDepth 20000 in
theorem sync_bad {W : World} (p : Nat) (nm : List UInt8) (hm : MayC nm false) : Calls Tryz.prog 48 #[.pointer (some ⟨p, 0, none⟩), .string (strB nm)] W (BadQ (.int .i64 140) W) := by
  have OF := Lib.hid (of_bad (W := W) p nm hm)
  clear hm
  go_enter Tryz.func48, Tryz.ntmps48
  go_wp2_with fail
  refine OF.out.mono ?_
  rintro e w1 ⟨rfl, hb⟩
  have HB := Lib.hid hb
  clear hb OF
  go_wp2_with fail
  go_ret
  exact ⟨rfl, HB.out⟩
set_option maxRecDepth 20000 in
theorem remove_bad {W : World} (p : Nat) (nm : List UInt8) (hm : MayC nm false) : Calls Tryz.prog 54 #[.pointer (some ⟨p, 0, none⟩), .string (strB nm)] W (BadQ (.int .i64 140) W) := by
  have OF := Lib.hid (of_bad (W := W) p nm hm)
  clear hm
  go_enter Tryz.func54, Tryz.ntmps54
  go_wp2_with fail
  refine OF.out.mono ?_
  rintro e w1 ⟨rfl, hb⟩
  have HB := Lib.hid hb
  clear hb OF
  go_wp2_with fail
  go_ret
  exact ⟨rfl, HB.out⟩
set_option maxRecDepth 20000 in
theorem rename_bad {W : World} (p : Nat) (old other : List UInt8) (b b2 : Bool) (hm : MayC old b) (hm2 : MayC other b2) (hbb : (b && b2) = false) : Calls Tryz.prog 51 #[.pointer (some ⟨p, 0, none⟩), .string (strB old), .string (strB other)] W (BadQ (.int .i64 140) W) := by
  have HM := Lib.hid (hm W); have HM2 := Lib.hid hm2
  clear hm hm2
  go_enter Tryz.func51, Tryz.ntmps51
  go_wp2_with fail
  refine HM.out.mono ?_
  rintro e w1 ⟨rfl, hb⟩
  have HB := Lib.hid hb
  clear hb HM
  cases b with
  | false =>
    clear hbb
    go_wp2_with fail
    go_ret
    exact ⟨rfl, HB.out⟩
  | true =>
    obtain rfl : b2 = false := hbb
    go_wp2_with fail
    refine (HM2.out w1).mono ?_
    rintro e w2 ⟨rfl, hb2⟩
    have HB2 : Hid (Below W.heap.size W w2) := Lib.hid (HB.out.trans (hb2.mono HB.out.size))
    clear hb2 HM2
    go_wp2_with fail
    go_ret
    exact ⟨rfl, HB2.out⟩
set_option maxRecDepth 20000 in
set_option maxHeartbeats 1000000 in
theorem stat_bad {W : World} (p : Nat) (nm : List UInt8) (hm : MayC nm false) : Calls Tryz.prog 44 #[.pointer (some ⟨p, 0, none⟩), .string (strB nm)] W (BadQ (.tuple #[statV 0 0 0 0, .int .i64 140]) W) := by
  have OF := Lib.hid (fun W => of_bad (W := W) p nm hm)
  clear hm
  go_enter Tryz.func44, Tryz.ntmps44
  go_upto_region 1 with fail
  obtain ⟨r, hr⟩ : ∃ r, r = W.heap.size := ⟨_, rfl⟩
  obtain ⟨w1, hw1⟩ : ∃ w1, w1 = W.alloc (.cells #[.int .i64 0, .int .i64 0, .int .i64 0, .int .i64 0] 119) := ⟨_, rfl⟩
  have B1 := Lib.hid (show Below W.heap.size W w1 by rw [hw1]; exact (Below.refl _ _).alloc (Nat.le_refl _) _)
  have R1 := Lib.hid (show Blk w1 r 119 #[.int .i64 0, .int .i64 0, .int .i64 0, .int .i64 0] by rw [hw1]; exact Blk.new W 119 _ hr)
  rw [← hw1, ← hr]
  have HR := Lib.hid hr
  clear hw1 hr
  go_wp2_with fail
  refine (OF.out w1).mono ?_
  rintro e w2 ⟨rfl, hb2⟩
  have B2 := Lib.hid (B1.out.trans (hb2.mono B1.out.size))
  have R2 := Lib.hid (R1.out.keep hb2)
  clear hb2
  have r0 : w2.cell? ⟨r, 0, none⟩ = some (.int .i64 0) := (R2.out.cell 0).trans rfl
  have r1 : w2.cell? ⟨r, 1, none⟩ = some (.int .i64 0) := (R2.out.cell 1).trans rfl
  have r2 : w2.cell? ⟨r, 2, none⟩ = some (.int .i64 0) := (R2.out.cell 2).trans rfl
  have r3 : w2.cell? ⟨r, 3, none⟩ = some (.int .i64 0) := (R2.out.cell 3).trans rfl
  have f0 : w2.frozen? ⟨r, 0, none⟩ = false := R2.out.frozen 0
  have f1 : w2.frozen? ⟨r, 1, none⟩ = false := R2.out.frozen 1
  have f2 : w2.frozen? ⟨r, 2, none⟩ = false := R2.out.frozen 2
  have f3 : w2.frozen? ⟨r, 3, none⟩ = false := R2.out.frozen 3
  go_wp2_with fail
  have hB := ((((R2.out.set_ 0 (.int .i64 0)).set_ 1 (.int .i64 0)).set_ 2 (.int .i64 0)).set_ 3 (.int .i64 0))
  have hC : Below W.heap.size W ((((w2.setCell ⟨r, 0, none⟩ (.int .i64 0)).setCell ⟨r, 1, none⟩ (.int .i64 0)).setCell ⟨r, 2, none⟩ (.int .i64 0)).setCell ⟨r, 3, none⟩ (.int .i64 0)) := by
    have hr := HR.out
    exact (((B2.out.setCell (by show W.heap.size ≤ r; omega) _).setCell (by show W.heap.size ≤ r; omega) _).setCell (by show W.heap.size ≤ r; omega) _).setCell (by show W.heap.size ≤ r; omega) _
  refine bodyPost_ret (v := .tuple #[statV 0 0 0 0, .int .i64 140]) (ret_stat rfl rfl rfl hB rfl) rfl ?_
  exact ⟨rfl, hC⟩
end Go.Proofs.YtlojmmcagglpoaaGreat
