/- THE WALK of the disk's Stat. -/
import Derived.Test.YthhbfjhgmdnpbabDiskInode
namespace Go.Proofs.Ythhbfjhgmdnpbab
open Go.RowKit Go.Maps
def StatQ (W : World) (d : Dk) (nm : List UInt8) (e : Ending) (w' : World) : Prop :=
  Below W.heap.size W w' ∧ ((d.ns nm = none ∧ e = .returned (.tuple #[statV 0 0 0 0, .int .i64 141])) ∨ ∃ i x, d.ns nm = some i ∧ d.fs i = some x ∧ e = .returned (.tuple #[statV i ((d.se nm).getD 0) (x.ge : Int) (x.by_.length : Int), .int .i64 0]))
set_option maxRecDepth 20000 in
set_option maxHeartbeats 1000000 in
theorem stat_any {W : World} {N p q qq : Nat} {d : Dk} {bf bn bs : Nat} {fl : Int → Option Nat} (h : DW W N p q d bf bn bs fl) (hd : d.Ok qq) (nm : List UInt8) (hl : okName nm) (hm : MayC nm true) :
    Calls Try.prog 16 #[.pointer (some ⟨p, 0, none⟩), .string (strB nm)] W (StatQ W d nm) := by
  have H := Lib.hid h; have HD := Lib.hid hd; have HM := Lib.hid hm
  clear h hd hm
  go_enter Try.func16, Try.ntmps16
  go_upto_region 1 with fail
  obtain ⟨r, hr⟩ : ∃ r, r = W.heap.size := ⟨_, rfl⟩
  obtain ⟨w1, hw1⟩ : ∃ w1, w1 = W.alloc (.cells #[.int .i64 0, .int .i64 0, .int .i64 0, .int .i64 0] 39) := ⟨_, rfl⟩
  have B1 := Lib.hid (show Below W.heap.size W w1 by rw [hw1]; exact (Below.refl _ _).alloc (Nat.le_refl _) _)
  have R1 := Lib.hid (show Blk w1 r 39 #[.int .i64 0, .int .i64 0, .int .i64 0, .int .i64 0] by rw [hw1]; exact Blk.new W 39 _ hr)
  rw [← hw1, ← hr]
  have H1 := Lib.hid (H.out.keep B1.out)
  have HR := Lib.hid hr
  clear hw1 hr
  go_wp2_with fail
  refine (of_any H1.out HD.out.okInt nm hl HM.out).mono ?_
  rintro e w2 ⟨hb2, hq⟩
  have B2 := Lib.hid (show Below W.heap.size W w2 from ⟨hb2.os.trans B1.out.os, hb2.tape.trans B1.out.tape, hb2.output.trans B1.out.output, Nat.le_trans B1.out.size hb2.size, fun k hk => (hb2.block k (Nat.lt_of_lt_of_le hk B1.out.size)).trans (B1.out.block k hk)⟩)
  have R2 := Lib.hid (R1.out.keep hb2)
  have H2 := Lib.hid (H1.out.keep hb2)
  clear hb2
  rcases hq with ⟨h1, rfl⟩ | ⟨i, h1, rfl⟩
  · have HN := Lib.hid h1
    clear h1
    have r0 : w2.cell? ⟨r, 0, none⟩ = some (.int .i64 0) := (R2.out.cell 0).trans rfl
    have r1 : w2.cell? ⟨r, 1, none⟩ = some (.int .i64 0) := (R2.out.cell 1).trans rfl
    have r2 : w2.cell? ⟨r, 2, none⟩ = some (.int .i64 0) := (R2.out.cell 2).trans rfl
    have r3 : w2.cell? ⟨r, 3, none⟩ = some (.int .i64 0) := (R2.out.cell 3).trans rfl
    have f0 : w2.frozen? ⟨r, 0, none⟩ = false := R2.out.frozen 0
    have f1 : w2.frozen? ⟨r, 1, none⟩ = false := R2.out.frozen 1
    have f2 : w2.frozen? ⟨r, 2, none⟩ = false := R2.out.frozen 2
    have f3 : w2.frozen? ⟨r, 3, none⟩ = false := R2.out.frozen 3
    go_wp2_with fail
    have hB := ((((R2.out.set_ 0 (.int .i64 0)).set_ 1 (.int .i64 0)).set_ 2 (.int .i64 0)).set_ 3 (.int .i64 0))
    have hC : Below W.heap.size W ((((w2.setCell ⟨r, 0, none⟩ (.int .i64 0)).setCell ⟨r, 1, none⟩ (.int .i64 0)).setCell ⟨r, 2, none⟩ (.int .i64 0)).setCell ⟨r, 3, none⟩ (.int .i64 0)) := by
      have hr := HR.out
      exact (((B2.out.setCell (by show W.heap.size ≤ r; omega) _).setCell (by show W.heap.size ≤ r; omega) _).setCell (by show W.heap.size ≤ r; omega) _).setCell (by show W.heap.size ≤ r; omega) _
    refine bodyPost_ret (v := .tuple #[statV 0 0 0 0, .int .i64 141]) (ret_stat rfl rfl rfl hB rfl) rfl ?_
    exact ⟨hC, .inl ⟨HN.out, rfl⟩⟩
  · obtain ⟨x, hx, hxn⟩ := HD.out.at_ nm i h1
    obtain ⟨g, hg⟩ : ∃ g, fl i = some g := by
      have := H.out.hf i
      rw [hx] at this
      exact Option.isSome_iff_exists.1 this
    rw [hg]
    unfold lookV pV
    have hi := HD.out.okInt nm i h1
    have HN := Lib.hid h1; have HX := Lib.hid hx; have HXN := Lib.hid hxn
    have c1 : w2.cell? ⟨p, 1, none⟩ = some (.map (some bn)) := (H2.out.bd.cell 1).trans rfl
    have l1 := H2.out.mn.look mrNames strK Try.underlying54 (zero_int w2) hl
    rw [h1] at l1
    unfold lookV iV' sV at l1
    clear h1 hx hxn hg
    go_wp2_with fail
    refine (inode_any H2.out HD.out i hi (fun y hy => by
      rw [HX.out] at hy
      obtain rfl := Option.some.inj hy
      rw [HXN.out]; exact hl)).mono ?_
    rintro e w3 ⟨hb3, hq⟩
    have B3 := Lib.hid (show Below W.heap.size W w3 from ⟨hb3.os.trans B2.out.os, hb3.tape.trans B2.out.tape, hb3.output.trans B2.out.output, Nat.le_trans B2.out.size hb3.size, fun k hk => (hb3.block k (Nat.lt_of_lt_of_le hk B2.out.size)).trans (B2.out.block k hk)⟩)
    have R3 := Lib.hid (R2.out.keep hb3)
    clear hb3
    rcases hq with ⟨h5, _⟩ | ⟨y, h5, rfl⟩
    · rw [HX.out] at h5; cases h5
    rw [HX.out] at h5
    obtain rfl := Option.some.inj h5
    rw [HXN.out]
    clear h5
    obtain ⟨sv, hsv⟩ : ∃ sv : Int, sv = (d.se nm).getD 0 := ⟨_, rfl⟩
    rw [← hsv]
    unfold statV
    have r0 : w3.cell? ⟨r, 0, none⟩ = some (.int .i64 0) := (R3.out.cell 0).trans rfl
    have r1 : w3.cell? ⟨r, 1, none⟩ = some (.int .i64 0) := (R3.out.cell 1).trans rfl
    have r2 : w3.cell? ⟨r, 2, none⟩ = some (.int .i64 0) := (R3.out.cell 2).trans rfl
    have r3 : w3.cell? ⟨r, 3, none⟩ = some (.int .i64 0) := (R3.out.cell 3).trans rfl
    have f0 : w3.frozen? ⟨r, 0, none⟩ = false := R3.out.frozen 0
    have f1 : w3.frozen? ⟨r, 1, none⟩ = false := R3.out.frozen 1
    have f2 : w3.frozen? ⟨r, 2, none⟩ = false := R3.out.frozen 2
    have f3 : w3.frozen? ⟨r, 3, none⟩ = false := R3.out.frozen 3
    have HSV := Lib.hid hsv
    clear hsv
    go_wp2_with fail
    have hB := ((((R3.out.set_ 0 (.int .i64 i)).set_ 1 (.int .i64 sv)).set_ 2 (.int .i64 (x.ge : Int))).set_ 3 (.int .i64 (x.by_.length : Int)))
    have hC : Below W.heap.size W ((((w3.setCell ⟨r, 0, none⟩ (.int .i64 i)).setCell ⟨r, 1, none⟩ (.int .i64 sv)).setCell ⟨r, 2, none⟩ (.int .i64 (x.ge : Int))).setCell ⟨r, 3, none⟩ (.int .i64 (x.by_.length : Int))) := by
      have hr := HR.out
      exact (((B3.out.setCell (by show W.heap.size ≤ r; omega) _).setCell (by show W.heap.size ≤ r; omega) _).setCell (by show W.heap.size ≤ r; omega) _).setCell (by show W.heap.size ≤ r; omega) _
    refine bodyPost_ret (v := .tuple #[statV i sv (x.ge : Int) (x.by_.length : Int), .int .i64 0]) (ret_stat rfl rfl rfl hB rfl) rfl ?_
    exact ⟨hC, .inr ⟨i, x, HN.out, HX.out, by rw [HSV.out]⟩⟩
end Go.Proofs.Ythhbfjhgmdnpbab
