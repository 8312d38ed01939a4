/- A disk whose blocks bear one colour: the frame of great states. -/
import Derived.Test.YtlojmmcagglpoaaGreatUTk
import Derived.Test.YtlojmmcagglpoaaGreatUBase
import Derived.Test.YtlojmmcagglpoaaGreatUDiskAppend
import Derived.Test.YtlojmmcagglpoaaGreatUDiskKeep
import Derived.Test.YtlojmmcagglpoaaGreatUDiskRead
import Derived.Test.YtlojmmcagglpoaaGreatUFrame
import Derived.BigRegion
import Derived.Laws.ResultCell
import Derived.Deep.RegionHeld
import Derived.Deep.DrawnRows
import Derived.Test.YtlojmmcagglpoaaGreatRows
import Derived.WalkKit
import Derived.WalkMore
import Derived.WalkSpells
import Derived.OwnWalk
import Derived.Lib.Hide
import Derived.Lib.Strings
import Derived.Lib.Slices
import Derived.Lib.Walk
import Derived.Lib.Bytealg
import Derived.Lib.IndexAny
import Derived.Lib.OthersKept
import Derived.Laws.RangeString
import Derived.Laws.Strings3
import Derived.Laws.Cover4
import Derived.Deep.LoopGhost
import Derived.RegionTactic
import Derived.BigQuiet
import Derived.Deep.QuietTactic
import Derived.Deep.MidRow
import Derived.Lib.AsciiSet
import Derived.Lib.IndexBytes
import Derived.Deep.WholeRow
import Derived.Deep.DeepMust
namespace Go.Proofs.YtlojmmcagglpoaaGreat
open Go.RowKit Go.Maps
def statV (i s g n : Int) : Value := .agg #[.int .i64 i, .int .i64 s, .int .i64 g, .int .i64 n]
def InoQ (W : World) (d : Dk) (i : Int) (e : Ending) (w' : World) : Prop :=
  Below W.heap.size W w' ∧ ((d.fs i = none ∧ e = .returned (.tuple #[statV 0 0 0 0, .int .i64 143])) ∨ ∃ x, d.fs i = some x ∧ e = .returned (.tuple #[statV i ((d.se x.nm).getD 0) (x.ge : Int) (x.by_.length : Int), .int .i64 0]))
theorem ret_stat {w : World} {b : Nat} {dc : Array Value} {u : Tmp} {p : Tmp} {k : Int} {fn : Func} {tmps : Array Value} (hf : fn.results = #[.cell p 119, .tmp u]) (hp : tmps.getD p undef = .pointer (some ⟨b, 0, none⟩)) (hu : tmps.getD u undef = .int .i64 k) (h : Blk w b 119 dc) (hs : dc.size = 4) :
    (results fn tmps).run Tryz.prog w = .ok (.tuple #[.agg dc, .int .i64 k]) w := by
  have h4 : (Tryz.prog.info? 119).map (·.size) = some 4 := by kernel_rfl
  rw [results_cell_tmp hf, hp, hu]
  simp only [asAddr, Sem.run_pure, Result.andThen, run_loadVar_row w b 119 119 dc (0, 0) _ h Tryz.underlying119 rfl (by rw [h4, hs])]
set_option maxRecDepth 20000 in
set_option maxHeartbeats 1000000 in
theorem inode_any {W : World} {N p q qq : Nat} {d : Dk} {bf bn bs : Nat} {fl : Int → Option Nat} (h : DW W N p q d bf bn bs fl) (hd : d.Ok qq) (i : Int) (hi : okInt i) (hl : ∀ x, d.fs i = some x → okName x.nm) :
    Calls Tryz.prog 52 #[.pointer (some ⟨p, 0, none⟩), .int .i64 i] W (InoQ W d i) := by
  have H := Lib.hid h; have HD := Lib.hid hd; have HL := Lib.hid hl
  clear h hd hl
  go_enter Tryz.func52, Tryz.ntmps52
  go_upto_region 1 with fail
  obtain ⟨r, hr⟩ : ∃ r, r = W.heap.size := ⟨_, rfl⟩
  obtain ⟨w1, hw1⟩ : ∃ w1, w1 = W.alloc (.cells #[.int .i64 0, .int .i64 0, .int .i64 0, .int .i64 0] 119) := ⟨_, rfl⟩
  have B1 := Lib.hid (show Below W.heap.size W w1 by rw [hw1]; exact (Below.refl _ _).alloc (Nat.le_refl _) _)
  have R1 := Lib.hid (show Blk w1 r 119 #[.int .i64 0, .int .i64 0, .int .i64 0, .int .i64 0] by rw [hw1]; exact Blk.new W 119 _ hr)
  rw [← hw1, ← hr]
  have H1 := Lib.hid (H.out.keep B1.out)
  have c0 : w1.cell? ⟨p, 0, none⟩ = some (.map (some bf)) := (H1.out.bd.cell 0).trans rfl
  have l0 := H1.out.mf.look_ok mrFiles intK Tryz.underlying129 (zero_fptr w1) hi
  unfold iV' at l0
  have r0 : w1.cell? ⟨r, 0, none⟩ = some (.int .i64 0) := (R1.out.cell 0).trans rfl
  have r1 : w1.cell? ⟨r, 1, none⟩ = some (.int .i64 0) := (R1.out.cell 1).trans rfl
  have r2 : w1.cell? ⟨r, 2, none⟩ = some (.int .i64 0) := (R1.out.cell 2).trans rfl
  have r3 : w1.cell? ⟨r, 3, none⟩ = some (.int .i64 0) := (R1.out.cell 3).trans rfl
  have f0 : w1.frozen? ⟨r, 0, none⟩ = false := R1.out.frozen 0
  have f1 : w1.frozen? ⟨r, 1, none⟩ = false := R1.out.frozen 1
  have f2 : w1.frozen? ⟨r, 2, none⟩ = false := R1.out.frozen 2
  have f3 : w1.frozen? ⟨r, 3, none⟩ = false := R1.out.frozen 3
  have HW1 := Lib.hid hw1; have HR := Lib.hid hr
  clear hw1 hr
  cases hx : d.fs i with
  | none =>
    have hg : fl i = none := by
      have := H.out.hf i
      rw [hx] at this
      exact Option.isNone_iff_eq_none.1 (by simpa using this)
    rw [hg] at l0
    unfold lookV at l0
    have HX := Lib.hid hx
    clear hx hg
    go_wp2_with fail
    have hB := ((((R1.out.set_ 0 (.int .i64 0)).set_ 1 (.int .i64 0)).set_ 2 (.int .i64 0)).set_ 3 (.int .i64 0))
    have hC : Below W.heap.size W ((((w1.setCell ⟨r, 0, none⟩ (.int .i64 0)).setCell ⟨r, 1, none⟩ (.int .i64 0)).setCell ⟨r, 2, none⟩ (.int .i64 0)).setCell ⟨r, 3, none⟩ (.int .i64 0)) := by
      have hr := HR.out
      exact (((B1.out.setCell (by show W.heap.size ≤ r; omega) _).setCell (by show W.heap.size ≤ r; omega) _).setCell (by show W.heap.size ≤ r; omega) _).setCell (by show W.heap.size ≤ r; omega) _
    refine bodyPost_ret (v := .tuple #[statV 0 0 0 0, .int .i64 143]) (ret_stat rfl rfl rfl hB rfl) rfl ?_
    exact ⟨hC, .inl ⟨HX.out, rfl⟩⟩
  | some x =>
    obtain ⟨g, hg⟩ : ∃ g, fl i = some g := by
      have := H.out.hf i
      rw [hx] at this
      exact Option.isSome_iff_exists.1 this
    rw [hg] at l0
    unfold lookV pV at l0
    obtain ⟨hNg, v, hbk, ho⟩ := H1.out.fw i g x hg hx
    obtain ⟨Av, cv, rfl, hcap, hcap2, _⟩ := OB.form ho
    have c2 : w1.cell? ⟨p, 2, none⟩ = some (.map (some bs)) := (H1.out.bd.cell 2).trans rfl
    have l3 := (FM.block (w' := w1.drew) H1.out.ms rfl).look mrNames strK Tryz.underlying130 (zero_int w1.drew) (HL.out x hx)
    have e3 : lookV iV' (.int .i64 0) (d.se x.nm) = .int .i64 ((d.se x.nm).getD 0) := by
      cases d.se x.nm <;> rfl
    rw [e3] at l3
    unfold sV at l3
    obtain ⟨sv, hsv⟩ : ∃ sv : Int, sv = (d.se x.nm).getD 0 := ⟨_, rfl⟩
    rw [← hsv] at l3
    have g0 : w1.cell? ⟨g, 0, none⟩ = some (.string (strB x.nm)) := (hbk.cell 0).trans rfl
    have g1 : w1.cell? ⟨g, 1, none⟩ = some (.slice Av x.by_.length cv) := (hbk.cell 1).trans rfl
    have g3 : w1.cell? ⟨g, 3, none⟩ = some (.int .i64 (x.ge : Int)) := (hbk.cell 3).trans rfl
    have HX := Lib.hid hx; have HSV := Lib.hid hsv
    clear hx hg hsv hbk ho e3
    go_upto_region 4 with fail
    have RD : Blk w1.drew r 119 #[.int .i64 0, .int .i64 0, .int .i64 0, .int .i64 0] := R1.out
    have BD : Below W.heap.size W w1.drew := B1.out.trans ⟨rfl, rfl, rfl, Nat.le_refl _, fun _ _ => rfl⟩
    have hB := ((((RD.set_ 0 (.int .i64 i)).set_ 1 (.int .i64 sv)).set_ 2 (.int .i64 (x.ge : Int))).set_ 3 (.int .i64 (x.by_.length : Int)))
    have hC : Below W.heap.size W ((((w1.drew.setCell ⟨r, 0, none⟩ (.int .i64 i)).setCell ⟨r, 1, none⟩ (.int .i64 sv)).setCell ⟨r, 2, none⟩ (.int .i64 (x.ge : Int))).setCell ⟨r, 3, none⟩ (.int .i64 (x.by_.length : Int))) := by
      have hr := HR.out
      exact (((BD.setCell (by show W.heap.size ≤ r; omega) _).setCell (by show W.heap.size ≤ r; omega) _).setCell (by show W.heap.size ≤ r; omega) _).setCell (by show W.heap.size ≤ r; omega) _
    have HBK := Lib.hid hB; have HC := Lib.hid hC
    clear hB hC RD BD
    go_region
    go_wp2_with fail
    refine bodyPost_ret (v := .tuple #[statV i sv (x.ge : Int) (x.by_.length : Int), .int .i64 0]) (ret_stat rfl rfl rfl HBK.out rfl) rfl ?_
    exact ⟨HC.out, .inr ⟨x, HX.out, by rw [HSV.out]⟩⟩
end Go.Proofs.YtlojmmcagglpoaaGreat
namespace Go.Proofs.YtlojmmcagglpoaaGreat
open Go.RowKit Go.Maps
def StatQ (W : World) (d : Dk) (nm : List UInt8) (e : Ending) (w' : World) : Prop :=
  Below W.heap.size W w' ∧ ((d.ns nm = none ∧ e = .returned (.tuple #[statV 0 0 0 0, .int .i64 141])) ∨ ∃ i x, d.ns nm = some i ∧ d.fs i = some x ∧ e = .returned (.tuple #[statV i ((d.se nm).getD 0) (x.ge : Int) (x.by_.length : Int), .int .i64 0]))
set_option maxRecDepth 20000 in
set_option maxHeartbeats 1000000 in
theorem stat_any {W : World} {N p q qq : Nat} {d : Dk} {bf bn bs : Nat} {fl : Int → Option Nat} (h : DW W N p q d bf bn bs fl) (hd : d.Ok qq) (nm : List UInt8) (hl : okName nm) (hm : MayC nm true) :
    Calls Tryz.prog 44 #[.pointer (some ⟨p, 0, none⟩), .string (strB nm)] W (StatQ W d nm) := by
  have H := Lib.hid h; have HD := Lib.hid hd; have HM := Lib.hid hm
  clear h hd hm
  go_enter Tryz.func44, Tryz.ntmps44
  go_upto_region 1 with fail
  obtain ⟨r, hr⟩ : ∃ r, r = W.heap.size := ⟨_, rfl⟩
  obtain ⟨w1, hw1⟩ : ∃ w1, w1 = W.alloc (.cells #[.int .i64 0, .int .i64 0, .int .i64 0, .int .i64 0] 119) := ⟨_, rfl⟩
  have B1 := Lib.hid (show Below W.heap.size W w1 by rw [hw1]; exact (Below.refl _ _).alloc (Nat.le_refl _) _)
  have R1 := Lib.hid (show Blk w1 r 119 #[.int .i64 0, .int .i64 0, .int .i64 0, .int .i64 0] by rw [hw1]; exact Blk.new W 119 _ hr)
  rw [← hw1, ← hr]
  have H1 := Lib.hid (H.out.keep B1.out)
  have HR := Lib.hid hr
  clear hw1 hr
  go_wp2_with fail
  refine (of_any H1.out HD.out.okInt nm hl HM.out).mono ?_
  rintro e w2 ⟨hb2, hq⟩
  have B2 := Lib.hid (show Below W.heap.size W w2 from ⟨hb2.os.trans B1.out.os, hb2.tape.trans B1.out.tape, hb2.output.trans B1.out.output, Nat.le_trans B1.out.size hb2.size, fun k hk => (hb2.block k (Nat.lt_of_lt_of_le hk B1.out.size)).trans (B1.out.block k hk)⟩)
  have R2 := Lib.hid (R1.out.keep hb2)
  have H2 := Lib.hid (H1.out.keep hb2)
  clear hb2
  rcases hq with ⟨h1, rfl⟩ | ⟨i, h1, rfl⟩
  · have HN := Lib.hid h1
    clear h1
    have r0 : w2.cell? ⟨r, 0, none⟩ = some (.int .i64 0) := (R2.out.cell 0).trans rfl
    have r1 : w2.cell? ⟨r, 1, none⟩ = some (.int .i64 0) := (R2.out.cell 1).trans rfl
    have r2 : w2.cell? ⟨r, 2, none⟩ = some (.int .i64 0) := (R2.out.cell 2).trans rfl
    have r3 : w2.cell? ⟨r, 3, none⟩ = some (.int .i64 0) := (R2.out.cell 3).trans rfl
    have f0 : w2.frozen? ⟨r, 0, none⟩ = false := R2.out.frozen 0
    have f1 : w2.frozen? ⟨r, 1, none⟩ = false := R2.out.frozen 1
    have f2 : w2.frozen? ⟨r, 2, none⟩ = false := R2.out.frozen 2
    have f3 : w2.frozen? ⟨r, 3, none⟩ = false := R2.out.frozen 3
    go_wp2_with fail
    have hB := ((((R2.out.set_ 0 (.int .i64 0)).set_ 1 (.int .i64 0)).set_ 2 (.int .i64 0)).set_ 3 (.int .i64 0))
    have hC : Below W.heap.size W ((((w2.setCell ⟨r, 0, none⟩ (.int .i64 0)).setCell ⟨r, 1, none⟩ (.int .i64 0)).setCell ⟨r, 2, none⟩ (.int .i64 0)).setCell ⟨r, 3, none⟩ (.int .i64 0)) := by
      have hr := HR.out
      exact (((B2.out.setCell (by show W.heap.size ≤ r; omega) _).setCell (by show W.heap.size ≤ r; omega) _).setCell (by show W.heap.size ≤ r; omega) _).setCell (by show W.heap.size ≤ r; omega) _
    refine bodyPost_ret (v := .tuple #[statV 0 0 0 0, .int .i64 141]) (ret_stat rfl rfl rfl hB rfl) rfl ?_
    exact ⟨hC, .inl ⟨HN.out, rfl⟩⟩
  · obtain ⟨x, hx, hxn⟩ := HD.out.at_ nm i h1
    obtain ⟨g, hg⟩ : ∃ g, fl i = some g := by
      have := H.out.hf i
      rw [hx] at this
      exact Option.isSome_iff_exists.1 this
    rw [hg]
    unfold lookV pV
    have hi := HD.out.okInt nm i h1
    have HN := Lib.hid h1; have HX := Lib.hid hx; have HXN := Lib.hid hxn
    have c1 : w2.cell? ⟨p, 1, none⟩ = some (.map (some bn)) := (H2.out.bd.cell 1).trans rfl
    have l1 := H2.out.mn.look mrNames strK Tryz.underlying130 (zero_int w2) hl
    rw [h1] at l1
    unfold lookV iV' sV at l1
    clear h1 hx hxn hg
    go_wp2_with fail
    refine (inode_any H2.out HD.out i hi (fun y hy => by
      rw [HX.out] at hy
      obtain rfl := Option.some.inj hy
      rw [HXN.out]; exact hl)).mono ?_
    rintro e w3 ⟨hb3, hq⟩
    have B3 := Lib.hid (show Below W.heap.size W w3 from ⟨hb3.os.trans B2.out.os, hb3.tape.trans B2.out.tape, hb3.output.trans B2.out.output, Nat.le_trans B2.out.size hb3.size, fun k hk => (hb3.block k (Nat.lt_of_lt_of_le hk B2.out.size)).trans (B2.out.block k hk)⟩)
    have R3 := Lib.hid (R2.out.keep hb3)
    clear hb3
    rcases hq with ⟨h5, _⟩ | ⟨y, h5, rfl⟩
    · rw [HX.out] at h5; cases h5
    rw [HX.out] at h5
    obtain rfl := Option.some.inj h5
    rw [HXN.out]
    clear h5
    obtain ⟨sv, hsv⟩ : ∃ sv : Int, sv = (d.se nm).getD 0 := ⟨_, rfl⟩
    rw [← hsv]
    unfold statV
    have r0 : w3.cell? ⟨r, 0, none⟩ = some (.int .i64 0) := (R3.out.cell 0).trans rfl
    have r1 : w3.cell? ⟨r, 1, none⟩ = some (.int .i64 0) := (R3.out.cell 1).trans rfl
    have r2 : w3.cell? ⟨r, 2, none⟩ = some (.int .i64 0) := (R3.out.cell 2).trans rfl
    have r3 : w3.cell? ⟨r, 3, none⟩ = some (.int .i64 0) := (R3.out.cell 3).trans rfl
    have f0 : w3.frozen? ⟨r, 0, none⟩ = false := R3.out.frozen 0
    have f1 : w3.frozen? ⟨r, 1, none⟩ = false := R3.out.frozen 1
    have f2 : w3.frozen? ⟨r, 2, none⟩ = false := R3.out.frozen 2
    have f3 : w3.frozen? ⟨r, 3, none⟩ = false := R3.out.frozen 3
    have HSV := Lib.hid hsv
    clear hsv
    go_wp2_with fail
    have hB := ((((R3.out.set_ 0 (.int .i64 i)).set_ 1 (.int .i64 sv)).set_ 2 (.int .i64 (x.ge : Int))).set_ 3 (.int .i64 (x.by_.length : Int)))
    have hC : Below W.heap.size W ((((w3.setCell ⟨r, 0, none⟩ (.int .i64 i)).setCell ⟨r, 1, none⟩ (.int .i64 sv)).setCell ⟨r, 2, none⟩ (.int .i64 (x.ge : Int))).setCell ⟨r, 3, none⟩ (.int .i64 (x.by_.length : Int))) := by
      have hr := HR.out
      exact (((B3.out.setCell (by show W.heap.size ≤ r; omega) _).setCell (by show W.heap.size ≤ r; omega) _).setCell (by show W.heap.size ≤ r; omega) _).setCell (by show W.heap.size ≤ r; omega) _
    refine bodyPost_ret (v := .tuple #[statV i sv (x.ge : Int) (x.by_.length : Int), .int .i64 0]) (ret_stat rfl rfl rfl hB rfl) rfl ?_
    exact ⟨hC, .inr ⟨i, x, HN.out, HX.out, by rw [HSV.out]⟩⟩
end Go.Proofs.YtlojmmcagglpoaaGreat
namespace Go.Proofs.YtlojmmcagglpoaaGreat
open Go.RowKit Go.Maps
def BadQ (v : Value) (W : World) (e : Ending) (w' : World) : Prop := e = .returned v ∧ Below W.heap.size W w'
set_option maxRecDepth 20000 in
theorem of_bad {W : World} (p : Nat) (nm : List UInt8) (hm : MayC nm false) : Calls Tryz.prog 98 #[.pointer (some ⟨p, 0, none⟩), .string (strB nm)] W (BadQ (.tuple #[.pointer none, .int .i64 140]) W) := by
  have HM := Lib.hid (hm W)
  clear hm
  go_enter Tryz.func98, Tryz.ntmps98
  go_wp2_with fail
  refine HM.out.mono ?_
  rintro e w1 ⟨rfl, hb⟩
  have HB := Lib.hid hb
  clear hb HM
  go_wp2_with fail
  go_ret2
  exact ⟨rfl, HB.out⟩
set_option maxRecDepth 20000 in
theorem create_bad {W : World} (p : Nat) (nm : List UInt8) (hm : MayC nm false) : Calls Tryz.prog 46 #[.pointer (some ⟨p, 0, none⟩), .string (strB nm)] W (BadQ (.int .i64 140) W) := by
  have HM := Lib.hid (hm W)
  clear hm
  go_enter Tryz.func46, Tryz.ntmps46
  go_wp2_with fail
  refine HM.out.mono ?_
  rintro e w1 ⟨rfl, hb⟩
  have HB := Lib.hid hb
  clear hb HM
  go_wp2_with fail
  go_ret
  exact ⟨rfl, HB.out⟩
set_option maxRecDepth 20000 in
theorem append_bad {W : World} (p : Nat) (nm : List UInt8) (hm : MayC nm false) (A : Option Addr) (n c : Nat) : Calls Tryz.prog 47 #[.pointer (some ⟨p, 0, none⟩), .string (strB nm), .slice A n c] W (BadQ (.int .i64 140) W) := by
  have OF := Lib.hid (of_bad (W := W) p nm hm)
  clear hm
  go_enter Tryz.func47, Tryz.ntmps47
  go_wp2_with fail
  refine OF.out.mono ?_
  rintro e w1 ⟨rfl, hb⟩
  have HB := Lib.hid hb
  clear hb OF
  go_wp2_with fail
  go_ret
  exact ⟨rfl, HB.out⟩
set_option maxRecDepth 20000 in
theorem cut_bad {W : World} (p : Nat) (nm : List UInt8) (hm : MayC nm false) : Calls Tryz.prog 53 #[.pointer (some ⟨p, 0, none⟩), .string (strB nm)] W (BadQ (.int .i64 140) W) := by
  have OF := Lib.hid (of_bad (W := W) p nm hm)
  clear hm
  go_enter Tryz.func53, Tryz.ntmps53
  go_wp2_with fail
  refine OF.out.mono ?_
  rintro e w1 ⟨rfl, hb⟩
  have HB := Lib.hid hb
  clear hb OF
  go_wp2_with fail
  go_ret
  exact ⟨rfl, HB.out⟩
set_option maxRecDepth 20000 in
theorem sync_bad {W : World} (p : Nat) (nm : List UInt8) (hm : MayC nm false) : Calls Tryz.prog 48 #[.pointer (some ⟨p, 0, none⟩), .string (strB nm)] W (BadQ (.int .i64 140) W) := by
  have OF := Lib.hid (of_bad (W := W) p nm hm)
  clear hm
  go_enter Tryz.func48, Tryz.ntmps48
  go_wp2_with fail
  refine OF.out.mono ?_
  rintro e w1 ⟨rfl, hb⟩
  have HB := Lib.hid hb
  clear hb OF
  go_wp2_with fail
  go_ret
  exact ⟨rfl, HB.out⟩
set_option maxRecDepth 20000 in
theorem remove_bad {W : World} (p : Nat) (nm : List UInt8) (hm : MayC nm false) : Calls Tryz.prog 54 #[.pointer (some ⟨p, 0, none⟩), .string (strB nm)] W (BadQ (.int .i64 140) W) := by
  have OF := Lib.hid (of_bad (W := W) p nm hm)
  clear hm
  go_enter Tryz.func54, Tryz.ntmps54
  go_wp2_with fail
  refine OF.out.mono ?_
  rintro e w1 ⟨rfl, hb⟩
  have HB := Lib.hid hb
  clear hb OF
  go_wp2_with fail
  go_ret
  exact ⟨rfl, HB.out⟩
set_option maxRecDepth 20000 in
theorem rename_bad {W : World} (p : Nat) (old other : List UInt8) (b b2 : Bool) (hm : MayC old b) (hm2 : MayC other b2) (hbb : (b && b2) = false) : Calls Tryz.prog 51 #[.pointer (some ⟨p, 0, none⟩), .string (strB old), .string (strB other)] W (BadQ (.int .i64 140) W) := by
  have HM := Lib.hid (hm W); have HM2 := Lib.hid hm2
  clear hm hm2
  go_enter Tryz.func51, Tryz.ntmps51
  go_wp2_with fail
  refine HM.out.mono ?_
  rintro e w1 ⟨rfl, hb⟩
  have HB := Lib.hid hb
  clear hb HM
  cases b with
  | false =>
    clear hbb
    go_wp2_with fail
    go_ret
    exact ⟨rfl, HB.out⟩
  | true =>
    obtain rfl : b2 = false := hbb
    go_wp2_with fail
    refine (HM2.out w1).mono ?_
    rintro e w2 ⟨rfl, hb2⟩
    have HB2 : Hid (Below W.heap.size W w2) := Lib.hid (HB.out.trans (hb2.mono HB.out.size))
    clear hb2 HM2
    go_wp2_with fail
    go_ret
    exact ⟨rfl, HB2.out⟩
set_option maxRecDepth 20000 in
set_option maxHeartbeats 1000000 in
theorem stat_bad {W : World} (p : Nat) (nm : List UInt8) (hm : MayC nm false) : Calls Tryz.prog 44 #[.pointer (some ⟨p, 0, none⟩), .string (strB nm)] W (BadQ (.tuple #[statV 0 0 0 0, .int .i64 140]) W) := by
  have OF := Lib.hid (fun W => of_bad (W := W) p nm hm)
  clear hm
  go_enter Tryz.func44, Tryz.ntmps44
  go_upto_region 1 with fail
  obtain ⟨r, hr⟩ : ∃ r, r = W.heap.size := ⟨_, rfl⟩
  obtain ⟨w1, hw1⟩ : ∃ w1, w1 = W.alloc (.cells #[.int .i64 0, .int .i64 0, .int .i64 0, .int .i64 0] 119) := ⟨_, rfl⟩
  have B1 := Lib.hid (show Below W.heap.size W w1 by rw [hw1]; exact (Below.refl _ _).alloc (Nat.le_refl _) _)
  have R1 := Lib.hid (show Blk w1 r 119 #[.int .i64 0, .int .i64 0, .int .i64 0, .int .i64 0] by rw [hw1]; exact Blk.new W 119 _ hr)
  rw [← hw1, ← hr]
  have HR := Lib.hid hr
  clear hw1 hr
  go_wp2_with fail
  refine (OF.out w1).mono ?_
  rintro e w2 ⟨rfl, hb2⟩
  have B2 := Lib.hid (B1.out.trans (hb2.mono B1.out.size))
  have R2 := Lib.hid (R1.out.keep hb2)
  clear hb2
  have r0 : w2.cell? ⟨r, 0, none⟩ = some (.int .i64 0) := (R2.out.cell 0).trans rfl
  have r1 : w2.cell? ⟨r, 1, none⟩ = some (.int .i64 0) := (R2.out.cell 1).trans rfl
  have r2 : w2.cell? ⟨r, 2, none⟩ = some (.int .i64 0) := (R2.out.cell 2).trans rfl
  have r3 : w2.cell? ⟨r, 3, none⟩ = some (.int .i64 0) := (R2.out.cell 3).trans rfl
  have f0 : w2.frozen? ⟨r, 0, none⟩ = false := R2.out.frozen 0
  have f1 : w2.frozen? ⟨r, 1, none⟩ = false := R2.out.frozen 1
  have f2 : w2.frozen? ⟨r, 2, none⟩ = false := R2.out.frozen 2
  have f3 : w2.frozen? ⟨r, 3, none⟩ = false := R2.out.frozen 3
  go_wp2_with fail
  have hB := ((((R2.out.set_ 0 (.int .i64 0)).set_ 1 (.int .i64 0)).set_ 2 (.int .i64 0)).set_ 3 (.int .i64 0))
  have hC : Below W.heap.size W ((((w2.setCell ⟨r, 0, none⟩ (.int .i64 0)).setCell ⟨r, 1, none⟩ (.int .i64 0)).setCell ⟨r, 2, none⟩ (.int .i64 0)).setCell ⟨r, 3, none⟩ (.int .i64 0)) := by
    have hr := HR.out
    exact (((B2.out.setCell (by show W.heap.size ≤ r; omega) _).setCell (by show W.heap.size ≤ r; omega) _).setCell (by show W.heap.size ≤ r; omega) _).setCell (by show W.heap.size ≤ r; omega) _
  refine bodyPost_ret (v := .tuple #[statV 0 0 0 0, .int .i64 140]) (ret_stat rfl rfl rfl hB rfl) rfl ?_
  exact ⟨rfl, hC⟩
end Go.Proofs.YtlojmmcagglpoaaGreat
namespace Go.Proofs.YtlojmmcagglpoaaGreat
open Go.RowKit Go.Maps
attribute [local go_sem ↓] Go.wp_at_zero Go.wp_at_succ
theorem step_update_fm {κ ε : Type} {P : Program} {k : TypeId} {kl : κ → Lit} {kv : κ → Value} {ev : ε → Value} {ed : ε → DataW Unit} {zv : Value} {zd : DataW Unit} {R : Value → Option (DataW Unit × List MemPlace)} {okK : κ → Prop} {okE : ε → Prop} {w : World} {ops : Array Oper} {o : Oper} {a : Act} {K' : Act → World → Prop} {Q : Exit → Act → World → Prop} {E : Prop} (hg : o.guard = none) (mo xo vo : Operand) {t e : TypeId} (hop : o.op = Op.mapUpdate t mo xo vo)
    (M : MR P k kv kl ev ed zv zd R okK okE) (K : Keyed P k) (ht : P.underlying t = some (.map k e)) (b n : Nat) (m : κ → Option ε) (hm : a.eval mo = .map (some b)) (h : FM P k kl ed R w b n m) (hn : n < maxLen) (x : κ) (hx : okK x) (u : ε) (hu : okE u) (hxe : a.eval xo = kv x) (hve : a.eval vo = ev u)
    (hK : ∀ w', FM P k kl ed R w' b (n + 1) (putM m x u) → Chg (fun q => q = b) w w' → K' (a.put o.dst undef) w') :
    if Region.wanted o (yielded ops a.tmps) = true then Oper.wp P o a w K' Q else E := by
  have hw : Region.wanted o (yielded ops a.tmps) = true := by simp [Region.wanted, hg]
  rw [if_pos hw]
  obtain ⟨w', hrun, r1, r2⟩ := h.put M K ht hn hx hu
  unfold Oper.wp
  simp [execOp, hop, hm, hxe, hve, hrun, Result.andThen]
  exact hK w' r1 r2
def CreQ (W : World) (N p q : Nat) (d : Dk) (bf bn bs : Nat) (fl : Int → Option Nat) (nm : List UInt8) (e : Ending) (w' : World) : Prop :=
  (∃ i, d.ns nm = some i ∧ e = .returned (.int .i64 142) ∧ Below W.heap.size W w') ∨ (d.ns nm = none ∧ e = .returned (.int .i64 0) ∧ ∃ g, W.heap.size ≤ g ∧ DW w' N p (q + 2) (d.made nm) bf bn bs (putM fl ((d.no : Int) + 1) g) ∧ Chg (fun b => b = p ∨ b = bf ∨ b = bn ∨ b = bs) W w' ∧ Gr W fl w' (putM fl ((d.no : Int) + 1) g))
set_option maxRecDepth 20000 in
set_option maxHeartbeats 1000000 in
theorem create_any {W : World} {N p q qq : Nat} {d : Dk} {bf bn bs : Nat} {fl : Int → Option Nat} (h : DW W N p q d bf bn bs fl) (hd : d.Ok qq) (nm : List UInt8) (hl : okName nm) (hm : MayC nm true) (hq : q + 2 < 1000000) (hqq : qq + 2 < 1000000) :
    Calls Tryz.prog 46 #[.pointer (some ⟨p, 0, none⟩), .string (strB nm)] W (CreQ W N p q d bf bn bs fl nm) := by
  have H := Lib.hid h; have HD := Lib.hid hd; have HM := Lib.hid (hm W)
  clear h hd hm
  go_enter Tryz.func46, Tryz.ntmps46
  go_wp2_with fail
  refine HM.out.mono ?_
  rintro e w1 ⟨rfl, hb⟩
  have H1 := Lib.hid (H.out.keep hb)
  have B1 := Lib.hid hb
  have c1 : w1.cell? ⟨p, 1, none⟩ = some (.map (some bn)) := (H1.out.bd.cell 1).trans rfl
  have c3 : w1.cell? ⟨p, 3, none⟩ = some (.int .i64 (d.no : Int)) := (H1.out.bd.cell 3).trans rfl
  have f3 : w1.frozen? ⟨p, 3, none⟩ = false := H1.out.bd.frozen 3
  have l1 := H1.out.mn.look_ok mrNames strK Tryz.underlying130 (zero_int w1) hl
  have hno := HD.out.no
  have hbig := HD.out.big
  obtain ⟨k, hk⟩ : ∃ k, k = d.no := ⟨_, rfl⟩
  rw [← hk] at hno c3
  have HK := Lib.hid hk
  clear hb hk
  cases hn : d.ns nm with
  | some i =>
    rw [hn] at l1
    unfold lookV sV iV' at l1
    have HF : Hid (CreQ W N p q d bf bn bs fl nm (.returned (.int .i64 142)) w1) := Lib.hid (.inl ⟨i, hn, rfl, B1.out⟩)
    clear hn
    go_wp2_with fail
    go_ret
    exact HF.out
  | none =>
  rw [hn] at l1
  unfold lookV sV at l1
  have HN := Lib.hid hn
  clear hn
  go_upto_region 7 with fail
  clear c1 c3 f3 l1
  obtain ⟨w2, hw2⟩ : ∃ w2, w2 = w1.setCell ⟨p, 3, none⟩ (.int .i64 ((k : Int) + 1)) := ⟨_, rfl⟩
  rw [← hw2]
  have D2 := Lib.hid (by rw [hw2]; exact H1.out.bd.set_ 3 (.int .i64 ((k : Int) + 1)) : Blk w2 p 132 (#[.map (some bf), .map (some bn), .map (some bs), .int .i64 (d.no : Int)].setIfInBounds 3 (.int .i64 ((k : Int) + 1))))
  have C2 : Hid (Chg (fun b => b = p) w1 w2) := Lib.hid (by rw [hw2]; exact Chg.setCell (S := fun b => b = p) (p := ⟨p, 3, none⟩) (Chg.refl _ w1) (.inl rfl) _)
  have MF2 := Lib.hid (FM.block (w' := w2.drew) (H1.out.mf.chg C2.out (fun e => H1.out.mf.ne_blk H1.out.bd e.symm)) rfl)
  have hne : p ≠ bf := H1.out.mf.ne_blk H1.out.bd
  have HNE := Lib.hid hne
  clear hw2 hne
  refine wp_region_any (by kernel_rfl) ?_
  change wpAny _ _ _ _ _ _ _ (World.drew _)
  refine wpAny_of_held (S := fun w' => w'.cell? ⟨p, 0, none⟩ = some (.map (some bf)) ∧ w'.cell? ⟨p, 3, none⟩ = some (.int .i64 ((k : Int) + 1))) _ _ _ _ ?_
  have hHeld : (fun w' => w'.cell? ⟨p, 0, none⟩ = some (.map (some bf)) ∧ w'.cell? ⟨p, 3, none⟩ = some (.int .i64 ((k : Int) + 1))) w2.drew := ⟨(D2.out.cell 0).trans rfl, (D2.out.cell 3).trans rfl⟩
  refine tkh 0 (v := ?_) rfl ?_ ?_; rotate_left
  · intro w hSw; (try dsimp only at hSw); go_simp <;> with_reducible rfl
  try simp only [Act.put, pz]
  refine tkh 1 (v := ?_) rfl ?_ ?_; rotate_left
  · intro w hSw; (try dsimp only at hSw); go_simp <;> with_reducible rfl
  try simp only [Act.put, pz]
  refine tkh 2 (v := ?_) rfl ?_ ?_; rotate_left
  · intro w hSw; (try dsimp only at hSw); go_simp <;> with_reducible rfl
  try simp only [Act.put, pz]
  refine tkh 3 (v := ?_) rfl ?_ ?_; rotate_left
  · intro w hSw; (try dsimp only at hSw); go_simp <;> with_reducible rfl
  try simp only [Act.put, pz]
  refine tkh 4 (v := ?_) rfl ?_ ?_; rotate_left
  · intro w hSw; (try dsimp only at hSw); go_simp <;> with_reducible rfl
  try simp only [Act.put, pz]
  refine tkh 5 (v := ?_) rfl ?_ ?_; rotate_left
  · intro w hSw; (try dsimp only at hSw); go_simp <;> with_reducible rfl
  try simp only [Act.put, pz]
  refine tkh 6 (v := ?_) rfl ?_ ?_; rotate_left
  · intro w hSw; (try dsimp only at hSw); go_simp <;> with_reducible rfl
  try simp only [Act.put, pz]
  refine tkh 7 (v := ?_) rfl ?_ ?_; rotate_left
  · intro w hSw; (try dsimp only at hSw); go_simp <;> with_reducible rfl
  try simp only [Act.put, pz]
  refine tkh 8 (v := ?_) rfl ?_ ?_; rotate_left
  · intro w hSw; (try dsimp only at hSw); go_simp <;> with_reducible rfl
  try simp only [Act.put, pz]
  refine wpAnyH_ready (rs := [9]) (by kernel_rfl) (by simp) (AllReadyH.cons rfl (fun K hK => ?_) AllReadyH.nil)
  have hPrev := hHeld
  clear hHeld
  go_simp
  refine hK.out _ _ (⟨cell_later ((Below.refl _ _).alloc (Nat.le_refl _) _) hPrev.1, cell_later ((Below.refl _ _).alloc (Nat.le_refl _) _) hPrev.2⟩) (fun hHeld => ?_)
  clear hK K hPrev
  try simp only [Act.put, pz]
  obtain ⟨w3, hw3⟩ : ∃ w3, w3 = (w2.alloc (.cells #[.string { data := #[] }, .slice none 0 0, .int .i64 0, .int .i64 0] 182)).drew := ⟨_, rfl⟩
  obtain ⟨g, hg⟩ : ∃ g, g = w2.heap.size := ⟨_, rfl⟩
  rw [← hw3] at hHeld ⊢
  rw [← hg]
  have B3 : Hid (Below w2.heap.size w2 w3) := Lib.hid (by rw [hw3]; exact Below.drew ((Below.refl _ _).alloc (Nat.le_refl _) _))
  have MF3 : Hid (FM Tryz.prog 3 iL pD ptrE w3 bf q fl) := Lib.hid ((FM.block (w' := w2) MF2.out rfl).keep B3.out)
  have HG : Hid (Blk w3 g 182 #[.string { data := #[] }, .slice none 0 0, .int .i64 0, .int .i64 0]) := Lib.hid (by rw [hw3, hg]; exact Blk.new w2 _ _ rfl)
  have HGS := Lib.hid hg
  clear hw3 hg MF2
  have hki : okInt ((k : Int) + 1) := ⟨by omega, by omega⟩
  refine wpAnyH_ready (rs := [10]) (by kernel_rfl) (by simp) (AllReadyH.cons rfl (fun K hK => ?_) AllReadyH.nil)
  refine step_update_fm rfl (.tmp 30) (.tmp 34) (.tmp 36) rfl mrFiles intK Tryz.underlying129 bf q fl rfl MF3.out (by unfold maxLen; omega) ((k : Int) + 1) hki g trivial rfl rfl ?_
  intro w4 hf4 hc4
  refine hK.out _ _ ⟨(hc4.cell (p := ⟨p, 0, none⟩) (by have := B3.out.size; have := D2.out.lt; show p < _; omega) HNE.out).trans hHeld.1, (hc4.cell (p := ⟨p, 3, none⟩) (by have := B3.out.size; have := D2.out.lt; show p < _; omega) HNE.out).trans hHeld.2⟩ (fun hHeld => ?_)
  clear hK K
  try simp only [Act.put, List.getElem_toArray, List.getElem_cons_zero, List.getElem_cons_succ]
  refine wpAnyH_done (by kernel_rfl) ?_ _
  have C4 := Lib.hid hc4
  have F4 := Lib.hid hf4
  have BD4 : Hid (Blk w4 p 132 #[.map (some bf), .map (some bn), .map (some bs), .int .i64 (((d.no + 1 : Nat)) : Int)]) := Lib.hid (by
    have := (D2.out.keep B3.out).chg hc4 HNE.out
    rw [HK.out] at this
    exact this)
  have C14 : Hid (Chg (fun b => b = p ∨ b = bf) w1 w4) := Lib.hid (((C2.out.mono (fun _ _ e => .inl e)).trans (Chg.of_below B3.out (fun _ => False)) (fun _ _ e => e.elim)).trans hc4 (fun _ _ e => .inr e))
  have C14' : Hid (Chg (fun b => b = p ∨ b = bf ∨ b = bn ∨ b = bs) w1 w4) := Lib.hid (C14.out.mono (fun _ _ e => e.elim .inl (fun e => .inr (.inl e))))
  have hS : Hid (∀ b, b ≠ p → b ≠ bf → ¬ (b = p ∨ b = bf)) := Lib.hid (fun b h1 h2 e => e.elim h1 h2)
  have hgs : Hid (w1.heap.size ≤ g) := Lib.hid (by rw [HGS.out]; exact C2.out.size)
  have HFL : Hid (fl ((d.no : Int) + 1) = none) := Lib.hid (by
    have := H.out.hf ((d.no : Int) + 1)
    cases hq : fl ((d.no : Int) + 1) with
    | none => rfl
    | some g' =>
      obtain ⟨x, hx, _⟩ := H.out.at_ hq
      have := (HD.out.lo hx).2
      omega)
  have HG4 : Hid (Blk w4 g 182 (fcells ⟨[], [], 0, 0⟩ (.slice none 0 0))) := Lib.hid (HG.out.chg hc4 (fun e => by
    have := H1.out.mf.lt
    have := hgs.out
    omega))
  have DW4 : Hid (DW w4 N p (q + 1) d.born bf bn bs (putM fl ((d.no : Int) + 1) g)) := Lib.hid (H1.out.more HFL.out hgs.out C14'.out ⟨.slice none 0 0, HG4.out, OB.nil _ _⟩ (fun k hk => by
      obtain ⟨u, h1, h2⟩ := hk
      rw [HG4.out.cell 1] at h1
      obtain rfl := Option.some.inj h1
      cases h2) (fun j => rfl) BD4.out (by rw [← HK.out]; exact F4.out) ((H1.out.mn.chg C14.out (hS.out _ (H1.out.mn.ne_blk H1.out.bd).symm H1.out.lo.2.2.2.2.1.symm)).mono (Nat.le_succ _)) ((H1.out.ms.chg C14.out (hS.out _ (H1.out.ms.ne_blk H1.out.bd).symm H1.out.lo.2.2.2.2.2.1.symm)).mono (Nat.le_succ _)))
  have e3 : w4.cell? ⟨p, 3, none⟩ = some (.int .i64 ((k : Int) + 1)) := hHeld.2
  have CN := Lib.hid (named_any DW4.out (by omega) nm hl ((k : Int) + 1) hki g (by rw [HK.out, putM_same]) ⟨[], [], 0, 0⟩ (by show (if ((k : Int) + 1) = (d.no : Int) + 1 then _ else _) = _; rw [HK.out, if_pos rfl]) (fun v hv => HD.out.ser0 nm v hv))
  clear hHeld hf4 hc4
  go_wp2_with fail
  refine CN.out.mono ?_
  rintro e w5 ⟨rfl, h5, hc5, hg5⟩
  have HF : Hid (CreQ W N p q d bf bn bs fl nm (.returned (.int .i64 0)) w5) := Lib.hid (.inr ⟨HN.out, rfl, g, Nat.le_trans B1.out.size hgs.out, by
    have := h5
    rw [HK.out] at this
    exact this, ?_, ?_⟩)
  · clear h5 hc5 hg5
    go_wp2_with fail
    go_ret
    exact HF.out
  · have h6 : Chg (fun b => b = p ∨ b = bf ∨ b = bn ∨ b = bs) w1 w5 := C14'.out.trans hc5 (fun b hb e => by
      rcases e with e | e | e
      · have := hgs.out; omega
      · exact .inr (.inr (.inl e))
      · exact .inr (.inr (.inr e)))
    exact (Chg.of_below B1.out _).trans h6 (fun _ _ e => e)
  · refine Gr.trans (fl1 := putM fl ((d.no : Int) + 1) g) (w1 := w4) (fun i g' hg => ?_) hg5 (Nat.le_trans B1.out.size C14.out.size)
    by_cases e : i = (d.no : Int) + 1
    · rw [e, putM_same] at hg
      obtain rfl := Option.some.inj hg
      refine .inr ⟨Nat.le_trans B1.out.size hgs.out, fun k hk => ?_⟩
      obtain ⟨u, h1, h2⟩ := hk
      rw [HG4.out.cell 1] at h1
      obtain rfl := Option.some.inj h1
      cases h2
    · rw [putM_other _ _ e] at hg
      obtain ⟨x, hx, _, hfw⟩ := H1.out.at_ hg
      obtain ⟨_, _, _, hbb⟩ := H1.out.files C14'.out hg hx
      exact .inl ⟨hg, fun k hk => .inl (((hbb k).1 hk).back (by obtain ⟨y, _, _, hy⟩ := H.out.at_ hg; exact hy.lt) B1.out)⟩
end Go.Proofs.YtlojmmcagglpoaaGreat
namespace Go.Proofs.YtlojmmcagglpoaaGreat
open Go.RowKit
set_option maxHeartbeats 1000000 in
set_option maxRecDepth 100000 in
theorem sbyte_any (s : ByteArray) (c : Int) (w : World) : Calls Tryz.prog 205 #[.string s, .int .u8 c] w fun e w' => e = .returned (.int .i64 (Lib.indexByte s.data.toList c.toNat.toUInt8)) ∧ w = w' := by
  go_enter Tryz.func205, Tryz.ntmps205
  go_wp2
  rw [run_callFunc_extern Tryz.func207 (by kernel_rfl) (by kernel_rfl) (by kernel_rfl) (e := Extern.BytealgIndexByte.indexByte) (by kernel_rfl), Lib.run_indexByteString]
  simp only [Result.andThen]
  rw [Oper.upon_value]
  go_wp2
  go_ret
  exact ⟨rfl, rfl⟩
set_option maxHeartbeats 1000000 in
theorem ibyte_any (s : ByteArray) (c : Int) (w : World) : Calls Tryz.prog 197 #[.string s, .int .u8 c] w fun e w' => e = .returned (.int .i64 (Lib.indexByte s.data.toList c.toNat.toUInt8)) ∧ w = w' := by
  go_enter Tryz.func197, Tryz.ntmps197
  go_wp2_with (go_at_call 205; refine (sbyte_any _ _ _).mono ?_; rintro e w' ⟨rfl, rfl⟩)
  go_ret
  exact ⟨rfl, rfl⟩
def two : ByteArray := ⟨#[0, 10]⟩
def IruQ (r : Nat) (w : World) (e : Ending) (w' : World) : Prop := ∃ k : Int, e = .returned (.int .i64 k) ∧ (0 ≤ k ↔ r = 0 ∨ r = 10) ∧ Below w.heap.size w w'
set_option maxHeartbeats 1000000 in
set_option maxRecDepth 100000 in
theorem irune_ascii (r : Nat) (w : World) (h : r < 128) : Calls Tryz.prog 183 #[.string two, .int .i32 (r : Int)] w (IruQ r w) := by
  have h1 : (0 : Int) ≤ (r : Int) := by omega
  have h2 : (r : Int) < 128 := by omega
  have hw : IntKind.u8.wrap (r : Int) = (r : Int) := by simp [IntKind.wrap, IntKind.bits, IntKind.signed]; omega
  have HF : Hid (∀ w : World, IruQ r w (.returned (.int .i64 (Lib.indexByte two.data.toList (r : Int).toNat.toUInt8))) w) := Lib.hid (fun w => ⟨_, rfl, by
    show 0 ≤ Lib.indexByte [0, 10] _ ↔ _
    have e : ((r : Int)).toNat.toUInt8 = UInt8.ofNat r := rfl
    rw [e]
    refine Iff.trans (decide_eq_true_iff (p := 0 ≤ Lib.indexByte [0, 10] (UInt8.ofNat r))).symm ?_
    rw [← Lib.contains_iff_indexByte]
    have : r = (UInt8.ofNat r).toNat := by rw [UInt8.toNat_ofNat_of_lt' (by show r < 256; omega)]
    generalize UInt8.ofNat r = u at *
    subst this
    simp [← UInt8.toNat_inj], Below.refl _ _⟩)
  go_enter Tryz.func183, Tryz.ntmps183
  go_wp2_with (go_at_call 197; refine (ibyte_any _ _ _).mono ?_; rintro e w' ⟨rfl, rfl⟩)
  go_ret
  exact HF.out _
set_option maxHeartbeats 1000000 in
set_option maxRecDepth 100000 in
theorem irune_bad (w : World) : Calls Tryz.prog 183 #[.string two, .int .i32 65533] w (IruQ 65533 w) := by
  have n0 : ∀ ty, (Instr.next (.pointer (some ⟨w.heap.size, 0, none⟩)) true ty).run Tryz.prog (w.iter two 0) = .ok (.tuple #[.bool true, .int .i64 0, .int .i32 0]) (w.iter two 1) := fun ty => run_next_ascii (P := Tryz.prog) w two 0 ty (by decide) (by decide)
  have n1 : ∀ ty, (Instr.next (.pointer (some ⟨w.heap.size, 0, none⟩)) true ty).run Tryz.prog (w.iter two 1) = .ok (.tuple #[.bool true, .int .i64 1, .int .i32 10]) (w.iter two 2) := fun ty => run_next_ascii (P := Tryz.prog) w two 1 ty (by decide) (by decide)
  have n2 : ∀ ty, (Instr.next (.pointer (some ⟨w.heap.size, 0, none⟩)) true ty).run Tryz.prog (w.iter two 2) = .ok (.tuple #[.bool false]) (w.iter two 2) := fun ty => run_next_end (P := Tryz.prog) w two 2 ty (by decide)
  go_enter Tryz.func183, Tryz.ntmps183
  go_wp2
  refine wp_loop_rounds 3 ?_
  rw [rounds_succ]
  go_wp2
  rw [rounds_succ]
  go_wp2
  rw [rounds_succ]
  go_wp2
  go_ret
  exact ⟨_, rfl, by decide, (Below.refl _ _).alloc (Nat.le_refl _) _⟩
set_option maxHeartbeats 1000000 in
theorem vrune_any (r : Nat) (w : World) (hv : r < 55296 ∨ (57343 < r ∧ r ≤ 1114111)) : Calls Tryz.prog 198 #[.int .i32 (r : Int)] w fun e w' => e = .returned (.bool true) ∧ w = w' := by
  go_enter Tryz.func198, Tryz.ntmps198
  have h0 : (0 : Int) ≤ (r : Int) := by omega
  by_cases h : r < 55296
  · have h1 : (r : Int) < 55296 := by omega
    go_wp2
    go_ret
    exact ⟨rfl, rfl⟩
  · have h1 : ¬ (r : Int) < 55296 := by omega
    have h2 : (57343 : Int) < (r : Int) := by omega
    have h3 : (r : Int) ≤ 1114111 := by omega
    go_wp2
    go_ret
    exact ⟨rfl, rfl⟩
set_option maxHeartbeats 1000000 in
set_option maxRecDepth 100000 in
theorem irune_far (r : Nat) (w : World) (h : 128 ≤ r) (hne : r ≠ 65533) (hv : r < 55296 ∨ (57343 < r ∧ r ≤ 1114111)) : Calls Tryz.prog 183 #[.string two, .int .i32 (r : Int)] w (IruQ r w) := by
  have h1 : (0 : Int) ≤ (r : Int) := by omega
  have h2 : ¬ (r : Int) < 128 := by omega
  have h3 : ((r : Int) == 65533) = false := by rw [beq_eq_false_iff_ne]; omega
  have CV := Lib.hid (fun w => vrune_any r w hv)
  go_enter Tryz.func183, Tryz.ntmps183
  go_wp2_with fail
  refine (CV.out _).mono ?_
  rintro e w2 ⟨rfl, rfl⟩
  go_wp2_with fail
  obtain ⟨z, hz⟩ : ∃ z, z = Utf8.encode (r : Int) := ⟨_, rfl⟩
  have hcv : ∀ w : World, (convert 21 9 (.int .i32 (r : Int))).run Tryz.prog w = .ok (.string z) w := fun w => by rw [hz]; rfl
  have HZ := Lib.hid hz
  clear hz
  by_cases h2k : r < 2048
  · have hz2 : z.size = 2 ∧ ∀ h : 1 < z.size, 128 ≤ (z[1]'h).toNat := by
      have hval : Utf8.valid (r : Int) = true := by unfold Utf8.valid; simp; omega
      have e : z = ⟨#[UInt8.ofNat (0xC0 + r / 64), UInt8.ofNat (0x80 + r % 64)]⟩ := by
        rw [HZ.out]
        unfold Utf8.encode
        rw [hval]
        simp only [if_true, Int.toNat_natCast]
        rw [if_neg (by omega), if_pos (by omega)]
      subst e
      refine ⟨rfl, fun h => ?_⟩
      show 128 ≤ (UInt8.ofNat (0x80 + r % 64)).toNat
      rw [UInt8.toNat_ofNat_of_lt' (by show _ < 256; omega)]; omega
    obtain ⟨hz1, hv2⟩ := hz2
    have hlz : 1 < z.size := by omega
    obtain ⟨v, hv3⟩ : ∃ v, z[1]'hlz = v := ⟨_, rfl⟩
    have hv4 := hv2 hlz
    rw [hv3] at hv4
    have hzi : ((z.size : Int) - 1) = 1 := by omega
    have htw : (1 : Int) < (two.size : Int) := by decide
    clear hv2
    go_step3
    go_wp2_with fail
    refine wp_loop_rounds 1 ?_
    rw [rounds_succ]
    go_wp2_with fail
    have hlz2 : (1 : Int) < (z.size : Int) := by omega
    have hg2 : two[1]'(by decide) = (10 : UInt8) := rfl
    go_step3
    go_wp2_with fail
    go_quiet (fail)
    obtain ⟨w1, hw1⟩ : ∃ w1, w1 = w.drewN nq := ⟨_, rfl⟩
    have HW1 := Lib.hid hw1
    rw [← hw1]
    clear hw1
    go_wp2_with fail
    have HIB := Lib.hid (fun (s : ByteArray) (c : Int) (k : Nat) => ibyte_any s c (w1.drewN k))
    have hb0 : (0 : Int) ≤ 1 + 1 := by decide
    have hb1 : (1 + 1 : Int) ≤ (two.size : Int) := by decide
    have hiw : IntKind.i64.wrap (1 + 1) = 2 := by decide
    have hb2 : (2 : Int) ≤ (two.size : Int) := by decide
    have hlt : Lib.indexByte (List.take (two.size - 2) (List.drop 2 two.data.toList)) v < 0 := by show (-1 : Int) < 0; decide
    go_quiet ((with_reducible exact quiet (HIB.out _ _ _)))
    go_wp2_with fail
    rw [Exit.noGoto_ret]
    go_wp2_with fail
    rw [Exit.noGoto_ret]
    go_wp2_with fail
    go_ret
    refine ⟨_, rfl, ?_, below_drewN (by rw [HW1.out]; exact below_drewN (Below.refl _ _) _) _⟩
    omega
  · have hsz : 3 ≤ z.size := by
      rw [HZ.out]
      unfold Utf8.encode
      have hval : Utf8.valid (r : Int) = true := by unfold Utf8.valid; simp; omega
      rw [hval]
      simp only [if_true, Int.toNat_natCast]
      rw [if_neg (by omega), if_neg (by omega)]
      split <;> simp [ByteArray.size]
    have hsz3 : ¬ ((z.size : Int) - 1 < (two.size : Int)) := by have : two.size = 2 := rfl; omega
    have hsz2 : z.size ≤ 4 := by rw [HZ.out]; exact encode_size_le _
    go_step3
    go_wp2_with fail
    refine wp_loop_rounds 1 ?_
    rw [rounds_succ]
    go_wp2_with fail
    rw [Exit.noGoto_ret]
    go_ret
    exact ⟨_, rfl, by omega, Below.refl _ _⟩
end Go.Proofs.YtlojmmcagglpoaaGreat
namespace Go.Proofs.YtlojmmcagglpoaaGreat
open Go.RowKit
theorem Chg.setCells {S : Nat → Prop} {b : Nat} : ∀ (vs : List Value) (o : Nat) {w w' : World}, Chg S w w' → S b → Chg S w (w'.setCells b o vs)
  | [], _, _, _, h, _ => h
  | v :: vs, o, _, _, h, hb => Chg.setCells vs (o + 1) (h.setCell (p := ⟨b, o, none⟩) (.inl hb) v) hb
theorem Blk.setCells {b : Nat} {t : TypeId} : ∀ (vs : List Value) (o : Nat) {w : World} {C : Array Value}, Blk w b t C → o + vs.length ≤ C.size → ∃ C', Blk (w.setCells b o vs) b t C' ∧ C'.size = C.size ∧ ∀ j, C'[j]? = if o ≤ j ∧ j < o + vs.length then vs[j - o]? else C[j]?
  | [], _, _, C, h, _ => ⟨C, h, rfl, fun j => by rw [if_neg (by simp)]⟩
  | v :: vs, o, _, C, h, hl => by
    rw [List.length_cons] at hl
    obtain ⟨C', h1, h2, h3⟩ := Blk.setCells vs (o + 1) (h.set_ o v) (by simp; omega)
    refine ⟨C', h1, by simpa using h2, fun j => ?_⟩
    rw [h3 j]
    by_cases e : j = o
    · subst e
      rw [if_neg (by omega), if_pos (by simp), Array.getElem?_setIfInBounds_self, if_pos (by omega), Nat.sub_self]; rfl
    · rw [Array.getElem?_setIfInBounds_ne (fun h => e h.symm)]
      by_cases h4 : o + 1 ≤ j ∧ j < o + 1 + vs.length
      · rw [if_pos h4, if_pos (by simp; omega), show j - o = (j - (o + 1)) + 1 from by omega]; rfl
      · rw [if_neg h4, if_neg (by simp; omega)]
theorem Blk.setAll {w : World} {b : Nat} {t : TypeId} {C : Array Value} (h : Blk w b t C) (cs : Array Value) (hs : cs.size = C.size) : Blk (w.setCells b 0 cs.toList) b t cs := by
  obtain ⟨C', h1, h2, h3⟩ := Blk.setCells cs.toList 0 h (by simp; omega)
  have : C' = cs := by
    apply Array.ext_getElem?
    intro j
    rw [h3 j]
    by_cases hj : j < cs.size
    · rw [if_pos (by simpa using hj)]; simp
    · rw [if_neg (by simp; omega), Array.getElem?_eq_none (by omega), Array.getElem?_eq_none (by omega)]
  rw [this] at h1; exact h1
theorem there_blk {w : World} {b : Nat} {t : TypeId} {C : Array Value} (h : Blk w b t C) (n : Nat) (hn : n ≤ C.size) : w.there b 0 n := fun j hj => by
  rw [Nat.zero_add]
  exact ⟨by rw [h.cell, Array.getElem?_eq_getElem (by omega)]; rfl, h.frozen j⟩
theorem rangeAt_blk {w : World} {b : Nat} {t : TypeId} {cs : Array Value} (h : Blk w b t cs) : w.rangeAt b 0 cs.toList := fun j v hv => by
  rw [Nat.zero_add, h.cell]; simpa using hv
end Go.Proofs.YtlojmmcagglpoaaGreat
namespace Go.Proofs.YtlojmmcagglpoaaGreat
open Go.RowKit
theorem info_set : (Tryz.prog.info? 275).map (fun i => (i.zero, i.size)) = some (some (.agg (Array.replicate 256 (.bool false))), 256) := by kernel_rfl
theorem zero_set (w : World) : (zeroValue 275).run Tryz.prog w = .ok (.agg (Array.replicate 256 (.bool false))) w := (zero_of_info info_set).1 w
theorem size_set : (Tryz.prog.info? 275).map (·.size) = some 256 := (zero_of_info info_set).2
def setC (k : Nat) : Array Value := Lib.setCells (two.data.toList.take k)
theorem setC_size (k : Nat) : (setC k).size = 256 := Lib.setCells_size _
theorem setC_zero : setC 0 = Array.replicate 256 (.bool false) := rfl
theorem setC_one : setC 1 = (setC 0).setIfInBounds 0 (.bool true) := Lib.setCells_snoc [] 0
theorem setC_two : setC 2 = (setC 1).setIfInBounds 10 (.bool true) := Lib.setCells_snoc [0] 10
theorem setC_all (k : Nat) : (setC k).all (·.oneCell') = true := Lib.setCells_one _
theorem setC_at (x : UInt8) : (setC 2)[x.toNat]? = some (.bool (x == 0 || x == 10)) := by
  have := Lib.setCells_at [0, 10] x
  have e : ([0, 10] : List UInt8).contains x = (x == 0 || x == 10) := by simp only [List.contains, List.elem]; cases x == 0 <;> cases x == 10 <;> rfl
  rw [e] at this
  exact this
theorem ret_set {w : World} {b : Nat} {dc : Array Value} {u : Tmp} {p : Tmp} {k : Bool} {fn : Func} {tmps : Array Value} (hf : fn.results = #[.cell p 275, .tmp u]) (hp : tmps.getD p undef = .pointer (some ⟨b, 0, none⟩)) (hu : tmps.getD u undef = .bool k) (h : Blk w b 275 dc) (hs : dc.size = 256) :
    (results fn tmps).run Tryz.prog w = .ok (.tuple #[.agg dc, .bool k]) w := by
  rw [results_cell_tmp hf, hp, hu]
  simp only [asAddr, Sem.run_pure, Result.andThen, run_loadVar_row w b 275 275 dc (0, 0) _ h Tryz.underlying275 rfl (by rw [size_set, hs])]
set_option maxHeartbeats 4000000 in
set_option maxRecDepth 1000000 in
theorem mkset_two (w : World) : Calls Tryz.prog 185 #[.string two] w fun e w' => e = .returned (.tuple #[.agg (setC 2), .bool true]) ∧ Below w.heap.size w w' := by
  have hz := zero_set
  rw [← setC_zero] at hz
  have hsz0 := setC_size 0
  have hsz1 := setC_size 1
  have ht2 : (two.size : Int) = 2 := rfl
  have e1 := setC_one
  have e2 := setC_two
  have g0 : two[0]'(by decide) = (0 : UInt8) := rfl
  have g1 : two[1]'(by decide) = (10 : UInt8) := rfl
  have HE := Lib.hid (And.intro e1 e2)
  clear e1 e2
  obtain ⟨c0, hc0⟩ : ∃ c0, c0 = setC 0 := ⟨_, rfl⟩
  rw [← hc0] at hz hsz0
  have HC0 := Lib.hid hc0
  clear hc0
  go_enter Tryz.func185, Tryz.ntmps185
  go_wp2_with fail
  refine wp_loop_rounds 3 ?_
  rw [rounds_succ]
  go_wp2_with fail
  obtain ⟨c1, hc1⟩ : ∃ c1, c1 = setC 1 := ⟨_, rfl⟩
  have E1 : c0.setIfInBounds 0 (.bool true) = c1 := by rw [HC0.out, hc1]; exact HE.out.1.symm
  rw [← hc1] at hsz1
  rw [E1]
  have HC1 := Lib.hid hc1
  clear E1 hc1
  rw [rounds_succ]
  go_wp2_with fail
  obtain ⟨c2, hc2⟩ : ∃ c2, c2 = setC 2 := ⟨_, rfl⟩
  have E2 : c1.setIfInBounds 10 (.bool true) = c2 := by rw [HC1.out, hc2]; exact HE.out.2.symm
  have hsz2 := setC_size 2
  have hone := setC_all 2
  rw [← hc2] at hsz2 hone
  rw [E2]
  have HC2 := Lib.hid hc2
  clear E2 hc2
  obtain ⟨w1, hw1⟩ : ∃ w1, w1 = w.alloc (.cells c2 275) := ⟨_, rfl⟩
  obtain ⟨b, hb⟩ : ∃ b, b = w.heap.size := ⟨_, rfl⟩
  have BK : Hid (Blk w1 b 275 c2) := Lib.hid (by rw [hw1]; exact Blk.new w _ _ hb)
  have B1 : Hid (Below w.heap.size w w1) := Lib.hid (by rw [hw1]; exact (Below.refl _ _).alloc (Nat.le_refl _) _)
  have HB := Lib.hid hb
  rw [← hw1, ← hb]
  have RG := Lib.hid (rangeAt_blk BK.out)
  have LI : Hid ((Tryz.prog.info? 275).map (·.size) = some c2.toList.length) := Lib.hid (by rw [Array.length_toList, hsz2]; exact size_set)
  have DI : Hid ((Tryz.prog.info? 275).map (·.size) = some c2.size) := Lib.hid (by rw [hsz2]; exact size_set)
  have ONE := Lib.hid hone
  have HS := Lib.hid hsz2
  clear hw1 hb hone hsz2
  rw [rounds_succ]
  go_wp2_with (with_reducible refine wpList_load_mid rfl _ _ rfl b 0 rfl c2.toList _ RG.out Tryz.underlying275 rfl LI.out ?_; refine wpList_store_mid rfl 275 (.tmp 2) (.tmp 20) rfl b 0 c2 rfl (by simp [Act.eval, Act.put]) (there_blk BK.out _ (Nat.le_refl _)) DI.out ONE.out ?_; refine halt ?_)
  refine unhalt ?_
  obtain ⟨w2, hw2⟩ : ∃ w2, w2 = w1.setCells b 0 c2.toList := ⟨_, rfl⟩
  have BK2 : Hid (Blk w2 b 275 c2) := Lib.hid (by rw [hw2]; exact BK.out.setAll c2 rfl)
  have B2 : Hid (Below w.heap.size w w2) := Lib.hid (by
    rw [hw2]
    have h1 : Chg (fun k => k = b) w1 (w1.setCells b 0 c2.toList) := Chg.setCells _ _ (Chg.refl _ _) rfl
    exact ((Chg.of_below B1.out (fun k => k = b)).trans h1 (fun _ _ e => e)).below (fun k hk e => by have := HB.out; omega) (Nat.le_refl _))
  rw [← hw2]
  clear hw2
  go_wp2_with fail
  refine bodyPost_ret (v := .tuple #[.agg c2, .bool true]) (ret_set rfl rfl rfl BK2.out HS.out) rfl ?_
  exact ⟨by rw [HC2.out], B2.out⟩
set_option maxHeartbeats 2000000 in
set_option maxRecDepth 1000000 in
theorem contains_any (b : Nat) (x : UInt8) (v : Bool) (w : World) (hc : w.cell? ⟨b, x.toNat, none⟩ = some (.bool v)) :
    Calls Tryz.prog 186 #[.pointer (some ⟨b, 0, none⟩), .int .u8 x.toNat] w fun e w' => e = .returned (.bool v) ∧ w = w' := by
  have hx256 : (x.toNat : Int) < 256 := by have := UInt8.toNat_lt x; omega
  go_enter Tryz.func186, Tryz.ntmps186
  go_wp2
  go_ret
  exact ⟨rfl, rfl⟩
end Go.Proofs.YtlojmmcagglpoaaGreat
namespace Go.Proofs.YtlojmmcagglpoaaGreat
open Go.RowKit Go.Maps
def badC (c : UInt8) : Prop := c = 0 ∨ c = 10
theorem get_at (s : ByteArray) (i : Nat) (h : i < s.size) : s.get! i = s[i]'h := by
  simp [ByteArray.get!, getElem!_pos, h]; rfl
theorem dec_cases (s : ByteArray) (i : Nat) (h : i < s.size) : ∃ r wd : Nat, Utf8.decode s i = (r, wd) ∧ ((r < 128 ∧ wd = 1 ∧ (s[i]'h).toNat = r) ∨ (128 ≤ r ∧ 1 ≤ wd ∧ (r = 65533 ∨ (r < 55296 ∨ (57343 < r ∧ r ≤ 1114111))) ∧ ∀ j (hj : j < s.size), i ≤ j → j < i + wd → 128 ≤ (s[j]'hj).toNat)) := by
  have hc : ∀ k, (decide (i + k < s.size) && (s.get! (i + k)).toNat / 64 == 2) = true → ∃ hk : i + k < s.size, 128 ≤ (s[i + k]'hk).toNat := fun k hk => by
    rw [Bool.and_eq_true, decide_eq_true_iff, beq_iff_eq] at hk
    refine ⟨hk.1, ?_⟩
    have := hk.2
    rw [get_at s _ hk.1] at this
    omega
  have e0 : s.get! (i + 0) = s[i]'h := get_at s i h
  have bad : ¬ (s[i]'h).toNat < 128 → ∃ r wd : Nat, ((65533 : Nat), (1 : Nat)) = (r, wd) ∧ ((r < 128 ∧ wd = 1 ∧ (s[i]'h).toNat = r) ∨ (128 ≤ r ∧ 1 ≤ wd ∧ (r = 65533 ∨ (r < 55296 ∨ (57343 < r ∧ r ≤ 1114111))) ∧ ∀ j (hj : j < s.size), i ≤ j → j < i + wd → 128 ≤ (s[j]'hj).toNat)) := fun h0 =>
    ⟨65533, 1, rfl, .inr ⟨by decide, Nat.le_refl _, .inl rfl, fun j hj h1 h2 => by
      obtain rfl : j = i := by omega
      omega⟩⟩
  obtain ⟨b0, hb0⟩ : ∃ b0, b0 = (s[i]'h).toNat := ⟨_, rfl⟩
  have hlt := UInt8.toNat_lt (s[i]'h)
  rw [← hb0] at bad hlt
  unfold Utf8.decode Utf8.valid Utf8.runeError
  simp only [e0]
  rw [← hb0]
  by_cases h0 : b0 < 128
  · rw [if_pos h0]
    exact ⟨_, _, rfl, .inl ⟨h0, rfl, rfl⟩⟩
  · rw [if_neg h0]
    have cell : ∀ (n : Nat) (r : Nat), 128 ≤ r → (r < 55296 ∨ (57343 < r ∧ r ≤ 1114111)) → (∀ k, 1 ≤ k → k < n → ∃ hk : i + k < s.size, 128 ≤ (s[i + k]'hk).toNat) → 1 ≤ n → ∃ r' wd : Nat, (r, n) = (r', wd) ∧ ((r' < 128 ∧ wd = 1 ∧ b0 = r') ∨ (128 ≤ r' ∧ 1 ≤ wd ∧ (r' = 65533 ∨ (r' < 55296 ∨ (57343 < r' ∧ r' ≤ 1114111))) ∧ ∀ j (hj : j < s.size), i ≤ j → j < i + wd → 128 ≤ (s[j]'hj).toNat)) := fun n r h1 h2 h3 h4 =>
      ⟨r, n, rfl, .inr ⟨h1, h4, .inr h2, fun j hj hij hjn => by
        by_cases e : j = i
        · subst e; omega
        · obtain ⟨k, rfl⟩ := Nat.exists_eq_add_of_le hij
          obtain ⟨_, hk⟩ := h3 k (by omega) (by omega)
          exact hk⟩⟩
    split
    · rename_i hc1
      rw [Bool.and_eq_true] at hc1
      have g1 := hc 1 hc1.2
      have g0 : b0 / 32 = 6 := by simpa using hc1.1
      split
      · rename_i hge
        refine cell 2 _ hge (.inl ?_) (fun k h1 h2 => ?_) (by omega)
        · omega
        · obtain rfl : k = 1 := by omega
          exact g1
      · exact bad h0
    · split
      · rename_i hc1
        rw [Bool.and_eq_true, Bool.and_eq_true] at hc1
        have g1 := hc 1 hc1.1.2
        have g2 := hc 2 hc1.2
        split
        · rename_i hge
          rw [Bool.and_eq_true, Bool.or_eq_true, Bool.and_eq_true, Bool.and_eq_true] at hge
          simp only [decide_eq_true_iff] at hge
          refine cell 3 _ (by omega) (by omega) (fun k h1 h2 => ?_) (by omega)
          rcases (by omega : k = 1 ∨ k = 2) with rfl | rfl
          · exact g1
          · exact g2
        · exact bad h0
      · split
        · rename_i hc1
          rw [Bool.and_eq_true, Bool.and_eq_true, Bool.and_eq_true] at hc1
          have g1 := hc 1 hc1.1.1.2
          have g2 := hc 2 hc1.1.2
          have g3 := hc 3 hc1.2
          split
          · rename_i hge
            rw [Bool.and_eq_true, Bool.or_eq_true, Bool.and_eq_true, Bool.and_eq_true] at hge
            simp only [decide_eq_true_iff] at hge
            refine cell 4 _ (by omega) (by omega) (fun k h1 h2 => ?_) (by omega)
            rcases (by omega : k = 1 ∨ k = 2 ∨ k = 3) with rfl | rfl | rfl
            · exact g1
            · exact g2
            · exact g3
          · exact bad h0
        · exact bad h0
def NoBad (s : ByteArray) (i : Nat) : Prop := ∀ j (hj : j < s.size), j < i → ¬ badC (s[j]'hj)
theorem irune_any (r : Nat) (w : World) (h : r < 128 ∨ (128 ≤ r ∧ (r = 65533 ∨ (r < 55296 ∨ (57343 < r ∧ r ≤ 1114111))))) : Calls Tryz.prog 183 #[.string two, .int .i32 (r : Int)] w (IruQ r w) := by
  rcases h with h | ⟨h1, h2⟩
  · exact irune_ascii r w h
  · by_cases e : r = 65533
    · subst e; exact irune_bad w
    · exact irune_far r w h1 e (h2.resolve_left e)
def IanQ (s : ByteArray) (w : World) (e : Ending) (w' : World) : Prop := ∃ k : Int, e = .returned (.int .i64 k) ∧ (k < 0 ↔ NoBad s s.size) ∧ Below w.heap.size w w'
theorem iterAt_below {B : Nat} {w w1 : World} (h : Below B w w1) {k : Nat} (hk : B ≤ k) (s : ByteArray) (pos : Nat) : Below B w (w1.iterAt k s pos) :=
  ⟨h.os, h.tape, h.output, by simpa [World.iterAt] using h.size, fun j hj => by
    rw [← h.block j hj]
    simp [World.iterAt, Array.getElem?_setIfInBounds]
    intro e; omega⟩
set_option maxHeartbeats 2000000 in
set_option maxRecDepth 1000000 in
theorem iany_short (s : ByteArray) (w : World) (h8 : s.size ≤ 8) : Calls Tryz.prog 172 #[.string s, .string two] w (IanQ s w) := by
  have h8z : ¬ ((8 : Int) < (s.size : Int)) := by omega
  have ht2 : (two.size : Int) = 2 := rfl
  have hemp : two.toList.isEmpty = false := by rw [ByteArray.toList_eq]; rfl
  obtain ⟨k, hk⟩ : ∃ k, k = w.heap.size := ⟨_, rfl⟩
  have HK := Lib.hid hk
  go_enter Tryz.func172, Tryz.ntmps172
  go_wp2_with (go_at_call 184; go_in)
  rw [← hk]
  clear hk
  obtain ⟨w0, hw0⟩ : ∃ w0, w0 = w.iter s 0 := ⟨_, rfl⟩
  have HI0 : Hid (w0.heap[k]? = some (.stringIter s 0)) := Lib.hid (by rw [hw0, HK.out]; exact World.iter_heap w s 0)
  have HB0 : Hid (Below w.heap.size w w0) := Lib.hid (by rw [hw0]; exact (Below.refl _ _).alloc (Nat.le_refl _) _)
  rw [← hw0]
  clear hw0
  go_loopg [9, 10] s.size (fun g _ _ wx => ∃ i : Nat, s.size ≤ i + g ∧ Hid (wx.heap[k]? = some (.stringIter s i)) ∧ Hid (Below w.heap.size w wx) ∧ Hid (NoBad s i))
  case atStart => exact ⟨0, by omega, HI0, HB0, Lib.hid (fun j _ h => absurd h (Nat.not_lt_zero _))⟩
  case round =>
    obtain ⟨i, hig, HI, HB, HN⟩ := hrel
    by_cases hi : i < s.size
    · obtain ⟨r, wd, hd, hr⟩ := dec_cases s i hi
      have hnx := fun ty => Lib.run_next_any_at (P := Tryz.prog) wr k s i ty HI.out hi
      rw [hd] at hnx
      simp only at hnx
      obtain ⟨w1, hw1⟩ : ∃ w1, w1 = wr.iterAt k s (i + wd) := ⟨_, rfl⟩
      have HI1 : Hid (w1.heap[k]? = some (.stringIter s (i + wd))) := Lib.hid (by rw [hw1]; exact Lib.iterAt_heap wr k s i (i + wd) HI.out)
      have HB1 : Hid (Below w.heap.size w w1) := Lib.hid (by rw [hw1]; exact iterAt_below HB.out (by rw [HK.out]; exact Nat.le_refl _) s _)
      rw [← hw1] at hnx
      have CR := Lib.hid (irune_any r w1 (hr.elim (fun h => .inl h.1) (fun h => .inr ⟨h.1, h.2.2.1⟩)))
      have hwd : 1 ≤ wd := hr.elim (fun h => by omega) (fun h => h.2.1)
      have HR := Lib.hid hr
      clear hr hd hw1
      cases gk with
      | zero => omega
      | succ g =>
      go_wp2_with fail
      refine CR.out.mono ?_
      rintro e w2 ⟨kk, rfl, hkk, hb2⟩
      have HI2 : Hid (w2.heap[k]? = some (.stringIter s (i + wd))) := Lib.hid ((hb2.block k (Array.getElem?_eq_some_iff.1 HI1.out).1).trans HI1.out)
      have HB2 : Hid (Below w.heap.size w w2) := Lib.hid (HB1.out.trans (hb2.mono HB1.out.size))
      have HKK := Lib.hid hkk
      clear hb2 hkk CR
      by_cases h0 : 0 ≤ kk
      · have HF : Hid (IanQ s w (.returned (.int .i64 (i : Int))) w2) := Lib.hid ⟨_, rfl, ⟨fun h => absurd h (by omega), fun h => by
          have := HKK.out.1 h0
          rcases HR.out with h1 | h1
          · exact absurd (show badC (s[i]'hi) from by
              rcases this with e | e
              · exact .inl (UInt8.toNat_inj.1 (by rw [h1.2.2, e]; rfl))
              · exact .inr (UInt8.toNat_inj.1 (by rw [h1.2.2, e]; rfl))) (h i hi hi)
          · omega⟩, HB2.out⟩
        go_wp2_with fail
        go_ret
        exact HF.out
      · have HN2 : Hid (NoBad s (i + wd)) := Lib.hid (fun j hj hlt => by
          by_cases e : j < i
          · exact HN.out j hj e
          · rcases HR.out with h1 | h1
            · obtain rfl : j = i := by omega
              rintro (h2 | h2)
              · exact h0 (HKK.out.2 (.inl (by rw [← h1.2.2, h2]; rfl)))
              · exact h0 (HKK.out.2 (.inr (by rw [← h1.2.2, h2]; rfl)))
            · have := h1.2.2.2 j hj (by omega) hlt
              rintro (h2 | h2) <;> rw [h2] at this <;> exact absurd this (by decide))
        go_wp2_with fail
        go_roundg g
        case measure => omega
        case rel => exact ⟨i + wd, by omega, HI2, HB2, HN2⟩
    · have hnx := fun ty => Lib.run_next_end_at (P := Tryz.prog) wr k s i ty HI.out hi
      have HF : Hid (IanQ s w (.returned (.int .i64 (-1))) wr) := Lib.hid ⟨_, rfl, ⟨fun _ j hj _ => HN.out j hj (by omega), fun _ => by decide⟩, HB.out⟩
      go_wp2_with fail
      go_ret
      exact HF.out
set_option maxHeartbeats 2000000 in
set_option maxRecDepth 1000000 in
theorem iany_long (s : ByteArray) (w : World) (h8 : 8 < s.size) (h32 : s.size ≤ 1000000) : Calls Tryz.prog 172 #[.string s, .string two] w (IanQ s w) := by
  have h8z : (8 : Int) < (s.size : Int) := by omega
  have ht2 : (two.size : Int) = 2 := rfl
  have hemp : two.toList.isEmpty = false := by rw [ByteArray.toList_eq]; rfl
  have HM := Lib.hid (mkset_two w)
  go_enter Tryz.func172, Tryz.ntmps172
  go_wp2_with (first | (go_at_call 184; go_in) | (go_at_call 185; refine HM.out.mono ?_; rintro e w1 ⟨rfl, hb1⟩))
  have hsc := run_storeCells_new (P := Tryz.prog) w1 275 Tryz.zeroCells275 (setC 2) (by rw [setC_size]; exact size_set) (by rw [setC_size]; kernel_rfl) (setC_all 2)
  simp only [Result.andThen, hsc]
  rw [Oper.upon_skip]
  clear hsc
  obtain ⟨w2, hw2⟩ : ∃ w2, w2 = w1.alloc (.cells (setC 2) 275) := ⟨_, rfl⟩
  obtain ⟨b, hb⟩ : ∃ b, b = w1.heap.size := ⟨_, rfl⟩
  have BK : Hid (Blk w2 b 275 (setC 2)) := Lib.hid (by rw [hw2]; exact Blk.new w1 _ _ hb)
  have B2 : Hid (Below w.heap.size w w2) := Lib.hid (by rw [hw2]; exact hb1.alloc hb1.size _)
  rw [← hw2, ← hb]
  clear hw2 hb hb1
  go_wp2_with fail
  go_loopg [8] s.size (fun g s8 wx => ∃ i : Nat, i + g = s.size ∧ s8 = .int .i64 (i : Int) ∧ wx = w2 ∧ Hid (NoBad s i))
  case atStart => exact ⟨0, by omega, rfl, rfl, Lib.hid (fun j _ h => absurd h (Nat.not_lt_zero _))⟩
  case round =>
    obtain ⟨i, hig, rfl, rfl, HN⟩ := hrel
    cases gk with
    | zero =>
      obtain rfl : i = s.size := by omega
      have hiz : ¬ ((s.size : Int) < (s.size : Int)) := by omega
      have HF : Hid (IanQ s w (.returned (.int .i64 (-1))) wr) := Lib.hid ⟨_, rfl, ⟨fun _ => HN.out, fun _ => by decide⟩, B2.out⟩
      go_wp2_with fail
      go_ret
      exact HF.out
    | succ g =>
      have hi : i < s.size := by omega
      have hiz : (i : Int) < (s.size : Int) := by omega
      obtain ⟨x, hx⟩ : ∃ x : UInt8, s[i]'hi = x := ⟨_, rfl⟩
      have hcell := (BK.out.cell x.toNat).trans (setC_at x)
      have Hx := Lib.hid hx
      have hr1 : i + 1 + g = s.size := by omega
      cases hin : (x == 0 || x == 10) <;> rw [hin] at hcell
      · have CC := Lib.hid (contains_any b x false wr hcell)
        have HN2 : Hid (NoBad s (i + 1)) := Lib.hid (fun j hj hlt => by
          by_cases e : j < i
          · exact HN.out j hj e
          · obtain rfl : j = i := by omega
            rw [Hx.out]
            rintro (h2 | h2) <;> subst h2 <;> exact absurd hin (by decide))
        clear hcell hin
        go_wp2_with fail
        refine CC.out.mono ?_
        rintro e w' ⟨rfl, rfl⟩
        go_wp2_with fail
        go_roundg g
        case measure => omega
        case rel => exact ⟨i + 1, hr1, by first | rfl | simp, rfl, HN2⟩
      · have CC := Lib.hid (contains_any b x true wr hcell)
        have HF : Hid (IanQ s w (.returned (.int .i64 (i : Int))) wr) := Lib.hid ⟨_, rfl, ⟨fun h => absurd h (by omega), fun h => absurd (show badC (s[i]'hi) from by
          rw [Hx.out]
          simpa [badC] using hin) (h i hi hi)⟩, B2.out⟩
        clear hcell hin
        go_wp2_with fail
        refine CC.out.mono ?_
        rintro e w' ⟨rfl, rfl⟩
        go_wp2_with fail
        go_ret
        exact HF.out
theorem iany_any (s : ByteArray) (w : World) (h32 : s.size ≤ 1000000) : Calls Tryz.prog 172 #[.string s, .string two] w (IanQ s w) := by
  by_cases h8 : s.size ≤ 8
  · exact iany_short s w h8
  · exact iany_long s w (by omega) h32
open Classical in
noncomputable def hasBad (s : ByteArray) : Bool := if NoBad s s.size then false else true
set_option maxHeartbeats 1000000 in
theorem cany_any (s : ByteArray) (w : World) (h32 : s.size ≤ 1000000) : Calls Tryz.prog 147 #[.string s, .string two] w fun e w' => e = .returned (.bool (hasBad s)) ∧ Below w.heap.size w w' := by
  have CI := Lib.hid (iany_any s w h32)
  go_enter Tryz.func147, Tryz.ntmps147
  go_wp2_with fail
  refine CI.out.mono ?_
  rintro e w1 ⟨k, rfl, hk, hb⟩
  have HB := Lib.hid hb
  by_cases h : 0 ≤ k
  · have hh : hasBad s = true := by unfold hasBad; rw [if_neg (by rw [← hk]; omega)]
    have HH := Lib.hid hh
    clear hk hb hh
    go_wp2_with fail
    go_ret
    exact ⟨by rw [HH.out]; rfl, HB.out⟩
  · have hh : hasBad s = false := by unfold hasBad; rw [if_pos (by rw [← hk]; omega)]
    have HH := Lib.hid hh
    clear hk hb hh
    go_wp2_with fail
    go_ret
    exact ⟨by rw [HH.out, ← show decide (0 ≤ k) = false from decide_eq_false (by omega)]; rfl, HB.out⟩
open Classical in
noncomputable def mayB (l : List UInt8) : Bool := if 1 ≤ l.length ∧ l.length ≤ 32 ∧ ∀ c ∈ l, ¬ badC c then true else false
theorem nobad_iff (l : List UInt8) : NoBad (strB l) (strB l).size ↔ ∀ c ∈ l, ¬ badC c := by
  constructor
  · intro h c hc
    obtain ⟨i, hi, rfl⟩ := List.getElem_of_mem hc
    exact h i hi hi
  · intro h j hj _
    exact h _ (List.getElem_mem (by simpa [strB, ByteArray.size] using hj))
set_option maxHeartbeats 1000000 in
theorem may_any (l : List UInt8) : MayC l (mayB l) := by
  intro W
  have hsz : (strB l).size = l.length := rfl
  by_cases h0 : l = []
  · subst h0
    have hm : mayB [] = false := by unfold mayB; simp
    rw [hm]
    have he : (strB []).toList.isEmpty = true := by rw [ByteArray.toList_eq]; rfl
    go_enter Tryz.func101, Tryz.ntmps101
    go_wp2_with fail
    go_ret
    exact ⟨rfl, Below.refl _ _⟩
  · have he : (strB l).toList.isEmpty = false := by
      rw [ByteArray.toList_eq]
      show l.isEmpty = false
      cases l with
      | nil => exact absurd rfl h0
      | cons _ _ => rfl
    by_cases h32 : l.length ≤ 32
    · have hz : (l.length : Int) ≤ 32 := by omega
      have CC := Lib.hid (cany_any (strB l) W (by rw [hsz]; omega))
      have HM : Hid ((!hasBad (strB l)) = mayB l) := Lib.hid (by
        unfold hasBad mayB
        by_cases hb : NoBad (strB l) (strB l).size
        · rw [if_pos hb]
          have := (nobad_iff l).1 hb
          have hl : 1 ≤ l.length := by
            cases l with
            | nil => exact absurd rfl h0
            | cons _ _ => simp
          rw [if_pos ⟨hl, h32, this⟩]; rfl
        · rw [if_neg hb, if_neg (fun h => hb ((nobad_iff l).2 h.2.2))]; rfl)
      obtain ⟨bb, hbb⟩ : ∃ bb, bb = hasBad (strB l) := ⟨_, rfl⟩
      rw [← hbb] at HM CC
      clear hbb
      go_enter Tryz.func101, Tryz.ntmps101
      go_wp2_with fail
      refine CC.out.mono ?_
      rintro e w1 ⟨rfl, hb1⟩
      have HB := Lib.hid hb1
      clear hb1
      go_wp2_with fail
      go_ret
      exact ⟨by rw [← HM.out]; rfl, HB.out⟩
    · have hz : ¬ (l.length : Int) ≤ 32 := by omega
      have hm : mayB l = false := by unfold mayB; rw [if_neg (fun h => h32 h.2.1)]
      rw [hm]
      clear hm
      go_enter Tryz.func101, Tryz.ntmps101
      go_wp2_with fail
      go_ret
      exact ⟨rfl, Below.refl _ _⟩
end Go.Proofs.YtlojmmcagglpoaaGreat
namespace Go.Proofs.YtlojmmcagglpoaaGreat
open Go.RowKit Go.Maps
def Sam (h : Nat) (C C' : Nat → Nat) : Prop := ∀ b, b < h → C' b = C b
theorem Sam.refl (h : Nat) (C : Nat → Nat) : Sam h C C := fun _ _ => rfl
theorem Sam.trans {h h' : Nat} {C C' C'' : Nat → Nat} (a : Sam h C C') (b : Sam h' C' C'') (hh : h ≤ h') : Sam h C C'' := fun k hk => (b k (by omega)).trans (a k hk)
theorem Sam.mono {h h' : Nat} {C C' : Nat → Nat} (a : Sam h C C') (hh : h' ≤ h) : Sam h' C C' := fun k hk => a k (by omega)
def paint (C : Nat → Nat) (h : Nat) (c : Nat) : Nat → Nat := fun b => if b < h then C b else c
theorem sam_paint (C : Nat → Nat) (h : Nat) (c : Nat) : Sam h C (paint C h c) := fun _ hb => if_pos hb
theorem paint_new (C : Nat → Nat) {h b : Nat} (c : Nat) (hb : h ≤ b) : paint C h c b = c := if_neg (by omega)
theorem paint_old (C : Nat → Nat) {h b : Nat} (c : Nat) (hb : b < h) : paint C h c b = C b := if_pos hb
def Own (W : World) (p bf bn bs : Nat) (fl : Int → Option Nat) (b : Nat) : Prop := b = p ∨ b = bf ∨ b = bn ∨ b = bs ∨ ∃ i g, fl i = some g ∧ (b = g ∨ bytesAt W g b)
section
variable {W w' : World} {N p q : Nat} {d : Dk} {bf bn bs : Nat} {fl : Int → Option Nat}
theorem DW.own_lt (h : DW W N p q d bf bn bs fl) {b : Nat} (hb : Own W p bf bn bs fl b) : b < W.heap.size := by
  rcases hb with rfl | rfl | rfl | rfl | ⟨i, g, hg, rfl | hk⟩
  · exact h.bd.lt
  · exact h.mf.lt
  · exact h.mn.lt
  · exact h.ms.lt
  · obtain ⟨x, _, _, hx⟩ := h.at_ hg
    exact hx.lt
  · obtain ⟨x, _, _, hx⟩ := h.at_ hg
    obtain ⟨v, _, ho, hv⟩ := hx.bytes
    exact (ho.lt b ((hv b).1 hk)).2
theorem DW.own_lo (h : DW W N p q d bf bn bs fl) {b : Nat} (hb : Own W p bf bn bs fl b) : N ≤ b := by
  rcases hb with rfl | rfl | rfl | rfl | ⟨i, g, hg, rfl | hk⟩
  · exact h.lo.1
  · exact h.lo.2.1
  · exact h.lo.2.2.1
  · exact h.lo.2.2.2.1
  · obtain ⟨x, _, hn, _⟩ := h.at_ hg
    exact hn
  · obtain ⟨x, _, _, hx⟩ := h.at_ hg
    obtain ⟨v, _, ho, hv⟩ := hx.bytes
    exact (ho.lt b ((hv b).1 hk)).1
theorem DW.chg (h : DW W N p q d bf bn bs fl) {S : Nat → Prop} (hc : Chg S W w') (hS : ∀ b, Own W p bf bn bs fl b → ¬ S b) : DW w' N p q d bf bn bs fl ∧ ∀ b, Own w' p bf bn bs fl b → Own W p bf bn bs fl b := by
  have hg : ∀ {i g}, fl i = some g → ¬ S g := fun {i g} hi => hS g (.inr (.inr (.inr (.inr ⟨i, g, hi, .inl rfl⟩))))
  have hk : ∀ {i g}, fl i = some g → ∀ k, bytesAt w' g k → bytesAt W g k := fun {i g} hi k hk => by
    obtain ⟨x, _, _, hx⟩ := h.at_ hi
    obtain ⟨u, h1, h2⟩ := hk
    rw [hc.cell (p := ⟨g, 1, none⟩) hx.lt (hg hi)] at h1
    exact ⟨u, h1, h2⟩
  refine ⟨⟨h.bd.chg hc (hS _ (.inl rfl)), h.mf.chg hc (hS _ (.inr (.inl rfl))), h.mn.chg hc (hS _ (.inr (.inr (.inl rfl)))), h.ms.chg hc (hS _ (.inr (.inr (.inr (.inl rfl))))), h.lo, h.hf, fun i g x hi hx => ?_, h.ap, fun i j g g' k hi hj h1 h2 => h.ab i j g g' k hi hj (hk hi k h1) (hk hj k h2)⟩, fun b hb => ?_⟩
  · obtain ⟨hn, hf⟩ := h.fw i g x hi hx
    obtain ⟨v, h1, h2, h3⟩ := hf.bytes
    exact ⟨hn, v, h1.chg hc (hg hi), hc.ob h2 (fun k hk => hS k (.inr (.inr (.inr (.inr ⟨i, g, hi, .inr ((h3 k).2 hk)⟩)))))⟩
  · rcases hb with rfl | rfl | rfl | rfl | ⟨i, g, hi, rfl | h1⟩
    · exact .inl rfl
    · exact .inr (.inl rfl)
    · exact .inr (.inr (.inl rfl))
    · exact .inr (.inr (.inr (.inl rfl)))
    · exact .inr (.inr (.inr (.inr ⟨i, _, hi, .inl rfl⟩)))
    · exact .inr (.inr (.inr (.inr ⟨i, g, hi, .inr (hk hi b h1)⟩)))
end
structure DC (W : World) (N : Nat) (C : Nat → Nat) (c p n : Nat) (d : Dk) : Prop where
  ok : d.Ok n
  dw : ∃ bf bn bs fl, DW W N p n d bf bn bs fl ∧ ∀ b, Own W p bf bn bs fl b → C b = c
section
variable {W w' : World} {N : Nat} {C C' : Nat → Nat} {c p n n' : Nat} {d : Dk}
theorem DC.step (h : DC W N C c p n d) {S : Nat → Prop} (hc : Chg S W w') (hs : Sam W.heap.size C C') (hS : ∀ b, S b → C b ≠ c) : DC w' N C' c p n d := by
  obtain ⟨h0, bf, bn, bs, fl, h1, h2⟩ := h
  obtain ⟨h3, h4⟩ := h1.chg hc (fun b hb hs => hS b hs (h2 b hb))
  exact ⟨h0, bf, bn, bs, fl, h3, fun b hb => by rw [hs b (h1.own_lt (h4 b hb))]; exact h2 b (h4 b hb)⟩
theorem DC.keep (h : DC W N C c p n d) (hb : Below W.heap.size W w') (hs : Sam W.heap.size C C') : DC w' N C' c p n d := h.step (Chg.of_below hb (fun _ => False)) hs (fun _ h => h.elim)
theorem DC.more (h : DC W N C c p n d) (hn : n ≤ n') (hb : n' < 1000000) : DC W N C c p n' d := by
  obtain ⟨h0, bf, bn, bs, fl, h1, h2⟩ := h
  exact ⟨h0.more hn hb, bf, bn, bs, fl, ⟨h1.bd, h1.mf.mono hn, h1.mn.mono hn, h1.ms.mono hn, h1.lo, h1.hf, h1.fw, h1.ap, h1.ab⟩, h2⟩
theorem DC.of {bf bn bs : Nat} {fl fl' : Int → Option Nat} {d' : Dk} {q' : Nat} {S : Nat → Prop} (h1 : DW W N p n d bf bn bs fl) (h2 : ∀ b, Own W p bf bn bs fl b → C b = c) (hok : d'.Ok n') (hq : q' ≤ n') (hd : DW w' N p q' d' bf bn bs fl') (hc : Chg S W w') (hS : ∀ b, S b → b < W.heap.size → Own W p bf bn bs fl b) (hg : Gr W fl w' fl') :
    DC w' N (paint C W.heap.size c) c p n' d' ∧ Chg (fun b => C b = c) W w' := by
  refine ⟨⟨hok, bf, bn, bs, fl', ⟨hd.bd, hd.mf.mono hq, hd.mn.mono hq, hd.ms.mono hq, hd.lo, hd.hf, hd.fw, hd.ap, hd.ab⟩, fun b hb => ?_⟩, hc.mono (fun b hb hs => h2 b (hS b hs hb))⟩
  by_cases hlt : b < W.heap.size
  · rw [paint_old C c hlt]
    refine h2 b ?_
    rcases hb with rfl | rfl | rfl | rfl | ⟨i, g, hi, hbg⟩
    · exact .inl rfl
    · exact .inr (.inl rfl)
    · exact .inr (.inr (.inl rfl))
    · exact .inr (.inr (.inr (.inl rfl)))
    · rcases hg i g hi with ⟨h3, h4⟩ | ⟨h3, h4⟩
      · rcases hbg with rfl | hk
        · exact .inr (.inr (.inr (.inr ⟨i, _, h3, .inl rfl⟩)))
        · rcases h4 b hk with h5 | h5
          · exact .inr (.inr (.inr (.inr ⟨i, g, h3, .inr h5⟩)))
          · omega
      · rcases hbg with rfl | hk
        · omega
        · have := h4 b hk; omega
  · exact paint_new C c (by omega)
end
def Dk.file (d : Dk) (nm : List UInt8) : Option (Int × Fl) := (d.ns nm).bind fun i => (d.fs i).map fun x => (i, x)
theorem Dk.Ok.file {d : Dk} {n : Nat} (h : d.Ok n) {nm : List UInt8} {i : Int} (hi : d.ns nm = some i) : ∃ x, d.fs i = some x ∧ x.nm = nm ∧ d.file nm = some (i, x) := by
  obtain ⟨x, hx, hn⟩ := h.at_ nm i hi
  exact ⟨x, hx, hn, by unfold Dk.file; rw [hi]; simp [hx]⟩
theorem Dk.file_none {d : Dk} {nm : List UInt8} (hi : d.ns nm = none) : d.file nm = none := by unfold Dk.file; rw [hi]; rfl
/-! ### What each call answers, and the disk behind it -/
noncomputable def Dk.create (d : Dk) (nm : List UInt8) : Int × Dk := if mayB nm = true then (match d.ns nm with | some _ => (142, d) | none => (0, d.made nm)) else (140, d)
noncomputable def Dk.append (d : Dk) (nm l : List UInt8) : Int × Dk := if mayB nm = true then (match d.file nm with | none => (141, d) | some (i, x) => if 1048576 < x.by_.length + l.length then (145, d) else (0, d.app i x l)) else (140, d)
noncomputable def Dk.edits (d : Dk) (nm : List UInt8) (f : Fl → Fl) : Int × Dk := if mayB nm = true then (match d.file nm with | none => (141, d) | some (i, x) => (0, d.edit i (f x))) else (140, d)
noncomputable def Dk.cut (d : Dk) (nm : List UInt8) : Int × Dk := d.edits nm (fun x => x.kept 0)
noncomputable def Dk.sync (d : Dk) (nm : List UInt8) : Int × Dk := d.edits nm (fun x => { x with la := x.by_.length })
noncomputable def Dk.remove (d : Dk) (nm : List UInt8) : Int × Dk := if mayB nm = true then (match d.ns nm with | none => (141, d) | some i => (0, d.less nm i)) else (140, d)
open Classical in
noncomputable def Dk.rename (d : Dk) (old other : List UInt8) : Int × Dk := if (mayB old && mayB other) = true then (match d.file old with | none => (141, d) | some (i, x) => if old = other then (0, d) else (0, d.ren old other i x)) else (140, d)
noncomputable def Dk.stat (d : Dk) (nm : List UInt8) : Value × Int := if mayB nm = true then (match d.file nm with | none => (statV 0 0 0 0, 141) | some (i, x) => (statV i ((d.se nm).getD 0) (x.ge : Int) (x.by_.length : Int), 0)) else (statV 0 0 0 0, 140)
def Dk.inode (d : Dk) (i : Int) : Value × Int := match d.fs i with | none => (statV 0 0 0 0, 143) | some x => (statV i ((d.se x.nm).getD 0) (x.ge : Int) (x.by_.length : Int), 0)
open Classical in
noncomputable def Dk.read (d : Dk) (i gen off size : Int) : List UInt8 × Int := if off < 0 ∨ size < 0 then ([], 1) else match d.fs i with | none => ([], 143) | some x => if (x.ge : Int) ≠ gen then ([], 144) else ((x.by_.drop off.toNat).take size.toNat, 0)
def StepQ (W : World) (N : Nat) (C : Nat → Nat) (c p n : Nat) (r : Int × Dk) (e : Ending) (w' : World) : Prop :=
  e = .returned (.int .i64 r.1) ∧ DC w' N (paint C W.heap.size c) c p n r.2 ∧ Chg (fun b => C b = c) W w'
section
variable {W : World} {N : Nat} {C : Nat → Nat} {c p n : Nat} {d : Dk}
theorem StepQ.same (h : DC W N C c p n d) (hn : n + 2 < 1000000) {v : Int} {e : Ending} {w' : World} (he : e = .returned (.int .i64 v)) (hb : Below W.heap.size W w') : StepQ W N C c p (n + 2) (v, d) e w' :=
  ⟨he, (h.keep hb (sam_paint _ _ _)).more (by omega) hn, Chg.of_below hb _⟩
theorem create_c (h : DC W N C c p n d) (hn : n + 2 < 1000000) (nm : List UInt8) (hl : okName nm) : Calls Tryz.prog 46 #[.pointer (some ⟨p, 0, none⟩), .string (strB nm)] W (StepQ W N C c p (n + 2) (d.create nm)) := by
  have hm := may_any nm
  unfold Dk.create
  cases hb : mayB nm with
  | false =>
    rw [hb] at hm
    exact (create_bad p nm hm).mono fun e w' ⟨h1, h2⟩ => .same h hn h1 h2
  | true =>
    rw [hb] at hm
    obtain ⟨bf, bn, bs, fl, h1, h2⟩ := h.dw
    refine (create_any h1 h.ok nm hl hm hn hn).mono ?_
    rintro e w' (⟨i, hi, he, hb⟩ | ⟨hi, he, g, hg, hd, hc, hgr⟩)
    · rw [if_pos rfl, hi]; exact .same h hn he hb
    · rw [if_pos rfl, hi]
      exact ⟨he, DC.of h1 h2 (h.ok.made hn hi hl) (Nat.le_refl _) hd hc (fun b hb _ => by
        rcases hb with e | e | e | e
        · exact .inl e
        · exact .inr (.inl e)
        · exact .inr (.inr (.inl e))
        · exact .inr (.inr (.inr (.inl e)))) hgr⟩
theorem append_c (h : DC W N C c p n d) (hn : n + 2 < 1000000) (nm : List UInt8) (hl : okName nm) (A : Option Addr) (m cp : Nat) (l : List UInt8) (hr : RB W A m l) (hm1 : m ≤ 1000000000) : Calls Tryz.prog 47 #[.pointer (some ⟨p, 0, none⟩), .string (strB nm), .slice A m cp] W (StepQ W N C c p (n + 2) (d.append nm l)) := by
  have hm := may_any nm
  unfold Dk.append
  cases hb : mayB nm with
  | false =>
    rw [hb] at hm
    exact (append_bad p nm hm A m cp).mono fun e w' ⟨h1, h2⟩ => .same h hn h1 h2
  | true =>
    rw [hb] at hm
    obtain ⟨bf, bn, bs, fl, h1, h2⟩ := h.dw
    refine (append_any h1 h.ok nm hl hm A m cp l hr hm1).mono ?_
    rintro e w' (⟨hi, he, hb⟩ | ⟨i, x, hi, hx, hf, he, hb⟩ | ⟨i, x, g, hi, hx, hg, hf, he, hd, hc, hgr⟩)
    · rw [if_pos rfl, Dk.file_none hi]; exact .same h hn he hb
    · obtain ⟨y, hy, _, hfl⟩ := h.ok.file hi
      rw [hx] at hy
      obtain rfl := Option.some.inj hy
      rw [if_pos rfl, hfl]
      simp only
      rw [if_pos hf]; exact .same h hn he hb
    · obtain ⟨y, hy, _, hfl⟩ := h.ok.file hi
      rw [hx] at hy
      obtain rfl := Option.some.inj hy
      rw [if_pos rfl, hfl]
      simp only
      rw [if_neg (by omega)]
      exact ⟨he, DC.of h1 h2 ((h.ok.app hx l hf).more (by omega) hn) (by omega) hd hc (fun b hb _ => by
        rcases hb with e | e
        · exact .inr (.inr (.inr (.inr ⟨i, g, hg, .inl e⟩)))
        · exact .inr (.inr (.inr (.inr ⟨i, g, hg, .inr e⟩)))) hgr⟩
theorem edits_c (h : DC W N C c p n d) (hn : n + 2 < 1000000) {nm : List UInt8} (hb : mayB nm = true) {f : Fl → Fl} (hf : ∀ i x, d.fs i = some x → (f x).nm = x.nm ∧ (f x).by_.length ≤ 1048576 ∧ (f x).la ≤ (f x).by_.length ∧ (f x).ge ≤ n + 1) {bf bn bs : Nat} {fl : Int → Option Nat} (h1 : DW W N p n d bf bn bs fl) (h2 : ∀ b, Own W p bf bn bs fl b → C b = c) {e : Ending} {w' : World} (hq : EdQ W N p n d bf bn bs fl nm f e w') : StepQ W N C c p (n + 2) (d.edits nm f) e w' := by
  unfold Dk.edits
  rcases hq with ⟨hi, he, hb'⟩ | ⟨i, x, g, hi, hx, hg, he, hd, hc, hgr⟩
  · rw [if_pos hb, Dk.file_none hi]; exact .same h hn he hb'
  · obtain ⟨y, hy, _, hfl⟩ := h.ok.file hi
    rw [hx] at hy
    obtain rfl := Option.some.inj hy
    rw [if_pos hb, hfl]
    obtain ⟨q1, q2, q3, q4⟩ := hf i x hx
    exact ⟨he, DC.of h1 h2 (h.ok.edit (by omega) hn hx (f x) q1 q2 q3 (by omega)) (by omega) hd hc (fun b hb _ => .inr (.inr (.inr (.inr ⟨i, g, hg, .inl hb⟩)))) hgr⟩
theorem kept_ok (h : d.Ok n) {i : Int} {x : Fl} (hx : d.fs i = some x) (k : Nat) : (x.kept k).nm = x.nm ∧ (x.kept k).by_.length ≤ 1048576 ∧ (x.kept k).la ≤ (x.kept k).by_.length ∧ (x.kept k).ge ≤ n + 1 := by
  have h1 := h.len i x hx
  have h2 := h.la i x hx
  have h3 := h.ge i x hx
  unfold Fl.kept
  by_cases hk : k < x.by_.length
  · rw [if_pos hk]
    refine ⟨rfl, ?_, ?_, ?_⟩ <;> simp <;> omega
  · rw [if_neg hk]
    refine ⟨rfl, h1, ?_, by show x.ge ≤ _; omega⟩
    show min x.la k ≤ x.by_.length
    omega
theorem cut_c (h : DC W N C c p n d) (hn : n + 2 < 1000000) (nm : List UInt8) (hl : okName nm) : Calls Tryz.prog 53 #[.pointer (some ⟨p, 0, none⟩), .string (strB nm)] W (StepQ W N C c p (n + 2) (d.cut nm)) := by
  have hm := may_any nm
  unfold Dk.cut
  cases hb : mayB nm with
  | false =>
    rw [hb] at hm
    unfold Dk.edits
    rw [hb]
    exact (cut_bad p nm hm).mono fun e w' ⟨h1, h2⟩ => .same h hn h1 h2
  | true =>
    rw [hb] at hm
    obtain ⟨bf, bn, bs, fl, h1, h2⟩ := h.dw
    exact (cut_any h1 h.ok nm hl hm).mono fun e w' hq => edits_c h hn hb (fun i x hx => kept_ok h.ok hx 0) h1 h2 hq
theorem sync_c (h : DC W N C c p n d) (hn : n + 2 < 1000000) (nm : List UInt8) (hl : okName nm) : Calls Tryz.prog 48 #[.pointer (some ⟨p, 0, none⟩), .string (strB nm)] W (StepQ W N C c p (n + 2) (d.sync nm)) := by
  have hm := may_any nm
  unfold Dk.sync
  cases hb : mayB nm with
  | false =>
    rw [hb] at hm
    unfold Dk.edits
    rw [hb]
    exact (sync_bad p nm hm).mono fun e w' ⟨h1, h2⟩ => .same h hn h1 h2
  | true =>
    rw [hb] at hm
    obtain ⟨bf, bn, bs, fl, h1, h2⟩ := h.dw
    exact (sync_any h1 h.ok nm hl hm).mono fun e w' hq => edits_c (f := fun x => { x with la := x.by_.length }) h hn hb (fun i x hx => ⟨rfl, h.ok.len i x hx, Nat.le_refl _, Nat.le_succ_of_le (h.ok.ge i x hx)⟩) h1 h2 hq
theorem remove_c (h : DC W N C c p n d) (hn : n + 2 < 1000000) (nm : List UInt8) (hl : okName nm) : Calls Tryz.prog 54 #[.pointer (some ⟨p, 0, none⟩), .string (strB nm)] W (StepQ W N C c p (n + 2) (d.remove nm)) := by
  have hm := may_any nm
  unfold Dk.remove
  cases hb : mayB nm with
  | false =>
    rw [hb] at hm
    exact (remove_bad p nm hm).mono fun e w' ⟨h1, h2⟩ => .same h hn h1 h2
  | true =>
    rw [hb] at hm
    obtain ⟨bf, bn, bs, fl, h1, h2⟩ := h.dw
    refine (remove_any h1 h.ok nm hl hm).mono ?_
    rintro e w' (⟨hi, he, hb⟩ | ⟨i, hi, he, hd, hc, hgr⟩)
    · rw [if_pos rfl, hi]; exact .same h hn he hb
    · rw [if_pos rfl, hi]
      exact ⟨he, DC.of h1 h2 ((h.ok.less hi).more (by omega) hn) (by omega) hd hc (fun b hb _ => by
        rcases hb with e | e | e | e
        · exact .inl e
        · exact .inr (.inl e)
        · exact .inr (.inr (.inl e))
        · exact .inr (.inr (.inr (.inl e)))) hgr⟩
theorem rename_c (h : DC W N C c p n d) (hn : n + 2 < 1000000) (old other : List UInt8) (hl : okName old) (hl2 : okName other) : Calls Tryz.prog 51 #[.pointer (some ⟨p, 0, none⟩), .string (strB old), .string (strB other)] W (StepQ W N C c p (n + 2) (d.rename old other)) := by
  have hm := may_any old
  have hm2 := may_any other
  unfold Dk.rename
  cases hb : (mayB old && mayB other) with
  | false => exact (rename_bad p old other _ _ hm hm2 hb).mono fun e w' ⟨h1, h2⟩ => .same h hn h1 h2
  | true =>
    rw [Bool.and_eq_true] at hb
    rw [hb.1] at hm
    rw [hb.2] at hm2
    obtain ⟨bf, bn, bs, fl, h1, h2⟩ := h.dw
    refine (rename_any h1 h.ok old other hl hl2 hm hm2 (by omega) (by omega)).mono ?_
    rintro e w' (⟨hi, he, hb⟩ | ⟨i, hi, hoo, he, hb⟩ | ⟨i, x, g, hi, hoo, hx, hg, he, hd, hc, hgr⟩)
    · rw [if_pos rfl, Dk.file_none hi]; exact .same h hn he hb
    · obtain ⟨y, hy, _, hfl⟩ := h.ok.file hi
      rw [if_pos rfl, hfl]
      simp only
      rw [if_pos hoo]; exact .same h hn he hb
    · obtain ⟨y, hy, _, hfl⟩ := h.ok.file hi
      rw [hx] at hy
      obtain rfl := Option.some.inj hy
      rw [if_pos rfl, hfl]
      simp only
      rw [if_neg hoo]
      exact ⟨he, DC.of h1 h2 ((h.ok.ren (by omega) hoo hi hx hl2).more (by omega) hn) (by omega) hd hc (fun b hb _ => by
        rcases hb with e | e | e | e | e
        · exact .inr (.inr (.inr (.inr ⟨i, g, hg, .inl e⟩)))
        · exact .inl e
        · exact .inr (.inl e)
        · exact .inr (.inr (.inl e))
        · exact .inr (.inr (.inr (.inl e)))) hgr⟩
def AskQ (W : World) (r : Value × Int) (e : Ending) (w' : World) : Prop := e = .returned (.tuple #[r.1, .int .i64 r.2]) ∧ Below W.heap.size W w'
theorem stat_c (h : DC W N C c p n d) (nm : List UInt8) (hl : okName nm) : Calls Tryz.prog 44 #[.pointer (some ⟨p, 0, none⟩), .string (strB nm)] W (AskQ W (d.stat nm)) := by
  have hm := may_any nm
  unfold Dk.stat
  cases hb : mayB nm with
  | false =>
    rw [hb] at hm
    exact (stat_bad p nm hm).mono fun e w' h => h
  | true =>
    rw [hb] at hm
    obtain ⟨bf, bn, bs, fl, h1, h2⟩ := h.dw
    refine (stat_any h1 h.ok nm hl hm).mono ?_
    rintro e w' ⟨hb, ⟨hi, he⟩ | ⟨i, x, hi, hx, he⟩⟩
    · rw [if_pos rfl, Dk.file_none hi]; exact ⟨he, hb⟩
    · obtain ⟨y, hy, _, hfl⟩ := h.ok.file hi
      rw [hx] at hy
      obtain rfl := Option.some.inj hy
      rw [if_pos rfl, hfl]
      exact ⟨he, hb⟩
theorem inode_c (h : DC W N C c p n d) (i : Int) (hi : okInt i) : Calls Tryz.prog 52 #[.pointer (some ⟨p, 0, none⟩), .int .i64 i] W (AskQ W (d.inode i)) := by
  obtain ⟨bf, bn, bs, fl, h1, h2⟩ := h.dw
  unfold Dk.inode
  refine (inode_any h1 h.ok i hi (fun x hx => h.ok.nok i x hx)).mono ?_
  rintro e w' ⟨hb, ⟨hi, he⟩ | ⟨x, hi, he⟩⟩
  · rw [hi]; exact ⟨he, hb⟩
  · rw [hi]; exact ⟨he, hb⟩
def BytesQ (W : World) (r : List UInt8 × Int) (e : Ending) (w' : World) : Prop := ∃ v, e = .returned (.tuple #[v, .int .i64 r.2]) ∧ OB w' W.heap.size v r.1 ∧ Below W.heap.size W w'
theorem read_c (h : DC W N C c p n d) (i gen off size : Int) (hi : okInt i) (hoff : okInt off) (hsize : okInt size) : Calls Tryz.prog 50 #[.pointer (some ⟨p, 0, none⟩), .int .i64 i, .int .i64 gen, .int .i64 off, .int .i64 size] W (BytesQ W (d.read i gen off size)) := by
  obtain ⟨bf, bn, bs, fl, h1, h2⟩ := h.dw
  unfold Dk.read
  refine (read_any h1 h.ok i gen off size hi hoff hsize).mono ?_
  rintro e w' ⟨hb, ⟨h0, he⟩ | ⟨h3, h4, hx, he⟩ | ⟨x, h3, h4, hx, ⟨hg, he⟩ | ⟨hg, v, he, ho⟩⟩⟩
  · rw [if_pos h0]; exact ⟨_, he, OB.nil _ _, hb⟩
  · rw [if_neg (by omega), hx]; exact ⟨_, he, OB.nil _ _, hb⟩
  · rw [if_neg (by omega), hx]
    simp only
    rw [if_pos hg]; exact ⟨_, he, OB.nil _ _, hb⟩
  · rw [if_neg (by omega), hx]
    simp only
    rw [if_neg (by simpa using hg)]; exact ⟨v, he, ho, hb⟩
def MadeQ (W : World) (C : Nat → Nat) (c : Nat) (e : Ending) (w' : World) : Prop := ∃ p, e = .returned (.pointer (some ⟨p, 0, none⟩)) ∧ W.heap.size ≤ p ∧ DC w' W.heap.size (paint C W.heap.size c) c p 0 emptyD ∧ Below W.heap.size W w'
theorem new_c (W : World) (C : Nat → Nat) (c : Nat) : Calls Tryz.prog 8 #[] W (MadeQ W C c) := by
  refine (new_any W).mono ?_
  rintro e w' ⟨p, bf, bn, bs, he, hd, hb⟩
  exact ⟨p, he, hd.lo.1, ⟨.empty, bf, bn, bs, _, hd, fun b hb => paint_new C c (hd.own_lo hb)⟩, hb⟩
end
end Go.Proofs.YtlojmmcagglpoaaGreat
