/- THE WALKS of the disk's calls at a name that may not be (printed by a program of ours). -/
import Derived.Test.YtlojmmcagglpoaaZDiskAppend
import Derived.Test.YtlojmmcagglpoaaZDiskRead
import Derived.BigRegion
import Derived.Laws.ResultCell
namespace Go.Proofs.Ytlojmmcagglpoaa
open Go.RowKit Go.Maps
def statV (i s g n : Int) : Value := .agg #[.int .i64 i, .int .i64 s, .int .i64 g, .int .i64 n]
def InoQ (W : World) (d : Dk) (i : Int) (e : Ending) (w' : World) : Prop :=
  Below W.heap.size W w' ∧ ((d.fs i = none ∧ e = .returned (.tuple #[statV 0 0 0 0, .int .i64 143])) ∨ ∃ x, d.fs i = some x ∧ e = .returned (.tuple #[statV i ((d.se x.nm).getD 0) (x.ge : Int) (x.by_.length : Int), .int .i64 0]))
theorem ret_stat {w : World} {b : Nat} {dc : Array Value} {u : Tmp} {p : Tmp} {k : Int} {fn : Func} {tmps : Array Value} (hf : fn.results = #[.cell p 71, .tmp u]) (hp : tmps.getD p undef = .pointer (some ⟨b, 0, none⟩)) (hu : tmps.getD u undef = .int .i64 k) (h : Blk w b 71 dc) (hs : dc.size = 4) :
    (results fn tmps).run Try.prog w = .ok (.tuple #[.agg dc, .int .i64 k]) w := by
  have h4 : (Try.prog.info? 71).map (·.size) = some 4 := by kernel_rfl
  rw [results_cell_tmp hf, hp, hu]
  simp only [asAddr, Sem.run_pure, Result.andThen, run_loadVar_row w b 71 71 dc (0, 0) _ h Try.underlying71 rfl (by rw [h4, hs])]
set_option maxRecDepth 20000 in
set_option maxHeartbeats 1000000 in
theorem inode_any {W : World} {N p q qq : Nat} {d : Dk} {bf bn bs : Nat} {fl : Int → Option Nat} (h : DW W N p q d bf bn bs fl) (hd : d.Ok qq) (i : Int) (hi : okInt i) (hl : ∀ x, d.fs i = some x → okName x.nm) :
    Calls Try.prog 57 #[.pointer (some ⟨p, 0, none⟩), .int .i64 i] W (InoQ W d i) := by
  have H := Lib.hid h; have HD := Lib.hid hd; have HL := Lib.hid hl
  clear h hd hl
  go_enter Try.func57, Try.ntmps57
  go_upto_region 1 with fail
  obtain ⟨r, hr⟩ : ∃ r, r = W.heap.size := ⟨_, rfl⟩
  obtain ⟨w1, hw1⟩ : ∃ w1, w1 = W.alloc (.cells #[.int .i64 0, .int .i64 0, .int .i64 0, .int .i64 0] 71) := ⟨_, rfl⟩
  have B1 := Lib.hid (show Below W.heap.size W w1 by rw [hw1]; exact (Below.refl _ _).alloc (Nat.le_refl _) _)
  have R1 := Lib.hid (show Blk w1 r 71 #[.int .i64 0, .int .i64 0, .int .i64 0, .int .i64 0] by rw [hw1]; exact Blk.new W 71 _ hr)
  rw [← hw1, ← hr]
  have H1 := Lib.hid (H.out.keep B1.out)
  have c0 : w1.cell? ⟨p, 0, none⟩ = some (.map (some bf)) := (H1.out.bd.cell 0).trans rfl
  have l0 := H1.out.mf.look_ok mrFiles intK Try.underlying91 (zero_fptr w1) hi
  unfold iV' at l0
  have r0 : w1.cell? ⟨r, 0, none⟩ = some (.int .i64 0) := (R1.out.cell 0).trans rfl
  have r1 : w1.cell? ⟨r, 1, none⟩ = some (.int .i64 0) := (R1.out.cell 1).trans rfl
  have r2 : w1.cell? ⟨r, 2, none⟩ = some (.int .i64 0) := (R1.out.cell 2).trans rfl
  have r3 : w1.cell? ⟨r, 3, none⟩ = some (.int .i64 0) := (R1.out.cell 3).trans rfl
  have f0 : w1.frozen? ⟨r, 0, none⟩ = false := R1.out.frozen 0
  have f1 : w1.frozen? ⟨r, 1, none⟩ = false := R1.out.frozen 1
  have f2 : w1.frozen? ⟨r, 2, none⟩ = false := R1.out.frozen 2
  have f3 : w1.frozen? ⟨r, 3, none⟩ = false := R1.out.frozen 3
  have HW1 := Lib.hid hw1; have HR := Lib.hid hr
  clear hw1 hr
  cases hx : d.fs i with
  | none =>
    have hg : fl i = none := by
      have := H.out.hf i
      rw [hx] at this
      exact Option.isNone_iff_eq_none.1 (by simpa using this)
    rw [hg] at l0
    unfold lookV at l0
    have HX := Lib.hid hx
    clear hx hg
    go_wp2_with fail
    have hB := ((((R1.out.set_ 0 (.int .i64 0)).set_ 1 (.int .i64 0)).set_ 2 (.int .i64 0)).set_ 3 (.int .i64 0))
    have hC : Below W.heap.size W ((((w1.setCell ⟨r, 0, none⟩ (.int .i64 0)).setCell ⟨r, 1, none⟩ (.int .i64 0)).setCell ⟨r, 2, none⟩ (.int .i64 0)).setCell ⟨r, 3, none⟩ (.int .i64 0)) := by
      have hr := HR.out
      exact (((B1.out.setCell (by show W.heap.size ≤ r; omega) _).setCell (by show W.heap.size ≤ r; omega) _).setCell (by show W.heap.size ≤ r; omega) _).setCell (by show W.heap.size ≤ r; omega) _
    refine bodyPost_ret (v := .tuple #[statV 0 0 0 0, .int .i64 143]) (ret_stat rfl rfl rfl hB rfl) rfl ?_
    exact ⟨hC, .inl ⟨HX.out, rfl⟩⟩
  | some x =>
    obtain ⟨g, hg⟩ : ∃ g, fl i = some g := by
      have := H.out.hf i
      rw [hx] at this
      exact Option.isSome_iff_exists.1 this
    rw [hg] at l0
    unfold lookV pV at l0
    obtain ⟨hNg, v, hbk, ho⟩ := H1.out.fw i g x hg hx
    obtain ⟨Av, cv, rfl, hcap, hcap2, _⟩ := OB.form ho
    have c2 : w1.cell? ⟨p, 2, none⟩ = some (.map (some bs)) := (H1.out.bd.cell 2).trans rfl
    have l3 := (FM.block (w' := w1.drew) H1.out.ms rfl).look mrNames strK Try.underlying92 (zero_int w1.drew) (HL.out x hx)
    have e3 : lookV iV' (.int .i64 0) (d.se x.nm) = .int .i64 ((d.se x.nm).getD 0) := by
      cases d.se x.nm <;> rfl
    rw [e3] at l3
    unfold sV at l3
    obtain ⟨sv, hsv⟩ : ∃ sv : Int, sv = (d.se x.nm).getD 0 := ⟨_, rfl⟩
    rw [← hsv] at l3
    have g0 : w1.cell? ⟨g, 0, none⟩ = some (.string (strB x.nm)) := (hbk.cell 0).trans rfl
    have g1 : w1.cell? ⟨g, 1, none⟩ = some (.slice Av x.by_.length cv) := (hbk.cell 1).trans rfl
    have g3 : w1.cell? ⟨g, 3, none⟩ = some (.int .i64 (x.ge : Int)) := (hbk.cell 3).trans rfl
    have HX := Lib.hid hx; have HSV := Lib.hid hsv
    clear hx hg hsv hbk ho e3
    go_upto_region 4 with fail
    have RD : Blk w1.drew r 71 #[.int .i64 0, .int .i64 0, .int .i64 0, .int .i64 0] := R1.out
    have BD : Below W.heap.size W w1.drew := B1.out.trans ⟨rfl, rfl, rfl, Nat.le_refl _, fun _ _ => rfl⟩
    have hB := ((((RD.set_ 0 (.int .i64 i)).set_ 1 (.int .i64 sv)).set_ 2 (.int .i64 (x.ge : Int))).set_ 3 (.int .i64 (x.by_.length : Int)))
    have hC : Below W.heap.size W ((((w1.drew.setCell ⟨r, 0, none⟩ (.int .i64 i)).setCell ⟨r, 1, none⟩ (.int .i64 sv)).setCell ⟨r, 2, none⟩ (.int .i64 (x.ge : Int))).setCell ⟨r, 3, none⟩ (.int .i64 (x.by_.length : Int))) := by
      have hr := HR.out
      exact (((BD.setCell (by show W.heap.size ≤ r; omega) _).setCell (by show W.heap.size ≤ r; omega) _).setCell (by show W.heap.size ≤ r; omega) _).setCell (by show W.heap.size ≤ r; omega) _
    have HBK := Lib.hid hB; have HC := Lib.hid hC
    clear hB hC RD BD
    go_region
    go_wp2_with fail
    refine bodyPost_ret (v := .tuple #[statV i sv (x.ge : Int) (x.by_.length : Int), .int .i64 0]) (ret_stat rfl rfl rfl HBK.out rfl) rfl ?_
    exact ⟨HC.out, .inr ⟨x, HX.out, by rw [HSV.out]⟩⟩
end Go.Proofs.Ytlojmmcagglpoaa
namespace Go.Proofs.Ytlojmmcagglpoaa
open Go.RowKit Go.Maps
def StatQ (W : World) (d : Dk) (nm : List UInt8) (e : Ending) (w' : World) : Prop :=
  Below W.heap.size W w' ∧ ((d.ns nm = none ∧ e = .returned (.tuple #[statV 0 0 0 0, .int .i64 141])) ∨ ∃ i x, d.ns nm = some i ∧ d.fs i = some x ∧ e = .returned (.tuple #[statV i ((d.se nm).getD 0) (x.ge : Int) (x.by_.length : Int), .int .i64 0]))
set_option maxRecDepth 20000 in
set_option maxHeartbeats 1000000 in
theorem stat_any {W : World} {N p q qq : Nat} {d : Dk} {bf bn bs : Nat} {fl : Int → Option Nat} (h : DW W N p q d bf bn bs fl) (hd : d.Ok qq) (nm : List UInt8) (hl : okName nm) (hm : MayC nm true) :
    Calls Try.prog 23 #[.pointer (some ⟨p, 0, none⟩), .string (strB nm)] W (StatQ W d nm) := by
  have H := Lib.hid h; have HD := Lib.hid hd; have HM := Lib.hid hm
  clear h hd hm
  go_enter Try.func23, Try.ntmps23
  go_upto_region 1 with fail
  obtain ⟨r, hr⟩ : ∃ r, r = W.heap.size := ⟨_, rfl⟩
  obtain ⟨w1, hw1⟩ : ∃ w1, w1 = W.alloc (.cells #[.int .i64 0, .int .i64 0, .int .i64 0, .int .i64 0] 71) := ⟨_, rfl⟩
  have B1 := Lib.hid (show Below W.heap.size W w1 by rw [hw1]; exact (Below.refl _ _).alloc (Nat.le_refl _) _)
  have R1 := Lib.hid (show Blk w1 r 71 #[.int .i64 0, .int .i64 0, .int .i64 0, .int .i64 0] by rw [hw1]; exact Blk.new W 71 _ hr)
  rw [← hw1, ← hr]
  have H1 := Lib.hid (H.out.keep B1.out)
  have HR := Lib.hid hr
  clear hw1 hr
  go_wp2_with fail
  refine (of_any H1.out HD.out.okInt nm hl HM.out).mono ?_
  rintro e w2 ⟨hb2, hq⟩
  have B2 := Lib.hid (show Below W.heap.size W w2 from ⟨hb2.os.trans B1.out.os, hb2.tape.trans B1.out.tape, hb2.output.trans B1.out.output, Nat.le_trans B1.out.size hb2.size, fun k hk => (hb2.block k (Nat.lt_of_lt_of_le hk B1.out.size)).trans (B1.out.block k hk)⟩)
  have R2 := Lib.hid (R1.out.keep hb2)
  have H2 := Lib.hid (H1.out.keep hb2)
  clear hb2
  rcases hq with ⟨h1, rfl⟩ | ⟨i, h1, rfl⟩
  · have HN := Lib.hid h1
    clear h1
    have r0 : w2.cell? ⟨r, 0, none⟩ = some (.int .i64 0) := (R2.out.cell 0).trans rfl
    have r1 : w2.cell? ⟨r, 1, none⟩ = some (.int .i64 0) := (R2.out.cell 1).trans rfl
    have r2 : w2.cell? ⟨r, 2, none⟩ = some (.int .i64 0) := (R2.out.cell 2).trans rfl
    have r3 : w2.cell? ⟨r, 3, none⟩ = some (.int .i64 0) := (R2.out.cell 3).trans rfl
    have f0 : w2.frozen? ⟨r, 0, none⟩ = false := R2.out.frozen 0
    have f1 : w2.frozen? ⟨r, 1, none⟩ = false := R2.out.frozen 1
    have f2 : w2.frozen? ⟨r, 2, none⟩ = false := R2.out.frozen 2
    have f3 : w2.frozen? ⟨r, 3, none⟩ = false := R2.out.frozen 3
    go_wp2_with fail
    have hB := ((((R2.out.set_ 0 (.int .i64 0)).set_ 1 (.int .i64 0)).set_ 2 (.int .i64 0)).set_ 3 (.int .i64 0))
    have hC : Below W.heap.size W ((((w2.setCell ⟨r, 0, none⟩ (.int .i64 0)).setCell ⟨r, 1, none⟩ (.int .i64 0)).setCell ⟨r, 2, none⟩ (.int .i64 0)).setCell ⟨r, 3, none⟩ (.int .i64 0)) := by
      have hr := HR.out
      exact (((B2.out.setCell (by show W.heap.size ≤ r; omega) _).setCell (by show W.heap.size ≤ r; omega) _).setCell (by show W.heap.size ≤ r; omega) _).setCell (by show W.heap.size ≤ r; omega) _
    refine bodyPost_ret (v := .tuple #[statV 0 0 0 0, .int .i64 141]) (ret_stat rfl rfl rfl hB rfl) rfl ?_
    exact ⟨hC, .inl ⟨HN.out, rfl⟩⟩
  · obtain ⟨x, hx, hxn⟩ := HD.out.at_ nm i h1
    obtain ⟨g, hg⟩ : ∃ g, fl i = some g := by
      have := H.out.hf i
      rw [hx] at this
      exact Option.isSome_iff_exists.1 this
    rw [hg]
    unfold lookV pV
    have hi := HD.out.okInt nm i h1
    have HN := Lib.hid h1; have HX := Lib.hid hx; have HXN := Lib.hid hxn
    have c1 : w2.cell? ⟨p, 1, none⟩ = some (.map (some bn)) := (H2.out.bd.cell 1).trans rfl
    have l1 := H2.out.mn.look mrNames strK Try.underlying92 (zero_int w2) hl
    rw [h1] at l1
    unfold lookV iV' sV at l1
    clear h1 hx hxn hg
    go_wp2_with fail
    refine (inode_any H2.out HD.out i hi (fun y hy => by
      rw [HX.out] at hy
      obtain rfl := Option.some.inj hy
      rw [HXN.out]; exact hl)).mono ?_
    rintro e w3 ⟨hb3, hq⟩
    have B3 := Lib.hid (show Below W.heap.size W w3 from ⟨hb3.os.trans B2.out.os, hb3.tape.trans B2.out.tape, hb3.output.trans B2.out.output, Nat.le_trans B2.out.size hb3.size, fun k hk => (hb3.block k (Nat.lt_of_lt_of_le hk B2.out.size)).trans (B2.out.block k hk)⟩)
    have R3 := Lib.hid (R2.out.keep hb3)
    clear hb3
    rcases hq with ⟨h5, _⟩ | ⟨y, h5, rfl⟩
    · rw [HX.out] at h5; cases h5
    rw [HX.out] at h5
    obtain rfl := Option.some.inj h5
    rw [HXN.out]
    clear h5
    obtain ⟨sv, hsv⟩ : ∃ sv : Int, sv = (d.se nm).getD 0 := ⟨_, rfl⟩
    rw [← hsv]
    unfold statV
    have r0 : w3.cell? ⟨r, 0, none⟩ = some (.int .i64 0) := (R3.out.cell 0).trans rfl
    have r1 : w3.cell? ⟨r, 1, none⟩ = some (.int .i64 0) := (R3.out.cell 1).trans rfl
    have r2 : w3.cell? ⟨r, 2, none⟩ = some (.int .i64 0) := (R3.out.cell 2).trans rfl
    have r3 : w3.cell? ⟨r, 3, none⟩ = some (.int .i64 0) := (R3.out.cell 3).trans rfl
    have f0 : w3.frozen? ⟨r, 0, none⟩ = false := R3.out.frozen 0
    have f1 : w3.frozen? ⟨r, 1, none⟩ = false := R3.out.frozen 1
    have f2 : w3.frozen? ⟨r, 2, none⟩ = false := R3.out.frozen 2
    have f3 : w3.frozen? ⟨r, 3, none⟩ = false := R3.out.frozen 3
    have HSV := Lib.hid hsv
    clear hsv
    go_wp2_with fail
    have hB := ((((R3.out.set_ 0 (.int .i64 i)).set_ 1 (.int .i64 sv)).set_ 2 (.int .i64 (x.ge : Int))).set_ 3 (.int .i64 (x.by_.length : Int)))
    have hC : Below W.heap.size W ((((w3.setCell ⟨r, 0, none⟩ (.int .i64 i)).setCell ⟨r, 1, none⟩ (.int .i64 sv)).setCell ⟨r, 2, none⟩ (.int .i64 (x.ge : Int))).setCell ⟨r, 3, none⟩ (.int .i64 (x.by_.length : Int))) := by
      have hr := HR.out
      exact (((B3.out.setCell (by show W.heap.size ≤ r; omega) _).setCell (by show W.heap.size ≤ r; omega) _).setCell (by show W.heap.size ≤ r; omega) _).setCell (by show W.heap.size ≤ r; omega) _
    refine bodyPost_ret (v := .tuple #[statV i sv (x.ge : Int) (x.by_.length : Int), .int .i64 0]) (ret_stat rfl rfl rfl hB rfl) rfl ?_
    exact ⟨hC, .inr ⟨i, x, HN.out, HX.out, by rw [HSV.out]⟩⟩
end Go.Proofs.Ytlojmmcagglpoaa
namespace Go.Proofs.Ytlojmmcagglpoaa
open Go.RowKit Go.Maps
/-- what a call gives that is refused for a name -/
def BadQ (v : Value) (W : World) (e : Ending) (w' : World) : Prop := e = .returned v ∧ Below W.heap.size W w'
set_option maxRecDepth 20000 in
theorem of_bad {W : World} (p : Nat) (nm : List UInt8) (hm : MayC nm false) : Calls Try.prog 46 #[.pointer (some ⟨p, 0, none⟩), .string (strB nm)] W (BadQ (.tuple #[.pointer none, .int .i64 140]) W) := by
  have HM := Lib.hid (hm W)
  clear hm
  go_enter Try.func46, Try.ntmps46
  go_wp2_with fail
  refine HM.out.mono ?_
  rintro e w1 ⟨rfl, hb⟩
  have HB := Lib.hid hb
  clear hb HM
  go_wp2_with fail
  go_ret2
  exact ⟨rfl, HB.out⟩
set_option maxRecDepth 20000 in
theorem create_bad {W : World} (p : Nat) (nm : List UInt8) (hm : MayC nm false) : Calls Try.prog 12 #[.pointer (some ⟨p, 0, none⟩), .string (strB nm)] W (BadQ (.int .i64 140) W) := by
  have HM := Lib.hid (hm W)
  clear hm
  go_enter Try.func12, Try.ntmps12
  go_wp2_with fail
  refine HM.out.mono ?_
  rintro e w1 ⟨rfl, hb⟩
  have HB := Lib.hid hb
  clear hb HM
  go_wp2_with fail
  go_ret
  exact ⟨rfl, HB.out⟩
set_option maxRecDepth 20000 in
theorem append_bad {W : World} (p : Nat) (nm : List UInt8) (hm : MayC nm false) (A : Option Addr) (n c : Nat) : Calls Try.prog 14 #[.pointer (some ⟨p, 0, none⟩), .string (strB nm), .slice A n c] W (BadQ (.int .i64 140) W) := by
  have OF := Lib.hid (of_bad (W := W) p nm hm)
  clear hm
  go_enter Try.func14, Try.ntmps14
  go_wp2_with fail
  refine OF.out.mono ?_
  rintro e w1 ⟨rfl, hb⟩
  have HB := Lib.hid hb
  clear hb OF
  go_wp2_with fail
  go_ret
  exact ⟨rfl, HB.out⟩
set_option maxRecDepth 20000 in
theorem cut_bad {W : World} (p : Nat) (nm : List UInt8) (hm : MayC nm false) : Calls Try.prog 50 #[.pointer (some ⟨p, 0, none⟩), .string (strB nm)] W (BadQ (.int .i64 140) W) := by
  have OF := Lib.hid (of_bad (W := W) p nm hm)
  clear hm
  go_enter Try.func50, Try.ntmps50
  go_wp2_with fail
  refine OF.out.mono ?_
  rintro e w1 ⟨rfl, hb⟩
  have HB := Lib.hid hb
  clear hb OF
  go_wp2_with fail
  go_ret
  exact ⟨rfl, HB.out⟩
set_option maxRecDepth 20000 in
theorem sync_bad {W : World} (p : Nat) (nm : List UInt8) (hm : MayC nm false) : Calls Try.prog 52 #[.pointer (some ⟨p, 0, none⟩), .string (strB nm)] W (BadQ (.int .i64 140) W) := by
  have OF := Lib.hid (of_bad (W := W) p nm hm)
  clear hm
  go_enter Try.func52, Try.ntmps52
  go_wp2_with fail
  refine OF.out.mono ?_
  rintro e w1 ⟨rfl, hb⟩
  have HB := Lib.hid hb
  clear hb OF
  go_wp2_with fail
  go_ret
  exact ⟨rfl, HB.out⟩
set_option maxRecDepth 20000 in
theorem remove_bad {W : World} (p : Nat) (nm : List UInt8) (hm : MayC nm false) : Calls Try.prog 51 #[.pointer (some ⟨p, 0, none⟩), .string (strB nm)] W (BadQ (.int .i64 140) W) := by
  have OF := Lib.hid (of_bad (W := W) p nm hm)
  clear hm
  go_enter Try.func51, Try.ntmps51
  go_wp2_with fail
  refine OF.out.mono ?_
  rintro e w1 ⟨rfl, hb⟩
  have HB := Lib.hid hb
  clear hb OF
  go_wp2_with fail
  go_ret
  exact ⟨rfl, HB.out⟩
set_option maxRecDepth 20000 in
theorem rename_bad {W : World} (p : Nat) (old other : List UInt8) (b b2 : Bool) (hm : MayC old b) (hm2 : MayC other b2) (hbb : (b && b2) = false) : Calls Try.prog 11 #[.pointer (some ⟨p, 0, none⟩), .string (strB old), .string (strB other)] W (BadQ (.int .i64 140) W) := by
  have HM := Lib.hid (hm W); have HM2 := Lib.hid hm2
  clear hm hm2
  go_enter Try.func11, Try.ntmps11
  go_wp2_with fail
  refine HM.out.mono ?_
  rintro e w1 ⟨rfl, hb⟩
  have HB := Lib.hid hb
  clear hb HM
  cases b with
  | false =>
    clear hbb
    go_wp2_with fail
    go_ret
    exact ⟨rfl, HB.out⟩
  | true =>
    obtain rfl : b2 = false := hbb
    go_wp2_with fail
    refine (HM2.out w1).mono ?_
    rintro e w2 ⟨rfl, hb2⟩
    have HB2 : Hid (Below W.heap.size W w2) := Lib.hid (HB.out.trans (hb2.mono HB.out.size))
    clear hb2 HM2
    go_wp2_with fail
    go_ret
    exact ⟨rfl, HB2.out⟩
set_option maxRecDepth 20000 in
set_option maxHeartbeats 1000000 in
theorem stat_bad {W : World} (p : Nat) (nm : List UInt8) (hm : MayC nm false) : Calls Try.prog 23 #[.pointer (some ⟨p, 0, none⟩), .string (strB nm)] W (BadQ (.tuple #[statV 0 0 0 0, .int .i64 140]) W) := by
  have OF := Lib.hid (fun W => of_bad (W := W) p nm hm)
  clear hm
  go_enter Try.func23, Try.ntmps23
  go_upto_region 1 with fail
  obtain ⟨r, hr⟩ : ∃ r, r = W.heap.size := ⟨_, rfl⟩
  obtain ⟨w1, hw1⟩ : ∃ w1, w1 = W.alloc (.cells #[.int .i64 0, .int .i64 0, .int .i64 0, .int .i64 0] 71) := ⟨_, rfl⟩
  have B1 := Lib.hid (show Below W.heap.size W w1 by rw [hw1]; exact (Below.refl _ _).alloc (Nat.le_refl _) _)
  have R1 := Lib.hid (show Blk w1 r 71 #[.int .i64 0, .int .i64 0, .int .i64 0, .int .i64 0] by rw [hw1]; exact Blk.new W 71 _ hr)
  rw [← hw1, ← hr]
  have HR := Lib.hid hr
  clear hw1 hr
  go_wp2_with fail
  refine (OF.out w1).mono ?_
  rintro e w2 ⟨rfl, hb2⟩
  have B2 := Lib.hid (B1.out.trans (hb2.mono B1.out.size))
  have R2 := Lib.hid (R1.out.keep hb2)
  clear hb2
  have r0 : w2.cell? ⟨r, 0, none⟩ = some (.int .i64 0) := (R2.out.cell 0).trans rfl
  have r1 : w2.cell? ⟨r, 1, none⟩ = some (.int .i64 0) := (R2.out.cell 1).trans rfl
  have r2 : w2.cell? ⟨r, 2, none⟩ = some (.int .i64 0) := (R2.out.cell 2).trans rfl
  have r3 : w2.cell? ⟨r, 3, none⟩ = some (.int .i64 0) := (R2.out.cell 3).trans rfl
  have f0 : w2.frozen? ⟨r, 0, none⟩ = false := R2.out.frozen 0
  have f1 : w2.frozen? ⟨r, 1, none⟩ = false := R2.out.frozen 1
  have f2 : w2.frozen? ⟨r, 2, none⟩ = false := R2.out.frozen 2
  have f3 : w2.frozen? ⟨r, 3, none⟩ = false := R2.out.frozen 3
  go_wp2_with fail
  have hB := ((((R2.out.set_ 0 (.int .i64 0)).set_ 1 (.int .i64 0)).set_ 2 (.int .i64 0)).set_ 3 (.int .i64 0))
  have hC : Below W.heap.size W ((((w2.setCell ⟨r, 0, none⟩ (.int .i64 0)).setCell ⟨r, 1, none⟩ (.int .i64 0)).setCell ⟨r, 2, none⟩ (.int .i64 0)).setCell ⟨r, 3, none⟩ (.int .i64 0)) := by
    have hr := HR.out
    exact (((B2.out.setCell (by show W.heap.size ≤ r; omega) _).setCell (by show W.heap.size ≤ r; omega) _).setCell (by show W.heap.size ≤ r; omega) _).setCell (by show W.heap.size ≤ r; omega) _
  refine bodyPost_ret (v := .tuple #[statV 0 0 0 0, .int .i64 140]) (ret_stat rfl rfl rfl hB rfl) rfl ?_
  exact ⟨rfl, hC⟩
end Go.Proofs.Ytlojmmcagglpoaa
