/- THE WALK of what Copy does with one file. -/
import Derived.Test.YthhbfjhgmdnpbabDiskRead
import Derived.Test.YthhbfjhgmdnpbabDiskC
namespace Go.Proofs.Ythhbfjhgmdnpbab
open Go.RowKit Go.Maps
/-- one file behind Copy's closure: g2 is the new one -/
def CpQ (W : World) (bf q : Nat) (fl : Int → Option Nat) (i : Int) (x : Fl) (e : Ending) (w' : World) : Prop :=
  e = .returned (.tuple #[]) ∧ ∃ g2, W.heap.size ≤ g2 ∧ FW w' W.heap.size g2 x ∧ FM Try.prog 3 iL pD ptrE w' bf (q + 1) (putM fl i g2) ∧ Chg (fun b => b = bf) W w'
set_option maxRecDepth 20000 in
set_option maxHeartbeats 2000000 in
theorem copy_one {W : World} {N g cc pc bf q : Nat} {x : Fl} {fl : Int → Option Nat} {cs : Array Value} (h : FW W N g x) (hl : x.by_.length ≤ 1048576) (hcc : Blk W cc 25 #[.pointer (some ⟨pc, 0, none⟩)]) (hpc : Blk W pc 56 cs) (hc0 : cs[0]? = some (.map (some bf))) (hm : FM Try.prog 3 iL pD ptrE W bf q fl) (hq : q < 1000000) (i : Int) (hi : Go.Proofs.Ythhbfjhgmdnpbab.okInt i) :
    Calls Try.prog 26 #[.int .i64 i, .pointer (some ⟨g, 0, none⟩), .pointer (some ⟨cc, 0, none⟩)] W (CpQ W bf q fl i x) := by
  obtain ⟨v, hb, ho⟩ := h
  obtain ⟨Av, cv, rfl, hcap, hcap2, hrb⟩ := OB.form ho
  obtain ⟨n, hn⟩ : ∃ n, n = x.by_.length := ⟨_, rfl⟩
  obtain ⟨la, hla⟩ : ∃ la, la = x.la := ⟨_, rfl⟩
  obtain ⟨ge, hge⟩ : ∃ ge, ge = x.ge := ⟨_, rfl⟩
  have g0 : W.cell? ⟨g, 0, none⟩ = some (.string (strB x.nm)) := (hb.cell 0).trans rfl
  have g1 : W.cell? ⟨g, 1, none⟩ = some (.slice Av n cv) := (hb.cell 1).trans (by rw [hn]; rfl)
  have g2 : W.cell? ⟨g, 2, none⟩ = some (.int .i64 (la : Int)) := (hb.cell 2).trans (by rw [hla]; rfl)
  have g3 : W.cell? ⟨g, 3, none⟩ = some (.int .i64 (ge : Int)) := (hb.cell 3).trans (by rw [hge]; rfl)
  have HB := Lib.hid hb; have HRB := Lib.hid hrb; have HM := Lib.hid hm; have HCC := Lib.hid hcc; have HPC := Lib.hid hpc
  have HN : Hid (n = x.by_.length ∧ la = x.la ∧ ge = x.ge) := Lib.hid ⟨hn, hla, hge⟩
  clear hb ho hrb hm hcc hpc hn hla hge
  go_enter Try.func26, Try.ntmps26
  go_upto_region 1 with fail
  obtain ⟨w1, hw1⟩ : ∃ w1, w1 = W.alloc (.cells #[.string (strB x.nm), .slice Av n cv, .int .i64 (la : Int), .int .i64 (ge : Int)] 63) := ⟨_, rfl⟩
  obtain ⟨gn, hgn⟩ : ∃ gn, gn = W.heap.size := ⟨_, rfl⟩
  have hB1 : Below W.heap.size W w1 := by rw [hw1]; exact (Below.refl _ _).alloc (Nat.le_refl _) _
  have K1 : Blk w1 gn 63 #[.string (strB x.nm), .slice Av n cv, .int .i64 (la : Int), .int .i64 (ge : Int)] := by rw [hw1]; exact Blk.new W _ _ hgn
  have q1 : w1.cell? ⟨g, 1, none⟩ = some (.slice Av n cv) := cell_later hB1 g1
  have CL := Lib.hid (clone_any w1 Av n cv x.by_ (by rw [HN.out.1]; exact HRB.out.keep hB1) (by rw [HN.out.1]; omega))
  have B1 := Lib.hid hB1; have HK1 := Lib.hid K1
  have HG : Hid (gn = W.heap.size ∧ w1.heap.size = W.heap.size + 1) := Lib.hid ⟨hgn, by rw [hw1]; simp⟩
  rw [← hw1, ← hgn]
  clear hw1 hgn hB1 K1 g0 g1 g2 g3
  go_wp2_with fail
  refine CL.out.mono ?_
  rintro e w2 ⟨v2, rfl, ho2, hb2⟩
  have HO2 := Lib.hid ho2
  have K2 := Lib.hid (HK1.out.keep hb2)
  have B2 : Hid (Below W.heap.size W w2) := Lib.hid (B1.out.trans (hb2.mono (by have := HG.out.2; omega)))
  obtain ⟨A2, c2, rfl, _, _, _⟩ := OB.form ho2
  have f1 : w2.frozen? ⟨gn, 1, none⟩ = false := K2.out.frozen 1
  have e1 : w2.cell? ⟨gn, 1, none⟩ = some (.slice Av n cv) := (K2.out.cell 1).trans rfl
  obtain ⟨m2, hm2⟩ : ∃ m2, m2 = x.by_.length := ⟨_, rfl⟩
  have HM2 := Lib.hid hm2
  rw [← hm2]
  clear ho2 hb2 CL q1 hm2
  go_upto_region 2 with fail
  obtain ⟨w3, hw3⟩ : ∃ w3, w3 = w2.setCell ⟨gn, 1, none⟩ (.slice A2 m2 c2) := ⟨_, rfl⟩
  have C3 : Hid (Chg (fun b => b = gn) w2 w3) := Lib.hid (by rw [hw3]; exact Chg.setCell (S := fun b => b = gn) (p := ⟨gn, 1, none⟩) (Chg.refl _ w2) (.inl rfl) _)
  have K3 : Hid (Blk w3 gn 63 (fcells x (.slice A2 x.by_.length c2))) := Lib.hid (by
    have := K2.out.set_ 1 (.slice A2 m2 c2)
    rw [hw3]
    rw [HM2.out, HN.out.2.1, HN.out.2.2] at this
    rw [HM2.out]
    exact this)
  have B3 : Hid (Below W.heap.size W w3) := Lib.hid (B2.out.trans (C3.out.below (fun k hk e => by have := HG.out.1; omega) B2.out.size) )
  rw [← hw3]
  clear hw3 f1 e1
  have c0 : w3.cell? ⟨cc, 0, none⟩ = some (.pointer (some ⟨pc, 0, none⟩)) := cell_later B3.out ((HCC.out.cell 0).trans rfl)
  have p0 : w3.cell? ⟨pc, 0, none⟩ = some (.map (some bf)) := cell_later B3.out ((HPC.out.cell 0).trans hc0)
  have M3 := Lib.hid (HM.out.keep B3.out)
  go_wp2_with ((at_mapUpdate; go_must (refine update_fm rfl _ _ _ rfl mrFiles intK Try.underlying53 bf q fl rfl M3.out (by unfold maxLen; omega) i hi gn trivial rfl rfl ?_); intro w4 hf4 hc4; refine halt ?_))
  refine unhalt ?_
  have HF : Hid (CpQ W bf q fl i x (.returned (.tuple #[])) w4) := Lib.hid ⟨rfl, gn, by rw [HG.out.1]; exact Nat.le_refl _, ⟨_, K3.out.chg hc4 (M3.out.ne_blk K3.out), hc4.ob (C3.out.ob (HO2.out.less (by have := HG.out.2; omega)) (fun k hk e => K2.out.apart HO2.out (by decide) (by rw [hk, e]))) (fun k hk e => by
    have h1 := (HO2.out.lt k hk).1
    have h2 := HM.out.lt
    have := HG.out.2
    omega)⟩, hf4, (Chg.of_below B3.out _).trans hc4 (fun _ _ e => e)⟩
  clear hf4 hc4
  go_wp2_with fail
  go_end0
  exact HF.out
end Go.Proofs.Ythhbfjhgmdnpbab
