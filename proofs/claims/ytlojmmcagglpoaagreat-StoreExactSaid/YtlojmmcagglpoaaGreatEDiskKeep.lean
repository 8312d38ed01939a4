/- THE WALKS of the disk's keep, Cut and Sync. -/
import Derived.Test.YtlojmmcagglpoaaGreatEDiskEdit
import Derived.Lib.MinMax
namespace Go.Proofs.YtlojmmcagglpoaaGreat
open Go.RowKit Go.Maps
theorem own_take {w : World} {base m n c : Nat} {e : TypeId} {A : Option Addr} {xs : List Value} (h : w.ownsRow base e 1 (.slice A m c) m xs) (hn : n ≤ m) : w.ownsRow base e 1 (.slice A n c) n (xs.take n) := by
  refine ⟨by have := h.1; simp; omega, ?_⟩
  rcases h.2 with ⟨h1, h0⟩ | ⟨g, cap, cur, hv, hb, hh, h1, h2, h3, h4⟩
  · injection h1 with h1 _ h3
    subst h1 h3
    exact .inl ⟨by rw [show n = 0 from by omega], by omega⟩
  · injection hv with hv1 hv2 hv3
    subst hv1 hv3
    refine .inr ⟨g, c, cur, rfl, hb, hh, by omega, h2, h3, ?_⟩
    rw [← h4, List.take_take, Nat.min_eq_left (by omega), Nat.mul_one]
theorem OB.take {w : World} {base m n c : Nat} {A : Option Addr} {l : List UInt8} (h : OB w base (.slice A m c) l) (hn : n ≤ m) : OB w base (.slice A n c) (l.take n) := by
  obtain rfl := h.len
  have := own_take (show w.ownsRow base 5 1 (.slice A l.length c) l.length (l.map byteV) from h) hn
  unfold OB
  rw [List.length_take, Nat.min_eq_left hn, List.map_take]
  exact this
theorem Chg.set1 {a b : World} {g : Nat} (h : Chg (fun b => b = g) a b) (i : Nat) (u : Value) : Chg (fun b => b = g) a (b.setCell ⟨g, i, none⟩ u) := h.setCell (p := ⟨g, i, none⟩) (.inl rfl) u
/-- a file's first n bytes -/
def Fl.kept (x : Fl) (n : Nat) : Fl := if n < x.by_.length then { x with by_ := x.by_.take n, la := min x.la n, ge := x.ge + 1 } else { x with la := min x.la n }
def KeepQ (W : World) (N g : Nat) (x : Fl) (e : Ending) (w' : World) : Prop :=
  e = .returned (.tuple #[]) ∧ FW w' N g x ∧ Chg (fun b => b = g) W w' ∧ ∀ k, bytesAt w' g k → bytesAt W g k
theorem keepQ_of {W W' : World} {N g : Nat} {x y : Fl} {v v' : Value} (hb : Blk W g 182 (fcells x v)) (hc : Chg (fun b => b = g) W W') (hb' : Blk W' g 182 (fcells y v')) (ho' : OB W N v' y.by_) (hv : ∀ k, v'.ownBlock = some k → v.ownBlock = some k) : FW W' N g y ∧ Chg (fun b => b = g) W W' ∧ ∀ k, bytesAt W' g k → bytesAt W g k := by
  refine ⟨⟨v', hb', hc.ob ho' (fun k hk e => hb.apart ho' (by decide) (by rw [hk, e]))⟩, hc, fun k hk => ?_⟩
  obtain ⟨u, h1, h2⟩ := hk
  rw [hb'.cell 1] at h1
  have : v' = u := Option.some.inj h1
  subst this
  exact ⟨v, (hb.cell 1).trans rfl, hv k h2⟩
set_option maxRecDepth 20000 in
set_option maxHeartbeats 1000000 in
theorem keep_any {W : World} {N g n : Nat} {x : Fl} (h : FW W N g x) (hl : x.by_.length ≤ 1048576) (_hla : x.la ≤ 1048576) (hge : x.ge < 1000000) (hn : n ≤ 1048576) :
    Calls Tryz.prog 104 #[.pointer (some ⟨g, 0, none⟩), .int .i64 (n : Int)] W (KeepQ W N g (x.kept n)) := by
  obtain ⟨v, hb, ho⟩ := h
  obtain ⟨Av, cv, rfl, hcap, hcap2, _⟩ := OB.form ho
  obtain ⟨m, hm⟩ : ∃ m, m = x.by_.length := ⟨_, rfl⟩
  obtain ⟨la, hla2⟩ : ∃ la, la = x.la := ⟨_, rfl⟩
  obtain ⟨ge, hge2⟩ : ∃ ge, ge = x.ge := ⟨_, rfl⟩
  have hmin : ∀ w : World, (Builtin.min_ #[3, 3] 3 #[.int .i64 (la : Int), .int .i64 (n : Int)]).run Tryz.prog w = .ok (.int .i64 ((min la n : Nat) : Int)) w := by
    intro w; rw [run_min_int2]; congr 2; omega
  have g1 : W.cell? ⟨g, 1, none⟩ = some (.slice Av m cv) := (hb.cell 1).trans (by rw [hm]; rfl)
  have g2 : W.cell? ⟨g, 2, none⟩ = some (.int .i64 (la : Int)) := (hb.cell 2).trans (by rw [hla2]; rfl)
  have g3 : W.cell? ⟨g, 3, none⟩ = some (.int .i64 (ge : Int)) := (hb.cell 3).trans (by rw [hge2]; rfl)
  have f1 : W.frozen? ⟨g, 1, none⟩ = false := hb.frozen 1
  have f2 : W.frozen? ⟨g, 2, none⟩ = false := hb.frozen 2
  have f3 : W.frozen? ⟨g, 3, none⟩ = false := hb.frozen 3
  have HB := Lib.hid hb; have HO := Lib.hid ho
  rw [← hm] at hl hcap
  rw [← hge2] at hge
  have HM := Lib.hid (And.intro hm (And.intro hla2 hge2))
  have hc0 : (0 : Int) ≤ (n : Int) := by omega
  clear hm hla2 hge2 hb ho
  go_enter Tryz.func104, Tryz.ntmps104
  by_cases hlt : n < m
  · have hc1 : (n : Int) < (m : Int) := by omega
    have hc2 : (n : Int) ≤ (cv : Int) := by omega
    go_wp2_with fail
    go_end0
    have hx : x.kept n = { x with by_ := x.by_.take n, la := min x.la n, ge := x.ge + 1 } := by unfold Fl.kept; rw [if_pos (by rw [← HM.out.1]; exact hlt)]
    refine ⟨rfl, keepQ_of (v' := .slice Av n cv) HB.out ?_ ?_ ?_ ?_⟩
    · exact (((Chg.refl _ W).set1 1 _).set1 3 _).set1 2 _
    · have hb3 := (((HB.out.set_ 1 (.slice Av n cv)).set_ 3 (.int .i64 ((ge : Int) + 1))).set_ 2 (.int .i64 ((min la n : Nat) : Int)))
      rw [HM.out.2.1, HM.out.2.2] at hb3
      rw [HM.out.2.1, HM.out.2.2, hx]
      exact hb3
    · rw [hx]
      have := HO.out.take (n := n) (by rw [← HM.out.1]; omega)
      exact this
    · intro k hk
      cases Av with
      | none => cases hk
      | some a => exact hk
  · have hc1 : ¬ (n : Int) < (m : Int) := by omega
    go_wp2_with fail
    go_end0
    have hx : x.kept n = { x with la := min x.la n } := by unfold Fl.kept; rw [if_neg (by rw [← HM.out.1]; exact hlt)]
    refine ⟨rfl, keepQ_of (v' := .slice Av x.by_.length cv) HB.out ?_ ?_ ?_ ?_⟩
    · exact (Chg.refl _ W).set1 2 _
    · have hb3 := HB.out.set_ 2 (.int .i64 ((min la n : Nat) : Int))
      rw [HM.out.2.1] at hb3
      rw [HM.out.2.1, hx]
      exact hb3
    · rw [hx]
      exact HO.out
    · intro k hk; exact hk
/-- what Cut and Sync give: the errors' number, or one file turned -/
def EdQ (W : World) (N p q : Nat) (d : Dk) (bf bn bs : Nat) (fl : Int → Option Nat) (nm : List UInt8) (f : Fl → Fl) (e : Ending) (w' : World) : Prop :=
  (d.ns nm = none ∧ e = .returned (.int .i64 141) ∧ Below W.heap.size W w') ∨ ∃ i x g, d.ns nm = some i ∧ d.fs i = some x ∧ fl i = some g ∧ e = .returned (.int .i64 0) ∧ DW w' N p q (d.edit i (f x)) bf bn bs fl ∧ Chg (fun b => b = g) W w' ∧ Gr W fl w' fl
theorem DW.file {W : World} {N p q qq : Nat} {d : Dk} {bf bn bs : Nat} {fl : Int → Option Nat} (h : DW W N p q d bf bn bs fl) (hd : d.Ok qq) {nm : List UInt8} {i : Int} (hi : d.ns nm = some i) : ∃ x g, d.fs i = some x ∧ x.nm = nm ∧ fl i = some g ∧ FW W N g x := by
  obtain ⟨x, hx, hn⟩ := hd.at_ nm i hi
  have := h.hf i
  rw [hx] at this
  obtain ⟨g, hg⟩ := Option.isSome_iff_exists.1 this
  exact ⟨x, g, hx, hn, hg, (h.fw i g x hg hx).2⟩
theorem DW.edit0 {W W0 w' : World} {N p q : Nat} {d : Dk} {bf bn bs : Nat} {fl : Int → Option Nat} (h : DW W N p q d bf bn bs fl) (hb : Below W.heap.size W W0) {i : Int} {g : Nat} {x : Fl} (hg : fl i = some g) (hx : d.fs i = some x) (y : Fl) (hc : Chg (fun b => b = g) W0 w') (hy : FW w' N g y) (hbi : ∀ k, bytesAt w' g k → bytesAt W0 g k) : DW w' N p q (d.edit i y) bf bn bs fl ∧ Chg (fun b => b = g) W w' ∧ Gr W fl w' fl := by
  refine ⟨(h.keep hb).edit hg hx y (hc.mono (fun _ _ e => .inl e)) hy (fun k hk => .inl (hbi k hk)), (Chg.of_below hb _).trans hc (fun _ _ e => e), fun j g' hj => .inl ⟨hj, fun k hk => ?_⟩⟩
  obtain ⟨z, _, _, hz⟩ := h.at_ hj
  by_cases e : g' = g
  · subst e
    exact .inl ((hbi k hk).back hz.lt hb)
  · obtain ⟨u, h1, h2⟩ := hk
    rw [hc.cell (p := ⟨g', 1, none⟩) (Nat.lt_of_lt_of_le hz.lt hb.size) e] at h1
    exact .inl (bytesAt.back hz.lt hb ⟨u, h1, h2⟩)
set_option maxRecDepth 20000 in
set_option maxHeartbeats 1000000 in
theorem cut_any {W : World} {N p q qq : Nat} {d : Dk} {bf bn bs : Nat} {fl : Int → Option Nat} (h : DW W N p q d bf bn bs fl) (hd : d.Ok qq) (nm : List UInt8) (hl : okName nm) (hm : MayC nm true) :
    Calls Tryz.prog 53 #[.pointer (some ⟨p, 0, none⟩), .string (strB nm)] W (EdQ W N p q d bf bn bs fl nm (fun x => x.kept 0)) := by
  have OF := Lib.hid (of_any h hd.okInt nm hl hm)
  have H := Lib.hid h; have HD := Lib.hid hd
  clear h hd hm
  go_enter Tryz.func53, Tryz.ntmps53
  go_wp2_with fail
  refine OF.out.mono ?_
  rintro e w1 ⟨hb, hq⟩
  have HB := Lib.hid hb
  clear OF
  rcases hq with ⟨h1, rfl⟩ | ⟨i, h1, rfl⟩
  · have HF : Hid (EdQ W N p q d bf bn bs fl nm (fun x => x.kept 0) (.returned (.int .i64 141)) w1) := Lib.hid (.inl ⟨h1, rfl, hb⟩)
    clear h1 hb
    go_wp2_with fail
    go_ret
    exact HF.out
  · obtain ⟨x, g, hx, hn, hg, hf⟩ := H.out.file HD.out h1
    rw [hg]
    unfold lookV pV
    have hlen := HD.out.len i x hx
    have hla := HD.out.la i x hx
    have hge := HD.out.ge i x hx
    have hbig := HD.out.big
    have CK := Lib.hid (keep_any (n := 0) (hf.keep hb) hlen (by omega) (by omega) (by omega))
    have HN := Lib.hid h1; have HX := Lib.hid hx; have HG := Lib.hid hg
    clear h1 hx hg hb hf hn
    go_wp2_with fail
    refine CK.out.mono ?_
    rintro e w2 ⟨rfl, h2, h3, h4⟩
    have h5 := H.out.edit0 HB.out HG.out HX.out (x.kept 0) h3 h2 h4
    have HF : Hid (EdQ W N p q d bf bn bs fl nm (fun x => x.kept 0) (.returned (.int .i64 0)) w2) := Lib.hid (.inr ⟨i, x, g, HN.out, HX.out, HG.out, rfl, h5⟩)
    clear h2 h3 h4 h5
    go_wp2_with fail
    go_ret
    exact HF.out
set_option maxRecDepth 20000 in
set_option maxHeartbeats 1000000 in
theorem sync_any {W : World} {N p q qq : Nat} {d : Dk} {bf bn bs : Nat} {fl : Int → Option Nat} (h : DW W N p q d bf bn bs fl) (hd : d.Ok qq) (nm : List UInt8) (hl : okName nm) (hm : MayC nm true) :
    Calls Tryz.prog 48 #[.pointer (some ⟨p, 0, none⟩), .string (strB nm)] W (EdQ W N p q d bf bn bs fl nm (fun x => { x with la := x.by_.length })) := by
  have OF := Lib.hid (of_any h hd.okInt nm hl hm)
  have H := Lib.hid h; have HD := Lib.hid hd
  clear h hd hm
  go_enter Tryz.func48, Tryz.ntmps48
  go_wp2_with fail
  refine OF.out.mono ?_
  rintro e w1 ⟨hb, hq⟩
  have HB := Lib.hid hb
  clear OF
  rcases hq with ⟨h1, rfl⟩ | ⟨i, h1, rfl⟩
  · have HF : Hid (EdQ W N p q d bf bn bs fl nm (fun x => { x with la := x.by_.length }) (.returned (.int .i64 141)) w1) := Lib.hid (.inl ⟨h1, rfl, hb⟩)
    clear h1 hb
    go_wp2_with fail
    go_ret
    exact HF.out
  · obtain ⟨x, g, hx, hn, hg, hf⟩ := H.out.file HD.out h1
    rw [hg]
    unfold lookV pV
    obtain ⟨v, hbk, ho⟩ := hf.keep hb
    obtain ⟨Av, cv, rfl, hcap, hcap2, _⟩ := OB.form ho
    have g1 : w1.cell? ⟨g, 1, none⟩ = some (.slice Av x.by_.length cv) := (hbk.cell 1).trans rfl
    have g2 : w1.cell? ⟨g, 2, none⟩ = some (.int .i64 (x.la : Int)) := (hbk.cell 2).trans rfl
    have f2 : w1.frozen? ⟨g, 2, none⟩ = false := hbk.frozen 2
    have HF : Hid (EdQ W N p q d bf bn bs fl nm (fun x => { x with la := x.by_.length }) (.returned (.int .i64 0)) (w1.setCell ⟨g, 2, none⟩ (.int .i64 (x.by_.length : Int)))) := Lib.hid (by
      have hk := keepQ_of (y := { x with la := x.by_.length }) hbk ((Chg.refl _ w1).set1 2 (.int .i64 (x.by_.length : Int))) (hbk.set_ 2 (.int .i64 (x.by_.length : Int))) ho (fun k hk => hk)
      have h5 := H.out.edit0 HB.out hg hx { x with la := x.by_.length } hk.2.1 hk.1 hk.2.2
      exact .inr ⟨i, x, g, h1, hx, hg, rfl, h5⟩)
    clear h1 hx hg hb hf hn hbk ho
    go_wp2_with fail
    go_ret
    exact HF.out
end Go.Proofs.YtlojmmcagglpoaaGreat
