/- THE WALK of the law FollowPlays (printed by a program of ours). -/
import Derived.Test.YtlojmmcagglpoaaGreatUTk
import Derived.Test.YtlojmmcagglpoaaGreatUDiskC
import Derived.Test.YtlojmmcagglpoaaGreatUFpSteps
import Derived.Test.YtlojmmcagglpoaaGreatUFwFix
import Derived.Test.YtlojmmcagglpoaaGreatUNames
import Derived.RegionTactic
import Derived.BigQuiet
import Derived.Laws.StructEq
import Derived.Deep.QuietTactic
import Derived.Deep.CutBlock
import Derived.Deep.DeepMust
namespace Go.Proofs.YtlojmmcagglpoaaGreat
open Go.RowKit Go.Maps
def TX (W : World) (A : Option Addr) (n : Nat) (l : List (List UInt8)) : Prop :=
  l.length = n ∧ (0 < n → ∃ b off, A = some ⟨b, off, none⟩ ∧ b < W.heap.size ∧ ∀ (j : Nat) (s : List UInt8), l[j]? = some s → W.cell? ⟨b, off + j, none⟩ = some (.string (strB s)))
def eqS4 (a b c d a' b' c' d' : Int) : Bool := (a == a') && ((b == b') && ((c == c') && (d == d')))
theorem eql_stat (a b c d a' b' c' d' : Int) (w : World) : (Op.equalIn 10000 119 (.agg #[.int .i64 a, .int .i64 b, .int .i64 c, .int .i64 d]) (.agg #[.int .i64 a', .int .i64 b', .int .i64 c', .int .i64 d'])).run Tryz.prog w = .ok (eqS4 a b c d a' b' c' d') w := by
  unfold eqS4
  have u3 := Tryz.underlying3
  have hS : Tryz.prog.underlying 119 = some (.struct (Tryz.prog.fieldsOf 119)) := by kernel_rfl
  have hp : Tryz.prog.stoodInHeld 119 = false := by kernel_rfl
  rw [show (10000 : Nat) = 9999 + 1 from rfl, run_equalIn_agg w 9999 119 _ _ hS hp]
  simp only [Program.fieldsOf, Tryz.underlying119]
  clear hS hp
  go_simp
  repeat' split
  all_goals simp [*]
theorem neq_stat (a b c d a' b' c' d' : Int) (w : World) : (binOp .neq 119 (.agg #[.int .i64 a, .int .i64 b, .int .i64 c, .int .i64 d]) (.agg #[.int .i64 a', .int .i64 b', .int .i64 c', .int .i64 d'])).run Tryz.prog w = .ok (.bool (!eqS4 a b c d a' b' c' d')) w := by
  rw [run_neq_struct, eql_stat]; rfl
end Go.Proofs.YtlojmmcagglpoaaGreat
namespace Go.Proofs.YtlojmmcagglpoaaGreat
open Go.RowKit Go.Maps
attribute [local go_sem ↓] Go.wp_at_zero Go.wp_at_succ
theorem DC.recol2 {W : World} {N : Nat} {C C' : Nat → Nat} {c c' p n : Nat} {d : Dk} (h : DC W N C c p n d) (hC : ∀ b, C b = c → C' b = c') : DC W N C' c' p n d := by
  obtain ⟨h0, bf, bn, bs, fl, h1, h2⟩ := h
  exact ⟨h0, bf, bn, bs, fl, h1, fun b hb => hC b (h2 b hb)⟩
section
variable {w0 W : World} {C : Nat → Nat} {P p n q : Nat} {li : Int} {k : FwK} {m : FwS} {d : Dk} {r : Rd} {o : Option Fo} {M : List PartT}
theorem GS.copyD1 (h : GS w0 W C (L2 w0 p n d q r M)) : Calls Tryz.prog 40 #[.pointer (some ⟨p, 0, none⟩)] W fun e w' => ∃ p2, e = .returned (.pointer (some ⟨p2, 0, none⟩)) ∧ GS w0 w' (paint C W.heap.size 1) (L2 w0 p2 n d q r M) := by
  have hd : DC W w0.heap.size C 1 p n d := h.at_ (k := 0) rfl
  have hd2 : DC W w0.heap.size (fun b => if C b = 1 then 1 else 0) 1 p n d := hd.recol2 (fun b e => if_pos e)
  refine (copy_c hd2 2 (by decide)).mono ?_
  rintro e w' ⟨p2, he, _, _, hc, hb⟩
  refine ⟨p2, he, h.turn (k := 0) (T' := DCp w0 1 p2 n d) (by simp) (Chg.of_below hb _) ?_ (Stb.dcp _ _ _ _ _) rfl⟩
  refine (hc.less h.bel.size).recol2 (fun b e => ?_)
  by_cases hlt : b < W.heap.size
  · rw [paint_old _ _ hlt] at e
    split at e <;> cases e
  · exact paint_new _ _ (by omega)
theorem GS.copyR2 (h : GS w0 W C (L2 w0 p n d q r M)) (hok : r.Ok n) : Calls Tryz.prog 41 #[.pointer (some ⟨q, 0, none⟩)] W fun e w' => ∃ q2, e = .returned (.pointer (some ⟨q2, 0, none⟩)) ∧ GS w0 w' (paint C W.heap.size 2) (L2 w0 p n d q2 r M) := by
  have hr : RC W w0.heap.size C 2 q r := h.at_ (k := 1) rfl
  refine (rcopy_any hr hok 2).mono ?_
  rintro e w' ⟨q2, he, _, hc, hb⟩
  exact ⟨q2, he, h.turn (k := 1) (T' := RCp w0 2 q2 r) (by simp) (Chg.of_below hb _) (RC.less hc h.bel.size) (Stb.rcp _ _ _ _) rfl⟩
theorem GS.setD {p1 p2 q1 : Nat} (h : GS w0 W C [DCp w0 1 p2 n d, RCp w0 2 q r, FPp k o, GPp k o, PPp P li k m p1 q1 o]) : GS w0 (W.setCell ⟨P, 13, none⟩ (.pointer (some ⟨p2, 0, none⟩))) (paint C W.heap.size 5) [DCp w0 1 p2 n d, RCp w0 2 q r, FPp k o, GPp k o, PPp P li k m p2 q1 o] := by
  have hP : PPp P li k m p1 q1 o W C := h.at_ (k := 4) rfl
  refine h.turn (k := 4) (T' := PPp P li k m p2 q1 o) (by simp) ((Chg.refl _ W).setCell (.inl hP.2) _) ⟨?_, (paint_old _ _ hP.1.lt).trans hP.2⟩ (Stb.ppp _ _ _ _ _ _ _) rfl
  exact hP.1.set_ 13 (.pointer (some ⟨p2, 0, none⟩))
theorem GS.setR {p1 q2 q1 : Nat} (h : GS w0 W C [DCp w0 1 p n d, RCp w0 2 q2 r, FPp k o, GPp k o, PPp P li k m p1 q1 o]) : GS w0 (W.setCell ⟨P, 14, none⟩ (.pointer (some ⟨q2, 0, none⟩))) (paint C W.heap.size 5) [DCp w0 1 p n d, RCp w0 2 q2 r, FPp k o, GPp k o, PPp P li k m p1 q2 o] := by
  have hP : PPp P li k m p1 q1 o W C := h.at_ (k := 4) rfl
  refine h.turn (k := 4) (T' := PPp P li k m p1 q2 o) (by simp) ((Chg.refl _ W).setCell (.inl hP.2) _) ⟨?_, (paint_old _ _ hP.1.lt).trans hP.2⟩ (Stb.ppp _ _ _ _ _ _ _) rfl
  exact hP.1.set_ 14 (.pointer (some ⟨q2, 0, none⟩))
theorem GS.newDb {L : List PartT} (h : GS w0 W C L) : Calls Tryz.prog 8 #[] W fun e w' => ∃ p, e = .returned (.pointer (some ⟨p, 0, none⟩)) ∧ GS w0 w' (paint C W.heap.size (L.length + 1)) (L ++ [DCp w0 (L.length + 1) p 0 emptyD]) ∧ Below W.heap.size W w' := by
  refine (new_c W C (L.length + 1)).mono ?_
  rintro e w' ⟨p, he, hp, hd, hb⟩
  exact ⟨p, he, h.add hb (hd.less h.bel.size) (Stb.dcp _ _ _ _ _), hb⟩
theorem GS.newR14b {L : List PartT} (h : GS w0 W C L) : Calls Tryz.prog 9 #[] W fun e w' => ∃ p, e = .returned (.pointer (some ⟨p, 0, none⟩)) ∧ GS w0 w' (paint C W.heap.size (L.length + 1)) (L ++ [RCp w0 (L.length + 1) p ⟨[], []⟩]) ∧ Below W.heap.size W w' := by
  refine (rnew_any W C (L.length + 1)).mono ?_
  rintro e w' ⟨p, he, hd, hb⟩
  exact ⟨p, he, h.add hb (RC.less hd h.bel.size) (Stb.rcp _ _ _ _), hb⟩
def statX (t0 t1 t2 t3 : Int) : Array Value := #[.int .i64 t0, .int .i64 t1, .int .i64 t2, .int .i64 t3]
theorem statX_one (t0 t1 t2 t3 : Int) : (statX t0 t1 t2 t3).all (·.oneCell') = true := by
  unfold statX; simp [Value.oneCell']
theorem own_cell {w : World} {base : Nat} {t : TypeId} {A : Option Addr} {m cp : Nat} {xs : List Value} (h : w.ownsRow base t 1 (.slice A m cp) m xs) (hm : 0 < m) : ∃ g, A = some ⟨g, 0, none⟩ ∧ ∀ w', Below w.heap.size w w' → ∀ j u, xs[j]? = some u → w'.cell? ⟨g, j, none⟩ = some u := by
  have hlen := h.1
  rcases h.2 with ⟨hv, hz⟩ | ⟨gb, cap', cur, hv, _, _⟩
  · omega
  · injection hv with e1 _ _
    subst e1
    refine ⟨gb, rfl, fun w' hb j u hj => ?_⟩
    have hjl := (List.getElem?_eq_some_iff.1 hj).1
    have h1 := World.ownsRow.cellAt h j (by omega)
    rw [hj] at h1
    exact cell_later hb h1
theorem GS.playF (h : GS w0 W C [DCp w0 1 p n d, RCp w0 2 q r]) : ∃ C', GS w0 (W.alloc (.cells (plC li k m p q (.pointer none) (.pointer none)) 108)) C' (LF w0 W.heap.size li k m p n d q r none) := by
  have h1 := h.add (Below.refl _ W) (T := FPp k none) trivial (Stb.fpp k none)
  have h2 := h1.add (Below.refl _ W) (T := GPp k none) trivial (Stb.gpp k none)
  exact ⟨_, h2.add (W' := W.alloc (.cells (plC li k m p q (.pointer none) (.pointer none)) 108)) ((Below.refl _ _).alloc (Nat.le_refl _) _) (T := PPp W.heap.size li k m p q none) ⟨Blk.new W _ _ rfl, paint_new _ _ (Nat.le_refl _)⟩ (Stb.ppp _ _ _ _ _ _ _)⟩
end
abbrev mT3 (gs : Nat) (k : FwK) (li : Int) (m : FwS) : World → Prop := fun w' => w'.cell? ⟨gs, 0, none⟩ = some (.string (strB k.nm)) ∧ w'.cell? ⟨gs, 1, none⟩ = some (.string (strB k.ro)) ∧ w'.cell? ⟨gs, 2, none⟩ = some (.int .i64 li) ∧ w'.cell? ⟨gs, 3, none⟩ = some (.int .i64 k.ch) ∧ w'.cell? ⟨gs, 4, none⟩ = some (.int .i64 m.se) ∧ w'.cell? ⟨gs, 5, none⟩ = some (.int .i64 m.ino) ∧ w'.cell? ⟨gs, 6, none⟩ = some (.int .i64 m.ge) ∧ w'.cell? ⟨gs, 7, none⟩ = some (.int .i64 m.off) ∧ w'.cell? ⟨gs, 8, none⟩ = some (.int .i64 m.mi) ∧ w'.cell? ⟨gs, 9, none⟩ = some (.int .i64 m.go) ∧ w'.cell? ⟨gs, 10, none⟩ = some (.int .i64 m.cu) ∧ w'.cell? ⟨gs, 11, none⟩ = some (.int .i64 m.ta) ∧ w'.cell? ⟨gs, 12, none⟩ = some (.int .i64 m.lo)
abbrev mT12 (P p q gb : Nat) (o : O17) : World → Prop := fun w' => w'.cell? ⟨P, 13, none⟩ = some (.pointer (some ⟨p, 0, none⟩)) ∧ w'.cell? ⟨P, 14, none⟩ = some (.pointer (some ⟨q, 0, none⟩)) ∧ w'.cell? ⟨gb, 0, none⟩ = some (.int .i64 o.k) ∧ w'.cell? ⟨gb, 1, none⟩ = some (.string (strB o.a)) ∧ w'.cell? ⟨gb, 2, none⟩ = some (.string (strB o.b)) ∧ w'.cell? ⟨gb, 3, none⟩ = some (.string (strB o.s)) ∧ w'.cell? ⟨gb, 4, none⟩ = some (.slice o.A o.m o.cp) ∧ w'.cell? ⟨gb, 5, none⟩ = some (.int .i64 o.n) ∧ w'.cell? ⟨gb, 6, none⟩ = some (.int .i64 o.mr.se) ∧ w'.cell? ⟨gb, 7, none⟩ = some (.int .i64 o.mr.ino) ∧ w'.cell? ⟨gb, 8, none⟩ = some (.int .i64 o.mr.ge) ∧ w'.cell? ⟨gb, 9, none⟩ = some (.int .i64 o.mr.off) ∧ w'.cell? ⟨gb, 10, none⟩ = some (.int .i64 o.mr.mi) ∧ w'.cell? ⟨gb, 11, none⟩ = some (.int .i64 o.mr.go) ∧ w'.cell? ⟨gb, 12, none⟩ = some (.int .i64 o.mr.cu) ∧ w'.cell? ⟨gb, 13, none⟩ = some (.int .i64 o.mr.ta) ∧ w'.cell? ⟨gb, 14, none⟩ = some (.int .i64 o.mr.lo)
def PlF (w0 : World) (P : Nat) (li : Int) (k : FwK) (m : FwS) (i : Nat) (W : World) : Prop := ∃ C p n d q r o, n ≤ 2 * i ∧ GS w0 W C (LF w0 P li k m p n d q r o) ∧ Alike d r n ∧ InvF li k o (30 * i)
set_option maxRecDepth 20000 in
set_option maxHeartbeats 8000000 in
theorem fplays_any (li : Int) (k : FwK) (m : FwS) (hkl : k.line = li.toNat) (A0 : Option Addr) (n0 cp0 : Nat) (l : List O17) (w : World) (hr : SF w A0 n0 l) : Calls Tryz.prog 6 #[.agg #[.string (strB k.nm), .string (strB k.ro), .int .i64 li, .int .i64 k.ch, .int .i64 m.se, .int .i64 m.ino, .int .i64 m.ge, .int .i64 m.off, .int .i64 m.mi, .int .i64 m.go, .int .i64 m.cu, .int .i64 m.ta, .int .i64 m.lo], .slice A0 n0 cp0] w (TruQ w) := by
  obtain ⟨w1, hw1⟩ : ∃ w1, w1 = w.alloc (.cells #[.string (strB k.nm), .string (strB k.ro), .int .i64 li, .int .i64 k.ch, .int .i64 m.se, .int .i64 m.ino, .int .i64 m.ge, .int .i64 m.off, .int .i64 m.mi, .int .i64 m.go, .int .i64 m.cu, .int .i64 m.ta, .int .i64 m.lo] 102) := ⟨_, rfl⟩
  obtain ⟨gs, hgs⟩ : ∃ gs, gs = w.heap.size := ⟨_, rfl⟩
  have B1 : Hid (Below w.heap.size w w1) := Lib.hid (by rw [hw1]; exact (Below.refl _ _).alloc (Nat.le_refl _) _)
  have K1 : Hid (Blk w1 gs 102 #[.string (strB k.nm), .string (strB k.ro), .int .i64 li, .int .i64 k.ch, .int .i64 m.se, .int .i64 m.ino, .int .i64 m.ge, .int .i64 m.off, .int .i64 m.mi, .int .i64 m.go, .int .i64 m.cu, .int .i64 m.ta, .int .i64 m.lo]) := Lib.hid (by rw [hw1]; exact Blk.new w _ _ hgs)
  have CK := Lib.hid (fixed17 w1)
  have HR := Lib.hid hr
  have HKL := Lib.hid hkl
  clear hr hkl
  go_enter Tryz.func6, Tryz.ntmps6
  go_upto_region 1 with fail
  rw [← hw1, ← hgs]
  clear hw1 hgs
  go_wp2_with fail
  refine CK.out.mono ?_
  rintro e w2 ⟨rfl, hb2⟩
  have B2 : Hid (Below w1.heap.size w1 w2) := Lib.hid hb2
  clear CK hb2
  go_upto_region 3 with fail
  have HT3 : Hid (∀ w, Below w1.heap.size w1 w → (mT3 gs k li m) w) := Lib.hid (fun w hb => ⟨((K1.out.keep hb).cell 0).trans rfl, ((K1.out.keep hb).cell 1).trans rfl, ((K1.out.keep hb).cell 2).trans rfl, ((K1.out.keep hb).cell 3).trans rfl, ((K1.out.keep hb).cell 4).trans rfl, ((K1.out.keep hb).cell 5).trans rfl, ((K1.out.keep hb).cell 6).trans rfl, ((K1.out.keep hb).cell 7).trans rfl, ((K1.out.keep hb).cell 8).trans rfl, ((K1.out.keep hb).cell 9).trans rfl, ((K1.out.keep hb).cell 10).trans rfl, ((K1.out.keep hb).cell 11).trans rfl, ((K1.out.keep hb).cell 12).trans rfl⟩)
  refine wp_region_any (by kernel_rfl) ?_
  change wpAny _ _ _ _ _ _ _ (World.drew _)
  refine wpAny_of_held (S := mT3 gs k li m) _ _ _ _ ?_
  obtain ⟨w2d, hw2d⟩ : ∃ w2d, w2d = w2.drew := ⟨_, rfl⟩
  have B2d : Hid (Below w1.heap.size w1 w2d) := Lib.hid (by rw [hw2d]; exact B2.out.drew)
  rw [← hw2d]
  clear hw2d
  have G0 : Hid (GS w w2d (fun _ => 0) []) := Lib.hid ((GS.nil w).keep (B1.out.trans (B2d.out.mono B1.out.size)))
  have CN := Lib.hid G0.out.newDb
  have hHeld : (mT3 gs k li m) w2d := HT3.out w2d B2d.out
  refine tkh 0 (v := ?_) rfl ?_ ?_; rotate_left
  · intro w hSw; obtain ⟨s0, s1, s2, s3, s4, s5, s6, s7, s8, s9, s10, s11, s12⟩ := hSw; go_simp <;> with_reducible rfl
  try simp only [Act.put, pz]
  refine wpAnyH_ready (rs := [1]) (by kernel_rfl) (by simp) (AllReadyH.cons rfl (fun K hK => ?_) AllReadyH.nil)
  have hPrev := hHeld
  clear hHeld
  go_simp
  refine CN.out.mono ?_
  rintro e w3 ⟨p, rfl, hg3, hb3⟩
  have G3 : Hid (GS w w3 (paint (fun _ => 0) w2d.heap.size 1) [DCp w 1 p 0 emptyD]) := Lib.hid hg3
  have B3 : Hid (Below w1.heap.size w1 w3) := Lib.hid (B2d.out.trans (hb3.mono B2d.out.size))
  have CR := Lib.hid G3.out.newR14b
  clear hg3 hb3 CN
  refine hK.out _ _ (HT3.out w3 B3.out) (fun hHeld => ?_)
  clear hK K hPrev
  try simp only [Act.put, pz]
  refine wpAnyH_ready (rs := [2]) (by kernel_rfl) (by simp) (AllReadyH.cons rfl (fun K hK => ?_) AllReadyH.nil)
  have hPrev := hHeld
  clear hHeld
  go_simp
  refine CR.out.mono ?_
  rintro e w4 ⟨q, rfl, hg4, hb4⟩
  have G4 : Hid (∃ C, GS w w4 C [DCp w 1 p 0 emptyD, RCp w 2 q ⟨[], []⟩]) := Lib.hid ⟨_, hg4⟩
  have B4 : Hid (Below w1.heap.size w1 w4) := Lib.hid (B3.out.trans (hb4.mono B3.out.size))
  clear hg4 hb4 CR
  refine hK.out _ _ (HT3.out w4 B4.out) (fun hHeld => ?_)
  clear hK K hPrev
  try simp only [Act.put, pz]
  refine tkh 3 (v := ?_) rfl ?_ ?_; rotate_left
  · intro w hSw; (try dsimp only at hSw); go_simp <;> with_reducible rfl
  try simp only [Act.put, pz]
  refine wpAnyH_ready (rs := [4]) (by kernel_rfl) (by simp) (AllReadyH.cons rfl (fun K hK => ?_) AllReadyH.nil)
  have hPrev := hHeld
  clear hHeld
  go_simp
  obtain ⟨w5, hw5⟩ : ∃ w5, w5 = w4.alloc (.cells #[.string (strB k.nm), .string (strB k.ro), .int .i64 li, .int .i64 k.ch, .int .i64 m.se, .int .i64 m.ino, .int .i64 m.ge, .int .i64 m.off, .int .i64 m.mi, .int .i64 m.go, .int .i64 m.cu, .int .i64 m.ta, .int .i64 m.lo, .pointer (some ⟨p, 0, none⟩), .pointer (some ⟨q, 0, none⟩), .pointer none, .pointer none] 108) := ⟨_, rfl⟩
  obtain ⟨P, hP⟩ : ∃ P, P = w4.heap.size := ⟨_, rfl⟩
  have B5 : Hid (Below w1.heap.size w1 w5) := Lib.hid (by rw [hw5]; exact B4.out.alloc B4.out.size _)
  have G5 : Hid (∃ C, GS w w5 C (LF w P li k m p 0 emptyD q ⟨[], []⟩ none)) := Lib.hid (by
    obtain ⟨C, h⟩ := G4.out
    rw [hw5, hP]
    exact h.playF)
  rw [← hw5, ← hP]
  clear hw5 hP G4 G3
  refine hK.out _ _ (HT3.out w5 B5.out) (fun hHeld => ?_)
  clear hK K hPrev
  try simp only [Act.put, pz]
  refine tkh 5 (v := ?_) rfl ?_ ?_; rotate_left
  · intro w hSw; (try dsimp only at hSw); go_simp <;> with_reducible rfl
  try simp only [Act.put, pz]
  refine wpAnyH_done (by kernel_rfl) ?_ _
  clear hHeld
  obtain ⟨C5, hG5⟩ := G5.out
  have G6 := Lib.hid hG5
  have hP := (hG5.at_ (k := 4) rfl : PPp P li k m p q none w5 C5)
  have c13 : w5.cell? ⟨P, 13, none⟩ = some (.pointer (some ⟨p, 0, none⟩)) := (hP.1.cell 13).trans rfl
  obtain ⟨_, _, _, _, s4, s5, s6, s7, s8, s9, s10, s11, s12⟩ := HT3.out w5 B5.out
  have CB := Lib.hid (begin_any (B := 0) G6.out Alike.empty HKL.out (fun x hx => (by cases hx)) m)
  clear hG5 hP G5
  go_upto_region 4 with fail
  go_wp2_with fail
  refine CB.out.mono ?_
  rintro e w6 ⟨rfl, C6, o6, hg6, hi6⟩
  have G7 : Hid (PlF w P li k m 0 w6) := Lib.hid ⟨C6, p, 0, emptyD, q, ⟨[], []⟩, o6, Nat.le_refl _, hg6, Alike.empty, hi6⟩
  clear hg6 hi6 CB G6 c13 s4 s5 s6 s7 s8 s9 s10 s11 s12 B5 B4 B3 B2d B2 K1 HT3 G0
  go_upto_region 7 with fail
  go_loopw [6] (fun s6 W => ∃ i : Nat, s6 = .int .i64 (i : Int) ∧ i ≤ n0 ∧ i ≤ 100 ∧ Hid (PlF w P li k m i W)) (fun s6 _ => 100 - (intOf s6).toNat)
  case atStart => exact ⟨0, rfl, Nat.zero_le _, Nat.zero_le _, G7⟩
  case round =>
   as_aux_lemma =>
    clear G7
    obtain ⟨i, rfl, hin, hi8, GR⟩ := hrel
    go_upto_region 7 with fail
    go_cut [42] (fun s wx => ∃ b : Bool, s = .bool b ∧ (b = true ↔ i < n0 ∧ i < 100) ∧ wx = wr)
    case first =>
      by_cases hlt : i < n0
      · by_cases h80 : i < 100
        · go_wp2_with fail
          go_meet
          exact ⟨true, by rw [decide_eq_true (by omega)], by simp [hlt, h80], rfl⟩
        · go_wp2_with fail
          go_meet
          exact ⟨false, by rw [decide_eq_false (by omega)], by simp [h80], rfl⟩
      · go_wp2_with fail
        go_meet
        exact ⟨false, rfl, by simp [hlt], rfl⟩
    case rest =>
     as_aux_lemma =>
      obtain ⟨b, rfl, hb0, hcut⟩ := hcut
      rw [hcut]
      clear hcut wc
      cases b
      case false =>
       as_aux_lemma =>
        clear hb0
        obtain ⟨C, p, n, d, q, r, oo, hn, hG, al, hI⟩ := GR.out
        have HG := Lib.hid hG
        have HAL := Lib.hid al
        have HNN : Hid (n ≤ 200) := Lib.hid (by omega)
        have hP := (hG.at_ (k := 4) rfl : PPp P li k m p q oo wr C)
        have c13 : wr.cell? ⟨P, 13, none⟩ = some (.pointer (some ⟨p, 0, none⟩)) := (hP.1.cell 13).trans rfl
        have CN := Lib.hid (ask_names al (by omega) (hG.at_ (k := 0) rfl : DC wr w.heap.size C 1 p n d))
        obtain ⟨ll, hll⟩ : ∃ ll, ll = r.all := ⟨_, rfl⟩
        rw [← hll] at CN
        have hlen : ll.length ≤ 1000000 := by rw [hll]; exact Nat.le_trans r.all_len (Nat.le_trans al.rok.nl al.rok.big)
        have HLL := Lib.hid hll
        clear hG al hI hn hP GR hll
        go_upto_region 28 with fail
        go_wp2_with fail
        refine CN.out.mono ?_
        rintro e w3 ⟨v3, rfl, ho3, hb3⟩
        obtain ⟨A3, cp3, rfl, hc3, _⟩ := own_form ho3
        have O3 := Lib.hid ho3
        have B3 : Hid (Below wr.heap.size wr w3) := Lib.hid hb3
        have c14 : w3.cell? ⟨P, 14, none⟩ = some (.pointer (some ⟨q, 0, none⟩)) := ((((HG.out.keep hb3).at_ (k := 4) rfl : PPp P li k m p q oo w3 C)).1.cell 14).trans rfl
        have CA := Lib.hid (ask_all HAL.out.rok ((HG.out.keep hb3).at_ (k := 1) rfl : RC w3 w.heap.size C 2 q r))
        rw [← HLL.out] at CA
        clear ho3 hb3 CN c13
        go_wp2_with fail
        refine CA.out.mono ?_
        rintro e w4 ⟨v4, rfl, ho4, hb4⟩
        obtain ⟨A4, cp4, rfl, hc4, _⟩ := own_form ho4
        have O4 := Lib.hid ho4
        have B34 := Lib.hid hb4
        have B4 : Hid (Below wr.heap.size wr w4) := Lib.hid (B3.out.trans (hb4.mono B3.out.size))
        obtain ⟨N, hN⟩ : ∃ N, N = ll.length := ⟨_, rfl⟩
        have HNL := Lib.hid hN
        rw [← hN] at O3 O4 hlen hc3 hc4 ⊢
        clear ho4 hb4 CA c14 hN
        have hne : ((N : Int) != (N : Int)) = false := by simp
        go_upto_region 33 with fail
        clear hne
        go_loopw [11] (fun s11 W => ∃ j : Nat, s11 = .int .i64 (j : Int) ∧ j ≤ N ∧ Hid (Below w4.heap.size w4 W)) (fun s11 _ => N - (intOf s11).toNat)
        case atStart => exact ⟨0, rfl, Nat.zero_le _, Lib.hid (Below.refl _ _)⟩
        case round =>
         as_aux_lemma =>
          obtain ⟨j, rfl, hjn, BR⟩ := hrel
          obtain ⟨w5, rfl⟩ : ∃ w5 : World, w5 = wr := ⟨_, rfl⟩
          by_cases hlt : j < N
          · obtain ⟨gn, rfl, hgn⟩ := own_cell O3.out (by omega)
            obtain ⟨ga, rfl, hga⟩ := own_cell O4.out (by omega)
            obtain ⟨nm, hnm⟩ : ∃ nm, ll[j]? = some nm := ⟨_, List.getElem?_eq_getElem (by have := HNL.out; omega)⟩
            have hsv : (ll.map sV)[j]? = some (.string (strB nm)) := by rw [List.getElem?_map, hnm]; rfl
            have HT : Hid (∀ wx, Below w5.heap.size w5 wx → (fun w' => w'.cell? ⟨P, 13, none⟩ = some (.pointer (some ⟨p, 0, none⟩)) ∧ w'.cell? ⟨P, 14, none⟩ = some (.pointer (some ⟨q, 0, none⟩)) ∧ w'.cell? ⟨gn, j, none⟩ = some (.string (strB nm)) ∧ w'.cell? ⟨ga, j, none⟩ = some (.string (strB nm))) wx) := Lib.hid (fun wx hb => by
              have h4 : Below w4.heap.size w4 wx := BR.out.trans (hb.mono BR.out.size)
              have h3 : Below w3.heap.size w3 wx := B34.out.trans (h4.mono B34.out.size)
              have hP := ((HG.out.keep (B4.out.trans (h4.mono B4.out.size))).at_ (k := 4) rfl : PPp P li k m p q oo wx C)
              exact ⟨(hP.1.cell 13).trans rfl, (hP.1.cell 14).trans rfl, hgn wx h3 j _ hsv, hga wx h4 j _ hsv⟩)
            obtain ⟨⟨t0, t1, t2, t3, t4⟩, ht⟩ : ∃ t, t = r.sti nm := ⟨_, rfl⟩
            have HS1 : Hid (∀ wx, Below w5.heap.size w5 wx → Calls Tryz.prog 44 #[.pointer (some ⟨p, 0, none⟩), .string (strB nm)] wx (AskV wx (t0, t1, t2, t3, t4))) := Lib.hid (fun wx hb => by
              rw [ht]
              exact ask_stat HAL.out nm ((HG.out.keep (B4.out.trans ((BR.out.trans (hb.mono BR.out.size)).mono B4.out.size))).at_ (k := 0) rfl : DC wx w.heap.size C 1 p n d))
            have HS2 : Hid (∀ wx, Below w5.heap.size w5 wx → Calls Tryz.prog 45 #[.pointer (some ⟨q, 0, none⟩), .string (strB nm)] wx (AskV wx (t0, t1, t2, t3, t4))) := Lib.hid (fun wx hb => by
              rw [ht]
              exact ask_rstat HAL.out.rok nm ((HG.out.keep (B4.out.trans ((BR.out.trans (hb.mono BR.out.size)).mono B4.out.size))).at_ (k := 1) rfl : RC wx w.heap.size C 2 q r))
            have hj0 : (0 : Int) ≤ (j : Int) := by omega
            have hj1 : (j : Int) < (N : Int) := by omega
            clear ht hsv hnm hgn hga
            go_upto_region 35 with fail
            go_cut [12, 13] (fun s12 s13 wx => ∃ g, s12 = .pointer (some ⟨g, 0, none⟩) ∧ s13 = .int .i64 t4 ∧ Hid (Below w5.heap.size w5 wx) ∧ Hid (Blk wx g 119 #[.int .i64 t0, .int .i64 t1, .int .i64 t2, .int .i64 t3]))
            case first =>
             as_aux_lemma =>
              refine wp_region_any (by kernel_rfl) ?_
              change wpAny _ _ _ _ _ _ _ (World.drew _)
              refine wpAny_of_held (S := fun w' => w'.cell? ⟨P, 13, none⟩ = some (.pointer (some ⟨p, 0, none⟩)) ∧ w'.cell? ⟨P, 14, none⟩ = some (.pointer (some ⟨q, 0, none⟩)) ∧ w'.cell? ⟨gn, j, none⟩ = some (.string (strB nm)) ∧ w'.cell? ⟨ga, j, none⟩ = some (.string (strB nm))) _ _ _ _ ?_
              obtain ⟨w6, hw6⟩ : ∃ w6, w6 = w5.drew := ⟨_, rfl⟩
              have B6 : Hid (Below w5.heap.size w5 w6) := Lib.hid (by rw [hw6]; exact (Below.refl _ _).drew)
              rw [← hw6]
              clear hw6
              have hHeld : (fun w' => w'.cell? ⟨P, 13, none⟩ = some (.pointer (some ⟨p, 0, none⟩)) ∧ w'.cell? ⟨P, 14, none⟩ = some (.pointer (some ⟨q, 0, none⟩)) ∧ w'.cell? ⟨gn, j, none⟩ = some (.string (strB nm)) ∧ w'.cell? ⟨ga, j, none⟩ = some (.string (strB nm))) w6 := HT.out w6 B6.out
              refine tkh 0 (v := ?_) rfl ?_ ?_; rotate_left
              · intro w hSw; (try dsimp only at hSw); go_simp <;> with_reducible rfl
              try simp only [Act.put, pz]
              refine tkh 1 (v := ?_) rfl ?_ ?_; rotate_left
              · intro w hSw; (try dsimp only at hSw); go_simp <;> with_reducible rfl
              try simp only [Act.put, pz]
              refine tkh 2 (v := ?_) rfl ?_ ?_; rotate_left
              · intro w hSw; (try dsimp only at hSw); go_simp <;> with_reducible rfl
              try simp only [Act.put, pz]
              refine tkh 3 (v := ?_) rfl ?_ ?_; rotate_left
              · intro w hSw; obtain ⟨y0, y1, y2, y3⟩ := hSw; go_simp <;> with_reducible rfl
              try simp only [Act.put, pz]
              refine tkh 4 (v := ?_) rfl ?_ ?_; rotate_left
              · intro w hSw; (try dsimp only at hSw); go_simp <;> with_reducible rfl
              try simp only [Act.put, pz]
              refine tkh 5 (v := ?_) rfl ?_ ?_; rotate_left
              · intro w hSw; (try dsimp only at hSw); go_simp <;> with_reducible rfl
              try simp only [Act.put, pz]
              refine tkh 6 (v := ?_) rfl ?_ ?_; rotate_left
              · intro w hSw; (try dsimp only at hSw); go_simp <;> with_reducible rfl
              try simp only [Act.put, pz]
              refine tkh 7 (v := ?_) rfl ?_ ?_; rotate_left
              · intro w hSw; obtain ⟨y0, y1, y2, y3⟩ := hSw; go_simp <;> with_reducible rfl
              try simp only [Act.put, pz]
              refine wpAnyH_ready (rs := [8, 12]) (by kernel_rfl) (by simp) (AllReadyH.cons rfl (fun K hK => ?_) (AllReadyH.cons rfl (fun K hK => ?_) AllReadyH.nil))
              ·
                have hPrev := hHeld
                clear hHeld
                have CS := Lib.hid (HS1.out w6 B6.out)
                go_simp
                refine CS.out.mono ?_
                rintro e w7 ⟨rfl, hb9⟩
                simp only
                have BX := Lib.hid hb9
                have B7 : Hid (Below w5.heap.size w5 w7) := Lib.hid (B6.out.trans (hb9.mono B6.out.size))
                clear hb9 CS
                refine hK.out _ _ (HT.out _ B7.out) (fun hHeld => ?_)
                clear hK K hPrev
                try simp only [Act.put, pz]
                refine tkh 9 (v := ?_) rfl ?_ ?_; rotate_left
                · intro w hSw; (try dsimp only at hSw); go_simp <;> with_reducible rfl
                try simp only [Act.put, pz]
                refine tkh 10 (v := ?_) rfl ?_ ?_; rotate_left
                · intro w hSw; (try dsimp only at hSw); go_simp <;> with_reducible rfl
                try simp only [Act.put, pz]
                refine tkh 11 (v := ?_) rfl ?_ ?_; rotate_left
                · intro w hSw; (try dsimp only at hSw); go_simp <;> with_reducible rfl
                try simp only [Act.put, pz]
                refine wpAnyH_ready (rs := [12]) (by kernel_rfl) (by simp) (AllReadyH.cons rfl (fun K hK => ?_) AllReadyH.nil)
                have hPrev := hHeld
                clear hHeld
                obtain ⟨w8, hw8⟩ : ∃ w8, w8 = w7.alloc (.cells #[.int .i64 0, .int .i64 0, .int .i64 0, .int .i64 0] 119) := ⟨_, rfl⟩
                obtain ⟨g, hg⟩ : ∃ g, g = w7.heap.size := ⟨_, rfl⟩
                have B8 : Hid (Below w5.heap.size w5 w8) := Lib.hid (by rw [hw8]; exact B7.out.alloc B7.out.size _)
                have Kw8 : Hid (Blk w8 g 119 #[.int .i64 0, .int .i64 0, .int .i64 0, .int .i64 0]) := Lib.hid (by rw [hw8]; exact Blk.new w7 _ _ hg)
                have HGg : Hid (w5.heap.size ≤ g) := Lib.hid (by have := B7.out.size; omega)
                go_simp
                rw [← hw8, ← hg]
                clear hw8 hg
                refine hK.out _ _ (HT.out _ B8.out) (fun hHeld => ?_)
                clear hK K hPrev
                try simp only [Act.put, pz]
                refine wpAnyH_ready (rs := [13]) (by kernel_rfl) (by simp) (AllReadyH.cons rfl (fun K hK => ?_) AllReadyH.nil)
                have hPrev := hHeld
                clear hHeld
                obtain ⟨w9, hw9⟩ : ∃ w9, w9 = w8.setCells g 0 (statX t0 t1 t2 t3).toList := ⟨_, rfl⟩
                have Kw9 : Hid (Blk w9 g 119 #[.int .i64 t0, .int .i64 t1, .int .i64 t2, .int .i64 t3]) := Lib.hid (by rw [hw9]; exact Kw8.out.setAll _ rfl)
                have B9 : Hid (Below w5.heap.size w5 w9) := Lib.hid (by rw [hw9]; exact B8.out.trans ((chg_setCells g _ 0 w8).below (fun b hb e => by have := HGg.out; have e2 : b = g := e; omega) B8.out.size))
                refine wp_store_mid 119 (.tmp 12) (.tmp 162) rfl g 0 (statX t0 t1 t2 t3) rfl rfl (there_blk Kw8.out 4 (by decide)) (by kernel_rfl) (statX_one _ _ _ _) ?_
                rw [← hw9]
                clear hw9
                refine hK.out _ _ (HT.out _ B9.out) (fun hHeld => ?_)
                clear hK K hPrev
                try simp only [Act.put, pz]
                refine tkh 14 (v := ?_) rfl ?_ ?_; rotate_left
                · intro w hSw; (try dsimp only at hSw); go_simp <;> with_reducible rfl
                try simp only [Act.put, pz]
                refine wpAnyH_done (by kernel_rfl) ?_ _
                clear hHeld
                go_wp2_with fail
                go_meet
                exact ⟨g, rfl, rfl, B9, Kw9⟩
              ·
                have hPrev := hHeld
                clear hHeld
                obtain ⟨w7, hw7⟩ : ∃ w7, w7 = w6.alloc (.cells #[.int .i64 0, .int .i64 0, .int .i64 0, .int .i64 0] 119) := ⟨_, rfl⟩
                obtain ⟨g, hg⟩ : ∃ g, g = w6.heap.size := ⟨_, rfl⟩
                have B7 : Hid (Below w5.heap.size w5 w7) := Lib.hid (by rw [hw7]; exact B6.out.alloc B6.out.size _)
                have Kw7 : Hid (Blk w7 g 119 #[.int .i64 0, .int .i64 0, .int .i64 0, .int .i64 0]) := Lib.hid (by rw [hw7]; exact Blk.new w6 _ _ hg)
                have HGg : Hid (w5.heap.size ≤ g) := Lib.hid (by have := B6.out.size; omega)
                go_simp
                rw [← hw7, ← hg]
                clear hw7 hg
                refine hK.out _ _ (HT.out _ B7.out) (fun hHeld => ?_)
                clear hK K hPrev
                try simp only [Act.put, pz]
                refine wpAnyH_ready (rs := [8]) (by kernel_rfl) (by simp) (AllReadyH.cons rfl (fun K hK => ?_) AllReadyH.nil)
                have hPrev := hHeld
                clear hHeld
                have CS := Lib.hid (HS1.out w7 B7.out)
                go_simp
                refine CS.out.mono ?_
                rintro e w8 ⟨rfl, hb9⟩
                simp only
                have BX := Lib.hid hb9
                have B8 : Hid (Below w5.heap.size w5 w8) := Lib.hid (B7.out.trans (hb9.mono B7.out.size))
                clear hb9 CS
                refine hK.out _ _ (HT.out _ B8.out) (fun hHeld => ?_)
                clear hK K hPrev
                try simp only [Act.put, pz]
                refine tkh 9 (v := ?_) rfl ?_ ?_; rotate_left
                · intro w hSw; (try dsimp only at hSw); go_simp <;> with_reducible rfl
                try simp only [Act.put, pz]
                refine tkh 10 (v := ?_) rfl ?_ ?_; rotate_left
                · intro w hSw; (try dsimp only at hSw); go_simp <;> with_reducible rfl
                try simp only [Act.put, pz]
                refine tkh 11 (v := ?_) rfl ?_ ?_; rotate_left
                · intro w hSw; (try dsimp only at hSw); go_simp <;> with_reducible rfl
                try simp only [Act.put, pz]
                have KB := Lib.hid (Kw7.out.keep BX.out)
                refine wpAnyH_ready (rs := [13]) (by kernel_rfl) (by simp) (AllReadyH.cons rfl (fun K hK => ?_) AllReadyH.nil)
                have hPrev := hHeld
                clear hHeld
                obtain ⟨w9, hw9⟩ : ∃ w9, w9 = w8.setCells g 0 (statX t0 t1 t2 t3).toList := ⟨_, rfl⟩
                have Kw9 : Hid (Blk w9 g 119 #[.int .i64 t0, .int .i64 t1, .int .i64 t2, .int .i64 t3]) := Lib.hid (by rw [hw9]; exact KB.out.setAll _ rfl)
                have B9 : Hid (Below w5.heap.size w5 w9) := Lib.hid (by rw [hw9]; exact B8.out.trans ((chg_setCells g _ 0 w8).below (fun b hb e => by have := HGg.out; have e2 : b = g := e; omega) B8.out.size))
                refine wp_store_mid 119 (.tmp 12) (.tmp 162) rfl g 0 (statX t0 t1 t2 t3) rfl rfl (there_blk KB.out 4 (by decide)) (by kernel_rfl) (statX_one _ _ _ _) ?_
                rw [← hw9]
                clear hw9
                refine hK.out _ _ (HT.out _ B9.out) (fun hHeld => ?_)
                clear hK K hPrev
                try simp only [Act.put, pz]
                refine tkh 14 (v := ?_) rfl ?_ ?_; rotate_left
                · intro w hSw; (try dsimp only at hSw); go_simp <;> with_reducible rfl
                try simp only [Act.put, pz]
                refine wpAnyH_done (by kernel_rfl) ?_ _
                clear hHeld
                go_wp2_with fail
                go_meet
                exact ⟨g, rfl, rfl, B9, Kw9⟩
            case rest =>
             as_aux_lemma =>
              obtain ⟨g, rfl, rfl, BC, KC⟩ := hcut
              obtain ⟨w7, rfl⟩ : ∃ w7 : World, w7 = wc := ⟨_, rfl⟩
              have HT0 := HT
              have HS20 := HS2
              go_upto_region 36 with fail
              go_cut [14, 15] (fun s14 s15 wx => ∃ g2, s14 = .pointer (some ⟨g2, 0, none⟩) ∧ s15 = .int .i64 t4 ∧ Hid (Below w7.heap.size w7 wx) ∧ Hid (Blk wx g2 119 #[.int .i64 t0, .int .i64 t1, .int .i64 t2, .int .i64 t3]))
              case first =>
               as_aux_lemma =>
                have HT : Hid (∀ wx, Below w7.heap.size w7 wx → (fun w' => w'.cell? ⟨P, 13, none⟩ = some (.pointer (some ⟨p, 0, none⟩)) ∧ w'.cell? ⟨P, 14, none⟩ = some (.pointer (some ⟨q, 0, none⟩)) ∧ w'.cell? ⟨gn, j, none⟩ = some (.string (strB nm)) ∧ w'.cell? ⟨ga, j, none⟩ = some (.string (strB nm))) wx) := Lib.hid (fun wx hb => HT0.out wx (BC.out.trans (hb.mono BC.out.size)))
                have HS2 := Lib.hid (fun wx (hb : Below w7.heap.size w7 wx) => HS20.out wx (BC.out.trans (hb.mono BC.out.size)))
                clear HT0 HS20
                refine wp_region_any (by kernel_rfl) ?_
                change wpAny _ _ _ _ _ _ _ (World.drew _)
                refine wpAny_of_held (S := fun w' => w'.cell? ⟨P, 13, none⟩ = some (.pointer (some ⟨p, 0, none⟩)) ∧ w'.cell? ⟨P, 14, none⟩ = some (.pointer (some ⟨q, 0, none⟩)) ∧ w'.cell? ⟨gn, j, none⟩ = some (.string (strB nm)) ∧ w'.cell? ⟨ga, j, none⟩ = some (.string (strB nm))) _ _ _ _ ?_
                obtain ⟨w6q, hw6q⟩ : ∃ w6q, w6q = w7.drew := ⟨_, rfl⟩
                have B6 : Hid (Below w7.heap.size w7 w6q) := Lib.hid (by rw [hw6q]; exact (Below.refl _ _).drew)
                rw [← hw6q]
                clear hw6q
                have hHeld : (fun w' => w'.cell? ⟨P, 13, none⟩ = some (.pointer (some ⟨p, 0, none⟩)) ∧ w'.cell? ⟨P, 14, none⟩ = some (.pointer (some ⟨q, 0, none⟩)) ∧ w'.cell? ⟨gn, j, none⟩ = some (.string (strB nm)) ∧ w'.cell? ⟨ga, j, none⟩ = some (.string (strB nm))) w6q := HT.out w6q B6.out
                refine tkh 0 (v := ?_) rfl ?_ ?_; rotate_left
                · intro w hSw; (try dsimp only at hSw); go_simp <;> with_reducible rfl
                try simp only [Act.put, pz]
                refine tkh 1 (v := ?_) rfl ?_ ?_; rotate_left
                · intro w hSw; (try dsimp only at hSw); go_simp <;> with_reducible rfl
                try simp only [Act.put, pz]
                refine tkh 2 (v := ?_) rfl ?_ ?_; rotate_left
                · intro w hSw; (try dsimp only at hSw); go_simp <;> with_reducible rfl
                try simp only [Act.put, pz]
                refine tkh 3 (v := ?_) rfl ?_ ?_; rotate_left
                · intro w hSw; obtain ⟨y0, y1, y2, y3⟩ := hSw; go_simp <;> with_reducible rfl
                try simp only [Act.put, pz]
                refine tkh 4 (v := ?_) rfl ?_ ?_; rotate_left
                · intro w hSw; (try dsimp only at hSw); go_simp <;> with_reducible rfl
                try simp only [Act.put, pz]
                refine tkh 5 (v := ?_) rfl ?_ ?_; rotate_left
                · intro w hSw; (try dsimp only at hSw); go_simp <;> with_reducible rfl
                try simp only [Act.put, pz]
                refine tkh 6 (v := ?_) rfl ?_ ?_; rotate_left
                · intro w hSw; (try dsimp only at hSw); go_simp <;> with_reducible rfl
                try simp only [Act.put, pz]
                refine tkh 7 (v := ?_) rfl ?_ ?_; rotate_left
                · intro w hSw; obtain ⟨y0, y1, y2, y3⟩ := hSw; go_simp <;> with_reducible rfl
                try simp only [Act.put, pz]
                refine wpAnyH_ready (rs := [8, 12]) (by kernel_rfl) (by simp) (AllReadyH.cons rfl (fun K hK => ?_) (AllReadyH.cons rfl (fun K hK => ?_) AllReadyH.nil))
                ·
                  have hPrev := hHeld
                  clear hHeld
                  have CS := Lib.hid (HS2.out w6q B6.out)
                  go_simp
                  refine CS.out.mono ?_
                  rintro e w7r ⟨rfl, hb9⟩
                  simp only
                  have BX := Lib.hid hb9
                  have B7 : Hid (Below w7.heap.size w7 w7r) := Lib.hid (B6.out.trans (hb9.mono B6.out.size))
                  clear hb9 CS
                  refine hK.out _ _ (HT.out _ B7.out) (fun hHeld => ?_)
                  clear hK K hPrev
                  try simp only [Act.put, pz]
                  refine tkh 9 (v := ?_) rfl ?_ ?_; rotate_left
                  · intro w hSw; (try dsimp only at hSw); go_simp <;> with_reducible rfl
                  try simp only [Act.put, pz]
                  refine tkh 10 (v := ?_) rfl ?_ ?_; rotate_left
                  · intro w hSw; (try dsimp only at hSw); go_simp <;> with_reducible rfl
                  try simp only [Act.put, pz]
                  refine tkh 11 (v := ?_) rfl ?_ ?_; rotate_left
                  · intro w hSw; (try dsimp only at hSw); go_simp <;> with_reducible rfl
                  try simp only [Act.put, pz]
                  refine wpAnyH_ready (rs := [12]) (by kernel_rfl) (by simp) (AllReadyH.cons rfl (fun K hK => ?_) AllReadyH.nil)
                  have hPrev := hHeld
                  clear hHeld
                  obtain ⟨w8, hw8⟩ : ∃ w8, w8 = w7r.alloc (.cells #[.int .i64 0, .int .i64 0, .int .i64 0, .int .i64 0] 119) := ⟨_, rfl⟩
                  obtain ⟨g2, hg2⟩ : ∃ g2, g2 = w7r.heap.size := ⟨_, rfl⟩
                  have B8 : Hid (Below w7.heap.size w7 w8) := Lib.hid (by rw [hw8]; exact B7.out.alloc B7.out.size _)
                  have Kw8 : Hid (Blk w8 g2 119 #[.int .i64 0, .int .i64 0, .int .i64 0, .int .i64 0]) := Lib.hid (by rw [hw8]; exact Blk.new w7r _ _ hg2)
                  have HGg2 : Hid (w7.heap.size ≤ g2) := Lib.hid (by have := B7.out.size; omega)
                  go_simp
                  rw [← hw8, ← hg2]
                  clear hw8 hg2
                  refine hK.out _ _ (HT.out _ B8.out) (fun hHeld => ?_)
                  clear hK K hPrev
                  try simp only [Act.put, pz]
                  refine wpAnyH_ready (rs := [13]) (by kernel_rfl) (by simp) (AllReadyH.cons rfl (fun K hK => ?_) AllReadyH.nil)
                  have hPrev := hHeld
                  clear hHeld
                  obtain ⟨w9, hw9⟩ : ∃ w9, w9 = w8.setCells g2 0 (statX t0 t1 t2 t3).toList := ⟨_, rfl⟩
                  have Kw9 : Hid (Blk w9 g2 119 #[.int .i64 t0, .int .i64 t1, .int .i64 t2, .int .i64 t3]) := Lib.hid (by rw [hw9]; exact Kw8.out.setAll _ rfl)
                  have B9 : Hid (Below w7.heap.size w7 w9) := Lib.hid (by rw [hw9]; exact B8.out.trans ((chg_setCells g2 _ 0 w8).below (fun b hb e => by have := HGg2.out; have e2 : b = g2 := e; omega) B8.out.size))
                  refine wp_store_mid 119 (.tmp 14) (.tmp 174) rfl g2 0 (statX t0 t1 t2 t3) rfl rfl (there_blk Kw8.out 4 (by decide)) (by kernel_rfl) (statX_one _ _ _ _) ?_
                  rw [← hw9]
                  clear hw9
                  refine hK.out _ _ (HT.out _ B9.out) (fun hHeld => ?_)
                  clear hK K hPrev
                  try simp only [Act.put, pz]
                  refine tkh 14 (v := ?_) rfl ?_ ?_; rotate_left
                  · intro w hSw; (try dsimp only at hSw); go_simp <;> with_reducible rfl
                  try simp only [Act.put, pz]
                  refine wpAnyH_done (by kernel_rfl) ?_ _
                  clear hHeld
                  go_wp2_with fail
                  go_meet
                  exact ⟨g2, rfl, rfl, B9, Kw9⟩
                ·
                  have hPrev := hHeld
                  clear hHeld
                  obtain ⟨w7r, hw7r⟩ : ∃ w7r, w7r = w6q.alloc (.cells #[.int .i64 0, .int .i64 0, .int .i64 0, .int .i64 0] 119) := ⟨_, rfl⟩
                  obtain ⟨g2, hg2⟩ : ∃ g2, g2 = w6q.heap.size := ⟨_, rfl⟩
                  have B7 : Hid (Below w7.heap.size w7 w7r) := Lib.hid (by rw [hw7r]; exact B6.out.alloc B6.out.size _)
                  have Kw7r : Hid (Blk w7r g2 119 #[.int .i64 0, .int .i64 0, .int .i64 0, .int .i64 0]) := Lib.hid (by rw [hw7r]; exact Blk.new w6q _ _ hg2)
                  have HGg2 : Hid (w7.heap.size ≤ g2) := Lib.hid (by have := B6.out.size; omega)
                  go_simp
                  rw [← hw7r, ← hg2]
                  clear hw7r hg2
                  refine hK.out _ _ (HT.out _ B7.out) (fun hHeld => ?_)
                  clear hK K hPrev
                  try simp only [Act.put, pz]
                  refine wpAnyH_ready (rs := [8]) (by kernel_rfl) (by simp) (AllReadyH.cons rfl (fun K hK => ?_) AllReadyH.nil)
                  have hPrev := hHeld
                  clear hHeld
                  have CS := Lib.hid (HS2.out w7r B7.out)
                  go_simp
                  refine CS.out.mono ?_
                  rintro e w8 ⟨rfl, hb9⟩
                  simp only
                  have BX := Lib.hid hb9
                  have B8 : Hid (Below w7.heap.size w7 w8) := Lib.hid (B7.out.trans (hb9.mono B7.out.size))
                  clear hb9 CS
                  refine hK.out _ _ (HT.out _ B8.out) (fun hHeld => ?_)
                  clear hK K hPrev
                  try simp only [Act.put, pz]
                  refine tkh 9 (v := ?_) rfl ?_ ?_; rotate_left
                  · intro w hSw; (try dsimp only at hSw); go_simp <;> with_reducible rfl
                  try simp only [Act.put, pz]
                  refine tkh 10 (v := ?_) rfl ?_ ?_; rotate_left
                  · intro w hSw; (try dsimp only at hSw); go_simp <;> with_reducible rfl
                  try simp only [Act.put, pz]
                  refine tkh 11 (v := ?_) rfl ?_ ?_; rotate_left
                  · intro w hSw; (try dsimp only at hSw); go_simp <;> with_reducible rfl
                  try simp only [Act.put, pz]
                  have KB := Lib.hid (Kw7r.out.keep BX.out)
                  refine wpAnyH_ready (rs := [13]) (by kernel_rfl) (by simp) (AllReadyH.cons rfl (fun K hK => ?_) AllReadyH.nil)
                  have hPrev := hHeld
                  clear hHeld
                  obtain ⟨w9, hw9⟩ : ∃ w9, w9 = w8.setCells g2 0 (statX t0 t1 t2 t3).toList := ⟨_, rfl⟩
                  have Kw9 : Hid (Blk w9 g2 119 #[.int .i64 t0, .int .i64 t1, .int .i64 t2, .int .i64 t3]) := Lib.hid (by rw [hw9]; exact KB.out.setAll _ rfl)
                  have B9 : Hid (Below w7.heap.size w7 w9) := Lib.hid (by rw [hw9]; exact B8.out.trans ((chg_setCells g2 _ 0 w8).below (fun b hb e => by have := HGg2.out; have e2 : b = g2 := e; omega) B8.out.size))
                  refine wp_store_mid 119 (.tmp 14) (.tmp 174) rfl g2 0 (statX t0 t1 t2 t3) rfl rfl (there_blk KB.out 4 (by decide)) (by kernel_rfl) (statX_one _ _ _ _) ?_
                  rw [← hw9]
                  clear hw9
                  refine hK.out _ _ (HT.out _ B9.out) (fun hHeld => ?_)
                  clear hK K hPrev
                  try simp only [Act.put, pz]
                  refine tkh 14 (v := ?_) rfl ?_ ?_; rotate_left
                  · intro w hSw; (try dsimp only at hSw); go_simp <;> with_reducible rfl
                  try simp only [Act.put, pz]
                  refine wpAnyH_done (by kernel_rfl) ?_ _
                  clear hHeld
                  go_wp2_with fail
                  go_meet
                  exact ⟨g2, rfl, rfl, B9, Kw9⟩
              case rest =>
               as_aux_lemma =>
                obtain ⟨g2, rfl, rfl, BD, KD⟩ := hcut
                obtain ⟨w8, rfl⟩ : ∃ w8 : World, w8 = wc := ⟨_, rfl⟩
                have BW : Hid (Below w5.heap.size w5 w8) := Lib.hid (BC.out.trans (BD.out.mono BC.out.size))
                have K8 := Lib.hid (KC.out.keep BD.out)
                have e0 : w8.cell? ⟨g, 0, none⟩ = some (.int .i64 t0) := (K8.out.cell 0).trans rfl
                have e1 : w8.cell? ⟨g, 1, none⟩ = some (.int .i64 t1) := (K8.out.cell 1).trans rfl
                have e2 : w8.cell? ⟨g, 2, none⟩ = some (.int .i64 t2) := (K8.out.cell 2).trans rfl
                have e3 : w8.cell? ⟨g, 3, none⟩ = some (.int .i64 t3) := (K8.out.cell 3).trans rfl
                have f0 : w8.cell? ⟨g2, 0, none⟩ = some (.int .i64 t0) := (KD.out.cell 0).trans rfl
                have f1 : w8.cell? ⟨g2, 1, none⟩ = some (.int .i64 t1) := (KD.out.cell 1).trans rfl
                have f2 : w8.cell? ⟨g2, 2, none⟩ = some (.int .i64 t2) := (KD.out.cell 2).trans rfl
                have f3 : w8.cell? ⟨g2, 3, none⟩ = some (.int .i64 t3) := (KD.out.cell 3).trans rfl
                obtain ⟨_, _, r0, r1⟩ := HT.out w8 BW.out
                have hst := neq_stat t0 t1 t2 t3 t0 t1 t2 t3
                rw [show eqS4 t0 t1 t2 t3 t0 t1 t2 t3 = true by unfold eqS4; simp] at hst
                have h44 : (t4 != t4) = false := by simp
                go_upto_region 37 with fail
                go_cut [194] (fun s wx => s = .bool false ∧ Hid (Below w8.heap.size w8 wx))
                case first =>
                  go_quiet (fail)
                  go_wp2_with fail
                  go_meet
                  exact ⟨rfl, Lib.hid (below_drewN (Below.refl _ _) _)⟩
                case rest =>
                  obtain ⟨rfl, BE⟩ := hcut
                  have HB : Hid (Below w4.heap.size w4 wc) := Lib.hid (BR.out.trans ((BW.out.trans (BE.out.mono BW.out.size)).mono BR.out.size))
                  clear e0 e1 e2 e3 f0 f1 f2 f3 r0 r1 hst h44
                  go_wp2_with fail
                  go_roundw
                  case rel => exact ⟨j + 1, by go_num, by omega, HB⟩
                  case measure => simp [intOf]; omega
          · obtain rfl : j = N := by omega
            have HF : Hid (TruQ w (.returned (.bool true)) w5) := Lib.hid ⟨rfl, HG.out.bel.trans ((B4.out.trans (BR.out.mono B4.out.size)).mono HG.out.bel.size)⟩
            go_wp2_with fail
            go_ret
            exact HF.out
      case true =>
       as_aux_lemma =>
        obtain ⟨hlt, h80⟩ := hb0.1 rfl
        clear hb0
        obtain ⟨C, p, n, d, q, r, oo, hn, hG, al, hI⟩ := GR.out
        obtain ⟨sb, off, rfl, hbl, hcell⟩ := HR.out.at_ (by omega)
        obtain ⟨o, ho⟩ : ∃ o, l[i]? = some o := ⟨_, List.getElem?_eq_getElem (by rw [HR.out.len]; exact hlt)⟩
        have HIN := Lib.hid (HR.out.in_ o (List.mem_of_getElem? ho))
        have HC : Hid (∀ wx, Below w.heap.size w wx → ∀ (j : Nat) (u : Value), (oC17 o)[j]? = some u → wx.cell? ⟨sb, off + i * 15 + j, none⟩ = some u) := Lib.hid (fun wx hb j u hu => cell_later hb (hcell i o ho j u hu))
        have hi0 : (0 : Int) ≤ (i : Int) := by omega
        have hi1 : (i : Int) < (n0 : Int) := by omega
        have HNN := Lib.hid hn
        have HAL := Lib.hid al
        have HI := Lib.hid hI
        obtain ⟨w3, hw3⟩ : ∃ w3, w3 = wr.alloc (.cells #[.int .i64 o.k, .string (strB o.a), .string (strB o.b), .string (strB o.s), .slice o.A o.m o.cp, .int .i64 o.n, .int .i64 o.mr.se, .int .i64 o.mr.ino, .int .i64 o.mr.ge, .int .i64 o.mr.off, .int .i64 o.mr.mi, .int .i64 o.mr.go, .int .i64 o.mr.cu, .int .i64 o.mr.ta, .int .i64 o.mr.lo] 111) := ⟨_, rfl⟩
        obtain ⟨gb, hgb⟩ : ∃ gb, gb = wr.heap.size := ⟨_, rfl⟩
        have B3 : Hid (Below wr.heap.size wr w3) := Lib.hid (by rw [hw3]; exact (Below.refl _ _).alloc (Nat.le_refl _) _)
        have K3 : Hid (Blk w3 gb 111 #[.int .i64 o.k, .string (strB o.a), .string (strB o.b), .string (strB o.s), .slice o.A o.m o.cp, .int .i64 o.n, .int .i64 o.mr.se, .int .i64 o.mr.ino, .int .i64 o.mr.ge, .int .i64 o.mr.off, .int .i64 o.mr.mi, .int .i64 o.mr.go, .int .i64 o.mr.cu, .int .i64 o.mr.ta, .int .i64 o.mr.lo]) := Lib.hid (by rw [hw3]; exact Blk.new wr _ _ hgb)
        obtain ⟨BP, hBP⟩ : ∃ BP : PartT, BP = (fun W C => FrC W C 6 (fun w => Blk w gb 111 #[.int .i64 o.k, .string (strB o.a), .string (strB o.b), .string (strB o.s), .slice o.A o.m o.cp, .int .i64 o.n, .int .i64 o.mr.se, .int .i64 o.mr.ino, .int .i64 o.mr.ge, .int .i64 o.mr.off, .int .i64 o.mr.mi, .int .i64 o.mr.go, .int .i64 o.mr.cu, .int .i64 o.mr.ta, .int .i64 o.mr.lo])) := ⟨_, rfl⟩
        have HBP : Hid (∀ w C, BP w C → Blk w gb 111 #[.int .i64 o.k, .string (strB o.a), .string (strB o.b), .string (strB o.s), .slice o.A o.m o.cp, .int .i64 o.n, .int .i64 o.mr.se, .int .i64 o.mr.ino, .int .i64 o.mr.ge, .int .i64 o.mr.off, .int .i64 o.mr.mi, .int .i64 o.mr.go, .int .i64 o.mr.cu, .int .i64 o.mr.ta, .int .i64 o.mr.lo]) := Lib.hid (fun w C h => by rw [hBP] at h; exact h.now)
        have GX : Hid (GS w w3 (paint C wr.heap.size 6) (L2 w p n d q r [FPp k oo, GPp k oo, PPp P li k m p q oo, BP])) := Lib.hid (by
          have h1 := hG.holdBlk B3.out K3.out (by omega)
          rw [hBP]; exact h1)
        obtain ⟨C3, hC3⟩ : ∃ C3, C3 = paint C wr.heap.size 6 := ⟨_, rfl⟩
        rw [← hC3] at GX
        have G3 : Hid (GS w w3 C3 (LF w P li k m p n d q r oo)) := Lib.hid (GS.front (L := LF w P li k m p n d q r oo) (K := [BP]) GX.out)
        have c0 : wr.cell? ⟨sb, off + i * 15, none⟩ = some (.int .i64 o.k) := HC.out wr hG.bel 0 _ rfl
        have c1 : wr.cell? ⟨sb, off + i * 15 + 1, none⟩ = some (.string (strB o.a)) := HC.out wr hG.bel 1 _ rfl
        have c2 : wr.cell? ⟨sb, off + i * 15 + 2, none⟩ = some (.string (strB o.b)) := HC.out wr hG.bel 2 _ rfl
        have c3 : wr.cell? ⟨sb, off + i * 15 + 3, none⟩ = some (.string (strB o.s)) := HC.out wr hG.bel 3 _ rfl
        have c4 : wr.cell? ⟨sb, off + i * 15 + 4, none⟩ = some (.slice o.A o.m o.cp) := HC.out wr hG.bel 4 _ rfl
        have c5 : wr.cell? ⟨sb, off + i * 15 + 5, none⟩ = some (.int .i64 o.n) := HC.out wr hG.bel 5 _ rfl
        have c6 : wr.cell? ⟨sb, off + i * 15 + 6, none⟩ = some (.int .i64 o.mr.se) := HC.out wr hG.bel 6 _ rfl
        have c7 : wr.cell? ⟨sb, off + i * 15 + 7, none⟩ = some (.int .i64 o.mr.ino) := HC.out wr hG.bel 7 _ rfl
        have c8 : wr.cell? ⟨sb, off + i * 15 + 8, none⟩ = some (.int .i64 o.mr.ge) := HC.out wr hG.bel 8 _ rfl
        have c9 : wr.cell? ⟨sb, off + i * 15 + 9, none⟩ = some (.int .i64 o.mr.off) := HC.out wr hG.bel 9 _ rfl
        have c10 : wr.cell? ⟨sb, off + i * 15 + 10, none⟩ = some (.int .i64 o.mr.mi) := HC.out wr hG.bel 10 _ rfl
        have c11 : wr.cell? ⟨sb, off + i * 15 + 11, none⟩ = some (.int .i64 o.mr.go) := HC.out wr hG.bel 11 _ rfl
        have c12 : wr.cell? ⟨sb, off + i * 15 + 12, none⟩ = some (.int .i64 o.mr.cu) := HC.out wr hG.bel 12 _ rfl
        have c13 : wr.cell? ⟨sb, off + i * 15 + 13, none⟩ = some (.int .i64 o.mr.ta) := HC.out wr hG.bel 13 _ rfl
        have c14 : wr.cell? ⟨sb, off + i * 15 + 14, none⟩ = some (.int .i64 o.mr.lo) := HC.out wr hG.bel 14 _ rfl
        clear hbl hcell ho hn hG al hI GR hC3 hBP
        go_upto_region 10 with fail
        rw [← hw3, ← hgb]
        clear hw3 hgb c0 c1 c2 c3 c4 c5 c6 c7 c8 c9 c10 c11 c12 c13 c14 HC
        have HP : Hid (∀ wx, Below w3.heap.size w3 wx → PPp P li k m p q oo wx C3 ∧ Blk wx gb 111 #[.int .i64 o.k, .string (strB o.a), .string (strB o.b), .string (strB o.s), .slice o.A o.m o.cp, .int .i64 o.n, .int .i64 o.mr.se, .int .i64 o.mr.ino, .int .i64 o.mr.ge, .int .i64 o.mr.off, .int .i64 o.mr.mi, .int .i64 o.mr.go, .int .i64 o.mr.cu, .int .i64 o.mr.ta, .int .i64 o.mr.lo]) := Lib.hid (fun wx hb => ⟨(G3.out.keep hb).at_ (k := 4) rfl, K3.out.keep hb⟩)
        have HJ : Hid (i < n0 ∧ i < 100) := Lib.hid ⟨hlt, h80⟩
        clear hi0 hi1
        have z0 : w3.cell? ⟨gb, 0, none⟩ = some (.int .i64 o.k) := (K3.out.cell 0).trans rfl
        by_cases h7 : o.k < 7
        · go_upto_region 12 with fail
          clear h7 z0
          refine wp_region_any (by kernel_rfl) ?_
          change wpAny _ _ _ _ _ _ _ (World.drew _)
          refine wpAny_of_held (S := mT12 P p q gb o) _ _ _ _ ?_
          obtain ⟨w4, hw4⟩ : ∃ w4, w4 = w3.drew := ⟨_, rfl⟩
          have B4 : Hid (Below w3.heap.size w3 w4) := Lib.hid (by rw [hw4]; exact (Below.refl _ _).drew)
          rw [← hw4]
          clear hw4
          have hHeld : (mT12 P p q gb o) w4 := ⟨((HP.out w4 B4.out).1.1.cell 13).trans rfl, ((HP.out w4 B4.out).1.1.cell 14).trans rfl, ((HP.out w4 B4.out).2.cell 0).trans rfl, ((HP.out w4 B4.out).2.cell 1).trans rfl, ((HP.out w4 B4.out).2.cell 2).trans rfl, ((HP.out w4 B4.out).2.cell 3).trans rfl, ((HP.out w4 B4.out).2.cell 4).trans rfl, ((HP.out w4 B4.out).2.cell 5).trans rfl, ((HP.out w4 B4.out).2.cell 6).trans rfl, ((HP.out w4 B4.out).2.cell 7).trans rfl, ((HP.out w4 B4.out).2.cell 8).trans rfl, ((HP.out w4 B4.out).2.cell 9).trans rfl, ((HP.out w4 B4.out).2.cell 10).trans rfl, ((HP.out w4 B4.out).2.cell 11).trans rfl, ((HP.out w4 B4.out).2.cell 12).trans rfl, ((HP.out w4 B4.out).2.cell 13).trans rfl, ((HP.out w4 B4.out).2.cell 14).trans rfl⟩
          have cw := writes_any (M := [FPp k oo, GPp k oo, PPp P li k m p q oo, BP]) (GX.out.keep B4.out) HAL.out (by have := HNN.out; have := HJ.out.2; omega) o HIN.out
          unfold oC17 at cw
          have CW := Lib.hid cw
          clear cw
          refine tkh 0 (v := ?_) rfl ?_ ?_; rotate_left
          · intro w hSw; (try dsimp only at hSw); go_simp <;> with_reducible rfl
          try simp only [Act.put, pz]
          refine tkh 1 (v := ?_) rfl ?_ ?_; rotate_left
          · intro w hSw; (try dsimp only at hSw); go_simp <;> with_reducible rfl
          try simp only [Act.put, pz]
          refine tkh 2 (v := ?_) rfl ?_ ?_; rotate_left
          · intro w hSw; (try dsimp only at hSw); go_simp <;> with_reducible rfl
          try simp only [Act.put, pz]
          refine tkh 3 (v := ?_) rfl ?_ ?_; rotate_left
          · intro w hSw; obtain ⟨y0, y1, z0, z1, z2, z3, z4, z5, z6, z7, z8, z9, z10, z11, z12, z13, z14⟩ := hSw; go_simp <;> with_reducible rfl
          try simp only [Act.put, pz]
          refine tkh 4 (v := ?_) rfl ?_ ?_; rotate_left
          · intro w hSw; (try dsimp only at hSw); go_simp <;> with_reducible rfl
          try simp only [Act.put, pz]
          refine tkh 5 (v := ?_) rfl ?_ ?_; rotate_left
          · intro w hSw; (try dsimp only at hSw); go_simp <;> with_reducible rfl
          try simp only [Act.put, pz]
          refine tkh 6 (v := ?_) rfl ?_ ?_; rotate_left
          · intro w hSw; (try dsimp only at hSw); go_simp <;> with_reducible rfl
          try simp only [Act.put, pz]
          refine tkh 7 (v := ?_) rfl ?_ ?_; rotate_left
          · intro w hSw; obtain ⟨y0, y1, z0, z1, z2, z3, z4, z5, z6, z7, z8, z9, z10, z11, z12, z13, z14⟩ := hSw; go_simp <;> with_reducible rfl
          try simp only [Act.put, pz]
          refine tkh 8 (v := ?_) rfl ?_ ?_; rotate_left
          · intro w hSw; obtain ⟨y0, y1, z0, z1, z2, z3, z4, z5, z6, z7, z8, z9, z10, z11, z12, z13, z14⟩ := hSw; go_simp <;> with_reducible rfl
          try simp only [Act.put, pz]
          refine wpAnyH_ready (rs := [9]) (by kernel_rfl) (by simp) (AllReadyH.cons rfl (fun K hK => ?_) AllReadyH.nil)
          have hPrev := hHeld
          clear hHeld
          go_simp
          refine CW.out.mono ?_
          rintro e w5 ⟨rfl, C5, d5, r5, al5, hg5⟩
          have hg6 : GS w w5 C5 (LF w P li k m p (n + 2) d5 q r5 oo) := GS.front (L := LF w P li k m p (n + 2) d5 q r5 oo) (K := [BP]) hg5
          have HQ : Hid (PlF w P li k m (i + 1) w5) := Lib.hid ⟨C5, p, n + 2, d5, q, r5, oo, by have := HNN.out; omega, hg6, al5, HI.out.more (by omega)⟩
          have hb5 := HBP.out _ _ (hg5.at_ (k := 5) rfl : BP w5 C5)
          have hP5 := (hg6.at_ (k := 4) rfl : PPp P li k m p q oo w5 C5)
          have HT5 : Hid ((mT12 P p q gb o) w5) := Lib.hid ⟨(hP5.1.cell 13).trans rfl, (hP5.1.cell 14).trans rfl, (hb5.cell 0).trans rfl, (hb5.cell 1).trans rfl, (hb5.cell 2).trans rfl, (hb5.cell 3).trans rfl, (hb5.cell 4).trans rfl, (hb5.cell 5).trans rfl, (hb5.cell 6).trans rfl, (hb5.cell 7).trans rfl, (hb5.cell 8).trans rfl, (hb5.cell 9).trans rfl, (hb5.cell 10).trans rfl, (hb5.cell 11).trans rfl, (hb5.cell 12).trans rfl, (hb5.cell 13).trans rfl, (hb5.cell 14).trans rfl⟩
          clear CW hg5 hg6 al5 hb5 hP5
          refine hK.out _ _ (HT5.out) (fun hHeld => ?_)
          clear hK K hPrev
          try simp only [Act.put, pz]
          refine tkh 10 (v := ?_) rfl ?_ ?_; rotate_left
          · intro w hSw; (try dsimp only at hSw); go_simp <;> with_reducible rfl
          try simp only [Act.put, pz]
          refine wpAnyH_done (by kernel_rfl) ?_ _
          clear hHeld HT5
          go_wp2_with fail
          go_roundw
          case rel => exact ⟨i + 1, by go_num, by have := HJ.out.1; omega, by have := HJ.out.2; omega, HQ⟩
          case measure => simp [intOf]; omega
        · have c15 : w3.cell? ⟨P, 15, none⟩ = some (ptF oo) := ((HP.out w3 (Below.refl _ _)).1.1.cell 15).trans rfl
          cases oo with
          | none =>
            replace c15 : w3.cell? ⟨P, 15, none⟩ = some (.pointer none) := c15
            have HQ : Hid (PlF w P li k m (i + 1) w3) := Lib.hid ⟨C3, p, n, d, q, r, none, by have := HNN.out; omega, G3.out, HAL.out, HI.out.more (by omega)⟩
            go_wp2_with fail
            go_roundw
            case rel => exact ⟨i + 1, by go_num, by have := HJ.out.1; omega, by have := HJ.out.2; omega, HQ⟩
            case measure => simp [intOf]; omega
          | some x =>
            replace c15 : w3.cell? ⟨P, 15, none⟩ = some (.pointer (some ⟨x.fl, 0, none⟩)) := c15
            have c16 : w3.cell? ⟨P, 16, none⟩ = some (.pointer (some ⟨x.gb, 0, none⟩)) := ((HP.out w3 (Below.refl _ _)).1.1.cell 16).trans rfl
            by_cases k7 : o.k = 7
            · have e7 : (o.k == (7 : Int)) = true := beq_iff_eq.2 k7
              clear k7
              have CS := Lib.hid (steps_any G3.out HAL.out HI.out (by have := HJ.out.2; omega) 1)
              go_wp2_with fail
              refine CS.out.mono ?_
              rintro e w4 ⟨rfl, C4, x4, hg4, hi4⟩
              have HQ : Hid (PlF w P li k m (i + 1) w4) := Lib.hid ⟨C4, p, n, d, q, r, some x4, by have := HNN.out; omega, hg4, HAL.out, hi4.more (by omega)⟩
              clear CS hg4 hi4 c15 c16 z0
              go_wp2_with fail
              go_roundw
              case rel => exact ⟨i + 1, by go_num, by have := HJ.out.1; omega, by have := HJ.out.2; omega, HQ⟩
              case measure => simp [intOf]; omega
            have e7 : (o.k == (7 : Int)) = false := beq_eq_false_iff_ne.2 k7
            by_cases k8 : o.k = 8
            · have e8 : (o.k == (8 : Int)) = true := beq_iff_eq.2 k8
              clear k8 k7
              have z5 : w3.cell? ⟨gb, 5, none⟩ = some (.int .i64 o.n) := (K3.out.cell 5).trans rfl
              have CS := Lib.hid (steps_any G3.out HAL.out HI.out (by have := HJ.out.2; omega) o.n)
              go_wp2_with fail
              refine CS.out.mono ?_
              rintro e w4 ⟨rfl, C4, x4, hg4, hi4⟩
              have HQ : Hid (PlF w P li k m (i + 1) w4) := Lib.hid ⟨C4, p, n, d, q, r, some x4, by have := HNN.out; omega, hg4, HAL.out, hi4.more (by omega)⟩
              clear CS hg4 hi4 c15 c16 z0 z5
              go_wp2_with fail
              go_roundw
              case rel => exact ⟨i + 1, by go_num, by have := HJ.out.1; omega, by have := HJ.out.2; omega, HQ⟩
              case measure => simp [intOf]; omega
            have e8 : (o.k == (8 : Int)) = false := beq_eq_false_iff_ne.2 k8
            by_cases k9 : o.k = 9
            · have e9 : (o.k == (9 : Int)) = true := beq_iff_eq.2 k9
              clear k9 k8 k7
              obtain ⟨_, _, _, _, y0, y1, y2, y3, y4, y5, y6, y7, y8⟩ := GfR.cells (G3.out.at_ (k := 3) rfl : GfR w3 C3 4 x.gb k x.f)
              have CS := Lib.hid (begin_any G3.out HAL.out HKL.out HI.out x.f)
              go_wp2_with fail
              refine CS.out.mono ?_
              rintro e w4 ⟨rfl, C4, x4, hg4, hi4⟩
              have HQ : Hid (PlF w P li k m (i + 1) w4) := Lib.hid ⟨C4, p, n, d, q, r, x4, by have := HNN.out; omega, hg4, HAL.out, hi4.more (by omega)⟩
              clear CS hg4 hi4 c15 c16 z0 y0 y1 y2 y3 y4 y5 y6 y7 y8
              go_wp2_with fail
              go_roundw
              case rel => exact ⟨i + 1, by go_num, by have := HJ.out.1; omega, by have := HJ.out.2; omega, HQ⟩
              case measure => simp [intOf]; omega
            have e9 : (o.k == (9 : Int)) = false := beq_eq_false_iff_ne.2 k9
            by_cases k10 : o.k = 10
            · have e10 : (o.k == (10 : Int)) = true := beq_iff_eq.2 k10
              clear k10 k9 k8 k7
              have y0 : w3.cell? ⟨gb, 6, none⟩ = some (.int .i64 o.mr.se) := (K3.out.cell 6).trans rfl
              have y1 : w3.cell? ⟨gb, 7, none⟩ = some (.int .i64 o.mr.ino) := (K3.out.cell 7).trans rfl
              have y2 : w3.cell? ⟨gb, 8, none⟩ = some (.int .i64 o.mr.ge) := (K3.out.cell 8).trans rfl
              have y3 : w3.cell? ⟨gb, 9, none⟩ = some (.int .i64 o.mr.off) := (K3.out.cell 9).trans rfl
              have y4 : w3.cell? ⟨gb, 10, none⟩ = some (.int .i64 o.mr.mi) := (K3.out.cell 10).trans rfl
              have y5 : w3.cell? ⟨gb, 11, none⟩ = some (.int .i64 o.mr.go) := (K3.out.cell 11).trans rfl
              have y6 : w3.cell? ⟨gb, 12, none⟩ = some (.int .i64 o.mr.cu) := (K3.out.cell 12).trans rfl
              have y7 : w3.cell? ⟨gb, 13, none⟩ = some (.int .i64 o.mr.ta) := (K3.out.cell 13).trans rfl
              have y8 : w3.cell? ⟨gb, 14, none⟩ = some (.int .i64 o.mr.lo) := (K3.out.cell 14).trans rfl
              have CS := Lib.hid (begin_any G3.out HAL.out HKL.out HI.out o.mr)
              go_wp2_with fail
              refine CS.out.mono ?_
              rintro e w4 ⟨rfl, C4, x4, hg4, hi4⟩
              have HQ : Hid (PlF w P li k m (i + 1) w4) := Lib.hid ⟨C4, p, n, d, q, r, x4, by have := HNN.out; omega, hg4, HAL.out, hi4.more (by omega)⟩
              clear CS hg4 hi4 c15 c16 z0 y0 y1 y2 y3 y4 y5 y6 y7 y8
              go_wp2_with fail
              go_roundw
              case rel => exact ⟨i + 1, by go_num, by have := HJ.out.1; omega, by have := HJ.out.2; omega, HQ⟩
              case measure => simp [intOf]; omega
            have e10 : (o.k == (10 : Int)) = false := beq_eq_false_iff_ne.2 k10
            by_cases k11 : o.k = 11
            · have e11 : (o.k == (11 : Int)) = true := beq_iff_eq.2 k11
              clear k11 k10 k9 k8 k7
              have c13 : w3.cell? ⟨P, 13, none⟩ = some (.pointer (some ⟨p, 0, none⟩)) := ((HP.out w3 (Below.refl _ _)).1.1.cell 13).trans rfl
              have CS := Lib.hid (GS.copyD1 G3.out)
              go_wp2_with fail
              refine CS.out.mono ?_
              rintro e w4 ⟨p2, rfl, hg4⟩
              have hP4 := (hg4.at_ (k := 4) rfl : PPp P li k m p q (some x) w4 (paint C3 w3.heap.size 1))
              have d13 : w4.cell? ⟨P, 13, none⟩ = some (.pointer (some ⟨p, 0, none⟩)) := (hP4.1.cell 13).trans rfl
              have f13 := hP4.1.frozen 13
              have G5 := Lib.hid (GS.setD hg4)
              obtain ⟨w5, hw5⟩ : ∃ w5, w5 = w4.setCell ⟨P, 13, none⟩ (.pointer (some ⟨p2, 0, none⟩)) := ⟨_, rfl⟩
              rw [← hw5] at G5
              have hP5 := (G5.out.at_ (k := 4) rfl : PPp P li k m p2 q (some x) w5 _)
              have d14 : w5.cell? ⟨P, 14, none⟩ = some (.pointer (some ⟨q, 0, none⟩)) := (hP5.1.cell 14).trans rfl
              have CT := Lib.hid (GS.copyR2 G5.out HAL.out.rok)
              clear CS hg4 hP4 hP5 c13
              go_upto_region 24 with fail
              rw [← hw5]
              clear hw5 d13 f13 c15 c16 z0
              go_wp2_with fail
              refine CT.out.mono ?_
              rintro e w6 ⟨q2, rfl, hg6⟩
              have hP6 := (hg6.at_ (k := 4) rfl : PPp P li k m p2 q (some x) w6 _)
              have d14' : w6.cell? ⟨P, 14, none⟩ = some (.pointer (some ⟨q, 0, none⟩)) := (hP6.1.cell 14).trans rfl
              have f14 := hP6.1.frozen 14
              have G7 := Lib.hid (GS.setR hg6)
              obtain ⟨w7, hw7⟩ : ∃ w7, w7 = w6.setCell ⟨P, 14, none⟩ (.pointer (some ⟨q2, 0, none⟩)) := ⟨_, rfl⟩
              rw [← hw7] at G7
              have hP7 := (G7.out.at_ (k := 4) rfl : PPp P li k m p2 q2 (some x) w7 _)
              have d13 : w7.cell? ⟨P, 13, none⟩ = some (.pointer (some ⟨p2, 0, none⟩)) := (hP7.1.cell 13).trans rfl
              have HQ : Hid (PlF w P li k m (i + 1) w7) := Lib.hid ⟨_, p2, n, d, q2, r, some x, by have := HNN.out; omega, G7.out, HAL.out, HI.out.more (by omega)⟩
              clear CT hg6 hP6 hP7 G5 G7 d14
              go_upto_region 25 with fail
              rw [← hw7]
              clear hw7 d14' f14
              go_wp2_with fail
              go_roundw
              case rel => exact ⟨i + 1, by go_num, by have := HJ.out.1; omega, by have := HJ.out.2; omega, HQ⟩
              case measure => simp [intOf]; omega
            have e11 : (o.k == (11 : Int)) = false := beq_eq_false_iff_ne.2 k11
            clear k11 k10 k9 k8 k7
            have HQ : Hid (PlF w P li k m (i + 1) w3) := Lib.hid ⟨C3, p, n, d, q, r, some x, by have := HNN.out; omega, G3.out, HAL.out, HI.out.more (by omega)⟩
            go_wp2_with fail
            go_roundw
            case rel => exact ⟨i + 1, by go_num, by have := HJ.out.1; omega, by have := HJ.out.2; omega, HQ⟩
            case measure => simp [intOf]; omega
end Go.Proofs.YtlojmmcagglpoaaGreat
