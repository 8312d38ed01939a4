/- What FollowStood holds: a follower beside its disk, and the mark of the last line; the script's row. -/
import Derived.Test.YtlojmmcagglpoaaGreatUDiskFile
import Derived.Test.YtlojmmcagglpoaaGreatUFwLaw
import Derived.Test.YtlojmmcagglpoaaGreatUFwMark
import Derived.Test.YtlojmmcagglpoaaGreatUFwOp
import Derived.Lib.SmallJoins
namespace Go.Proofs.YtlojmmcagglpoaaGreat
open Go.RowKit Go.Maps
structure F1 (d : Dk) (nm : List UInt8) (x : Fl) (us : List (List UInt8)) : Prop where
  fs : ∀ i, d.fs i = if i = 1 then some x else none
  ns1 : d.ns nm = some 1
  ns0 : ∀ m, m ≠ nm → d.ns m = none
  nmx : x.nm = nm
  se : ∀ m, d.se m = if m ∈ us then some 1 else none
  mem : nm ∈ us
section
variable {d : Dk} {nm : List UInt8} {x : Fl} {us : List (List UInt8)}
theorem F1.made (nm : List UInt8) : F1 (emptyD.made nm) nm ⟨nm, [], 0, 0⟩ [nm] := by
  refine ⟨fun i => ?_, by unfold Dk.made; rw [Dk.named_ns, if_pos rfl]; rfl, fun m hm => by unfold Dk.made; rw [Dk.named_ns, if_neg hm]; rfl, rfl, fun m => ?_, by simp⟩
  · unfold Dk.made
    rw [Dk.named_fs]
    by_cases h : i = 1
    · rw [if_pos h, if_pos (by rw [h]; rfl)]
    · rw [if_neg h, if_neg (fun e => h (by rw [e]; rfl))]
      show (if i = ((emptyD.no : Int)) + 1 then some (⟨[], [], 0, 0⟩ : Fl) else none) = none
      rw [if_neg (fun e => h (by rw [e]; rfl))]
  · unfold Dk.made
    rw [Dk.named_se]
    by_cases h : m = nm
    · rw [if_pos h, if_pos (by rw [h]; simp)]; rfl
    · rw [if_neg h, if_neg (by simp [h])]; rfl
theorem F1.edit (h : F1 d nm x us) {y : Fl} (hy : y.nm = nm) : F1 (d.edit 1 y) nm y us :=
  ⟨fun i => by
    rw [Dk.edit_fs]
    by_cases e : i = 1
    · rw [if_pos e, if_pos e]
    · rw [if_neg e, if_neg e, h.fs, if_neg e], h.ns1, h.ns0, hy, h.se, h.mem⟩
theorem F1.app (h : F1 d nm x us) (l : List UInt8) : F1 (d.app 1 x l) nm { x with by_ := x.by_ ++ l } us := h.edit h.nmx
theorem F1.file (h : F1 d nm x us) : d.file nm = some (1, x) := by
  unfold Dk.file
  rw [h.ns1, Option.bind_some, h.fs, if_pos rfl]; rfl
end
end Go.Proofs.YtlojmmcagglpoaaGreat
namespace Go.Proofs.YtlojmmcagglpoaaGreat
open Go.RowKit Go.Maps
def nA : List UInt8 := [97]
def nA1 : List UInt8 := [97, 46, 49]
theorem mayA : mayB nA = true := mayB_of (by decide)
theorem mayA1 : mayB nA1 = true := mayB_of (by decide)
def fw0 : FwS := ⟨0, 0, 0, 0, 0, 0, 0, 0, 0, [], 0⟩
theorem FwR.born {W w' : World} {C : Nat → Nat} {rb : Nat} {k : FwK} {f : FwS} (h : FwR w' (paint C W.heap.size 2) 2 rb k f) (h0 : ∀ b, b < W.heap.size → C b ≠ 2) : ∃ C3 : Nat → Nat, Sam W.heap.size C C3 ∧ FwR w' C3 2 rb k f ∧
    ∀ (b : Nat) (t : TypeId) (dc : Array Value), Blk w' b t dc → W.heap.size ≤ b → t ≠ 218 → t ≠ 229 → t ≠ 5 → C3 b = 3 := by
  obtain ⟨C2, ⟨mb, v, hf⟩, ht, hs, _⟩ := h.only
  have key : ∀ b, C2 b = 2 → (if b < W.heap.size then C b else if C2 b = 2 then 2 else 3) = 2 := fun b hb => by
    by_cases hlt : b < W.heap.size
    · have h1 := hs b hb
      rw [paint_old C 2 hlt] at h1
      exact absurd h1 (h0 b hlt)
    · rw [if_neg hlt, if_pos hb]
  refine ⟨fun b => if b < W.heap.size then C b else if C2 b = 2 then 2 else 3, fun b hb => if_pos hb, ⟨mb, v, hf.blk, hf.maker, key _ hf.cr, key _ hf.cm, fun q hq => key _ (hf.cv q hq)⟩, fun b t dc hb hlo h1 h2 h3 => ?_⟩
  show (if b < W.heap.size then C b else if C2 b = 2 then 2 else 3) = 3
  rw [if_neg (by omega), if_neg (ht b t dc hb h1 h2 h3)]
structure FG (w0 W : World) (C : Nat → Nat) (p n : Nat) (d : Dk) (fl rb : Nat) (k : FwK) (f : FwS) (P : World → Prop) : Prop where
  ds : DS w0 W C p n d
  fr : FwR W C 2 rb k f
  h : Fr W C (fun w => Blk w fl 221 #[.pointer (some ⟨rb, 0, none⟩)] ∧ P w)
section
variable {w0 W w' : World} {C C' : Nat → Nat} {p n fl rb : Nat} {d : Dk} {k : FwK} {f g : FwS} {P : World → Prop}
theorem FG.below (h : FG w0 W C p n d fl rb k f P) (hb : Below W.heap.size W w') : FG w0 w' C p n d fl rb k f P := ⟨h.ds.keep hb, h.fr.keep hb, h.h.keep hb (Sam.refl _ _)⟩
theorem FG.new (h : FG w0 W C p n d fl rb k f P) {b : Nat} {t : TypeId} {cs : Array Value} (hb : Below W.heap.size W w') (hk : Blk w' b t cs) (hlo : W.heap.size ≤ b) : FG w0 w' (paint C W.heap.size 3) p n d fl rb k f (fun w => P w ∧ Blk w b t cs) :=
  ⟨h.ds.keep2 hb (sam_paint _ _ _), h.fr.step (S := fun _ => False) (Chg.of_below hb _) (sam_paint _ _ _) (fun _ e => e.elim), ((h.h.keep hb (sam_paint _ _ _)).and (Fr.blk hk (paint_new C 3 hlo))).mono (fun _ e => ⟨e.1.1, e.1.2, e.2⟩)⟩
theorem FG.go (h : FG w0 W C p n d fl rb k f P) (hq : FwQ W C 2 rb k g w') : FG w0 w' (paint C W.heap.size 2) p n d fl rb k g P :=
  ⟨h.ds.chg hq.2 (sam_paint _ _ _) (fun b hb => ⟨by rw [hb]; decide, Nat.le_of_not_lt fun hlt => by have := h.ds.sam b hlt; rw [hb] at this; cases this⟩), hq.1, h.h.step hq.2 (sam_paint _ _ _) (fun b hb e => by rw [hb] at e; cases e)⟩
theorem FG.stepC (h : FG w0 W C p n d fl rb k f P) (hf : f.Ok) (hch : okInt k.ch) (hul : f.u.length ≤ 1048576) (hli : k.line ≤ 4096) (hlc : f.lc ≤ 1000000000) : Calls Tryz.prog 87 #[.pointer (some ⟨fl, 0, none⟩), .pointer (some ⟨p, 0, none⟩)] W fun e w' => e = .returned (.tuple #[.agg (lineO f (stepF d.sti d.ini d.read k f).2), .bool (stepF d.sti d.ini d.read k f).2.isSome]) ∧ FG w0 w' (paint C W.heap.size 2) p n d fl rb k (stepF d.sti d.ini d.read k f).1 P :=
  (fw_step h.fr (asks_dc w0.heap.size C 1 p n d) (stay_dc h.ds.dc (by decide)) h.h.now.1 h.ds.dc.ok.asks hf hch (Nat.le_trans hul (by decide)) hli hlc).mono fun _ _ e => ⟨e.1, h.go e.2⟩
theorem FG.markC (h : FG w0 W C p n d fl rb k f P) : Calls Tryz.prog 89 #[.pointer (some ⟨fl, 0, none⟩)] W fun e w' => e = .returned (.agg f.mark) ∧ Below W.heap.size W w' := fw_mark h.fr h.h.now.1
theorem FG.heldC (h : FG w0 W C p n d fl rb k f P) : Calls Tryz.prog 88 #[.pointer (some ⟨fl, 0, none⟩)] W fun e w' => e = .returned (.int .i64 ((heldOf k.line f.u).length : Int)) ∧ W = w' := fw_held h.fr h.h.now.1
theorem DS.newC (h : DS w0 W C p n d) (h0 : ∀ b, b < W.heap.size → C b ≠ 2) (hP : Fr W C P) (k : FwK) (f : FwS) (hn : mayPB d.sti k = true) (hl : mayNB (k.line : Int) k.ch f = true) : Calls Tryz.prog 86 #[.agg #[.string (strB k.nm), .string (strB k.ro)], .int .i64 (k.line : Int), .int .i64 k.ch, .agg f.mark, .pointer (some ⟨p, 0, none⟩)] W fun e w' => ∃ fl rb C3, e = .returned (.tuple #[.pointer (some ⟨fl, 0, none⟩), .int .i64 0]) ∧ FG w0 w' C3 p n d fl rb k (f.born d.sti k) P ∧ Below W.heap.size W w' := by
  refine (fw_new_ok C 2 k f (asks_dc w0.heap.size C 1 p n d) (fun w hb => h.dc.keep hb (Sam.refl _ _)) hn hl).mono ?_
  rintro e w' ⟨fl, rb, he, hfl, hr, h1, h2, hb⟩
  obtain ⟨C3, hs, hr3, ht⟩ := hr.born h0
  exact ⟨fl, rb, C3, he, ⟨h.keep2 hb hs, hr3, (Fr.blk hfl (ht fl _ _ hfl h1 (by decide) (by decide) (by decide))).and (hP.keep hb hs)⟩, hb⟩
end
/-! ### The first, fixed steps -/
def kF : FwK := ⟨5, nA, nA1, 4⟩
def xF : List UInt8 := [97, 98, 10, 99, 100, 101, 102, 103, 10, 120]
def fw1 : FwS := ⟨1, 1, 0, 0, 0, 0, 0, 0, 0, [], 0⟩
def fw2 : FwS := ⟨1, 1, 0, 3, 0, 0, 0, 0, 0, [], 0⟩
def fw3 : FwS := ⟨1, 1, 0, 3, 0, 0, 0, 0, 0, [99, 100, 101, 102], 0⟩
def fw4 : FwS := ⟨1, 1, 0, 9, 0, 0, 0, 0, 0, [], 0⟩
theorem fix_facts {S : List UInt8 → T5} {I : Int → T5} {R : Int → Int → Int → Int → List UInt8 × Int} (hS : S nA = (1, 1, 0, 10, 0)) (hI : I 1 = (1, 1, 0, 10, 0)) (h0 : R 1 0 0 4 = ([97, 98, 10, 99], 0)) (h3 : R 1 0 3 4 = ([99, 100, 101, 102], 0)) (h7 : R 1 0 7 4 = ([103, 10, 120], 0)) :
    stepF S I R kF fw0 = (fw1, none) ∧ stepF S I R kF fw1 = (fw2, some [97, 98]) ∧ stepF S I R kF fw2 = (fw3, none) ∧ stepF S I R kF fw3 = (fw4, some [99, 100, 101, 102, 103]) := by
  refine ⟨?_, ?_, ?_, ?_⟩
  · unfold stepF
    show (if (0 : Int) = 0 then (if nextB (S nA) fw0 = true then fw0.takeUp (S nA) else fw0, none) else _) = _
    rw [if_pos rfl, hS, if_pos (by decide)]
    rfl
  · unfold stepF
    have e1 : I fw1.ino = (1, 1, 0, 10, 0) := hI
    have e2 : R fw1.ino fw1.ge (fw1.off + (fw1.u.length : Int)) kF.ch = ([97, 98, 10, 99], 0) := h0
    rw [if_neg (by decide), e1, if_neg (by decide), if_neg (by decide), e2, if_pos ⟨rfl, by decide⟩]
    simp only
    rw [if_pos (by decide)]
    rfl
  · unfold stepF
    have e1 : I fw2.ino = (1, 1, 0, 10, 0) := hI
    have e2 : R fw2.ino fw2.ge (fw2.off + (fw2.u.length : Int)) kF.ch = ([99, 100, 101, 102], 0) := h3
    rw [if_neg (by decide), e1, if_neg (by decide), if_neg (by decide), e2, if_pos ⟨rfl, by decide⟩]
    simp only
    rw [if_neg (by decide)]
    rfl
  · unfold stepF
    have e1 : I fw3.ino = (1, 1, 0, 10, 0) := hI
    have e2 : R fw3.ino fw3.ge (fw3.off + (fw3.u.length : Int)) kF.ch = ([103, 10, 120], 0) := h7
    rw [if_neg (by decide), e1, if_neg (by decide), if_neg (by decide), e2, if_pos ⟨rfl, by decide⟩]
    simp only
    rw [if_pos (by decide)]
    rfl
theorem F1.fix {d : Dk} (h : F1 d nA ⟨nA, xF, 0, 0⟩ [nA]) : d.sti nA = (1, 1, 0, 10, 0) ∧ d.ini 1 = (1, 1, 0, 10, 0) ∧ d.read 1 0 0 4 = ([97, 98, 10, 99], 0) ∧ d.read 1 0 3 4 = ([99, 100, 101, 102], 0) ∧ d.read 1 0 7 4 = ([103, 10, 120], 0) ∧ mayPB d.sti kF = true ∧ mayPB d.sti ⟨0, nA, [], 4⟩ = true := by
  have hfs : d.fs 1 = some ⟨nA, xF, 0, 0⟩ := by rw [h.fs, if_pos rfl]
  have hse : d.se nA = some 1 := by rw [h.se, if_pos (by simp)]
  have hf : d.file nA = some (1, ⟨nA, xF, 0, 0⟩) := by unfold Dk.file; rw [h.ns1]; show (d.fs 1).map _ = _; rw [hfs]; rfl
  have hf1 : d.file nA1 = none := by unfold Dk.file; rw [h.ns0 nA1 (by decide)]; rfl
  have hs : d.sti nA = (1, 1, 0, 10, 0) := by unfold Dk.sti; rw [if_pos mayA, hf, hse]; rfl
  have hs1 : d.sti nA1 = (0, 0, 0, 0, 141) := by unfold Dk.sti; rw [if_pos mayA1, hf1]
  have hr : ∀ o : Int, 0 ≤ o → d.read 1 0 o 4 = ((xF.drop o.toNat).take 4, 0) := fun o ho => by
    unfold Dk.read
    rw [if_neg (by omega), hfs]
    rfl
  refine ⟨hs, by unfold Dk.ini; rw [hfs]; show (1, (d.se nA).getD 0, _, _, _) = _; rw [hse]; rfl, (hr 0 (by decide)).trans rfl, (hr 3 (by decide)).trans rfl, (hr 7 (by decide)).trans rfl, ?_, ?_⟩
  · unfold mayPB
    show (decide ((d.sti nA).2.2.2.2 ≠ 140) && (decide (nA1 = []) || decide ((d.sti nA1).2.2.2.2 ≠ 140))) = true
    rw [hs, hs1]; decide
  · unfold mayPB
    show (decide ((d.sti nA).2.2.2.2 ≠ 140) && (decide (([] : List UInt8) = []) || decide ((d.sti []).2.2.2.2 ≠ 140))) = true
    rw [hs]; rfl
end Go.Proofs.YtlojmmcagglpoaaGreat
namespace Go.Proofs.YtlojmmcagglpoaaGreat
open Go.RowKit Go.Maps
def TruQ (w : World) (e : Ending) (w' : World) : Prop := e = .returned (.bool true) ∧ Below w.heap.size w w'
theorem below_alloc' (w : World) (o : Obj) : Below w.heap.size w (w.alloc o) := (Below.refl _ _).alloc (Nat.le_refl _) _
theorem rb_ten (w : World) : RB (w.alloc (.cells #[.int .u8 97, .int .u8 98, .int .u8 10, .int .u8 99, .int .u8 100, .int .u8 101, .int .u8 102, .int .u8 103, .int .u8 10, .int .u8 120] 5 (10, 11))) (some ⟨w.heap.size, 0, none⟩) 10 xF := RB.new w _ (10, 11) _ xF rfl 10 rfl
theorem bornF (S : List UInt8 → T5) (k : FwK) : fw0.born S k = fw0 := by unfold FwS.born; rw [if_neg (fun e => absurd e.1 (by decide))]; rfl
set_option maxRecDepth 20000 in
set_option maxHeartbeats 8000000 in
theorem fixed17 (w : World) : Calls Tryz.prog 36 #[] w (TruQ w) := by
  have CN := Lib.hid (new_c w (fun _ => 0) 1)
  have kc := fun (w : World) (C : Array Value) (n c g : Nat) (hg : g = w.heap.size) => Joins.run_convert_bytes_const_at (P := Tryz.prog) w 61 5 C n c g hg Tryz.underlying61 Tryz.underlying5
  go_enter Tryz.func36, Tryz.ntmps36
  go_wp2_with fail
  refine CN.out.mono ?_
  rintro e w1 ⟨p, rfl, hp, hd, hb⟩
  have D1 := Lib.hid (DS.made (w0 := w) (Below.refl _ _) hd hb)
  obtain ⟨C1, hC1⟩ : ∃ C1, C1 = paint (fun _ => 0) w.heap.size 1 := ⟨_, rfl⟩
  have N1 : Hid (∀ b, C1 b ≠ 2) := Lib.hid (fun b => by rw [hC1]; unfold paint; split; exact (by decide : (0 : Nat) ≠ 2); decide)
  rw [← hC1] at D1
  have F1' := Lib.hid (F1.made nA)
  have CC := Lib.hid (create_g D1.out.dc (by omega) nA)
  rw [Dk.create_ok nA mayA rfl] at CC
  clear hd hb hp CN hC1
  go_wp2_with fail
  refine CC.out.mono ?_
  rintro e w2 hq
  have he := hq.1
  have D2 := Lib.hid (D1.out.step hq)
  subst he
  obtain ⟨C2, hC2⟩ : ∃ C2, C2 = paint C1 w1.heap.size 1 := ⟨_, rfl⟩
  have N2 : Hid (∀ b, C2 b ≠ 2) := Lib.hid (fun b => by rw [hC2]; unfold paint; split; exact N1.out b; decide)
  rw [← hC2] at D2
  simp only at D2
  obtain ⟨d2, hd2⟩ : ∃ d2, d2 = emptyD.made nA := ⟨_, rfl⟩
  rw [← hd2] at D2 F1'
  have D3 := Lib.hid (D2.out.keep (below_alloc' w2 (.cells #[.int .u8 97, .int .u8 98, .int .u8 10, .int .u8 99, .int .u8 100, .int .u8 101, .int .u8 102, .int .u8 103, .int .u8 10, .int .u8 120] 5 (10, 11))))
  have CA := Lib.hid (append_g D3.out.dc (by omega) nA _ 10 10 xF (rb_ten w2) (by decide))
  rw [Dk.append_ok mayA F1'.out.file (by decide)] at CA
  have F3 := Lib.hid (F1'.out.app xF)
  clear hq CC D1 hC2 hd2 F1' N1
  go_wp2_with fail
  refine CA.out.mono ?_
  rintro e w4 hq
  have he := hq.1
  have D4 := Lib.hid (D3.out.step hq)
  subst he
  simp only at D4
  obtain ⟨C4, hC4⟩ : ∃ C4, C4 = paint C2 (w2.alloc (.cells #[.int .u8 97, .int .u8 98, .int .u8 10, .int .u8 99, .int .u8 100, .int .u8 101, .int .u8 102, .int .u8 103, .int .u8 10, .int .u8 120] 5 (10, 11))).heap.size 1 := ⟨_, rfl⟩
  have N4 : Hid (∀ b, C4 b ≠ 2) := Lib.hid (fun b => by rw [hC4]; unfold paint; split; exact N2.out b; decide)
  rw [← hC4] at D4
  obtain ⟨d4, hd4⟩ : ∃ d4, d4 = d2.app 1 ⟨nA, [], 0, 0⟩ xF := ⟨_, rfl⟩
  rw [← hd4] at D4 F3
  have FX := Lib.hid (F1.fix F3.out)
  have CW := Lib.hid (D4.out.newC (P := fun _ => True) (fun b _ => N4.out b) ⟨trivial, fun _ _ _ => trivial⟩ kF fw0 FX.out.2.2.2.2.2.1 (by decide))
  rw [bornF] at CW
  clear hq CA D3 D2 hC4 hd4 F3 N2 N4
  go_wp2_with fail
  refine CW.out.mono ?_
  rintro e w5 ⟨fl, rb, C5, rfl, hg, _⟩
  have G5 := Lib.hid hg
  clear hg CW D4
  obtain ⟨q1, q2, q3, q4⟩ := fix_facts FX.out.1 FX.out.2.1 FX.out.2.2.1 FX.out.2.2.2.1 FX.out.2.2.2.2.1
  have Q1 := Lib.hid q1
  have Q2 := Lib.hid q2
  have Q3 := Lib.hid q3
  have Q4 := Lib.hid q4
  clear q1 q2 q3 q4
  have CS := Lib.hid (G5.out.stepC (FwS.okM_ok (f := fw0) (by decide)) ⟨by decide, by decide⟩ (by decide) (by decide) (by decide))
  rw [Q1.out] at CS
  unfold lineO at CS
  simp only [Option.isSome_none] at CS
  go_wp2_with fail
  refine CS.out.mono ?_
  rintro e w6 ⟨rfl, hg⟩
  have G6 := Lib.hid hg
  obtain ⟨C6, hC6⟩ : ∃ C6, C6 = paint C5 w5.heap.size 2 := ⟨_, rfl⟩
  rw [← hC6] at G6
  clear hg CS G5 hC6
  obtain ⟨w7, hw7⟩ : ∃ w7, w7 = w6.alloc (.cells zeroL 170) := ⟨_, rfl⟩
  obtain ⟨b1, hb1⟩ : ∃ b1, b1 = w6.heap.size := ⟨_, rfl⟩
  have G7 := Lib.hid (G6.out.new (b := b1) (t := 170) (cs := zeroL) (w' := w7) (by rw [hw7]; exact below_alloc' _ _) (by rw [hw7]; exact Blk.new _ _ _ hb1) (by rw [hb1]; exact Nat.le_refl _))
  obtain ⟨C7, hC7⟩ : ∃ C7, C7 = paint C6 w6.heap.size 3 := ⟨_, rfl⟩
  rw [← hC7] at G7
  unfold zeroL at hw7 ⊢
  go_upto_region 10 with fail
  rw [← hw7, ← hb1]
  clear hw7 hb1 hC7 G6
  have CS := Lib.hid (G7.out.stepC (FwS.okM_ok (f := fw1) (by decide)) ⟨by decide, by decide⟩ (by decide) (by decide) (by decide))
  rw [Q2.out] at CS
  unfold lineO at CS
  simp only [Option.isSome_some] at CS
  go_wp2_with fail
  refine CS.out.mono ?_
  rintro e w8 ⟨rfl, hg⟩
  have G8 := Lib.hid hg
  obtain ⟨C8, hC8⟩ : ∃ C8, C8 = paint C7 w7.heap.size 2 := ⟨_, rfl⟩
  rw [← hC8] at G8
  clear hg CS G7 hC8
  obtain ⟨w9, hw9⟩ : ∃ w9, w9 = w8.alloc (.cells (lineA fw1 (strOf [97, 98])) 170) := ⟨_, rfl⟩
  obtain ⟨b2, hb2⟩ : ∃ b2, b2 = w8.heap.size := ⟨_, rfl⟩
  have G9 := Lib.hid (G8.out.new (b := b2) (t := 170) (cs := (lineA fw1 (strOf [97, 98]))) (w' := w9) (by rw [hw9]; exact below_alloc' _ _) (by rw [hw9]; exact Blk.new _ _ _ hb2) (by rw [hb2]; exact Nat.le_refl _))
  obtain ⟨C9, hC9⟩ : ∃ C9, C9 = paint C8 w8.heap.size 3 := ⟨_, rfl⟩
  rw [← hC9] at G9
  unfold lineA strOf at hw9 ⊢
  go_upto_region 11 with fail
  rw [← hw9, ← hb2]
  clear hw9 hb2 hC9 G8
  have CS := Lib.hid (G9.out.stepC (FwS.okM_ok (f := fw2) (by decide)) ⟨by decide, by decide⟩ (by decide) (by decide) (by decide))
  rw [Q3.out] at CS
  unfold lineO at CS
  simp only [Option.isSome_none] at CS
  go_wp2_with fail
  refine CS.out.mono ?_
  rintro e w10 ⟨rfl, hg⟩
  have G10 := Lib.hid hg
  obtain ⟨C10, hC10⟩ : ∃ C10, C10 = paint C9 w9.heap.size 2 := ⟨_, rfl⟩
  rw [← hC10] at G10
  clear hg CS G9 hC10
  obtain ⟨w11, hw11⟩ : ∃ w11, w11 = w10.alloc (.cells zeroL 170) := ⟨_, rfl⟩
  obtain ⟨b3, hb3⟩ : ∃ b3, b3 = w10.heap.size := ⟨_, rfl⟩
  have G11 := Lib.hid (G10.out.new (b := b3) (t := 170) (cs := zeroL) (w' := w11) (by rw [hw11]; exact below_alloc' _ _) (by rw [hw11]; exact Blk.new _ _ _ hb3) (by rw [hb3]; exact Nat.le_refl _))
  obtain ⟨C11, hC11⟩ : ∃ C11, C11 = paint C10 w10.heap.size 3 := ⟨_, rfl⟩
  rw [← hC11] at G11
  unfold zeroL at hw11 ⊢
  go_upto_region 12 with fail
  rw [← hw11, ← hb3]
  clear hw11 hb3 hC11 G10
  have CH : Hid (Calls Tryz.prog 88 #[.pointer (some ⟨fl, 0, none⟩)] w11 fun e w' => e = .returned (.int .i64 4) ∧ w11 = w') := Lib.hid G11.out.heldC
  go_wp2_with fail
  refine CH.out.mono ?_
  rintro e w11' ⟨rfl, rfl⟩
  clear CH
  have CS := Lib.hid (G11.out.stepC (FwS.okM_ok (f := fw3) (by decide)) ⟨by decide, by decide⟩ (by decide) (by decide) (by decide))
  rw [Q4.out] at CS
  unfold lineO at CS
  simp only [Option.isSome_some] at CS
  go_wp2_with fail
  refine CS.out.mono ?_
  rintro e w12 ⟨rfl, hg⟩
  have G12 := Lib.hid hg
  obtain ⟨C12, hC12⟩ : ∃ C12, C12 = paint C11 w11.heap.size 2 := ⟨_, rfl⟩
  rw [← hC12] at G12
  clear hg CS G11 hC12
  obtain ⟨w13, hw13⟩ : ∃ w13, w13 = w12.alloc (.cells (lineA fw3 (strOf [99, 100, 101, 102, 103])) 170) := ⟨_, rfl⟩
  obtain ⟨b4, hb4⟩ : ∃ b4, b4 = w12.heap.size := ⟨_, rfl⟩
  have G13 := Lib.hid (G12.out.new (b := b4) (t := 170) (cs := (lineA fw3 (strOf [99, 100, 101, 102, 103]))) (w' := w13) (by rw [hw13]; exact below_alloc' _ _) (by rw [hw13]; exact Blk.new _ _ _ hb4) (by rw [hb4]; exact Nat.le_refl _))
  obtain ⟨C13, hC13⟩ : ∃ C13, C13 = paint C12 w12.heap.size 3 := ⟨_, rfl⟩
  rw [← hC13] at G13
  unfold lineA strOf at hw13 ⊢
  go_upto_region 14 with fail
  rw [← hw13, ← hb4]
  clear hw13 hb4 hC13 G12
  have CI : Hid (Calls Tryz.prog 86 #[.agg #[.string ⟨#[97]⟩, .string ⟨#[]⟩], .int .i64 0, .int .i64 4, .agg #[.int .i64 0, .int .i64 0, .int .i64 0, .int .i64 0, .int .i64 0, .int .i64 0, .int .i64 0, .int .i64 0, .int .i64 0], .pointer (some ⟨p, 0, none⟩)] w13 (NoNewQ w13 1)) := Lib.hid (fw_new_inval ⟨0, nA, [], 4⟩ fw0 0 (asks_dc w.heap.size C13 1 p _ d4) (fun w' hb => G13.out.ds.dc.keep hb (Sam.refl _ _)) FX.out.2.2.2.2.2.2 (by decide))
  go_wp2_with fail
  refine CI.out.mono ?_
  rintro e w14 ⟨rfl, hb14⟩
  have G14 := Lib.hid (G13.out.below hb14)
  clear CI hb14 G13
  obtain ⟨w15, hw15⟩ : ∃ w15, w15 = w14.alloc (.cells #[.int .i64 1, .int .i64 1, .int .i64 0, .int .i64 3, .int .i64 0, .int .i64 0, .int .i64 0, .int .i64 0, .int .i64 0] 100) := ⟨_, rfl⟩
  obtain ⟨b5, hb5⟩ : ∃ b5, b5 = w14.heap.size := ⟨_, rfl⟩
  have G15 := Lib.hid (G14.out.new (b := b5) (t := 100) (w' := w15) (by rw [hw15]; exact below_alloc' _ _) (by rw [hw15]; exact Blk.new _ _ _ hb5) (by rw [hb5]; exact Nat.le_refl _))
  obtain ⟨C15, hC15⟩ : ∃ C15, C15 = paint C13 w14.heap.size 3 := ⟨_, rfl⟩
  rw [← hC15] at G15
  go_upto_region 16 with fail
  rw [← hw15, ← hb5]
  clear hw15 hb5 hC15 G14
  obtain ⟨K0, ⟨⟨⟨⟨_, K1⟩, K2⟩, K3⟩, K4⟩, K5⟩ := G15.out.h.now
  clear K0 K1 K3
  have x0 : w15.cell? ⟨b2, 0, none⟩ = some (.int .i64 1) := (K2.cell 0).trans rfl
  have x1 : w15.cell? ⟨b2, 1, none⟩ = some (.int .i64 1) := (K2.cell 1).trans rfl
  have x2 : w15.cell? ⟨b2, 2, none⟩ = some (.int .i64 0) := (K2.cell 2).trans rfl
  have x3 : w15.cell? ⟨b2, 3, none⟩ = some (.int .i64 0) := (K2.cell 3).trans rfl
  have x4 : w15.cell? ⟨b2, 4, none⟩ = some (.int .i64 0) := (K2.cell 4).trans rfl
  have x5 : w15.cell? ⟨b2, 5, none⟩ = some (.int .i64 0) := (K2.cell 5).trans rfl
  have x6 : w15.cell? ⟨b2, 6, none⟩ = some (.int .i64 0) := (K2.cell 6).trans rfl
  have x7 : w15.cell? ⟨b2, 7, none⟩ = some (.int .i64 0) := (K2.cell 7).trans rfl
  have x8 : w15.cell? ⟨b2, 8, none⟩ = some (.int .i64 0) := (K2.cell 8).trans rfl
  have x9 : w15.cell? ⟨b2, 9, none⟩ = some (.string ⟨#[97, 98]⟩) := (K2.cell 9).trans rfl
  have y0 : w15.cell? ⟨b4, 0, none⟩ = some (.int .i64 1) := (K4.cell 0).trans rfl
  have y1 : w15.cell? ⟨b4, 1, none⟩ = some (.int .i64 1) := (K4.cell 1).trans rfl
  have y2 : w15.cell? ⟨b4, 2, none⟩ = some (.int .i64 0) := (K4.cell 2).trans rfl
  have y3 : w15.cell? ⟨b4, 3, none⟩ = some (.int .i64 3) := (K4.cell 3).trans rfl
  have y4 : w15.cell? ⟨b4, 4, none⟩ = some (.int .i64 0) := (K4.cell 4).trans rfl
  have y5 : w15.cell? ⟨b4, 5, none⟩ = some (.int .i64 0) := (K4.cell 5).trans rfl
  have y6 : w15.cell? ⟨b4, 6, none⟩ = some (.int .i64 0) := (K4.cell 6).trans rfl
  have y7 : w15.cell? ⟨b4, 7, none⟩ = some (.int .i64 0) := (K4.cell 7).trans rfl
  have y8 : w15.cell? ⟨b4, 8, none⟩ = some (.int .i64 0) := (K4.cell 8).trans rfl
  have y9 : w15.cell? ⟨b4, 9, none⟩ = some (.string ⟨#[99, 100, 101, 102, 103]⟩) := (K4.cell 9).trans rfl
  have z0 : w15.cell? ⟨b5, 0, none⟩ = some (.int .i64 1) := (K5.cell 0).trans rfl
  have z1 : w15.cell? ⟨b5, 1, none⟩ = some (.int .i64 1) := (K5.cell 1).trans rfl
  have z2 : w15.cell? ⟨b5, 2, none⟩ = some (.int .i64 0) := (K5.cell 2).trans rfl
  have z3 : w15.cell? ⟨b5, 3, none⟩ = some (.int .i64 3) := (K5.cell 3).trans rfl
  have z4 : w15.cell? ⟨b5, 4, none⟩ = some (.int .i64 0) := (K5.cell 4).trans rfl
  have z5 : w15.cell? ⟨b5, 5, none⟩ = some (.int .i64 0) := (K5.cell 5).trans rfl
  have z6 : w15.cell? ⟨b5, 6, none⟩ = some (.int .i64 0) := (K5.cell 6).trans rfl
  have z7 : w15.cell? ⟨b5, 7, none⟩ = some (.int .i64 0) := (K5.cell 7).trans rfl
  have z8 : w15.cell? ⟨b5, 8, none⟩ = some (.int .i64 0) := (K5.cell 8).trans rfl
  clear K2 K4 K5
  have CM : Hid (Calls Tryz.prog 89 #[.pointer (some ⟨fl, 0, none⟩)] w15 fun e w' => e = .returned (.agg #[.int .i64 1, .int .i64 1, .int .i64 0, .int .i64 9, .int .i64 0, .int .i64 0, .int .i64 0, .int .i64 0, .int .i64 0]) ∧ Below w15.heap.size w15 w') := Lib.hid G15.out.markC
  have BF := Lib.hid G15.out.ds.bel
  clear G15
  go_wp2_with fail
  refine CM.out.mono ?_
  rintro e w16 ⟨rfl, hb16⟩
  have HE := Lib.hid (BF.out.trans (hb16.mono BF.out.size))
  have hfd : (Instr.field 100 (.agg #[.int .i64 1, .int .i64 1, .int .i64 0, .int .i64 9, .int .i64 0, .int .i64 0, .int .i64 0, .int .i64 0, .int .i64 0]) 3).run Tryz.prog w16 = .ok (.int .i64 9) w16 := rfl
  clear CM hb16
  go_wp2_with fail
  go_ret
  exact ⟨rfl, HE.out⟩
end Go.Proofs.YtlojmmcagglpoaaGreat
namespace Go.Proofs.YtlojmmcagglpoaaGreat
open Go.RowKit Go.Maps
structure FL (w0 W : World) (C : Nat → Nat) (p n : Nat) (d : Dk) (fl rb : Nat) (k : FwK) (f : FwS) (P : World → Prop) (lb : Nat) (m : FwS) : Prop where
  g : FG w0 W C p n d fl rb k f P
  hlb : Blk W lb 100 m.mark
  hlc : C lb = 4
  hlo : w0.heap.size ≤ lb
section
variable {w0 W w' : World} {C C' : Nat → Nat} {p n fl rb lb : Nat} {d : Dk} {k : FwK} {f g m : FwS} {P : World → Prop}
end
structure SF (W : World) (A : Option Addr) (n : Nat) (l : List O17) : Prop where
  len : l.length = n
  in_ : ∀ o ∈ l, o.In W
  at_ : 0 < n → ∃ b off, A = some ⟨b, off, none⟩ ∧ b < W.heap.size ∧ ∀ (i : Nat) (o : O17), l[i]? = some o → ∀ (k : Nat) (u : Value), (oC17 o)[k]? = some u → W.cell? ⟨b, off + i * 15 + k, none⟩ = some u
end Go.Proofs.YtlojmmcagglpoaaGreat
