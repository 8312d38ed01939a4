/- THE WALK of fixed (package heronlaw14). -/
import Derived.Test.YtlojmmcagglpoaaGreatQCopy
import Derived.Test.YtlojmmcagglpoaaGreatQDS
import Derived.Test.YtlojmmcagglpoaaGreatQDiskFile
import Derived.Test.YtlojmmcagglpoaaGreatQNames
import Derived.Test.YtlojmmcagglpoaaGreatQPair2
import Derived.Test.YtlojmmcagglpoaaGreatQRfCr
import Derived.Test.YtlojmmcagglpoaaGreatQStr
import Derived.Lib.SmallJoins
namespace Go.Proofs.YtlojmmcagglpoaaGreat
open Go.RowKit Go.Maps
/-- one file x of inode 1 with the name nm; us: the names that ever came, each once -/
structure F1 (d : Dk) (nm : List UInt8) (x : Fl) (us : List (List UInt8)) : Prop where
  fs : ∀ i, d.fs i = if i = 1 then some x else none
  ns1 : d.ns nm = some 1
  ns0 : ∀ m, m ≠ nm → d.ns m = none
  nmx : x.nm = nm
  se : ∀ m, d.se m = if m ∈ us then some 1 else none
  mem : nm ∈ us
section
variable {d : Dk} {nm : List UInt8} {x : Fl} {us : List (List UInt8)}
theorem F1.made (nm : List UInt8) : F1 (emptyD.made nm) nm ⟨nm, [], 0, 0⟩ [nm] := by
  refine ⟨fun i => ?_, by unfold Dk.made; rw [Dk.named_ns, if_pos rfl]; rfl, fun m hm => by unfold Dk.made; rw [Dk.named_ns, if_neg hm]; rfl, rfl, fun m => ?_, by simp⟩
  · unfold Dk.made
    rw [Dk.named_fs]
    by_cases h : i = 1
    · rw [if_pos h, if_pos (by rw [h]; rfl)]
    · rw [if_neg h, if_neg (fun e => h (by rw [e]; rfl))]
      show (if i = ((emptyD.no : Int)) + 1 then some (⟨[], [], 0, 0⟩ : Fl) else none) = none
      rw [if_neg (fun e => h (by rw [e]; rfl))]
  · unfold Dk.made
    rw [Dk.named_se]
    by_cases h : m = nm
    · rw [if_pos h, if_pos (by rw [h]; simp)]; rfl
    · rw [if_neg h, if_neg (by simp [h])]; rfl
theorem F1.edit (h : F1 d nm x us) {y : Fl} (hy : y.nm = nm) : F1 (d.edit 1 y) nm y us :=
  ⟨fun i => by
    rw [Dk.edit_fs]
    by_cases e : i = 1
    · rw [if_pos e, if_pos e]
    · rw [if_neg e, if_neg e, h.fs, if_neg e], h.ns1, h.ns0, hy, h.se, h.mem⟩
theorem F1.app (h : F1 d nm x us) (l : List UInt8) : F1 (d.app 1 x l) nm { x with by_ := x.by_ ++ l } us := h.edit h.nmx
theorem F1.ren (h : F1 d nm x us) {other : List UInt8} (hne : nm ≠ other) (hu : other ∉ us) : F1 (d.ren nm other 1 x) other { x with nm := other } (other :: us) := by
  have hf : (d.freed nm other).fs = d.fs := by
    unfold Dk.freed
    simp only
    rw [h.ns0 other hne.symm]
  refine ⟨fun i => ?_, by unfold Dk.ren; rw [Dk.named_ns, if_pos rfl], fun m hm => ?_, rfl, fun m => ?_, by simp⟩
  · unfold Dk.ren
    rw [Dk.named_fs, hf, h.fs]
    by_cases e : i = 1
    · rw [if_pos e, if_pos e]
    · rw [if_neg e, if_neg e, if_neg e]
  · unfold Dk.ren
    rw [Dk.named_ns, if_neg hm]
    show delM d.ns nm m = none
    by_cases e : m = nm
    · rw [e, delM_same]
    · rw [delM_other _ e, h.ns0 m e]
  · unfold Dk.ren
    rw [Dk.named_se]
    show (if m = other then some ((d.se other).getD 0 + 1) else d.se m) = _
    by_cases e : m = other
    · rw [if_pos e, if_pos (by rw [e]; simp), h.se, if_neg hu]; rfl
    · rw [if_neg e, h.se]
      by_cases e2 : m ∈ us
      · rw [if_pos e2, if_pos (List.mem_cons_of_mem _ e2)]
      · rw [if_neg e2, if_neg (by simp [e, e2])]
theorem F1.file (h : F1 d nm x us) : d.file nm = some (1, x) := by
  unfold Dk.file
  rw [h.ns1, Option.bind_some, h.fs, if_pos rfl]; rfl
theorem F1.ser (h : F1 d nm x us) : (d.se nm).getD 0 = 1 := by rw [h.se, if_pos h.mem]; rfl
theorem F1.inode (h : F1 d nm x us) : d.inode 1 = (statV 1 1 (x.ge : Int) (x.by_.length : Int), 0) := by
  unfold Dk.inode
  rw [h.fs, if_pos rfl]
  simp only
  rw [h.nmx, h.ser]
theorem F1.stat (h : F1 d nm x us) (hm : mayB nm = true) : d.stat nm = (statV 1 1 (x.ge : Int) (x.by_.length : Int), 0) := by rw [Dk.stat_ok hm h.file, h.ser]
theorem F1.names (h : F1 d nm x us) {ss : List (List UInt8)} (hs : ss.Nodup) (hm : ∀ q, q ∈ ss ↔ (d.ns q).isSome = true) : ss = [nm] := by
  have h1 : nm ∈ ss := (hm nm).2 (by rw [h.ns1]; rfl)
  have h2 : ∀ q, q ∈ ss → q = nm := fun q hq => by
    rcases Classical.em (q = nm) with e | e
    · exact e
    · have := (hm q).1 hq; rw [h.ns0 q e] at this; cases this
  match ss, hs, h1, h2 with
  | [a], _, _, h2 => rw [h2 a (by simp)]
  | a :: b :: r, hs, _, h2 =>
    have ea := h2 a (by simp)
    have eb := h2 b (by simp)
    rw [ea, eb] at hs
    simp at hs
theorem F1.crash (h : F1 d nm x us) {keep ss : List Int} (hs : ss.Pairwise (· < ·)) (hm : ∀ i, i ∈ ss ↔ (d.fs i).isSome = true) : F1 (crashD keep ss d ss.length).1 nm (crashF keep 0 x) us := by
  have hc := crash_all (keep := keep) hs hm
  have hl : ss.length ≤ 1 := by
    have h2 : ∀ q, q ∈ ss → q = 1 := fun q hq => by
      rcases Classical.em (q = 1) with e | e
      · exact e
      · have := (hm q).1 hq; rw [h.fs, if_neg e] at this; cases this
    match ss, hs, h2 with
    | [], _, _ => simp
    | [a], _, _ => simp
    | a :: b :: r, hs, h2 =>
      have ea := h2 a (by simp)
      have eb := h2 b (by simp)
      have := (List.pairwise_cons.1 hs).1 b (by simp)
      omega
  refine ⟨fun i => ?_, by rw [hc.ns]; exact h.ns1, fun m hm => by rw [hc.ns]; exact h.ns0 m hm, by rw [crashF_nm]; exact h.nmx, fun m => by rw [hc.se]; exact h.se m, h.mem⟩
  by_cases e : i = 1
  · rw [if_pos e]
    obtain ⟨k, hk, h2⟩ := hc.at_ 1 x (by rw [h.fs, if_pos rfl])
    have hk0 : k = 0 := by omega
    rw [e, h2, hk0]
  · rw [if_neg e]
    exact hc.nn i (by rw [h.fs, if_neg e])
end
end Go.Proofs.YtlojmmcagglpoaaGreat
namespace Go.Proofs.YtlojmmcagglpoaaGreat
open Go.RowKit Go.Maps
def fA : List UInt8 := [97]
def fB : List UInt8 := [98]
theorem fmayA : mayB fA = true := mayB_of (by decide)
theorem fmayB : mayB fB = true := mayB_of (by decide)
theorem fneAB : fA ≠ fB := by decide
def TruQ (w : World) (e : Ending) (w' : World) : Prop := e = .returned (.bool true) ∧ Below w.heap.size w w'
theorem rb_two (w : World) : RB (w.alloc (.cells #[.int .u8 49, .int .u8 50] 5 (2, 3))) (some ⟨w.heap.size, 0, none⟩) 2 [49, 50] := RB.new w _ (2, 3) _ [49, 50] rfl 2 rfl
theorem rb_three (w : World) : RB (w.alloc (.cells #[.int .u8 51, .int .u8 52, .int .u8 53] 5 (3, 4))) (some ⟨w.heap.size, 0, none⟩) 3 [51, 52, 53] := RB.new w _ (3, 4) _ [51, 52, 53] rfl 3 rfl
theorem ri_one (w : World) (k : Int) : RI (w.alloc (.cells #[.int .i64 k] 3)) (some ⟨w.heap.size, 0, none⟩) 1 [k] := by
  refine ⟨rfl, fun _ => ⟨_, 0, rfl, by simp, fun j q hj => ?_⟩⟩
  have e := (Blk.new w 3 #[.int .i64 k] rfl).cell j
  rw [Nat.zero_add, e]
  match j, hj with
  | 0, hj => obtain rfl := Option.some.inj hj; rfl
  | j + 1, hj => simp at hj
theorem below_alloc' (w : World) (o : Obj) : Below w.heap.size w (w.alloc o) := (Below.refl _ _).alloc (Nat.le_refl _) _
set_option maxRecDepth 20000 in
set_option maxHeartbeats 4000000 in
theorem fixed14 (w : World) : Calls Tryz.prog 7 #[] w (TruQ w) := by
  have CN := Lib.hid (new_c w (fun _ => 0) 1)
  have kc := fun (w : World) (C : Array Value) (n c g : Nat) (hg : g = w.heap.size) => Joins.run_convert_bytes_const_at (P := Tryz.prog) w 61 5 C n c g hg Tryz.underlying61 Tryz.underlying5
  go_enter Tryz.func7, Tryz.ntmps7
  go_wp2_with fail
  refine CN.out.mono ?_
  rintro e w1 ⟨p, rfl, hp, hd, hb⟩
  have D1 := Lib.hid (DS.made (w0 := w) (Below.refl _ _) hd hb)
  obtain ⟨C1, hC1⟩ : ∃ C1, C1 = paint (fun _ => 0) w.heap.size 1 := ⟨_, rfl⟩
  rw [← hC1] at D1
  have F1' := Lib.hid (F1.made fA)
  have CC := Lib.hid (create_g D1.out.dc (by omega) fA)
  rw [Dk.create_ok fA fmayA rfl] at CC
  clear hd hb hp CN hC1
  go_wp2_with fail
  refine CC.out.mono ?_
  rintro e w2 hq
  have he := hq.1
  have D2 := Lib.hid (D1.out.step hq)
  subst he
  obtain ⟨C2, hC2⟩ : ∃ C2, C2 = paint C1 w1.heap.size 1 := ⟨_, rfl⟩
  rw [← hC2] at D2
  simp only at D2
  obtain ⟨d2, hd2⟩ : ∃ d2, d2 = emptyD.made fA := ⟨_, rfl⟩
  rw [← hd2] at D2 F1'
  have D3 := Lib.hid (D2.out.keep (below_alloc' w2 (.cells #[.int .u8 49, .int .u8 50] 5 (2, 3))))
  have CA := Lib.hid (append_g D3.out.dc (by omega) fA _ 2 2 [49, 50] (rb_two w2) (by decide))
  rw [Dk.append_ok fmayA F1'.out.file (by decide)] at CA
  have F3 := Lib.hid (F1'.out.app [49, 50])
  clear hq CC D1 hC2 hd2 F1'
  go_wp2_with fail
  refine CA.out.mono ?_
  rintro e w4 hq
  have he := hq.1
  have D4 := Lib.hid (D3.out.step hq)
  subst he
  simp only at D4
  obtain ⟨C4, hC4⟩ : ∃ C4, C4 = paint C2 (w2.alloc (.cells #[.int .u8 49, .int .u8 50] 5 (2, 3))).heap.size 1 := ⟨_, rfl⟩
  rw [← hC4] at D4
  obtain ⟨d4, hd4⟩ : ∃ d4, d4 = d2.app 1 ⟨fA, [], 0, 0⟩ [49, 50] := ⟨_, rfl⟩
  rw [← hd4] at D4 F3
  have CY := Lib.hid (sync_g D4.out.dc (by omega) fA)
  unfold Dk.sync at CY
  rw [Dk.edits_ok fmayA F3.out.file] at CY
  have F5 := Lib.hid (F3.out.edit (y := ⟨fA, [49, 50], 2, 0⟩) rfl)
  clear hq CA D3 D2 hC4 hd4 F3
  go_wp2_with fail
  refine CY.out.mono ?_
  rintro e w5 hq
  have he := hq.1
  have D5 : Hid (DS w w5 (paint C4 w4.heap.size 1) p (0 + 2 + 2 + 2) (d4.edit 1 ⟨fA, [49, 50], 2, 0⟩)) := Lib.hid (D4.out.step hq)
  subst he
  obtain ⟨C5, hC5⟩ : ∃ C5, C5 = paint C4 w4.heap.size 1 := ⟨_, rfl⟩
  obtain ⟨d5, hd5⟩ : ∃ d5, d5 = d4.edit 1 ⟨fA, [49, 50], 2, 0⟩ := ⟨_, rfl⟩
  rw [← hC5] at D5
  rw [← hd5] at D5 F5
  have D6 := Lib.hid (D5.out.keep (below_alloc' w5 (.cells #[.int .u8 51, .int .u8 52, .int .u8 53] 5 (3, 4))))
  have CA := Lib.hid (append_g D6.out.dc (by omega) fA _ 3 3 [51, 52, 53] (rb_three w5) (by decide))
  rw [Dk.append_ok fmayA F5.out.file (by decide)] at CA
  have F6 := Lib.hid (F5.out.app [51, 52, 53])
  clear hq CY D4 hC5 hd5 F5
  go_wp2_with fail
  refine CA.out.mono ?_
  rintro e w6 hq
  have he := hq.1
  have D7 := Lib.hid (D6.out.step hq)
  subst he
  simp only at D7
  obtain ⟨C6, hC6⟩ : ∃ C6, C6 = paint C5 (w5.alloc (.cells #[.int .u8 51, .int .u8 52, .int .u8 53] 5 (3, 4))).heap.size 1 := ⟨_, rfl⟩
  obtain ⟨d6, hd6⟩ : ∃ d6, d6 = d5.app 1 ⟨fA, [49, 50], 2, 0⟩ [51, 52, 53] := ⟨_, rfl⟩
  rw [← hC6] at D7
  rw [← hd6] at D7 F6
  have D8 := Lib.hid (D7.out.keep2 (below_alloc' w6 (.cells #[.int .i64 1] 3)) (sam_paint C6 w6.heap.size 3))
  have CX := Lib.hid (crash_c (cp := 1) D8.out.dc (by omega) (ri_one w6 1) (by unfold maxLen; omega) (fun _ ad e => by
    obtain rfl := Option.some.inj e
    rw [paint_new C6 3 (Nat.le_refl _)]; omega))
  clear hq CA D6 D5 hC6 hd6
  go_wp2_with fail
  refine CX.out.mono ?_
  rintro e w7 ⟨ss, rfl, h1, h2, h3, h4⟩
  have F7 : Hid (F1 (crashD [1] ss d6 ss.length).1 fA ⟨fA, [49, 50, 51], 3, 1⟩ [fA]) := Lib.hid (F6.out.crash (keep := [1]) h1 h2)
  have D9 : Hid (DS w w7 (paint (paint C6 w6.heap.size 3) (w6.alloc (.cells #[.int .i64 1] 3)).heap.size 1) p (0 + 2 + 2 + 2 + 2 + 1) (crashD [1] ss d6 ss.length).1) := Lib.hid ⟨D8.out.bel.trans (h4.below (fun k hk e => by have := D8.out.sam k hk; rw [e] at this; cases this) D8.out.bel.size), D8.out.sam.trans (sam_paint _ _ _) D8.out.bel.size, h3⟩
  obtain ⟨C7, hC7⟩ : ∃ C7, C7 = paint (paint C6 w6.heap.size 3) (w6.alloc (.cells #[.int .i64 1] 3)).heap.size 1 := ⟨_, rfl⟩
  obtain ⟨d7, hd7⟩ : ∃ d7, d7 = (crashD [1] ss d6 ss.length).1 := ⟨_, rfl⟩
  rw [← hC7] at D9
  rw [← hd7] at D9 F7
  have CS := Lib.hid (stat_g D9.out.dc fA)
  rw [F7.out.stat fmayA] at CS
  clear h1 h2 h3 h4 CX D8 D7 F6 hC7 hd7
  go_wp2_with fail
  refine CS.out.mono ?_
  rintro e w8 ⟨rfl, hb8⟩
  have D10 := Lib.hid (D9.out.keep hb8)
  clear CS hb8 D9
  unfold statV
  simp only
  go_upto_region 10 with fail
  obtain ⟨w9, hw9⟩ : ∃ w9, w9 = w8.alloc (.cells #[.int .i64 1, .int .i64 1, .int .i64 1, .int .i64 3] 119) := ⟨_, rfl⟩
  obtain ⟨sb, hsb⟩ : ∃ sb, sb = w8.heap.size := ⟨_, rfl⟩
  have hb9 : Below w8.heap.size w8 w9 := by rw [hw9]; exact below_alloc' _ _
  have D11 := Lib.hid (D10.out.keep2 hb9 (sam_paint C7 w8.heap.size 3))
  have H11 : Hid (Fr w9 (paint C7 w8.heap.size 3) (fun w => Blk w sb 119 #[.int .i64 1, .int .i64 1, .int .i64 1, .int .i64 3])) := Lib.hid (Fr.blk (by rw [hw9]; exact Blk.new w8 _ _ hsb) (by rw [hsb]; exact paint_new C7 3 (Nat.le_refl _)))
  obtain ⟨C9, hC9⟩ : ∃ C9, C9 = paint C7 w8.heap.size 3 := ⟨_, rfl⟩
  rw [← hC9] at D11 H11
  rw [← hw9, ← hsb]
  have CR := Lib.hid (read_c D11.out.dc 1 1 0 9 ⟨by omega, by omega⟩ ⟨by omega, by omega⟩ ⟨by omega, by omega⟩)
  have hrd : d7.read 1 1 0 9 = ([49, 50, 51], 0) := by
    unfold Dk.read
    rw [if_neg (by omega), F7.out.fs, if_pos rfl]
    rfl
  rw [hrd] at CR
  clear hw9 hsb hb9 hC9 D10 hrd
  go_wp2_with fail
  refine CR.out.mono ?_
  rintro e w10 ⟨v, rfl, ho, hb10⟩
  have hol := ho.lt
  obtain ⟨A10, c10, rfl, _, _, hr10⟩ := ho.form
  have D12 := Lib.hid (D11.out.keep2 hb10 (sam_paint C9 w9.heap.size 3))
  have H12 := Lib.hid ((H11.out.keep hb10 (sam_paint C9 w9.heap.size 3)).and (Fr.rb hr10 (fun _ ad e => paint_new C9 3 (hol ad.block (by rw [e]; rfl)).1)))
  obtain ⟨C10, hC10⟩ : ∃ C10, C10 = paint C9 w9.heap.size 3 := ⟨_, rfl⟩
  rw [← hC10] at D12 H12
  have CW := Lib.hid (rename_g D12.out.dc (by omega) fA fB)
  rw [Dk.rename_ok fmayA fmayB fneAB F7.out.file] at CW
  have F8 := Lib.hid (F7.out.ren fneAB (by decide))
  clear ho hol hb10 hr10 hC10 CR D11 H11
  go_wp2_with fail
  refine CW.out.mono ?_
  rintro e w11 hq
  have he := hq.1
  have ⟨d13, h13⟩ := D12.out.stepF H12.out hq
  have D13 := Lib.hid d13
  have H13 := Lib.hid h13
  subst he
  simp only at D13 F8
  obtain ⟨C11, hC11⟩ : ∃ C11, C11 = paint C10 w10.heap.size 1 := ⟨_, rfl⟩
  obtain ⟨d8, hd8⟩ : ∃ d8, d8 = d7.ren fA fB 1 ⟨fA, [49, 50, 51], 3, 1⟩ := ⟨_, rfl⟩
  rw [← hC11] at D13 H13
  rw [← hd8] at D13 F8
  have CI := Lib.hid (inode_c D13.out.dc 1 ⟨by omega, by omega⟩)
  rw [F8.out.inode] at CI
  clear hq d13 h13 CW D12 H12 F7 hC11 hd8
  go_wp2_with fail
  refine CI.out.mono ?_
  rintro e w12 ⟨rfl, hb12⟩
  have D14 := Lib.hid (D13.out.keep hb12)
  have H14 := Lib.hid (H13.out.keep hb12 (Sam.refl _ _))
  clear CI hb12 D13 H13
  unfold statV
  simp only
  go_upto_region 13 with fail
  obtain ⟨w13, hw13⟩ : ∃ w13, w13 = w12.alloc (.cells #[.int .i64 1, .int .i64 1, .int .i64 1, .int .i64 3] 119) := ⟨_, rfl⟩
  obtain ⟨tb, htb⟩ : ∃ tb, tb = w12.heap.size := ⟨_, rfl⟩
  have hb13 : Below w12.heap.size w12 w13 := by rw [hw13]; exact below_alloc' _ _
  have D15 := Lib.hid (D14.out.keep2 hb13 (sam_paint C11 w12.heap.size 3))
  have H15 := Lib.hid ((H14.out.keep hb13 (sam_paint C11 w12.heap.size 3)).and (Fr.blk (show Blk w13 tb 119 #[.int .i64 1, .int .i64 1, .int .i64 1, .int .i64 3] by rw [hw13]; exact Blk.new w12 _ _ htb) (by rw [htb]; exact paint_new C11 3 (Nat.le_refl _))))
  obtain ⟨C13, hC13⟩ : ∃ C13, C13 = paint C11 w12.heap.size 3 := ⟨_, rfl⟩
  rw [← hC13] at D15 H15
  rw [← hw13, ← htb]
  have CM := Lib.hid (names_c D15.out.dc (by omega))
  clear hw13 htb hb13 hC13 D14 H14
  go_wp2_with fail
  refine CM.out.mono ?_
  rintro e w14 ⟨v, ss, rfl, hnd, hmem, hrow, hb14⟩
  obtain rfl := F8.out.names hnd hmem
  have hrow' : w14.ownsRow w13.heap.size 9 1 v 1 [sV fB] := by simpa using hrow
  have hol := hrow'.lt
  obtain ⟨A14, c14, rfl, hc14, _, hA14⟩ := own_form hrow'
  obtain ⟨g14, rfl, _⟩ : ∃ g, A14 = some ⟨g, 0, none⟩ ∧ True := by
    rcases hA14 with ⟨_, h⟩ | ⟨g, h, _⟩
    · cases h
    · exact ⟨g, h, trivial⟩
  have D16 := Lib.hid (D15.out.keep2 hb14 (sam_paint C13 w13.heap.size 3))
  have H16 := Lib.hid ((H15.out.keep hb14 (sam_paint C13 w13.heap.size 3)).and (Fr.own hrow' (fun k hk => paint_new C13 3 (hol k hk).1)))
  obtain ⟨C14, hC14⟩ : ∃ C14, C14 = paint C13 w13.heap.size 3 := ⟨_, rfl⟩
  rw [← hC14] at D16 H16
  have CP := Lib.hid (copy_c D16.out.dc 2 (by omega))
  clear hnd hmem hrow hrow' hol hb14 hA14 hC14 CM D15 H15
  go_wp2_with fail
  refine CP.out.mono ?_
  rintro e w15 ⟨p2, rfl, hp2, hda, hdb, hb15⟩
  have D17 : Hid (DS w w15 (paint C14 w14.heap.size 2) p (0 + 2 + 2 + 2 + 2 + 1 + 2) d8) := Lib.hid ⟨D16.out.bel.trans (hb15.mono D16.out.bel.size), D16.out.sam.trans (sam_paint _ _ _) D16.out.bel.size, hda⟩
  have E17 := Lib.hid hdb
  have H17 := Lib.hid (H16.out.keep hb15 (sam_paint C14 w14.heap.size 2))
  obtain ⟨C15, hC15⟩ : ∃ C15, C15 = paint C14 w14.heap.size 2 := ⟨_, rfl⟩
  rw [← hC15] at D17 E17 H17
  have CU := Lib.hid (cut_g D17.out.dc (by omega) fB)
  unfold Dk.cut at CU
  rw [Dk.edits_ok fmayB F8.out.file] at CU
  have F9 := Lib.hid (F8.out.edit (y := (⟨fB, [49, 50, 51], 3, 1⟩ : Fl).kept 0) rfl)
  clear hda hdb hb15 hp2 hC15 CP D16 H16
  go_wp2_with fail
  refine CU.out.mono ?_
  rintro e w16 hq
  have he := hq.1
  have ⟨d18, h18⟩ := D17.out.stepF H17.out hq
  have D18 := Lib.hid d18
  have H18 := Lib.hid h18
  have E18 := Lib.hid (E17.out.step hq.2.2 (sam_paint C15 w15.heap.size 1) (fun b hb e => by rw [hb] at e; cases e))
  subst he
  simp only at D18 F9
  obtain ⟨C16, hC16⟩ : ∃ C16, C16 = paint C15 w15.heap.size 1 := ⟨_, rfl⟩
  obtain ⟨d9, hd9⟩ : ∃ d9, d9 = d8.edit 1 ((⟨fB, [49, 50, 51], 3, 1⟩ : Fl).kept 0) := ⟨_, rfl⟩
  rw [← hC16] at D18 H18 E18
  rw [← hd9] at D18 F9
  have CV := Lib.hid (remove_g D18.out.dc (by omega) fB)
  have hrm : d9.remove fB = (0, d9.less fB 1) := by unfold Dk.remove; rw [if_pos fmayB, F9.out.ns1]
  rw [hrm] at CV
  clear hq d18 h18 CU D17 H17 E17 hC16 hd9 hrm
  go_wp2_with fail
  refine CV.out.mono ?_
  rintro e w17 hq
  have he := hq.1
  have ⟨d19, h19⟩ := D18.out.stepF H18.out hq
  have D19 := Lib.hid d19
  have H19 := Lib.hid h19
  have E19 := Lib.hid (E18.out.step hq.2.2 (sam_paint C16 w16.heap.size 1) (fun b hb e => by rw [hb] at e; cases e))
  subst he
  obtain ⟨C17, hC17⟩ : ∃ C17, C17 = paint C16 w16.heap.size 1 := ⟨_, rfl⟩
  rw [← hC17] at D19 H19 E19
  have CT := Lib.hid (stat_g E19.out fB)
  rw [F8.out.stat fmayB] at CT
  clear hq d19 h19 CV D18 H18 E18 F9 hC17
  go_wp2_with fail
  refine CT.out.mono ?_
  rintro e w18 ⟨rfl, hb18⟩
  have D20 := Lib.hid (D19.out.keep hb18)
  have H20 := Lib.hid (H19.out.keep hb18 (Sam.refl _ _))
  clear CT hb18 D19 H19
  unfold statV
  simp only
  have hb19 := below_alloc' w18 (.cells #[.int .i64 1, .int .i64 1, .int .i64 1, .int .i64 3] 119)
  obtain ⟨⟨⟨ks, kr⟩, kt⟩, ko⟩ := (H20.out.keep hb19 (Sam.refl _ _)).now
  have z0 := (ks.cell 0).trans rfl
  have z1 := (ks.cell 1).trans rfl
  have z2 := (ks.cell 2).trans rfl
  have z3 := (ks.cell 3).trans rfl
  have y1 := (kt.cell 1).trans rfl
  have x0 : (w18.alloc (.cells #[.int .i64 1, .int .i64 1, .int .i64 1, .int .i64 3] 119)).cell? ⟨g14, 0, none⟩ = some (.string (strB fB)) := by
    have h1 := World.ownsRow.cellAt ko 0 (by decide)
    rw [h1]; rfl
  have cv := conv_bytes _ A10 3 c10 [49, 50, 51] kr
  have ecv : (strOf [49, 50, 51]).toList = [49, 50, 51] := by rw [ByteArray.toList_eq]; rfl
  have eb : (strB fB).toList = [98] := by rw [ByteArray.toList_eq]; rfl
  have HF : Hid (TruQ w (.returned (.bool true)) (w18.alloc (.cells #[.int .i64 1, .int .i64 1, .int .i64 1, .int .i64 3] 119))) := Lib.hid ⟨rfl, D20.out.bel.trans (hb19.mono D20.out.bel.size)⟩
  clear ks kr kt ko D20 H20 E19 hb19
  go_wp2_with fail
  go_ret
  exact HF.out
end Go.Proofs.YtlojmmcagglpoaaGreat
