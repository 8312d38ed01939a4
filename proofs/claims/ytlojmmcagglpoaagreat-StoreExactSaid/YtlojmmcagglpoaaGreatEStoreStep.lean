/- THE WALKS of a store's writer: Begin, Busy, and its four steps. -/
import Derived.Test.YtlojmmcagglpoaaGreatEDS
import Derived.Deep.QuietTactic
import Derived.BigQuiet
namespace Go.Proofs.YtlojmmcagglpoaaGreat
open Go.RowKit Go.Maps
/-- a writer -/
structure Wr where
  nm : List UInt8
  sc : List UInt8
  by_ : List UInt8
  busy : Bool
  nx : Nat
def wcells (r : Wr) (v : Value) : Array Value := #[.string (strB r.nm), .string (strB r.sc), v, .bool r.busy, .int .i64 (r.nx : Int)]
structure WC (W : World) (N : Nat) (C : Nat → Nat) (c g : Nat) (v : Value) (r : Wr) : Prop where
  blk : Blk W g 141 (wcells r v)
  own : OB W N v r.by_
  lo : N ≤ g
  col : C g = c ∧ ∀ k, v.ownBlock = some k → C k = c
section
variable {W w' : World} {N : Nat} {C C' : Nat → Nat} {c g : Nat} {v : Value} {r : Wr}
theorem WC.step (h : WC W N C c g v r) {S : Nat → Prop} (hc : Chg S W w') (hs : Sam W.heap.size C C') (hS : ∀ b, S b → C b ≠ c) : WC w' N C' c g v r :=
  ⟨h.blk.chg hc (fun e => hS g e h.col.1), hc.ob h.own (fun k hk e => hS k e (h.col.2 k hk)), h.lo, by rw [hs g h.blk.lt]; exact h.col.1, fun k hk => by rw [hs k (h.own.lt k hk).2]; exact h.col.2 k hk⟩
theorem WC.keep (h : WC W N C c g v r) (hb : Below W.heap.size W w') (hs : Sam W.heap.size C C') : WC w' N C' c g v r := h.step (Chg.of_below hb (fun _ => False)) hs (fun _ h => h.elim)
end
noncomputable def Dk.load (d : Dk) (nm : List UInt8) : List UInt8 × Int := if mayB nm = true then (match d.file nm with | none => ([], 141) | some (_, x) => (x.by_, 0)) else ([], 140)
theorem Dk.Ok.file_some {d : Dk} {n : Nat} (_h : d.Ok n) {nm : List UInt8} {i : Int} {x : Fl} (hf : d.file nm = some (i, x)) : d.ns nm = some i ∧ d.fs i = some x := by
  unfold Dk.file at hf
  cases hi : d.ns nm with
  | none => rw [hi] at hf; cases hf
  | some j =>
    rw [hi] at hf
    cases hx : d.fs j with
    | none => simp [hx] at hf
    | some y =>
      simp [hx] at hf
      exact ⟨by rw [hf.1], by rw [← hf.1, ← hf.2]; exact hx⟩
set_option maxRecDepth 20000 in
set_option maxHeartbeats 1000000 in
theorem load_c {W : World} {N : Nat} {C : Nat → Nat} {c p n : Nat} {d : Dk} (h : DC W N C c p n d) (nm : List UInt8) (hl : okName nm) : Calls Tryz.prog 16 #[.pointer (some ⟨p, 0, none⟩), .string (strB nm)] W (BytesQ W (d.load nm)) := by
  have CS := Lib.hid (stat_c h nm hl)
  have H := Lib.hid h
  clear h
  have hst : d.stat nm = (statV 0 0 0 0, 140) ∧ d.load nm = ([], 140) ∨ d.stat nm = (statV 0 0 0 0, 141) ∧ d.load nm = ([], 141) ∨ ∃ i x, d.fs i = some x ∧ okInt i ∧ d.stat nm = (statV i ((d.se nm).getD 0) (x.ge : Int) (x.by_.length : Int), 0) ∧ d.load nm = (x.by_, 0) := by
    unfold Dk.stat Dk.load
    by_cases hm : mayB nm = true
    · rw [if_pos hm, if_pos hm]
      cases hf : d.file nm with
      | none => exact .inr (.inl ⟨rfl, rfl⟩)
      | some ix =>
        obtain ⟨i, x⟩ := ix
        obtain ⟨h1, h2⟩ := H.out.ok.file_some hf
        exact .inr (.inr ⟨i, x, h2, H.out.ok.okInt nm i h1, rfl, rfl⟩)
    · rw [if_neg hm, if_neg hm]; exact .inl ⟨rfl, rfl⟩
  go_enter Tryz.func16, Tryz.ntmps16
  go_wp2_with fail
  refine CS.out.mono ?_
  rintro e w1 ⟨he, hb⟩
  have HB := Lib.hid hb
  clear CS hb
  rcases hst with ⟨h1, h2⟩ | ⟨h1, h2⟩ | ⟨i, x, hx, hi, h1, h2⟩
  · rw [h1] at he
    unfold statV at he
    subst he
    have HF : Hid (BytesQ W (d.load nm) (.returned (.tuple #[.slice none 0 0, .int .i64 140])) (w1.alloc (.cells #[.int .i64 0, .int .i64 0, .int .i64 0, .int .i64 0] 119))) := Lib.hid (by rw [h2]; exact ⟨_, rfl, OB.nil _ _, HB.out.alloc HB.out.size _⟩)
    clear h1 h2
    go_wp2_with fail
    go_ret2
    exact HF.out
  · rw [h1] at he
    unfold statV at he
    subst he
    have HF : Hid (BytesQ W (d.load nm) (.returned (.tuple #[.slice none 0 0, .int .i64 141])) (w1.alloc (.cells #[.int .i64 0, .int .i64 0, .int .i64 0, .int .i64 0] 119))) := Lib.hid (by rw [h2]; exact ⟨_, rfl, OB.nil _ _, HB.out.alloc HB.out.size _⟩)
    clear h1 h2
    go_wp2_with fail
    go_ret2
    exact HF.out
  · rw [h1] at he
    unfold statV at he
    subst he
    have hlen := H.out.ok.len i x hx
    have HR := Lib.hid (fun (w2 : World) (hw : Below W.heap.size W w2) => read_c (H.out.keep hw (Sam.refl _ _)) i (x.ge : Int) 0 (x.by_.length : Int) hi ⟨by decide, by decide⟩ ⟨by omega, by omega⟩)
    have HLD := Lib.hid h2
    have HRD : Hid (d.read i (x.ge : Int) 0 (x.by_.length : Int) = (x.by_, 0)) := Lib.hid (by
      unfold Dk.read
      rw [if_neg (by omega), hx]
      simp)
    obtain ⟨sv, hsv⟩ : ∃ sv : Int, sv = (d.se nm).getD 0 := ⟨_, rfl⟩
    obtain ⟨m, hm⟩ : ∃ m : Int, m = (x.by_.length : Int) := ⟨_, rfl⟩
    obtain ⟨ge, hge⟩ : ∃ ge : Int, ge = (x.ge : Int) := ⟨_, rfl⟩
    rw [← hsv, ← hm, ← hge]
    rw [← hm, ← hge] at HR HRD
    clear h1 h2 hsv hm hge hlen hx
    go_wp2_with fail
    refine (HR.out _ (HB.out.alloc HB.out.size _)).mono ?_
    rw [HRD.out]
    rintro e w3 ⟨v, rfl, ho, hb3⟩
    have HF : Hid (BytesQ W (d.load nm) (.returned (.tuple #[v, .int .i64 0])) w3) := Lib.hid (by rw [HLD.out]; exact ⟨v, rfl, ho.less (by have := HB.out.size; simp; omega), (HB.out.alloc HB.out.size _).trans (hb3.mono (by have := HB.out.size; simp; omega))⟩)
    clear ho hb3
    go_wp2_with fail
    go_ret2
    exact HF.out
set_option maxRecDepth 20000 in
set_option maxHeartbeats 1000000 in
theorem smay_any (W : World) (nm : List UInt8) (hl : okName nm) : Calls Tryz.prog 61 #[.string (strB nm)] W fun e w' => e = .returned (.bool (mayB nm)) ∧ Below W.heap.size W w' := by
  have CN := Lib.hid (new_c W (fun _ => 0) 0)
  have hst : ∃ k : Int, emptyD.stat nm = (statV 0 0 0 0, k) ∧ ((k != 140) = mayB nm) := by
    unfold Dk.stat
    by_cases hm : mayB nm = true
    · rw [if_pos hm]
      have : emptyD.file nm = none := rfl
      rw [this, hm]
      exact ⟨141, rfl, by decide⟩
    · rw [if_neg hm]
      have : mayB nm = false := by simpa using hm
      rw [this]
      exact ⟨140, rfl, by decide⟩
  obtain ⟨k, hk, hkm⟩ := hst
  rw [← hkm]
  go_enter Tryz.func61, Tryz.ntmps61
  go_wp2_with fail
  refine CN.out.mono ?_
  rintro e w1 ⟨p, rfl, hp, hd, hb⟩
  have CS := Lib.hid (stat_c hd nm hl)
  have HB := Lib.hid hb
  rw [hk] at CS
  unfold statV AskQ at CS
  clear hd hb hk hkm CN hp
  go_wp2_with fail
  refine CS.out.mono ?_
  rintro e w2 ⟨rfl, hb2⟩
  have HB2 : Hid (Below W.heap.size W (w2.alloc (.cells #[.int .i64 0, .int .i64 0, .int .i64 0, .int .i64 0] 119))) := Lib.hid ((HB.out.trans (hb2.mono HB.out.size)).alloc (Nat.le_trans HB.out.size hb2.size) _)
  clear hb2 CS
  simp only
  go_wp2_with fail
  go_ret
  exact ⟨rfl, HB2.out⟩
open Classical in
noncomputable def newE (nm sc : List UInt8) : Int := if (mayB nm && mayB sc) = true then (if nm = sc then 1 else 0) else 140
def NewSQ (W : World) (C : Nat → Nat) (c : Nat) (nm sc : List UInt8) (e : Ending) (w' : World) : Prop :=
  Below W.heap.size W w' ∧ ((newE nm sc ≠ 0 ∧ e = .returned (.tuple #[.pointer none, .int .i64 (newE nm sc)])) ∨ (newE nm sc = 0 ∧ ∃ g, e = .returned (.tuple #[.pointer (some ⟨g, 0, none⟩), .int .i64 0]) ∧ WC w' W.heap.size (paint C W.heap.size c) c g (.slice none 0 0) ⟨nm, sc, [], false, 0⟩))
set_option maxRecDepth 20000 in
set_option maxHeartbeats 1000000 in
theorem snew_any (W : World) (C : Nat → Nat) (c : Nat) (nm sc : List UInt8) (hl : okName nm) (hl2 : okName sc) : Calls Tryz.prog 14 #[.string (strB nm), .string (strB sc)] W (NewSQ W C c nm sc) := by
  have C1 := Lib.hid (smay_any W nm hl)
  have C2 := Lib.hid (fun w => smay_any w sc hl2)
  have hcmp := strB_beq nm sc
  go_enter Tryz.func14, Tryz.ntmps14
  cases hb1 : mayB nm with
  | false =>
    rw [hb1] at C1
    have HE : Hid (newE nm sc = 140) := Lib.hid (by unfold newE; rw [hb1]; rfl)
    go_wp2_with fail
    refine C1.out.mono ?_
    rintro e w1 ⟨rfl, hb⟩
    have HF : Hid (NewSQ W C c nm sc (.returned (.tuple #[.pointer none, .int .i64 140])) w1) := Lib.hid ⟨hb, .inl ⟨by rw [HE.out]; decide, by rw [HE.out]⟩⟩
    clear hb
    go_wp2_with fail
    go_ret2
    exact HF.out
  | true =>
    rw [hb1] at C1
    go_wp2_with fail
    refine C1.out.mono ?_
    rintro e w1 ⟨rfl, hb⟩
    have HB := Lib.hid hb
    clear hb
    cases hb2 : mayB sc with
    | false =>
      rw [hb2] at C2
      have HE : Hid (newE nm sc = 140) := Lib.hid (by unfold newE; rw [hb1, hb2]; rfl)
      clear hb1 hb2
      go_wp2_with fail
      refine (C2.out w1).mono ?_
      rintro e w2 ⟨rfl, hb⟩
      have HF : Hid (NewSQ W C c nm sc (.returned (.tuple #[.pointer none, .int .i64 140])) w2) := Lib.hid ⟨HB.out.trans (hb.mono HB.out.size), .inl ⟨by rw [HE.out]; decide, by rw [HE.out]⟩⟩
      clear hb
      go_wp2_with fail
      go_ret2
      exact HF.out
    | true =>
      rw [hb2] at C2
      have HE : Hid (newE nm sc = if nm = sc then 1 else 0) := Lib.hid (by unfold newE; rw [hb1, hb2]; rfl)
      clear hb1 hb2
      go_wp2_with fail
      refine (C2.out w1).mono ?_
      rintro e w2 ⟨rfl, hb⟩
      have HB2 : Hid (Below W.heap.size W w2) := Lib.hid (HB.out.trans (hb.mono HB.out.size))
      clear hb
      by_cases he : nm = sc
      · rw [decide_eq_true he] at hcmp
        have HF : Hid (NewSQ W C c nm sc (.returned (.tuple #[.pointer none, .int .i64 1])) w2) := Lib.hid ⟨HB2.out, .inl ⟨by rw [HE.out, if_pos he]; decide, by rw [HE.out, if_pos he]⟩⟩
        clear he
        go_wp2_with fail
        go_ret2
        exact HF.out
      · rw [decide_eq_false he] at hcmp
        have HF : Hid (NewSQ W C c nm sc (.returned (.tuple #[.pointer (some ⟨w2.heap.size, 0, none⟩), .int .i64 0])) (w2.alloc (.cells #[.string (strB nm), .string (strB sc), .slice none 0 0, .bool false, .int .i64 0] 141))) := Lib.hid
          ⟨HB2.out.alloc HB2.out.size _, .inr ⟨by rw [HE.out, if_neg he], w2.heap.size, rfl, ⟨Blk.new _ _ _ rfl, OB.nil _ _, HB2.out.size, paint_new C c HB2.out.size, fun k hk => by cases hk⟩⟩⟩
        clear he
        go_wp2_with fail
        go_ret2
        exact HF.out
end Go.Proofs.YtlojmmcagglpoaaGreat
namespace Go.Proofs.YtlojmmcagglpoaaGreat
open Go.RowKit Go.Maps
set_option maxRecDepth 20000 in
theorem busy_any (W : World) (N : Nat) (C : Nat → Nat) (c g : Nat) (v : Value) (r : Wr) (h : WC W N C c g v r) : Calls Tryz.prog 23 #[.pointer (some ⟨g, 0, none⟩)] W fun e w' => e = .returned (.bool r.busy) ∧ W = w' := by
  have c3 : W.cell? ⟨g, 3, none⟩ = some (.bool r.busy) := (h.blk.cell 3).trans rfl
  clear h
  go_enter Tryz.func23, Tryz.ntmps23
  go_wp2_with fail
  go_ret
  exact ⟨rfl, rfl⟩
/-- what Begin answers, and the writer behind it -/
def Wr.begin (r : Wr) (l : List UInt8) : Int × Wr := if r.busy then (220, r) else if 1048576 < l.length then (145, r) else (0, ⟨r.nm, r.sc, l, true, 0⟩)
def BegQ (W : World) (N : Nat) (C : Nat → Nat) (c g : Nat) (q : Int × Wr) (e : Ending) (w' : World) : Prop :=
  e = .returned (.int .i64 q.1) ∧ (∃ v, WC w' N (paint C W.heap.size c) c g v q.2) ∧ Chg (fun b => b = g) W w'
set_option maxRecDepth 20000 in
set_option maxHeartbeats 1000000 in
theorem begin_any (W : World) (N : Nat) (C : Nat → Nat) (c g : Nat) (v : Value) (r : Wr) (h : WC W N C c g v r) (hN : N ≤ W.heap.size) (A : Option Addr) (m cp : Nat) (l : List UInt8) (hr : RB W A m l) (hm : m ≤ 1000000000) : Calls Tryz.prog 19 #[.pointer (some ⟨g, 0, none⟩), .slice A m cp] W (BegQ W N C c g (r.begin l)) := by
  have H := Lib.hid h; have HR := Lib.hid hr
  have c3 : W.cell? ⟨g, 3, none⟩ = some (.bool r.busy) := (h.blk.cell 3).trans rfl
  clear h hr
  go_enter Tryz.func19, Tryz.ntmps19
  cases hb : r.busy with
  | true =>
    rw [hb] at c3
    have HF : Hid (BegQ W N C c g (r.begin l) (.returned (.int .i64 220)) W) := Lib.hid (by
      unfold Wr.begin
      rw [hb]
      exact ⟨rfl, ⟨v, H.out.keep (Below.refl _ _) (sam_paint _ _ _)⟩, Chg.refl _ _⟩)
    clear hb
    go_wp2_with fail
    go_ret
    exact HF.out
  | false =>
    rw [hb] at c3
    by_cases hbig : 1048576 < m
    · have hbz : (1048576 : Int) < (m : Int) := by omega
      have HF : Hid (BegQ W N C c g (r.begin l) (.returned (.int .i64 145)) W) := Lib.hid (by
        unfold Wr.begin
        rw [hb, if_neg Bool.false_ne_true, if_pos (by rw [HR.out.1]; exact hbig)]
        exact ⟨rfl, ⟨v, H.out.keep (Below.refl _ _) (sam_paint _ _ _)⟩, Chg.refl _ _⟩)
      clear hb
      go_wp2_with fail
      go_ret
      exact HF.out
    · have hbz : ¬ (1048576 : Int) < (m : Int) := by omega
      have HBU := Lib.hid hb
      clear hb
      have O1 := Lib.hid (OB.fresh (w := W) (base := W.heap.size) (g := W.heap.size) rfl (Nat.le_refl _))
      have R1 := Lib.hid (HR.out.alloc (.cells #[] 5))
      have HS : Hid (W.heap.size ≤ (W.alloc (.cells #[] 5)).heap.size) := Lib.hid (by simp)
      go_wp2_with ((at_builtin; go_must (refine append_bytes rfl (.tmp 17) (.tmp 18) rfl W.heap.size (.slice (some ⟨W.heap.size, 0, none⟩) 0 0) [] rfl O1.out A m cp l rfl R1.out (by simp; omega) HS.out ?_); intro v3 w3 ho3 hg3 ha3; refine halt ?_))
      refine unhalt ?_
      have B3 : Hid (Below W.heap.size W w3) := Lib.hid ((Below.alloc (Below.refl _ _) (Nat.le_refl _) _).grown hg3 HS.out (fun k hk => (O1.out.lt k hk).1))
      have BK3 := Lib.hid (H.out.blk.keep B3.out)
      rw [List.nil_append] at ho3
      obtain ⟨A3, cap3, hv3, _⟩ := own_form ho3
      have c2 : w3.cell? ⟨g, 2, none⟩ = some v := (BK3.out.cell 2).trans rfl
      have c3' : w3.cell? ⟨g, 3, none⟩ = some (.bool false) := (BK3.out.cell 3).trans (by show some (Value.bool r.busy) = _; rw [HBU.out])
      have c4 : w3.cell? ⟨g, 4, none⟩ = some (.int .i64 (r.nx : Int)) := (BK3.out.cell 4).trans rfl
      have f2 : w3.frozen? ⟨g, 2, none⟩ = false := BK3.out.frozen 2
      have f3 : w3.frozen? ⟨g, 3, none⟩ = false := BK3.out.frozen 3
      have f4 : w3.frozen? ⟨g, 4, none⟩ = false := BK3.out.frozen 4
      have HF : Hid (BegQ W N C c g (r.begin l) (.returned (.int .i64 0)) (((w3.setCell ⟨g, 2, none⟩ v3).setCell ⟨g, 3, none⟩ (.bool true)).setCell ⟨g, 4, none⟩ (.int .i64 0))) := Lib.hid (by
        unfold Wr.begin
        rw [HBU.out, if_neg Bool.false_ne_true, if_neg (by rw [HR.out.1]; exact hbig)]
        have hc : Chg (fun b => b = g) W (((w3.setCell ⟨g, 2, none⟩ v3).setCell ⟨g, 3, none⟩ (.bool true)).setCell ⟨g, 4, none⟩ (.int .i64 0)) := (((Chg.of_below B3.out _).set1 2 _).set1 3 _).set1 4 _
        have hne : ∀ k, v3.ownBlock = some k → ¬ k = g := fun k hk e => BK3.out.apart ho3 (by decide) (by rw [hk, e])
        refine ⟨rfl, ⟨v3, ((BK3.out.set_ 2 v3).set_ 3 (.bool true)).set_ 4 (.int .i64 0), ?_, H.out.lo, by rw [paint_old C c H.out.blk.lt]; exact H.out.col.1, fun k hk => ?_⟩, hc⟩
        · have h1 : Chg (fun b => b = g) w3 (((w3.setCell ⟨g, 2, none⟩ v3).setCell ⟨g, 3, none⟩ (.bool true)).setCell ⟨g, 4, none⟩ (.int .i64 0)) := (((Chg.refl _ w3).set1 2 _).set1 3 _).set1 4 _
          exact h1.ob (OB.less ho3 hN) hne
        · exact paint_new C c (ho3.lt k hk).1)
      rw [hv3] at HF ⊢
      clear ho3 hg3 ha3 hv3 c3
      go_wp2_with fail
      go_ret
      exact HF.out
/-- a writer's next thing on a disk -/
noncomputable def Wr.op (r : Wr) (d : Dk) : Int × Dk := match r.nx with
  | 0 => if (d.stat r.sc).2 = 0 then d.cut r.sc else d.create r.sc
  | 1 => d.append r.sc r.by_
  | 2 => d.sync r.sc
  | _ => d.rename r.sc r.nm
section
variable {W : World} {N N' : Nat} {C : Nat → Nat} {c c2 p n g : Nat} {d : Dk} {v : Value} {r : Wr}
theorem stat_form (d : Dk) (nm : List UInt8) : ∃ a b x y : Int, (d.stat nm).1 = statV a b x y := by
  unfold Dk.stat
  by_cases hm : mayB nm = true
  · rw [if_pos hm]
    cases d.file nm with
    | none => exact ⟨_, _, _, _, rfl⟩
    | some ix => exact ⟨_, _, _, _, rfl⟩
  · rw [if_neg hm]; exact ⟨_, _, _, _, rfl⟩
set_option maxRecDepth 20000 in
set_option maxHeartbeats 1000000 in
theorem wempty_any (h : DC W N C c p n d) (hn : n + 2 < 1000000) (hw : WC W N' C c2 g v r) (hl : okName r.sc) : Calls Tryz.prog 110 #[.pointer (some ⟨g, 0, none⟩), .pointer (some ⟨p, 0, none⟩)] W (StepQ W N C c p (n + 2) (if (d.stat r.sc).2 = 0 then d.cut r.sc else d.create r.sc)) := by
  have H := Lib.hid h; have HW := Lib.hid hw
  have c1 : W.cell? ⟨g, 1, none⟩ = some (.string (strB r.sc)) := (hw.blk.cell 1).trans rfl
  have CS := Lib.hid (stat_c h r.sc hl)
  obtain ⟨k1, k2, k3, k4, hst⟩ := stat_form d r.sc
  unfold AskQ at CS
  rw [hst] at CS
  unfold statV at CS
  obtain ⟨en, hen⟩ : ∃ en, en = (d.stat r.sc).2 := ⟨_, rfl⟩
  rw [← hen] at CS ⊢
  obtain ⟨rr, hrr⟩ : ∃ rr, rr = if en = 0 then d.cut r.sc else d.create r.sc := ⟨_, rfl⟩
  rw [← hrr]
  have HRR := Lib.hid hrr
  clear h hw hst hen hrr
  go_enter Tryz.func110, Tryz.ntmps110
  go_wp2_with fail
  refine CS.out.mono ?_
  rintro e w1 ⟨rfl, hb⟩
  have HB : Hid (Below W.heap.size W (w1.alloc (.cells #[.int .i64 k1, .int .i64 k2, .int .i64 k3, .int .i64 k4] 119))) := Lib.hid (hb.alloc hb.size _)
  have HD := Lib.hid (H.out.keep HB.out (sam_paint C W.heap.size c))
  have d1 : (w1.alloc (.cells #[.int .i64 k1, .int .i64 k2, .int .i64 k3, .int .i64 k4] 119)).cell? ⟨g, 1, none⟩ = some (.string (strB r.sc)) := ((HW.out.blk.keep HB.out).cell 1).trans rfl
  have d1' : w1.cell? ⟨g, 1, none⟩ = some (.string (strB r.sc)) := ((HW.out.blk.keep hb).cell 1).trans rfl
  clear hb CS c1
  by_cases he : en = 0
  · have HC := Lib.hid (cut_c HD.out hn r.sc hl)
    have HE : Hid (rr = d.cut r.sc) := Lib.hid (by rw [HRR.out, if_pos he])
    subst he
    go_wp2_with fail
    refine HC.out.mono ?_
    rintro e w3 hq
    have h1 := hq.1
    have HF : Hid (StepQ W N C c p (n + 2) rr e w3) := Lib.hid (by rw [HE.out]; exact hq.behind HB.out)
    subst h1
    clear hq
    go_wp2_with fail
    go_ret
    exact HF.out
  · have HC := Lib.hid (create_c HD.out hn r.sc hl)
    have HE : Hid (rr = d.create r.sc) := Lib.hid (by rw [HRR.out, if_neg he])
    have heb : (en == 0) = false := by rw [beq_eq_false_iff_ne]; exact he
    go_wp2_with fail
    refine HC.out.mono ?_
    rintro e w3 hq
    have h1 := hq.1
    have HF : Hid (StepQ W N C c p (n + 2) rr e w3) := Lib.hid (by rw [HE.out]; exact hq.behind HB.out)
    subst h1
    clear hq
    go_wp2_with fail
    go_ret
    exact HF.out
set_option maxRecDepth 20000 in
set_option maxHeartbeats 1000000 in
theorem wlast_any (h : DC W N C c p n d) (hn : n + 2 < 1000000) (hw : WC W N' C c2 g v r) (hl : okName r.sc) : Calls Tryz.prog 112 #[.pointer (some ⟨g, 0, none⟩), .pointer (some ⟨p, 0, none⟩)] W (StepQ W N C c p (n + 2) (d.sync r.sc)) := by
  have c1 : W.cell? ⟨g, 1, none⟩ = some (.string (strB r.sc)) := (hw.blk.cell 1).trans rfl
  have HC := Lib.hid (sync_c h hn r.sc hl)
  clear h hw
  go_enter Tryz.func112, Tryz.ntmps112
  go_wp2_with fail
  refine HC.out.mono ?_
  rintro e w3 hq
  have h1 := hq.1
  have HF := Lib.hid hq
  subst h1
  clear hq
  go_wp2_with fail
  go_ret
  exact HF.out
theorem dc_drewN (h : DC W N C c p n d) (k : Nat) : DC (W.drewN k) N C c p n d := h.keep (below_drewN (Below.refl _ _) k) (Sam.refl _ _)
theorem wc_drewN (h : WC W N' C c2 g v r) (k : Nat) : WC (W.drewN k) N' C c2 g v r := h.keep (below_drewN (Below.refl _ _) k) (Sam.refl _ _)
theorem StepQ.drewN {k : Nat} {q : Int × Dk} {e : Ending} {w' : World} (h : StepQ (W.drewN k) N C c p n q e w') : StepQ W N C c p n q e w' :=
  ⟨h.1, h.2.1, ⟨h.2.2.os, h.2.2.tape, h.2.2.output, h.2.2.size, h.2.2.block⟩⟩
set_option maxRecDepth 20000 in
set_option maxHeartbeats 1000000 in
theorem wlay_any (h : DC W N C c p n d) (hn : n + 2 < 1000000) (hw : WC W N' C c2 g v r) (hl : okName r.sc) (hb : r.by_.length ≤ 1048576) : Calls Tryz.prog 111 #[.pointer (some ⟨g, 0, none⟩), .pointer (some ⟨p, 0, none⟩)] W (StepQ W N C c p (n + 2) (d.append r.sc r.by_)) := by
  have c1 : W.cell? ⟨g, 1, none⟩ = some (.string (strB r.sc)) := (hw.blk.cell 1).trans rfl
  obtain ⟨A, cp, rfl, _, _, hrb⟩ := hw.own.form
  have c2' : W.cell? ⟨g, 2, none⟩ = some (.slice A r.by_.length cp) := (hw.blk.cell 2).trans rfl
  have HC := Lib.hid (fun k => append_c (dc_drewN h k) hn r.sc hl A r.by_.length cp r.by_ (hrb.drewN k) (by omega))
  clear h hw hrb
  go_enter Tryz.func111, Tryz.ntmps111
  go_upto_region 1 with fail
  go_region_with (go_at_call 47; refine (HC.out 1).mono ?_; intro e w3 hq; have h1 := hq.1; have HF := Lib.hid hq.drewN; subst h1; clear hq; go_wp2_with fail)
  all_goals (go_wp2_with fail; go_ret; exact HF.out)
set_option maxRecDepth 20000 in
set_option maxHeartbeats 1000000 in
theorem wtake_any (h : DC W N C c p n d) (hn : n + 2 < 1000000) (hw : WC W N' C c2 g v r) (hl : okName r.sc) (hl2 : okName r.nm) : Calls Tryz.prog 113 #[.pointer (some ⟨g, 0, none⟩), .pointer (some ⟨p, 0, none⟩)] W (StepQ W N C c p (n + 2) (d.rename r.sc r.nm)) := by
  have c0 : W.cell? ⟨g, 0, none⟩ = some (.string (strB r.nm)) := (hw.blk.cell 0).trans rfl
  have c1 : W.cell? ⟨g, 1, none⟩ = some (.string (strB r.sc)) := (hw.blk.cell 1).trans rfl
  have HC := Lib.hid (fun k => rename_c (dc_drewN h k) hn r.sc r.nm hl hl2)
  clear h hw
  go_enter Tryz.func113, Tryz.ntmps113
  go_upto_region 1 with fail
  go_region_with (go_at_call 51; refine (HC.out 1).mono ?_; intro e w3 hq; have h1 := hq.1; have HF := Lib.hid hq.drewN; subst h1; clear hq; go_wp2_with fail)
  all_goals (go_wp2_with fail; go_ret; exact HF.out)
end
/-- what Step answers, the disk and the writer behind it -/
noncomputable def Wr.step (r : Wr) (d : Dk) : (Bool × Int) × Dk × Wr :=
  if r.busy then ((decide ((r.op d).1 = 0) && decide (r.nx = 3), (r.op d).1), (r.op d).2, if (r.op d).1 ≠ 0 ∨ r.nx = 3 then ⟨r.nm, r.sc, [], false, r.nx + 1⟩ else ⟨r.nm, r.sc, r.by_, true, r.nx + 1⟩) else ((false, 0), d, r)
/-- what a writer keeps to -/
structure Wr.Ok (r : Wr) : Prop where
  nm : okName r.nm
  sc : okName r.sc
  len : r.by_.length ≤ 1048576
  nx : r.busy = true → r.nx ≤ 3
theorem Wr.Ok.step {r : Wr} (h : r.Ok) (d : Dk) : (r.step d).2.2.Ok := by
  unfold Wr.step
  cases hb : r.busy with
  | false => exact h
  | true =>
    have hx := h.nx hb
    simp only [if_true]
    by_cases h1 : (r.op d).1 ≠ 0 ∨ r.nx = 3
    · rw [if_pos h1]; exact ⟨h.nm, h.sc, by simp, fun e => by cases e⟩
    · rw [if_neg h1]; exact ⟨h.nm, h.sc, h.len, fun _ => by show r.nx + 1 ≤ 3; omega⟩
def StepW (W : World) (N N' : Nat) (C : Nat → Nat) (c c2 p n g : Nat) (q : (Bool × Int) × Dk × Wr) (e : Ending) (w' : World) : Prop :=
  e = .returned (.tuple #[.bool q.1.1, .int .i64 q.1.2]) ∧ DC w' N (paint C W.heap.size c) c p n q.2.1 ∧ (∃ v, WC w' N' (paint C W.heap.size c) c2 g v q.2.2) ∧ Chg (fun b => C b = c ∨ b = g) W w'
/-- the world in which steps has made its list -/
def stepsW (W : World) : World := W.alloc (.cells #[.func (.func 110) #[] #[], .func (.func 111) #[] #[], .func (.func 112) #[] #[], .func (.func 113) #[] #[]] 146)
set_option maxRecDepth 20000 in
theorem steps_any (W : World) : Calls Tryz.prog 70 #[] W fun e w' => e = .returned (.slice (some ⟨W.heap.size, 0, none⟩) 4 4) ∧ stepsW W = w' := by
  go_enter Tryz.func70, Tryz.ntmps70
  go_wp2_with fail
  refine bodyPost_ret (results_tmp rfl _ _ _) rfl ?_
  exact ⟨rfl, rfl⟩
theorem stepsW_blk (W : World) : Blk (stepsW W) W.heap.size 146 #[.func (.func 110) #[] #[], .func (.func 111) #[] #[], .func (.func 112) #[] #[], .func (.func 113) #[] #[]] := Blk.new W _ _ rfl
set_option maxRecDepth 20000 in
set_option maxHeartbeats 1000000 in
theorem wstep_idle (W : World) (N N' : Nat) (C : Nat → Nat) (c c2 p n g : Nat) (d : Dk) (v : Value) (r : Wr) (h : DC W N C c p n d) (hn : n + 2 < 1000000) (hw : WC W N' C c2 g v r) (hb : r.busy = false) : Calls Tryz.prog 21 #[.pointer (some ⟨g, 0, none⟩), .pointer (some ⟨p, 0, none⟩)] W (StepW W N N' C c c2 p (n + 2) g (r.step d)) := by
  have c3 : W.cell? ⟨g, 3, none⟩ = some (.bool false) := (hw.blk.cell 3).trans (by show some (Value.bool r.busy) = _; rw [hb])
  have HF : Hid (StepW W N N' C c c2 p (n + 2) g (r.step d) (.returned (.tuple #[.bool false, .int .i64 0])) W) := Lib.hid (by
    unfold Wr.step
    rw [hb, if_neg Bool.false_ne_true]
    exact ⟨rfl, (h.keep (Below.refl _ _) (sam_paint _ _ _)).more (by omega) hn, ⟨v, hw.keep (Below.refl _ _) (sam_paint _ _ _)⟩, Chg.refl _ _⟩)
  clear h hw hb
  go_enter Tryz.func21, Tryz.ntmps21
  go_wp2_with fail
  go_ret2
  exact HF.out
set_option maxRecDepth 20000 in
set_option maxHeartbeats 1000000 in
theorem wstep_empty (W : World) (N N' : Nat) (C : Nat → Nat) (c c2 p n g : Nat) (d : Dk) (v : Value) (r : Wr) (hcc : c2 ≠ c) (h : DC W N C c p n d) (hn : n + 2 < 1000000) (hw : WC W N' C c2 g v r) (ho : r.Ok) (hb : r.busy = true) (hx : r.nx = 0) : Calls Tryz.prog 21 #[.pointer (some ⟨g, 0, none⟩), .pointer (some ⟨p, 0, none⟩)] W (StepW W N N' C c c2 p (n + 2) g (r.step d)) := by
  have c3 : W.cell? ⟨g, 3, none⟩ = some (.bool true) := (hw.blk.cell 3).trans (by show some (Value.bool r.busy) = _; rw [hb])
  have c4 : W.cell? ⟨g, 4, none⟩ = some (.int .i64 0) := (hw.blk.cell 4).trans (by show some (Value.int .i64 (r.nx : Int)) = _; rw [hx]; rfl)
  have hop : r.op d = (if (d.stat r.sc).2 = 0 then d.cut r.sc else d.create r.sc) := by unfold Wr.op; rw [hx]; rfl
  obtain ⟨w1, hw1⟩ : ∃ w1, stepsW W = w1 := ⟨_, rfl⟩
  obtain ⟨b, hbb⟩ : ∃ b, b = W.heap.size := ⟨_, rfl⟩
  have HB : Hid (Below W.heap.size W w1) := Lib.hid (by rw [← hw1]; exact (Below.refl _ _).alloc (Nat.le_refl _) _)
  have CT := Lib.hid (steps_any W)
  rw [hw1, ← hbb] at CT
  have BKS := stepsW_blk W
  rw [hw1, ← hbb] at BKS
  have bk0 : w1.cell? ⟨b, 0, none⟩ = some (.func (.func 110) #[] #[]) := (BKS.cell 0).trans rfl
  clear hw1 hbb BKS
  have HD := Lib.hid (h.keep HB.out (sam_paint C W.heap.size c))
  have HW1 := Lib.hid (hw.keep HB.out (sam_paint C W.heap.size c))
  have HO := Lib.hid ho
  have HH := Lib.hid (And.intro hop (And.intro hb hx))
  have HW := Lib.hid hw
  have CC := Lib.hid (wempty_any HD.out hn HW1.out HO.out.sc)
  rw [← hop] at CC
  obtain ⟨rr, hrr⟩ : ∃ rr, rr = r.op d := ⟨_, rfl⟩
  rw [← hrr] at CC
  have HRR := Lib.hid hrr
  have HCC := Lib.hid hcc
  have d4 : w1.cell? ⟨g, 4, none⟩ = some (.int .i64 0) := ((hw.blk.keep HB.out).cell 4).trans (by show some (Value.int .i64 (r.nx : Int)) = _; rw [hx]; rfl)
  clear h hw ho hop hb hx hrr hcc c4
  go_enter Tryz.func21, Tryz.ntmps21
  go_wp2_with fail
  refine CT.out.mono ?_
  rintro e w1' ⟨rfl, rfl⟩
  go_wp2_with fail
  refine CC.out.mono ?_
  rintro e w2 ⟨rfl, hd2, hc2⟩
  have hc2' : Chg (fun b => C b = c) W w2 := (chg_paint (Chg.of_below HB.out (fun _ => False)) hc2).mono (fun _ _ e => e.elim (fun e => e.elim) id)
  rw [paint_paint C c HB.out.size] at hd2
  have HW2 := Lib.hid (HW.out.step hc2' (sam_paint C W.heap.size c) (fun b hb => by rw [hb]; exact HCC.out.symm))
  have HD2 := Lib.hid hd2
  have HC2 := Lib.hid hc2'
  clear hd2 hc2 hc2' c3 d4 CC CT bk0
  have e3 : w2.cell? ⟨g, 3, none⟩ = some (.bool true) := (HW2.out.blk.cell 3).trans (by show some (Value.bool r.busy) = _; rw [HH.out.2.1])
  have e4 : w2.cell? ⟨g, 4, none⟩ = some (.int .i64 0) := (HW2.out.blk.cell 4).trans (by show some (Value.int .i64 (r.nx : Int)) = _; rw [HH.out.2.2]; rfl)
  have e2 : w2.cell? ⟨g, 2, none⟩ = some v := (HW2.out.blk.cell 2).trans rfl
  have f2 : w2.frozen? ⟨g, 2, none⟩ = false := HW2.out.blk.frozen 2
  have f3 : w2.frozen? ⟨g, 3, none⟩ = false := HW2.out.blk.frozen 3
  have f4 : w2.frozen? ⟨g, 4, none⟩ = false := HW2.out.blk.frozen 4
  obtain ⟨en, hen⟩ : ∃ en, en = rr.1 := ⟨_, rfl⟩
  rw [← hen]
  have HEN := Lib.hid hen
  clear hen
  have fin : ∀ (w3 : World) (v3 : Value) (r3 : Wr), Chg (fun b => b = g) w2 w3 → Blk w3 g 141 (wcells r3 v3) → OB w2 N' v3 r3.by_ → (v3 = v ∨ v3 = .slice none 0 0) → (r.step d).2.2 = r3 → ∀ bb, (r.step d).1.1 = bb → StepW W N N' C c c2 p (n + 2) g (r.step d) (.returned (.tuple #[.bool bb, .int .i64 en])) w3 := fun w3 v3 r3 h1 h2 h3 h4 h5 bb h6 => by
    have hq : (r.step d).1.2 = en ∧ (r.step d).2.1 = rr.2 := by unfold Wr.step; rw [HH.out.2.1, if_pos rfl, HEN.out, HRR.out]; exact ⟨rfl, rfl⟩
    have hcol := HW2.out.col
    refine ⟨by rw [h6, hq.1], ?_, ⟨v3, ?_⟩, ?_⟩
    · rw [hq.2]
      exact HD2.out.step h1 (Sam.refl _ _) (fun b hb => by rw [hb, hcol.1]; exact HCC.out)
    · rw [h5]
      have hv : ∀ k, v3.ownBlock = some k → v.ownBlock = some k := fun k hk => by
        rcases h4 with rfl | rfl
        · exact hk
        · cases hk
      refine ⟨h2, h1.ob h3 (fun k hk e => ?_), HW.out.lo, hcol.1, fun k hk => hcol.2 k (hv k hk)⟩
      exact HW2.out.blk.apart HW2.out.own (by decide) (by rw [hv k hk, e])
    · exact (HC2.out.mono (fun _ _ e => .inl e)).trans h1 (fun _ _ e => .inr e)
  have FIN := Lib.hid fin
  clear fin
  by_cases he : en = 0
  · have hr : (r.step d).2.2 = ⟨r.nm, r.sc, r.by_, true, r.nx + 1⟩ ∧ (r.step d).1.1 = false := by
      unfold Wr.step
      rw [HH.out.2.1, if_pos rfl, if_neg (by rw [← HRR.out, ← HEN.out, HH.out.2.2]; omega), HH.out.2.2]
      exact ⟨rfl, by simp⟩
    have HF := Lib.hid (FIN.out _ v ⟨r.nm, r.sc, r.by_, true, r.nx + 1⟩ ((Chg.refl _ w2).set1 4 (.int .i64 1)) (by
      have := HW2.out.blk.set_ 4 (.int .i64 1)
      unfold wcells at this ⊢
      rw [HH.out.2.1] at this
      rw [HH.out.2.2]
      exact this) HW2.out.own (.inl rfl) hr.1 false hr.2)
    subst he
    clear hr
    go_wp2_with fail
    go_ret2
    exact HF.out
  · have hr : (r.step d).2.2 = ⟨r.nm, r.sc, [], false, r.nx + 1⟩ ∧ (r.step d).1.1 = false := by
      unfold Wr.step
      rw [HH.out.2.1, if_pos rfl, if_pos (.inl (by rw [← HRR.out, ← HEN.out]; exact he)), ← HRR.out, ← HEN.out, decide_eq_false he]
      exact ⟨rfl, rfl⟩
    have HF := Lib.hid (FIN.out _ (.slice none 0 0) ⟨r.nm, r.sc, [], false, r.nx + 1⟩ ((((Chg.refl _ w2).set1 4 (.int .i64 1)).set1 2 (.slice none 0 0)).set1 3 (.bool false)) (by
      have := ((HW2.out.blk.set_ 4 (.int .i64 1)).set_ 2 (.slice none 0 0)).set_ 3 (.bool false)
      unfold wcells at this ⊢
      rw [HH.out.2.2]
      exact this) (OB.nil _ _) (.inr rfl) hr.1 false hr.2)
    have heb : (en != 0) = true := by simpa using he
    have heb2 : (en == 0) = false := by simpa using he
    clear hr he
    go_wp2_with fail
    go_ret2
    exact HF.out
set_option maxRecDepth 20000 in
set_option maxHeartbeats 1000000 in
theorem wstep_lay (W : World) (N N' : Nat) (C : Nat → Nat) (c c2 p n g : Nat) (d : Dk) (v : Value) (r : Wr) (hcc : c2 ≠ c) (h : DC W N C c p n d) (hn : n + 2 < 1000000) (hw : WC W N' C c2 g v r) (ho : r.Ok) (hb : r.busy = true) (hx : r.nx = 1) : Calls Tryz.prog 21 #[.pointer (some ⟨g, 0, none⟩), .pointer (some ⟨p, 0, none⟩)] W (StepW W N N' C c c2 p (n + 2) g (r.step d)) := by
  have c3 : W.cell? ⟨g, 3, none⟩ = some (.bool true) := (hw.blk.cell 3).trans (by show some (Value.bool r.busy) = _; rw [hb])
  have c4 : W.cell? ⟨g, 4, none⟩ = some (.int .i64 1) := (hw.blk.cell 4).trans (by show some (Value.int .i64 (r.nx : Int)) = _; rw [hx]; rfl)
  have hop : r.op d = (d.append r.sc r.by_) := by unfold Wr.op; rw [hx]; rfl
  obtain ⟨w1, hw1⟩ : ∃ w1, stepsW W = w1 := ⟨_, rfl⟩
  obtain ⟨b, hbb⟩ : ∃ b, b = W.heap.size := ⟨_, rfl⟩
  have HB : Hid (Below W.heap.size W w1) := Lib.hid (by rw [← hw1]; exact (Below.refl _ _).alloc (Nat.le_refl _) _)
  have CT := Lib.hid (steps_any W)
  rw [hw1, ← hbb] at CT
  have BKS := stepsW_blk W
  rw [hw1, ← hbb] at BKS
  have bk1 : w1.cell? ⟨b, 1, none⟩ = some (.func (.func 111) #[] #[]) := (BKS.cell 1).trans rfl
  clear hw1 hbb BKS
  have HD := Lib.hid (h.keep HB.out (sam_paint C W.heap.size c))
  have HW1 := Lib.hid (hw.keep HB.out (sam_paint C W.heap.size c))
  have HO := Lib.hid ho
  have HH := Lib.hid (And.intro hop (And.intro hb hx))
  have HW := Lib.hid hw
  have CC := Lib.hid (wlay_any HD.out hn HW1.out HO.out.sc HO.out.len)
  rw [← hop] at CC
  obtain ⟨rr, hrr⟩ : ∃ rr, rr = r.op d := ⟨_, rfl⟩
  rw [← hrr] at CC
  have HRR := Lib.hid hrr
  have HCC := Lib.hid hcc
  have d4 : w1.cell? ⟨g, 4, none⟩ = some (.int .i64 1) := ((hw.blk.keep HB.out).cell 4).trans (by show some (Value.int .i64 (r.nx : Int)) = _; rw [hx]; rfl)
  clear h hw ho hop hb hx hrr hcc c4
  go_enter Tryz.func21, Tryz.ntmps21
  go_wp2_with fail
  refine CT.out.mono ?_
  rintro e w1' ⟨rfl, rfl⟩
  go_wp2_with fail
  refine CC.out.mono ?_
  rintro e w2 ⟨rfl, hd2, hc2⟩
  have hc2' : Chg (fun b => C b = c) W w2 := (chg_paint (Chg.of_below HB.out (fun _ => False)) hc2).mono (fun _ _ e => e.elim (fun e => e.elim) id)
  rw [paint_paint C c HB.out.size] at hd2
  have HW2 := Lib.hid (HW.out.step hc2' (sam_paint C W.heap.size c) (fun b hb => by rw [hb]; exact HCC.out.symm))
  have HD2 := Lib.hid hd2
  have HC2 := Lib.hid hc2'
  clear hd2 hc2 hc2' c3 d4 CC CT bk1
  have e3 : w2.cell? ⟨g, 3, none⟩ = some (.bool true) := (HW2.out.blk.cell 3).trans (by show some (Value.bool r.busy) = _; rw [HH.out.2.1])
  have e4 : w2.cell? ⟨g, 4, none⟩ = some (.int .i64 1) := (HW2.out.blk.cell 4).trans (by show some (Value.int .i64 (r.nx : Int)) = _; rw [HH.out.2.2]; rfl)
  have e2 : w2.cell? ⟨g, 2, none⟩ = some v := (HW2.out.blk.cell 2).trans rfl
  have f2 : w2.frozen? ⟨g, 2, none⟩ = false := HW2.out.blk.frozen 2
  have f3 : w2.frozen? ⟨g, 3, none⟩ = false := HW2.out.blk.frozen 3
  have f4 : w2.frozen? ⟨g, 4, none⟩ = false := HW2.out.blk.frozen 4
  obtain ⟨en, hen⟩ : ∃ en, en = rr.1 := ⟨_, rfl⟩
  rw [← hen]
  have HEN := Lib.hid hen
  clear hen
  have fin : ∀ (w3 : World) (v3 : Value) (r3 : Wr), Chg (fun b => b = g) w2 w3 → Blk w3 g 141 (wcells r3 v3) → OB w2 N' v3 r3.by_ → (v3 = v ∨ v3 = .slice none 0 0) → (r.step d).2.2 = r3 → ∀ bb, (r.step d).1.1 = bb → StepW W N N' C c c2 p (n + 2) g (r.step d) (.returned (.tuple #[.bool bb, .int .i64 en])) w3 := fun w3 v3 r3 h1 h2 h3 h4 h5 bb h6 => by
    have hq : (r.step d).1.2 = en ∧ (r.step d).2.1 = rr.2 := by unfold Wr.step; rw [HH.out.2.1, if_pos rfl, HEN.out, HRR.out]; exact ⟨rfl, rfl⟩
    have hcol := HW2.out.col
    refine ⟨by rw [h6, hq.1], ?_, ⟨v3, ?_⟩, ?_⟩
    · rw [hq.2]
      exact HD2.out.step h1 (Sam.refl _ _) (fun b hb => by rw [hb, hcol.1]; exact HCC.out)
    · rw [h5]
      have hv : ∀ k, v3.ownBlock = some k → v.ownBlock = some k := fun k hk => by
        rcases h4 with rfl | rfl
        · exact hk
        · cases hk
      refine ⟨h2, h1.ob h3 (fun k hk e => ?_), HW.out.lo, hcol.1, fun k hk => hcol.2 k (hv k hk)⟩
      exact HW2.out.blk.apart HW2.out.own (by decide) (by rw [hv k hk, e])
    · exact (HC2.out.mono (fun _ _ e => .inl e)).trans h1 (fun _ _ e => .inr e)
  have FIN := Lib.hid fin
  clear fin
  by_cases he : en = 0
  · have hr : (r.step d).2.2 = ⟨r.nm, r.sc, r.by_, true, r.nx + 1⟩ ∧ (r.step d).1.1 = false := by
      unfold Wr.step
      rw [HH.out.2.1, if_pos rfl, if_neg (by rw [← HRR.out, ← HEN.out, HH.out.2.2]; omega), HH.out.2.2]
      exact ⟨rfl, by simp⟩
    have HF := Lib.hid (FIN.out _ v ⟨r.nm, r.sc, r.by_, true, r.nx + 1⟩ ((Chg.refl _ w2).set1 4 (.int .i64 2)) (by
      have := HW2.out.blk.set_ 4 (.int .i64 2)
      unfold wcells at this ⊢
      rw [HH.out.2.1] at this
      rw [HH.out.2.2]
      exact this) HW2.out.own (.inl rfl) hr.1 false hr.2)
    subst he
    clear hr
    go_wp2_with fail
    go_ret2
    exact HF.out
  · have hr : (r.step d).2.2 = ⟨r.nm, r.sc, [], false, r.nx + 1⟩ ∧ (r.step d).1.1 = false := by
      unfold Wr.step
      rw [HH.out.2.1, if_pos rfl, if_pos (.inl (by rw [← HRR.out, ← HEN.out]; exact he)), ← HRR.out, ← HEN.out, decide_eq_false he]
      exact ⟨rfl, rfl⟩
    have HF := Lib.hid (FIN.out _ (.slice none 0 0) ⟨r.nm, r.sc, [], false, r.nx + 1⟩ ((((Chg.refl _ w2).set1 4 (.int .i64 2)).set1 2 (.slice none 0 0)).set1 3 (.bool false)) (by
      have := ((HW2.out.blk.set_ 4 (.int .i64 2)).set_ 2 (.slice none 0 0)).set_ 3 (.bool false)
      unfold wcells at this ⊢
      rw [HH.out.2.2]
      exact this) (OB.nil _ _) (.inr rfl) hr.1 false hr.2)
    have heb : (en != 0) = true := by simpa using he
    have heb2 : (en == 0) = false := by simpa using he
    clear hr he
    go_wp2_with fail
    go_ret2
    exact HF.out
set_option maxRecDepth 20000 in
set_option maxHeartbeats 1000000 in
theorem wstep_last (W : World) (N N' : Nat) (C : Nat → Nat) (c c2 p n g : Nat) (d : Dk) (v : Value) (r : Wr) (hcc : c2 ≠ c) (h : DC W N C c p n d) (hn : n + 2 < 1000000) (hw : WC W N' C c2 g v r) (ho : r.Ok) (hb : r.busy = true) (hx : r.nx = 2) : Calls Tryz.prog 21 #[.pointer (some ⟨g, 0, none⟩), .pointer (some ⟨p, 0, none⟩)] W (StepW W N N' C c c2 p (n + 2) g (r.step d)) := by
  have c3 : W.cell? ⟨g, 3, none⟩ = some (.bool true) := (hw.blk.cell 3).trans (by show some (Value.bool r.busy) = _; rw [hb])
  have c4 : W.cell? ⟨g, 4, none⟩ = some (.int .i64 2) := (hw.blk.cell 4).trans (by show some (Value.int .i64 (r.nx : Int)) = _; rw [hx]; rfl)
  have hop : r.op d = (d.sync r.sc) := by unfold Wr.op; rw [hx]; rfl
  obtain ⟨w1, hw1⟩ : ∃ w1, stepsW W = w1 := ⟨_, rfl⟩
  obtain ⟨b, hbb⟩ : ∃ b, b = W.heap.size := ⟨_, rfl⟩
  have HB : Hid (Below W.heap.size W w1) := Lib.hid (by rw [← hw1]; exact (Below.refl _ _).alloc (Nat.le_refl _) _)
  have CT := Lib.hid (steps_any W)
  rw [hw1, ← hbb] at CT
  have BKS := stepsW_blk W
  rw [hw1, ← hbb] at BKS
  have bk2 : w1.cell? ⟨b, 2, none⟩ = some (.func (.func 112) #[] #[]) := (BKS.cell 2).trans rfl
  clear hw1 hbb BKS
  have HD := Lib.hid (h.keep HB.out (sam_paint C W.heap.size c))
  have HW1 := Lib.hid (hw.keep HB.out (sam_paint C W.heap.size c))
  have HO := Lib.hid ho
  have HH := Lib.hid (And.intro hop (And.intro hb hx))
  have HW := Lib.hid hw
  have CC := Lib.hid (wlast_any HD.out hn HW1.out HO.out.sc)
  rw [← hop] at CC
  obtain ⟨rr, hrr⟩ : ∃ rr, rr = r.op d := ⟨_, rfl⟩
  rw [← hrr] at CC
  have HRR := Lib.hid hrr
  have HCC := Lib.hid hcc
  have d4 : w1.cell? ⟨g, 4, none⟩ = some (.int .i64 2) := ((hw.blk.keep HB.out).cell 4).trans (by show some (Value.int .i64 (r.nx : Int)) = _; rw [hx]; rfl)
  clear h hw ho hop hb hx hrr hcc c4
  go_enter Tryz.func21, Tryz.ntmps21
  go_wp2_with fail
  refine CT.out.mono ?_
  rintro e w1' ⟨rfl, rfl⟩
  go_wp2_with fail
  refine CC.out.mono ?_
  rintro e w2 ⟨rfl, hd2, hc2⟩
  have hc2' : Chg (fun b => C b = c) W w2 := (chg_paint (Chg.of_below HB.out (fun _ => False)) hc2).mono (fun _ _ e => e.elim (fun e => e.elim) id)
  rw [paint_paint C c HB.out.size] at hd2
  have HW2 := Lib.hid (HW.out.step hc2' (sam_paint C W.heap.size c) (fun b hb => by rw [hb]; exact HCC.out.symm))
  have HD2 := Lib.hid hd2
  have HC2 := Lib.hid hc2'
  clear hd2 hc2 hc2' c3 d4 CC CT bk2
  have e3 : w2.cell? ⟨g, 3, none⟩ = some (.bool true) := (HW2.out.blk.cell 3).trans (by show some (Value.bool r.busy) = _; rw [HH.out.2.1])
  have e4 : w2.cell? ⟨g, 4, none⟩ = some (.int .i64 2) := (HW2.out.blk.cell 4).trans (by show some (Value.int .i64 (r.nx : Int)) = _; rw [HH.out.2.2]; rfl)
  have e2 : w2.cell? ⟨g, 2, none⟩ = some v := (HW2.out.blk.cell 2).trans rfl
  have f2 : w2.frozen? ⟨g, 2, none⟩ = false := HW2.out.blk.frozen 2
  have f3 : w2.frozen? ⟨g, 3, none⟩ = false := HW2.out.blk.frozen 3
  have f4 : w2.frozen? ⟨g, 4, none⟩ = false := HW2.out.blk.frozen 4
  obtain ⟨en, hen⟩ : ∃ en, en = rr.1 := ⟨_, rfl⟩
  rw [← hen]
  have HEN := Lib.hid hen
  clear hen
  have fin : ∀ (w3 : World) (v3 : Value) (r3 : Wr), Chg (fun b => b = g) w2 w3 → Blk w3 g 141 (wcells r3 v3) → OB w2 N' v3 r3.by_ → (v3 = v ∨ v3 = .slice none 0 0) → (r.step d).2.2 = r3 → ∀ bb, (r.step d).1.1 = bb → StepW W N N' C c c2 p (n + 2) g (r.step d) (.returned (.tuple #[.bool bb, .int .i64 en])) w3 := fun w3 v3 r3 h1 h2 h3 h4 h5 bb h6 => by
    have hq : (r.step d).1.2 = en ∧ (r.step d).2.1 = rr.2 := by unfold Wr.step; rw [HH.out.2.1, if_pos rfl, HEN.out, HRR.out]; exact ⟨rfl, rfl⟩
    have hcol := HW2.out.col
    refine ⟨by rw [h6, hq.1], ?_, ⟨v3, ?_⟩, ?_⟩
    · rw [hq.2]
      exact HD2.out.step h1 (Sam.refl _ _) (fun b hb => by rw [hb, hcol.1]; exact HCC.out)
    · rw [h5]
      have hv : ∀ k, v3.ownBlock = some k → v.ownBlock = some k := fun k hk => by
        rcases h4 with rfl | rfl
        · exact hk
        · cases hk
      refine ⟨h2, h1.ob h3 (fun k hk e => ?_), HW.out.lo, hcol.1, fun k hk => hcol.2 k (hv k hk)⟩
      exact HW2.out.blk.apart HW2.out.own (by decide) (by rw [hv k hk, e])
    · exact (HC2.out.mono (fun _ _ e => .inl e)).trans h1 (fun _ _ e => .inr e)
  have FIN := Lib.hid fin
  clear fin
  by_cases he : en = 0
  · have hr : (r.step d).2.2 = ⟨r.nm, r.sc, r.by_, true, r.nx + 1⟩ ∧ (r.step d).1.1 = false := by
      unfold Wr.step
      rw [HH.out.2.1, if_pos rfl, if_neg (by rw [← HRR.out, ← HEN.out, HH.out.2.2]; omega), HH.out.2.2]
      exact ⟨rfl, by simp⟩
    have HF := Lib.hid (FIN.out _ v ⟨r.nm, r.sc, r.by_, true, r.nx + 1⟩ ((Chg.refl _ w2).set1 4 (.int .i64 3)) (by
      have := HW2.out.blk.set_ 4 (.int .i64 3)
      unfold wcells at this ⊢
      rw [HH.out.2.1] at this
      rw [HH.out.2.2]
      exact this) HW2.out.own (.inl rfl) hr.1 false hr.2)
    subst he
    clear hr
    go_wp2_with fail
    go_ret2
    exact HF.out
  · have hr : (r.step d).2.2 = ⟨r.nm, r.sc, [], false, r.nx + 1⟩ ∧ (r.step d).1.1 = false := by
      unfold Wr.step
      rw [HH.out.2.1, if_pos rfl, if_pos (.inl (by rw [← HRR.out, ← HEN.out]; exact he)), ← HRR.out, ← HEN.out, decide_eq_false he]
      exact ⟨rfl, rfl⟩
    have HF := Lib.hid (FIN.out _ (.slice none 0 0) ⟨r.nm, r.sc, [], false, r.nx + 1⟩ ((((Chg.refl _ w2).set1 4 (.int .i64 3)).set1 2 (.slice none 0 0)).set1 3 (.bool false)) (by
      have := ((HW2.out.blk.set_ 4 (.int .i64 3)).set_ 2 (.slice none 0 0)).set_ 3 (.bool false)
      unfold wcells at this ⊢
      rw [HH.out.2.2]
      exact this) (OB.nil _ _) (.inr rfl) hr.1 false hr.2)
    have heb : (en != 0) = true := by simpa using he
    have heb2 : (en == 0) = false := by simpa using he
    clear hr he
    go_wp2_with fail
    go_ret2
    exact HF.out
set_option maxRecDepth 20000 in
set_option maxHeartbeats 1000000 in
theorem wstep_take (W : World) (N N' : Nat) (C : Nat → Nat) (c c2 p n g : Nat) (d : Dk) (v : Value) (r : Wr) (hcc : c2 ≠ c) (h : DC W N C c p n d) (hn : n + 2 < 1000000) (hw : WC W N' C c2 g v r) (ho : r.Ok) (hb : r.busy = true) (hx : r.nx = 3) : Calls Tryz.prog 21 #[.pointer (some ⟨g, 0, none⟩), .pointer (some ⟨p, 0, none⟩)] W (StepW W N N' C c c2 p (n + 2) g (r.step d)) := by
  have c3 : W.cell? ⟨g, 3, none⟩ = some (.bool true) := (hw.blk.cell 3).trans (by show some (Value.bool r.busy) = _; rw [hb])
  have c4 : W.cell? ⟨g, 4, none⟩ = some (.int .i64 3) := (hw.blk.cell 4).trans (by show some (Value.int .i64 (r.nx : Int)) = _; rw [hx]; rfl)
  have hop : r.op d = (d.rename r.sc r.nm) := by unfold Wr.op; rw [hx]; rfl
  obtain ⟨w1, hw1⟩ : ∃ w1, stepsW W = w1 := ⟨_, rfl⟩
  obtain ⟨b, hbb⟩ : ∃ b, b = W.heap.size := ⟨_, rfl⟩
  have HB : Hid (Below W.heap.size W w1) := Lib.hid (by rw [← hw1]; exact (Below.refl _ _).alloc (Nat.le_refl _) _)
  have CT := Lib.hid (steps_any W)
  rw [hw1, ← hbb] at CT
  have BKS := stepsW_blk W
  rw [hw1, ← hbb] at BKS
  have bk3 : w1.cell? ⟨b, 3, none⟩ = some (.func (.func 113) #[] #[]) := (BKS.cell 3).trans rfl
  clear hw1 hbb BKS
  have HD := Lib.hid (h.keep HB.out (sam_paint C W.heap.size c))
  have HW1 := Lib.hid (hw.keep HB.out (sam_paint C W.heap.size c))
  have HO := Lib.hid ho
  have HH := Lib.hid (And.intro hop (And.intro hb hx))
  have HW := Lib.hid hw
  have CC := Lib.hid (wtake_any HD.out hn HW1.out HO.out.sc HO.out.nm)
  rw [← hop] at CC
  obtain ⟨rr, hrr⟩ : ∃ rr, rr = r.op d := ⟨_, rfl⟩
  rw [← hrr] at CC
  have HRR := Lib.hid hrr
  have HCC := Lib.hid hcc
  have d4 : w1.cell? ⟨g, 4, none⟩ = some (.int .i64 3) := ((hw.blk.keep HB.out).cell 4).trans (by show some (Value.int .i64 (r.nx : Int)) = _; rw [hx]; rfl)
  clear h hw ho hop hb hx hrr hcc c4
  go_enter Tryz.func21, Tryz.ntmps21
  go_wp2_with fail
  refine CT.out.mono ?_
  rintro e w1' ⟨rfl, rfl⟩
  go_wp2_with fail
  refine CC.out.mono ?_
  rintro e w2 ⟨rfl, hd2, hc2⟩
  have hc2' : Chg (fun b => C b = c) W w2 := (chg_paint (Chg.of_below HB.out (fun _ => False)) hc2).mono (fun _ _ e => e.elim (fun e => e.elim) id)
  rw [paint_paint C c HB.out.size] at hd2
  have HW2 := Lib.hid (HW.out.step hc2' (sam_paint C W.heap.size c) (fun b hb => by rw [hb]; exact HCC.out.symm))
  have HD2 := Lib.hid hd2
  have HC2 := Lib.hid hc2'
  clear hd2 hc2 hc2' c3 d4 CC CT bk3
  have e3 : w2.cell? ⟨g, 3, none⟩ = some (.bool true) := (HW2.out.blk.cell 3).trans (by show some (Value.bool r.busy) = _; rw [HH.out.2.1])
  have e4 : w2.cell? ⟨g, 4, none⟩ = some (.int .i64 3) := (HW2.out.blk.cell 4).trans (by show some (Value.int .i64 (r.nx : Int)) = _; rw [HH.out.2.2]; rfl)
  have e2 : w2.cell? ⟨g, 2, none⟩ = some v := (HW2.out.blk.cell 2).trans rfl
  have f2 : w2.frozen? ⟨g, 2, none⟩ = false := HW2.out.blk.frozen 2
  have f3 : w2.frozen? ⟨g, 3, none⟩ = false := HW2.out.blk.frozen 3
  have f4 : w2.frozen? ⟨g, 4, none⟩ = false := HW2.out.blk.frozen 4
  obtain ⟨en, hen⟩ : ∃ en, en = rr.1 := ⟨_, rfl⟩
  rw [← hen]
  have HEN := Lib.hid hen
  clear hen
  have fin : ∀ (w3 : World) (v3 : Value) (r3 : Wr), Chg (fun b => b = g) w2 w3 → Blk w3 g 141 (wcells r3 v3) → OB w2 N' v3 r3.by_ → (v3 = v ∨ v3 = .slice none 0 0) → (r.step d).2.2 = r3 → ∀ bb, (r.step d).1.1 = bb → StepW W N N' C c c2 p (n + 2) g (r.step d) (.returned (.tuple #[.bool bb, .int .i64 en])) w3 := fun w3 v3 r3 h1 h2 h3 h4 h5 bb h6 => by
    have hq : (r.step d).1.2 = en ∧ (r.step d).2.1 = rr.2 := by unfold Wr.step; rw [HH.out.2.1, if_pos rfl, HEN.out, HRR.out]; exact ⟨rfl, rfl⟩
    have hcol := HW2.out.col
    refine ⟨by rw [h6, hq.1], ?_, ⟨v3, ?_⟩, ?_⟩
    · rw [hq.2]
      exact HD2.out.step h1 (Sam.refl _ _) (fun b hb => by rw [hb, hcol.1]; exact HCC.out)
    · rw [h5]
      have hv : ∀ k, v3.ownBlock = some k → v.ownBlock = some k := fun k hk => by
        rcases h4 with rfl | rfl
        · exact hk
        · cases hk
      refine ⟨h2, h1.ob h3 (fun k hk e => ?_), HW.out.lo, hcol.1, fun k hk => hcol.2 k (hv k hk)⟩
      exact HW2.out.blk.apart HW2.out.own (by decide) (by rw [hv k hk, e])
    · exact (HC2.out.mono (fun _ _ e => .inl e)).trans h1 (fun _ _ e => .inr e)
  have FIN := Lib.hid fin
  clear fin
  by_cases he : en = 0
  · have hr : (r.step d).2.2 = ⟨r.nm, r.sc, [], false, r.nx + 1⟩ ∧ (r.step d).1.1 = true := by
      unfold Wr.step
      rw [HH.out.2.1, if_pos rfl, if_pos (.inr HH.out.2.2), ← HRR.out, ← HEN.out, HH.out.2.2, he]
      exact ⟨rfl, rfl⟩
    have HF := Lib.hid (FIN.out _ (.slice none 0 0) ⟨r.nm, r.sc, [], false, r.nx + 1⟩ ((((Chg.refl _ w2).set1 4 (.int .i64 4)).set1 2 (.slice none 0 0)).set1 3 (.bool false)) (by
      have := ((HW2.out.blk.set_ 4 (.int .i64 4)).set_ 2 (.slice none 0 0)).set_ 3 (.bool false)
      unfold wcells at this ⊢
      rw [HH.out.2.2]
      exact this) (OB.nil _ _) (.inr rfl) hr.1 true hr.2)
    subst he
    clear hr
    go_wp2_with fail
    go_ret2
    exact HF.out
  · have hr : (r.step d).2.2 = ⟨r.nm, r.sc, [], false, r.nx + 1⟩ ∧ (r.step d).1.1 = false := by
      unfold Wr.step
      rw [HH.out.2.1, if_pos rfl, if_pos (.inl (by rw [← HRR.out, ← HEN.out]; exact he)), ← HRR.out, ← HEN.out, decide_eq_false he]
      exact ⟨rfl, rfl⟩
    have HF := Lib.hid (FIN.out _ (.slice none 0 0) ⟨r.nm, r.sc, [], false, r.nx + 1⟩ ((((Chg.refl _ w2).set1 4 (.int .i64 4)).set1 2 (.slice none 0 0)).set1 3 (.bool false)) (by
      have := ((HW2.out.blk.set_ 4 (.int .i64 4)).set_ 2 (.slice none 0 0)).set_ 3 (.bool false)
      unfold wcells at this ⊢
      rw [HH.out.2.2]
      exact this) (OB.nil _ _) (.inr rfl) hr.1 false hr.2)
    have heb : (en != 0) = true := by simpa using he
    have heb2 : (en == 0) = false := by simpa using he
    clear hr he
    go_wp2_with fail
    go_ret2
    exact HF.out
theorem wstep_any (W : World) (N N' : Nat) (C : Nat → Nat) (c c2 p n g : Nat) (d : Dk) (v : Value) (r : Wr) (hcc : c2 ≠ c) (h : DC W N C c p n d) (hn : n + 2 < 1000000) (hw : WC W N' C c2 g v r) (ho : r.Ok) : Calls Tryz.prog 21 #[.pointer (some ⟨g, 0, none⟩), .pointer (some ⟨p, 0, none⟩)] W (StepW W N N' C c c2 p (n + 2) g (r.step d)) := by
  cases hb : r.busy with
  | false => exact wstep_idle W N N' C c c2 p n g d v r h hn hw hb
  | true =>
    have := ho.nx hb
    rcases (by omega : r.nx = 0 ∨ r.nx = 1 ∨ r.nx = 2 ∨ r.nx = 3) with hx | hx | hx | hx
    · exact wstep_empty W N N' C c c2 p n g d v r hcc h hn hw ho hb hx
    · exact wstep_lay W N N' C c c2 p n g d v r hcc h hn hw ho hb hx
    · exact wstep_last W N N' C c c2 p n g d v r hcc h hn hw ho hb hx
    · exact wstep_take W N N' C c c2 p n g d v r hcc h hn hw ho hb hx
end Go.Proofs.YtlojmmcagglpoaaGreat
