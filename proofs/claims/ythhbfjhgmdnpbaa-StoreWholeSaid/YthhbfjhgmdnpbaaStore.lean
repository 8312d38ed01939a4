/- THE WALKS of package store. -/
import Derived.Test.YthhbfjhgmdnpbaaDiskC
namespace Go.Proofs.Ythhbfjhgmdnpbaa
open Go.RowKit Go.Maps
theorem paint_paint (C : Nat → Nat) {h h' : Nat} (c : Nat) (hh : h ≤ h') : paint (paint C h c) h' c = paint C h c := by
  funext b
  by_cases h1 : b < h'
  · exact paint_old _ c h1
  · rw [paint_new _ c (by omega), paint_new C c (by omega)]
theorem chg_paint {S : Nat → Prop} {W w1 w2 : World} {C : Nat → Nat} {c : Nat} (h : Chg S W w1) (h2 : Chg (fun b => paint C W.heap.size c b = c) w1 w2) : Chg (fun b => S b ∨ C b = c) W w2 :=
  (h.mono (fun _ _ e => .inl e)).trans h2 (fun b hb e => .inr (by rwa [paint_old C c hb] at e))
theorem StepQ.behind {W w1 : World} {N : Nat} {C : Nat → Nat} {c p n : Nat} {r : Int × Dk} {e : Ending} {w' : World} (hb : Below W.heap.size W w1) (h : StepQ w1 N (paint C W.heap.size c) c p n r e w') : StepQ W N C c p n r e w' := by
  obtain ⟨h1, h2, h3⟩ := h
  rw [paint_paint C c hb.size] at h2
  exact ⟨h1, h2, (chg_paint (Chg.of_below hb (fun _ => False)) h3).mono (fun _ _ e => e.elim (fun e => e.elim) id)⟩
/-- a writer -/
structure Wr where
  nm : List UInt8
  sc : List UInt8
  by_ : List UInt8
  busy : Bool
  nx : Nat
def wcells (r : Wr) (v : Value) : Array Value := #[.string (strB r.nm), .string (strB r.sc), v, .bool r.busy, .int .i64 (r.nx : Int)]
structure WC (W : World) (N : Nat) (C : Nat → Nat) (c g : Nat) (v : Value) (r : Wr) : Prop where
  blk : Blk W g 80 (wcells r v)
  own : OB W N v r.by_
  lo : N ≤ g
  col : C g = c ∧ ∀ k, v.ownBlock = some k → C k = c
section
variable {W w' : World} {N : Nat} {C C' : Nat → Nat} {c g : Nat} {v : Value} {r : Wr}
theorem WC.step (h : WC W N C c g v r) {S : Nat → Prop} (hc : Chg S W w') (hs : Sam W.heap.size C C') (hS : ∀ b, S b → C b ≠ c) : WC w' N C' c g v r :=
  ⟨h.blk.chg hc (fun e => hS g e h.col.1), hc.ob h.own (fun k hk e => hS k e (h.col.2 k hk)), h.lo, by rw [hs g h.blk.lt]; exact h.col.1, fun k hk => by rw [hs k (h.own.lt k hk).2]; exact h.col.2 k hk⟩
theorem WC.keep (h : WC W N C c g v r) (hb : Below W.heap.size W w') (hs : Sam W.heap.size C C') : WC w' N C' c g v r := h.step (Chg.of_below hb (fun _ => False)) hs (fun _ h => h.elim)
end
noncomputable def Dk.load (d : Dk) (nm : List UInt8) : List UInt8 × Int := if mayB nm = true then (match d.file nm with | none => ([], 141) | some (_, x) => (x.by_, 0)) else ([], 140)
theorem Dk.Ok.file_some {d : Dk} {n : Nat} (_h : d.Ok n) {nm : List UInt8} {i : Int} {x : Fl} (hf : d.file nm = some (i, x)) : d.ns nm = some i ∧ d.fs i = some x := by
  unfold Dk.file at hf
  cases hi : d.ns nm with
  | none => rw [hi] at hf; cases hf
  | some j =>
    rw [hi] at hf
    cases hx : d.fs j with
    | none => simp [hx] at hf
    | some y =>
      simp [hx] at hf
      exact ⟨by rw [hf.1], by rw [← hf.1, ← hf.2]; exact hx⟩
set_option maxRecDepth 20000 in
set_option maxHeartbeats 1000000 in
theorem load_c {W : World} {N : Nat} {C : Nat → Nat} {c p n : Nat} {d : Dk} (h : DC W N C c p n d) (nm : List UInt8) (hl : okName nm) : Calls Try.prog 12 #[.pointer (some ⟨p, 0, none⟩), .string (strB nm)] W (BytesQ W (d.load nm)) := by
  have CS := Lib.hid (stat_c h nm hl)
  have H := Lib.hid h
  clear h
  have hst : d.stat nm = (statV 0 0 0 0, 140) ∧ d.load nm = ([], 140) ∨ d.stat nm = (statV 0 0 0 0, 141) ∧ d.load nm = ([], 141) ∨ ∃ i x, d.fs i = some x ∧ okInt i ∧ d.stat nm = (statV i ((d.se nm).getD 0) (x.ge : Int) (x.by_.length : Int), 0) ∧ d.load nm = (x.by_, 0) := by
    unfold Dk.stat Dk.load
    by_cases hm : mayB nm = true
    · rw [if_pos hm, if_pos hm]
      cases hf : d.file nm with
      | none => exact .inr (.inl ⟨rfl, rfl⟩)
      | some ix =>
        obtain ⟨i, x⟩ := ix
        obtain ⟨h1, h2⟩ := H.out.ok.file_some hf
        exact .inr (.inr ⟨i, x, h2, H.out.ok.okInt nm i h1, rfl, rfl⟩)
    · rw [if_neg hm, if_neg hm]; exact .inl ⟨rfl, rfl⟩
  go_enter Try.func12, Try.ntmps12
  go_wp2_with fail
  refine CS.out.mono ?_
  rintro e w1 ⟨he, hb⟩
  have HB := Lib.hid hb
  clear CS hb
  rcases hst with ⟨h1, h2⟩ | ⟨h1, h2⟩ | ⟨i, x, hx, hi, h1, h2⟩
  · rw [h1] at he
    unfold statV at he
    subst he
    have HF : Hid (BytesQ W (d.load nm) (.returned (.tuple #[.slice none 0 0, .int .i64 140])) (w1.alloc (.cells #[.int .i64 0, .int .i64 0, .int .i64 0, .int .i64 0] 42))) := Lib.hid (by rw [h2]; exact ⟨_, rfl, OB.nil _ _, HB.out.alloc HB.out.size _⟩)
    clear h1 h2
    go_wp2_with fail
    go_ret2
    exact HF.out
  · rw [h1] at he
    unfold statV at he
    subst he
    have HF : Hid (BytesQ W (d.load nm) (.returned (.tuple #[.slice none 0 0, .int .i64 141])) (w1.alloc (.cells #[.int .i64 0, .int .i64 0, .int .i64 0, .int .i64 0] 42))) := Lib.hid (by rw [h2]; exact ⟨_, rfl, OB.nil _ _, HB.out.alloc HB.out.size _⟩)
    clear h1 h2
    go_wp2_with fail
    go_ret2
    exact HF.out
  · rw [h1] at he
    unfold statV at he
    subst he
    have hlen := H.out.ok.len i x hx
    have HR := Lib.hid (fun (w2 : World) (hw : Below W.heap.size W w2) => read_c (H.out.keep hw (Sam.refl _ _)) i (x.ge : Int) 0 (x.by_.length : Int) hi ⟨by decide, by decide⟩ ⟨by omega, by omega⟩)
    have HLD := Lib.hid h2
    have HRD : Hid (d.read i (x.ge : Int) 0 (x.by_.length : Int) = (x.by_, 0)) := Lib.hid (by
      unfold Dk.read
      rw [if_neg (by omega), hx]
      simp)
    obtain ⟨sv, hsv⟩ : ∃ sv : Int, sv = (d.se nm).getD 0 := ⟨_, rfl⟩
    obtain ⟨m, hm⟩ : ∃ m : Int, m = (x.by_.length : Int) := ⟨_, rfl⟩
    obtain ⟨ge, hge⟩ : ∃ ge : Int, ge = (x.ge : Int) := ⟨_, rfl⟩
    rw [← hsv, ← hm, ← hge]
    rw [← hm, ← hge] at HR HRD
    clear h1 h2 hsv hm hge hlen hx
    go_wp2_with fail
    refine (HR.out _ (HB.out.alloc HB.out.size _)).mono ?_
    rw [HRD.out]
    rintro e w3 ⟨v, rfl, ho, hb3⟩
    have HF : Hid (BytesQ W (d.load nm) (.returned (.tuple #[v, .int .i64 0])) w3) := Lib.hid (by rw [HLD.out]; exact ⟨v, rfl, ho.less (by have := HB.out.size; simp; omega), (HB.out.alloc HB.out.size _).trans (hb3.mono (by have := HB.out.size; simp; omega))⟩)
    clear ho hb3
    go_wp2_with fail
    go_ret2
    exact HF.out
set_option maxRecDepth 20000 in
set_option maxHeartbeats 1000000 in
theorem smay_any (W : World) (nm : List UInt8) (hl : okName nm) : Calls Try.prog 29 #[.string (strB nm)] W fun e w' => e = .returned (.bool (mayB nm)) ∧ Below W.heap.size W w' := by
  have CN := Lib.hid (new_c W (fun _ => 0) 0)
  have hst : ∃ k : Int, emptyD.stat nm = (statV 0 0 0 0, k) ∧ ((k != 140) = mayB nm) := by
    unfold Dk.stat
    by_cases hm : mayB nm = true
    · rw [if_pos hm]
      have : emptyD.file nm = none := rfl
      rw [this, hm]
      exact ⟨141, rfl, by decide⟩
    · rw [if_neg hm]
      have : mayB nm = false := by simpa using hm
      rw [this]
      exact ⟨140, rfl, by decide⟩
  obtain ⟨k, hk, hkm⟩ := hst
  rw [← hkm]
  go_enter Try.func29, Try.ntmps29
  go_wp2_with fail
  refine CN.out.mono ?_
  rintro e w1 ⟨p, rfl, hp, hd, hb⟩
  have CS := Lib.hid (stat_c hd nm hl)
  have HB := Lib.hid hb
  rw [hk] at CS
  unfold statV AskQ at CS
  clear hd hb hk hkm CN hp
  go_wp2_with fail
  refine CS.out.mono ?_
  rintro e w2 ⟨rfl, hb2⟩
  have HB2 : Hid (Below W.heap.size W (w2.alloc (.cells #[.int .i64 0, .int .i64 0, .int .i64 0, .int .i64 0] 42))) := Lib.hid ((HB.out.trans (hb2.mono HB.out.size)).alloc (Nat.le_trans HB.out.size hb2.size) _)
  clear hb2 CS
  simp only
  go_wp2_with fail
  go_ret
  exact ⟨rfl, HB2.out⟩
open Classical in
noncomputable def newE (nm sc : List UInt8) : Int := if (mayB nm && mayB sc) = true then (if nm = sc then 1 else 0) else 140
def NewSQ (W : World) (C : Nat → Nat) (c : Nat) (nm sc : List UInt8) (e : Ending) (w' : World) : Prop :=
  Below W.heap.size W w' ∧ ((newE nm sc ≠ 0 ∧ e = .returned (.tuple #[.pointer none, .int .i64 (newE nm sc)])) ∨ (newE nm sc = 0 ∧ ∃ g, e = .returned (.tuple #[.pointer (some ⟨g, 0, none⟩), .int .i64 0]) ∧ WC w' W.heap.size (paint C W.heap.size c) c g (.slice none 0 0) ⟨nm, sc, [], false, 0⟩))
set_option maxRecDepth 20000 in
set_option maxHeartbeats 1000000 in
theorem snew_any (W : World) (C : Nat → Nat) (c : Nat) (nm sc : List UInt8) (hl : okName nm) (hl2 : okName sc) : Calls Try.prog 13 #[.string (strB nm), .string (strB sc)] W (NewSQ W C c nm sc) := by
  have C1 := Lib.hid (smay_any W nm hl)
  have C2 := Lib.hid (fun w => smay_any w sc hl2)
  have hcmp := strB_beq nm sc
  go_enter Try.func13, Try.ntmps13
  cases hb1 : mayB nm with
  | false =>
    rw [hb1] at C1
    have HE : Hid (newE nm sc = 140) := Lib.hid (by unfold newE; rw [hb1]; rfl)
    go_wp2_with fail
    refine C1.out.mono ?_
    rintro e w1 ⟨rfl, hb⟩
    have HF : Hid (NewSQ W C c nm sc (.returned (.tuple #[.pointer none, .int .i64 140])) w1) := Lib.hid ⟨hb, .inl ⟨by rw [HE.out]; decide, by rw [HE.out]⟩⟩
    clear hb
    go_wp2_with fail
    go_ret2
    exact HF.out
  | true =>
    rw [hb1] at C1
    go_wp2_with fail
    refine C1.out.mono ?_
    rintro e w1 ⟨rfl, hb⟩
    have HB := Lib.hid hb
    clear hb
    cases hb2 : mayB sc with
    | false =>
      rw [hb2] at C2
      have HE : Hid (newE nm sc = 140) := Lib.hid (by unfold newE; rw [hb1, hb2]; rfl)
      clear hb1 hb2
      go_wp2_with fail
      refine (C2.out w1).mono ?_
      rintro e w2 ⟨rfl, hb⟩
      have HF : Hid (NewSQ W C c nm sc (.returned (.tuple #[.pointer none, .int .i64 140])) w2) := Lib.hid ⟨HB.out.trans (hb.mono HB.out.size), .inl ⟨by rw [HE.out]; decide, by rw [HE.out]⟩⟩
      clear hb
      go_wp2_with fail
      go_ret2
      exact HF.out
    | true =>
      rw [hb2] at C2
      have HE : Hid (newE nm sc = if nm = sc then 1 else 0) := Lib.hid (by unfold newE; rw [hb1, hb2]; rfl)
      clear hb1 hb2
      go_wp2_with fail
      refine (C2.out w1).mono ?_
      rintro e w2 ⟨rfl, hb⟩
      have HB2 : Hid (Below W.heap.size W w2) := Lib.hid (HB.out.trans (hb.mono HB.out.size))
      clear hb
      by_cases he : nm = sc
      · rw [decide_eq_true he] at hcmp
        have HF : Hid (NewSQ W C c nm sc (.returned (.tuple #[.pointer none, .int .i64 1])) w2) := Lib.hid ⟨HB2.out, .inl ⟨by rw [HE.out, if_pos he]; decide, by rw [HE.out, if_pos he]⟩⟩
        clear he
        go_wp2_with fail
        go_ret2
        exact HF.out
      · rw [decide_eq_false he] at hcmp
        have HF : Hid (NewSQ W C c nm sc (.returned (.tuple #[.pointer (some ⟨w2.heap.size, 0, none⟩), .int .i64 0])) (w2.alloc (.cells #[.string (strB nm), .string (strB sc), .slice none 0 0, .bool false, .int .i64 0] 80))) := Lib.hid
          ⟨HB2.out.alloc HB2.out.size _, .inr ⟨by rw [HE.out, if_neg he], w2.heap.size, rfl, ⟨Blk.new _ _ _ rfl, OB.nil _ _, HB2.out.size, paint_new C c HB2.out.size, fun k hk => by cases hk⟩⟩⟩
        clear he
        go_wp2_with fail
        go_ret2
        exact HF.out
end Go.Proofs.Ythhbfjhgmdnpbaa
