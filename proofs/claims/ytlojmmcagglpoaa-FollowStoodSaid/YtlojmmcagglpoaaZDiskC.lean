/- A disk whose blocks bear one colour: the frame of great states. -/
import Derived.Test.YtlojmmcagglpoaaZDiskBad
import Derived.Test.YtlojmmcagglpoaaZDiskCreate
import Derived.Test.YtlojmmcagglpoaaZMayAll
namespace Go.Proofs.Ytlojmmcagglpoaa
open Go.RowKit Go.Maps
def Sam (h : Nat) (C C' : Nat → Nat) : Prop := ∀ b, b < h → C' b = C b
theorem Sam.refl (h : Nat) (C : Nat → Nat) : Sam h C C := fun _ _ => rfl
theorem Sam.trans {h h' : Nat} {C C' C'' : Nat → Nat} (a : Sam h C C') (b : Sam h' C' C'') (hh : h ≤ h') : Sam h C C'' := fun k hk => (b k (by omega)).trans (a k hk)
theorem Sam.mono {h h' : Nat} {C C' : Nat → Nat} (a : Sam h C C') (hh : h' ≤ h) : Sam h' C C' := fun k hk => a k (by omega)
/-- all that is new bears colour c -/
def paint (C : Nat → Nat) (h : Nat) (c : Nat) : Nat → Nat := fun b => if b < h then C b else c
theorem sam_paint (C : Nat → Nat) (h : Nat) (c : Nat) : Sam h C (paint C h c) := fun _ hb => if_pos hb
theorem paint_new (C : Nat → Nat) {h b : Nat} (c : Nat) (hb : h ≤ b) : paint C h c b = c := if_neg (by omega)
theorem paint_old (C : Nat → Nat) {h b : Nat} (c : Nat) (hb : b < h) : paint C h c b = C b := if_pos hb
/-- a disk's blocks -/
def Own (W : World) (p bf bn bs : Nat) (fl : Int → Option Nat) (b : Nat) : Prop := b = p ∨ b = bf ∨ b = bn ∨ b = bs ∨ ∃ i g, fl i = some g ∧ (b = g ∨ bytesAt W g b)
section
variable {W w' : World} {N p q : Nat} {d : Dk} {bf bn bs : Nat} {fl : Int → Option Nat}
theorem DW.own_lt (h : DW W N p q d bf bn bs fl) {b : Nat} (hb : Own W p bf bn bs fl b) : b < W.heap.size := by
  rcases hb with rfl | rfl | rfl | rfl | ⟨i, g, hg, rfl | hk⟩
  · exact h.bd.lt
  · exact h.mf.lt
  · exact h.mn.lt
  · exact h.ms.lt
  · obtain ⟨x, _, _, hx⟩ := h.at_ hg
    exact hx.lt
  · obtain ⟨x, _, _, hx⟩ := h.at_ hg
    obtain ⟨v, _, ho, hv⟩ := hx.bytes
    exact (ho.lt b ((hv b).1 hk)).2
theorem DW.own_lo (h : DW W N p q d bf bn bs fl) {b : Nat} (hb : Own W p bf bn bs fl b) : N ≤ b := by
  rcases hb with rfl | rfl | rfl | rfl | ⟨i, g, hg, rfl | hk⟩
  · exact h.lo.1
  · exact h.lo.2.1
  · exact h.lo.2.2.1
  · exact h.lo.2.2.2.1
  · obtain ⟨x, _, hn, _⟩ := h.at_ hg
    exact hn
  · obtain ⟨x, _, _, hx⟩ := h.at_ hg
    obtain ⟨v, _, ho, hv⟩ := hx.bytes
    exact (ho.lt b ((hv b).1 hk)).1
theorem DW.chg (h : DW W N p q d bf bn bs fl) {S : Nat → Prop} (hc : Chg S W w') (hS : ∀ b, Own W p bf bn bs fl b → ¬ S b) : DW w' N p q d bf bn bs fl ∧ ∀ b, Own w' p bf bn bs fl b → Own W p bf bn bs fl b := by
  have hg : ∀ {i g}, fl i = some g → ¬ S g := fun {i g} hi => hS g (.inr (.inr (.inr (.inr ⟨i, g, hi, .inl rfl⟩))))
  have hk : ∀ {i g}, fl i = some g → ∀ k, bytesAt w' g k → bytesAt W g k := fun {i g} hi k hk => by
    obtain ⟨x, _, _, hx⟩ := h.at_ hi
    obtain ⟨u, h1, h2⟩ := hk
    rw [hc.cell (p := ⟨g, 1, none⟩) hx.lt (hg hi)] at h1
    exact ⟨u, h1, h2⟩
  refine ⟨⟨h.bd.chg hc (hS _ (.inl rfl)), h.mf.chg hc (hS _ (.inr (.inl rfl))), h.mn.chg hc (hS _ (.inr (.inr (.inl rfl)))), h.ms.chg hc (hS _ (.inr (.inr (.inr (.inl rfl))))), h.lo, h.hf, fun i g x hi hx => ?_, h.ap, fun i j g g' k hi hj h1 h2 => h.ab i j g g' k hi hj (hk hi k h1) (hk hj k h2)⟩, fun b hb => ?_⟩
  · obtain ⟨hn, hf⟩ := h.fw i g x hi hx
    obtain ⟨v, h1, h2, h3⟩ := hf.bytes
    exact ⟨hn, v, h1.chg hc (hg hi), hc.ob h2 (fun k hk => hS k (.inr (.inr (.inr (.inr ⟨i, g, hi, .inr ((h3 k).2 hk)⟩)))))⟩
  · rcases hb with rfl | rfl | rfl | rfl | ⟨i, g, hi, rfl | h1⟩
    · exact .inl rfl
    · exact .inr (.inl rfl)
    · exact .inr (.inr (.inl rfl))
    · exact .inr (.inr (.inr (.inl rfl)))
    · exact .inr (.inr (.inr (.inr ⟨i, _, hi, .inl rfl⟩)))
    · exact .inr (.inr (.inr (.inr ⟨i, g, hi, .inr (hk hi b h1)⟩)))
end
/-- a disk of colour c -/
structure DC (W : World) (N : Nat) (C : Nat → Nat) (c p n : Nat) (d : Dk) : Prop where
  ok : d.Ok n
  dw : ∃ bf bn bs fl, DW W N p n d bf bn bs fl ∧ ∀ b, Own W p bf bn bs fl b → C b = c
section
variable {W w' : World} {N : Nat} {C C' : Nat → Nat} {c p n n' : Nat} {d : Dk}
theorem DC.step (h : DC W N C c p n d) {S : Nat → Prop} (hc : Chg S W w') (hs : Sam W.heap.size C C') (hS : ∀ b, S b → C b ≠ c) : DC w' N C' c p n d := by
  obtain ⟨h0, bf, bn, bs, fl, h1, h2⟩ := h
  obtain ⟨h3, h4⟩ := h1.chg hc (fun b hb hs => hS b hs (h2 b hb))
  exact ⟨h0, bf, bn, bs, fl, h3, fun b hb => by rw [hs b (h1.own_lt (h4 b hb))]; exact h2 b (h4 b hb)⟩
theorem DC.keep (h : DC W N C c p n d) (hb : Below W.heap.size W w') (hs : Sam W.heap.size C C') : DC w' N C' c p n d := h.step (Chg.of_below hb (fun _ => False)) hs (fun _ h => h.elim)
theorem DC.size (h : DC W N C c p n d) : p < W.heap.size := by
  obtain ⟨_, bf, bn, bs, fl, h1, _⟩ := h
  exact h1.bd.lt
theorem DC.more (h : DC W N C c p n d) (hn : n ≤ n') (hb : n' < 1000000) : DC W N C c p n' d := by
  obtain ⟨h0, bf, bn, bs, fl, h1, h2⟩ := h
  exact ⟨h0.more hn hb, bf, bn, bs, fl, ⟨h1.bd, h1.mf.mono hn, h1.mn.mono hn, h1.ms.mono hn, h1.lo, h1.hf, h1.fw, h1.ap, h1.ab⟩, h2⟩
/-- behind a call that changes the disk -/
theorem DC.of {bf bn bs : Nat} {fl fl' : Int → Option Nat} {d' : Dk} {q' : Nat} {S : Nat → Prop} (h1 : DW W N p n d bf bn bs fl) (h2 : ∀ b, Own W p bf bn bs fl b → C b = c) (hok : d'.Ok n') (hq : q' ≤ n') (hd : DW w' N p q' d' bf bn bs fl') (hc : Chg S W w') (hS : ∀ b, S b → b < W.heap.size → Own W p bf bn bs fl b) (hg : Gr W fl w' fl') :
    DC w' N (paint C W.heap.size c) c p n' d' ∧ Chg (fun b => C b = c) W w' := by
  refine ⟨⟨hok, bf, bn, bs, fl', ⟨hd.bd, hd.mf.mono hq, hd.mn.mono hq, hd.ms.mono hq, hd.lo, hd.hf, hd.fw, hd.ap, hd.ab⟩, fun b hb => ?_⟩, hc.mono (fun b hb hs => h2 b (hS b hs hb))⟩
  by_cases hlt : b < W.heap.size
  · rw [paint_old C c hlt]
    refine h2 b ?_
    rcases hb with rfl | rfl | rfl | rfl | ⟨i, g, hi, hbg⟩
    · exact .inl rfl
    · exact .inr (.inl rfl)
    · exact .inr (.inr (.inl rfl))
    · exact .inr (.inr (.inr (.inl rfl)))
    · rcases hg i g hi with ⟨h3, h4⟩ | ⟨h3, h4⟩
      · rcases hbg with rfl | hk
        · exact .inr (.inr (.inr (.inr ⟨i, _, h3, .inl rfl⟩)))
        · rcases h4 b hk with h5 | h5
          · exact .inr (.inr (.inr (.inr ⟨i, g, h3, .inr h5⟩)))
          · omega
      · rcases hbg with rfl | hk
        · omega
        · have := h4 b hk; omega
  · exact paint_new C c (by omega)
end
/-- a name's file -/
def Dk.file (d : Dk) (nm : List UInt8) : Option (Int × Fl) := (d.ns nm).bind fun i => (d.fs i).map fun x => (i, x)
theorem Dk.Ok.file {d : Dk} {n : Nat} (h : d.Ok n) {nm : List UInt8} {i : Int} (hi : d.ns nm = some i) : ∃ x, d.fs i = some x ∧ x.nm = nm ∧ d.file nm = some (i, x) := by
  obtain ⟨x, hx, hn⟩ := h.at_ nm i hi
  exact ⟨x, hx, hn, by unfold Dk.file; rw [hi]; simp [hx]⟩
theorem Dk.file_none {d : Dk} {nm : List UInt8} (hi : d.ns nm = none) : d.file nm = none := by unfold Dk.file; rw [hi]; rfl
/-! ### What each call answers, and the disk behind it -/
noncomputable def Dk.create (d : Dk) (nm : List UInt8) : Int × Dk := if mayB nm = true then (match d.ns nm with | some _ => (142, d) | none => (0, d.made nm)) else (140, d)
noncomputable def Dk.append (d : Dk) (nm l : List UInt8) : Int × Dk := if mayB nm = true then (match d.file nm with | none => (141, d) | some (i, x) => if 1048576 < x.by_.length + l.length then (145, d) else (0, d.app i x l)) else (140, d)
noncomputable def Dk.edits (d : Dk) (nm : List UInt8) (f : Fl → Fl) : Int × Dk := if mayB nm = true then (match d.file nm with | none => (141, d) | some (i, x) => (0, d.edit i (f x))) else (140, d)
noncomputable def Dk.cut (d : Dk) (nm : List UInt8) : Int × Dk := d.edits nm (fun x => x.kept 0)
noncomputable def Dk.sync (d : Dk) (nm : List UInt8) : Int × Dk := d.edits nm (fun x => { x with la := x.by_.length })
noncomputable def Dk.remove (d : Dk) (nm : List UInt8) : Int × Dk := if mayB nm = true then (match d.ns nm with | none => (141, d) | some i => (0, d.less nm i)) else (140, d)
open Classical in
noncomputable def Dk.rename (d : Dk) (old other : List UInt8) : Int × Dk := if (mayB old && mayB other) = true then (match d.file old with | none => (141, d) | some (i, x) => if old = other then (0, d) else (0, d.ren old other i x)) else (140, d)
noncomputable def Dk.stat (d : Dk) (nm : List UInt8) : Value × Int := if mayB nm = true then (match d.file nm with | none => (statV 0 0 0 0, 141) | some (i, x) => (statV i ((d.se nm).getD 0) (x.ge : Int) (x.by_.length : Int), 0)) else (statV 0 0 0 0, 140)
def Dk.inode (d : Dk) (i : Int) : Value × Int := match d.fs i with | none => (statV 0 0 0 0, 143) | some x => (statV i ((d.se x.nm).getD 0) (x.ge : Int) (x.by_.length : Int), 0)
open Classical in
noncomputable def Dk.read (d : Dk) (i gen off size : Int) : List UInt8 × Int := if off < 0 ∨ size < 0 then ([], 1) else match d.fs i with | none => ([], 143) | some x => if (x.ge : Int) ≠ gen then ([], 144) else ((x.by_.drop off.toNat).take size.toNat, 0)
def StepQ (W : World) (N : Nat) (C : Nat → Nat) (c p n : Nat) (r : Int × Dk) (e : Ending) (w' : World) : Prop :=
  e = .returned (.int .i64 r.1) ∧ DC w' N (paint C W.heap.size c) c p n r.2 ∧ Chg (fun b => C b = c) W w'
section
variable {W : World} {N : Nat} {C : Nat → Nat} {c p n : Nat} {d : Dk}
theorem StepQ.same (h : DC W N C c p n d) (hn : n + 2 < 1000000) {v : Int} {e : Ending} {w' : World} (he : e = .returned (.int .i64 v)) (hb : Below W.heap.size W w') : StepQ W N C c p (n + 2) (v, d) e w' :=
  ⟨he, (h.keep hb (sam_paint _ _ _)).more (by omega) hn, Chg.of_below hb _⟩
theorem create_c (h : DC W N C c p n d) (hn : n + 2 < 1000000) (nm : List UInt8) (hl : okName nm) : Calls Try.prog 12 #[.pointer (some ⟨p, 0, none⟩), .string (strB nm)] W (StepQ W N C c p (n + 2) (d.create nm)) := by
  have hm := may_any nm
  unfold Dk.create
  cases hb : mayB nm with
  | false =>
    rw [hb] at hm
    exact (create_bad p nm hm).mono fun e w' ⟨h1, h2⟩ => .same h hn h1 h2
  | true =>
    rw [hb] at hm
    obtain ⟨bf, bn, bs, fl, h1, h2⟩ := h.dw
    refine (create_any h1 h.ok nm hl hm hn hn).mono ?_
    rintro e w' (⟨i, hi, he, hb⟩ | ⟨hi, he, g, hg, hd, hc, hgr⟩)
    · rw [if_pos rfl, hi]; exact .same h hn he hb
    · rw [if_pos rfl, hi]
      exact ⟨he, DC.of h1 h2 (h.ok.made hn hi hl) (Nat.le_refl _) hd hc (fun b hb _ => by
        rcases hb with e | e | e | e
        · exact .inl e
        · exact .inr (.inl e)
        · exact .inr (.inr (.inl e))
        · exact .inr (.inr (.inr (.inl e)))) hgr⟩
theorem append_c (h : DC W N C c p n d) (hn : n + 2 < 1000000) (nm : List UInt8) (hl : okName nm) (A : Option Addr) (m cp : Nat) (l : List UInt8) (hr : RB W A m l) (hm1 : m ≤ 1000000000) : Calls Try.prog 14 #[.pointer (some ⟨p, 0, none⟩), .string (strB nm), .slice A m cp] W (StepQ W N C c p (n + 2) (d.append nm l)) := by
  have hm := may_any nm
  unfold Dk.append
  cases hb : mayB nm with
  | false =>
    rw [hb] at hm
    exact (append_bad p nm hm A m cp).mono fun e w' ⟨h1, h2⟩ => .same h hn h1 h2
  | true =>
    rw [hb] at hm
    obtain ⟨bf, bn, bs, fl, h1, h2⟩ := h.dw
    refine (append_any h1 h.ok nm hl hm A m cp l hr hm1).mono ?_
    rintro e w' (⟨hi, he, hb⟩ | ⟨i, x, hi, hx, hf, he, hb⟩ | ⟨i, x, g, hi, hx, hg, hf, he, hd, hc, hgr⟩)
    · rw [if_pos rfl, Dk.file_none hi]; exact .same h hn he hb
    · obtain ⟨y, hy, _, hfl⟩ := h.ok.file hi
      rw [hx] at hy
      obtain rfl := Option.some.inj hy
      rw [if_pos rfl, hfl]
      simp only
      rw [if_pos hf]; exact .same h hn he hb
    · obtain ⟨y, hy, _, hfl⟩ := h.ok.file hi
      rw [hx] at hy
      obtain rfl := Option.some.inj hy
      rw [if_pos rfl, hfl]
      simp only
      rw [if_neg (by omega)]
      exact ⟨he, DC.of h1 h2 ((h.ok.app hx l hf).more (by omega) hn) (by omega) hd hc (fun b hb _ => by
        rcases hb with e | e
        · exact .inr (.inr (.inr (.inr ⟨i, g, hg, .inl e⟩)))
        · exact .inr (.inr (.inr (.inr ⟨i, g, hg, .inr e⟩)))) hgr⟩
theorem edits_c (h : DC W N C c p n d) (hn : n + 2 < 1000000) {nm : List UInt8} (hb : mayB nm = true) {f : Fl → Fl} (hf : ∀ i x, d.fs i = some x → (f x).nm = x.nm ∧ (f x).by_.length ≤ 1048576 ∧ (f x).la ≤ (f x).by_.length ∧ (f x).ge ≤ n + 1) {bf bn bs : Nat} {fl : Int → Option Nat} (h1 : DW W N p n d bf bn bs fl) (h2 : ∀ b, Own W p bf bn bs fl b → C b = c) {e : Ending} {w' : World} (hq : EdQ W N p n d bf bn bs fl nm f e w') : StepQ W N C c p (n + 2) (d.edits nm f) e w' := by
  unfold Dk.edits
  rcases hq with ⟨hi, he, hb'⟩ | ⟨i, x, g, hi, hx, hg, he, hd, hc, hgr⟩
  · rw [if_pos hb, Dk.file_none hi]; exact .same h hn he hb'
  · obtain ⟨y, hy, _, hfl⟩ := h.ok.file hi
    rw [hx] at hy
    obtain rfl := Option.some.inj hy
    rw [if_pos hb, hfl]
    obtain ⟨q1, q2, q3, q4⟩ := hf i x hx
    exact ⟨he, DC.of h1 h2 (h.ok.edit (by omega) hn hx (f x) q1 q2 q3 (by omega)) (by omega) hd hc (fun b hb _ => .inr (.inr (.inr (.inr ⟨i, g, hg, .inl hb⟩)))) hgr⟩
theorem kept_ok (h : d.Ok n) {i : Int} {x : Fl} (hx : d.fs i = some x) (k : Nat) : (x.kept k).nm = x.nm ∧ (x.kept k).by_.length ≤ 1048576 ∧ (x.kept k).la ≤ (x.kept k).by_.length ∧ (x.kept k).ge ≤ n + 1 := by
  have h1 := h.len i x hx
  have h2 := h.la i x hx
  have h3 := h.ge i x hx
  unfold Fl.kept
  by_cases hk : k < x.by_.length
  · rw [if_pos hk]
    refine ⟨rfl, ?_, ?_, ?_⟩ <;> simp <;> omega
  · rw [if_neg hk]
    refine ⟨rfl, h1, ?_, by show x.ge ≤ _; omega⟩
    show min x.la k ≤ x.by_.length
    omega
theorem cut_c (h : DC W N C c p n d) (hn : n + 2 < 1000000) (nm : List UInt8) (hl : okName nm) : Calls Try.prog 50 #[.pointer (some ⟨p, 0, none⟩), .string (strB nm)] W (StepQ W N C c p (n + 2) (d.cut nm)) := by
  have hm := may_any nm
  unfold Dk.cut
  cases hb : mayB nm with
  | false =>
    rw [hb] at hm
    unfold Dk.edits
    rw [hb]
    exact (cut_bad p nm hm).mono fun e w' ⟨h1, h2⟩ => .same h hn h1 h2
  | true =>
    rw [hb] at hm
    obtain ⟨bf, bn, bs, fl, h1, h2⟩ := h.dw
    exact (cut_any h1 h.ok nm hl hm).mono fun e w' hq => edits_c h hn hb (fun i x hx => kept_ok h.ok hx 0) h1 h2 hq
theorem sync_c (h : DC W N C c p n d) (hn : n + 2 < 1000000) (nm : List UInt8) (hl : okName nm) : Calls Try.prog 52 #[.pointer (some ⟨p, 0, none⟩), .string (strB nm)] W (StepQ W N C c p (n + 2) (d.sync nm)) := by
  have hm := may_any nm
  unfold Dk.sync
  cases hb : mayB nm with
  | false =>
    rw [hb] at hm
    unfold Dk.edits
    rw [hb]
    exact (sync_bad p nm hm).mono fun e w' ⟨h1, h2⟩ => .same h hn h1 h2
  | true =>
    rw [hb] at hm
    obtain ⟨bf, bn, bs, fl, h1, h2⟩ := h.dw
    exact (sync_any h1 h.ok nm hl hm).mono fun e w' hq => edits_c (f := fun x => { x with la := x.by_.length }) h hn hb (fun i x hx => ⟨rfl, h.ok.len i x hx, Nat.le_refl _, Nat.le_succ_of_le (h.ok.ge i x hx)⟩) h1 h2 hq
theorem remove_c (h : DC W N C c p n d) (hn : n + 2 < 1000000) (nm : List UInt8) (hl : okName nm) : Calls Try.prog 51 #[.pointer (some ⟨p, 0, none⟩), .string (strB nm)] W (StepQ W N C c p (n + 2) (d.remove nm)) := by
  have hm := may_any nm
  unfold Dk.remove
  cases hb : mayB nm with
  | false =>
    rw [hb] at hm
    exact (remove_bad p nm hm).mono fun e w' ⟨h1, h2⟩ => .same h hn h1 h2
  | true =>
    rw [hb] at hm
    obtain ⟨bf, bn, bs, fl, h1, h2⟩ := h.dw
    refine (remove_any h1 h.ok nm hl hm).mono ?_
    rintro e w' (⟨hi, he, hb⟩ | ⟨i, hi, he, hd, hc, hgr⟩)
    · rw [if_pos rfl, hi]; exact .same h hn he hb
    · rw [if_pos rfl, hi]
      exact ⟨he, DC.of h1 h2 ((h.ok.less hi).more (by omega) hn) (by omega) hd hc (fun b hb _ => by
        rcases hb with e | e | e | e
        · exact .inl e
        · exact .inr (.inl e)
        · exact .inr (.inr (.inl e))
        · exact .inr (.inr (.inr (.inl e)))) hgr⟩
theorem rename_c (h : DC W N C c p n d) (hn : n + 2 < 1000000) (old other : List UInt8) (hl : okName old) (hl2 : okName other) : Calls Try.prog 11 #[.pointer (some ⟨p, 0, none⟩), .string (strB old), .string (strB other)] W (StepQ W N C c p (n + 2) (d.rename old other)) := by
  have hm := may_any old
  have hm2 := may_any other
  unfold Dk.rename
  cases hb : (mayB old && mayB other) with
  | false => exact (rename_bad p old other _ _ hm hm2 hb).mono fun e w' ⟨h1, h2⟩ => .same h hn h1 h2
  | true =>
    rw [Bool.and_eq_true] at hb
    rw [hb.1] at hm
    rw [hb.2] at hm2
    obtain ⟨bf, bn, bs, fl, h1, h2⟩ := h.dw
    refine (rename_any h1 h.ok old other hl hl2 hm hm2 (by omega) (by omega)).mono ?_
    rintro e w' (⟨hi, he, hb⟩ | ⟨i, hi, hoo, he, hb⟩ | ⟨i, x, g, hi, hoo, hx, hg, he, hd, hc, hgr⟩)
    · rw [if_pos rfl, Dk.file_none hi]; exact .same h hn he hb
    · obtain ⟨y, hy, _, hfl⟩ := h.ok.file hi
      rw [if_pos rfl, hfl]
      simp only
      rw [if_pos hoo]; exact .same h hn he hb
    · obtain ⟨y, hy, _, hfl⟩ := h.ok.file hi
      rw [hx] at hy
      obtain rfl := Option.some.inj hy
      rw [if_pos rfl, hfl]
      simp only
      rw [if_neg hoo]
      exact ⟨he, DC.of h1 h2 ((h.ok.ren (by omega) hoo hi hx hl2).more (by omega) hn) (by omega) hd hc (fun b hb _ => by
        rcases hb with e | e | e | e | e
        · exact .inr (.inr (.inr (.inr ⟨i, g, hg, .inl e⟩)))
        · exact .inl e
        · exact .inr (.inl e)
        · exact .inr (.inr (.inl e))
        · exact .inr (.inr (.inr (.inl e)))) hgr⟩
def AskQ (W : World) (r : Value × Int) (e : Ending) (w' : World) : Prop := e = .returned (.tuple #[r.1, .int .i64 r.2]) ∧ Below W.heap.size W w'
theorem stat_c (h : DC W N C c p n d) (nm : List UInt8) (hl : okName nm) : Calls Try.prog 23 #[.pointer (some ⟨p, 0, none⟩), .string (strB nm)] W (AskQ W (d.stat nm)) := by
  have hm := may_any nm
  unfold Dk.stat
  cases hb : mayB nm with
  | false =>
    rw [hb] at hm
    exact (stat_bad p nm hm).mono fun e w' h => h
  | true =>
    rw [hb] at hm
    obtain ⟨bf, bn, bs, fl, h1, h2⟩ := h.dw
    refine (stat_any h1 h.ok nm hl hm).mono ?_
    rintro e w' ⟨hb, ⟨hi, he⟩ | ⟨i, x, hi, hx, he⟩⟩
    · rw [if_pos rfl, Dk.file_none hi]; exact ⟨he, hb⟩
    · obtain ⟨y, hy, _, hfl⟩ := h.ok.file hi
      rw [hx] at hy
      obtain rfl := Option.some.inj hy
      rw [if_pos rfl, hfl]
      exact ⟨he, hb⟩
theorem inode_c (h : DC W N C c p n d) (i : Int) (hi : okInt i) : Calls Try.prog 57 #[.pointer (some ⟨p, 0, none⟩), .int .i64 i] W (AskQ W (d.inode i)) := by
  obtain ⟨bf, bn, bs, fl, h1, h2⟩ := h.dw
  unfold Dk.inode
  refine (inode_any h1 h.ok i hi (fun x hx => h.ok.nok i x hx)).mono ?_
  rintro e w' ⟨hb, ⟨hi, he⟩ | ⟨x, hi, he⟩⟩
  · rw [hi]; exact ⟨he, hb⟩
  · rw [hi]; exact ⟨he, hb⟩
def BytesQ (W : World) (r : List UInt8 × Int) (e : Ending) (w' : World) : Prop := ∃ v, e = .returned (.tuple #[v, .int .i64 r.2]) ∧ OB w' W.heap.size v r.1 ∧ Below W.heap.size W w'
theorem read_c (h : DC W N C c p n d) (i gen off size : Int) (hi : okInt i) (hoff : okInt off) (hsize : okInt size) : Calls Try.prog 55 #[.pointer (some ⟨p, 0, none⟩), .int .i64 i, .int .i64 gen, .int .i64 off, .int .i64 size] W (BytesQ W (d.read i gen off size)) := by
  obtain ⟨bf, bn, bs, fl, h1, h2⟩ := h.dw
  unfold Dk.read
  refine (read_any h1 h.ok i gen off size hi hoff hsize).mono ?_
  rintro e w' ⟨hb, ⟨h0, he⟩ | ⟨h3, h4, hx, he⟩ | ⟨x, h3, h4, hx, ⟨hg, he⟩ | ⟨hg, v, he, ho⟩⟩⟩
  · rw [if_pos h0]; exact ⟨_, he, OB.nil _ _, hb⟩
  · rw [if_neg (by omega), hx]; exact ⟨_, he, OB.nil _ _, hb⟩
  · rw [if_neg (by omega), hx]
    simp only
    rw [if_pos hg]; exact ⟨_, he, OB.nil _ _, hb⟩
  · rw [if_neg (by omega), hx]
    simp only
    rw [if_neg (by simpa using hg)]; exact ⟨v, he, ho, hb⟩
def MadeQ (W : World) (C : Nat → Nat) (c : Nat) (e : Ending) (w' : World) : Prop := ∃ p, e = .returned (.pointer (some ⟨p, 0, none⟩)) ∧ W.heap.size ≤ p ∧ DC w' W.heap.size (paint C W.heap.size c) c p 0 emptyD ∧ Below W.heap.size W w'
theorem new_c (W : World) (C : Nat → Nat) (c : Nat) : Calls Try.prog 9 #[] W (MadeQ W C c) := by
  refine (new_any W).mono ?_
  rintro e w' ⟨p, bf, bn, bs, he, hd, hb⟩
  exact ⟨p, he, hd.lo.1, ⟨.empty, bf, bn, bs, _, hd, fun b hb => paint_new C c (hd.own_lo hb)⟩, hb⟩
end
end Go.Proofs.Ytlojmmcagglpoaa
