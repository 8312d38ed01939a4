/- THE WALK of the disk's named. -/
import Derived.Test.YthhbfjhgmdnpbabDiskOf
import Derived.RegionTactic
import Derived.Deep.DeepCutAuto
import Derived.Deep.CutBlock
namespace Go.Proofs.Ythhbfjhgmdnpbab
open Go.RowKit Go.Maps
theorem FM.ne_blk {κ ε : Type} {P : Program} {k : TypeId} {kl : κ → Lit} {ed : ε → DataW Unit} {R : Value → Option (DataW Unit × List MemPlace)} {W : World} {b n : Nat} {m : κ → Option ε} (h : FM P k kl ed R W b n m) {g : Nat} {t : TypeId} {cs : Array Value} (hg : Blk W g t cs) : g ≠ b := fun e => by
  obtain ⟨D, ⟨es, clock, h1, _⟩, _⟩ := h
  have h2 : W.heap[g]? = some (.cells cs t (0, 0)) := hg
  rw [e, h1] at h2
  cases h2
theorem FM.ne_own {κ ε : Type} {P : Program} {k : TypeId} {kl : κ → Lit} {ed : ε → DataW Unit} {R : Value → Option (DataW Unit × List MemPlace)} {W : World} {b n : Nat} {m : κ → Option ε} (h : FM P k kl ed R W b n m) {base size nn : Nat} {t : TypeId} {v : Value} {xs : List Value} (ho : W.ownsRow base t size v nn xs) : v.ownBlock ≠ some b := fun e => by
  obtain ⟨D, ⟨es, clock, h1, _⟩, _⟩ := h
  rcases ho.2 with ⟨rfl, _⟩ | ⟨g, cap, cur, rfl, _, hh, _⟩
  · cases e
  · have : g = b := Option.some.inj e
    rw [this, h1] at hh
    cases hh
theorem Blk.ne_type {W : World} {g g' : Nat} {t t' : TypeId} {cs cs' : Array Value} (h : Blk W g t cs) (h' : Blk W g' t' cs') (hne : t ≠ t') : g ≠ g' := fun e => by
  have h1 : W.heap[g]? = some (.cells cs t (0, 0)) := h
  have h2 : W.heap[g']? = some (.cells cs' t' (0, 0)) := h'
  rw [e, h2] at h1
  have := Option.some.inj h1
  injection this with _ h3 _
  exact hne h3.symm
noncomputable def Dk.named (d : Dk) (i : Int) (nm : List UInt8) (x : Fl) : Dk := ⟨putM d.fs i { x with nm := nm }, putM d.ns nm i, putM d.se nm ((d.se nm).getD 0 + 1), d.no⟩
def NamedQ (W : World) (N p q : Nat) (d : Dk) (bf bn bs : Nat) (fl : Int → Option Nat) (g : Nat) (e : Ending) (w' : World) : Prop :=
  e = .returned (.tuple #[]) ∧ DW w' N p q d bf bn bs fl ∧ Chg (fun b => b = g ∨ b = bn ∨ b = bs) W w' ∧ Gr W fl w' fl
set_option maxRecDepth 20000 in
set_option maxHeartbeats 1000000 in
theorem named_any {W : World} {N p q : Nat} {d : Dk} {bf bn bs : Nat} {fl : Int → Option Nat} (h : DW W N p q d bf bn bs fl) (hq : q < 1000000) (nm : List UInt8) (hl : okName nm) (i : Int) (hi : okInt i) (g : Nat) (hg : fl i = some g) (x : Fl) (hx : d.fs i = some x) (hs : ∀ v, d.se nm = some v → 0 ≤ v ∧ v ≤ 1000000) :
    Calls Try.prog 31 #[.pointer (some ⟨p, 0, none⟩), .int .i64 i, .string (strB nm)] W (NamedQ W N p (q + 1) (d.named i nm x) bf bn bs fl g) := by
  have H := Lib.hid h
  obtain ⟨hNg, v, hb, ho⟩ := h.fw i g x hg hx
  have HBK := Lib.hid hb; have HOB := Lib.hid ho
  have HG := Lib.hid hg; have HX := Lib.hid hx
  have c0 : W.cell? ⟨p, 0, none⟩ = some (.map (some bf)) := (h.bd.cell 0).trans rfl
  have l0 := h.mf.look mrFiles intK Try.underlying53 (zero_fptr W) hi
  rw [hg] at l0
  unfold lookV iV' pV at l0
  have g0 : W.cell? ⟨g, 0, none⟩ = some (.string (strB x.nm)) := (hb.cell 0).trans rfl
  have f0 : W.frozen? ⟨g, 0, none⟩ = false := hb.frozen 0
  have hne : g ≠ p ∧ g ≠ bf ∧ g ≠ bn ∧ g ≠ bs ∧ p ≠ bn ∧ p ≠ bs := ⟨hb.ne_type h.bd (by decide), h.mf.ne_blk hb, h.mn.ne_blk hb, h.ms.ne_blk hb, h.mn.ne_blk h.bd, h.ms.ne_blk h.bd⟩
  obtain ⟨sv, hsv⟩ : ∃ sv : Int, sv = (d.se nm).getD 0 := ⟨_, rfl⟩
  have hsb : 0 ≤ sv ∧ sv ≤ 1000000 := by
    rw [hsv]
    cases hq2 : d.se nm with
    | none => exact ⟨by decide, by decide⟩
    | some v => exact hs v hq2
  have HSV := Lib.hid hsv
  have HNE := Lib.hid hne
  clear h hb ho hg hx hs hsv hne hNg
  go_enter Try.func31, Try.ntmps31
  go_upto_region 1 with fail
  obtain ⟨w1, hw1⟩ : ∃ w1, w1 = W.setCell ⟨g, 0, none⟩ (.string (strB nm)) := ⟨_, rfl⟩
  have C1 : Hid (Chg (fun b => b = g) W w1) := Lib.hid (by rw [hw1]; exact Chg.setCell (S := fun b => b = g) (p := ⟨g, 0, none⟩) (Chg.refl _ W) (.inl rfl) _)
  rw [← hw1]
  have HW1 := Lib.hid hw1
  clear hw1 c0 l0 g0 f0
  have BD1 := Lib.hid (H.out.bd.chg C1.out (fun e => HNE.out.1 e.symm))
  have c1 : w1.cell? ⟨p, 1, none⟩ = some (.map (some bn)) := (BD1.out.cell 1).trans rfl
  have MN1 := Lib.hid (H.out.mn.chg C1.out (fun e => HNE.out.2.2.1 e.symm))
  go_wp2_with ((at_mapUpdate; go_must (refine update_fm rfl _ _ _ rfl mrNames strK Try.underlying54 bn q d.ns rfl MN1.out (by unfold maxLen; omega) nm hl i hi rfl rfl ?_); intro w2 hf2 hc2; refine halt ?_))
  refine unhalt ?_
  have MN2 := Lib.hid hf2
  have C2 := Lib.hid hc2
  have BD2 := Lib.hid (BD1.out.chg C2.out (fun e => HNE.out.2.2.2.2.1 e))
  have MS2 := Lib.hid ((H.out.ms.chg C1.out (fun e => HNE.out.2.2.2.1 e.symm)).chg C2.out (fun e => H.out.lo.2.2.2.2.2.2 e.symm))
  have c2 : w2.cell? ⟨p, 2, none⟩ = some (.map (some bs)) := (BD2.out.cell 2).trans rfl
  have l3 := MS2.out.look mrNames strK Try.underlying54 (zero_int w2) hl
  have e3 : lookV iV' (.int .i64 0) (d.se nm) = .int .i64 sv := by
    rw [HSV.out]
    cases d.se nm <;> rfl
  rw [e3] at l3
  unfold sV at l3
  have hw3 : okInt (sv + 1) := ⟨by omega, by omega⟩
  clear hf2 hc2 e3 c1 BD1 MN1
  go_wp2_with ((at_mapUpdate; go_must (refine update_fm rfl _ _ _ rfl mrNames strK Try.underlying54 bs q d.se rfl MS2.out (by unfold maxLen; omega) nm hl (sv + 1) hw3 rfl rfl ?_); intro w3 hf3 hc3; refine halt ?_))
  refine unhalt ?_
  have HF : Hid (NamedQ W N p (q + 1) (d.named i nm x) bf bn bs fl g (.returned (.tuple #[])) w3) := Lib.hid (by
    have hlo := H.out.lo
    have hne := HNE.out
    have hf := H.out
    have C3 := hc3
    have hW1 := C1.out.size
    have hW2 := C2.out.size
    have cAll : Chg (fun b => b = g ∨ b = bn ∨ b = bs) W w3 := ((C1.out.mono (fun _ _ e => .inl e)).trans C2.out (fun _ _ e => .inr (.inl e))).trans C3 (fun _ _ e => .inr (.inr e))
    have cTail : Chg (fun b => b = bn ∨ b = bs) w1 w3 := (C2.out.mono (fun _ _ e => .inl e)).trans C3 (fun _ _ e => .inr e)
    have hb1 : Blk w1 g 63 (fcells { x with nm := nm } v) := by
      rw [HW1.out]
      exact HBK.out.set_ 0 (.string (strB nm))
    have hsep : ∀ (v : Value) (l : List UInt8) (y : Fl), OB W N v l → Blk W g 63 (fcells x v) ∨ True → ∀ k, v.ownBlock = some k → ¬ (k = g ∨ k = bn ∨ k = bs) := fun v l y ho _ k hk e => by
      rcases e with e | e | e
      · exact HBK.out.apart ho (by decide) (by rw [hk, e])
      · exact hf.mn.ne_own ho (by rw [hk, e])
      · exact hf.ms.ne_own ho (by rw [hk, e])
    have hfw : ∀ j g' y, fl j = some g' → d.fs j = some y → N ≤ g' ∧ FW w3 N g' (if j = i then { x with nm := nm } else y) := fun j g' y hj hy => by
      obtain ⟨hn1, v', hb', ho'⟩ := hf.fw j g' y hj hy
      have hn2 := hf.mn.ne_blk hb'
      have hn3 := hf.ms.ne_blk hb'
      refine ⟨hn1, ?_⟩
      by_cases e : j = i
      · rw [if_pos e]
        subst e
        rw [HG.out] at hj
        obtain rfl := Option.some.inj hj
        exact ⟨v, hb1.chg cTail (fun e => by rcases e with e | e; exact hn2 e; exact hn3 e), (cAll.ob HOB.out (hsep v _ x HOB.out (.inr trivial)))⟩
      · rw [if_neg e]
        exact ⟨v', hb'.chg cAll (fun e2 => by
          rcases e2 with e2 | e2 | e2
          · exact e (hf.ap j i g' hj (by rw [e2]; exact HG.out))
          · exact hn2 e2
          · exact hn3 e2), cAll.ob ho' (hsep v' _ y ho' (.inr trivial))⟩
    have hfs : ∀ j, (d.named i nm x).fs j = if j = i then some { x with nm := nm } else d.fs j := fun j => by
      show putM d.fs i _ j = _
      by_cases e : j = i
      · rw [e, putM_same, if_pos rfl]
      · rw [putM_other _ _ e, if_neg e]
    have hby : ∀ j g' k, fl j = some g' → bytesAt w3 g' k → bytesAt W g' k := fun j g' k hj hb => by
      obtain ⟨y, hy, _, v', hb', ho'⟩ := hf.at_ hj
      have hn2 := hf.mn.ne_blk hb'
      have hn3 := hf.ms.ne_blk hb'
      obtain ⟨u, h1, h2⟩ := hb
      refine ⟨u, ?_, h2⟩
      by_cases e : g' = g
      · rw [← h1, e]
        have := (hb1.chg cTail (fun e => by rcases e with e | e; exact (hf.mn.ne_blk HBK.out) e; exact (hf.ms.ne_blk HBK.out) e)).cell 1
        rw [this, HBK.out.cell 1]; rfl
      · rw [← h1, cAll.cell (p := ⟨g', 1, none⟩) hb'.lt (fun e2 => by
          rcases e2 with e2 | e2 | e2
          · exact e e2
          · exact hn2 e2
          · exact hn3 e2)]
    refine ⟨rfl, ⟨BD2.out.chg C3 (fun e => hne.2.2.2.2.2 e), ((((hf.mf.chg C1.out (fun e => hne.2.1 e.symm)).chg C2.out (fun e => hlo.2.2.2.2.1 e)).chg C3 (fun e => hlo.2.2.2.2.2.1 e)).mono (Nat.le_succ _)), MN2.out.chg C3 (fun e => hlo.2.2.2.2.2.2 e), ?_, hlo, fun j => ?_, fun j g' y hj hy => ?_, hf.ap, fun j j' g1 g2 k h1 h2 h3 h4 => hf.ab j j' g1 g2 k h1 h2 (hby j g1 k h1 h3) (hby j' g2 k h2 h4)⟩, cAll, fun j g' hj => .inl ⟨hj, fun k hk => .inl (hby j g' k hj hk)⟩⟩
    · show FM _ _ _ _ _ _ _ _ (putM d.se nm ((d.se nm).getD 0 + 1))
      rw [← HSV.out]
      exact hf3
    · rw [hfs j]
      by_cases e : j = i
      · rw [if_pos e, e, HG.out]; rfl
      · rw [if_neg e]; exact hf.hf j
    · rw [hfs j] at hy
      by_cases e : j = i
      · rw [if_pos e] at hy
        have := hfw j g' x hj (by rw [e]; exact HX.out)
        rw [if_pos e] at this
        obtain rfl := Option.some.inj hy
        exact this
      · rw [if_neg e] at hy
        have := hfw j g' y hj hy
        rw [if_neg e] at this
        exact this)
  clear hf3 hc3
  go_wp2_with fail
  go_end0
  exact HF.out
end Go.Proofs.Ythhbfjhgmdnpbab
