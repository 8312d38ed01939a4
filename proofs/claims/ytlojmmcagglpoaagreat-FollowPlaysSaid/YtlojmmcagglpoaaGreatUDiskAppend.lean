/- THE WALK of the disk's Append. -/
import Derived.Test.YtlojmmcagglpoaaGreatUDisk
import Derived.Deep.DeepMust
import Derived.OwnWalk
import Derived.WalkSpells
import Derived.Carry
import Derived.Deep.WholeRow
import Derived.RegionTactic
import Derived.Deep.DeepCutAuto
import Derived.Deep.CutBlock
namespace Go.Proofs.YtlojmmcagglpoaaGreat
open Go.RowKit Go.Maps
def emptyD : Dk := ⟨fun _ => none, fun _ => none, fun _ => none, 0⟩
theorem zero_disk : (Tryz.prog.info? 132).map (fun i => (i.zero, i.size)) = some (some (.agg #[.map none, .map none, .map none, .int .i64 0]), 4) := by kernel_rfl
theorem zero_disk_run (w : World) : (zeroValue 132).run Tryz.prog w = .ok (.agg #[.map none, .map none, .map none, .int .i64 0]) w := (zero_of_info zero_disk).1 w
def NewD (w : World) (e : Ending) (w' : World) : Prop :=
  ∃ p bf bn bs, e = .returned (.pointer (some ⟨p, 0, none⟩)) ∧ DW w' w.heap.size p 0 emptyD bf bn bs (fun _ => none) ∧ Below w.heap.size w w'
set_option maxRecDepth 20000 in
theorem new_any (w : World) : Calls Tryz.prog 8 #[] w (NewD w) := by
  have hmm := @run_makeMap Tryz.prog
  have hz := zero_disk_run
  go_enter Tryz.func8, Tryz.ntmps8
  go_wp2_with fail
  go_ret
  have b1 : Below w.heap.size w (w.alloc (.map #[] 0)) := (Below.refl _ _).alloc (Nat.le_refl _) _
  have b2 : Below w.heap.size w ((w.alloc (.map #[] 0)).alloc (.map #[] 0)) := b1.alloc (by simp) _
  have b3 : Below w.heap.size w (((w.alloc (.map #[] 0)).alloc (.map #[] 0)).alloc (.map #[] 0)) := b2.alloc (by simp; omega) _
  have k1 : ∀ (W : World) (o : Obj), Below W.heap.size W (W.alloc o) := fun W o => (Below.refl _ _).alloc (Nat.le_refl _) _
  have m1 := FM.made w Tryz.prog 3 iL pD ptrE
  have m2 := FM.made (w.alloc (.map #[] 0)) Tryz.prog 9 sL iD (plainElem Tryz.prog 3)
  have m3 := FM.made ((w.alloc (.map #[] 0)).alloc (.map #[] 0)) Tryz.prog 9 sL iD (plainElem Tryz.prog 3)
  refine ⟨_, w.heap.size, w.heap.size + 1, w.heap.size + 1 + 1, rfl, ⟨Blk.new _ _ _ (by simp), ((m1.keep (k1 _ _)).keep (k1 _ _)).keep (k1 _ _), ?_, ?_, by omega, fun i => rfl, fun i g x h => (by cases h), fun i j g h => (by cases h), fun i j g g' k h => (by cases h)⟩, b3.alloc (by simp; omega) _⟩
  · have e : (w.alloc (.map #[] 0)).heap.size = w.heap.size + 1 := by simp
    rw [e] at m2
    exact (m2.keep (k1 _ _)).keep (k1 _ _)
  · have e : ((w.alloc (.map #[] 0)).alloc (.map #[] 0)).heap.size = w.heap.size + 1 + 1 := by simp
    rw [e] at m3
    exact m3.keep (k1 _ _)
end Go.Proofs.YtlojmmcagglpoaaGreat
namespace Go.Proofs.YtlojmmcagglpoaaGreat
open Go.RowKit Go.Maps
theorem zero_int (w : World) : (zeroValue 3).run Tryz.prog w = .ok (.int .i64 0) w := by kernel_rfl
theorem zero_fptr (w : World) : (zeroValue 180).run Tryz.prog w = .ok (.pointer none) w := by kernel_rfl
def MayC (nm : List UInt8) (b : Bool) : Prop := ∀ W : World, Calls Tryz.prog 101 #[.string (strB nm)] W fun e w' => e = .returned (.bool b) ∧ Below W.heap.size W w'
section
variable {W W' : World} {N p q : Nat} {d : Dk} {bf bn bs : Nat} {fl : Int → Option Nat}
theorem bytesAt.back {g k : Nat} {h : Nat} (hg : g < h) (hW : Below h W W') (hb : bytesAt W' g k) : bytesAt W g k := by
  obtain ⟨v, h1, h2⟩ := hb
  exact ⟨v, by rw [← h1]; exact (World.cell?_of_block (hW.block g hg)).symm, h2⟩
theorem FW.lt {g : Nat} {x : Fl} (h : FW W N g x) : g < W.heap.size := by
  obtain ⟨v, h1, _⟩ := h
  exact h1.lt
theorem FW.keep {g : Nat} {x : Fl} (h : FW W N g x) (hb : Below W.heap.size W W') : FW W' N g x := by
  obtain ⟨v, h1, h2⟩ := h
  exact ⟨v, h1.keep hb, h2.keep hb⟩
theorem DW.at_ (h : DW W N p q d bf bn bs fl) {i : Int} {g : Nat} (hg : fl i = some g) : ∃ x, d.fs i = some x ∧ N ≤ g ∧ FW W N g x := by
  have := h.hf i
  rw [hg] at this
  obtain ⟨x, hx⟩ := Option.isSome_iff_exists.1 this.symm
  exact ⟨x, hx, h.fw i g x hg hx⟩
theorem DW.keep (h : DW W N p q d bf bn bs fl) (hb : Below W.heap.size W W') : DW W' N p q d bf bn bs fl := by
  refine ⟨h.bd.keep hb, h.mf.keep hb, h.mn.keep hb, h.ms.keep hb, h.lo, h.hf, fun i g x hg hx => ⟨(h.fw i g x hg hx).1, (h.fw i g x hg hx).2.keep hb⟩, h.ap, fun i j g g' k hi hj h1 h2 => ?_⟩
  obtain ⟨x, _, _, hx⟩ := h.at_ hi
  obtain ⟨y, _, _, hy⟩ := h.at_ hj
  exact h.ab i j g g' k hi hj (h1.back hx.lt hb) (h2.back hy.lt hb)
def Gr (W : World) (fl : Int → Option Nat) (w' : World) (fl' : Int → Option Nat) : Prop :=
  ∀ i g, fl' i = some g → (fl i = some g ∧ ∀ k, bytesAt w' g k → bytesAt W g k ∨ W.heap.size ≤ k) ∨ (W.heap.size ≤ g ∧ ∀ k, bytesAt w' g k → W.heap.size ≤ k)
theorem Gr.trans {w1 w2 : World} {fl1 fl2 : Int → Option Nat} (h : Gr W fl w1 fl1) (h2 : Gr w1 fl1 w2 fl2) (hs : W.heap.size ≤ w1.heap.size) : Gr W fl w2 fl2 := fun i g hg => by
  rcases h2 i g hg with ⟨h3, h4⟩ | ⟨h3, h4⟩
  · rcases h i g h3 with ⟨h5, h6⟩ | ⟨h5, h6⟩
    · refine .inl ⟨h5, fun k hk => ?_⟩
      rcases h4 k hk with h7 | h7
      · exact h6 k h7
      · exact .inr (Nat.le_trans hs h7)
    · refine .inr ⟨h5, fun k hk => ?_⟩
      rcases h4 k hk with h7 | h7
      · exact h6 k h7
      · exact Nat.le_trans hs h7
  · exact .inr ⟨Nat.le_trans hs h3, fun k hk => Nat.le_trans hs (h4 k hk)⟩
end
def OfQ (d : Dk) (fl : Int → Option Nat) (nm : List UInt8) (W : World) (e : Ending) (w' : World) : Prop :=
  Below W.heap.size W w' ∧ ((d.ns nm = none ∧ e = .returned (.tuple #[.pointer none, .int .i64 141])) ∨ ∃ i, d.ns nm = some i ∧ e = .returned (.tuple #[lookV pV (.pointer none) (fl i), .int .i64 0]))
set_option maxRecDepth 20000 in
theorem of_any {W : World} {N p q : Nat} {d : Dk} {bf bn bs : Nat} {fl : Int → Option Nat} (h : DW W N p q d bf bn bs fl) (hi : ∀ nm i, d.ns nm = some i → okInt i) (nm : List UInt8) (hl : okName nm) (hm : MayC nm true) :
    Calls Tryz.prog 98 #[.pointer (some ⟨p, 0, none⟩), .string (strB nm)] W (OfQ d fl nm W) := by
  have H := Lib.hid h; have HI := Lib.hid hi; have HM := Lib.hid (hm W)
  clear h hi hm
  go_enter Tryz.func98, Tryz.ntmps98
  go_wp2_with fail
  refine HM.out.mono ?_
  rintro e w1 ⟨rfl, hb⟩
  have H1 := Lib.hid (H.out.keep hb)
  have HB := Lib.hid hb
  have c0 : w1.cell? ⟨p, 0, none⟩ = some (.map (some bf)) := (H1.out.bd.cell 0).trans rfl
  have c1 : w1.cell? ⟨p, 1, none⟩ = some (.map (some bn)) := (H1.out.bd.cell 1).trans rfl
  have l1 := H1.out.mn.look_ok mrNames strK Tryz.underlying130 (zero_int w1) hl
  unfold sV at l1
  clear hb H HM
  cases hn : d.ns nm with
  | none =>
    rw [hn] at l1
    unfold lookV at l1
    have HF : Hid (OfQ d fl nm W (.returned (.tuple #[.pointer none, .int .i64 141])) w1) := Lib.hid ⟨HB.out, .inl ⟨hn, rfl⟩⟩
    clear hn
    go_wp2_with fail
    go_ret2
    exact HF.out
  | some i =>
    rw [hn] at l1
    unfold lookV iV' at l1
    have l2 := H1.out.mf.look mrFiles intK Tryz.underlying129 (zero_fptr w1) (HI.out nm i hn)
    unfold iV' at l2
    have HF : Hid (OfQ d fl nm W (.returned (.tuple #[lookV pV (.pointer none) (fl i), .int .i64 0])) w1) := Lib.hid ⟨HB.out, .inr ⟨i, hn, rfl⟩⟩
    clear hn
    go_wp2_with fail
    go_ret2
    exact HF.out
end Go.Proofs.YtlojmmcagglpoaaGreat
namespace Go.Proofs.YtlojmmcagglpoaaGreat
open Go.RowKit Go.Maps
theorem FM.ne_blk {κ ε : Type} {P : Program} {k : TypeId} {kl : κ → Lit} {ed : ε → DataW Unit} {R : Value → Option (DataW Unit × List MemPlace)} {W : World} {b n : Nat} {m : κ → Option ε} (h : FM P k kl ed R W b n m) {g : Nat} {t : TypeId} {cs : Array Value} (hg : Blk W g t cs) : g ≠ b := fun e => by
  obtain ⟨D, ⟨es, clock, h1, _⟩, _⟩ := h
  have h2 : W.heap[g]? = some (.cells cs t (0, 0)) := hg
  rw [e, h1] at h2
  cases h2
theorem FM.ne_own {κ ε : Type} {P : Program} {k : TypeId} {kl : κ → Lit} {ed : ε → DataW Unit} {R : Value → Option (DataW Unit × List MemPlace)} {W : World} {b n : Nat} {m : κ → Option ε} (h : FM P k kl ed R W b n m) {base size nn : Nat} {t : TypeId} {v : Value} {xs : List Value} (ho : W.ownsRow base t size v nn xs) : v.ownBlock ≠ some b := fun e => by
  obtain ⟨D, ⟨es, clock, h1, _⟩, _⟩ := h
  rcases ho.2 with ⟨rfl, _⟩ | ⟨g, cap, cur, rfl, _, hh, _⟩
  · cases e
  · have : g = b := Option.some.inj e
    rw [this, h1] at hh
    cases hh
theorem Blk.ne_type {W : World} {g g' : Nat} {t t' : TypeId} {cs cs' : Array Value} (h : Blk W g t cs) (h' : Blk W g' t' cs') (hne : t ≠ t') : g ≠ g' := fun e => by
  have h1 : W.heap[g]? = some (.cells cs t (0, 0)) := h
  have h2 : W.heap[g']? = some (.cells cs' t' (0, 0)) := h'
  rw [e, h2] at h1
  have := Option.some.inj h1
  injection this with _ h3 _
  exact hne h3.symm
noncomputable def Dk.named (d : Dk) (i : Int) (nm : List UInt8) (x : Fl) : Dk := ⟨putM d.fs i { x with nm := nm }, putM d.ns nm i, putM d.se nm ((d.se nm).getD 0 + 1), d.no⟩
def NamedQ (W : World) (N p q : Nat) (d : Dk) (bf bn bs : Nat) (fl : Int → Option Nat) (g : Nat) (e : Ending) (w' : World) : Prop :=
  e = .returned (.tuple #[]) ∧ DW w' N p q d bf bn bs fl ∧ Chg (fun b => b = g ∨ b = bn ∨ b = bs) W w' ∧ Gr W fl w' fl
set_option maxRecDepth 20000 in
set_option maxHeartbeats 1000000 in
theorem named_any {W : World} {N p q : Nat} {d : Dk} {bf bn bs : Nat} {fl : Int → Option Nat} (h : DW W N p q d bf bn bs fl) (hq : q < 1000000) (nm : List UInt8) (hl : okName nm) (i : Int) (hi : okInt i) (g : Nat) (hg : fl i = some g) (x : Fl) (hx : d.fs i = some x) (hs : ∀ v, d.se nm = some v → 0 ≤ v ∧ v ≤ 1000000) :
    Calls Tryz.prog 102 #[.pointer (some ⟨p, 0, none⟩), .int .i64 i, .string (strB nm)] W (NamedQ W N p (q + 1) (d.named i nm x) bf bn bs fl g) := by
  have H := Lib.hid h
  obtain ⟨hNg, v, hb, ho⟩ := h.fw i g x hg hx
  have HBK := Lib.hid hb; have HOB := Lib.hid ho
  have HG := Lib.hid hg; have HX := Lib.hid hx
  have c0 : W.cell? ⟨p, 0, none⟩ = some (.map (some bf)) := (h.bd.cell 0).trans rfl
  have l0 := h.mf.look mrFiles intK Tryz.underlying129 (zero_fptr W) hi
  rw [hg] at l0
  unfold lookV iV' pV at l0
  have g0 : W.cell? ⟨g, 0, none⟩ = some (.string (strB x.nm)) := (hb.cell 0).trans rfl
  have f0 : W.frozen? ⟨g, 0, none⟩ = false := hb.frozen 0
  have hne : g ≠ p ∧ g ≠ bf ∧ g ≠ bn ∧ g ≠ bs ∧ p ≠ bn ∧ p ≠ bs := ⟨hb.ne_type h.bd (by decide), h.mf.ne_blk hb, h.mn.ne_blk hb, h.ms.ne_blk hb, h.mn.ne_blk h.bd, h.ms.ne_blk h.bd⟩
  obtain ⟨sv, hsv⟩ : ∃ sv : Int, sv = (d.se nm).getD 0 := ⟨_, rfl⟩
  have hsb : 0 ≤ sv ∧ sv ≤ 1000000 := by
    rw [hsv]
    cases hq2 : d.se nm with
    | none => exact ⟨by decide, by decide⟩
    | some v => exact hs v hq2
  have HSV := Lib.hid hsv
  have HNE := Lib.hid hne
  clear h hb ho hg hx hs hsv hne hNg
  go_enter Tryz.func102, Tryz.ntmps102
  go_upto_region 1 with fail
  obtain ⟨w1, hw1⟩ : ∃ w1, w1 = W.setCell ⟨g, 0, none⟩ (.string (strB nm)) := ⟨_, rfl⟩
  have C1 : Hid (Chg (fun b => b = g) W w1) := Lib.hid (by rw [hw1]; exact Chg.setCell (S := fun b => b = g) (p := ⟨g, 0, none⟩) (Chg.refl _ W) (.inl rfl) _)
  rw [← hw1]
  have HW1 := Lib.hid hw1
  clear hw1 c0 l0 g0 f0
  have BD1 := Lib.hid (H.out.bd.chg C1.out (fun e => HNE.out.1 e.symm))
  have c1 : w1.cell? ⟨p, 1, none⟩ = some (.map (some bn)) := (BD1.out.cell 1).trans rfl
  have MN1 := Lib.hid (H.out.mn.chg C1.out (fun e => HNE.out.2.2.1 e.symm))
  go_wp2_with ((at_mapUpdate; go_must (refine update_fm rfl _ _ _ rfl mrNames strK Tryz.underlying130 bn q d.ns rfl MN1.out (by unfold maxLen; omega) nm hl i hi rfl rfl ?_); intro w2 hf2 hc2; refine halt ?_))
  refine unhalt ?_
  have MN2 := Lib.hid hf2
  have C2 := Lib.hid hc2
  have BD2 := Lib.hid (BD1.out.chg C2.out (fun e => HNE.out.2.2.2.2.1 e))
  have MS2 := Lib.hid ((H.out.ms.chg C1.out (fun e => HNE.out.2.2.2.1 e.symm)).chg C2.out (fun e => H.out.lo.2.2.2.2.2.2 e.symm))
  have c2 : w2.cell? ⟨p, 2, none⟩ = some (.map (some bs)) := (BD2.out.cell 2).trans rfl
  have l3 := MS2.out.look mrNames strK Tryz.underlying130 (zero_int w2) hl
  have e3 : lookV iV' (.int .i64 0) (d.se nm) = .int .i64 sv := by
    rw [HSV.out]
    cases d.se nm <;> rfl
  rw [e3] at l3
  unfold sV at l3
  have hw3 : okInt (sv + 1) := ⟨by omega, by omega⟩
  clear hf2 hc2 e3 c1 BD1 MN1
  go_wp2_with ((at_mapUpdate; go_must (refine update_fm rfl _ _ _ rfl mrNames strK Tryz.underlying130 bs q d.se rfl MS2.out (by unfold maxLen; omega) nm hl (sv + 1) hw3 rfl rfl ?_); intro w3 hf3 hc3; refine halt ?_))
  refine unhalt ?_
  have HF : Hid (NamedQ W N p (q + 1) (d.named i nm x) bf bn bs fl g (.returned (.tuple #[])) w3) := Lib.hid (by
    have hlo := H.out.lo
    have hne := HNE.out
    have hf := H.out
    have C3 := hc3
    have hW1 := C1.out.size
    have hW2 := C2.out.size
    have cAll : Chg (fun b => b = g ∨ b = bn ∨ b = bs) W w3 := ((C1.out.mono (fun _ _ e => .inl e)).trans C2.out (fun _ _ e => .inr (.inl e))).trans C3 (fun _ _ e => .inr (.inr e))
    have cTail : Chg (fun b => b = bn ∨ b = bs) w1 w3 := (C2.out.mono (fun _ _ e => .inl e)).trans C3 (fun _ _ e => .inr e)
    have hb1 : Blk w1 g 182 (fcells { x with nm := nm } v) := by
      rw [HW1.out]
      exact HBK.out.set_ 0 (.string (strB nm))
    have hsep : ∀ (v : Value) (l : List UInt8) (y : Fl), OB W N v l → Blk W g 182 (fcells x v) ∨ True → ∀ k, v.ownBlock = some k → ¬ (k = g ∨ k = bn ∨ k = bs) := fun v l y ho _ k hk e => by
      rcases e with e | e | e
      · exact HBK.out.apart ho (by decide) (by rw [hk, e])
      · exact hf.mn.ne_own ho (by rw [hk, e])
      · exact hf.ms.ne_own ho (by rw [hk, e])
    have hfw : ∀ j g' y, fl j = some g' → d.fs j = some y → N ≤ g' ∧ FW w3 N g' (if j = i then { x with nm := nm } else y) := fun j g' y hj hy => by
      obtain ⟨hn1, v', hb', ho'⟩ := hf.fw j g' y hj hy
      have hn2 := hf.mn.ne_blk hb'
      have hn3 := hf.ms.ne_blk hb'
      refine ⟨hn1, ?_⟩
      by_cases e : j = i
      · rw [if_pos e]
        subst e
        rw [HG.out] at hj
        obtain rfl := Option.some.inj hj
        exact ⟨v, hb1.chg cTail (fun e => by rcases e with e | e; exact hn2 e; exact hn3 e), (cAll.ob HOB.out (hsep v _ x HOB.out (.inr trivial)))⟩
      · rw [if_neg e]
        exact ⟨v', hb'.chg cAll (fun e2 => by
          rcases e2 with e2 | e2 | e2
          · exact e (hf.ap j i g' hj (by rw [e2]; exact HG.out))
          · exact hn2 e2
          · exact hn3 e2), cAll.ob ho' (hsep v' _ y ho' (.inr trivial))⟩
    have hfs : ∀ j, (d.named i nm x).fs j = if j = i then some { x with nm := nm } else d.fs j := fun j => by
      show putM d.fs i _ j = _
      by_cases e : j = i
      · rw [e, putM_same, if_pos rfl]
      · rw [putM_other _ _ e, if_neg e]
    have hby : ∀ j g' k, fl j = some g' → bytesAt w3 g' k → bytesAt W g' k := fun j g' k hj hb => by
      obtain ⟨y, hy, _, v', hb', ho'⟩ := hf.at_ hj
      have hn2 := hf.mn.ne_blk hb'
      have hn3 := hf.ms.ne_blk hb'
      obtain ⟨u, h1, h2⟩ := hb
      refine ⟨u, ?_, h2⟩
      by_cases e : g' = g
      · rw [← h1, e]
        have := (hb1.chg cTail (fun e => by rcases e with e | e; exact (hf.mn.ne_blk HBK.out) e; exact (hf.ms.ne_blk HBK.out) e)).cell 1
        rw [this, HBK.out.cell 1]; rfl
      · rw [← h1, cAll.cell (p := ⟨g', 1, none⟩) hb'.lt (fun e2 => by
          rcases e2 with e2 | e2 | e2
          · exact e e2
          · exact hn2 e2
          · exact hn3 e2)]
    refine ⟨rfl, ⟨BD2.out.chg C3 (fun e => hne.2.2.2.2.2 e), ((((hf.mf.chg C1.out (fun e => hne.2.1 e.symm)).chg C2.out (fun e => hlo.2.2.2.2.1 e)).chg C3 (fun e => hlo.2.2.2.2.2.1 e)).mono (Nat.le_succ _)), MN2.out.chg C3 (fun e => hlo.2.2.2.2.2.2 e), ?_, hlo, fun j => ?_, fun j g' y hj hy => ?_, hf.ap, fun j j' g1 g2 k h1 h2 h3 h4 => hf.ab j j' g1 g2 k h1 h2 (hby j g1 k h1 h3) (hby j' g2 k h2 h4)⟩, cAll, fun j g' hj => .inl ⟨hj, fun k hk => .inl (hby j g' k hj hk)⟩⟩
    · show FM _ _ _ _ _ _ _ _ (putM d.se nm ((d.se nm).getD 0 + 1))
      rw [← HSV.out]
      exact hf3
    · rw [hfs j]
      by_cases e : j = i
      · rw [if_pos e, e, HG.out]; rfl
      · rw [if_neg e]; exact hf.hf j
    · rw [hfs j] at hy
      by_cases e : j = i
      · rw [if_pos e] at hy
        have := hfw j g' x hj (by rw [e]; exact HX.out)
        rw [if_pos e] at this
        obtain rfl := Option.some.inj hy
        exact this
      · rw [if_neg e] at hy
        have := hfw j g' y hj hy
        rw [if_neg e] at this
        exact this)
  clear hf3 hc3
  go_wp2_with fail
  go_end0
  exact HF.out
end Go.Proofs.YtlojmmcagglpoaaGreat
namespace Go.Proofs.YtlojmmcagglpoaaGreat
open Go.RowKit Go.Maps
structure Dk.Ok (d : Dk) (n : Nat) : Prop where
  no : d.no ≤ n
  big : n < 1000000
  int : ∀ nm i, d.ns nm = some i → 1 ≤ i ∧ i ≤ d.no
  ser : ∀ nm v, d.se nm = some v → 1 ≤ v ∧ v ≤ n
  at_ : ∀ nm i, d.ns nm = some i → ∃ x, d.fs i = some x ∧ x.nm = nm
  len : ∀ i x, d.fs i = some x → x.by_.length ≤ 1048576
  back : ∀ i x, d.fs i = some x → d.ns x.nm = some i
  nok : ∀ i x, d.fs i = some x → okName x.nm
  la : ∀ i x, d.fs i = some x → x.la ≤ x.by_.length
  ge : ∀ i x, d.fs i = some x → x.ge ≤ n
  has : ∀ nm i, d.ns nm = some i → ∃ v, d.se nm = some v
theorem Dk.Ok.ser0 {d : Dk} {n : Nat} (h : d.Ok n) (nm : List UInt8) (v : Int) (hv : d.se nm = some v) : 0 ≤ v ∧ v ≤ 1000000 := by
  have := h.ser nm v hv
  have := h.big
  omega
theorem Dk.Ok.okInt {d : Dk} {n : Nat} (h : d.Ok n) (nm : List UInt8) (i : Int) (hi : d.ns nm = some i) : okInt i := by
  have := h.int nm i hi
  have h1 := h.no
  have h2 := h.big
  exact ⟨by omega, by omega⟩
noncomputable def Dk.app (d : Dk) (i : Int) (x : Fl) (l : List UInt8) : Dk := { d with fs := putM d.fs i { x with by_ := x.by_ ++ l } }
inductive AppQ (W : World) (N p q : Nat) (d : Dk) (bf bn bs : Nat) (fl : Int → Option Nat) (nm l : List UInt8) (e : Ending) (w' : World) : Prop
  | none : d.ns nm = none → e = .returned (.int .i64 141) → Below W.heap.size W w' → AppQ W N p q d bf bn bs fl nm l e w'
  | full (i : Int) (x : Fl) : d.ns nm = some i → d.fs i = some x → 1048576 < x.by_.length + l.length → e = .returned (.int .i64 145) → Below W.heap.size W w' → AppQ W N p q d bf bn bs fl nm l e w'
  | done (i : Int) (x : Fl) (g : Nat) : d.ns nm = some i → d.fs i = some x → fl i = some g → x.by_.length + l.length ≤ 1048576 → e = .returned (.int .i64 0) → DW w' N p q (d.app i x l) bf bn bs fl → Chg (fun b => b = g ∨ bytesAt W g b) W w' → Gr W fl w' fl → AppQ W N p q d bf bn bs fl nm l e w'
set_option maxRecDepth 20000 in
set_option maxHeartbeats 1000000 in
theorem append_any {W : World} {N p q qq : Nat} {d : Dk} {bf bn bs : Nat} {fl : Int → Option Nat} (h : DW W N p q d bf bn bs fl) (hd : d.Ok qq) (nm : List UInt8) (hl : okName nm) (hm : MayC nm true) (A : Option Addr) (n c : Nat) (l : List UInt8) (hr : RB W A n l) (hn : n ≤ 1000000000) :
    Calls Tryz.prog 47 #[.pointer (some ⟨p, 0, none⟩), .string (strB nm), .slice A n c] W (AppQ W N p q d bf bn bs fl nm l) := by
  have OF := Lib.hid (of_any h hd.okInt nm hl hm)
  have H := Lib.hid h; have HD := Lib.hid hd; have HR := Lib.hid hr; have HN := Lib.hid hn
  clear h hd hm hr hn
  go_enter Tryz.func47, Tryz.ntmps47
  go_wp2_with fail
  refine OF.out.mono ?_
  rintro e w1 ⟨hb, hq⟩
  have HB := Lib.hid hb
  have H1 := Lib.hid (H.out.keep hb)
  have R1 := Lib.hid ((Chg.of_below hb (fun _ => False)).rb HR.out (fun _ _ _ e => e))
  rcases hq with ⟨h1, rfl⟩ | ⟨i, h1, rfl⟩
  · have HF : Hid (AppQ W N p q d bf bn bs fl nm l (.returned (.int .i64 141)) w1) := Lib.hid (.none h1 rfl hb)
    clear h1 hb OF
    go_wp2_with fail
    go_ret
    exact HF.out
  · obtain ⟨x, hx, _⟩ := HD.out.at_ nm i h1
    obtain ⟨g, hg⟩ : ∃ g, fl i = some g := by
      have := H.out.hf i
      rw [hx] at this
      exact Option.isSome_iff_exists.1 this
    rw [hg]
    unfold lookV pV
    obtain ⟨hNg, v, hbk, ho⟩ := H1.out.fw i g x hg hx
    have hlen := HD.out.len i x hx
    obtain ⟨Av, cv, rfl, hcap, hcap2, _⟩ := OB.form ho
    have HBK := Lib.hid hbk; have HOB := Lib.hid ho; have HG := Lib.hid hg; have HX := Lib.hid hx; have HNM := Lib.hid h1
    have g1 : w1.cell? ⟨g, 1, none⟩ = some (.slice Av x.by_.length cv) := (hbk.cell 1).trans rfl
    have f1 : w1.frozen? ⟨g, 1, none⟩ = false := hbk.frozen 1
    have hn : l.length = n := HR.out.1
    subst hn
    have hnl := HN.out
    obtain ⟨m, hm⟩ : ∃ m, m = x.by_.length := ⟨_, rfl⟩
    rw [← hm] at hlen g1 hcap
    obtain ⟨k, hk⟩ : ∃ k, k = l.length := ⟨_, rfl⟩
    rw [← hk] at hnl
    rw [← hk]
    have HM := Lib.hid hm; have HK := Lib.hid hk
    clear hm hk hbk ho hg hx h1 hb OF
    by_cases hf : 1048576 < m + k
    · have HF : Hid (AppQ W N p q d bf bn bs fl nm l (.returned (.int .i64 145)) w1) := Lib.hid (.full i x HNM.out HX.out (by rw [← HM.out, ← HK.out]; exact hf) rfl HB.out)
      have hc : (1048576 - (m : Int)) < (k : Int) := by omega
      go_wp2_with fail
      go_ret
      exact HF.out
    · have hc : ¬ (1048576 - (m : Int)) < (k : Int) := by omega
      go_wp2_with ((at_builtin; go_must (refine append_bytes rfl (.tmp 31) (.tmp 32) rfl N (.slice Av m cv) x.by_ rfl (by rw [HM.out]; exact HOB.out) A k c l rfl (by rw [HK.out]; exact R1.out) (by rw [← HM.out]; omega) (by have := H1.out.lo.1; have := H1.out.bd.lt; omega) ?_); intro v3 w3 ho3 hg3 ha3; refine halt ?_))
      refine unhalt ?_
      have O3 := Lib.hid ho3; have G3 := Lib.hid hg3; have A3 := Lib.hid ha3
      have hbg : (Value.slice Av m cv).ownBlock ≠ some g := by
        rw [HM.out]
        exact HBK.out.apart HOB.out (by decide)
      have B3 := Lib.hid (HBK.out.grown hg3 hbg)
      have c3 : w3.cell? ⟨g, 1, none⟩ = some (.slice Av x.by_.length cv) := (B3.out.cell 1).trans rfl
      have f3 : w3.frozen? ⟨g, 1, none⟩ = false := B3.out.frozen 1
      obtain ⟨A3', cap3, hv3, _⟩ := own_form ho3
      have HV3 := Lib.hid hv3
      have HBG := Lib.hid hbg
      clear ho3 hg3 ha3 hv3 hbg
      rw [HV3.out]
      have HF : Hid (AppQ W N p q d bf bn bs fl nm l (.returned (.int .i64 0)) (w3.setCell ⟨g, 1, none⟩ (.slice A3' (x.by_ ++ l).length cap3))) := Lib.hid (by
        rw [← HV3.out]
        obtain ⟨_, v0, hb0, ho0⟩ := H.out.fw i g x HG.out HX.out
        have hv0 : ∀ k, bytesAt W g k → v0.ownBlock = some k := fun k hk => by
          obtain ⟨u, h1, h2⟩ := hk
          rw [hb0.cell 1] at h1
          have : v0 = u := Option.some.inj h1
          rw [this]; exact h2
        have hold : ∀ k, (Value.slice Av m cv).ownBlock = some k → bytesAt W g k := fun k hk => bytesAt.back hb0.lt HB.out ⟨_, (HBK.out.cell 1).trans rfl, by rw [← HM.out]; exact hk⟩
        have C3 : Chg (fun b => b = g ∨ bytesAt W g b) w1 w3 := (Chg.refl _ w1).grown G3.out (fun k hk _ => .inr (hold k hk))
        have cAll : Chg (fun b => b = g ∨ bytesAt W g b) W (w3.setCell ⟨g, 1, none⟩ v3) := Chg.setCell ((Chg.of_below HB.out _).trans C3 (fun _ _ e => e)) (.inl (.inl rfl)) v3
        have hf := H.out
        have hvg : v3.ownBlock ≠ some g := fun e => by
          rcases A3.out with h | h
          · exact HBG.out (by rw [← h, e])
          · rw [e] at h
            have := HBK.out.lt
            have := Option.some.inj h
            omega
        have hfb : ∀ {k : Nat}, k ≠ g → v0.ownBlock ≠ some k → ¬ (k = g ∨ bytesAt W g k) := fun h1 h2 e => e.elim h1 (fun e => h2 (hv0 _ e))
        have hsz := HB.out.size
        have hoth : ∀ j g' y, j ≠ i → fl j = some g' → d.fs j = some y → N ≤ g' ∧ g' < W.heap.size ∧ ¬ (g' = g ∨ bytesAt W g g') ∧ FW (w3.setCell ⟨g, 1, none⟩ v3) N g' y := fun j g' y hne hj hy => by
          obtain ⟨hn1, v', hb', ho'⟩ := hf.fw j g' y hj hy
          have hg' : g' ≠ g := fun e => hne (hf.ap j i g' hj (by rw [e]; exact HG.out))
          have hnn := hfb hg' (hb'.apart ho0 (by decide))
          refine ⟨hn1, hb'.lt, hnn, v', hb'.chg cAll hnn, cAll.ob ho' (fun k hk e => ?_)⟩
          rcases e with e | e
          · exact hb0.apart ho' (by decide) (by rw [hk, e])
          · exact hne (hf.ab j i g' g k hj HG.out ⟨v', (hb'.cell 1).trans rfl, hk⟩ e)
        have hby : ∀ j g' k, j ≠ i → fl j = some g' → bytesAt (w3.setCell ⟨g, 1, none⟩ v3) g' k → bytesAt W g' k ∧ k < W.heap.size := fun j g' k hne hj hk => by
          obtain ⟨y, hy, _, v', hb', ho'⟩ := hf.at_ hj
          obtain ⟨_, _, hnn, _⟩ := hoth j g' y hne hj hy
          obtain ⟨u, h1, h2⟩ := hk
          rw [cAll.cell (p := ⟨g', 1, none⟩) hb'.lt hnn] at h1
          refine ⟨⟨u, h1, h2⟩, ?_⟩
          rw [hb'.cell 1] at h1
          have : v' = u := Option.some.inj h1
          subst this
          exact (ho'.lt k h2).2
        have hB4 : Blk (w3.setCell ⟨g, 1, none⟩ v3) g 182 (fcells { x with by_ := x.by_ ++ l } v3) := B3.out.set_ 1 v3
        have hbi : ∀ k, bytesAt (w3.setCell ⟨g, 1, none⟩ v3) g k → bytesAt W g k ∨ W.heap.size ≤ k := fun k hk => by
          obtain ⟨u, h1, h2⟩ := hk
          rw [hB4.cell 1] at h1
          have : v3 = u := Option.some.inj h1
          subst this
          rcases A3.out with h | h
          · exact .inl (hold k (by rw [← h, h2]))
          · rw [h2] at h
            have := Option.some.inj h
            exact .inr (by omega)
        have hfs : ∀ j, (d.app i x l).fs j = if j = i then some { x with by_ := x.by_ ++ l } else d.fs j := fun j => by
          show putM d.fs i _ j = _
          by_cases e : j = i
          · rw [e, putM_same, if_pos rfl]
          · rw [putM_other _ _ e, if_neg e]
        refine .done i x g HNM.out HX.out HG.out (by rw [← HM.out, ← HK.out]; omega) rfl ⟨hf.bd.chg cAll (hfb (hf.bd.ne_type hb0 (by decide)) (hf.bd.apart ho0 (by decide))), hf.mf.chg cAll (hfb (hf.mf.ne_blk hb0).symm (hf.mf.ne_own ho0)), hf.mn.chg cAll (hfb (hf.mn.ne_blk hb0).symm (hf.mn.ne_own ho0)), hf.ms.chg cAll (hfb (hf.ms.ne_blk hb0).symm (hf.ms.ne_own ho0)), hf.lo, fun j => ?_, fun j g' y hj hy => ?_, hf.ap, fun j j' g1 g2 k h1 h2 h3 h4 => ?_⟩ cAll ?_
        · rw [hfs j]
          by_cases e : j = i
          · rw [if_pos e, e, HG.out]; rfl
          · rw [if_neg e]; exact hf.hf j
        · rw [hfs j] at hy
          by_cases e : j = i
          · rw [if_pos e] at hy
            rw [e, HG.out] at hj
            obtain rfl := Option.some.inj hj
            obtain rfl := Option.some.inj hy
            exact ⟨hNg, v3, hB4, O3.out.set_far hvg v3⟩
          · rw [if_neg e] at hy
            obtain ⟨h1, _, _, h2⟩ := hoth j g' y e hj hy
            exact ⟨h1, h2⟩
        · by_cases e : j = i
          · by_cases e' : j' = i
            · rw [e, e']
            · rw [e, HG.out] at h1
              obtain rfl := Option.some.inj h1
              obtain ⟨h5, h6⟩ := hby j' g2 k e' h2 h4
              rcases hbi k h3 with h | h
              · exact e.trans (hf.ab i j' g g2 k HG.out h2 h h5)
              · omega
          · obtain ⟨h5, h6⟩ := hby j g1 k e h1 h3
            by_cases e' : j' = i
            · rw [e', HG.out] at h2
              obtain rfl := Option.some.inj h2
              rcases hbi k h4 with h | h
              · exact (hf.ab j i g1 g k h1 HG.out h5 h).trans e'.symm
              · omega
            · exact hf.ab j j' g1 g2 k h1 h2 h5 (hby j' g2 k e' h2 h4).1
        · intro j g' hj
          refine .inl ⟨hj, fun k hk => ?_⟩
          by_cases e : j = i
          · rw [e, HG.out] at hj
            obtain rfl := Option.some.inj hj
            exact hbi k hk
          · exact .inl (hby j g' k e hj hk).1)
      go_wp2_with fail
      go_ret
      have HE := HF.out
      rw [List.length_append] at HE
      exact HE
end Go.Proofs.YtlojmmcagglpoaaGreat
