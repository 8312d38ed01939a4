/- THE WALK of the law StoreOwn. -/
import Derived.Test.YthhbfjhgmdnpbaaStoreKnown
import Derived.Test.YthhbfjhgmdnpbaaOwnSegs
import Derived.Test.YthhbfjhgmdnpbaaConv
import Derived.Deep.DrawnRows
namespace Go.Proofs.Ythhbfjhgmdnpbaa
open Go.RowKit Go.Maps
def nOne : List UInt8 := [111, 110, 101]
def nTwo : List UInt8 := [116, 119, 111]
theorem okOne : okName nOne := by unfold okName; decide
theorem okTwo : okName nTwo := by unfold okName; decide
theorem mayOne : mayB nOne = true := mayB_of (by decide)
theorem mayTwo : mayB nTwo = true := mayB_of (by decide)
theorem neOneTwo : nOne ≠ nTwo := by decide
/-- a disk of colour 1 in memory of the call's own -/
structure DS (w0 W : World) (C : Nat → Nat) (p n : Nat) (d : Dk) : Prop where
  bel : Below w0.heap.size w0 W
  sam : Sam w0.heap.size (fun _ => 0) C
  dc : DC W w0.heap.size C 1 p n d
theorem DS.keep {w0 W w' : World} {C : Nat → Nat} {p n : Nat} {d : Dk} (h : DS w0 W C p n d) (hb : Below W.heap.size W w') : DS w0 w' C p n d := ⟨h.bel.trans (hb.mono h.bel.size), h.sam, h.dc.keep hb (Sam.refl _ _)⟩
theorem DS.step {w0 W w' : World} {C : Nat → Nat} {p n n' : Nat} {d : Dk} (h : DS w0 W C p n d) {r : Int × Dk} {e : Ending} (hq : StepQ W w0.heap.size C 1 p n' r e w') : DS w0 w' (paint C W.heap.size 1) p n' r.2 :=
  ⟨h.bel.trans (hq.2.2.below (fun k hk e => by have := h.sam k hk; rw [e] at this; cases this) h.bel.size), h.sam.trans (sam_paint _ _ _) h.bel.size, hq.2.1⟩
theorem DS.chg {w0 W w' : World} {C C' : Nat → Nat} {p n : Nat} {d : Dk} (h : DS w0 W C p n d) {S : Nat → Prop} (hc : Chg S W w') (hs : Sam W.heap.size C C') (hS : ∀ b, S b → C b ≠ 1 ∧ w0.heap.size ≤ b) : DS w0 w' C' p n d :=
  ⟨h.bel.trans (hc.below (fun k hk e => by have := (hS k e).2; omega) h.bel.size), h.sam.trans hs h.bel.size, h.dc.step hc hs (fun b hb => (hS b hb).1)⟩
theorem DS.keep2 {w0 W w' : World} {C C' : Nat → Nat} {p n : Nat} {d : Dk} (h : DS w0 W C p n d) (hb : Below W.heap.size W w') (hs : Sam W.heap.size C C') : DS w0 w' C' p n d := h.chg (Chg.of_below hb (fun _ => False)) hs (fun _ h => h.elim)
theorem own_chg {W w' : World} {v : Value} (hg : W.grownBy w' v.ownBlock) : Chg (fun k => v.ownBlock = some k) W w' := (Chg.refl _ W).grown hg (fun _ hk _ => hk)
theorem mkC_int {i : Nat} (h : i ≤ 3) : (200 + (i : Int)) = ((mkC i).toNat : Int) := by
  unfold mkC
  rw [UInt8.toNat_ofNat_of_lt' (by show 200 + i < 256; omega)]
  omega
theorem SG.unfrozen {w : World} {b off n c k : Nat} {l : List UInt8} (h : SG w (.slice (some ⟨b, off, none⟩) n c) l) (hk : k < c) : w.frozen? ⟨b, off + k, none⟩ = false := by
  obtain ⟨A', n', c', e, _, _, _, h⟩ := h
  injection e with e1 e2 e3
  rcases h with h | ⟨b', off', cur, e', hbb, _⟩
  · omega
  · rw [← e1] at e'
    obtain ⟨rfl, rfl⟩ : b = b' ∧ off = off' := by simpa using e'
    exact hbb.frozen _
/-- the state of the loops that write the lists over -/
structure WO (w0 W : World) (C : Nat → Nat) (p n : Nat) (d : Dk) (h8 gL cL : Nat) (us : List Value) (l3 ls : List (List UInt8)) (j k : Nat) : Prop where
  ds : DS w0 W C p n d
  ll : LS W h8 C 3 (.slice (some ⟨gL, 0, none⟩) 3 cL) us ls
  mm : mks ls j k
  ln : ls.map List.length = l3.map List.length
theorem WO.len {w0 W : World} {C : Nat → Nat} {p n : Nat} {d : Dk} {h8 gL cL : Nat} {us : List Value} {l3 ls : List (List UInt8)} {j k : Nat} (h : WO w0 W C p n d h8 gL cL us l3 ls j k) : us.length = 3 ∧ ls.length = 3 := by
  have h1 : us.length = 3 := by
    obtain ⟨A, cap, e, _⟩ := own_form h.ll.own
    injection e with _ e _
    exact e.symm
  exact ⟨h1, by rw [← h.ll.len, h1]⟩
theorem WO.put {w0 W : World} {C : Nat → Nat} {p n : Nat} {d : Dk} {h8 gL cL : Nat} {us : List Value} {l3 ls : List (List UInt8)} {j k b off m c : Nat} {l : List UInt8} (h : WO w0 W C p n d h8 gL cL us l3 ls j k) (h8' : w0.heap.size ≤ h8) (hu : us[j]? = some (.slice (some ⟨b, off, none⟩) m c)) (hl : ls[j]? = some l) (hk : k < l.length) :
    WO w0 (W.setCell ⟨b, off + k, none⟩ (byteV (mkC j))) C p n d h8 gL cL us l3 (ls.set j (l.set k (mkC j))) j (k + 1) := by
  have hmc : l.length ≤ c := by
    obtain ⟨A, c', e, h1, _⟩ := (h.ll.el j _ l hu hl).1.form
    injection e with _ _ e
    omega
  obtain ⟨h1, h2, h3⟩ := h.ll.put (k := k) (by decide) hu hl (by omega) (mkC j)
  have hc : Chg (fun q => q = b) W (W.setCell ⟨b, off + k, none⟩ (byteV (mkC j))) := Chg.setCell (S := fun q => q = b) (p := ⟨b, off + k, none⟩) (Chg.refl _ W) (.inl rfl) _
  refine ⟨h.ds.chg hc (Sam.refl _ _) (fun q hq => ⟨by rw [hq, h3]; omega, by rw [hq]; omega⟩), h1, h.mm.set hl, ?_⟩
  rw [List.map_set, List.length_set, ← h.ln]
  obtain ⟨hj, e⟩ := List.getElem?_eq_some_iff.1 hl
  rw [← e]
  apply List.ext_getElem?
  intro i
  by_cases hi : i = j
  · subst hi
    rw [List.getElem?_set_self (by simpa using hj), List.getElem?_map, List.getElem?_eq_getElem hj]; rfl
  · rw [List.getElem?_set_ne (fun h => hi h.symm)]
/-- the longer lists are their marks -/
def GS (ls gs : List (List UInt8)) : Prop := ∀ (i : Nat) (l g : List UInt8), ls[i]? = some l → gs[i]? = some g → g = List.replicate (l.length + 40) (mkC i)
/-- a list that grew out of u by m bytes lies in u's room, or elsewhere -/
def Sh (u cur : Value) (n m : Nat) : Prop := (∃ b off c, u = .slice (some ⟨b, off, none⟩) n c ∧ cur = .slice (some ⟨b, off, none⟩) (n + m) c) ∨ ∀ b o o', SegIn cur b o → ¬ SegIn u b o'
structure LO (w0 W : World) (C : Nat → Nat) (p q : Nat) (d : Dk) (h8 gL cL : Nat) (us : List Value) (ls : List (List UInt8)) (vM : Value) (ms : List Value) (gs : List (List UInt8)) : Prop where
  ds : DS w0 W C p q d
  ll : LS W h8 C 3 (.slice (some ⟨gL, 0, none⟩) 3 cL) us ls
  lm : LS W h8 C 4 vM ms gs
  gg : GS ls gs
structure LC (W : World) (C : Nat → Nat) (h8 : Nat) (j n m : Nat) (u cur : Value) : Prop where
  cu : SG W cur (List.replicate (n + m) (mkC j))
  cc : ∀ b o, SegIn cur b o → h8 ≤ b ∧ C b = 10 + j
  sh : Sh u cur n m
section
variable {w0 W w' : World} {C C' : Nat → Nat} {p q : Nat} {d : Dk} {h8 gL cL : Nat} {us : List Value} {ls : List (List UInt8)} {vM : Value} {ms : List Value} {gs : List (List UInt8)} {j n m : Nat} {u cur : Value}
theorem LO.keep (h : LO w0 W C p q d h8 gL cL us ls vM ms gs) (hb : Below W.heap.size W w') (hs : Sam W.heap.size C C') : LO w0 w' C' p q d h8 gL cL us ls vM ms gs :=
  ⟨h.ds.keep2 hb hs, h.ll.keep hb hs, h.lm.keep hb hs, h.gg⟩
theorem LC.keep (h : LC W C h8 j n m u cur) (hb : Below W.heap.size W w') (hs : Sam W.heap.size C C') : LC w' C' h8 j n m u cur :=
  ⟨h.cu.keep hb, fun b o hbo => ⟨(h.cc b o hbo).1, by rw [hs b (h.cu.lt hbo)]; exact (h.cc b o hbo).2⟩, h.sh⟩
theorem LC.zero (h : LO w0 W C p q d h8 gL cL us ls vM ms gs) {l : List UInt8} (hu : us[j]? = some u) (hl : ls[j]? = some l) (hr : l = List.replicate l.length (mkC j)) : LC W C h8 j l.length 0 u u := by
  obtain ⟨h1, h2⟩ := h.ll.el j u l hu hl
  refine ⟨by rw [Nat.add_zero, ← hr]; exact h1, h2, ?_⟩
  obtain ⟨A, n', c, rfl, rfl, h3, h4, h5⟩ := h1
  rcases h5 with h0 | ⟨b, off, cur, rfl, _⟩
  · exact .inr (fun b o o' hs => absurd hs (by rw [h0]; exact segIn_nil))
  · exact .inl ⟨b, off, c, rfl, rfl⟩
theorem LO.push (h : LO w0 W C p q d h8 gL cL us ls vM ms gs) (hc : LC W C h8 j n m u cur) (h8' : w0.heap.size ≤ h8) (hz : h8 ≤ W.heap.size) (hms : ms.length = j) (hu : us[j]? = some u) (hcur : cur.ownBlock = cur.ownBlock) {u' : Value}
    (hp : (∃ b off c, cur = .slice (some ⟨b, off, none⟩) (List.replicate (n + m) (mkC j)).length c ∧ (List.replicate (n + m) (mkC j)).length < c ∧ u' = .slice (some ⟨b, off, none⟩) ((List.replicate (n + m) (mkC j)).length + 1) c ∧ w' = W.setCell ⟨b, off + (List.replicate (n + m) (mkC j)).length, none⟩ (byteV (mkC j))) ∨ (OB w' W.heap.size u' (List.replicate (n + m) (mkC j) ++ [mkC j]) ∧ Below W.heap.size W w')) :
    LO w0 w' (paint C W.heap.size (10 + j)) p q d h8 gL cL us ls vM ms gs ∧ LC w' (paint C W.heap.size (10 + j)) h8 j n (m + 1) u u' := by
  have hrep : List.replicate (n + m) (mkC j) ++ [mkC j] = List.replicate (n + (m + 1)) (mkC j) := by rw [← Nat.add_assoc, List.replicate_succ']
  rcases hp with ⟨b, off, c, rfl, hlt, rfl, rfl⟩ | ⟨ho, hb⟩
  · rw [List.length_replicate] at hlt ⊢
    obtain ⟨h1, h2, h3⟩ := hc
    rw [List.length_replicate] at h1 h2 h3
    have hcb := h2 b (off + (n + m)) ⟨off, _, c, rfl, by omega, by omega⟩
    have hS : ∀ k, C k = paint C W.heap.size (10 + j) k ∨ W.heap.size ≤ k := fun k => by
      by_cases hk : k < W.heap.size
      · exact .inl (paint_old C _ hk).symm
      · exact .inr (by omega)
    have hchg : Chg (fun q => q = b) W (W.setCell ⟨b, off + (n + m), none⟩ (byteV (mkC j))) := Chg.setCell (S := fun q => q = b) (p := ⟨b, off + (n + m), none⟩) (Chg.refl _ W) (.inl rfl) _
    have hbel : ∀ X : World, Below X.heap.size X X := fun X => Below.refl _ _
    have hpush := h1.push (by omega) (mkC j)
    have hll : LS (W.setCell ⟨b, off + (n + m), none⟩ (byteV (mkC j))) h8 C 3 (.slice (some ⟨gL, 0, none⟩) 3 cL) us ls := h.ll.room (by decide) hcb.2 (p := ⟨b, off + (n + m), none⟩) rfl _ (fun x l hx hl => by
      rw [hu] at hx
      obtain rfl := Option.some.inj hx
      obtain ⟨h4, _⟩ := h.ll.el j u l hu hl
      rcases h3 with ⟨b', off', c', e1, e2⟩ | h3
      · injection e2 with e2 e3 e4
        obtain ⟨rfl, rfl⟩ : b = b' ∧ off = off' := by simpa using e2
        subst e1
        exact h4.room (by omega) _
      · exact h4.chg hchg (fun b' o' hs e => h3 b (off + (n + m)) o' ⟨off, _, c, rfl, by omega, by omega⟩ (by rw [← e]; exact hs)))
    have hlm : LS (W.setCell ⟨b, off + (n + m), none⟩ (byteV (mkC j))) h8 C 4 vM ms gs := h.lm.room (by decide) hcb.2 (p := ⟨b, off + (n + m), none⟩) rfl _ (fun x l hx _ => by
      have := (List.getElem?_eq_some_iff.1 hx).1
      omega)
    have hs0 : Sam (W.setCell ⟨b, off + (n + m), none⟩ (byteV (mkC j))).heap.size C (paint C W.heap.size (10 + j)) := by
      have : (W.setCell ⟨b, off + (n + m), none⟩ (byteV (mkC j))).heap.size = W.heap.size := by simp [World.setCell]
      rw [this]; exact sam_paint _ _ _
    refine ⟨⟨(h.ds.chg hchg (Sam.refl _ _) (fun q hq => ⟨by rw [hq, hcb.2]; omega, by rw [hq]; omega⟩)).keep2 (Below.refl _ _) hs0, hll.keep (Below.refl _ _) hs0, hlm.keep (Below.refl _ _) hs0, h.gg⟩, ⟨?_, fun b' o hs => ?_, ?_⟩⟩
    · rw [hrep] at hpush
      exact hpush.1
    · obtain ⟨off', n', c', e, h5, h6⟩ := hs
      injection e with e1 e2 e3
      obtain ⟨rfl, rfl⟩ : b = b' ∧ off = off' := by simpa using e1
      have hlt := h1.lt (b := b) (o := off + (n + m)) ⟨off, _, c, rfl, by omega, by omega⟩
      exact ⟨hcb.1, by rw [paint_old C _ hlt]; exact hcb.2⟩
    · rcases h3 with ⟨b', off', c', e1, e2⟩ | h3
      · injection e2 with e2 e3 e4
        obtain ⟨rfl, rfl⟩ : b = b' ∧ off = off' := by simpa using e2
        subst e4
        exact .inl ⟨b, off, c, e1, rfl⟩
      · refine .inr (fun b' o o' hs => ?_)
        obtain ⟨off', n', c', e, h5, h6⟩ := hs
        injection e with e1 e2 e3
        obtain ⟨rfl, rfl⟩ : b = b' ∧ off = off' := by simpa using e1
        exact h3 b o o' ⟨off, _, c, rfl, h5, by omega⟩
  · obtain ⟨h1, h2⟩ := SG.of_ob ho
    rw [hrep] at h1
    refine ⟨h.keep hb (sam_paint _ _ _), ⟨h1, fun b o hs => ⟨Nat.le_trans hz (h2 b o hs).1, paint_new C _ (h2 b o hs).1⟩, .inr (fun b o o' hs hs' => ?_)⟩⟩
    obtain ⟨l, hl⟩ : ∃ l, ls[j]? = some l := ⟨_, List.getElem?_eq_getElem (by rw [← h.ll.len]; exact (List.getElem?_eq_some_iff.1 hu).1)⟩
    have := (h.ll.el j u l hu hl).1.lt hs'
    have := (h2 b o hs).1
    omega
theorem LO.next (h : LO w0 W C p q d h8 gL cL us ls vM ms gs) (hc : LC W C h8 j n 40 u cur) (h8' : w0.heap.size ≤ h8) (hms : ms.length = j) {l : List UInt8} (hl : ls[j]? = some l) (hn : l.length = n) {v' : Value} (ho : w'.ownsRow h8 29 1 v' (ms ++ [cur]).length (ms ++ [cur])) (hg : W.grownBy w' vM.ownBlock) (ha : v'.ownBlock = vM.ownBlock ∨ v'.ownBlock = some W.heap.size) :
    LO w0 w' (paint C W.heap.size 4) p q d h8 gL cL us ls v' (ms ++ [cur]) (gs ++ [List.replicate (n + 40) (mkC j)]) := by
  have hS : ∀ b, vM.ownBlock = some b → C b = 4 ∧ h8 ≤ b := fun b hb => ⟨h.lm.col b hb, (h.lm.own.lt b hb).1⟩
  refine ⟨h.ds.chg (own_chg hg) (sam_paint _ _ _) (fun b hb => ⟨by rw [(hS b hb).1]; decide, Nat.le_trans h8' (hS b hb).2⟩), h.ll.step (own_chg hg) (sam_paint _ _ _) (fun b hb => by rw [(hS b hb).1]; decide), ?_, fun i l' g hi hgi => ?_⟩
  · have := h.lm.snoc (by decide) hc.cu (fun b o hb => by rw [hms]; exact hc.cc b o hb) ho hg ha
    exact this
  · rcases get_snoc hgi with ⟨h1, _⟩ | ⟨h1, rfl⟩
    · exact h.gg i l' g hi h1
    · have : i = j := by rw [h1, ← h.lm.len, hms]
      subst this
      rw [hl] at hi
      obtain rfl := Option.some.inj hi
      rw [hn]
end
theorem LO.hz {w0 W : World} {C : Nat → Nat} {p q : Nat} {d : Dk} {h8 gL cL : Nat} {us : List Value} {ls : List (List UInt8)} {vM : Value} {ms : List Value} {gs : List (List UInt8)} (h : LO w0 W C p q d h8 gL cL us ls vM ms gs) : h8 ≤ W.heap.size := by have := h.ll.own.lt gL rfl; omega
theorem info24 : (Try.prog.info? 29).map (fun i => (i.zero, i.size, i.bytes)) = some (some (.slice none 0 0), 1, 24) := by kernel_rfl
theorem emptyD_ns (nm : List UInt8) : emptyD.ns nm = none := rfl
set_option maxRecDepth 20000 in
set_option maxHeartbeats 4000000 in
theorem own_any (s0 s1 : ByteArray) (w : World) : Calls Try.prog 3 #[.string s0, .string s1] w (TrueQ w) := by
  have CK := Lib.hid (known_any w)
  have HNU := Lib.hid num_any
  go_enter Try.func3, Try.ntmps3
  go_wp2_with fail
  refine CK.out.mono ?_
  rintro e wk ⟨rfl, hbk⟩
  have BK := Lib.hid hbk
  have CN := Lib.hid (new_c wk (fun _ => 0) 1)
  clear hbk CK
  go_wp2_with fail
  refine CN.out.mono ?_
  rintro e w1 ⟨p, rfl, hp, hd, hb⟩
  have D1 : Hid (DS w w1 (paint (fun _ => 0) wk.heap.size 1) p 0 emptyD) := Lib.hid ⟨BK.out.trans (hb.mono BK.out.size), (sam_paint (fun _ => 0) wk.heap.size 1).mono BK.out.size, by
    obtain ⟨h0, bf, bn, bs, fl, h1, h2⟩ := hd
    have h3 : DW w1 w.heap.size p 0 emptyD bf bn bs fl := ⟨h1.bd, h1.mf, h1.mn, h1.ms, ⟨Nat.le_trans BK.out.size h1.lo.1, Nat.le_trans BK.out.size h1.lo.2.1, Nat.le_trans BK.out.size h1.lo.2.2.1, Nat.le_trans BK.out.size h1.lo.2.2.2.1, h1.lo.2.2.2.2⟩, h1.hf, fun i g x hi hx => (by cases hx), h1.ap, h1.ab⟩
    exact ⟨h0, bf, bn, bs, fl, h3, h2⟩⟩
  have C1 := Lib.hid (create_c D1.out.dc (by omega) nOne okOne)
  rw [Dk.create_ok nOne mayOne rfl] at C1
  clear hd hb hp CN
  go_wp2_with fail
  refine C1.out.mono ?_
  rintro e w2 hq
  have he := hq.1
  have D2 := Lib.hid (D1.out.step hq)
  subst he
  obtain ⟨CC2, hCC2⟩ : ∃ CC2, CC2 = paint (paint (fun _ => 0) wk.heap.size 1) w1.heap.size 1 := ⟨_, rfl⟩
  rw [← hCC2] at D2
  have HM1 : Hid ((emptyD.made nOne).file nOne = some (1, ⟨nOne, [], 0, 0⟩) ∧ (emptyD.made nOne).ns nTwo = none) := Lib.hid ⟨by rw [Dk.Ok.empty.file_made (emptyD_ns nOne), if_pos rfl]; rfl, by unfold Dk.made; rw [Dk.named_ns, if_neg neOneTwo.symm]; rfl⟩
  simp only at D2
  obtain ⟨d2, hd2⟩ : ∃ d2, d2 = emptyD.made nOne := ⟨_, rfl⟩
  rw [← hd2] at D2 HM1
  have C2 := Lib.hid (create_c D2.out.dc (by omega) nTwo okTwo)
  rw [Dk.create_ok nTwo mayTwo HM1.out.2] at C2
  clear hq C1 D1 hCC2 hd2
  go_wp2_with fail
  refine (HNU.out _ _).mono ?_
  rintro e w2' ⟨rfl, rfl⟩
  go_wp2_with fail
  refine C2.out.mono ?_
  rintro e w3 hq
  have he := hq.1
  have D3 := Lib.hid (D2.out.step hq)
  subst he
  obtain ⟨CC3, hCC3⟩ : ∃ CC3, CC3 = paint CC2 w2.heap.size 1 := ⟨_, rfl⟩
  rw [← hCC3] at D3
  have HM3 : Hid ((d2.made nTwo).file nOne = some (1, ⟨nOne, [], 0, 0⟩) ∧ ∃ i, (d2.made nTwo).file nTwo = some (i, ⟨nTwo, [], 0, 0⟩)) := Lib.hid ⟨by rw [D2.out.dc.ok.file_made HM1.out.2, if_neg neOneTwo]; exact HM1.out.1, _, by rw [D2.out.dc.ok.file_made HM1.out.2, if_pos rfl]⟩
  simp only at D3
  obtain ⟨d3, hd3⟩ : ∃ d3, d3 = d2.made nTwo := ⟨_, rfl⟩
  rw [← hd3] at D3 HM3
  clear hq C2 D2 HM1 hCC3 hd3
  go_wp2_with fail
  refine (HNU.out _ _).mono ?_
  rintro e w3' ⟨rfl, rfl⟩
  go_upto_region 6 with fail
  obtain ⟨k0, hk0⟩ : ∃ k0, k0 = min s0.size 3000 := ⟨_, rfl⟩
  obtain ⟨k1, hk1⟩ : ∃ k1, k1 = min s1.size 3000 := ⟨_, rfl⟩
  have hmin0 : ∀ w : World, (Builtin.min_ #[3, 3] 3 #[.int .i64 (s0.size : Int), .int .i64 3000]).run Try.prog w = .ok (.int .i64 (k0 : Int)) w := by
    intro w; rw [run_min_int2]; congr 2; omega
  have hmin1 : ∀ w : World, (Builtin.min_ #[3, 3] 3 #[.int .i64 (s1.size : Int), .int .i64 3000]).run Try.prog w = .ok (.int .i64 (k1 : Int)) w := by
    intro w; rw [run_min_int2]; congr 2; omega
  have hb0 : (0 : Int) ≤ (k0 : Int) := by omega
  have hb1 : (k0 : Int) ≤ (s0.size : Int) := by omega
  have hb2 : (0 : Int) ≤ (k1 : Int) := by omega
  have hb3 : (k1 : Int) ≤ (s1.size : Int) := by omega
  have HK : Hid (k0 = min s0.size 3000 ∧ k1 = min s1.size 3000) := Lib.hid ⟨hk0, hk1⟩
  clear hk0 hk1
  go_region
  obtain ⟨l0, hl0, hln0⟩ : ∃ l0 : List UInt8, s0.extract 0 k0 = strB l0 ∧ l0.length = k0 := ⟨_, rfl, by have := HK.out.1; show (s0.extract 0 k0).data.toList.length = _; simp; omega⟩
  obtain ⟨l1, hl1, hln1⟩ : ∃ l1 : List UInt8, s1.extract 0 k1 = strB l1 ∧ l1.length = k1 := ⟨_, rfl, by have := HK.out.2; show (s1.extract 0 k1).data.toList.length = _; simp; omega⟩
  rw [hl0, hl1]
  have HL : Hid (l0.length ≤ 3000 ∧ l1.length ≤ 3000) := Lib.hid ⟨by have := HK.out.1; omega, by have := HK.out.2; omega⟩
  clear hl0 hl1 hln0 hln1 hmin0 hmin1 hb0 hb1 hb2 hb3 HK
  have D4 : Hid (DS w w3.drew CC3 p (0 + 2 + 2) d3) := Lib.hid (D3.out.keep (Below.refl _ _).drew)
  obtain ⟨w4, b4, c4, hcv, hB4, hR4⟩ := conv_str w3.drew l0
  have D5 := Lib.hid (D4.out.keep hB4)
  have CA := Lib.hid (append_c D5.out.dc (by omega) nOne okOne (some ⟨b4, 0, none⟩) l0.length c4 l0 hR4 (by have := HL.out; omega))
  rw [Dk.append_ok mayOne HM3.out.1 (by have := HL.out.1; simp; omega)] at CA
  obtain ⟨m0, hm0⟩ : ∃ m0, m0 = l0.length := ⟨_, rfl⟩
  rw [← hm0] at hcv CA
  clear hB4 hR4 hm0
  go_wp2_with fail
  refine CA.out.mono ?_
  rintro e w5 hq
  have he := hq.1
  have D6 := Lib.hid (D5.out.step hq)
  subst he
  obtain ⟨CC5, hCC5⟩ : ∃ CC5, CC5 = paint CC3 w4.heap.size 1 := ⟨_, rfl⟩
  rw [← hCC5] at D6
  have HM5 : Hid ((∃ x, (d3.app 1 ⟨nOne, [], 0, 0⟩ l0).file nOne = some (1, x) ∧ x.by_ = l0) ∧ ∃ i, (d3.app 1 ⟨nOne, [], 0, 0⟩ l0).file nTwo = some (i, ⟨nTwo, [], 0, 0⟩)) := Lib.hid ⟨⟨_, by rw [D5.out.dc.ok.file_app HM3.out.1, if_pos rfl], rfl⟩, by
    obtain ⟨i, hi⟩ := HM3.out.2
    exact ⟨i, by rw [D5.out.dc.ok.file_app HM3.out.1, if_neg neOneTwo.symm]; exact hi⟩⟩
  simp only at D6
  obtain ⟨d5, hd5⟩ : ∃ d5, d5 = d3.app 1 ⟨nOne, [], 0, 0⟩ l0 := ⟨_, rfl⟩
  rw [← hd5] at D6 HM5
  clear hq D3 D4 D5 HM3 CA hcv hCC5 hd5
  obtain ⟨w6, b6, c6, hcv, hB6, hR6⟩ := conv_str w5 l1
  have D7 := Lib.hid (D6.out.keep hB6)
  obtain ⟨i2, hi2⟩ := HM5.out.2
  have CA := Lib.hid (append_c D7.out.dc (by omega) nTwo okTwo (some ⟨b6, 0, none⟩) l1.length c6 l1 hR6 (by have := HL.out; omega))
  rw [Dk.append_ok mayTwo hi2 (by have := HL.out.2; simp; omega)] at CA
  obtain ⟨m1, hm1⟩ : ∃ m1, m1 = l1.length := ⟨_, rfl⟩
  rw [← hm1] at hcv CA
  have HI2 := Lib.hid hi2
  clear hB6 hR6 hm1 hi2
  go_wp2_with fail
  refine (HNU.out _ _).mono ?_
  rintro e w5' ⟨rfl, rfl⟩
  go_wp2_with fail
  refine CA.out.mono ?_
  rintro e w7 hq
  have he := hq.1
  have D8 := Lib.hid (D7.out.step hq)
  subst he
  obtain ⟨CC7, hCC7⟩ : ∃ CC7, CC7 = paint CC5 w6.heap.size 1 := ⟨_, rfl⟩
  rw [← hCC7] at D8
  have HM7 : Hid ((∃ i x, (d5.app i2 ⟨nTwo, [], 0, 0⟩ l1).file nOne = some (i, x) ∧ x.by_ = l0) ∧ ∃ i x, (d5.app i2 ⟨nTwo, [], 0, 0⟩ l1).file nTwo = some (i, x) ∧ x.by_ = l1) := Lib.hid ⟨by
    obtain ⟨x, hx, hxl⟩ := HM5.out.1
    exact ⟨_, x, by rw [D7.out.dc.ok.file_app HI2.out, if_neg neOneTwo]; exact hx, hxl⟩, _, _, by rw [D7.out.dc.ok.file_app HI2.out, if_pos rfl], rfl⟩
  simp only at D8
  obtain ⟨d7, hd7⟩ : ∃ d7, d7 = d5.app i2 ⟨nTwo, [], 0, 0⟩ l1 := ⟨_, rfl⟩
  rw [← hd7] at D8 HM7
  have HLD : Hid (d7.load nOne = (l0, 0) ∧ d7.load nTwo = (l1, 0)) := Lib.hid (by
    obtain ⟨⟨i, x, h1, h2⟩, j, y, h3, h4⟩ := HM7.out
    exact ⟨by rw [Dk.load_ok mayOne h1, h2], by rw [Dk.load_ok mayTwo h3, h4]⟩)
  clear hq D6 D7 HM5 HM7 HI2 CA hcv hCC7 hd7
  go_wp2_with fail
  refine (HNU.out _ _).mono ?_
  rintro e w7' ⟨rfl, rfl⟩
  go_wp2_with fail
  obtain ⟨w8, hw8⟩ : ∃ w8, w8 = w7.alloc (.cells #[.string ⟨#[111, 110, 101]⟩, .string ⟨#[116, 119, 111]⟩, .string ⟨#[111, 110, 101]⟩] 9) := ⟨_, rfl⟩
  obtain ⟨bN, hbN⟩ : ∃ bN, bN = w7.heap.size := ⟨_, rfl⟩
  have BKN : Hid (Blk w8 bN 9 #[.string ⟨#[111, 110, 101]⟩, .string ⟨#[116, 119, 111]⟩, .string ⟨#[111, 110, 101]⟩]) := Lib.hid (by rw [hw8]; exact Blk.new w7 _ _ hbN)
  have D9 : Hid (DS w w8 CC7 p (0 + 2 + 2 + 2 + 2) d7) := Lib.hid (D8.out.keep (by rw [hw8]; exact (Below.refl _ _).alloc (Nat.le_refl _) _))
  rw [← hw8, ← hbN]
  have HNM : Hid (∀ k, k < 3 → ∃ nm lk, okName nm ∧ d7.load nm = (lk, 0) ∧ [l0, l1, l0][k]? = some lk ∧ w8.cell? ⟨bN, k, none⟩ = some (.string (strB nm))) := Lib.hid (fun k hk => by
    rcases (by omega : k = 0 ∨ k = 1 ∨ k = 2) with rfl | rfl | rfl
    · exact ⟨nOne, l0, okOne, HLD.out.1, rfl, (BKN.out.cell 0).trans rfl⟩
    · exact ⟨nTwo, l1, okTwo, HLD.out.2, rfl, (BKN.out.cell 1).trans rfl⟩
    · exact ⟨nOne, l0, okOne, HLD.out.1, rfl, (BKN.out.cell 2).trans rfl⟩)
  clear hw8 hbN BKN D8
  obtain ⟨h8, hh8⟩ : ∃ h8, h8 = w8.heap.size := ⟨_, rfl⟩
  have H8 : Hid (h8 = w8.heap.size ∧ w.heap.size ≤ h8) := Lib.hid ⟨hh8, by rw [hh8]; exact D9.out.bel.size⟩
  have HL3 : Hid (∀ l ∈ [l0, l1, l0], l.length ≤ 3000) := Lib.hid (fun l hl => by
    have := HL.out
    simp only [List.mem_cons, List.not_mem_nil, or_false] at hl
    rcases hl with rfl | rfl | rfl <;> omega)
  obtain ⟨l3, hl3⟩ : ∃ l3, l3 = [l0, l1, l0] := ⟨_, rfl⟩
  have HLL := Lib.hid hl3
  rw [← hl3] at HNM HL3
  have hlen3 : l3.length = 3 := by rw [hl3]; rfl
  clear hh8 hl3
  go_loopw [6, 66] (fun vl s66 W => ∃ k : Nat, k ≤ 3 ∧ s66 = .int .i64 (k : Int) ∧ ∃ C us, Hid (DS w W C p (0 + 2 + 2 + 2 + 2) d7) ∧ Hid (LS W h8 C 3 vl us (l3.take k)) ∧ Hid (Below h8 w8 W)) (fun _ s66 _ => 3 - (intOf s66).toNat)
  case atStart => exact ⟨0, by omega, rfl, CC7, [], D9, Lib.hid (LS.nil _ _ _ _), Lib.hid (Below.refl _ _)⟩
  case round =>
    obtain ⟨k, hk, rfl, C, us, DR, LR, BR⟩ := hrel
    clear D9
    have B88 : Hid (Below w8.heap.size w8 wr) := Lib.hid (by rw [← H8.out.1]; exact BR.out)
    by_cases hlt : k < 3
    · obtain ⟨nm, lk, hok, hld, hlk, hcell⟩ := HNM.out k hlt
      have c0 : wr.cell? ⟨bN, k, none⟩ = some (.string (strB nm)) := cell_later B88.out hcell
      have hki : (k : Int) < 3 := by omega
      have hki0 : (0 : Int) ≤ (k : Int) := by omega
      have CL := Lib.hid (load_c DR.out.dc nm hok)
      rw [hld] at CL
      have HLK := Lib.hid hlk
      clear hok hld hcell hlk
      go_wp2_with fail
      refine CL.out.mono ?_
      rintro e w9 ⟨v, rfl, ho, hb⟩
      have D9' := Lib.hid (DR.out.keep2 hb (sam_paint C wr.heap.size (10 + k)))
      have L9 := Lib.hid (LR.out.keep hb (sam_paint C wr.heap.size (10 + k)))
      have HSZ : Hid (h8 ≤ wr.heap.size) := Lib.hid (by have := BR.out.size; have := H8.out.1; omega)
      have hus : us.length = k := by
        rw [LR.out.len, List.length_take, Nat.min_eq_left (by omega)]
      obtain ⟨hsg, hsi⟩ := SG.of_ob ho
      have SG9 : Hid (SG w9 v lk ∧ ∀ b o, SegIn v b o → h8 ≤ b ∧ paint C wr.heap.size (10 + k) b = 10 + us.length) := Lib.hid ⟨hsg, fun b o hbo => ⟨Nat.le_trans HSZ.out (hsi b o hbo).1, by rw [hus]; exact paint_new C _ (hsi b o hbo).1⟩⟩
      have B9 : Hid (Below h8 w8 w9) := Lib.hid (BR.out.trans (hb.mono HSZ.out))
      have HUS := Lib.hid hus
      obtain ⟨A9, c9, rfl, _⟩ := hsg.form
      have HSM : Hid (Sam wr.heap.size C (paint C wr.heap.size (10 + k))) := Lib.hid (sam_paint _ _ _)
      clear ho hb hsg hsi hus c0 CL LR
      go_wp2_with fail
      refine (HNU.out _ _).mono ?_
      rintro e w9' ⟨rfl, rfl⟩
      obtain ⟨m, hm⟩ : ∃ m, m = lk.length := ⟨_, rfl⟩
      rw [← hm] at SG9
      obtain ⟨wA, hwA⟩ : ∃ wA, wA = w9.alloc (.cells #[.slice A9 m c9] 29) := ⟨_, rfl⟩
      have BA : Hid (Below w9.heap.size w9 wA) := Lib.hid (by rw [hwA]; exact (Below.refl _ _).alloc (Nat.le_refl _) _)
      have CA : Hid (wA.cell? ⟨w9.heap.size, 0, none⟩ = some (.slice A9 m c9)) := Lib.hid (by rw [hwA]; exact (Blk.new w9 29 #[.slice A9 m c9] rfl).cell 0)
      have LA := Lib.hid (L9.out.keep BA.out (Sam.refl _ _))
      have SA : Hid (SG wA (.slice A9 m c9) lk ∧ ∀ b o, SegIn (.slice A9 m c9) b o → h8 ≤ b ∧ paint C wr.heap.size (10 + k) b = 10 + us.length) := Lib.hid ⟨SG9.out.1.keep BA.out, SG9.out.2⟩
      have DA := Lib.hid (D9'.out.keep BA.out)
      have HA : Hid (h8 ≤ wA.heap.size ∧ h8 ≤ w9.heap.size) := Lib.hid ⟨by have := BA.out.size; have := B9.out.size; have := H8.out.1; omega, by have := B9.out.size; have := H8.out.1; omega⟩
      rw [← hm]
      clear hm
      go_wp2_with ((at_builtin; go_must (rw [← hwA]; refine append_one rfl (.tmp 79) (.tmp 81) 30 29 rfl Try.underlying30 info24 rfl h8 u6 us rfl LA.out.own w9.heap.size 1 (.slice A9 m c9) rfl CA.out rfl (by have := HUS.out; omega) (by have := HUS.out; unfold maxLen; omega) HA.out.1 ?_); intro vX wX hoX hgX haX; refine halt ?_))
      refine unhalt ?_
      have LX := Lib.hid (LA.out.snoc (by decide) SA.out.1 SA.out.2 hoX hgX haX)
      obtain ⟨CX, hCX⟩ : ∃ CX, CX = paint (paint C wr.heap.size (10 + k)) wA.heap.size 3 := ⟨_, rfl⟩
      have hcolL : ∀ b, u6.ownBlock = some b → paint C wr.heap.size (10 + k) b ≠ 1 ∧ w.heap.size ≤ b := fun b hb => ⟨by rw [LA.out.col b hb]; decide, Nat.le_trans H8.out.2 (LA.out.own.lt b hb).1⟩
      have DX : Hid (DS w wX CX p (0 + 2 + 2 + 2 + 2) d7) := Lib.hid (DA.out.chg (own_chg hgX) (by rw [hCX]; exact sam_paint _ _ _) hcolL)
      have BX : Hid (Below h8 w8 wX) := Lib.hid ((B9.out.trans (BA.out.mono HA.out.2)).grown hgX HA.out.1 (fun b hb => (LA.out.own.lt b hb).1))
      have LX2 : Hid (LS wX h8 CX 3 vX (us ++ [.slice A9 m c9]) (l3.take (k + 1))) := Lib.hid (by rw [take_snoc HLK.out, hCX]; exact LX.out)
      clear hCX hoX hgX haX hwA hcolL
      go_wp2_with fail
      go_roundw
      case rel =>
        first
          | exact ⟨k + 1, by omega, by go_num, _, _, DX, LX2, BX⟩
          | ((repeat apply Exists.intro); exact ⟨⟨k + 1, by omega, by go_num, _, _, DX, LX2, BX⟩, rfl⟩)
      case measure => simp [intOf]; omega
    · obtain rfl : k = 3 := by omega
      rw [List.take_of_length_le (by rw [hlen3]; exact Nat.le_refl _)] at LR
      have hus : us.length = 3 := by rw [LR.out.len, hlen3]
      obtain ⟨AL, cL, hvL, hcL, _, hAL⟩ := own_form LR.out.own
      rw [hus] at hvL
      obtain ⟨gL, rfl⟩ : ∃ gL, AL = some ⟨gL, 0, none⟩ := by
        rcases hAL with ⟨_, h⟩ | ⟨g, h, _⟩
        · omega
        · exact ⟨g, h⟩
      subst hvL
      have HCE : Hid (∀ j u, us[j]? = some u → wr.cell? ⟨gL, j, none⟩ = some u) := Lib.hid (fun j u hu => LR.out.at_ hu)
      have HUL : Hid (∀ j, j < 3 → ∃ u l, us[j]? = some u ∧ l3[j]? = some l) := Lib.hid (fun j hj => ⟨_, _, List.getElem?_eq_getElem (by omega), List.getElem?_eq_getElem (by omega)⟩)
      clear hus hcL hAL hlt hk B88
      have q0 : ∃ A0 c0, us[0]? = some (.slice A0 l0.length c0) ∧ RB wr A0 l0.length l0 := by
        obtain ⟨u, l, h1, h2⟩ := HUL.out 0 (by decide)
        obtain ⟨h3, _⟩ := LR.out.el 0 u l h1 h2
        rw [HLL.out] at h2
        obtain rfl := Option.some.inj h2
        obtain ⟨A, c, rfl, _⟩ := h3.form
        exact ⟨A, c, h1, h3.rb⟩
      have q1 : ∃ A0 c0, us[1]? = some (.slice A0 l1.length c0) ∧ RB wr A0 l1.length l1 := by
        obtain ⟨u, l, h1, h2⟩ := HUL.out 1 (by decide)
        obtain ⟨h3, _⟩ := LR.out.el 1 u l h1 h2
        rw [HLL.out] at h2
        obtain rfl := Option.some.inj h2
        obtain ⟨A, c, rfl, _⟩ := h3.form
        exact ⟨A, c, h1, h3.rb⟩
      have q2 : ∃ A0 c0, us[2]? = some (.slice A0 l0.length c0) ∧ RB wr A0 l0.length l0 := by
        obtain ⟨u, l, h1, h2⟩ := HUL.out 2 (by decide)
        obtain ⟨h3, _⟩ := LR.out.el 2 u l h1 h2
        rw [HLL.out] at h2
        obtain rfl := Option.some.inj h2
        obtain ⟨A, c, rfl, _⟩ := h3.form
        exact ⟨A, c, h1, h3.rb⟩
      obtain ⟨A0, c0, hu0, hr0⟩ := q0
      obtain ⟨A1, c1, hu1, hr1⟩ := q1
      obtain ⟨A2, c2, hu2, hr2⟩ := q2
      have e0 := HCE.out 0 _ hu0
      have e1 := HCE.out 1 _ hu1
      have e2 := HCE.out 2 _ hu2
      have cv0 : (convert 29 9 (.slice A0 l0.length c0)).run Try.prog wr = .ok (.string (strB l0)) wr := conv_bytes _ _ _ _ _ hr0
      have cv1 : (convert 29 9 (.slice A1 l1.length c1)).run Try.prog wr = .ok (.string (strB l1)) wr := conv_bytes _ _ _ _ _ hr1
      have cv2 : (convert 29 9 (.slice A2 l0.length c2)).run Try.prog wr = .ok (.string (strB l0)) wr := conv_bytes _ _ _ _ _ hr2
      obtain ⟨n0, hn0⟩ : ∃ n0, n0 = l0.length := ⟨_, rfl⟩
      obtain ⟨n1, hn1⟩ : ∃ n1, n1 = l1.length := ⟨_, rfl⟩
      rw [← hn0] at e0 e2 cv0 cv2
      rw [← hn1] at e1 cv1
      clear hu0 hu1 hu2 hr0 hr1 hr2 hn0 hn1
      have W0 : Hid (WO w wr C p (0 + 2 + 2 + 2 + 2) d7 h8 gL cL us l3 l3 0 0) := Lib.hid ⟨DR.out, LR.out, mks.zero _, rfl⟩
      have hN8 : Hid (w.heap.size ≤ h8) := Lib.hid H8.out.2
      obtain ⟨wb, hwb⟩ : ∃ wb, wb = wr := ⟨_, rfl⟩
      subst hwb
      clear HNM HCE HUL H8 BR LR DR hlen3
      go_wp2_with fail
      clear cv0 cv1 cv2 e0 e1 e2
      go_loopw [108] (fun s108 W => ∃ (j : Nat) (ls : List (List UInt8)), j ≤ 3 ∧ s108 = .int .i64 (j : Int) ∧ Hid (WO w W C p (0 + 2 + 2 + 2 + 2) d7 h8 gL cL us l3 ls j 0)) (fun s108 _ => 3 - (intOf s108).toNat)
      case atStart => exact ⟨0, l3, by omega, rfl, W0⟩
      case round =>
        obtain ⟨j, ls, hj, rfl, WR⟩ := hrel
        clear W0
        by_cases hlt : j < 3
        · obtain ⟨u, hu⟩ : ∃ u, us[j]? = some u := ⟨_, List.getElem?_eq_getElem (by have := WR.out.len; omega)⟩
          obtain ⟨l, hl⟩ : ∃ l, ls[j]? = some l := ⟨_, List.getElem?_eq_getElem (by have := WR.out.len; omega)⟩
          obtain ⟨A, c, rfl, hnc, hcm⟩ := (WR.out.ll.el j u l hu hl).1.form
          have cu := WR.out.ll.at_ hu
          have hl3000 : l.length ≤ 3000 := by
            have h1 : (ls.map List.length)[j]? = some l.length := by rw [List.getElem?_map, hl]; rfl
            rw [WR.out.ln, List.getElem?_map] at h1
            cases hq : l3[j]? with
            | none => rw [hq] at h1; cases h1
            | some y =>
              rw [hq] at h1
              have := Option.some.inj h1
              rw [← this]
              exact HL3.out y (List.mem_of_getElem? hq)
          obtain ⟨n, hn⟩ : ∃ n, n = l.length := ⟨_, rfl⟩
          rw [← hn] at cu hnc hl3000 hu
          have HU := Lib.hid hu
          have HLL2 : Hid (ls[j]? = some l ∧ l.length = n) := Lib.hid ⟨hl, hn.symm⟩
          have hji : (j : Int) < 3 := by omega
          have hji0 : (0 : Int) ≤ (j : Int) := by omega
          clear hu hl hn
          go_wp2_with fail
          go_loopw [115] (fun s115 W => ∃ (k : Nat) (ls' : List (List UInt8)) (l' : List UInt8), k ≤ n ∧ s115 = .int .i64 (k : Int) ∧ Hid (WO w W C p (0 + 2 + 2 + 2 + 2) d7 h8 gL cL us l3 ls' j k) ∧ Hid (ls'[j]? = some l' ∧ l'.length = n)) (fun s115 _ => n - (intOf s115).toNat)
          case atStart => exact ⟨0, ls, l, by omega, rfl, WR, HLL2⟩
          case round =>
            obtain ⟨k, ls', l', hk, rfl, WK, HK⟩ := hrel
            clear WR HLL2 cu
            by_cases hlt2 : k < n
            · have hsg := (WK.out.ll.el j _ l' HU.out HK.out.1).1
              obtain ⟨b1, off, rfl, _, cc, hcc, cb⟩ := hsg.rb.at_ hlt2
              have fb := hsg.unfrozen (k := k) (by omega)
              have WN := Lib.hid (WK.out.put hN8.out HU.out HK.out.1 (by rw [HK.out.2]; exact hlt2))
              have HN : Hid ((ls'.set j (l'.set k (mkC j)))[j]? = some (l'.set k (mkC j)) ∧ (l'.set k (mkC j)).length = n) := Lib.hid ⟨by rw [List.getElem?_set_self (by have := (List.getElem?_eq_some_iff.1 HK.out.1).1; exact this)], by rw [List.length_set]; exact HK.out.2⟩
              have hq := mkC_int (i := j) (by omega)
              unfold byteV at WN
              obtain ⟨mb, hmb⟩ : ∃ mb, mb = mkC j := ⟨_, rfl⟩
              rw [← hmb] at hq WN HN
              obtain ⟨old, hold⟩ : ∃ o : Int, o = (cc.toNat : Int) := ⟨_, rfl⟩
              rw [← hold] at cb
              have hki : (k : Int) < (n : Int) := by omega
              have hki0 : (0 : Int) ≤ (k : Int) := by omega
              clear hsg hcc WK hmb hold
              go_wp2_with fail
              go_roundw
              case rel =>
                first
                  | exact ⟨k + 1, _, _, by omega, by go_num, WN, HN⟩
                  | ((repeat apply Exists.intro); exact ⟨⟨k + 1, _, _, by omega, by go_num, WN, HN⟩, rfl⟩)
              case measure => simp [intOf]; omega
            · obtain rfl : n = k := by omega
              have WN : Hid (WO w wr C p (0 + 2 + 2 + 2 + 2) d7 h8 gL cL us l3 ls' (j + 1) 0) := Lib.hid ⟨WK.out.ds, WK.out.ll, WK.out.mm.next HK.out.1 HK.out.2, WK.out.ln⟩
              go_wp2_with fail
              go_roundw
              case rel =>
                first
                  | exact ⟨j + 1, ls', by omega, by go_num, WN⟩
                  | ((repeat apply Exists.intro); exact ⟨⟨j + 1, ls', by omega, by go_num, WN⟩, rfl⟩)
              case measure => simp [intOf]; omega
        · obtain rfl : j = 3 := by omega
          clear hlt hj
          have HMK := Lib.hid WR.out.mm
          have HLN := Lib.hid WR.out.len
          have HZ0 : Hid (h8 ≤ wr.heap.size) := Lib.hid (by have := (WR.out.ll.own.lt gL rfl); omega)
          have LO0 : Hid (LO w wr C p (0 + 2 + 2 + 2 + 2) d7 h8 gL cL us ls (.slice none 0 0) [] []) := Lib.hid ⟨WR.out.ds, WR.out.ll, LS.nil _ _ _ _, fun i l g _ hg => by simp at hg⟩
          have HSM : Hid (∀ l ∈ ls, l.length ≤ 3000) := Lib.hid (fun l hl => by
            obtain ⟨i, hi⟩ := List.getElem?_of_mem hl
            have h1 : (ls.map List.length)[i]? = some l.length := by rw [List.getElem?_map, hi]; rfl
            rw [WR.out.ln, List.getElem?_map] at h1
            cases hq : l3[i]? with
            | none => rw [hq] at h1; cases h1
            | some y =>
              rw [hq] at h1
              have := Option.some.inj h1
              rw [← this]
              exact HL3.out y (List.mem_of_getElem? hq))
          obtain ⟨wc, hwc⟩ : ∃ wc, wc = wr := ⟨_, rfl⟩
          subst hwc
          clear WR
          go_wp2_with fail
          go_loopw [14, 128] (fun v14 s128 W => ∃ j : Nat, j ≤ 3 ∧ s128 = .int .i64 (j : Int) ∧ ∃ C ms gs, Hid (LO w W C p (0 + 2 + 2 + 2 + 2) d7 h8 gL cL us ls v14 ms gs) ∧ Hid (ms.length = j) ∧ Hid (h8 ≤ W.heap.size)) (fun _ s128 _ => 3 - (intOf s128).toNat)
          case atStart => exact ⟨0, by omega, rfl, C, [], [], LO0, Lib.hid rfl, HZ0⟩
          case round =>
            obtain ⟨j, hj, rfl, C1, ms, gs, LR, HMS, HZ⟩ := hrel
            clear LO0 HZ0
            by_cases hlt : j < 3
            · obtain ⟨u, hu⟩ : ∃ u, us[j]? = some u := ⟨_, List.getElem?_eq_getElem (by have := HLN.out; omega)⟩
              obtain ⟨l, hl⟩ : ∃ l, ls[j]? = some l := ⟨_, List.getElem?_eq_getElem (by have := HLN.out; omega)⟩
              have LC0 := Lib.hid (LC.zero LR.out hu hl (HMK.out.rep hlt hl))
              have cu := LR.out.ll.at_ hu
              have hl3000 := HSM.out l (List.mem_of_getElem? hl)
              obtain ⟨n, hn⟩ : ∃ n, n = l.length := ⟨_, rfl⟩
              rw [← hn] at LC0 hl3000
              have HU := Lib.hid hu
              have HLL2 : Hid (ls[j]? = some l ∧ l.length = n) := Lib.hid ⟨hl, hn.symm⟩
              have hji : (j : Int) < 3 := by omega
              have hji0 : (0 : Int) ≤ (j : Int) := by omega
              obtain ⟨A, c, hue, _⟩ := (LR.out.ll.el j u l hu hl).1.form
              subst hue
              clear hu hl hn
              go_wp2_with fail
              clear cu
              go_loopw [16, 133] (fun v16 s133 W => ∃ m : Nat, m ≤ 40 ∧ s133 = .int .i64 (m : Int) ∧ ∃ C, Hid (LO w W C p (0 + 2 + 2 + 2 + 2) d7 h8 gL cL us ls u14 ms gs) ∧ Hid (LC W C h8 j n m (.slice A l.length c) v16) ∧ Hid (h8 ≤ W.heap.size)) (fun _ s133 _ => 40 - (intOf s133).toNat)
              case atStart => exact ⟨0, by omega, rfl, _, LR, LC0, HZ⟩
              case round =>
                obtain ⟨m, hm, rfl, C2, LK, LCK, HZK⟩ := hrel
                clear LR LC0 HZ
                obtain ⟨A6, c6', h16, hc6, _⟩ := LCK.out.cu.form
                rw [List.length_replicate] at h16 hc6
                subst h16
                by_cases hlt2 : m < 40
                · have hmi : (m : Int) < 40 := by omega
                  have hq := mkC_int (i := j) (by omega)
                  obtain ⟨wA, hwA⟩ : ∃ wA, wA = wr.alloc (.cells #[.int .u8 ((mkC j).toNat : Int)] 5) := ⟨_, rfl⟩
                  have BA : Hid (Below wr.heap.size wr wA) := Lib.hid (by rw [hwA]; exact (Below.refl _ _).alloc (Nat.le_refl _) _)
                  have CA : Hid (wA.cell? ⟨wr.heap.size, 0, none⟩ = some (byteV (mkC j))) := Lib.hid (by rw [hwA]; exact (Blk.new wr 5 #[.int .u8 ((mkC j).toNat : Int)] rfl).cell 0)
                  have LKA := Lib.hid (LK.out.keep BA.out (Sam.refl _ C2))
                  have LCA := Lib.hid (LCK.out.keep BA.out (Sam.refl _ C2))
                  have HZA : Hid (h8 ≤ wA.heap.size) := Lib.hid (by have := BA.out.size; have := HZK.out; omega)
                  clear LK LCK
                  go_wp2_with ((at_builtin; go_must (rw [← hwA]; refine append_seg rfl (.tmp 135) (.tmp 139) rfl (.slice A6 (n + m) c6') (List.replicate (n + m) (mkC j)) rfl LCA.out.cu wr.heap.size 1 (mkC j) rfl CA.out (by rw [List.length_replicate]; omega) ?_); intro vX wX hX; refine halt ?_))
                  refine unhalt ?_
                  obtain ⟨hL1, hL2⟩ := LKA.out.push LCA.out hN8.out HZA.out HMS.out HU.out rfl hX
                  have LN1 := Lib.hid hL1; have LN2 := Lib.hid hL2
                  have HZN := Lib.hid hL1.hz
                  clear hL1 hL2 hX hwA
                  go_wp2_with fail
                  go_roundw
                  case rel =>
                    first
                      | exact ⟨m + 1, by omega, by go_num, _, LN1, LN2, HZN⟩
                      | ((repeat apply Exists.intro); exact ⟨⟨m + 1, by omega, by go_num, _, LN1, LN2, HZN⟩, rfl⟩)
                  case measure => simp [intOf]; omega
                · obtain rfl : m = 40 := by omega
                  obtain ⟨wA, hwA⟩ : ∃ wA, wA = wr.alloc (.cells #[.slice A6 (n + 40) c6'] 29) := ⟨_, rfl⟩
                  have BA : Hid (Below wr.heap.size wr wA) := Lib.hid (by rw [hwA]; exact (Below.refl _ _).alloc (Nat.le_refl _) _)
                  have CA : Hid (wA.cell? ⟨wr.heap.size, 0, none⟩ = some (.slice A6 (n + 40) c6')) := Lib.hid (by rw [hwA]; exact (Blk.new wr 29 #[.slice A6 (n + 40) c6'] rfl).cell 0)
                  have LKA := Lib.hid (LK.out.keep BA.out (Sam.refl _ C2))
                  have LCA := Lib.hid (LCK.out.keep BA.out (Sam.refl _ C2))
                  have HZA : Hid (h8 ≤ wA.heap.size) := Lib.hid (by have := BA.out.size; have := HZK.out; omega)
                  obtain ⟨n4, hn4⟩ : ∃ n4, n4 = n + 40 := ⟨_, rfl⟩
                  rw [← hn4] at hwA CA LCA ⊢
                  clear LK LCK hn4
                  go_wp2_with ((at_builtin; go_must (rw [← hwA]; refine append_one rfl (.tmp 142) (.tmp 144) 30 29 rfl Try.underlying30 info24 rfl h8 u14 ms rfl LKA.out.lm.own wr.heap.size 1 (.slice A6 n4 c6') rfl CA.out rfl (by have := HMS.out; omega) (by have := HMS.out; unfold maxLen; omega) HZA.out ?_); intro vX wX hoX hgX haX; refine halt ?_))
                  refine unhalt ?_
                  have LN := Lib.hid (LKA.out.next LCA.out hN8.out HMS.out HLL2.out.1 HLL2.out.2 hoX hgX haX)
                  have HMN : Hid ((ms ++ [Value.slice A6 n4 c6']).length = j + 1) := Lib.hid (by rw [List.length_append, HMS.out]; rfl)
                  have HZN := Lib.hid LN.out.hz
                  clear hoX hgX haX hwA
                  go_wp2_with fail
                  go_roundw
                  case rel =>
                    first
                      | exact ⟨j + 1, by omega, by go_num, _, _, _, LN, HMN, HZN⟩
                      | ((repeat apply Exists.intro); exact ⟨⟨j + 1, by omega, by go_num, _, _, _, LN, HMN, HZN⟩, rfl⟩)
                  case measure => simp [intOf]; omega
            · obtain rfl : j = 3 := by omega
              clear hlt hj
              obtain ⟨AM, cM, hvM, hcM, _, hAM⟩ := own_form LR.out.lm.own
              rw [HMS.out] at hvM
              obtain ⟨gM, rfl⟩ : ∃ gM, AM = some ⟨gM, 0, none⟩ := by
                have := HMS.out
                rcases hAM with ⟨_, h⟩ | ⟨g, h, _⟩
                · omega
                · exact ⟨g, h⟩
              subst hvM
              have HEL : Hid (∀ i, i < 3 → ∃ n A c A' c', wr.cell? ⟨gL, i, none⟩ = some (.slice A n c) ∧ RB wr A n (List.replicate n (mkC i)) ∧ wr.cell? ⟨gM, i, none⟩ = some (.slice A' (n + 40) c') ∧ RB wr A' (n + 40) (List.replicate (n + 40) (mkC i)) ∧ n ≤ 3000) := Lib.hid (fun i hi => by
                obtain ⟨u, hu⟩ : ∃ u, us[i]? = some u := ⟨_, List.getElem?_eq_getElem (by have := HLN.out; omega)⟩
                obtain ⟨l, hl⟩ : ∃ l, ls[i]? = some l := ⟨_, List.getElem?_eq_getElem (by have := HLN.out; omega)⟩
                obtain ⟨x, hx⟩ : ∃ x, ms[i]? = some x := ⟨_, List.getElem?_eq_getElem (by have := HMS.out; omega)⟩
                obtain ⟨g, hg⟩ : ∃ g, gs[i]? = some g := ⟨_, List.getElem?_eq_getElem (by rw [← LR.out.lm.len]; have := HMS.out; omega)⟩
                have h1 := (LR.out.ll.el i u l hu hl).1
                have h2 := (LR.out.lm.el i x g hx hg).1
                have h3 := HMK.out.rep hi hl
                have h4 := LR.out.gg i l g hl hg
                obtain ⟨A, c, rfl, _⟩ := h1.form
                obtain ⟨A', c', rfl, _⟩ := h2.form
                have h5 := h1.rb
                have h6 := h2.rb
                have c1 := LR.out.ll.at_ hu
                have c2 := LR.out.lm.at_ hx
                have h7 : g.length = l.length + 40 := by rw [h4, List.length_replicate]
                rw [h7] at c2 h6
                rw [h4] at h6
                have h8 : RB wr A l.length (List.replicate l.length (mkC i)) := by rw [← h3]; exact h5
                exact ⟨l.length, A, c, A', c', c1, h8, c2, h6, HSM.out l (List.mem_of_getElem? hl)⟩)
              have HD := Lib.hid LR.out.ds
              obtain ⟨wd, hwd⟩ : ∃ wd, wd = wr := ⟨_, rfl⟩
              subst hwd
              clear LR HMS HZ HSM HLN HMK HL3 hcM hAM
              go_wp2_with fail
              go_loopw [149] (fun s149 W => ∃ j : Nat, j ≤ 3 ∧ s149 = .int .i64 (j : Int) ∧ W = wd) (fun s149 _ => 3 - (intOf s149).toNat)
              case atStart => exact ⟨0, by omega, rfl, rfl⟩
              case round =>
                obtain ⟨j, hj, rfl, rfl⟩ := hrel
                by_cases hlt : j < 3
                · obtain ⟨n, A, c, A', c', e1, r1, e2, r2, hn3⟩ := HEL.out j hlt
                  obtain ⟨m, hm⟩ : ∃ m, m = n + 40 := ⟨_, rfl⟩
                  rw [← hm] at e2 r2
                  have R1 := Lib.hid r1; have R2 := Lib.hid r2; have HM := Lib.hid hm
                  have hm3 : m ≤ 4000 := by omega
                  have hji : (j : Int) < 3 := by omega
                  have hji0 : (0 : Int) ≤ (j : Int) := by omega
                  have hq := mkC_int (i := j) (by omega)
                  clear r1 r2 hm
                  go_wp2_with fail
                  obtain ⟨we, hwe⟩ : ∃ we, we = wr := ⟨_, rfl⟩
                  subst hwe
                  go_loopw [156] (fun s156 W => ∃ k : Nat, k ≤ m ∧ s156 = .int .i64 (k : Int) ∧ W = we) (fun s156 _ => m - (intOf s156).toNat)
                  case atStart => exact ⟨0, by omega, rfl, rfl⟩
                  case round =>
                    obtain ⟨k, hk, rfl, rfl⟩ := hrel
                    by_cases hlt2 : k < m
                    · obtain ⟨b2, off2, rfl, _, x2, hx2, cb2⟩ := R2.out.at_ hlt2
                      rw [List.getElem?_replicate, if_pos hlt2] at hx2
                      obtain rfl := Option.some.inj hx2
                      have hki : (k : Int) < (m : Int) := by omega
                      have hki0 : (0 : Int) ≤ (k : Int) := by omega
                      clear hx2
                      by_cases hkn : k < n
                      · obtain ⟨b1, off1, rfl, _, x1, hx1, cb1⟩ := R1.out.at_ hkn
                        rw [List.getElem?_replicate, if_pos hkn] at hx1
                        obtain rfl := Option.some.inj hx1
                        have hkn2 : (k : Int) < (n : Int) := by omega
                        clear hx1
                        go_wp2_with fail
                        go_roundw
                        case rel =>
                          first
                            | exact ⟨k + 1, by omega, by go_num, trivial⟩
                            | ((repeat apply Exists.intro); exact ⟨⟨k + 1, by omega, by go_num, trivial⟩, rfl⟩)
                        case measure => simp [intOf]; omega
                      · have hkn2 : ¬ (k : Int) < (n : Int) := by omega
                        go_wp2_with fail
                        go_roundw
                        case rel =>
                          first
                            | exact ⟨k + 1, by omega, by go_num, trivial⟩
                            | ((repeat apply Exists.intro); exact ⟨⟨k + 1, by omega, by go_num, trivial⟩, rfl⟩)
                        case measure => simp [intOf]; omega
                    · obtain rfl : m = k := by omega
                      go_wp2_with fail
                      go_roundw
                      case rel =>
                        first
                          | exact ⟨j + 1, by omega, by go_num, trivial⟩
                          | ((repeat apply Exists.intro); exact ⟨⟨j + 1, by omega, by go_num, trivial⟩, rfl⟩)
                      case measure => simp [intOf]; omega
                · obtain rfl : j = 3 := by omega
                  have CL := Lib.hid (load_c HD.out.dc nOne okOne)
                  rw [HLD.out.1] at CL
                  go_wp2_with fail
                  refine CL.out.mono ?_
                  rintro e wz ⟨v, rfl, ho, hb⟩
                  obtain ⟨Az, cz, rfl, _, _, hrz⟩ := ho.form
                  have cvz : (convert 29 9 (.slice Az l0.length cz)).run Try.prog wz = .ok (.string (strB l0)) wz := conv_bytes _ _ _ _ _ hrz
                  have HF : Hid (TrueQ w (.returned (.bool true)) wz) := Lib.hid ⟨rfl, (HD.out.keep hb).bel⟩
                  have hss : ((strB l0).toList == (strB l0).toList) = true := by simp
                  clear ho hb hrz CL
                  go_wp2_with fail
                  refine (HNU.out _ _).mono ?_
                  rintro e wz' ⟨rfl, rfl⟩
                  go_wp2_with fail
                  go_ret
                  exact HF.out
end Go.Proofs.Ythhbfjhgmdnpbaa
