/- THE WALK of SimfsPlays. -/
import Derived.Test.YtlojmmcagglpoaaGreatQPlAlike
import Derived.Test.YtlojmmcagglpoaaGreatQPlWhole
import Derived.Test.YtlojmmcagglpoaaGreatQSimFixed
import Derived.Test.YtlojmmcagglpoaaGreatQStpAny
namespace Go.Proofs.YtlojmmcagglpoaaGreat
open Go.RowKit Go.Maps
attribute [local go_sem ↓] Go.wp_at_zero Go.wp_at_succ
/-- a script that came in -/
def SPo (W : World) (A : Option Addr) (n : Nat) (l : List OpP) : Prop :=
  l.length = n ∧ (∀ o ∈ l, o.In W) ∧
  (0 < n → ∃ b off, A = some ⟨b, off, none⟩ ∧ b < W.heap.size ∧ ∀ (j : Nat) (o : OpP), l[j]? = some o → ∀ (i : Nat) (v : Value), (opC o)[i]? = some v → W.cell? ⟨b, off + j * 11 + i, none⟩ = some v)
def ZP : PartT := fun _ _ => True
theorem Stb.zp (c : Nat) : Stb c ZP := fun _ _ _ _ _ _ _ _ _ => trivial
def DRow (w0 : World) (v : Value) (p : Nat) : PartT := fun W C => W.ownsRow w0.heap.size 25 1 v 1 [ptV p] ∧ ∀ k, v.ownBlock = some k → C k = 1
theorem Stb.drow (w0 : World) (v : Value) (p : Nat) : Stb 1 (DRow w0 v p) := Stb.own 1 _ _ _ _ _ _
def hd0 (g1 g2 : Nat) : Hd := ⟨.slice (some ⟨g1, 0, none⟩) 1 1, .slice (some ⟨g2, 0, none⟩) 1 1, .slice none 0 0, .slice none 0 0, .slice none 0 0, .slice none 0 0, false⟩
theorem GS.start5 {w wk : World} (h : Below w.heap.size w wk) : GS w wk (fun _ => 0) [ZP, ZP, ZP, ZP, ZP] :=
  ⟨h, Sam.refl _ _, fun k T hk => by
    match k, hk with
    | 0, hk => obtain rfl := Option.some.inj hk; exact ⟨trivial, Stb.zp _⟩
    | 1, hk => obtain rfl := Option.some.inj hk; exact ⟨trivial, Stb.zp _⟩
    | 2, hk => obtain rfl := Option.some.inj hk; exact ⟨trivial, Stb.zp _⟩
    | 3, hk => obtain rfl := Option.some.inj hk; exact ⟨trivial, Stb.zp _⟩
    | 4, hk => obtain rfl := Option.some.inj hk; exact ⟨trivial, Stb.zp _⟩
    | k + 5, hk => simp at hk⟩
theorem LL.nil {α : Type} (N : Nat) (te ti : TypeId) (f : α → Value) (W : World) (C : Nat → Nat) (c : Nat) : LL N te ti f W C c (.slice none 0 0) [] [] :=
  ⟨World.ownsRow_nil _ _ _ _, rfl, fun j u l hu _ => by simp at hu, fun i j u u' b hu _ _ _ => by simp at hu, fun b hb => (by cases hb), fun j u b hu _ => by simp at hu⟩
theorem row_one {w0 W : World} (h : w0.heap.size ≤ W.heap.size) (e : TypeId) (u : Value) : (W.alloc (.cells #[u] e)).ownsRow w0.heap.size e 1 (.slice (some ⟨W.heap.size, 0, none⟩) 1 1) 1 [u] :=
  World.ownsRow_lit W #[u] 1 h (by decide) rfl
/-- the play is made -/
theorem GS.play {w0 W1 W3 : World} {C3 : Nat → Nat} {p q : Nat} (h3 : GS w0 W3 C3 [DRow w0 (.slice (some ⟨W1.heap.size, 0, none⟩) 1 1) p, ZP, ZP, ZP, ZP, DCp w0 6 p 0 emptyD, RCp w0 7 q ⟨[], []⟩]) :
    ∃ C4, GS w0 ((W3.alloc (.cells #[.pointer (some ⟨q, 0, none⟩)] 28)).alloc (.cells #[.slice (some ⟨W1.heap.size, 0, none⟩) 1 1, .slice (some ⟨W3.heap.size, 0, none⟩) 1 1, .slice none 0 0, .slice none 0 0, .slice none 0 0, .slice none 0 0, .bool false] 37)) C4 (LP w0 (W3.heap.size + 1) (hd0 W1.heap.size W3.heap.size) [] [] [⟨p, 0, q, emptyD, ⟨[], []⟩⟩]) := by
  obtain ⟨w4, hw4⟩ : ∃ w4, w4 = W3.alloc (.cells #[.pointer (some ⟨q, 0, none⟩)] 28) := ⟨_, rfl⟩
  obtain ⟨w5, hw5⟩ : ∃ w5, w5 = w4.alloc (.cells #[.slice (some ⟨W1.heap.size, 0, none⟩) 1 1, .slice (some ⟨W3.heap.size, 0, none⟩) 1 1, .slice none 0 0, .slice none 0 0, .slice none 0 0, .slice none 0 0, .bool false] 37) := ⟨_, rfl⟩
  rw [← hw4, ← hw5]
  have hb4 : Below W3.heap.size W3 w4 := by rw [hw4]; exact (Below.refl _ _).alloc (Nat.le_refl _) _
  have hz4 : w4.heap.size = W3.heap.size + 1 := by rw [hw4]; simp
  have hb45 : Below w4.heap.size w4 w5 := by rw [hw5]; exact (Below.refl _ _).alloc (Nat.le_refl _) _
  have hb5 : Below W3.heap.size W3 w5 := hb4.trans (hb45.mono hb4.size)
  have hd : DRow w0 (.slice (some ⟨W1.heap.size, 0, none⟩) 1 1) p W3 C3 := h3.at_ (k := 0) rfl
  have hK : Blk w5 (W3.heap.size + 1) 37 (hdC (hd0 W1.heap.size W3.heap.size)) := by rw [hw5]; exact Blk.new w4 _ _ hz4.symm
  have hr4 : w4.ownsRow w0.heap.size 28 1 (.slice (some ⟨W3.heap.size, 0, none⟩) 1 1) 1 [ptV q] := by rw [hw4]; exact row_one h3.bel.size _ _
  have hP : Pp w0 (W3.heap.size + 1) (hd0 W1.heap.size W3.heap.size) [p] [q] w5 (paint C3 W3.heap.size 1) := by
    refine ⟨⟨hK, paint_new _ _ (by omega)⟩, ⟨own_keep hd.1 hb5, fun k hk => ?_⟩, ⟨own_keep hr4 hb45, fun k hk => ?_⟩⟩
    · rw [paint_old _ _ (hd.1.lt k hk).2]; exact hd.2 k hk
    · obtain rfl : W3.heap.size = k := Option.some.inj hk
      exact paint_new _ _ (Nat.le_refl _)
  have g1 := h3.turn (k := 0) (T' := Pp w0 (W3.heap.size + 1) (hd0 W1.heap.size W3.heap.size) [p] [q]) (by simp) (Chg.of_below hb5 _) hP (Stb.pp _ _ _ _ _) rfl
  have g2 := g1.as (k := 1) (T' := Bp w0 (.slice none 0 0) []) rfl ⟨[], LL.nil _ _ _ _ _ _ _⟩ (Stb.bp _ _ _) rfl
  have g3 := g2.as (k := 2) (T' := Sp w0 (.slice none 0 0) []) rfl ⟨World.ownsRow_nil _ _ _ _, fun k hk => (by cases hk)⟩ (Stb.sp _ _ _) rfl
  have g4 := g3.as (k := 3) (T' := Np w0 (.slice none 0 0) []) rfl ⟨[], LL.nil _ _ _ _ _ _ _⟩ (Stb.np _ _ _) rfl
  have g5 := g4.as (k := 4) (T' := Ep w0 (.slice none 0 0) []) rfl ⟨[], ⟨World.ownsRow_nil _ _ _ _, fun k hk => (by cases hk)⟩, rfl, fun j e l he _ => by simp at he⟩ (Stb.ep _ _ _) rfl
  exact ⟨_, g5⟩
theorem InvP.zero (p q : Nat) : InvP 0 [⟨p, 0, q, emptyD, ⟨[], []⟩⟩] [] [] :=
  ⟨by simp, by simp, by simp, by simp, by simp, by simp, fun j x hx => by
    match j, hx with
    | 0, hx => obtain rfl := Option.some.inj hx; exact ⟨Alike.empty, by simp⟩
    | j + 1, hx => simp at hx⟩
def PlR (w0 W : World) (P i : Nat) : Prop := ∃ C h bs ns ds, InvP i ds bs ns ∧ GS w0 W C (LP w0 P h bs ns ds)
set_option maxRecDepth 20000 in
set_option maxHeartbeats 8000000 in
theorem plays_any (A0 : Option Addr) (n0 cp0 : Nat) (l : List OpP) (w : World) (hr : SPo w A0 n0 l) (_hc : n0 ≤ cp0) (_hcm : cp0 ≤ maxLen) : Calls Tryz.prog 3 #[.slice A0 n0 cp0] w (TruQ w) := by
  have CK := Lib.hid (fixed14 w)
  have HR := Lib.hid hr
  clear hr
  go_enter Tryz.func3, Tryz.ntmps3
  go_wp2_with fail
  refine CK.out.mono ?_
  rintro e wk ⟨rfl, hbk⟩
  have G0 := Lib.hid (GS.start5 hbk)
  have CN := Lib.hid G0.out.newD
  clear hbk CK
  go_wp2_with fail
  refine CN.out.mono ?_
  rintro e w1 ⟨p, rfl, hg⟩
  obtain ⟨C1, hC1⟩ : ∃ C1, C1 = paint (fun _ => 0) wk.heap.size ([ZP, ZP, ZP, ZP, ZP].length + 1) := ⟨_, rfl⟩
  rw [← hC1] at hg
  have G1 : Hid (GS w w1 C1 [ZP, ZP, ZP, ZP, ZP, DCp w 6 p 0 emptyD]) := Lib.hid hg
  have G2 : Hid (GS w (w1.alloc (.cells #[.pointer (some ⟨p, 0, none⟩)] 25)) (paint C1 w1.heap.size 1) [DRow w (.slice (some ⟨w1.heap.size, 0, none⟩) 1 1) p, ZP, ZP, ZP, ZP, DCp w 6 p 0 emptyD]) := Lib.hid
    (G1.out.turn (k := 0) (T' := DRow w (.slice (some ⟨w1.heap.size, 0, none⟩) 1 1) p) (by simp) (Chg.of_below ((Below.refl _ _).alloc (Nat.le_refl _) _) _) ⟨row_one G1.out.bel.size _ _, fun k hk => by
      obtain rfl : w1.heap.size = k := Option.some.inj hk
      exact paint_new _ _ (Nat.le_refl _)⟩ (Stb.drow _ _ _) rfl)
  have CR := Lib.hid G2.out.newR14
  clear hg CN G0 hC1
  go_wp2_with fail
  refine CR.out.mono ?_
  rintro e w3 ⟨q, rfl, hg⟩
  have G4 := Lib.hid (GS.play (W1 := w1) (p := p) (q := q) hg)
  obtain ⟨w4, hw4⟩ : ∃ w4, w4 = (w3.alloc (.cells #[.pointer (some ⟨q, 0, none⟩)] 28)).alloc (.cells #[.slice (some ⟨w1.heap.size, 0, none⟩) 1 1, .slice (some ⟨w3.heap.size, 0, none⟩) 1 1, .slice none 0 0, .slice none 0 0, .slice none 0 0, .slice none 0 0, .bool false] 37) := ⟨_, rfl⟩
  obtain ⟨P, hP⟩ : ∃ P, P = w3.heap.size + 1 := ⟨_, rfl⟩
  rw [← hw4, ← hP] at G4
  have G5 : Hid (PlR w w4 P 0) := Lib.hid (by obtain ⟨C4, h4⟩ := G4.out; exact ⟨_, _, _, _, _, InvP.zero p q, h4⟩)
  clear hg CR G2 G1 G4
  go_upto_region 4 with fail
  rw [← hw4, ← hP]
  clear hw4 hP
  go_wp2_with fail
  go_loopw [4] (fun iv W => ∃ i : Nat, iv = .int .i64 (i : Int) ∧ i ≤ n0 ∧ i ≤ 120 ∧ Hid (PlR w W P i)) (fun iv _ => 120 - (intOf iv).toNat)
  case atStart => exact ⟨0, rfl, Nat.zero_le _, Nat.zero_le _, G5⟩
  case round =>
    clear G5
    obtain ⟨i, rfl, hin, hi8, GR⟩ := hrel
    go_upto_region 5 with fail
    go_cut [20] (fun s wx => ∃ b : Bool, s = .bool b ∧ (b = true ↔ i < n0 ∧ i < 120) ∧ wx = wr)
    case first =>
      by_cases hlt : i < n0
      · by_cases h80 : i < 120
        · go_wp2_with fail
          go_meet
          exact ⟨true, by rw [decide_eq_true (by omega)], by simp [hlt, h80], rfl⟩
        · go_wp2_with fail
          go_meet
          exact ⟨false, by rw [decide_eq_false (by omega)], by simp [h80], rfl⟩
      · go_wp2_with fail
        go_meet
        exact ⟨false, rfl, by simp [hlt], rfl⟩
    case rest =>
      obtain ⟨b, rfl, hb0, hcut⟩ := hcut
      rw [hcut]
      clear hcut wc
      obtain ⟨C, h, bs, ns, ds, hI, hG⟩ := GR.out
      have HI := Lib.hid hI
      have HG := Lib.hid hG
      clear hI hG GR
      cases b
      case false =>
        clear hb0
        have CA := Lib.hid (alike14 HG.out HI.out hi8)
        go_wp2_with fail
        refine CA.out.mono ?_
        rintro e w2 ⟨rfl, hb2⟩
        have CW := Lib.hid (whole14 (HG.out.keep hb2) HI.out hi8)
        clear hb2 CA
        go_wp2_with fail
        refine CW.out.mono ?_
        rintro e w3 ⟨rfl, hb3⟩
        have HF : Hid (TruQ w (.returned (.bool true)) w3) := Lib.hid ⟨rfl, hb3⟩
        clear hb3 CW
        go_wp2_with fail
        go_ret
        exact HF.out
      case true =>
        obtain ⟨hlt, h80⟩ := hb0.1 rfl
        clear hb0
        obtain ⟨b, off, rfl, hbl, hcell⟩ := HR.out.2.2 (by omega)
        obtain ⟨o, ho⟩ : ∃ o, l[i]? = some o := ⟨_, List.getElem?_eq_getElem (by rw [HR.out.1]; exact hlt)⟩
        have hcc := hcell i o ho
        have c0 : wr.cell? ⟨b, off + i * 11, none⟩ = some (.int .i64 o.k) := cell_later HG.out.bel (hcc 0 _ rfl)
        have c1 : wr.cell? ⟨b, off + i * 11 + 1, none⟩ = some (.int .i64 o.dd) := cell_later HG.out.bel (hcc 1 _ rfl)
        have c2 : wr.cell? ⟨b, off + i * 11 + 2, none⟩ = some (.string (strB o.a)) := cell_later HG.out.bel (hcc 2 _ rfl)
        have c3 : wr.cell? ⟨b, off + i * 11 + 3, none⟩ = some (.string (strB o.b)) := cell_later HG.out.bel (hcc 3 _ rfl)
        have c4 : wr.cell? ⟨b, off + i * 11 + 4, none⟩ = some (.string o.s) := cell_later HG.out.bel (hcc 4 _ rfl)
        have c5 : wr.cell? ⟨b, off + i * 11 + 5, none⟩ = some (.int .i64 o.times) := cell_later HG.out.bel (hcc 5 _ rfl)
        have c6 : wr.cell? ⟨b, off + i * 11 + 6, none⟩ = some (.int .i64 o.nn) := cell_later HG.out.bel (hcc 6 _ rfl)
        have c7 : wr.cell? ⟨b, off + i * 11 + 7, none⟩ = some (.int .i64 o.mm) := cell_later HG.out.bel (hcc 7 _ rfl)
        have c8 : wr.cell? ⟨b, off + i * 11 + 8, none⟩ = some (.int .i64 o.off) := cell_later HG.out.bel (hcc 8 _ rfl)
        have c9 : wr.cell? ⟨b, off + i * 11 + 9, none⟩ = some (.int .i64 o.size) := cell_later HG.out.bel (hcc 9 _ rfl)
        have c10 : wr.cell? ⟨b, off + i * 11 + 10, none⟩ = some (.slice o.A o.m o.cp) := cell_later HG.out.bel (hcc 10 _ rfl)
        have hi0 : (0 : Int) ≤ (i : Int) := by omega
        have hi1 : (i : Int) < (n0 : Int) := by omega
        have CS := Lib.hid (step_any HG.out HI.out h80 o (HR.out.2.1 o (List.mem_of_getElem? ho)))
        unfold opC at CS
        clear hbl hcell ho hcc
        go_wp2_with fail
        refine CS.out.mono ?_
        rintro e w2 ⟨rfl, hq⟩
        have HQ : Hid (PlR w w2 P (i + 1)) := Lib.hid (by obtain ⟨C', h', bs', ns', ds', h1, h2⟩ := hq; exact ⟨C', h', bs', ns', ds', h1, h2⟩)
        clear hq CS HG HI c0 c1 c2 c3 c4 c5 c6 c7 c8 c9 c10
        go_wp2_with fail
        go_roundw
        case rel => exact ⟨i + 1, by simp, by omega, by omega, HQ⟩
        case measure => simp [intOf]; omega
end Go.Proofs.YtlojmmcagglpoaaGreat
