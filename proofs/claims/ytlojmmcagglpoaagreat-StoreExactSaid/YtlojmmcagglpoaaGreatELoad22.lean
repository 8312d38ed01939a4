/- THE WALKS of Load, the program's and the document's, and of the program's New at every name. -/
import Derived.Test.YtlojmmcagglpoaaGreatEPair2
import Derived.Test.YtlojmmcagglpoaaGreatEStoreStep
import Derived.RegionTactic
import Derived.Deep.RegionHeld
import Derived.Deep.RegionHeld3
import Derived.Deep.DrawnRows
namespace Go.Proofs.YtlojmmcagglpoaaGreat
open Go.RowKit Go.Maps
/-- the document's writer -/
structure R22 where
  nm : List UInt8
  sc : List UInt8
  by_ : List UInt8
  dn : Int
def r22c (x : R22) (v : Value) : Array Value := #[.string (strB x.nm), .string (strB x.sc), v, .int .i64 x.dn]
structure W22 (W : World) (N : Nat) (C : Nat → Nat) (c g : Nat) (v : Value) (x : R22) : Prop where
  blk : Blk W g 143 (r22c x v)
  own : OB W N v x.by_
  lo : N ≤ g
  col : C g = c ∧ ∀ k, v.ownBlock = some k → C k = c
theorem W22.step {W w' : World} {N : Nat} {C C' : Nat → Nat} {c g : Nat} {v : Value} {x : R22} (h : W22 W N C c g v x) {S : Nat → Prop} (hc : Chg S W w') (hs : Sam W.heap.size C C') (hS : ∀ b, S b → C b ≠ c) : W22 w' N C' c g v x :=
  ⟨h.blk.chg hc (fun e => hS g e h.col.1), hc.ob h.own (fun k hk e => hS k e (h.col.2 k hk)), h.lo, by rw [hs g h.blk.lt]; exact h.col.1, fun k hk => by rw [hs k (h.own.lt k hk).2]; exact h.col.2 k hk⟩
theorem W22.keep {W w' : World} {N : Nat} {C C' : Nat → Nat} {c g : Nat} {v : Value} {x : R22} (h : W22 W N C c g v x) (hb : Below W.heap.size W w') (hs : Sam W.heap.size C C') : W22 w' N C' c g v x := h.step (Chg.of_below hb (fun _ => False)) hs (fun _ h => h.elim)
set_option maxRecDepth 20000 in
set_option maxHeartbeats 2000000 in
theorem r22may_any (nm : List UInt8) (hlen : nm.length ≤ 1000000000000000) (w : World) : Calls Tryz.prog 62 #[.string (strB nm)] w fun e w' => e = .returned (.bool (mayB nm)) ∧ w = w' := by
  have hsz : (strB nm).size = nm.length := by simp [strB, ByteArray.size]
  obtain ⟨v, hv⟩ : ∃ v, v = mayB nm := ⟨_, rfl⟩
  rw [← hv]
  have HV := Lib.hid hv
  clear hv
  go_enter Tryz.func62, Tryz.ntmps62
  go_wp2_with fail
  go_loopw [3] (fun s3 W => ∃ k : Nat, s3 = .int .i64 (k : Int) ∧ k ≤ nm.length ∧ Hid (∀ c ∈ nm.take k, ¬ (c = 0 ∨ c = 10)) ∧ w = W) (fun s3 _ => nm.length - (intOf s3).toNat)
  case atStart => exact ⟨0, rfl, Nat.zero_le _, Lib.hid (fun c hc => by simp at hc), rfl⟩
  case round =>
    obtain ⟨k, rfl, hk, HK, rfl⟩ := hrel
    by_cases hlt : k < nm.length
    · have hki : (k : Int) < (nm.length : Int) := by omega
      have hk0 : (0 : Int) ≤ (k : Int) := by omega
      obtain ⟨ch, hch, hnk⟩ : ∃ ch : UInt8, (strB nm)[k]'(by rw [hsz]; exact hlt) = ch ∧ nm[k]? = some ch := ⟨_, rfl, by rw [List.getElem?_eq_getElem hlt]; rfl⟩
      have HNK := Lib.hid hnk
      clear hnk
      by_cases c0 : ch = 0 ∨ ch = 10
      · have hvf : Hid (v = false) := Lib.hid (by
          rw [HV.out]; unfold mayB
          rw [if_neg (fun h => h.2.2 ch (List.mem_of_getElem? HNK.out) c0)])
        by_cases c1 : ch.toNat = 0
        · clear c0
          go_wp2_with fail
          go_ret
          exact ⟨by rw [hvf.out]; rfl, rfl⟩
        · have c2 : ch.toNat = 10 := by
            rcases c0 with e | e
            · exact absurd (by rw [e]; rfl) c1
            · rw [e]; rfl
          have c2' : ((ch.toNat : Int) == 10) = true := by rw [c2]; rfl
          clear c0 c2
          go_wp2_with fail
          go_ret
          exact ⟨by rw [hvf.out]; rfl, rfl⟩
      · have c1 : ¬ ch.toNat = 0 := fun e => c0 (.inl (UInt8.toNat_inj.1 e))
        have c2 : ¬ ch.toNat = 10 := fun e => c0 (.inr (UInt8.toNat_inj.1 e))
        have HK2 : Hid (∀ c ∈ nm.take (k + 1), ¬ (c = 0 ∨ c = 10)) := Lib.hid (fun c hc => by
          rw [take_snoc HNK.out] at hc
          rcases List.mem_append.1 hc with h | h
          · exact HK.out c h
          · rw [List.mem_singleton.1 h]; exact c0)
        have c1' : ((ch.toNat : Int) == 0) = false := by rw [beq_eq_false_iff_ne]; omega
        have c2' : ((ch.toNat : Int) == 10) = false := by rw [beq_eq_false_iff_ne]; omega
        have hk3 : (k : Int) ≤ 1000000000000000 := by omega
        clear c0
        go_wp2_with fail
        go_roundw
        case rel => exact ⟨k + 1, by go_num, by omega, HK2, trivial⟩
        case measure => simp [intOf]; omega
    · obtain rfl : k = nm.length := by omega
      have hvt : Hid (v = (decide (1 ≤ nm.length) && decide (nm.length ≤ 32))) := Lib.hid (by
        rw [HV.out]; unfold mayB
        by_cases h1 : 1 ≤ nm.length <;> by_cases h2 : nm.length ≤ 32
        · rw [if_pos ⟨h1, h2, fun c hc => HK.out c (by rw [List.take_length]; exact hc)⟩]; simp [h1, h2]
        · rw [if_neg (fun h => h2 h.2.1)]; simp [h1, h2]
        · rw [if_neg (fun h => h1 h.1)]; simp [h1]
        · rw [if_neg (fun h => h1 h.1)]; simp [h1])
      by_cases h1 : 1 ≤ nm.length
      · have h1i : (1 : Int) ≤ (nm.length : Int) := by omega
        go_wp2_with fail
        go_ret
        exact ⟨by rw [hvt.out]; simp [h1]; omega, rfl⟩
      · have h1i : ¬ (1 : Int) ≤ (nm.length : Int) := by omega
        go_wp2_with fail
        go_ret
        exact ⟨by rw [hvt.out]; simp [h1], rfl⟩
open Classical in
def New22Q (W : World) (C : Nat → Nat) (c : Nat) (nm sc : List UInt8) (e : Ending) (w' : World) : Prop :=
  Below W.heap.size W w' ∧ ((newE nm sc ≠ 0 ∧ e = .returned (.tuple #[.pointer none, .int .i64 (newE nm sc)])) ∨ (newE nm sc = 0 ∧ ∃ g, e = .returned (.tuple #[.pointer (some ⟨g, 0, none⟩), .int .i64 0]) ∧ W22 w' W.heap.size (paint C W.heap.size c) c g (.slice none 0 0) ⟨nm, sc, [], -1⟩))
set_option maxRecDepth 20000 in
set_option maxHeartbeats 2000000 in
theorem new22_any (W : World) (C : Nat → Nat) (c : Nat) (nm sc : List UInt8) (hl : nm.length ≤ 1000000000000000) (hl2 : sc.length ≤ 1000000000000000) : Calls Tryz.prog 15 #[.string (strB nm), .string (strB sc)] W (New22Q W C c nm sc) := by
  have C1 := Lib.hid (r22may_any nm hl)
  have C2 := Lib.hid (r22may_any sc hl2)
  clear hl hl2
  have hcmp := strB_beq nm sc
  go_enter Tryz.func15, Tryz.ntmps15
  cases hb1 : mayB nm with
  | false =>
    rw [hb1] at C1
    have HE : Hid (newE nm sc = 140) := Lib.hid (by unfold newE; rw [hb1]; rfl)
    have HF : Hid (New22Q W C c nm sc (.returned (.tuple #[.pointer none, .int .i64 140])) W) := Lib.hid ⟨Below.refl _ _, .inl ⟨by rw [HE.out]; decide, by rw [HE.out]⟩⟩
    clear hb1
    go_wp2_with fail
    refine (C1.out W).mono ?_
    rintro e w1 ⟨rfl, rfl⟩
    go_wp2_with fail
    go_ret2
    exact HF.out
  | true =>
    rw [hb1] at C1
    go_wp2_with fail
    refine (C1.out W).mono ?_
    rintro e w1 ⟨rfl, rfl⟩
    cases hb2 : mayB sc with
    | false =>
      rw [hb2] at C2
      have HE : Hid (newE nm sc = 140) := Lib.hid (by unfold newE; rw [hb1, hb2]; rfl)
      have HF : Hid (New22Q W C c nm sc (.returned (.tuple #[.pointer none, .int .i64 140])) W) := Lib.hid ⟨Below.refl _ _, .inl ⟨by rw [HE.out]; decide, by rw [HE.out]⟩⟩
      clear hb1 hb2
      go_wp2_with fail
      refine (C2.out W).mono ?_
      rintro e w2 ⟨rfl, rfl⟩
      go_wp2_with fail
      go_ret2
      exact HF.out
    | true =>
      rw [hb2] at C2
      have HE : Hid (newE nm sc = if nm = sc then 1 else 0) := Lib.hid (by unfold newE; rw [hb1, hb2]; rfl)
      clear hb1 hb2
      go_wp2_with fail
      refine (C2.out W).mono ?_
      rintro e w2 ⟨rfl, rfl⟩
      by_cases he : nm = sc
      · rw [decide_eq_true he] at hcmp
        have HF : Hid (New22Q W C c nm sc (.returned (.tuple #[.pointer none, .int .i64 1])) W) := Lib.hid ⟨Below.refl _ _, .inl ⟨by rw [HE.out, if_pos he]; decide, by rw [HE.out, if_pos he]⟩⟩
        clear he
        go_wp2_with fail
        go_ret2
        exact HF.out
      · rw [decide_eq_false he] at hcmp
        have HF : Hid (New22Q W C c nm sc (.returned (.tuple #[.pointer (some ⟨W.heap.size, 0, none⟩), .int .i64 0])) (W.alloc (.cells #[.string (strB nm), .string (strB sc), .slice none 0 0, .int .i64 (-1)] 143))) := Lib.hid
          ⟨(Below.refl _ _).alloc (Nat.le_refl _) _, .inr ⟨by rw [HE.out, if_neg he], W.heap.size, rfl, ⟨Blk.new _ _ _ rfl, OB.nil _ _, Nat.le_refl _, paint_new C c (Nat.le_refl _), fun k hk => by cases hk⟩⟩⟩
        clear he
        go_wp2_with fail
        go_ret2
        exact HF.out
set_option maxRecDepth 20000 in
theorem busy22_any (W : World) (N : Nat) (C : Nat → Nat) (c g : Nat) (v : Value) (x : R22) (h : W22 W N C c g v x) : Calls Tryz.prog 24 #[.pointer (some ⟨g, 0, none⟩)] W fun e w' => e = .returned (.bool (decide (0 ≤ x.dn))) ∧ W = w' := by
  have c3 : W.cell? ⟨g, 3, none⟩ = some (.int .i64 x.dn) := (h.blk.cell 3).trans rfl
  clear h
  go_enter Tryz.func24, Tryz.ntmps24
  go_wp2_with fail
  go_ret
  exact ⟨rfl, rfl⟩
def R22.begin (x : R22) (l : List UInt8) : Int × R22 := if 0 ≤ x.dn then (220, x) else if 1048576 < l.length then (145, x) else (0, ⟨x.nm, x.sc, l, 0⟩)
def Beg22Q (W : World) (N : Nat) (C : Nat → Nat) (c g : Nat) (q : Int × R22) (e : Ending) (w' : World) : Prop :=
  e = .returned (.int .i64 q.1) ∧ (∃ v, W22 w' N (paint C W.heap.size c) c g v q.2) ∧ Chg (fun b => b = g) W w'
set_option maxRecDepth 20000 in
set_option maxHeartbeats 1000000 in
theorem begin22_any (W : World) (N : Nat) (C : Nat → Nat) (c g : Nat) (v : Value) (r : R22) (h : W22 W N C c g v r) (hN : N ≤ W.heap.size) (A : Option Addr) (m cp : Nat) (l : List UInt8) (hr : RB W A m l) (hm : m ≤ 1000000000) : Calls Tryz.prog 20 #[.pointer (some ⟨g, 0, none⟩), .slice A m cp] W (Beg22Q W N C c g (r.begin l)) := by
  have H := Lib.hid h; have HR := Lib.hid hr
  have c3 : W.cell? ⟨g, 3, none⟩ = some (.int .i64 r.dn) := (h.blk.cell 3).trans rfl
  clear h hr
  go_enter Tryz.func20, Tryz.ntmps20
  by_cases hb : 0 ≤ r.dn
  · have HF : Hid (Beg22Q W N C c g (r.begin l) (.returned (.int .i64 220)) W) := Lib.hid (by
      unfold R22.begin
      rw [if_pos hb]
      exact ⟨rfl, ⟨v, H.out.keep (Below.refl _ _) (sam_paint _ _ _)⟩, Chg.refl _ _⟩)
    go_wp2_with fail
    go_ret
    exact HF.out
  · by_cases hbig : 1048576 < m
    · have hbz : (1048576 : Int) < (m : Int) := by omega
      have HF : Hid (Beg22Q W N C c g (r.begin l) (.returned (.int .i64 145)) W) := Lib.hid (by
        unfold R22.begin
        rw [if_neg hb, if_pos (by rw [HR.out.1]; exact hbig)]
        exact ⟨rfl, ⟨v, H.out.keep (Below.refl _ _) (sam_paint _ _ _)⟩, Chg.refl _ _⟩)
      go_wp2_with fail
      go_ret
      exact HF.out
    · have hbz : ¬ (1048576 : Int) < (m : Int) := by omega
      have O1 := Lib.hid (OB.fresh (w := W) (base := W.heap.size) (g := W.heap.size) rfl (Nat.le_refl _))
      have R1 := Lib.hid (HR.out.alloc (.cells #[] 5))
      have HS : Hid (W.heap.size ≤ (W.alloc (.cells #[] 5)).heap.size) := Lib.hid (by simp)
      have HBD := Lib.hid hb
      go_wp2_with ((at_builtin; go_must (refine append_bytes rfl (.tmp 14) (.tmp 15) rfl W.heap.size (.slice (some ⟨W.heap.size, 0, none⟩) 0 0) [] rfl O1.out A m cp l rfl R1.out (by simp; omega) HS.out ?_); intro v3 w3 ho3 hg3 ha3; refine halt ?_))
      refine unhalt ?_
      have B3 : Hid (Below W.heap.size W w3) := Lib.hid ((Below.alloc (Below.refl _ _) (Nat.le_refl _) _).grown hg3 HS.out (fun k hk => (O1.out.lt k hk).1))
      have BK3 := Lib.hid (H.out.blk.keep B3.out)
      rw [List.nil_append] at ho3
      obtain ⟨A3, cap3, hv3, _⟩ := own_form ho3
      have c2 : w3.cell? ⟨g, 2, none⟩ = some v := (BK3.out.cell 2).trans rfl
      have c3' : w3.cell? ⟨g, 3, none⟩ = some (.int .i64 r.dn) := (BK3.out.cell 3).trans rfl
      have f2 : w3.frozen? ⟨g, 2, none⟩ = false := BK3.out.frozen 2
      have f3 : w3.frozen? ⟨g, 3, none⟩ = false := BK3.out.frozen 3
      have HF : Hid (Beg22Q W N C c g (r.begin l) (.returned (.int .i64 0)) ((w3.setCell ⟨g, 2, none⟩ v3).setCell ⟨g, 3, none⟩ (.int .i64 0))) := Lib.hid (by
        unfold R22.begin
        rw [if_neg (show ¬ 0 ≤ r.dn by have := HBD.out; omega), if_neg (by rw [HR.out.1]; omega)]
        have hc : Chg (fun b => b = g) W ((w3.setCell ⟨g, 2, none⟩ v3).setCell ⟨g, 3, none⟩ (.int .i64 0)) := ((Chg.of_below B3.out _).set1 2 _).set1 3 _
        have hne : ∀ k, v3.ownBlock = some k → ¬ k = g := fun k hk e => BK3.out.apart ho3 (by decide) (by rw [hk, e])
        refine ⟨rfl, ⟨v3, (BK3.out.set_ 2 v3).set_ 3 (.int .i64 0), ?_, H.out.lo, by rw [paint_old C c H.out.blk.lt]; exact H.out.col.1, fun k hk => ?_⟩, hc⟩
        · have h1 : Chg (fun b => b = g) w3 ((w3.setCell ⟨g, 2, none⟩ v3).setCell ⟨g, 3, none⟩ (.int .i64 0)) := ((Chg.refl _ w3).set1 2 _).set1 3 _
          exact h1.ob (OB.less ho3 hN) hne
        · exact paint_new C c (ho3.lt k hk).1)
      rw [hv3] at HF ⊢
      clear ho3 hg3 ha3 hv3 c3 hb
      go_wp2_with fail
      go_ret
      exact HF.out
end Go.Proofs.YtlojmmcagglpoaaGreat
namespace Go.Proofs.YtlojmmcagglpoaaGreat
open Go.RowKit Go.Maps
attribute [local go_sem ↓] Go.wp_at_zero Go.wp_at_succ
noncomputable def R22.op (x : R22) (r : Rd) : Int × Rd := if x.dn = 0 then (if (r.sti x.sc).2.2.2.2 = 0 then r.cut x.sc else r.create x.sc) else if x.dn = 1 then r.append x.sc x.by_ else if x.dn = 2 then r.sync x.sc else r.rename x.sc x.nm
noncomputable def R22.step (x : R22) (r : Rd) : (Bool × Int) × Rd × R22 := if 0 ≤ x.dn then ((decide ((x.op r).1 = 0) && decide (x.dn = 3), (x.op r).1), (x.op r).2, ⟨x.nm, x.sc, x.by_, if (x.op r).1 ≠ 0 ∨ x.dn = 3 then -1 else x.dn + 1⟩) else ((false, 0), r, x)
theorem RStepQ.behind {W w1 : World} {N : Nat} {C : Nat → Nat} {c q : Nat} {v : Value} {r : Rd} {e : Ending} {w' : World} (hb : Below W.heap.size W w1) (h : RStepQ w1 N (paint C W.heap.size c) c q v r e w') : RStepQ W N C c q v r e w' := by
  obtain ⟨h1, h2, h3⟩ := h
  rw [paint_paint C c hb.size] at h2
  exact ⟨h1, h2, (chg_paint (Chg.of_below hb (fun _ => False)) h3).mono (fun _ _ e => e.elim (fun e => e.elim) id)⟩
def Step22Q (W : World) (N N' : Nat) (C : Nat → Nat) (c c2 q g : Nat) (a : (Bool × Int) × Rd × R22) (e : Ending) (w' : World) : Prop :=
  e = .returned (.tuple #[.bool a.1.1, .int .i64 a.1.2]) ∧ RC w' N (paint C W.heap.size c) c q a.2.1 ∧ (∃ v, W22 w' N' (paint C W.heap.size c) c2 g v a.2.2) ∧ Chg (fun b => C b = c ∨ b = g) W w'
set_option maxRecDepth 20000 in
set_option maxHeartbeats 4000000 in
theorem step22_any (W : World) (N N' : Nat) (C : Nat → Nat) (c c2 q n g : Nat) (r : Rd) (v : Value) (x : R22) (hcc : c2 ≠ c) (h : RC W N C c q r) (hN : N ≤ W.heap.size) (hok : r.Ok n) (hw : W22 W N' C c2 g v x) (hdn : x.dn ≤ 3) (hlen : x.by_.length ≤ 1048576) : Calls Tryz.prog 22 #[.pointer (some ⟨g, 0, none⟩), .pointer (some ⟨q, 0, none⟩)] W (Step22Q W N N' C c c2 q g (x.step r)) := by
  obtain ⟨nm, sc, by_, dn⟩ := x
  simp only at hdn hlen
  have c3 : W.cell? ⟨g, 3, none⟩ = some (.int .i64 dn) := (hw.blk.cell 3).trans rfl
  have c1 : W.cell? ⟨g, 1, none⟩ = some (.string (strB sc)) := (hw.blk.cell 1).trans rfl
  by_cases h0 : dn < 0
  · have HF : Hid (Step22Q W N N' C c c2 q g ((⟨nm, sc, by_, dn⟩ : R22).step r) (.returned (.tuple #[.bool false, .int .i64 0])) W) := Lib.hid (by
      unfold R22.step
      rw [if_neg (by simp only; omega)]
      exact ⟨rfl, h.keep (Below.refl _ _) (sam_paint _ _ _), ⟨v, hw.keep (Below.refl _ _) (sam_paint _ _ _)⟩, Chg.refl _ _⟩)
    clear h hw hok c1
    go_enter Tryz.func22, Tryz.ntmps22
    go_wp2_with fail
    go_ret2
    exact HF.out
  obtain ⟨k, hk⟩ : ∃ k : Nat, dn = (k : Int) := ⟨dn.toNat, by omega⟩
  subst hk
  have HW := Lib.hid hw; have H := Lib.hid h; have HOK := Lib.hid hok; have HCC := Lib.hid hcc; have HNN := Lib.hid hN
  obtain ⟨⟨en, r'⟩, hop⟩ : ∃ a, a = (⟨nm, sc, by_, (k : Int)⟩ : R22).op r := ⟨_, rfl⟩
  have HOP := Lib.hid hop
  have hk3 : k ≤ 3 := by omega
  have HK3 := Lib.hid hk3
  clear h hw hok hcc hop hdn hk3 h0 hN
  go_enter Tryz.func22, Tryz.ntmps22
  go_upto_block 0 with fail
  go_cut [6] (fun s6 wx => s6 = .int .i64 en ∧ Hid (RStepQ W N C c q (.int .i64 en) r' (.returned (.int .i64 en)) wx))
  case first =>
    obtain rfl | rfl | rfl | rfl : k = 0 ∨ k = 1 ∨ k = 2 ∨ k = 3 := by have := HK3.out; omega
    · have CS := Lib.hid (ask_rstat HOK.out sc H.out)
      obtain ⟨⟨t0, t1, t2, t3, t4⟩, ht⟩ : ∃ t, t = r.sti sc := ⟨_, rfl⟩
      rw [← ht] at CS
      have HT := Lib.hid ht
      clear ht
      go_wp2_with fail
      refine CS.out.mono ?_
      rintro e w3 ⟨rfl, hb3⟩
      simp only
      have HB := Lib.hid (show Below W.heap.size W (w3.alloc (.cells #[.int .i64 t0, .int .i64 t1, .int .i64 t2, .int .i64 t3] 119)) from hb3.alloc hb3.size _)
      have z1 : (w3.alloc (.cells #[.int .i64 t0, .int .i64 t1, .int .i64 t2, .int .i64 t3] 119)).cell? ⟨g, 1, none⟩ = some (.string (strB sc)) := cell_later HB.out c1
      clear hb3 CS
      by_cases h4 : t4 = 0
      · have CC := Lib.hid (rcut_any (H.out.keep HB.out (sam_paint C W.heap.size c)) HOK.out sc)
        have HE : Hid (r.cut sc = (en, r')) := Lib.hid (by rw [HOP.out]; unfold R22.op; simp only; rw [if_pos (by rfl), if_pos (by rw [← HT.out]; exact h4)])
        rw [HE.out] at CC
        subst h4
        go_wp2_with fail
        refine CC.out.mono ?_
        intro e w4 hq
        have hq2 := RStepQ.behind HB.out hq
        have he := hq.1
        subst he
        have HF := Lib.hid hq2
        clear hq hq2 CC
        go_wp2_with fail
        go_meet
        exact ⟨rfl, HF⟩
      · have CC := Lib.hid (rcreate_any (H.out.keep HB.out (sam_paint C W.heap.size c)) (Nat.le_trans HNN.out HB.out.size) HOK.out sc)
        have HE : Hid (r.create sc = (en, r')) := Lib.hid (by rw [HOP.out]; unfold R22.op; simp only; rw [if_pos (by rfl), if_neg (by rw [← HT.out]; exact h4)])
        rw [HE.out] at CC
        have h4b : (t4 == 0) = false := by rw [beq_eq_false_iff_ne]; exact h4
        clear h4
        go_wp2_with fail
        refine CC.out.mono ?_
        intro e w4 hq
        have hq2 := RStepQ.behind HB.out hq
        have he := hq.1
        subst he
        have HF := Lib.hid hq2
        clear hq hq2 CC
        go_wp2_with fail
        go_meet
        exact ⟨rfl, HF⟩
    · obtain ⟨Av, cv, hv, hv1, hv2, hrb⟩ := HW.out.own.form
      obtain ⟨lb, hlb⟩ : ∃ lb, lb = by_.length := ⟨_, rfl⟩
      simp only at hv hv1 hrb
      rw [← hlb] at hv hv1 hrb
      subst hv
      have HLB := Lib.hid hlb
      have HRB := Lib.hid hrb
      clear hlb hrb
      have hlb3 : lb ≤ 1048576 := by rw [HLB.out]; exact hlen
      have HE : Hid (r.append sc by_ = (en, r')) := Lib.hid (by rw [HOP.out]; unfold R22.op; simp only; rw [if_neg (by decide), if_pos (by rfl)])
      have HAP : Hid (∀ w2, Below W.heap.size W w2 → Calls Tryz.prog 64 #[.pointer (some ⟨q, 0, none⟩), .string (strB sc), .slice Av lb cv] w2 (RStepQ w2 N (paint C W.heap.size c) c q (.int .i64 en) r')) := Lib.hid (fun w2 hb => by
        have h1 := rappend_any (H.out.keep hb (sam_paint C W.heap.size c)) (Nat.le_trans HNN.out hb.size) HOK.out sc Av lb cv by_ (HRB.out.keep hb) (by omega)
        rw [HE.out] at h1
        exact h1)
      go_upto_region 11 with fail
      refine wp_region_any (by kernel_rfl) ?_
      change wpAny _ _ _ _ _ _ _ (World.drew _)
      refine wpAny_of_held (S := fun w' => w'.cell? ⟨g, 0, none⟩ = some (.string (strB nm)) ∧ w'.cell? ⟨g, 1, none⟩ = some (.string (strB sc)) ∧ w'.cell? ⟨g, 2, none⟩ = some (.slice Av lb cv)) _ _ _ _ ?_
      obtain ⟨w2, hw2⟩ : ∃ w2, w2 = W.drew := ⟨_, rfl⟩
      have HB2 : Hid (Below W.heap.size W w2) := Lib.hid (by rw [hw2]; exact (Below.refl _ _).drew)
      rw [← hw2]
      clear hw2
      have hHeld : (fun w' => w'.cell? ⟨g, 0, none⟩ = some (.string (strB nm)) ∧ w'.cell? ⟨g, 1, none⟩ = some (.string (strB sc)) ∧ w'.cell? ⟨g, 2, none⟩ = some (.slice Av lb cv)) w2 := ⟨((HW.out.blk.keep HB2.out).cell 0).trans rfl, ((HW.out.blk.keep HB2.out).cell 1).trans rfl, ((HW.out.blk.keep HB2.out).cell 2).trans rfl⟩
      refine wpAnyH_take (i := 0) (v := ?_) rfl (by kernel_rfl) (by kernel_rfl) (by kernel_rfl) (fun _ _ _ h => h) (Or.inl ⟨by rfl, ?_⟩) (by assumption) ?_
      rotate_left 1
      · intro w hSw; (try dsimp only at hSw); go_simp <;> with_reducible rfl
      try simp only [Act.put, List.setIfInBounds_toArray, List.set_cons_zero, List.set_cons_succ, List.getElem_toArray, List.getElem_cons_zero]
      refine wpAnyH_take (i := 1) (v := ?_) rfl (by kernel_rfl) (by kernel_rfl) (by kernel_rfl) (fun _ _ _ h => h) (Or.inl ⟨by rfl, ?_⟩) (by assumption) ?_
      rotate_left 1
      · intro w hSw; (try dsimp only at hSw); go_simp <;> with_reducible rfl
      try simp only [Act.put, List.setIfInBounds_toArray, List.set_cons_zero, List.set_cons_succ, List.getElem_toArray, List.getElem_cons_zero, List.getElem_cons_succ]
      refine wpAnyH_take (i := 2) (v := ?_) rfl (by kernel_rfl) (by kernel_rfl) (by kernel_rfl) (fun _ _ _ h => h) (Or.inl ⟨by rfl, ?_⟩) (by assumption) ?_
      rotate_left 1
      · intro w hSw; (try dsimp only at hSw); go_simp <;> with_reducible rfl
      try simp only [Act.put, List.setIfInBounds_toArray, List.set_cons_zero, List.set_cons_succ, List.getElem_toArray, List.getElem_cons_zero, List.getElem_cons_succ]
      refine wpAnyH_take (i := 3) (v := ?_) rfl (by kernel_rfl) (by kernel_rfl) (by kernel_rfl) (fun _ _ _ h => h) (Or.inl ⟨by rfl, ?_⟩) (by assumption) ?_
      rotate_left 1
      · intro w hSw; (try dsimp only at hSw); go_simp <;> with_reducible rfl
      try simp only [Act.put, List.setIfInBounds_toArray, List.set_cons_zero, List.set_cons_succ, List.getElem_toArray, List.getElem_cons_zero, List.getElem_cons_succ]
      refine wpAnyH_take (i := 4) (v := ?_) rfl (by kernel_rfl) (by kernel_rfl) (by kernel_rfl) (fun _ _ _ h => h) (Or.inl ⟨by rfl, ?_⟩) (by assumption) ?_
      rotate_left 1
      · intro w hSw; obtain ⟨z0, z1, z2⟩ := hSw; (try dsimp only at hSw); go_simp <;> with_reducible rfl
      try simp only [Act.put, List.setIfInBounds_toArray, List.set_cons_zero, List.set_cons_succ, List.getElem_toArray, List.getElem_cons_zero, List.getElem_cons_succ]
      refine wpAnyH_take (i := 5) (v := ?_) rfl (by kernel_rfl) (by kernel_rfl) (by kernel_rfl) (fun _ _ _ h => h) (Or.inl ⟨by rfl, ?_⟩) (by assumption) ?_
      rotate_left 1
      · intro w hSw; (try dsimp only at hSw); go_simp <;> with_reducible rfl
      try simp only [Act.put, List.setIfInBounds_toArray, List.set_cons_zero, List.set_cons_succ, List.getElem_toArray, List.getElem_cons_zero, List.getElem_cons_succ]
      refine wpAnyH_take (i := 6) (v := ?_) rfl (by kernel_rfl) (by kernel_rfl) (by kernel_rfl) (fun _ _ _ h => h) (Or.inl ⟨by rfl, ?_⟩) (by assumption) ?_
      rotate_left 1
      · intro w hSw; (try dsimp only at hSw); go_simp <;> with_reducible rfl
      try simp only [Act.put, List.setIfInBounds_toArray, List.set_cons_zero, List.set_cons_succ, List.getElem_toArray, List.getElem_cons_zero, List.getElem_cons_succ]
      refine wpAnyH_take (i := 7) (v := ?_) rfl (by kernel_rfl) (by kernel_rfl) (by kernel_rfl) (fun _ _ _ h => h) (Or.inl ⟨by rfl, ?_⟩) (by assumption) ?_
      rotate_left 1
      · intro w hSw; (try dsimp only at hSw); go_simp <;> with_reducible rfl
      try simp only [Act.put, List.setIfInBounds_toArray, List.set_cons_zero, List.set_cons_succ, List.getElem_toArray, List.getElem_cons_zero, List.getElem_cons_succ]
      refine wpAnyH_take (i := 8) (v := ?_) rfl (by kernel_rfl) (by kernel_rfl) (by kernel_rfl) (fun _ _ _ h => h) (Or.inl ⟨by rfl, ?_⟩) (by assumption) ?_
      rotate_left 1
      · intro w hSw; obtain ⟨z0, z1, z2⟩ := hSw; (try dsimp only at hSw); go_simp <;> with_reducible rfl
      try simp only [Act.put, List.setIfInBounds_toArray, List.set_cons_zero, List.set_cons_succ, List.getElem_toArray, List.getElem_cons_zero, List.getElem_cons_succ]
      refine wpAnyH_ready (rs := [9]) (by kernel_rfl) (by simp) (AllReadyH.cons rfl (fun K hK => ?_) AllReadyH.nil)
      have hPrev := hHeld
      clear hHeld
      go_simp
      refine (HAP.out w2 HB2.out).mono ?_
      intro e w4 hq
      have hq2 := RStepQ.behind HB2.out hq
      have he := hq.1
      subst he
      have HF := Lib.hid hq2
      have HBL := Lib.hid (HW.out.blk.chg hq2.2.2 (fun e => HCC.out (by rw [← e, HW.out.col.1])))
      clear hq hq2
      refine hK.out _ _ (⟨(HBL.out.cell 0).trans rfl, (HBL.out.cell 1).trans rfl, (HBL.out.cell 2).trans rfl⟩) (fun hHeld => ?_)
      clear hK K hPrev
      try simp only [Act.put, List.setIfInBounds_toArray, List.set_cons_zero, List.set_cons_succ, List.getElem_toArray, List.getElem_cons_zero, List.getElem_cons_succ]
      refine wpAnyH_take (i := 10) (v := ?_) rfl (by kernel_rfl) (by kernel_rfl) (by kernel_rfl) (fun _ _ _ h => h) (Or.inl ⟨by rfl, ?_⟩) (by assumption) ?_
      rotate_left 1
      · intro w hSw; (try dsimp only at hSw); go_simp <;> with_reducible rfl
      try simp only [Act.put, List.setIfInBounds_toArray, List.set_cons_zero, List.set_cons_succ, List.getElem_toArray, List.getElem_cons_zero, List.getElem_cons_succ]
      refine wpAnyH_done (by kernel_rfl) ?_ _
      clear hHeld
      go_wp2_with fail
      go_meet
      exact ⟨rfl, HF⟩
    · have CC := Lib.hid (rsync_any H.out HOK.out sc)
      have HE : Hid (r.sync sc = (en, r')) := Lib.hid (by rw [HOP.out]; unfold R22.op; simp only; rw [if_neg (by decide), if_neg (by decide), if_pos (by rfl)])
      rw [HE.out] at CC
      go_wp2_with fail
      refine CC.out.mono ?_
      intro e w4 hq
      have he := hq.1
      subst he
      have HF := Lib.hid hq
      clear hq CC
      go_wp2_with fail
      go_meet
      exact ⟨rfl, HF⟩
    · obtain ⟨Av, cv, hv, hv1, hv2, hrb⟩ := HW.out.own.form
      obtain ⟨lb, hlb⟩ : ∃ lb, lb = by_.length := ⟨_, rfl⟩
      simp only at hv hv1 hrb
      rw [← hlb] at hv hv1 hrb
      subst hv
      have HLB := Lib.hid hlb
      have HRB := Lib.hid hrb
      clear hlb hrb
      have hlb3 : lb ≤ 1048576 := by rw [HLB.out]; exact hlen
      have HE : Hid (r.rename sc nm = (en, r')) := Lib.hid (by rw [HOP.out]; unfold R22.op; simp only; rw [if_neg (by decide), if_neg (by decide), if_neg (by decide)])
      have HAP : Hid (∀ w2, Below W.heap.size W w2 → Calls Tryz.prog 66 #[.pointer (some ⟨q, 0, none⟩), .string (strB sc), .string (strB nm)] w2 (RStepQ w2 N (paint C W.heap.size c) c q (.int .i64 en) r')) := Lib.hid (fun w2 hb => by
        have h1 := rrename_any (H.out.keep hb (sam_paint C W.heap.size c)) (Nat.le_trans HNN.out hb.size) HOK.out sc nm
        rw [HE.out] at h1
        exact h1)
      go_upto_region 15 with fail
      refine wp_region_any (by kernel_rfl) ?_
      change wpAny _ _ _ _ _ _ _ (World.drew _)
      refine wpAny_of_held (S := fun w' => w'.cell? ⟨g, 0, none⟩ = some (.string (strB nm)) ∧ w'.cell? ⟨g, 1, none⟩ = some (.string (strB sc)) ∧ w'.cell? ⟨g, 2, none⟩ = some (.slice Av lb cv)) _ _ _ _ ?_
      obtain ⟨w2, hw2⟩ : ∃ w2, w2 = W.drew := ⟨_, rfl⟩
      have HB2 : Hid (Below W.heap.size W w2) := Lib.hid (by rw [hw2]; exact (Below.refl _ _).drew)
      rw [← hw2]
      clear hw2
      have hHeld : (fun w' => w'.cell? ⟨g, 0, none⟩ = some (.string (strB nm)) ∧ w'.cell? ⟨g, 1, none⟩ = some (.string (strB sc)) ∧ w'.cell? ⟨g, 2, none⟩ = some (.slice Av lb cv)) w2 := ⟨((HW.out.blk.keep HB2.out).cell 0).trans rfl, ((HW.out.blk.keep HB2.out).cell 1).trans rfl, ((HW.out.blk.keep HB2.out).cell 2).trans rfl⟩
      refine wpAnyH_take (i := 0) (v := ?_) rfl (by kernel_rfl) (by kernel_rfl) (by kernel_rfl) (fun _ _ _ h => h) (Or.inl ⟨by rfl, ?_⟩) (by assumption) ?_
      rotate_left 1
      · intro w hSw; (try dsimp only at hSw); go_simp <;> with_reducible rfl
      try simp only [Act.put, List.setIfInBounds_toArray, List.set_cons_zero, List.set_cons_succ, List.getElem_toArray, List.getElem_cons_zero]
      refine wpAnyH_take (i := 1) (v := ?_) rfl (by kernel_rfl) (by kernel_rfl) (by kernel_rfl) (fun _ _ _ h => h) (Or.inl ⟨by rfl, ?_⟩) (by assumption) ?_
      rotate_left 1
      · intro w hSw; (try dsimp only at hSw); go_simp <;> with_reducible rfl
      try simp only [Act.put, List.setIfInBounds_toArray, List.set_cons_zero, List.set_cons_succ, List.getElem_toArray, List.getElem_cons_zero, List.getElem_cons_succ]
      refine wpAnyH_take (i := 2) (v := ?_) rfl (by kernel_rfl) (by kernel_rfl) (by kernel_rfl) (fun _ _ _ h => h) (Or.inl ⟨by rfl, ?_⟩) (by assumption) ?_
      rotate_left 1
      · intro w hSw; (try dsimp only at hSw); go_simp <;> with_reducible rfl
      try simp only [Act.put, List.setIfInBounds_toArray, List.set_cons_zero, List.set_cons_succ, List.getElem_toArray, List.getElem_cons_zero, List.getElem_cons_succ]
      refine wpAnyH_take (i := 3) (v := ?_) rfl (by kernel_rfl) (by kernel_rfl) (by kernel_rfl) (fun _ _ _ h => h) (Or.inl ⟨by rfl, ?_⟩) (by assumption) ?_
      rotate_left 1
      · intro w hSw; (try dsimp only at hSw); go_simp <;> with_reducible rfl
      try simp only [Act.put, List.setIfInBounds_toArray, List.set_cons_zero, List.set_cons_succ, List.getElem_toArray, List.getElem_cons_zero, List.getElem_cons_succ]
      refine wpAnyH_take (i := 4) (v := ?_) rfl (by kernel_rfl) (by kernel_rfl) (by kernel_rfl) (fun _ _ _ h => h) (Or.inl ⟨by rfl, ?_⟩) (by assumption) ?_
      rotate_left 1
      · intro w hSw; obtain ⟨z0, z1, z2⟩ := hSw; (try dsimp only at hSw); go_simp <;> with_reducible rfl
      try simp only [Act.put, List.setIfInBounds_toArray, List.set_cons_zero, List.set_cons_succ, List.getElem_toArray, List.getElem_cons_zero, List.getElem_cons_succ]
      refine wpAnyH_take (i := 5) (v := ?_) rfl (by kernel_rfl) (by kernel_rfl) (by kernel_rfl) (fun _ _ _ h => h) (Or.inl ⟨by rfl, ?_⟩) (by assumption) ?_
      rotate_left 1
      · intro w hSw; (try dsimp only at hSw); go_simp <;> with_reducible rfl
      try simp only [Act.put, List.setIfInBounds_toArray, List.set_cons_zero, List.set_cons_succ, List.getElem_toArray, List.getElem_cons_zero, List.getElem_cons_succ]
      refine wpAnyH_take (i := 6) (v := ?_) rfl (by kernel_rfl) (by kernel_rfl) (by kernel_rfl) (fun _ _ _ h => h) (Or.inl ⟨by rfl, ?_⟩) (by assumption) ?_
      rotate_left 1
      · intro w hSw; (try dsimp only at hSw); go_simp <;> with_reducible rfl
      try simp only [Act.put, List.setIfInBounds_toArray, List.set_cons_zero, List.set_cons_succ, List.getElem_toArray, List.getElem_cons_zero, List.getElem_cons_succ]
      refine wpAnyH_take (i := 7) (v := ?_) rfl (by kernel_rfl) (by kernel_rfl) (by kernel_rfl) (fun _ _ _ h => h) (Or.inl ⟨by rfl, ?_⟩) (by assumption) ?_
      rotate_left 1
      · intro w hSw; (try dsimp only at hSw); go_simp <;> with_reducible rfl
      try simp only [Act.put, List.setIfInBounds_toArray, List.set_cons_zero, List.set_cons_succ, List.getElem_toArray, List.getElem_cons_zero, List.getElem_cons_succ]
      refine wpAnyH_take (i := 8) (v := ?_) rfl (by kernel_rfl) (by kernel_rfl) (by kernel_rfl) (fun _ _ _ h => h) (Or.inl ⟨by rfl, ?_⟩) (by assumption) ?_
      rotate_left 1
      · intro w hSw; obtain ⟨z0, z1, z2⟩ := hSw; (try dsimp only at hSw); go_simp <;> with_reducible rfl
      try simp only [Act.put, List.setIfInBounds_toArray, List.set_cons_zero, List.set_cons_succ, List.getElem_toArray, List.getElem_cons_zero, List.getElem_cons_succ]
      refine wpAnyH_ready (rs := [9]) (by kernel_rfl) (by simp) (AllReadyH.cons rfl (fun K hK => ?_) AllReadyH.nil)
      have hPrev := hHeld
      clear hHeld
      go_simp
      refine (HAP.out w2 HB2.out).mono ?_
      intro e w4 hq
      have hq2 := RStepQ.behind HB2.out hq
      have he := hq.1
      subst he
      have HF := Lib.hid hq2
      have HBL := Lib.hid (HW.out.blk.chg hq2.2.2 (fun e => HCC.out (by rw [← e, HW.out.col.1])))
      clear hq hq2
      refine hK.out _ _ (⟨(HBL.out.cell 0).trans rfl, (HBL.out.cell 1).trans rfl, (HBL.out.cell 2).trans rfl⟩) (fun hHeld => ?_)
      clear hK K hPrev
      try simp only [Act.put, List.setIfInBounds_toArray, List.set_cons_zero, List.set_cons_succ, List.getElem_toArray, List.getElem_cons_zero, List.getElem_cons_succ]
      refine wpAnyH_take (i := 10) (v := ?_) rfl (by kernel_rfl) (by kernel_rfl) (by kernel_rfl) (fun _ _ _ h => h) (Or.inl ⟨by rfl, ?_⟩) (by assumption) ?_
      rotate_left 1
      · intro w hSw; (try dsimp only at hSw); go_simp <;> with_reducible rfl
      try simp only [Act.put, List.setIfInBounds_toArray, List.set_cons_zero, List.set_cons_succ, List.getElem_toArray, List.getElem_cons_zero, List.getElem_cons_succ]
      refine wpAnyH_done (by kernel_rfl) ?_ _
      clear hHeld
      go_wp2_with fail
      go_meet
      exact ⟨rfl, HF⟩
  case rest =>
    obtain ⟨rfl, hq⟩ := hcut
    obtain ⟨wx, hwx⟩ : ∃ wx, wx = wc := ⟨_, rfl⟩
    rw [← hwx] at hq ⊢
    clear hwx wc c1 c3
    have HW2 := Lib.hid (HW.out.step hq.out.2.2 (sam_paint C W.heap.size c) (fun b hb => by rw [hb]; exact HCC.out.symm))
    have e3 : wx.cell? ⟨g, 3, none⟩ = some (.int .i64 (k : Int)) := (HW2.out.blk.cell 3).trans rfl
    have f3 : wx.frozen? ⟨g, 3, none⟩ = false := HW2.out.blk.frozen 3
    have hk3 := HK3.out
    have hk0 : (0 : Int) ≤ (k : Int) := by omega
    have hkb : (k : Int) ≤ 3 := by omega
    have fin : ∀ (w3 : World) (d3 : Int) (bb : Bool), Chg (fun b => b = g) wx w3 → Blk w3 g 143 #[.string (strB nm), .string (strB sc), v, .int .i64 d3] → bb = (decide (en = 0) && decide ((k : Int) = 3)) → d3 = (if en ≠ 0 ∨ (k : Int) = 3 then -1 else (k : Int) + 1) → Step22Q W N N' C c c2 q g ((⟨nm, sc, by_, (k : Int)⟩ : R22).step r) (.returned (.tuple #[.bool bb, .int .i64 en])) w3 := fun w3 d3 bb h1 h2 h3 h4 => by
      unfold R22.step
      rw [if_pos (by simp only; omega), ← HOP.out]
      have hcol := HW2.out.col
      refine ⟨by rw [h3], hq.out.2.1.step h1 (Sam.refl _ _) (fun b hb => by rw [hb, hcol.1]; exact HCC.out), ⟨v, ?_⟩, (hq.out.2.2.mono (fun _ _ e => .inl e)).trans h1 (fun _ _ e => .inr e)⟩
      simp only
      rw [← h4]
      exact ⟨h2, h1.ob HW2.out.own (fun k hk e => HW2.out.blk.apart HW2.out.own (by decide) (by rw [hk, e])), HW.out.lo, hcol.1, hcol.2⟩
    have FIN := Lib.hid fin
    clear fin
    by_cases he : en = 0
    · subst he
      by_cases h3 : k = 3
      · subst h3
        have HF := Lib.hid (FIN.out _ (-1) true (((Chg.refl _ wx).set1 3 (.int .i64 4)).set1 3 (.int .i64 (-1))) ((HW2.out.blk.set_ 3 (.int .i64 4)).set_ 3 (.int .i64 (-1))) (by decide) (by decide))
        go_wp2_with fail
        go_ret2
        exact HF.out
      · have h34 : ((k : Int) + 1 == 4) = false := by rw [beq_eq_false_iff_ne]; omega
        have HF := Lib.hid (FIN.out _ ((k : Int) + 1) false ((Chg.refl _ wx).set1 3 (.int .i64 ((k : Int) + 1))) (HW2.out.blk.set_ 3 (.int .i64 ((k : Int) + 1))) (by rw [decide_eq_false (show ¬ (k : Int) = 3 by omega)]; rfl) (by rw [if_neg (by omega)]))
        have hs : (wx.setCell ⟨g, 3, none⟩ (.int .i64 ((k : Int) + 1))).cell? ⟨g, 3, none⟩ = some (.int .i64 ((k : Int) + 1)) := World.cell?_setCell_same' _ _ _ (by rw [e3]; rfl)
        clear h3
        go_wp2_with fail
        go_ret2
        exact HF.out
    · have heb : (en == 0) = false := by rw [beq_eq_false_iff_ne]; exact he
      have heb2 : (en != 0) = true := by simpa using he
      have HF := Lib.hid (FIN.out _ (-1) false (((Chg.refl _ wx).set1 3 (.int .i64 ((k : Int) + 1))).set1 3 (.int .i64 (-1))) ((HW2.out.blk.set_ 3 (.int .i64 ((k : Int) + 1))).set_ 3 (.int .i64 (-1))) (by rw [decide_eq_false he]; rfl) (by rw [if_pos (.inl he)]))
      clear he
      go_wp2_with fail
      go_ret2
      exact HF.out
end Go.Proofs.YtlojmmcagglpoaaGreat
namespace Go.Proofs.YtlojmmcagglpoaaGreat
open Go.RowKit Go.Maps
noncomputable def loadV (r : Rd) (nm : List UInt8) : List UInt8 × Int := if (r.sti nm).2.2.2.2 = 0 then r.read (r.sti nm).1 (r.sti nm).2.2.1 0 (r.sti nm).2.2.2.1 else ([], (r.sti nm).2.2.2.2)
theorem sti_ok' {r : Rd} {n : Nat} (hok : r.Ok n) (nm : List UInt8) : okInt (r.sti nm).1 ∧ okInt (r.sti nm).2.2.2.1 := by
  have z : okInt 0 := ⟨by decide, by decide⟩
  have hb := hok.big
  unfold Rd.sti
  split
  · split
    · exact ⟨z, z⟩
    · split
      · rename_i y x hy hx
        have h1 := hok.bl y (List.mem_of_getElem? hy)
        have h2 := hok.file_le nm
        have h3 := hok.il
        exact ⟨by unfold okInt; simp only; omega, by unfold okInt; simp only; omega⟩
      · exact ⟨z, z⟩
  · exact ⟨z, z⟩
set_option maxRecDepth 20000 in
set_option maxHeartbeats 2000000 in
theorem load_a {W : World} {N : Nat} {C : Nat → Nat} {c p n : Nat} {d : Dk} {r : Rd} (h : DC W N C c p n d) (al : Alike d r n) (nm : List UInt8) : Calls Tryz.prog 16 #[.pointer (some ⟨p, 0, none⟩), .string (strB nm)] W (BytesQ W (loadV r nm)) := by
  have CS := Lib.hid (ask_stat (p := p) al nm h)
  have CR := Lib.hid (fun w (hb : Below W.heap.size W w) => ask_read (p := p) al (r.sti nm).1 (r.sti nm).2.2.1 0 (r.sti nm).2.2.2.1 (sti_ok' al.rok nm).1 ⟨by decide, by decide⟩ (sti_ok' al.rok nm).2 (h.keep hb (Sam.refl _ _)))
  clear h al
  obtain ⟨⟨t0, t1, t2, t3, t4⟩, ht⟩ : ∃ t, t = r.sti nm := ⟨_, rfl⟩
  have HV : Hid (loadV r nm = if t4 = 0 then r.read t0 t2 0 t3 else ([], t4)) := Lib.hid (by unfold loadV; rw [← ht])
  rw [← ht] at CS CR
  clear ht
  go_enter Tryz.func16, Tryz.ntmps16
  go_wp2_with fail
  refine CS.out.mono ?_
  rintro e w3 ⟨rfl, hb3⟩
  simp only
  have HB := Lib.hid (show Below W.heap.size W (w3.alloc (.cells #[.int .i64 t0, .int .i64 t1, .int .i64 t2, .int .i64 t3] 119)) from hb3.alloc hb3.size _)
  clear hb3 CS
  by_cases h4 : t4 = 0
  · subst h4
    have CR2 := Lib.hid (CR.out _ HB.out)
    have HV2 : Hid (loadV r nm = r.read t0 t2 0 t3) := Lib.hid (by rw [HV.out, if_pos rfl])
    clear CR HV
    go_wp2_with fail
    refine CR2.out.mono ?_
    rintro e w5 ⟨v, rfl, ho, hb5⟩
    have HF : Hid (BytesQ W (loadV r nm) (.returned (.tuple #[v, .int .i64 (r.read t0 t2 0 t3).2])) w5) := Lib.hid (by
      rw [HV2.out]
      exact ⟨v, rfl, ho.less HB.out.size, HB.out.trans (hb5.mono HB.out.size)⟩)
    clear ho hb5 CR2
    go_wp2_with fail
    go_ret2
    exact HF.out
  · have h4b : (t4 == 0) = false := by rw [beq_eq_false_iff_ne]; exact h4
    have h4c : (t4 != 0) = true := by simpa using h4
    have HF : Hid (BytesQ W (loadV r nm) (.returned (.tuple #[.slice none 0 0, .int .i64 t4])) (w3.alloc (.cells #[.int .i64 t0, .int .i64 t1, .int .i64 t2, .int .i64 t3] 119))) := Lib.hid (by
      rw [HV.out, if_neg h4]
      exact ⟨_, rfl, OB.nil _ _, HB.out⟩)
    clear h4 CR
    go_wp2_with fail
    go_ret2
    exact HF.out
set_option maxRecDepth 20000 in
set_option maxHeartbeats 2000000 in
theorem load22_a {W : World} {N : Nat} {C : Nat → Nat} {c p n : Nat} {d : Dk} {r : Rd} (h : RC W N C c p r) (al : Alike d r n) (hok : d.Ok n) (nm : List UInt8) : Calls Tryz.prog 17 #[.pointer (some ⟨p, 0, none⟩), .string (strB nm)] W (BytesQ W (loadV r nm)) := by
  have CS := Lib.hid (ask_rstat (q := p) al.rok nm h)
  have CR := Lib.hid (fun w (hb : Below W.heap.size W w) => ask_rread (q := p) al hok (r.sti nm).1 (r.sti nm).2.2.1 0 (r.sti nm).2.2.2.1 ⟨by decide, by decide⟩ (sti_ok' al.rok nm).2 (h.keep hb (Sam.refl _ _)))
  clear h al hok
  obtain ⟨⟨t0, t1, t2, t3, t4⟩, ht⟩ : ∃ t, t = r.sti nm := ⟨_, rfl⟩
  have HV : Hid (loadV r nm = if t4 = 0 then r.read t0 t2 0 t3 else ([], t4)) := Lib.hid (by unfold loadV; rw [← ht])
  rw [← ht] at CS CR
  clear ht
  go_enter Tryz.func17, Tryz.ntmps17
  go_wp2_with fail
  refine CS.out.mono ?_
  rintro e w3 ⟨rfl, hb3⟩
  simp only
  have HB := Lib.hid (show Below W.heap.size W (w3.alloc (.cells #[.int .i64 t0, .int .i64 t1, .int .i64 t2, .int .i64 t3] 119)) from hb3.alloc hb3.size _)
  clear hb3 CS
  by_cases h4 : t4 = 0
  · subst h4
    have CR2 := Lib.hid (CR.out _ HB.out)
    have HV2 : Hid (loadV r nm = r.read t0 t2 0 t3) := Lib.hid (by rw [HV.out, if_pos rfl])
    clear CR HV
    go_wp2_with fail
    refine CR2.out.mono ?_
    rintro e w5 ⟨v, rfl, ho, hb5⟩
    have HF : Hid (BytesQ W (loadV r nm) (.returned (.tuple #[v, .int .i64 (r.read t0 t2 0 t3).2])) w5) := Lib.hid (by
      rw [HV2.out]
      exact ⟨v, rfl, ho.less HB.out.size, HB.out.trans (hb5.mono HB.out.size)⟩)
    clear ho hb5 CR2
    go_wp2_with fail
    go_ret2
    exact HF.out
  · have h4b : (t4 == 0) = false := by rw [beq_eq_false_iff_ne]; exact h4
    have h4c : (t4 != 0) = true := by simpa using h4
    have HF : Hid (BytesQ W (loadV r nm) (.returned (.tuple #[.slice none 0 0, .int .i64 t4])) (w3.alloc (.cells #[.int .i64 t0, .int .i64 t1, .int .i64 t2, .int .i64 t3] 119))) := Lib.hid (by
      rw [HV.out, if_neg h4]
      exact ⟨_, rfl, OB.nil _ _, HB.out⟩)
    clear h4 CR
    go_wp2_with fail
    go_ret2
    exact HF.out
set_option maxRecDepth 20000 in
set_option maxHeartbeats 1000000 in
theorem smay_g (W : World) (nm : List UInt8) : Calls Tryz.prog 61 #[.string (strB nm)] W fun e w' => e = .returned (.bool (mayB nm)) ∧ Below W.heap.size W w' := by
  have CN := Lib.hid (new_c W (fun _ => 0) 0)
  have hst : ∃ k : Int, emptyD.stat nm = (statV 0 0 0 0, k) ∧ ((k != 140) = mayB nm) := by
    unfold Dk.stat
    by_cases hm : mayB nm = true
    · rw [if_pos hm]
      have : emptyD.file nm = none := rfl
      rw [this, hm]
      exact ⟨141, rfl, by decide⟩
    · rw [if_neg hm]
      have : mayB nm = false := by simpa using hm
      rw [this]
      exact ⟨140, rfl, by decide⟩
  obtain ⟨k, hk, hkm⟩ := hst
  rw [← hkm]
  go_enter Tryz.func61, Tryz.ntmps61
  go_wp2_with fail
  refine CN.out.mono ?_
  rintro e w1 ⟨p, rfl, hp, hd, hb⟩
  have CS := Lib.hid (stat_g hd nm)
  have HB := Lib.hid hb
  rw [hk] at CS
  unfold statV AskQ at CS
  clear hd hb hk hkm CN hp
  go_wp2_with fail
  refine CS.out.mono ?_
  rintro e w2 ⟨rfl, hb2⟩
  have HB2 : Hid (Below W.heap.size W (w2.alloc (.cells #[.int .i64 0, .int .i64 0, .int .i64 0, .int .i64 0] 119))) := Lib.hid ((HB.out.trans (hb2.mono HB.out.size)).alloc (Nat.le_trans HB.out.size hb2.size) _)
  clear hb2 CS
  simp only
  go_wp2_with fail
  go_ret
  exact ⟨rfl, HB2.out⟩
set_option maxRecDepth 20000 in
set_option maxHeartbeats 1000000 in
theorem snew_g (W : World) (C : Nat → Nat) (c : Nat) (nm sc : List UInt8) : Calls Tryz.prog 14 #[.string (strB nm), .string (strB sc)] W (NewSQ W C c nm sc) := by
  have C1 := Lib.hid (smay_g W nm)
  have C2 := Lib.hid (fun w => smay_g w sc)
  have hcmp := strB_beq nm sc
  go_enter Tryz.func14, Tryz.ntmps14
  cases hb1 : mayB nm with
  | false =>
    rw [hb1] at C1
    have HE : Hid (newE nm sc = 140) := Lib.hid (by unfold newE; rw [hb1]; rfl)
    go_wp2_with fail
    refine C1.out.mono ?_
    rintro e w1 ⟨rfl, hb⟩
    have HF : Hid (NewSQ W C c nm sc (.returned (.tuple #[.pointer none, .int .i64 140])) w1) := Lib.hid ⟨hb, .inl ⟨by rw [HE.out]; decide, by rw [HE.out]⟩⟩
    clear hb
    go_wp2_with fail
    go_ret2
    exact HF.out
  | true =>
    rw [hb1] at C1
    go_wp2_with fail
    refine C1.out.mono ?_
    rintro e w1 ⟨rfl, hb⟩
    have HB := Lib.hid hb
    clear hb
    cases hb2 : mayB sc with
    | false =>
      rw [hb2] at C2
      have HE : Hid (newE nm sc = 140) := Lib.hid (by unfold newE; rw [hb1, hb2]; rfl)
      clear hb1 hb2
      go_wp2_with fail
      refine (C2.out w1).mono ?_
      rintro e w2 ⟨rfl, hb⟩
      have HF : Hid (NewSQ W C c nm sc (.returned (.tuple #[.pointer none, .int .i64 140])) w2) := Lib.hid ⟨HB.out.trans (hb.mono HB.out.size), .inl ⟨by rw [HE.out]; decide, by rw [HE.out]⟩⟩
      clear hb
      go_wp2_with fail
      go_ret2
      exact HF.out
    | true =>
      rw [hb2] at C2
      have HE : Hid (newE nm sc = if nm = sc then 1 else 0) := Lib.hid (by unfold newE; rw [hb1, hb2]; rfl)
      clear hb1 hb2
      go_wp2_with fail
      refine (C2.out w1).mono ?_
      rintro e w2 ⟨rfl, hb⟩
      have HB2 : Hid (Below W.heap.size W w2) := Lib.hid (HB.out.trans (hb.mono HB.out.size))
      clear hb
      by_cases he : nm = sc
      · rw [decide_eq_true he] at hcmp
        have HF : Hid (NewSQ W C c nm sc (.returned (.tuple #[.pointer none, .int .i64 1])) w2) := Lib.hid ⟨HB2.out, .inl ⟨by rw [HE.out, if_pos he]; decide, by rw [HE.out, if_pos he]⟩⟩
        clear he
        go_wp2_with fail
        go_ret2
        exact HF.out
      · rw [decide_eq_false he] at hcmp
        have HF : Hid (NewSQ W C c nm sc (.returned (.tuple #[.pointer (some ⟨w2.heap.size, 0, none⟩), .int .i64 0])) (w2.alloc (.cells #[.string (strB nm), .string (strB sc), .slice none 0 0, .bool false, .int .i64 0] 141))) := Lib.hid
          ⟨HB2.out.alloc HB2.out.size _, .inr ⟨by rw [HE.out, if_neg he], w2.heap.size, rfl, ⟨Blk.new _ _ _ rfl, OB.nil _ _, HB2.out.size, paint_new C c HB2.out.size, fun k hk => by cases hk⟩⟩⟩
        clear he
        go_wp2_with fail
        go_ret2
        exact HF.out
end Go.Proofs.YtlojmmcagglpoaaGreat
