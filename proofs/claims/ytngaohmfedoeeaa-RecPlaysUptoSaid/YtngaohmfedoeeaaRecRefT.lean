/- THE WALKS of the document's reader: Num, Text, Take. -/
import Derived.Test.YtngaohmfedoeeaaRecRefR
namespace Go.Proofs.Ytngaohmfedoeeaa
open Go.RowKit
theorem quietB {P : Program} {f : FuncId} {args : Array Value} {w : World} {n : Nat} {v : Value} (h : Calls P f args (w.drewN n) fun e w' => e = .returned v ∧ ∃ m, w' = (w.drewN n).drewN m) :
    Calls P f args (w.drewN n) fun e w'' => e = .returned v ∧ ∃ m, w'' = w.drewN m := h.mono fun _ _ ⟨he, m, hm⟩ => ⟨he, n + m, by rw [hm, World.drewN_drewN]⟩
def XPost (v : Value) (r : Nat) (B : Option Addr) (n cb : Nat) (b : List UInt8) (t : Nat) (w : World) (e : Ending) (w' : World) : Prop :=
  e = .returned v ∧ XF w' r B n cb b t ∧ Chg (fun k => k = r) w w'
theorem XF.drewN {w : World} {r n cb t : Nat} {B : Option Addr} {b : List UInt8} (h : XF w r B n cb b t) (k : Nat) : XF (w.drewN k) r B n cb b t := ⟨h.blk, h.rd, h.hc, h.ht, h.hn, h.hB⟩
theorem XF.adv {w : World} {r n cb t : Nat} {B : Option Addr} {b : List UInt8} (h : XF w r B n cb b t) {t' : Nat} (ht : t' ≤ n) : XF (w.setCell ⟨r, 1, none⟩ (.int .i64 (t' : Int))) r B n cb b t' := by
  have hne := h.blk.nobytes h.rd (fun i x => by
    match i with
    | 0 => simp
    | 1 => simp
    | i + 2 => simp)
  exact ⟨by simpa using h.blk.set_ 1 (.int .i64 (t' : Int)), h.rd.set_far hne _, h.hc, ht, h.hn, h.hB⟩
theorem XF.part {w : World} {r n cb t m : Nat} {B : Option Addr} {b : List UInt8} (h : XF w r B n cb b t) (hm : t + m ≤ n) : RB w (if cb = t then B else B.map (·.add t)) m ((b.drop t).take m) := by
  have := (h.rd.drop (k := t) (cap := cb) h.ht h.hc).take (k := m) (by omega)
  exact this
theorem refrnum_wide (r : Nat) (m : Int) (w : World) (h : m < 1 ∨ 8 < m) :
    Calls Try.prog 14 #[.pointer (some ⟨r, 0, none⟩), .int .i64 m] w fun e w' => e = .returned (.tuple #[.int .u64 0, .int .i64 21]) ∧ w = w' := by
  have H := Lib.hid h; clear h
  go_enter Try.func14, Try.ntmps14
  go_wp2_with fail
  refine (rwidth_bad m _ H.out).mono ?_
  rintro e w' ⟨rfl, rfl⟩
  go_wp2_with fail
  go_ret2
  exact ⟨rfl, rfl⟩
theorem refrnum_short (r : Nat) (B : Option Addr) (n cb t m : Nat) (b : List UInt8) (w : World) (h : XF w r B n cb b t) (h1 : 1 ≤ m) (h8 : m ≤ 8) (hs : n - t < m) :
    Calls Try.prog 14 #[.pointer (some ⟨r, 0, none⟩), .int .i64 (m : Int)] w fun e w' => e = .returned (.tuple #[.int .u64 0, .int .i64 20]) ∧ ∃ k, w' = w.drewN k := by
  have CL := Lib.hid (refleft_any r B n cb t b w h)
  clear h
  obtain ⟨q, hq⟩ : ∃ q, q = n - t := ⟨_, rfl⟩
  rw [← hq] at CL hs
  clear hq
  go_enter Try.func14, Try.ntmps14
  go_wp2_with fail
  refine (rwidth_ok m _ h1 h8).mono ?_
  rintro e w' ⟨rfl, rfl⟩
  go_wp2_with fail
  refine CL.out.mono ?_
  rintro e w' ⟨rfl, k, rfl⟩
  go_wp2_with fail
  go_ret2
  exact ⟨rfl, k, rfl⟩
theorem refrnum_ok (r : Nat) (B : Option Addr) (n cb t m : Nat) (b : List UInt8) (w : World) (h : XF w r B n cb b t) (h1 : 1 ≤ m) (h8 : m ≤ 8) (hs : t + m ≤ n) :
    Calls Try.prog 14 #[.pointer (some ⟨r, 0, none⟩), .int .i64 (m : Int)] w (XPost (.tuple #[.int .u64 (leV ((b.drop t).take m) : Int), .int .i64 0]) r B n cb b (t + m) w) := by
  have CL := Lib.hid (refleft_any r B n cb t b w h)
  obtain ⟨q, hq⟩ : ∃ q, q = n - t := ⟨_, rfl⟩
  rw [← hq] at CL
  have hqm : m ≤ q := by omega
  have c0 : w.cell? ⟨r, 0, none⟩ = some (.slice B n cb) := h.blk.cell 0
  have c1 : w.cell? ⟨r, 1, none⟩ = some (.int .i64 (t : Int)) := h.blk.cell 1
  have f1 := h.blk.frozen 1
  have hn := h.hn
  have hcb := h.hc
  have ht := h.ht
  have hrb := h.part hs
  rw [if_neg (by omega)] at hrb
  obtain ⟨bb, off, rfl, _⟩ := h.rd.2 (by omega)
  have hrb' : RB w (some ⟨bb, off + t, none⟩) m ((b.drop t).take m) := by
    have e : (Option.map (fun x => Addr.add x t) (some (⟨bb, off, none⟩ : Addr))) = some ⟨bb, off + t, none⟩ := by
      simp only [Option.map_some, Addr.add]
      by_cases h0 : t = 0
      · subst h0; simp
      · simp [h0]
    rwa [e] at hrb
  have CV : Hid (∀ k c, Calls Try.prog 32 #[.slice (some ⟨bb, off + t, none⟩) m c] (w.drewN k) fun e w' => e = .returned (.int .u64 (leV ((b.drop t).take m) : Int)) ∧ ∃ j, w' = (w.drewN k).drewN j) := Lib.hid (fun k c => value_ok _ _ c _ _ (hrb'.drewN k) h8)
  obtain ⟨val, hval⟩ : ∃ val : Int, val = (leV ((b.drop t).take m) : Int) := ⟨_, rfl⟩
  rw [← hval] at CV ⊢
  have q1 : IntKind.i64.wrap ((t : Int) + (m : Int)) = (t : Int) + (m : Int) := IntWalk.i64_in _ (by omega)
  have HFIN : Hid (∀ k, XPost (.tuple #[.int .u64 val, .int .i64 0]) r (some ⟨bb, off, none⟩) n cb b (t + m) w (.returned (.tuple #[.int .u64 val, .int .i64 0])) ((w.drewN k).setCell ⟨r, 1, none⟩ (.int .i64 ((t : Int) + (m : Int))))) := Lib.hid (fun k =>
    ⟨rfl, (h.drewN k).adv hs, ((Chg.refl (fun k => k = r) w).drewN k).setCell (p := ⟨r, 1, none⟩) (.inl rfl) _⟩)
  clear h hq hrb hrb' hval
  go_enter Try.func14, Try.ntmps14
  go_wp2_with fail
  refine (rwidth_ok m _ h1 h8).mono ?_
  rintro e w' ⟨rfl, rfl⟩
  go_wp2_with fail
  refine CL.out.mono ?_
  rintro e w' ⟨rfl, k, hw1⟩
  have CV1 : Hid (∀ j c, Calls Try.prog 32 #[.slice (some ⟨bb, off + t, none⟩) m c] (w'.drewN j) fun e w'' => e = .returned (.int .u64 val) ∧ ∃ i, w'' = (w'.drewN j).drewN i) := Lib.hid (fun j c => by rw [hw1, World.drewN_drewN]; exact CV.out _ c)
  have d0 : w'.cell? ⟨r, 0, none⟩ = some (.slice (some ⟨bb, off, none⟩) n cb) := by rw [hw1]; exact c0
  have d1 : w'.cell? ⟨r, 1, none⟩ = some (.int .i64 (t : Int)) := by rw [hw1]; exact c1
  have g1 : w'.frozen? ⟨r, 1, none⟩ = false := by rw [hw1]; exact f1
  have HW := Lib.hid hw1
  have hct : ((cb : Int) = (t : Int)) = False := by simp; omega
  have hct2 : cb ≠ t := by omega
  clear hw1 CV c0 c1 f1
  go_upto_region 5 with fail
  go_quiet (with_reducible exact quietB (CV1.out _ _))
  go_wp2_with fail
  go_ret2
  have hfin := HFIN.out (k + nq)
  rw [← World.drewN_drewN, ← HW.out] at hfin
  exact hfin
theorem refrtext_short (r : Nat) (B : Option Addr) (n cb t : Nat) (b : List UInt8) (w : World) (h : XF w r B n cb b t) (hs : n - t < 4 ∨ n - t < 4 + leV ((b.drop t).take 4)) :
    Calls Try.prog 16 #[.pointer (some ⟨r, 0, none⟩)] w fun e w' => e = .returned (.tuple #[.string ByteArray.empty, .int .i64 20]) ∧ ∃ k, w' = w.drewN k := by
  have HX := Lib.hid h
  have CL : Hid (∀ k, Calls Try.prog 21 #[.pointer (some ⟨r, 0, none⟩)] (w.drewN k) fun e w' => e = .returned (.int .i64 ((n - t : Nat) : Int)) ∧ ∃ j, w' = (w.drewN k).drewN j) := Lib.hid (fun k => refleft_any r B n cb t b _ (h.drewN k))
  obtain ⟨q, hq⟩ : ∃ q, q = n - t := ⟨_, rfl⟩
  rw [← hq] at CL hs
  have HQ := Lib.hid hq
  have hqn : q ≤ 140737488355328 := by have := h.hn; omega
  by_cases h4 : q < 4
  · clear h hs hq
    go_enter Try.func16, Try.ntmps16
    go_wp2_with fail
    refine (CL.out 0).mono ?_
    rintro e w' ⟨rfl, k, hw⟩
    have HW := Lib.hid hw
    clear hw
    go_wp2_with fail
    go_ret2
    exact ⟨rfl, k, HW.out⟩
  · have hbd : leV ((b.drop t).take 4) ≤ 4294967295 := by
      have := leV_lt ((b.drop t).take 4)
      have h2 : 256 ^ ((b.drop t).take 4).length ≤ 256 ^ 4 := Nat.pow_le_pow_right (by omega) (by simp; omega)
      omega
    obtain ⟨m, hm⟩ : ∃ m, m = leV ((b.drop t).take 4) := ⟨_, rfl⟩
    have hrb := h.part (m := 4) (by omega)
    rw [if_neg (by have := h.hc; omega)] at hrb
    obtain ⟨bb, off, rfl, _⟩ := h.rd.2 (by omega)
    have hrb' : RB w (some ⟨bb, off + t, none⟩) 4 ((b.drop t).take 4) := by
      have e : (Option.map (fun x => Addr.add x t) (some (⟨bb, off, none⟩ : Addr))) = some ⟨bb, off + t, none⟩ := by
        simp only [Option.map_some, Addr.add]
        by_cases h0 : t = 0
        · subst h0; simp
        · simp [h0]
      rwa [e] at hrb
    have c0 : w.cell? ⟨r, 0, none⟩ = some (.slice (some ⟨bb, off, none⟩) n cb) := h.blk.cell 0
    have c1 : w.cell? ⟨r, 1, none⟩ = some (.int .i64 (t : Int)) := h.blk.cell 1
    have hn := h.hn; have hcb := h.hc; have ht := h.ht
    have CV : Hid (∀ k c, Calls Try.prog 32 #[.slice (some ⟨bb, off + t, none⟩) 4 c] (w.drewN k) fun e w' => e = .returned (.int .u64 (leV ((b.drop t).take 4) : Int)) ∧ ∃ j, w' = (w.drewN k).drewN j) := Lib.hid (fun k c => value_ok _ _ c _ _ (hrb'.drewN k) (by omega))
    rw [← hm] at hbd hs CV
    have t2 : decide ((q : Int) - 4 < (m : Int)) = true := by simp; omega
    have q1 : IntKind.i64.wrap ((t : Int) + 4) = (t : Int) + 4 := IntWalk.i64_in _ (by omega)
    have hct2 : cb ≠ t := by omega
    have htn : t + 4 ≤ n := by omega
    clear h hs hq hm hrb hrb'
    go_enter Try.func16, Try.ntmps16
    go_wp2_with fail
    refine (CL.out 0).mono ?_
    rintro e w' ⟨rfl, k, hw⟩
    have CV1 : Hid (∀ j c, Calls Try.prog 32 #[.slice (some ⟨bb, off + t, none⟩) 4 c] (w'.drewN j) fun e w'' => e = .returned (.int .u64 (m : Int)) ∧ ∃ i, w'' = (w'.drewN j).drewN i) := Lib.hid (fun j c => by rw [hw]; have := CV.out (0 + k + j) c; simp only [World.drewN_drewN] at this ⊢; exact this)
    have d0 : w'.cell? ⟨r, 0, none⟩ = some (.slice (some ⟨bb, off, none⟩) n cb) := by rw [hw]; exact c0
    have d1 : w'.cell? ⟨r, 1, none⟩ = some (.int .i64 (t : Int)) := by rw [hw]; exact c1
    have HW := Lib.hid hw
    clear hw CV c0 c1
    go_upto_region 3 with fail
    go_quiet (with_reducible exact quietB (CV1.out _ _))
    go_wp2_with fail
    refine (show Calls Try.prog 21 #[.pointer (some ⟨r, 0, none⟩)] (w'.drewN nq) fun e w'' => e = .returned (.int .i64 (q : Int)) ∧ ∃ j, w'' = (w'.drewN nq).drewN j by rw [HW.out]; have := CL.out (0 + k + nq); simp only [World.drewN_drewN] at this ⊢; exact this).mono ?_
    rintro e w'' ⟨rfl, k2, hw2⟩
    have HW2 := Lib.hid hw2
    clear hw2
    go_wp2_with fail
    go_ret2
    exact ⟨rfl, k + nq + k2, by rw [HW2.out, HW.out]; simp only [World.drewN_drewN]; rw [Nat.zero_add]⟩
set_option maxHeartbeats 1000000 in
theorem refrtext_ok (r : Nat) (B : Option Addr) (n cb t m : Nat) (b : List UInt8) (w : World) (h : XF w r B n cb b t) (hm : leV ((b.drop t).take 4) = m) (h4 : t + 4 + m ≤ n) :
    Calls Try.prog 16 #[.pointer (some ⟨r, 0, none⟩)] w (XPost (.tuple #[.string (strOf ((b.drop (t + 4)).take m)), .int .i64 0]) r B n cb b (t + 4 + m) w) := by
  have HX := Lib.hid h
  have CL : Hid (∀ k, Calls Try.prog 21 #[.pointer (some ⟨r, 0, none⟩)] (w.drewN k) fun e w' => e = .returned (.int .i64 ((n - t : Nat) : Int)) ∧ ∃ j, w' = (w.drewN k).drewN j) := Lib.hid (fun k => refleft_any r B n cb t b _ (h.drewN k))
  obtain ⟨q, hq⟩ : ∃ q, q = n - t := ⟨_, rfl⟩
  rw [← hq] at CL
  have hqm : 4 + m ≤ q := by omega
  have hqn : q ≤ 140737488355328 := by have := h.hn; omega
  have hrb := h.part (m := 4) (by omega)
  have hrb2 := (h.rd.drop (k := t + 4) (cap := cb) (by omega) h.hc).take (k := m) (by omega)
  rw [if_neg (by have := h.hc; omega)] at hrb
  obtain ⟨bb, off, rfl, _⟩ := h.rd.2 (by omega)
  have hrb' : RB w (some ⟨bb, off + t, none⟩) 4 ((b.drop t).take 4) := by
    have e : (Option.map (fun x => Addr.add x t) (some (⟨bb, off, none⟩ : Addr))) = some ⟨bb, off + t, none⟩ := by
      simp only [Option.map_some, Addr.add]
      by_cases h0 : t = 0
      · subst h0; simp
      · simp [h0]
    rwa [e] at hrb
  have c0 : w.cell? ⟨r, 0, none⟩ = some (.slice (some ⟨bb, off, none⟩) n cb) := h.blk.cell 0
  have c1 : w.cell? ⟨r, 1, none⟩ = some (.int .i64 (t : Int)) := h.blk.cell 1
  have f1 := h.blk.frozen 1
  have hn := h.hn; have hcb := h.hc; have ht := h.ht
  obtain ⟨tx, htx⟩ : ∃ tx, tx = strOf ((b.drop (t + 4)).take m) := ⟨_, rfl⟩
  have CVT : Hid (∀ k (a : Option Addr) c, (0 < m → a = some ⟨bb, off + (t + 4), none⟩) → (convert 22 9 (.slice a m c)).run Try.prog (w.drewN k) = .ok (.string tx) (w.drewN k)) := Lib.hid (fun k a c ha => by
    rw [htx]
    refine conv_bytes _ _ _ _ _ ?_
    by_cases hm0 : m = 0
    · subst hm0
      rw [List.take_zero]
      exact RB.nil _ _
    · rw [ha (by omega)]
      rw [if_neg (by omega)] at hrb2
      have e : (Option.map (fun x => Addr.add x (t + 4)) (some (⟨bb, off, none⟩ : Addr))) = some ⟨bb, off + (t + 4), none⟩ := by simp [Addr.add]
      rw [e] at hrb2
      exact hrb2.drewN k)
  have hbd : m ≤ 4294967295 := by
    have := leV_lt ((b.drop t).take 4)
    have h2 : 256 ^ ((b.drop t).take 4).length ≤ 256 ^ 4 := Nat.pow_le_pow_right (by omega) (by simp; omega)
    omega
  have CV : Hid (∀ k c, Calls Try.prog 32 #[.slice (some ⟨bb, off + t, none⟩) 4 c] (w.drewN k) fun e w' => e = .returned (.int .u64 (leV ((b.drop t).take 4) : Int)) ∧ ∃ j, w' = (w.drewN k).drewN j) := Lib.hid (fun k c => value_ok _ _ c _ _ (hrb'.drewN k) (by omega))
  rw [hm] at CV
  have t2 : decide ((q : Int) - 4 < (m : Int)) = false := by simp; omega
  have q1 : IntKind.i64.wrap ((t : Int) + 4) = (t : Int) + 4 := IntWalk.i64_in _ (by omega)
  have q2 : IntKind.i64.wrap ((t : Int) + 4 + (m : Int)) = (t : Int) + 4 + (m : Int) := IntWalk.i64_in _ (by omega)
  have hct2 : cb ≠ t := by omega
  have htn : t + 4 ≤ n := by omega
  have HFIN : Hid (∀ k, XPost (.tuple #[.string tx, .int .i64 0]) r (some ⟨bb, off, none⟩) n cb b (t + 4 + m) w (.returned (.tuple #[.string tx, .int .i64 0])) ((w.drewN k).setCell ⟨r, 1, none⟩ (.int .i64 ((t : Int) + 4 + (m : Int))))) := Lib.hid (fun k =>
    ⟨rfl, (h.drewN k).adv h4, ((Chg.refl (fun k => k = r) w).drewN k).setCell (p := ⟨r, 1, none⟩) (.inl rfl) _⟩)
  have HTX := Lib.hid htx
  rw [← htx]
  clear h hq hm hrb hrb' hrb2 htx
  go_enter Try.func16, Try.ntmps16
  go_wp2_with fail
  refine (CL.out 0).mono ?_
  rintro e w' ⟨rfl, k, hw⟩
  have CV1 : Hid (∀ j c, Calls Try.prog 32 #[.slice (some ⟨bb, off + t, none⟩) 4 c] (w'.drewN j) fun e w'' => e = .returned (.int .u64 (m : Int)) ∧ ∃ i, w'' = (w'.drewN j).drewN i) := Lib.hid (fun j c => by rw [hw]; have := CV.out (0 + k + j) c; simp only [World.drewN_drewN] at this ⊢; exact this)
  have d0 : w'.cell? ⟨r, 0, none⟩ = some (.slice (some ⟨bb, off, none⟩) n cb) := by rw [hw]; exact c0
  have d1 : w'.cell? ⟨r, 1, none⟩ = some (.int .i64 (t : Int)) := by rw [hw]; exact c1
  have HW := Lib.hid hw
  clear hw CV c0 c1
  go_upto_region 3 with fail
  go_quiet (with_reducible exact quietB (CV1.out _ _))
  go_wp2_with fail
  refine (show Calls Try.prog 21 #[.pointer (some ⟨r, 0, none⟩)] (w'.drewN nq) fun e w'' => e = .returned (.int .i64 (q : Int)) ∧ ∃ j, w'' = (w'.drewN nq).drewN j by rw [HW.out]; have := CL.out (0 + k + nq); simp only [World.drewN_drewN] at this ⊢; exact this).mono ?_
  rintro e w2 ⟨rfl, k2, hw2⟩
  obtain ⟨K2, hw3⟩ : ∃ K2, w2 = w.drewN K2 := ⟨k + nq + k2, by rw [hw2, HW.out]; simp only [World.drewN_drewN]; rw [Nat.zero_add]⟩
  have CV2 : Hid (∀ i (a : Option Addr) c, (0 < m → a = some ⟨bb, off + (t + 4), none⟩) → (convert 22 9 (.slice a m c)).run Try.prog (w2.drewN i) = .ok (.string tx) (w2.drewN i)) := Lib.hid (fun i a c ha => by rw [hw3, World.drewN_drewN]; exact CVT.out _ a c ha)
  have e0 : w2.cell? ⟨r, 0, none⟩ = some (.slice (some ⟨bb, off, none⟩) n cb) := by rw [hw2]; exact d0
  have e1 : w2.cell? ⟨r, 1, none⟩ = some (.int .i64 (t : Int)) := by rw [hw2]; exact d1
  have e2 : w2.frozen? ⟨r, 1, none⟩ = false := by rw [hw3]; exact f1
  have HW3 := Lib.hid hw3
  clear hw2 hw3 CV1 CL d0 d1 f1 CVT
  by_cases hc4 : cb = t + 4
  · have hm0 : m = 0 := by omega
    have hcv : ∀ i a c, (convert 22 9 (.slice a 0 c)).run Try.prog (w2.drewN i) = .ok (.string tx) (w2.drewN i) := fun i a c => by
      have := CV2.out i a c (fun h => absurd h (by omega))
      rwa [hm0] at this
    subst hm0
    clear CV2
    go_upto_region 6 with fail
    go_quiet (fail)
    go_wp2_with fail
    go_ret2
    have hfin := HFIN.out (K2 + nq)
    rw [← World.drewN_drewN, ← HW3.out] at hfin
    exact hfin
  · have hcv : ∀ i c, (convert 22 9 (.slice (some ⟨bb, off + (t + 4), none⟩) m c)).run Try.prog (w2.drewN i) = .ok (.string tx) (w2.drewN i) := fun i c => CV2.out i _ c (fun _ => rfl)
    clear CV2
    go_upto_region 6 with fail
    go_quiet (fail)
    go_wp2_with fail
    go_ret2
    have hfin := HFIN.out (K2 + nq)
    rw [← World.drewN_drewN, ← HW3.out] at hfin
    exact hfin
theorem refrtake_neg (r : Nat) (m : Int) (w : World) (h : m < 0) :
    Calls Try.prog 18 #[.pointer (some ⟨r, 0, none⟩), .int .i64 m] w fun e w' => e = .returned (.tuple #[.slice none 0 0, .int .i64 1]) ∧ w = w' := by
  go_enter Try.func18, Try.ntmps18
  go_wp2_with fail
  go_ret2
  exact ⟨rfl, rfl⟩
theorem refrtake_short (r : Nat) (B : Option Addr) (n cb t : Nat) (m : Int) (b : List UInt8) (w : World) (h : XF w r B n cb b t) (hs : ((n - t : Nat) : Int) < m) :
    Calls Try.prog 18 #[.pointer (some ⟨r, 0, none⟩), .int .i64 m] w fun e w' => e = .returned (.tuple #[.slice none 0 0, .int .i64 20]) ∧ ∃ k, w' = w.drewN k := by
  have CL := Lib.hid (refleft_any r B n cb t b w h)
  clear h
  obtain ⟨q, hq⟩ : ∃ q, q = n - t := ⟨_, rfl⟩
  rw [← hq] at CL hs
  clear hq
  go_enter Try.func18, Try.ntmps18
  go_wp2_with fail
  refine CL.out.mono ?_
  rintro e w' ⟨rfl, k, rfl⟩
  go_wp2_with fail
  go_ret2
  exact ⟨rfl, k, rfl⟩
def XTake (l : List UInt8) (r : Nat) (B : Option Addr) (n cb : Nat) (b : List UInt8) (t : Nat) (w : World) (e : Ending) (w' : World) : Prop :=
  ∃ v, e = .returned (.tuple #[v, .int .i64 0]) ∧ OB w' w.heap.size v l ∧ XF w' r B n cb b t ∧ Chg (fun k => k = r) w w'
set_option maxHeartbeats 1000000 in
theorem refrtake_ok (r : Nat) (B : Option Addr) (n cb t m : Nat) (b : List UInt8) (w : World) (h : XF w r B n cb b t) (hs : t + m ≤ n) :
    Calls Try.prog 18 #[.pointer (some ⟨r, 0, none⟩), .int .i64 (m : Int)] w (XTake ((b.drop t).take m) r B n cb b (t + m) w) := by
  have CL := Lib.hid (refleft_any r B n cb t b w h)
  obtain ⟨q, hq⟩ : ∃ q, q = n - t := ⟨_, rfl⟩
  rw [← hq] at CL
  have hqm : m ≤ q := by omega
  have c0 : w.cell? ⟨r, 0, none⟩ = some (.slice B n cb) := h.blk.cell 0
  have c1 : w.cell? ⟨r, 1, none⟩ = some (.int .i64 (t : Int)) := h.blk.cell 1
  have f1 := h.blk.frozen 1
  have hn := h.hn; have hcb := h.hc; have ht := h.ht
  have hrb := h.part hs
  have q1 : IntKind.i64.wrap ((t : Int) + (m : Int)) = (t : Int) + (m : Int) := IntWalk.i64_in _ (by omega)
  have HX := Lib.hid h
  clear h hq
  go_enter Try.func18, Try.ntmps18
  go_wp2_with fail
  refine CL.out.mono ?_
  rintro e w1 ⟨rfl, k, hw1⟩
  have X1 : Hid (XF w1 r B n cb b t) := Lib.hid (by rw [hw1]; exact HX.out.drewN k)
  have C1 : Hid (Chg (fun k => k = r) w w1) := Lib.hid (by rw [hw1]; exact (Chg.refl _ w).drewN k)
  clear hw1 c0 c1 f1 hrb CL HX
  have c0 : w1.cell? ⟨r, 0, none⟩ = some (.slice B n cb) := X1.out.blk.cell 0
  have c1 : w1.cell? ⟨r, 1, none⟩ = some (.int .i64 (t : Int)) := X1.out.blk.cell 1
  have R1 : Hid (RB w1.drew (if cb = t then B else B.map (·.add t)) m ((b.drop t).take m)) := Lib.hid (X1.out.part hs)
  have O1 : Hid (OB w1.drew w.heap.size (.slice none 0 0) []) := Lib.hid (OB.nil _ _)
  have hsz : w.heap.size ≤ w1.drew.heap.size := C1.out.size
  have HL : Hid (([] : List UInt8).length + m ≤ 140737488355328) := Lib.hid (by simp; omega)
  have HG : Hid (∀ w2 : World, w1.drew.grownBy w2 none → XF w2 r B n cb b t ∧ Chg (fun k => k = r) w w2) := Lib.hid (fun w2 hg => by
    have hc : Chg (fun _ => False) w1 w2 := ((Chg.refl (fun _ => False) w1).drew).grown hg (fun k e => by cases e)
    exact ⟨X1.out.chg hc id (fun _ _ _ => id), C1.out.trans hc (fun _ _ h => h.elim)⟩)
  have FIN : Hid (∀ (v2 : Value) (w2 : World), OB w2 w.heap.size v2 ((b.drop t).take m) → w1.drew.grownBy w2 none → w2.cell? ⟨r, 1, none⟩ = some (.int .i64 (t : Int)) ∧ w2.frozen? ⟨r, 1, none⟩ = false ∧ XTake ((b.drop t).take m) r B n cb b (t + m) w (.returned (.tuple #[v2, .int .i64 0])) (w2.setCell ⟨r, 1, none⟩ (.int .i64 ((t : Int) + (m : Int))))) := Lib.hid (fun v2 w2 ho hg => by
    obtain ⟨x2, c2⟩ := HG.out w2 hg
    refine ⟨x2.blk.cell 1, x2.blk.frozen 1, v2, rfl, ?_, x2.adv hs, c2.setCell (p := ⟨r, 1, none⟩) (.inl rfl) _⟩
    refine ho.set_far (fun e => ?_) _
    have h1 := x2.blk.apart ho (by decide)
    exact h1 e)
  rcases X1.out.hB with ⟨rfl, rfl⟩ | ⟨bb, rfl⟩
  · have ht0 : t = 0 := by omega
    have hm0 : m = 0 := by omega
    subst ht0 hm0
    have q0 : IntKind.i64.wrap 0 = 0 := by decide
    go_upto_region 6 with fail
    go_region_law ((refine step_append_bytes rfl (.tmp 13) (.tmp 28) rfl w.heap.size (.slice none 0 0) [] rfl O1.out none 0 0 ((b.drop 0).take 0) rfl R1.out HL.out hsz ?_; intro v2 w2 ho2 hg2 ha2; obtain ⟨f1, f2, f3⟩ := FIN.out v2 w2 ho2 hg2; have F3 := Lib.hid f3; clear ho2 hg2 ha2 f3))
    all_goals
      go_wp2_with fail
      go_ret2
      exact F3.out
  · by_cases hct : cb = t
    · subst hct
      have hm0 : m = 0 := by omega
      subst hm0
      rw [if_pos rfl] at R1
      have q0 : IntKind.i64.wrap (cb : Int) = (cb : Int) := IntWalk.i64_in _ (by omega)
      go_upto_region 6 with fail
      go_region_law ((refine step_append_bytes rfl (.tmp 13) (.tmp 28) rfl w.heap.size (.slice none 0 0) [] rfl O1.out (some ⟨bb, 0, none⟩) 0 0 ((b.drop cb).take 0) rfl R1.out HL.out hsz ?_; intro v2 w2 ho2 hg2 ha2; obtain ⟨f1, f2, f3⟩ := FIN.out v2 w2 ho2 hg2; have F3 := Lib.hid f3; clear ho2 hg2 ha2 f3))
      trace_state
      all_goals
        go_wp2_with fail
        go_ret2
        exact F3.out
    · rw [if_neg hct] at R1
      have n1 : (0 : Int) ≤ (t : Int) + (m : Int) := by omega
      have n2 : (t : Int) + (m : Int) ≤ (cb : Int) := by omega
      have n3 : ((t : Int) + (m : Int)).toNat = t + m := by omega
      have R2 : Hid (RB w1.drew (some ⟨bb, t, none⟩) m ((b.drop t).take m)) := Lib.hid (by
        have e : (Option.map (fun x => Addr.add x t) (some (⟨bb, 0, none⟩ : Addr))) = some ⟨bb, t, none⟩ := by
          simp only [Option.map_some, Addr.add]
          by_cases h0 : t = 0
          · subst h0; simp
          · simp [h0]
        have := R1.out
        rwa [e] at this)
      clear R1
      go_upto_region 6 with fail
      go_region_law ((refine step_append_bytes rfl (.tmp 13) (.tmp 28) rfl w.heap.size (.slice none 0 0) [] rfl O1.out (some ⟨bb, t, none⟩) m (cb - t) ((b.drop t).take m) rfl R2.out HL.out hsz ?_; intro v2 w2 ho2 hg2 ha2; obtain ⟨f1, f2, f3⟩ := FIN.out v2 w2 ho2 hg2; have F3 := Lib.hid f3; clear ho2 hg2 ha2 f3))
      all_goals
        go_wp2_with fail
        go_ret2
        exact F3.out
end Go.Proofs.Ytngaohmfedoeeaa
