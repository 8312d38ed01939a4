/- THE WALK of does (package heronlaw14). -/
import Derived.Test.YthhbfjhgmdnpbabDiskG
import Derived.Test.YthhbfjhgmdnpbabDS
import Derived.Test.YthhbfjhgmdnpbabOpText
import Derived.Test.YthhbfjhgmdnpbabCrash
namespace Go.Proofs.Ythhbfjhgmdnpbab
open Go.RowKit Go.Maps
/-- a call -/
structure O14 where
  k : Int
  c1 : Value
  a : List UInt8
  b : List UInt8
  s : ByteArray
  times : Int
  c6 : Value
  c7 : Value
  c8 : Value
  c9 : Value
  A : Option Addr
  m : Nat
  cp : Nat
  ks : List Int
def oC (o : O14) : Array Value := #[.int .i64 o.k, o.c1, .string (strB o.a), .string (strB o.b), .string o.s, .int .i64 o.times, o.c6, o.c7, o.c8, o.c9, .slice o.A o.m o.cp]
/-- what a call answers, whether something arrives, and the disk behind it -/
def DoesR (o : O14) (d : Dk) (r : Int) (ar : Bool) (d' : Dk) : Prop :=
  (o.k = 0 ∧ (r, d') = d.create o.a ∧ ar = (r == 0)) ∨ (o.k = 1 ∧ (r, d') = d.append o.a (repL o.s.data.toList (textK o.s.size o.times 70000)) ∧ ar = false) ∨ (o.k = 2 ∧ (r, d') = d.cut o.a ∧ ar = false) ∨
  (o.k = 3 ∧ (r, d') = d.rename o.a o.b ∧ ar = (r == 0 && !decide (o.a = o.b))) ∨ (o.k = 4 ∧ (r, d') = d.remove o.a ∧ ar = false) ∨ (o.k = 5 ∧ (r, d') = d.sync o.a ∧ ar = false) ∨
  (o.k = 10 ∧ r = 0 ∧ ar = false ∧ ∃ ss : List Int, ss.Pairwise (· < ·) ∧ (∀ i, i ∈ ss ↔ (d.fs i).isSome = true) ∧ d' = (crashD o.ks ss d ss.length).1) ∨
  (o.k ≠ 0 ∧ o.k ≠ 1 ∧ o.k ≠ 2 ∧ o.k ≠ 3 ∧ o.k ≠ 4 ∧ o.k ≠ 5 ∧ o.k ≠ 10 ∧ r = 0 ∧ ar = false ∧ d' = d)
def DoesQ (W : World) (N : Nat) (C : Nat → Nat) (c p n : Nat) (d : Dk) (o : O14) (e : Ending) (w' : World) : Prop :=
  ∃ r ar d', e = .returned (.tuple #[.int .i64 r, .bool ar]) ∧ DoesR o d r ar d' ∧ DC w' N (paint C W.heap.size c) c p (n + 2) d' ∧ Chg (fun b => C b = c) W w'
set_option maxRecDepth 20000 in
theorem does_create {W : World} {N : Nat} {C : Nat → Nat} {c p n : Nat} {d : Dk} (h : DC W N C c p n d) (hn : n + 2 < 1000000) (o : O14) (hk : o.k = 0) : Calls Try.prog 6 #[.pointer (some ⟨p, 0, none⟩), .agg (oC o)] W (DoesQ W N C c p n d o) := by
  obtain ⟨w1, hw1⟩ : ∃ w1, w1 = W.alloc (.cells (oC o) 31) := ⟨_, rfl⟩
  have hb : Below W.heap.size W w1 := by rw [hw1]; exact (Below.refl _ _).alloc (Nat.le_refl _) _
  have CC := Lib.hid (create_g (h.keep hb (sam_paint C W.heap.size c)) hn o.a)
  have HB := Lib.hid hb
  have HK := Lib.hid hk
  have q2 : w1.cell? ⟨W.heap.size, 2, none⟩ = some (.string (strB o.a)) := by
    rw [hw1]; exact ((Blk.new W _ _ rfl).cell 2).trans rfl
  unfold oC at hw1 ⊢
  rw [hk] at hw1 ⊢
  clear hb h hk
  go_enter Try.func6, Try.ntmps6
  go_upto_region 3 with fail
  rw [← hw1]
  clear hw1
  go_wp2_with fail
  refine CC.out.mono ?_
  rintro e w2 hq
  have he := hq.1
  have HF : Hid (DoesQ W N C c p n d o (.returned (.tuple #[.int .i64 (d.create o.a).1, .bool ((d.create o.a).1 == 0)])) w2) := Lib.hid (by
    have h2 := StepQ.behind HB.out hq
    exact ⟨_, _, _, rfl, .inl ⟨HK.out, rfl, rfl⟩, h2.2.1, h2.2.2⟩)
  subst he
  clear hq CC
  go_wp2_with fail
  go_ret2
  exact HF.out
set_option maxRecDepth 20000 in
theorem does_cut {W : World} {N : Nat} {C : Nat → Nat} {c p n : Nat} {d : Dk} (h : DC W N C c p n d) (hn : n + 2 < 1000000) (o : O14) (hk : o.k = 2) : Calls Try.prog 6 #[.pointer (some ⟨p, 0, none⟩), .agg (oC o)] W (DoesQ W N C c p n d o) := by
  obtain ⟨w1, hw1⟩ : ∃ w1, w1 = W.alloc (.cells (oC o) 31) := ⟨_, rfl⟩
  have hb : Below W.heap.size W w1 := by rw [hw1]; exact (Below.refl _ _).alloc (Nat.le_refl _) _
  have CC := Lib.hid (cut_g (h.keep hb (sam_paint C W.heap.size c)) hn o.a)
  have HB := Lib.hid hb
  have HK := Lib.hid hk
  have q2 : w1.cell? ⟨W.heap.size, 2, none⟩ = some (.string (strB o.a)) := by
    rw [hw1]; exact ((Blk.new W _ _ rfl).cell 2).trans rfl
  unfold oC at hw1 ⊢
  rw [hk] at hw1 ⊢
  clear hb h hk
  go_enter Try.func6, Try.ntmps6
  go_upto_region 8 with fail
  rw [← hw1]
  clear hw1
  go_wp2_with fail
  refine CC.out.mono ?_
  rintro e w2 hq
  have he := hq.1
  have HF : Hid (DoesQ W N C c p n d o (.returned (.tuple #[.int .i64 (d.cut o.a).1, .bool false])) w2) := Lib.hid (by
    have h2 := StepQ.behind HB.out hq
    exact ⟨_, _, _, rfl, .inr (.inr (.inl ⟨HK.out, rfl, rfl⟩)), h2.2.1, h2.2.2⟩)
  subst he
  clear hq CC
  go_wp2_with fail
  go_ret2
  exact HF.out
set_option maxRecDepth 20000 in
theorem does_remove {W : World} {N : Nat} {C : Nat → Nat} {c p n : Nat} {d : Dk} (h : DC W N C c p n d) (hn : n + 2 < 1000000) (o : O14) (hk : o.k = 4) : Calls Try.prog 6 #[.pointer (some ⟨p, 0, none⟩), .agg (oC o)] W (DoesQ W N C c p n d o) := by
  obtain ⟨w1, hw1⟩ : ∃ w1, w1 = W.alloc (.cells (oC o) 31) := ⟨_, rfl⟩
  have hb : Below W.heap.size W w1 := by rw [hw1]; exact (Below.refl _ _).alloc (Nat.le_refl _) _
  have CC := Lib.hid (remove_g (h.keep hb (sam_paint C W.heap.size c)) hn o.a)
  have HB := Lib.hid hb
  have HK := Lib.hid hk
  have q2 : w1.cell? ⟨W.heap.size, 2, none⟩ = some (.string (strB o.a)) := by
    rw [hw1]; exact ((Blk.new W _ _ rfl).cell 2).trans rfl
  unfold oC at hw1 ⊢
  rw [hk] at hw1 ⊢
  clear hb h hk
  go_enter Try.func6, Try.ntmps6
  go_upto_region 13 with fail
  rw [← hw1]
  clear hw1
  go_wp2_with fail
  refine CC.out.mono ?_
  rintro e w2 hq
  have he := hq.1
  have HF : Hid (DoesQ W N C c p n d o (.returned (.tuple #[.int .i64 (d.remove o.a).1, .bool false])) w2) := Lib.hid (by
    have h2 := StepQ.behind HB.out hq
    exact ⟨_, _, _, rfl, .inr (.inr (.inr (.inr (.inl ⟨HK.out, rfl, rfl⟩)))), h2.2.1, h2.2.2⟩)
  subst he
  clear hq CC
  go_wp2_with fail
  go_ret2
  exact HF.out
set_option maxRecDepth 20000 in
theorem does_sync {W : World} {N : Nat} {C : Nat → Nat} {c p n : Nat} {d : Dk} (h : DC W N C c p n d) (hn : n + 2 < 1000000) (o : O14) (hk : o.k = 5) : Calls Try.prog 6 #[.pointer (some ⟨p, 0, none⟩), .agg (oC o)] W (DoesQ W N C c p n d o) := by
  obtain ⟨w1, hw1⟩ : ∃ w1, w1 = W.alloc (.cells (oC o) 31) := ⟨_, rfl⟩
  have hb : Below W.heap.size W w1 := by rw [hw1]; exact (Below.refl _ _).alloc (Nat.le_refl _) _
  have CC := Lib.hid (sync_g (h.keep hb (sam_paint C W.heap.size c)) hn o.a)
  have HB := Lib.hid hb
  have HK := Lib.hid hk
  have q2 : w1.cell? ⟨W.heap.size, 2, none⟩ = some (.string (strB o.a)) := by
    rw [hw1]; exact ((Blk.new W _ _ rfl).cell 2).trans rfl
  unfold oC at hw1 ⊢
  rw [hk] at hw1 ⊢
  clear hb h hk
  go_enter Try.func6, Try.ntmps6
  go_upto_region 15 with fail
  rw [← hw1]
  clear hw1
  go_wp2_with fail
  refine CC.out.mono ?_
  rintro e w2 hq
  have he := hq.1
  have HF : Hid (DoesQ W N C c p n d o (.returned (.tuple #[.int .i64 (d.sync o.a).1, .bool false])) w2) := Lib.hid (by
    have h2 := StepQ.behind HB.out hq
    exact ⟨_, _, _, rfl, .inr (.inr (.inr (.inr (.inr (.inl ⟨HK.out, rfl, rfl⟩))))), h2.2.1, h2.2.2⟩)
  subst he
  clear hq CC
  go_wp2_with fail
  go_ret2
  exact HF.out
set_option maxRecDepth 20000 in
theorem does_other {W : World} {N : Nat} {C : Nat → Nat} {c p n : Nat} {d : Dk} (h : DC W N C c p n d) (hn : n + 2 < 1000000) (o : O14) (hk : o.k ≠ 0 ∧ o.k ≠ 1 ∧ o.k ≠ 2 ∧ o.k ≠ 3 ∧ o.k ≠ 4 ∧ o.k ≠ 5 ∧ o.k ≠ 10) : Calls Try.prog 6 #[.pointer (some ⟨p, 0, none⟩), .agg (oC o)] W (DoesQ W N C c p n d o) := by
  have HF : Hid (DoesQ W N C c p n d o (.returned (.tuple #[.int .i64 0, .bool false])) (W.alloc (.cells (oC o) 31))) := Lib.hid (by
    have hb : Below W.heap.size W (W.alloc (.cells (oC o) 31)) := (Below.refl _ _).alloc (Nat.le_refl _) _
    obtain ⟨k0, k1, k2, k3, k4, k5, k6⟩ := hk
    exact ⟨0, false, d, rfl, .inr (.inr (.inr (.inr (.inr (.inr (.inr ⟨k0, k1, k2, k3, k4, k5, k6, rfl, rfl, rfl⟩)))))), (h.keep hb (sam_paint _ _ _)).more (by omega) hn, Chg.of_below hb _⟩)
  obtain ⟨k0, k1, k2, k3, k4, k5, k6⟩ := hk
  obtain ⟨k, hkk⟩ : ∃ k, k = o.k := ⟨_, rfl⟩
  unfold oC at HF ⊢
  rw [← hkk] at k0 k1 k2 k3 k4 k5 k6 HF ⊢
  clear hkk h
  go_enter Try.func6, Try.ntmps6
  go_wp2_with fail
  go_ret2
  exact HF.out
set_option maxRecDepth 20000 in
theorem does_rename {W : World} {N : Nat} {C : Nat → Nat} {c p n : Nat} {d : Dk} (h : DC W N C c p n d) (hn : n + 2 < 1000000) (o : O14) (hk : o.k = 3) : Calls Try.prog 6 #[.pointer (some ⟨p, 0, none⟩), .agg (oC o)] W (DoesQ W N C c p n d o) := by
  obtain ⟨w1, hw1⟩ : ∃ w1, w1 = W.alloc (.cells (oC o) 31) := ⟨_, rfl⟩
  have hb : Below W.heap.size W w1 := by rw [hw1]; exact (Below.refl _ _).alloc (Nat.le_refl _) _
  have CC := Lib.hid (rename_g (h.keep hb (sam_paint C W.heap.size (c + 1))) hn o.a o.b)
  have HB := Lib.hid hb
  have HK := Lib.hid hk
  have K1 : Hid (Blk w1 W.heap.size 31 (oC o)) := Lib.hid (by rw [hw1]; exact Blk.new W _ _ rfl)
  have q2 : w1.cell? ⟨W.heap.size, 2, none⟩ = some (.string (strB o.a)) := (K1.out.cell 2).trans rfl
  have q3 : w1.cell? ⟨W.heap.size, 3, none⟩ = some (.string (strB o.b)) := (K1.out.cell 3).trans rfl
  unfold oC at hw1 ⊢
  rw [hk] at hw1 ⊢
  clear hb h hk
  go_enter Try.func6, Try.ntmps6
  go_upto_region 10 with fail
  rw [← hw1]
  clear hw1
  go_wp2_with fail
  refine CC.out.mono ?_
  rintro e w2 hq
  have he := hq.1
  have K2 := K1.out.chg hq.2.2 (fun e => by rw [paint_new C (c + 1) (Nat.le_refl _)] at e; omega)
  have HF : Hid (∀ ar w3, Below w2.heap.size w2 w3 → ar = ((d.rename o.a o.b).1 == 0 && !decide (o.a = o.b)) → DoesQ W N C c p n d o (.returned (.tuple #[.int .i64 (d.rename o.a o.b).1, .bool ar])) w3) := Lib.hid (fun ar w3 hb3 har => by
    have hc : Chg (fun b => C b = c) W w2 := (Chg.of_below HB.out _).trans hq.2.2 (fun b hb e => by rw [paint_old C (c + 1) hb] at e; exact e)
    refine ⟨_, ar, _, rfl, .inr (.inr (.inr (.inl ⟨HK.out, rfl, har⟩))), ?_, hc.trans (Chg.of_below hb3 (fun _ => False)) (fun _ _ e => e.elim)⟩
    have h2 : DC w2 N (paint C W.heap.size c) c p (n + 2) (d.rename o.a o.b).2 := hq.2.1.repaint (C := C) (h0 := W.heap.size) (fun b hb => by rw [paint_old _ _ (Nat.lt_of_lt_of_le hb HB.out.size), paint_old _ _ hb])
    exact h2.keep hb3 (Sam.refl _ _))
  have z2 : w2.cell? ⟨W.heap.size, 2, none⟩ = some (.string (strB o.a)) := (K2.cell 2).trans rfl
  have z3 : w2.cell? ⟨W.heap.size, 3, none⟩ = some (.string (strB o.b)) := (K2.cell 3).trans rfl
  obtain ⟨r, hr⟩ : ∃ r, r = (d.rename o.a o.b).1 := ⟨_, rfl⟩
  rw [← hr] at he HF
  subst he
  clear hq CC q2 q3 K1 K2 hr
  go_upto_region 11 with fail
  by_cases hr0 : r = 0
  · have hrb : (r == 0) = true := by simp [hr0]
    by_cases hab : o.a = o.b
    · have hF := HF.out false w2.drew (Below.refl _ _).drew (by rw [hrb, hab]; simp)
      have HF2 := Lib.hid hF
      rw [← hab] at z3
      clear HF hF
      go_region
      go_wp2_with fail
      go_ret2
      exact HF2.out
    · have hF := HF.out true w2.drew (Below.refl _ _).drew (by rw [hrb]; simp [hab])
      have HF2 := Lib.hid hF
      have hne : ((strB o.a).toList == (strB o.b).toList) = false := by rw [ByteArray.toList_eq, ByteArray.toList_eq]; simpa [strB] using hab
      clear HF hF
      go_region
      go_wp2_with fail
      go_ret2
      exact HF2.out
  · have hrb : (r == 0) = false := by simp [hr0]
    have hF := HF.out false w2.drew (Below.refl _ _).drew (by rw [hrb]; rfl)
    have HF2 := Lib.hid hF
    clear HF hF
    go_region
    go_wp2_with fail
    go_ret2
    exact HF2.out
end Go.Proofs.Ythhbfjhgmdnpbab
