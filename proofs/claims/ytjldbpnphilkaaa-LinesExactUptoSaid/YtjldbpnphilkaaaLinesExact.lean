/- THE WALK of heronlaw16.LinesExact. -/
import Derived.Test.YtjldbpnphilkaaaLinesPair
import Derived.Deep.DeepCutAuto
import Derived.Lib.MinMax
import Derived.BigQuiet
import Derived.Deep.QuietTactic
import Derived.Deep.RegionHeld3
import Derived.LoopN
import Derived.Outline
namespace Go.Proofs.Ytjldbpnphilkaaa
open Go.RowKit
structure LOp where
  b : List UInt8
  drop : Bool
  two : Bool
def OS (w : World) (A : Option Addr) (n : Nat) (l : List LOp) : Prop :=
  l.length = n ∧ (0 < n → ∃ bb off, A = some ⟨bb, off, none⟩ ∧ bb < w.heap.size ∧ ∀ (j : Nat) (o : LOp), l[j]? = some o → ∃ B m c,
    w.cell? ⟨bb, off + j * 3, none⟩ = some (.slice B m c) ∧ m ≤ c ∧ RB w B m o.b ∧ w.cell? ⟨bb, off + j * 3 + 1, none⟩ = some (.bool o.drop) ∧ w.cell? ⟨bb, off + j * 3 + 2, none⟩ = some (.bool o.two))
def ptr (b : Nat) : Value := .pointer (some ⟨b, 0, none⟩)
theorem arr2 {W : World} {p : Nat} {t : TypeId} {g : Nat → Nat} (h : Blk W p t #[ptr (g 0), ptr (g 1)]) {i : Nat} (hi : i < 2) : W.cell? ⟨p, i, none⟩ = some (.pointer (some ⟨g i, 0, none⟩)) := by
  rw [h.cell i]
  match i, hi with
  | 0, _ => rfl
  | 1, _ => rfl
theorem quiet2 {P : Program} {f : FuncId} {args : Array Value} {w : World} {n : Nat} {v : Value} (h : Calls P f args (w.drewN n) fun e w' => e = .returned v ∧ ∃ m, w' = (w.drewN n).drewN m) :
    Calls P f args (w.drewN n) fun e w'' => e = .returned v ∧ ∃ m, w'' = w.drewN m := h.mono fun _ _ ⟨he, m, hm⟩ => ⟨he, n + m, hm.trans (by simp)⟩
theorem Blk.pchg {W W' : World} {p g : Nat} {t : TypeId} {cs : Array Value} {v : Value} {most long : Nat} {u : List UInt8} (h : Blk W p t cs) (hm : MK W g v most u long) (ht : t ≠ 43) (hu : 5 ≠ t) (hc : Chg (ownF g v) W W') : Blk W' p t cs :=
  h.chg hc (fun hs => by
    rcases hs with hs | hs
    · have h1 := hm.blk
      rw [← hs] at h1
      unfold Blk at h h1
      rw [h] at h1
      injection h1 with h1
      injection h1 with _ h2
      exact ht h2
    · exact h.apart hm.own hu hs)
theorem Blk.rchg {W W' : World} {p g : Nat} {t : TypeId} {cs : Array Value} {v : Value} {most long : Nat} {u : List UInt8} (h : Blk W p t cs) (hm : RM W g v most u long) (ht : t ≠ 55) (hu : 5 ≠ t) (hc : Chg (ownF g v) W W') : Blk W' p t cs :=
  h.chg hc (fun hs => by
    rcases hs with hs | hs
    · have h1 := hm.blk
      rw [← hs] at h1
      unfold Blk at h h1
      rw [h] at h1
      injection h1 with h1
      injection h1 with _ h2
      exact ht h2
    · exact h.apart hm.own hu hs)
def bdK (k : Nat) : Nat := k * 1048577
theorem bdK_succ (k : Nat) : bdK k + 1048577 = bdK (k + 1) := by unfold bdK; omega
theorem bdK_le {k : Nat} (h : k ≤ 400) : bdK k ≤ 1000000000 := by unfold bdK; omega
/-- what holds ahead of each call -/
def HEAD (w W : World) (pm : Nat) (g r M : Nat → Nat) (B : Nat) : Prop :=
  ∃ v x u lg, Pairs w W g r v x M u lg u lg ∧ Blk W pm 26 #[ptr (g 0), ptr (g 1)] ∧ Blk W (pm + 1) 28 #[ptr (r 0), ptr (r 1)] ∧ ∀ i, i < 2 → (u i).length ≤ B ∧ lg i ≤ B
def two {α : Type} (a b : α) : Nat → α := fun i => if i = 0 then a else b
set_option maxRecDepth 100000 in
set_option maxHeartbeats 4000000 in
theorem exact_good (M0 M1 : Nat) (hM0 : M0 ≤ 4096) (hM1 : M1 ≤ 4096) (A : Option Addr) (n cap : Nat) (l : List LOp) (w : World) (hl : OS w A n l) (hcap : n ≤ cap) (hb : ∀ o ∈ l, o.b.length ≤ 1048576) (hn : n ≤ 1048576) :
    Calls Try.prog 3 #[.agg #[.int .i64 (M0 : Int), .int .i64 (M1 : Int)], .slice A n cap] w fun e w' => e = .returned (.bool true) ∧ Below w.heap.size w w' := by
  have HL := Lib.hid hl; have HB := Lib.hid hb
  clear hl hb
  go_enter Try.func3, Try.ntmps3
  go_wp2_with fail
  refine (known_any _).mono ?_
  rintro e w1 ⟨rfl, hb1⟩
  have A1 : Blk (w.alloc (.cells #[.int .i64 (M0 : Int), .int .i64 (M1 : Int)] 22)) w.heap.size 22 #[.int .i64 (M0 : Int), .int .i64 (M1 : Int)] := Blk.new w _ _ rfl
  have Z1 : Below w.heap.size w w1 := ((Below.refl _ _).alloc (Nat.le_refl _) _).trans (hb1.mono (by simp))
  have hz1 : w.heap.size + 1 ≤ w1.heap.size := by have := hb1.size; simpa using this
  have hb2 : Below w1.heap.size w1 ((w1.alloc (.cells #[.pointer none, .pointer none] 26)).alloc (.cells #[.pointer none, .pointer none] 28)) := ((Below.refl _ _).alloc (Nat.le_refl _) _).alloc (by simp) _
  have A2 := Lib.hid ((A1.keep hb1).keep hb2)
  have P2 : Hid (Blk ((w1.alloc (.cells #[.pointer none, .pointer none] 26)).alloc (.cells #[.pointer none, .pointer none] 28)) w1.heap.size 26 #[.pointer none, .pointer none]) := Lib.hid ((Blk.new w1 _ _ rfl).alloc _)
  have Q2 : Hid (Blk ((w1.alloc (.cells #[.pointer none, .pointer none] 26)).alloc (.cells #[.pointer none, .pointer none] 28)) (w1.heap.size + 1) 28 #[.pointer none, .pointer none]) := Lib.hid (Blk.new _ _ _ (by simp))
  have B2 := Lib.hid (Z1.trans (hb2.mono Z1.size))
  clear A1 Z1 hb1 hb2
  go_wp2_with fail
  obtain ⟨w2, hw2⟩ : ∃ w2, w2 = (w1.alloc (.cells #[.pointer none, .pointer none] 26)).alloc (.cells #[.pointer none, .pointer none] 28) := ⟨_, rfl⟩
  obtain ⟨pa, hpa⟩ : ∃ pa, pa = w.heap.size := ⟨_, rfl⟩
  obtain ⟨pm, hpm⟩ : ∃ pm, pm = w1.heap.size := ⟨_, rfl⟩
  rw [← hw2] at A2 P2 Q2 B2 ⊢
  rw [← hpm] at P2 Q2 ⊢
  rw [← hpa] at A2 ⊢
  have hpz : w.heap.size ≤ pa := by omega
  have hpam : pa < pm := by omega
  have hpl := Q2.out.lt
  clear hw2 hpa hpm hz1
  refine wp_loop_rounds 3 ?_
  rw [rounds_succ]
  have c0 : w2.cell? ⟨pa, 0, none⟩ = some (.int .i64 (M0 : Int)) := A2.out.cell 0
  go_wp2_with fail
  refine (new_ok M0 _ hM0).mono ?_
  intro e w3 hpost
  obtain ⟨g0, hg0E, rfl, hm3, hb3, hsz3E⟩ := hpost
  have hg0 := Nat.le_of_eq hg0E.symm
  have hsz3 := hm3.blk.lt
  clear hg0E hsz3E
  have B3 := Lib.hid hb3
  have c0' : w3.cell? ⟨pa, 0, none⟩ = some (.int .i64 (M0 : Int)) := (A2.out.keep hb3).cell 0
  have M3 := Lib.hid hm3.blk
  clear hm3 hb3 c0
  go_wp2_with fail
  refine (rnew_ok M0 _ hM0).mono ?_
  intro e w4 hpost
  obtain ⟨r0, hr0E, rfl, hm4, hb4, hsz4E⟩ := hpost
  have hr0 := Nat.le_of_eq hr0E.symm
  have hsz4 := hm4.blk.lt
  clear hr0E hsz4E
  have B4 := B3.out.trans (hb4.mono B3.out.size)
  have A4 := A2.out.keep B4; have P4 := P2.out.keep B4; have Q4 := Q2.out.keep B4; have M4 := M3.out.keep hb4; have R4 := hm4.blk
  have hne1 : g0 ≠ pm := by omega
  have hne2 : g0 ≠ pm + 1 := by omega
  have hne3 : r0 ≠ pm := by omega
  have hne4 : r0 ≠ pm + 1 := by omega
  have hne5 : pa ≠ pm := by omega
  have hne6 : pa ≠ pm + 1 := by omega
  have hne7 : pm ≠ pm + 1 := by omega
  have e1 : w4.cell? ⟨pm, 0, none⟩ = some (.pointer none) := P4.cell 0
  have e2 : w4.cell? ⟨pm + 1, 0, none⟩ = some (.pointer none) := Q4.cell 0
  have f1 := P4.frozen 0
  have f2 := Q4.frozen 0
  have A5 := (A4.far (p := ⟨pm, 0, none⟩) hne5 (.pointer (some ⟨g0, 0, none⟩))).far (p := ⟨pm + 1, 0, none⟩) hne6 (.pointer (some ⟨r0, 0, none⟩))
  have P5 := (P4.set_ 0 (.pointer (some ⟨g0, 0, none⟩))).far (p := ⟨pm + 1, 0, none⟩) hne7 (.pointer (some ⟨r0, 0, none⟩))
  have Q5 := (Q4.far (p := ⟨pm, 0, none⟩) (fun e => hne7 e.symm) (.pointer (some ⟨g0, 0, none⟩))).set_ 0 (.pointer (some ⟨r0, 0, none⟩))
  have M5 := (M4.far (p := ⟨pm, 0, none⟩) hne1 (.pointer (some ⟨g0, 0, none⟩))).far (p := ⟨pm + 1, 0, none⟩) hne2 (.pointer (some ⟨r0, 0, none⟩))
  have R5 := (R4.far (p := ⟨pm, 0, none⟩) hne3 (.pointer (some ⟨g0, 0, none⟩))).far (p := ⟨pm + 1, 0, none⟩) hne4 (.pointer (some ⟨r0, 0, none⟩))
  have B5 : Below w.heap.size w ((w4.setCell ⟨pm, 0, none⟩ (.pointer (some ⟨g0, 0, none⟩))).setCell ⟨pm + 1, 0, none⟩ (.pointer (some ⟨r0, 0, none⟩))) := ((B2.out.trans (B4.mono B2.out.size)).setCell (by show w.heap.size ≤ pm; omega) _).setCell (by show w.heap.size ≤ pm + 1; omega) _
  have HA5 := Lib.hid A5; have HP5 := Lib.hid P5; have HQ5 := Lib.hid Q5; have HM5 := Lib.hid M5; have HR5 := Lib.hid R5; have HB5 := Lib.hid B5
  clear A5 P5 Q5 M5 R5 B5 A4 P4 Q4 M4 R4 B4 B3 hm4 hb4 c0' A2 P2 Q2 M3 B2
  go_wp2_with fail
  rw [rounds_succ]
  obtain ⟨w5, hw5⟩ : ∃ w5, w5 = (w4.setCell ⟨pm, 0, none⟩ (.pointer (some ⟨g0, 0, none⟩))).setCell ⟨pm + 1, 0, none⟩ (.pointer (some ⟨r0, 0, none⟩)) := ⟨_, rfl⟩
  have hsz5 : w4.heap.size ≤ w5.heap.size := by rw [hw5]; simp [World.setCell]
  rw [← hw5] at HA5 HP5 HQ5 HM5 HR5 HB5 ⊢
  have HP5' : Hid (Blk w5 pm 26 #[.pointer (some ⟨g0, 0, none⟩), .pointer none]) := HP5
  have HQ5' : Hid (Blk w5 (pm + 1) 28 #[.pointer (some ⟨r0, 0, none⟩), .pointer none]) := HQ5
  clear e1 e2 f1 f2 hw5 HP5 HQ5
  have c0 : w5.cell? ⟨pa, 1, none⟩ = some (.int .i64 (M1 : Int)) := HA5.out.cell 1
  go_wp2_with fail
  refine (new_ok M1 _ hM1).mono ?_
  intro e w6 hpost
  obtain ⟨g1, hg1E, rfl, hm6, hb6, hsz6E⟩ := hpost
  have hg1 := Nat.le_of_eq hg1E.symm
  have hsz6 := hm6.blk.lt
  clear hg1E hsz6E
  have B6 := Lib.hid hb6
  have c0' : w6.cell? ⟨pa, 1, none⟩ = some (.int .i64 (M1 : Int)) := (HA5.out.keep hb6).cell 1
  have M6 := Lib.hid hm6.blk
  clear hm6 hb6 c0
  go_wp2_with fail
  refine (rnew_ok M1 _ hM1).mono ?_
  intro e w7 hpost
  obtain ⟨r1, hr1E, rfl, hm7, hb7, hsz7E⟩ := hpost
  have hr1 := Nat.le_of_eq hr1E.symm
  have hsz7 := hm7.blk.lt
  clear hr1E hsz7E
  have B7 := B6.out.trans (hb7.mono B6.out.size)
  have P7 := HP5'.out.keep B7; have Q7 := HQ5'.out.keep B7; have M7 := HM5.out.keep B7; have R7 := HR5.out.keep B7; have N7 := M6.out.keep hb7; have S7 := hm7.blk
  have hne8 : g1 ≠ pm := by omega
  have hne9 : g1 ≠ pm + 1 := by omega
  have hne10 : r1 ≠ pm := by omega
  have hne11 : r1 ≠ pm + 1 := by omega
  have hgg : g0 ≠ g1 := by omega
  have hrr : r0 ≠ r1 := by omega
  have hgw0 : w.heap.size ≤ g0 := by omega
  have hgw1 : w.heap.size ≤ g1 := by omega
  have hrw0 : w.heap.size ≤ r0 := by omega
  have hrw1 : w.heap.size ≤ r1 := by omega
  have e1 : w7.cell? ⟨pm, 1, none⟩ = some (.pointer none) := P7.cell 1
  have e2 : w7.cell? ⟨pm + 1, 1, none⟩ = some (.pointer none) := Q7.cell 1
  have f1 := P7.frozen 1
  have f2 := Q7.frozen 1
  have P8 := (P7.set_ 1 (.pointer (some ⟨g1, 0, none⟩))).far (p := ⟨pm + 1, 1, none⟩) hne7 (.pointer (some ⟨r1, 0, none⟩))
  have Q8 := (Q7.far (p := ⟨pm, 1, none⟩) (fun e => hne7 e.symm) (.pointer (some ⟨g1, 0, none⟩))).set_ 1 (.pointer (some ⟨r1, 0, none⟩))
  have hfar : ∀ (g : Nat) (t : TypeId) (cs : Array Value), Blk w7 g t cs → g ≠ pm → g ≠ pm + 1 → Blk ((w7.setCell ⟨pm, 1, none⟩ (.pointer (some ⟨g1, 0, none⟩))).setCell ⟨pm + 1, 1, none⟩ (.pointer (some ⟨r1, 0, none⟩))) g t cs := fun g t cs h h1 h2 =>
    (h.far (p := ⟨pm, 1, none⟩) h1 _).far (p := ⟨pm + 1, 1, none⟩) h2 _
  have B8 : Below w.heap.size w ((w7.setCell ⟨pm, 1, none⟩ (.pointer (some ⟨g1, 0, none⟩))).setCell ⟨pm + 1, 1, none⟩ (.pointer (some ⟨r1, 0, none⟩))) := ((HB5.out.trans (B7.mono HB5.out.size)).setCell (by show w.heap.size ≤ pm; omega) _).setCell (by show w.heap.size ≤ pm + 1; omega) _
  have hmk : ∀ (W : World) (g M : Nat), Blk W g 43 #[.slice none 0 0, .int .i64 (M : Int), .int .i64 (([] : List UInt8).length : Int), .int .i64 ((0 : Nat) : Int)] → MK W g (.slice none 0 0) M [] 0 := fun W g M h => ⟨h, by unfold heldOf; simp; exact OB.nil _ _⟩
  have hnn : ∀ k, (Value.slice none 0 0).ownBlock ≠ some k := fun k h => by simp [Value.ownBlock] at h
  have HS : Pairs w ((w7.setCell ⟨pm, 1, none⟩ (.pointer (some ⟨g1, 0, none⟩))).setCell ⟨pm + 1, 1, none⟩ (.pointer (some ⟨r1, 0, none⟩))) (two g0 g1) (two r0 r1) (fun _ => .slice none 0 0) (fun _ => .slice none 0 0) (two M0 M1) (fun _ => []) (fun _ => 0) (fun _ => []) (fun _ => 0) := by
    refine ⟨fun i hi => ?_, fun i hi => ?_, fun i hi => ?_, fun i hi => ?_, fun i hi k hk => absurd hk (hnn k), fun i hi k hk => absurd hk (hnn k), fun i j hi hj hij => ?_, fun i j hi hj hij => ?_, fun i j _ _ _ k hk => absurd hk (hnn k), fun i j _ _ k hk => absurd hk (hnn k), fun i j _ _ _ k hk => absurd hk (hnn k), B8⟩
    · match i, hi with
      | 0, _ => exact hmk _ _ _ (hfar _ _ _ M7 hne1 hne2)
      | 1, _ => exact hmk _ _ _ (hfar _ _ _ N7 hne8 hne9)
    · match i, hi with
      | 0, _ => exact ⟨hfar _ _ _ R7 hne3 hne4, OB.nil _ _⟩
      | 1, _ => exact ⟨hfar _ _ _ S7 hne10 hne11, OB.nil _ _⟩
    · match i, hi with
      | 0, _ => exact hgw0
      | 1, _ => exact hgw1
    · match i, hi with
      | 0, _ => exact hrw0
      | 1, _ => exact hrw1
    · match i, j, hi, hj with
      | 0, 0, _, _ => exact absurd rfl hij
      | 0, 1, _, _ => exact hgg
      | 1, 0, _, _ => exact fun e => hgg e.symm
      | 1, 1, _, _ => exact absurd rfl hij
    · match i, j, hi, hj with
      | 0, 0, _, _ => exact absurd rfl hij
      | 0, 1, _, _ => exact hrr
      | 1, 0, _, _ => exact fun e => hrr e.symm
      | 1, 1, _, _ => exact absurd rfl hij
  have HS8 := Lib.hid HS; have HP8 := Lib.hid P8; have HQ8 := Lib.hid Q8
  clear HS P8 Q8 hfar B8 hmk hnn P7 Q7 M7 R7 N7 S7 B7 B6 hm7 hb7 c0' HA5 HP5' HQ5' HM5 HR5 HB5 M6
  go_wp2_with fail
  rw [rounds_succ]
  obtain ⟨w8, hw8⟩ : ∃ w8, w8 = (w7.setCell ⟨pm, 1, none⟩ (.pointer (some ⟨g1, 0, none⟩))).setCell ⟨pm + 1, 1, none⟩ (.pointer (some ⟨r1, 0, none⟩)) := ⟨_, rfl⟩
  rw [← hw8] at HS8 HP8 HQ8 ⊢
  have HP9 : Hid (Blk w8 pm 26 #[.pointer (some ⟨g0, 0, none⟩), .pointer (some ⟨g1, 0, none⟩)]) := HP8
  have HQ9 : Hid (Blk w8 (pm + 1) 28 #[.pointer (some ⟨r0, 0, none⟩), .pointer (some ⟨r1, 0, none⟩)]) := HQ8
  have hpw : w.heap.size ≤ pm := by omega
  clear e1 e2 f1 f2 hw8 HP8 HQ8 hsz3 hsz4 hsz5 hsz6 hsz7 hg0 hr0 hg1 hr1 hgw0 hgw1 hrw0 hrw1 hgg hrr hpl hpam hpz hne1 hne2 hne3 hne4 hne5 hne6 hne8 hne9 hne10 hne11
  have c0 : w8.cell? ⟨pm, 0, none⟩ = some (.pointer (some ⟨g0, 0, none⟩)) := HP9.out.cell 0
  have c1 : w8.cell? ⟨pm, 1, none⟩ = some (.pointer (some ⟨g1, 0, none⟩)) := HP9.out.cell 1
  have hmin : ∀ W : World, (Builtin.min_ #[3, 3] 3 #[.int .i64 (n : Int), .int .i64 400]).run Try.prog W = .ok (.int .i64 ((min n 400 : Nat) : Int)) W := by
    intro W; rw [run_min_int2]; congr 2; split <;> omega
  have hm1 : min n 400 ≤ n := Nat.min_le_left _ _
  have hm4 : min n 400 ≤ 400 := Nat.min_le_right _ _
  obtain ⟨N, hN⟩ : ∃ N, N = min n 400 := ⟨_, rfl⟩
  rw [← hN] at hmin hm1 hm4
  clear hN
  go_wp2_with fail
  have hH : HEAD w w8 pm (two g0 g1) (two r0 r1) (two M0 M1) (bdK 0) := ⟨_, _, _, _, HS8.out, HP9.out, HQ9.out, fun i _ => ⟨by simp, by simp⟩⟩
  have HH := Lib.hid hH
  have hmost : ∀ i, i < 2 → two M0 M1 i ≤ 4096 := fun i hi => by
    match i, hi with
    | 0, _ => exact hM0
    | 1, _ => exact hM1
  have HMO := Lib.hid hmost
  clear hH hmost HS8 HP9 HQ9 c0 c1 hmin
  generalize two g0 g1 = g at *
  generalize two r0 r1 = r at *
  generalize two M0 M1 = M at *
  go_loopw [74] (fun iv W => ∃ k : Nat, k ≤ N ∧ iv = .int .i64 (k : Int) ∧ HEAD w W pm g r M (bdK k)) (fun iv _ => N - (intOf iv).toNat)
  case atStart => exact ⟨0, Nat.zero_le _, rfl, HH.out⟩
  case round =>
    obtain ⟨k, hk, rfl, v, x, u, lg, hst, hpm, hpr, hbd⟩ := hrel
    have HST := Lib.hid hst; have HPM := Lib.hid hpm; have HPR := Lib.hid hpr; have HBD := Lib.hid hbd
    clear hst hpm hpr hbd
    by_cases hlt : k < N
    · have hkn : k < n := by omega
      obtain ⟨bb, off, rfl, hbb, hcell⟩ := HL.out.2 (by omega)
      have hlk : k < l.length := by have := HL.out.1; omega
      obtain ⟨Bo, m, c, cB0, hmc, rB0, cD0, cT0⟩ := hcell k _ (List.getElem?_eq_getElem hlk)
      have hob := HB.out _ (List.getElem_mem hlk)
      obtain ⟨o, ho⟩ : ∃ o, o = l[k] := ⟨_, rfl⟩
      rw [← ho] at cD0 cT0 rB0 hob
      have hBW := HST.out.below
      have cB : wr.cell? ⟨bb, off + k * 3, none⟩ = some (.slice Bo m c) := (hBW.cell (p := ⟨bb, _, none⟩) hbb).trans cB0
      have cD : wr.cell? ⟨bb, off + k * 3 + 1, none⟩ = some (.bool o.drop) := (hBW.cell (p := ⟨bb, _, none⟩) hbb).trans cD0
      have cT : wr.cell? ⟨bb, off + k * 3 + 2, none⟩ = some (.bool o.two) := (hBW.cell (p := ⟨bb, _, none⟩) hbb).trans cT0
      have hmb : m ≤ 1048576 := by have := rB0.1; omega
      have RB0 := Lib.hid rB0
      clear cB0 cD0 cT0 rB0 hBW hcell hlk hob ho
      obtain ⟨i, hi2, hie⟩ : ∃ i : Nat, i < 2 ∧ i = (if o.two = true then 1 else 0) := ⟨_, by split <;> omega, rfl⟩
      have HIE := Lib.hid hie; clear hie
      have hb1 : Below wr.heap.size wr (wr.alloc (.cells #[.slice Bo m c, .bool o.drop, .bool o.two] 36)) := (Below.refl _ _).alloc (Nat.le_refl _) _
      have S1 := Lib.hid (HST.out.keep hb1); have P1 := Lib.hid (HPM.out.keep hb1); have Q1 := Lib.hid (HPR.out.keep hb1)
      have O1 : Hid (Blk (wr.alloc (.cells #[.slice Bo m c, .bool o.drop, .bool o.two] 36)) wr.heap.size 36 #[.slice Bo m c, .bool o.drop, .bool o.two]) := Lib.hid (Blk.new _ _ _ rfl)
      clear hb1 HST HPM HPR
      go_upto_if 79 with fail
      obtain ⟨w1, hw1⟩ : ∃ w1, w1 = wr.alloc (.cells #[.slice Bo m c, .bool o.drop, .bool o.two] 36) := ⟨_, rfl⟩
      obtain ⟨po, hpo⟩ : ∃ po, po = wr.heap.size := ⟨_, rfl⟩
      rw [← hw1] at S1 P1 Q1 O1 ⊢
      rw [← hpo] at O1 ⊢
      clear hw1 hpo cB cD cT
      go_cut [14] (fun s14 wx => s14 = .int .i64 (i : Int) ∧ wx = w1)
      case first =>
        cases htw : o.two with
        | true =>
          have hi1 : i = 1 := by rw [HIE.out, htw]; rfl
          subst hi1
          go_wp2_with fail
          go_meet
          exact ⟨rfl, rfl⟩
        | false =>
          have hi1 : i = 0 := by rw [HIE.out, htw]; rfl
          subst hi1
          go_wp2_with fail
          go_meet
          exact ⟨rfl, rfl⟩
      case rest =>
        obtain ⟨rfl, hw⟩ := hcut
        rw [hw]
        clear hw wc
        have cd : w1.cell? ⟨po, 1, none⟩ = some (.bool o.drop) := O1.out.cell 1
        go_upto_if 81 with fail
        go_cut [14] (fun s14 wx => s14 = .int .i64 (i : Int) ∧ HEAD w wx pm g r M (bdK (k + 1)))
        case first =>
          cases hdr : o.drop with
          | true =>
            have cm := arr2 P1.out hi2
            go_wp2_with fail
            refine (drop_any (g i) (v i) (M i) (lg i) (u i) _ (S1.out.mm i hi2)).mono ?_
            rintro e w2 ⟨rfl, hm2, hc2⟩
            have S2 := Lib.hid (S1.out.maker hi2 hm2 hc2 (Fresh.nil _ _))
            have P2 := Lib.hid (P1.out.pchg (S1.out.mm i hi2) (by decide) (by decide) hc2)
            have Q2 := Lib.hid (Q1.out.pchg (S1.out.mm i hi2) (by decide) (by decide) hc2)
            clear hm2 hc2 cm cd
            have cr := arr2 Q2.out hi2
            go_wp2_with fail
            refine (rdrop_any (r i) (x i) (M i) (lg i) (u i) _ (S2.out.rm i hi2)).mono ?_
            rintro e w3 ⟨rfl, hm3, hc3⟩
            have S3 := Lib.hid (S2.out.ref hi2 hm3 hc3 (Fresh.nil _ _))
            have P3 := Lib.hid (P2.out.rchg (S2.out.rm i hi2) (by decide) (by decide) hc3)
            have Q3 := Lib.hid (Q2.out.rchg (S2.out.rm i hi2) (by decide) (by decide) hc3)
            clear hm3 hc3 cr
            go_wp2_with fail
            go_meet
            refine ⟨rfl, _, _, _, _, S3.out, P3.out, Q3.out, fun j hj => ?_⟩
            have hk1 := bdK_succ k
            have hb1 := HBD.out j hj
            by_cases e : j = i
            · subst e; rw [upd_same, upd_same]; exact ⟨Nat.zero_le _, by omega⟩
            · rw [upd_ne _ _ e, upd_ne _ _ e]; exact ⟨by omega, by omega⟩
          | false =>
            have c0 : (w1.alloc (.cells #[] 5)).cell? ⟨po, 0, none⟩ = some (.slice Bo m c) := (O1.out.alloc _).cell 0
            have RW := Lib.hid (RB0.out.keep S1.out.below)
            have RT := Lib.hid (RW.out.alloc (.cells #[] 5))
            have OF := Lib.hid (OB.fresh (w := w1) (base := w1.heap.size) rfl (Nat.le_refl _))
            have hL : ([] : List UInt8).length + m ≤ 140737488355328 := by simp; omega
            have hB0 : w1.heap.size ≤ (w1.alloc (.cells #[] 5)).heap.size := by simp
            go_wp2_with ((at_builtin; go_must (refine append_bytes rfl (.tmp 90) (.tmp 92) rfl w1.heap.size (.slice (some ⟨w1.heap.size, 0, none⟩) 0 0) [] rfl OF.out Bo m c o.b rfl RT.out hL hB0 ?_); intro v2 w2 ho2 hg2 ha2; refine halt ?_))
            refine unhalt ?_
            have hbw : Below w1.heap.size w1 w2 := ((Below.refl _ _).alloc (Nat.le_refl _) _).grown hg2 (by simp) (fun j hj => by
              obtain rfl := Option.some.inj hj
              exact Nat.le_refl _)
            have ho2' : OB w2 w1.heap.size v2 o.b := ho2
            have O2 := Lib.hid (ho2'.keep ((Below.refl _ _).alloc (Nat.le_refl _) (.cells #[.int .u8 81] 5)))
            have R2 : Hid (RB (w2.alloc (.cells #[.int .u8 81] 5)) (some ⟨w2.heap.size, 0, none⟩) 1 [81]) := Lib.hid (RB.new w2 5 (0, 0) #[.int .u8 81] [81] rfl 1 rfl)
            have B2 := Lib.hid (hbw.alloc hbw.size (.cells #[.int .u8 81] 5))
            have hL2 : o.b.length + 1 ≤ 140737488355328 := by have := RB0.out.1; omega
            have hB2 : w1.heap.size ≤ (w2.alloc (.cells #[.int .u8 81] 5)).heap.size := by have := hbw.size; simp; omega
            clear ho2 ho2' hg2 ha2 hbw RT OF hL hB0
            go_wp2_with ((at_builtin; go_must (refine append_bytes rfl (.tmp 93) (.tmp 94) rfl w1.heap.size v2 o.b rfl O2.out (some ⟨w2.heap.size, 0, none⟩) 1 1 [81] rfl R2.out hL2 hB2 ?_); intro v3 w3 ho3 hg3 ha3; refine halt ?_))
            refine unhalt ?_
            have hb3 : Below w1.heap.size w1 w3 := B2.out.grown hg3 hB2 (fun j hj => (O2.out.lt j hj).1)
            have hlen3 : (o.b ++ [81]).length = m + 1 := by have := RB0.out.1; simp; omega
            obtain ⟨Q, cq, rfl, hcq, _, hr3⟩ := ho3.form
            obtain ⟨q, qo, rfl, hqlt, _⟩ := hr3.2 (by rw [hlen3]; omega)
            have hq0 : qo = 0 := by
              rcases ho3.2 with ⟨h, _⟩ | ⟨g', cap', cur', h, _⟩
              · cases h
              · injection h with h; injection h with h; injection h with _ h
            subst hq0
            have hqw : w1.heap.size ≤ q := (ho3.lt q rfl).1
            rw [hlen3] at ho3 hcq hr3 ⊢
            have O3 := Lib.hid ho3
            have HL3 := Lib.hid hlen3
            have F3 := Lib.hid (S1.out.off hqw)
            have S3 := Lib.hid (S1.out.keep hb3); have P3 := Lib.hid (P1.out.keep hb3); have Q3 := Lib.hid (Q1.out.keep hb3); have K3 := Lib.hid (O1.out.keep hb3)
            have RI3 : Hid (RB w3 (some ⟨q, 0, none⟩) m o.b) := Lib.hid (by
              have := hr3.take (k := m) (by omega)
              rwa [List.take_left' RB0.out.1] at this)
            have hmcq : m ≤ cq := by omega
            clear ho3 hg3 ha3 hb3 hlen3 hr3 O2 R2 B2 hL2 hB2 c0 cd
            have cm := arr2 P3.out hi2
            have c0 : w3.cell? ⟨po, 0, none⟩ = some (.slice Bo m c) := K3.out.cell 0
            have hkb := bdK_le (show k ≤ 400 by omega)
            have hbd := HBD.out i hi2
            have CF := Lib.hid (fun j => feed_any (g i) (v i) (M i) (lg i) (u i) (some ⟨q, 0, none⟩) m cq o.b (w3.drewN j) ((S3.out.drewN j).mm i hi2) (RI3.out.drewN j) hmcq (HMO.out i hi2) (by omega) (by omega))
            clear hbd
            have hiI : (i : Int) < 2 := by omega
            have hmI : (m : Int) ≤ (cq : Int) := by omega
            go_upto_region 26 with fail
            go_region_held3 (fun w' => w'.cell? ⟨pm, i, none⟩ = some (.pointer (some ⟨g i, 0, none⟩)) ∧ w'.cell? ⟨po, 0, none⟩ = some (.slice Bo m c)) (first | go_keep | exact ⟨d1, d2⟩)
              (first | (go_at_call 11; refine (CF.out _).mono ?_; intro e w4 hpost; obtain ⟨rfl, v4, hm4, hc4, hf4⟩ := hpost; have d1 := arr2 (((P3.out.drewN _).pchg ((S3.out.drewN _).mm i hi2) (by decide) (by decide) hc4)) hi2; have d2 := ((K3.out.drewN _).pchg ((S3.out.drewN _).mm i hi2) (by decide) (by decide) hc4).cell 0))
            have hbS3 := S3.out.drewN
            have S4 := Lib.hid ((hbS3 _).maker hi2 hm4 hc4 hf4)
            have P4 := Lib.hid ((P3.out.drewN _).pchg ((hbS3 _).mm i hi2) (by decide) (by decide) hc4)
            have Q4 := Lib.hid ((Q3.out.drewN _).pchg ((hbS3 _).mm i hi2) (by decide) (by decide) hc4)
            have K4 := Lib.hid ((K3.out.drewN _).pchg ((hbS3 _).mm i hi2) (by decide) (by decide) hc4)
            have F4 := Lib.hid (F3.out.maker (i := i) (show q < _ from hqlt) hf4)
            have O4 := Lib.hid (hc4.ob (show OB _ w1.heap.size (.slice (some ⟨q, 0, none⟩) (m + 1) cq) (o.b ++ [81]) from O3.out) (fun k' hk' hs => by
              have hq' : q = k' := Option.some.inj hk'
              subst hq'
              rcases hs with hs | hs
              · exact (F3.out i hi2).1 hs.symm
              · exact (F3.out i hi2).2.2.1 hs))
            have hqlt4 : q < w4.heap.size := by have := (O4.out.lt q rfl).2; omega
            have RW4 := Lib.hid (RB0.out.keep S4.out.below)
            have hsepx : 0 < m → ∀ ad, Bo = some ad → (x i).ownBlock ≠ some ad.block := fun hm ad e hs => by
              obtain ⟨b', off', e', hlt', _⟩ := RB0.out.2 hm
              rw [e] at e'
              obtain rfl := Option.some.inj e'
              have := S1.out.hx i hi2 _ hs
              simp at this; omega
            have HSX := Lib.hid hsepx
            clear hbS3 hm4 hc4 hf4 hsepx cm c0 CF hqlt
            have cr := arr2 Q4.out hi2
            have c0 : w4.cell? ⟨po, 0, none⟩ = some (.slice Bo m c) := K4.out.cell 0
            have hbd := HBD.out i hi2
            have CF := Lib.hid (fun j => refFeed_any (r i) (x i) (M i) (lg i) (u i) Bo m c o.b (w4.drewN j) ((S4.out.drewN j).rm i hi2) (RW4.out.drewN j) HSX.out hmc (HMO.out i hi2) (by omega) (by omega))
            clear hbd
            go_upto_region 27 with fail
            go_region_held3 (fun w' => w'.cell? ⟨pm + 1, i, none⟩ = some (.pointer (some ⟨r i, 0, none⟩)) ∧ w'.cell? ⟨po, 0, none⟩ = some (.slice Bo m c)) (first | go_keep | exact ⟨d3, d4⟩)
              (first | (go_at_call 12; refine (CF.out _).mono ?_; intro e w5 hpost; obtain ⟨rfl, x5, hm5, hc5, hf5⟩ := hpost; have d3 := arr2 (((Q4.out.drewN _).rchg ((S4.out.drewN _).rm i hi2) (by decide) (by decide) hc5)) hi2; have d4 := ((K4.out.drewN _).rchg ((S4.out.drewN _).rm i hi2) (by decide) (by decide) hc5).cell 0))
            have hbS4 := S4.out.drewN
            have S5 := Lib.hid ((hbS4 _).ref hi2 hm5 hc5 hf5)
            have P5 := Lib.hid ((P4.out.drewN _).rchg ((hbS4 _).rm i hi2) (by decide) (by decide) hc5)
            have Q5 := Lib.hid ((Q4.out.drewN _).rchg ((hbS4 _).rm i hi2) (by decide) (by decide) hc5)
            have K5 := Lib.hid ((K4.out.drewN _).rchg ((hbS4 _).rm i hi2) (by decide) (by decide) hc5)
            have F5 := Lib.hid (F4.out.ref (i := i) (show q < _ from hqlt4) hf5)
            have O5 := Lib.hid (hc5.ob (show OB _ w1.heap.size (.slice (some ⟨q, 0, none⟩) (m + 1) cq) (o.b ++ [81]) from O4.out) (fun k' hk' hs => by
              have hq' : q = k' := Option.some.inj hk'
              subst hq'
              rcases hs with hs | hs
              · exact (F4.out i hi2).2.1 hs.symm
              · exact (F4.out i hi2).2.2.2 hs))
            have RW5 := Lib.hid (RB0.out.keep S5.out.below)
            have RI5 : Hid (RB w5 (some ⟨q, 0, none⟩) m o.b) := Lib.hid (by
              have := O5.out.rb.take (k := m) (by omega)
              rwa [List.take_left' RB0.out.1] at this)
            have hbdn : ∀ j, j < 2 → (upd u i (feedU (u i) o.b) j).length ≤ bdK (k + 1) ∧ upd lg i (feedL (M i) (lg i) (u i) o.b) j ≤ bdK (k + 1) := fun j hj => by
              have hk1 := bdK_succ k
              have hb1 := HBD.out j hj
              by_cases e : j = i
              · subst e; rw [upd_same, upd_same]
                have h1 : (feedU (u j) o.b).length ≤ (u j).length + o.b.length := by unfold feedU; split; simp; simp
                have h2 : feedL (M j) (lg j) (u j) o.b ≤ lg j + 1 := by unfold feedL; split <;> omega
                have h3 := RB0.out.1
                exact ⟨by omega, by omega⟩
              · rw [upd_ne _ _ e, upd_ne _ _ e]; exact ⟨by omega, by omega⟩
            have HBN := Lib.hid hbdn
            have hqw2 : w.heap.size ≤ q := by have := S1.out.below.size; omega
            clear hbS4 hm5 hc5 hf5 hbdn cr c0 CF hqlt4 d3 d4
            generalize strOf (feedS (M i) (u i) o.b) = ss
            generalize feedN o.b = fn
            generalize feedW (M i) (u i) o.b = fw
            obtain ⟨st, hst⟩ : ∃ st, st = strOf o.b := ⟨_, rfl⟩
            have hcv1 : ∀ j, (convert 34 9 (.slice (some ⟨q, 0, none⟩) m cq)).run Try.prog (w5.drewN j) = .ok (.string st) (w5.drewN j) := fun j => by rw [hst]; exact conv_bytes _ _ _ _ _ (RI5.out.drewN j)
            have hcv2 : ∀ j, (convert 34 9 (.slice Bo m c)).run Try.prog (w5.drewN j) = .ok (.string st) (w5.drewN j) := fun j => by rw [hst]; exact conv_bytes _ _ _ _ _ (RW5.out.drewN j)
            have c0 : w5.cell? ⟨po, 0, none⟩ = some (.slice Bo m c) := K5.out.cell 0
            have cq1 : w5.cell? ⟨q, m, none⟩ = some (.int .u8 81) := by
              have := O5.out.cellAt (j := m) (c := 81) (by rw [List.getElem?_append_right (by have := RB0.out.1; omega), RB0.out.1, Nat.sub_self]; rfl)
              exact this
            clear hst
            go_upto_region 28 with fail
            go_quiet (fail)
            clear hcv1 hcv2 cq1 c0
            go_wp2_with fail
            have hmm : m + 1 ≤ 1048577 := by omega
            go_loopw [155] (fun iv W => ∃ j : Nat, j ≤ m + 1 ∧ iv = .int .i64 (j : Int) ∧ ∃ lst : List UInt8, Hid (lst.length = m + 1) ∧ OB W w1.heap.size (.slice (some ⟨q, 0, none⟩) (m + 1) cq) lst ∧ Chg (fun k => k = q) w5 W) (fun iv _ => m + 1 - (intOf iv).toNat)
            case atStart => exact ⟨0, Nat.zero_le _, rfl, o.b ++ [81], HL3, O5.out, (Chg.refl _ _).drewN _⟩
            case round =>
              obtain ⟨j, hj, rfl, lst, HLS, hol, hcl⟩ := hrel
              have OL := Lib.hid hol; have CL := Lib.hid hcl
              clear hol hcl
              by_cases hltj : j < m + 1
              · have hlj : j < lst.length := by have := HLS.out; omega
                have cc := OL.out.cellAt (List.getElem?_eq_getElem hlj)
                have fc := OL.out.frozenAt j
                obtain ⟨old, hold⟩ : ∃ old, old = ((lst[j]).toNat : Int) := ⟨_, rfl⟩
                rw [← hold] at cc
                have ON := Lib.hid (show OB (wr.setCell ⟨q, j, none⟩ (.int .u8 120)) w1.heap.size (.slice (some ⟨q, 0, none⟩) (m + 1) cq) (lst.set j 120) from (OL.out.stored j 120).1)
                have CN := Lib.hid (CL.out.setCell (p := ⟨q, j, none⟩) (.inl rfl) (.int .u8 120))
                clear hold hlj
                go_wp2_with fail
                go_roundw
                case rel => exact ⟨j + 1, by omega, by go_num, lst.set j 120, Lib.hid (by rw [List.length_set]; exact HLS.out), ON.out, CN.out⟩
                case measure => simp [intOf]; omega
              · obtain rfl : j = m + 1 := by omega
                have S6 := Lib.hid (S5.out.set F5.out hqw2 (fun _ h => h) CL.out)
                have P6 := Lib.hid (P5.out.chg CL.out (fun (e : pm = q) => P5.out.apart O5.out (by decide) (by show some q = some pm; rw [e])))
                have Q6 := Lib.hid (Q5.out.chg CL.out (fun (e : pm + 1 = q) => Q5.out.apart O5.out (by decide) (by show some q = some (pm + 1); rw [e])))
                go_wp2_with fail
                go_meet
                exact ⟨rfl, _, _, _, _, S6.out, P6.out, Q6.out, HBN.out⟩
        case rest =>
          obtain ⟨rfl, v', x', u', l', hst', hpm', hpr', hbd'⟩ := hcut
          have S6 := Lib.hid hst'; have P6 := Lib.hid hpm'; have Q6 := Lib.hid hpr'; have B6 := Lib.hid hbd'
          clear hst' hpm' hpr' hbd' S1 P1 Q1 O1 HBD
          obtain ⟨w6, hw6⟩ : ∃ w6, w6 = wc := ⟨_, rfl⟩
          rw [← hw6] at S6 P6 Q6 ⊢
          clear hw6 wc
          go_wp2_with fail
          go_loopw [162] (fun iv W => ∃ j : Nat, j ≤ 2 ∧ iv = .int .i64 (j : Int) ∧ ∃ a, W = w6.drewN a) (fun iv _ => 2 - (intOf iv).toNat)
          case atStart => exact ⟨0, by omega, rfl, 0, rfl⟩
          case round =>
            obtain ⟨j, hj, rfl, a, rfl⟩ := hrel
            by_cases hltj : j < 2
            · obtain ⟨w7, hw7⟩ : ∃ w7, w7 = w6.drewN a := ⟨_, rfl⟩
              have S7 : Hid (Pairs w w7 g r v' x' M u' l' u' l') := Lib.hid (by rw [hw7]; exact S6.out.drewN a)
              have cm : w7.cell? ⟨pm, j, none⟩ = some (.pointer (some ⟨g j, 0, none⟩)) := by rw [hw7]; exact arr2 P6.out hltj
              have cr : w7.cell? ⟨pm + 1, j, none⟩ = some (.pointer (some ⟨r j, 0, none⟩)) := by rw [hw7]; exact arr2 Q6.out hltj
              rw [← hw7]
              have HW7 := Lib.hid hw7; clear hw7
              have H1 := Lib.hid (fun b => held_any (g j) (v' j) (M j) (l' j) (u' j) (w7.drewN b) ((S7.out.drewN b).mm j hltj))
              have H2 := Lib.hid (fun b => rheld_any (r j) (x' j) (M j) (l' j) (u' j) (w7.drewN b) ((S7.out.drewN b).rm j hltj))
              have H3 := Lib.hid (fun b => begun_any (g j) (v' j) (M j) (l' j) (u' j) (w7.drewN b) ((S7.out.drewN b).mm j hltj))
              have H4 := Lib.hid (fun b => rbegun_any (r j) (x' j) (M j) (l' j) (u' j) (w7.drewN b) ((S7.out.drewN b).rm j hltj))
              have H5 := Lib.hid (fun b => long_any (g j) (v' j) (M j) (l' j) (u' j) (w7.drewN b) ((S7.out.drewN b).mm j hltj))
              have H6 := Lib.hid (fun b => rlong_any (r j) (x' j) (M j) (l' j) (u' j) (w7.drewN b) ((S7.out.drewN b).rm j hltj))
              clear S7
              generalize (heldOf (M j) (u' j)).length = hd at H1 H2
              generalize (u' j).length = ul at H3 H4
              go_upto_region 38 with fail
              go_quiet ((first | (with_reducible exact quiet (H1.out _)) | (with_reducible exact quiet2 (H2.out _)) | (with_reducible exact quiet (H3.out _)) | (with_reducible exact quiet (H4.out _)) | (with_reducible exact quiet (H5.out _)) | (with_reducible exact quiet (H6.out _))))
              go_wp2_with fail
              go_roundw
              case rel => exact ⟨j + 1, by omega, by go_num, a + nq, by rw [HW7.out]; simp⟩
              case measure => simp [intOf]; omega
            · obtain rfl : j = 2 := by omega
              go_wp2_with fail
              go_roundw
              case rel => exact ⟨k + 1, by omega, by go_num, v', x', u', l', S6.out.drewN a, P6.out.drewN a, Q6.out.drewN a, B6.out⟩
              case measure => simp [intOf]; omega
    · obtain rfl : k = N := by omega
      go_wp2_with fail
      go_ret
      exact ⟨rfl, HST.out.below⟩
end Go.Proofs.Ytjldbpnphilkaaa
