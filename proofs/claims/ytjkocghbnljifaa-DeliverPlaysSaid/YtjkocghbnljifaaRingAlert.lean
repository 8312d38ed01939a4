/- THE WALKS of package ring, of alerts (begun). -/
import Derived.Test.YtjkocghbnljifaaFlat
import Derived.Laws.MakeOwn
import Derived.Laws.OwnMore
import Derived.Deep.QuietTactic
import Derived.BigQuiet
import Derived.Deep.RegionHeld3
import Derived.Deep.DeepCutAuto
namespace Go.Proofs.Ytjkocghbnljifaa
open Go.RowKit
structure Th where
  p : Int
  m0 : Int
  m1 : Int
  m2 : Int
  m3 : Int
  m4 : Int
  m5 : Int
  m6 : Int
  m7 : Int
  m8 : Int
  t : ByteArray
  r : Int
def Th.cells (x : Th) : Array Value := #[.int .i64 x.p, .int .i64 x.m0, .int .i64 x.m1, .int .i64 x.m2, .int .i64 x.m3, .int .i64 x.m4, .int .i64 x.m5, .int .i64 x.m6, .int .i64 x.m7, .int .i64 x.m8, .string x.t, .int .u32 x.r]
def th0 : Th := ⟨0, 0, 0, 0, 0, 0, 0, 0, 0, 0, ByteArray.empty, 0⟩
theorem th_size (x : Th) : x.cells.size = 12 := rfl
theorem infoT : (Try.prog.info? 44).map (fun i => (i.zero, i.size)) = some (some (.agg #[.int .i64 0, .int .i64 0, .int .i64 0, .int .i64 0, .int .i64 0, .int .i64 0, .int .i64 0, .int .i64 0, .int .i64 0, .int .i64 0, .string ByteArray.empty, .int .u32 0]), 12) := by kernel_rfl
theorem infoTb : (Try.prog.info? 44).map (fun i => i.bytes) = some 104 := by kernel_rfl
theorem run_make_ths (n : Nat) (hn : n ≤ 1048576) (W : World) :
    (Instr.makeSlice 48 (.int .i64 (n : Int)) (.int .i64 (n : Int))).run Try.prog W = .ok (.slice (some ⟨W.heap.size, 0, none⟩) n n) (W.alloc (.cells (flatE Th.cells (List.replicate n th0)).toArray 44)) := by
  obtain ⟨i0, hi, hz⟩ := Option.map_eq_some_iff.1 infoT
  simp only [Prod.mk.injEq] at hz
  obtain ⟨hz0, hz1⟩ := hz
  obtain ⟨i1, hi1, hz2⟩ := Option.map_eq_some_iff.1 infoTb
  rw [hi] at hi1
  obtain rfl := Option.some.inj hi1
  have := run_make W 48 44 i0 _ Try.underlying48 hi hz0 .i64 .i64 (n : Int) (n : Int) (by omega) (by omega) (by rw [hz2]; omega) (by omega)
  rw [hz1, Int.toNat_natCast] at this
  have e : (madeCells (Value.agg #[.int .i64 0, .int .i64 0, .int .i64 0, .int .i64 0, .int .i64 0, .int .i64 0, .int .i64 0, .int .i64 0, .int .i64 0, .int .i64 0, .string ByteArray.empty, .int .u32 0]).cells (n * 12)) = (flatE Th.cells (List.replicate n th0)).toArray := by
    refine Array.ext' (List.ext_getElem? fun i => ?_)
    rw [Array.getElem?_toList]
    show _ = (flatE Th.cells (List.replicate n th0))[i]?
    by_cases hin : i < n * 12
    · have hj : (List.replicate n th0)[i / 12]? = some th0 := by rw [List.getElem?_replicate, if_pos (by omega)]
      have hsz : (madeCells (Value.agg #[.int .i64 0, .int .i64 0, .int .i64 0, .int .i64 0, .int .i64 0, .int .i64 0, .int .i64 0, .int .i64 0, .int .i64 0, .int .i64 0, .string ByteArray.empty, .int .u32 0]).cells (n * 12)).size = n * 12 := size_madeCells _ _
      have e1 : (madeCells (Value.agg #[.int .i64 0, .int .i64 0, .int .i64 0, .int .i64 0, .int .i64 0, .int .i64 0, .int .i64 0, .int .i64 0, .int .i64 0, .int .i64 0, .string ByteArray.empty, .int .u32 0]).cells (n * 12))[i]? = some ((#[Value.int .i64 0, .int .i64 0, .int .i64 0, .int .i64 0, .int .i64 0, .int .i64 0, .int .i64 0, .int .i64 0, .int .i64 0, .int .i64 0, .string ByteArray.empty, .int .u32 0] : Array Value)[i % 12]!) := by
        rw [Array.getElem?_eq_getElem (by omega)]
        simp [madeCells, Value.cells]
      rw [e1]
      obtain ⟨r, hr⟩ : ∃ r, r = i % 12 := ⟨_, rfl⟩
      rw [← hr]
      have hrl : r < 12 := by omega
      have hir : i / 12 * 12 + r = i := by omega
      clear hr e1 hsz
      match r, hrl, hir with
      | 0, _, hir =>
        have := flatE_at th_size (List.replicate n th0) hj (i := 0) rfl
        rw [hir] at this
        rw [this]; rfl
      | 1, _, hir =>
        have := flatE_at th_size (List.replicate n th0) hj (i := 1) rfl
        rw [hir] at this
        rw [this]; rfl
      | 2, _, hir =>
        have := flatE_at th_size (List.replicate n th0) hj (i := 2) rfl
        rw [hir] at this
        rw [this]; rfl
      | 3, _, hir =>
        have := flatE_at th_size (List.replicate n th0) hj (i := 3) rfl
        rw [hir] at this
        rw [this]; rfl
      | 4, _, hir =>
        have := flatE_at th_size (List.replicate n th0) hj (i := 4) rfl
        rw [hir] at this
        rw [this]; rfl
      | 5, _, hir =>
        have := flatE_at th_size (List.replicate n th0) hj (i := 5) rfl
        rw [hir] at this
        rw [this]; rfl
      | 6, _, hir =>
        have := flatE_at th_size (List.replicate n th0) hj (i := 6) rfl
        rw [hir] at this
        rw [this]; rfl
      | 7, _, hir =>
        have := flatE_at th_size (List.replicate n th0) hj (i := 7) rfl
        rw [hir] at this
        rw [this]; rfl
      | 8, _, hir =>
        have := flatE_at th_size (List.replicate n th0) hj (i := 8) rfl
        rw [hir] at this
        rw [this]; rfl
      | 9, _, hir =>
        have := flatE_at th_size (List.replicate n th0) hj (i := 9) rfl
        rw [hir] at this
        rw [this]; rfl
      | 10, _, hir =>
        have := flatE_at th_size (List.replicate n th0) hj (i := 10) rfl
        rw [hir] at this
        rw [this]; rfl
      | 11, _, hir =>
        have := flatE_at th_size (List.replicate n th0) hj (i := 11) rfl
        rw [hir] at this
        rw [this]; rfl
    · rw [Array.getElem?_eq_none (by rw [size_madeCells]; omega), List.getElem?_eq_none (by rw [flatE_length th_size, List.length_replicate]; omega)]
  rwa [e] at this
/-- a ring at block g, its places at block p: n places, the first at f, holding q -/
structure RT (w : World) (g p n f : Nat) (xs q : List Th) : Prop where
  blk : Blk w g 73 #[.slice (some ⟨p, 0, none⟩) n n, .int .i64 (f : Int), .int .i64 (q.length : Int)]
  arr : Blk w p 44 (flatE Th.cells xs).toArray
  len : xs.length = n
  hf : f < n
  hq : q.length ≤ n
  hn : n ≤ 64
  at_ : ∀ k x, q[k]? = some x → xs[(f + k) % n]? = some x
theorem RT.ne {w : World} {g p n f : Nat} {xs q : List Th} (h : RT w g p n f xs q) : p ≠ g := by
  intro e
  have h1 := h.blk; have h2 := h.arr
  rw [e] at h2
  unfold Blk at h1 h2
  rw [h1] at h2
  injection h2 with h2
  injection h2 with _ ht
  exact absurd ht (by decide)
theorem RT.chg {S : Nat → Prop} {w w' : World} {g p n f : Nat} {xs q : List Th} (h : RT w g p n f xs q) (hc : Chg S w w') (hg : ¬ S g) (hp : ¬ S p) : RT w' g p n f xs q :=
  ⟨h.blk.chg hc hg, h.arr.chg hc hp, h.len, h.hf, h.hq, h.hn, h.at_⟩
theorem RT.keep {w w' : World} {g p n f : Nat} {xs q : List Th} (h : RT w g p n f xs q) (hb : Below w.heap.size w w') : RT w' g p n f xs q :=
  ⟨h.blk.keep hb, h.arr.keep hb, h.len, h.hf, h.hq, h.hn, h.at_⟩
theorem RT.cell0 {w : World} {g p n f : Nat} {xs q : List Th} (h : RT w g p n f xs q) {j : Nat} {x : Th} (hj : xs[j]? = some x) : w.cell? ⟨p, j * 12, none⟩ = some (.int .i64 x.p) := by
  rw [h.arr.cell, List.getElem?_toArray]
  exact flatE_at th_size xs hj (i := 0) rfl
theorem RT.cell1 {w : World} {g p n f : Nat} {xs q : List Th} (h : RT w g p n f xs q) {j : Nat} {x : Th} (hj : xs[j]? = some x) : w.cell? ⟨p, j * 12 + 1, none⟩ = some (.int .i64 x.m0) := by
  rw [h.arr.cell, List.getElem?_toArray]
  exact flatE_at th_size xs hj (i := 1) rfl
theorem RT.cell2 {w : World} {g p n f : Nat} {xs q : List Th} (h : RT w g p n f xs q) {j : Nat} {x : Th} (hj : xs[j]? = some x) : w.cell? ⟨p, j * 12 + 2, none⟩ = some (.int .i64 x.m1) := by
  rw [h.arr.cell, List.getElem?_toArray]
  exact flatE_at th_size xs hj (i := 2) rfl
theorem RT.cell3 {w : World} {g p n f : Nat} {xs q : List Th} (h : RT w g p n f xs q) {j : Nat} {x : Th} (hj : xs[j]? = some x) : w.cell? ⟨p, j * 12 + 3, none⟩ = some (.int .i64 x.m2) := by
  rw [h.arr.cell, List.getElem?_toArray]
  exact flatE_at th_size xs hj (i := 3) rfl
theorem RT.cell4 {w : World} {g p n f : Nat} {xs q : List Th} (h : RT w g p n f xs q) {j : Nat} {x : Th} (hj : xs[j]? = some x) : w.cell? ⟨p, j * 12 + 4, none⟩ = some (.int .i64 x.m3) := by
  rw [h.arr.cell, List.getElem?_toArray]
  exact flatE_at th_size xs hj (i := 4) rfl
theorem RT.cell5 {w : World} {g p n f : Nat} {xs q : List Th} (h : RT w g p n f xs q) {j : Nat} {x : Th} (hj : xs[j]? = some x) : w.cell? ⟨p, j * 12 + 5, none⟩ = some (.int .i64 x.m4) := by
  rw [h.arr.cell, List.getElem?_toArray]
  exact flatE_at th_size xs hj (i := 5) rfl
theorem RT.cell6 {w : World} {g p n f : Nat} {xs q : List Th} (h : RT w g p n f xs q) {j : Nat} {x : Th} (hj : xs[j]? = some x) : w.cell? ⟨p, j * 12 + 6, none⟩ = some (.int .i64 x.m5) := by
  rw [h.arr.cell, List.getElem?_toArray]
  exact flatE_at th_size xs hj (i := 6) rfl
theorem RT.cell7 {w : World} {g p n f : Nat} {xs q : List Th} (h : RT w g p n f xs q) {j : Nat} {x : Th} (hj : xs[j]? = some x) : w.cell? ⟨p, j * 12 + 7, none⟩ = some (.int .i64 x.m6) := by
  rw [h.arr.cell, List.getElem?_toArray]
  exact flatE_at th_size xs hj (i := 7) rfl
theorem RT.cell8 {w : World} {g p n f : Nat} {xs q : List Th} (h : RT w g p n f xs q) {j : Nat} {x : Th} (hj : xs[j]? = some x) : w.cell? ⟨p, j * 12 + 8, none⟩ = some (.int .i64 x.m7) := by
  rw [h.arr.cell, List.getElem?_toArray]
  exact flatE_at th_size xs hj (i := 8) rfl
theorem RT.cell9 {w : World} {g p n f : Nat} {xs q : List Th} (h : RT w g p n f xs q) {j : Nat} {x : Th} (hj : xs[j]? = some x) : w.cell? ⟨p, j * 12 + 9, none⟩ = some (.int .i64 x.m8) := by
  rw [h.arr.cell, List.getElem?_toArray]
  exact flatE_at th_size xs hj (i := 9) rfl
theorem RT.cell10 {w : World} {g p n f : Nat} {xs q : List Th} (h : RT w g p n f xs q) {j : Nat} {x : Th} (hj : xs[j]? = some x) : w.cell? ⟨p, j * 12 + 10, none⟩ = some (.string x.t) := by
  rw [h.arr.cell, List.getElem?_toArray]
  exact flatE_at th_size xs hj (i := 10) rfl
theorem RT.cell11 {w : World} {g p n f : Nat} {xs q : List Th} (h : RT w g p n f xs q) {j : Nat} {x : Th} (hj : xs[j]? = some x) : w.cell? ⟨p, j * 12 + 11, none⟩ = some (.int .u32 x.r) := by
  rw [h.arr.cell, List.getElem?_toArray]
  exact flatE_at th_size xs hj (i := 11) rfl
def NewT (n : Nat) (w : World) (e : Ending) (w' : World) : Prop :=
  ∃ g p xs, e = .returned (.tuple #[.pointer (some ⟨g, 0, none⟩), .int .i64 0]) ∧ w.heap.size ≤ g ∧ w.heap.size ≤ p ∧ RT w' g p n 0 xs [] ∧ Below w.heap.size w w'
theorem newT_ok (n : Nat) (w : World) (h1 : 1 ≤ n) (h64 : n ≤ 64) : Calls Try.prog 21 #[.int .i64 (n : Int)] w (NewT n w) := by
  have hmk := run_make_ths n (by omega)
  have hP : NewT n w (.returned (.tuple #[.pointer (some ⟨w.heap.size + 1, 0, none⟩), .int .i64 0])) ((w.alloc (.cells (flatE Th.cells (List.replicate n th0)).toArray 44)).alloc (.cells #[.slice (some ⟨w.heap.size, 0, none⟩) n n, .int .i64 0, .int .i64 0] 73)) := by
    refine ⟨w.heap.size + 1, w.heap.size, List.replicate n th0, rfl, by omega, Nat.le_refl _, ⟨?_, ?_, by simp, by omega, by simp, h64, fun k x h => by simp at h⟩, ((Below.refl _ _).alloc (Nat.le_refl _) _).alloc (by simp) _⟩
    · exact Blk.new _ _ _ (by simp)
    · exact (Blk.new w _ _ rfl).alloc _
  have HP := Lib.hid hP; clear hP
  go_enter Try.func21, Try.ntmps21
  go_wp2
  go_ret2
  exact HP.out
theorem atT_any (g p n f k j : Nat) (w : World) (c0 : w.cell? ⟨g, 0, none⟩ = some (.slice (some ⟨p, 0, none⟩) n n)) (c1 : w.cell? ⟨g, 1, none⟩ = some (.int .i64 (f : Int))) (hn : 0 < n) (hf : f ≤ 64) (hk : k ≤ 64) (hj : j = (f + k) % n) :
    Calls Try.prog 33 #[.pointer (some ⟨g, 0, none⟩), .int .i64 (k : Int)] w fun e w' => e = .returned (.int .i64 (j : Int)) ∧ ∃ m, w' = w.drewN m := by
  have q1 : IntKind.i64.wrap ((f : Int) + (k : Int)) = (f : Int) + (k : Int) := IntWalk.i64_in _ (by omega)
  have q2 : (0 : Int) ≤ (f : Int) + (k : Int) := by omega
  have q3 : (f : Int) + (k : Int) ≤ 128 := by omega
  have hjI : (j : Int) = ((f : Int) + (k : Int)) % (n : Int) := by rw [hj]; simp
  have HJ := Lib.hid hjI; clear hjI hj
  go_enter Try.func33, Try.ntmps33
  go_wp2_with fail
  go_quiet (fail)
  go_wp2_with fail
  go_ret
  exact ⟨by rw [HJ.out]; rfl, nq, rfl⟩
theorem fullT_any (g p n f : Nat) (xs q : List Th) (w : World) (h : RT w g p n f xs q) :
    Calls Try.prog 10 #[.pointer (some ⟨g, 0, none⟩)] w fun e w' => e = .returned (.bool (decide (q.length = n))) ∧ ∃ m, w' = w.drewN m := by
  have c0 : w.cell? ⟨g, 0, none⟩ = some (.slice (some ⟨p, 0, none⟩) n n) := h.blk.cell 0
  have c2 : w.cell? ⟨g, 2, none⟩ = some (.int .i64 (q.length : Int)) := h.blk.cell 2
  generalize q.length = m at *
  have t1 : ((m : Int) == (n : Int)) = decide (m = n) := by
    by_cases e : m = n
    · subst e; simp
    · rw [decide_eq_false e, beq_eq_false_iff_ne]; omega
  obtain ⟨bv, hbv⟩ : ∃ bv, bv = decide (m = n) := ⟨_, rfl⟩
  rw [← hbv] at t1 ⊢
  clear h hbv
  go_enter Try.func10, Try.ntmps10
  go_wp2_with fail
  go_quiet (fail)
  go_wp2_with fail
  go_ret
  exact ⟨rfl, nq, rfl⟩
def ringF (g p : Nat) : Nat → Prop := fun k => k = g ∨ k = p
theorem mod_ne {f k m n : Nat} (hk : k < m) (hm : m < n) (_hf : f < n) : (f + k) % n ≠ (f + m) % n := by
  intro h
  have h1 : (f + m) = (f + k) + (m - k) := by omega
  rw [h1, Nat.add_mod (f + k)] at h
  have h2 : (m - k) % n = m - k := Nat.mod_eq_of_lt (by omega)
  rw [h2] at h
  have h3 : (f + k) % n < n := Nat.mod_lt _ (by omega)
  generalize (f + k) % n = a at *
  by_cases hlt : a + (m - k) < n
  · rw [Nat.mod_eq_of_lt hlt] at h; omega
  · rw [Nat.mod_eq_sub_mod (by omega), Nat.mod_eq_of_lt (by omega)] at h; omega
def PushT (g p n f : Nat) (q : List Th) (w : World) (e : Ending) (w' : World) : Prop :=
  e = .returned (.int .i64 0) ∧ ∃ xs', RT w' g p n f xs' q ∧ Chg (ringF g p) w w'
theorem pushT_full (g p n f : Nat) (xs q : List Th) (x : Th) (w : World) (h : RT w g p n f xs q) (hq : q.length = n) :
    Calls Try.prog 26 #[.pointer (some ⟨g, 0, none⟩), .agg x.cells] w fun e w' => e = .returned (.int .i64 180) ∧ Below w.heap.size w w' := by
  have HR := Lib.hid (h.keep ((Below.refl _ _).alloc (Nat.le_refl _) (.cells x.cells 44)))
  have HB : Hid (∀ m, Below w.heap.size w ((w.alloc (.cells x.cells 44)).drewN m)) := Lib.hid (fun m => below_drewN ((Below.refl _ _).alloc (Nat.le_refl _) _) m)
  have hd : decide (q.length = n) = true := decide_eq_true hq
  have HD := Lib.hid hd
  unfold Th.cells at *
  clear h hq hd
  go_enter Try.func26, Try.ntmps26
  go_wp2_with fail
  refine (fullT_any g p n f xs q _ HR.out).mono ?_
  rintro e w' ⟨rfl, m, rfl⟩
  rw [HD.out]
  go_wp2_with fail
  go_ret
  exact ⟨rfl, HB.out m⟩
end Go.Proofs.Ytjkocghbnljifaa
