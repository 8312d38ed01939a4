/- THE WALKS of package ring, of numbers: a ring behind its pointer is a list. -/
import Derived.Test.YtckhmdeeddjkhaaFrame
import Derived.Laws.MakeOwn
import Derived.Laws.OwnMore
import Derived.Deep.QuietTactic
import Derived.BigQuiet
import Derived.Deep.RegionHeld3
import Derived.Deep.DeepCutAuto
namespace Go.Proofs.Ytckhmdeeddjkhaa
open Go.RowKit
theorem infoI : (Try.prog.info? 3).map (fun i => (i.zero, i.size, i.bytes)) = some (some (.int .i64 0), 1, 8) := by kernel_rfl
def intV (x : Int) : Value := .int .i64 x
theorem run_make_ints (n : Nat) (hn : n ≤ 1048576) (W : World) :
    (Instr.makeSlice 25 (.int .i64 (n : Int)) (.int .i64 (n : Int))).run Try.prog W = .ok (.slice (some ⟨W.heap.size, 0, none⟩) n n) (W.alloc (.cells (madeCells #[.int .i64 0] n) 3)) := by
  obtain ⟨i0, hi, hz0, hz1, hz2⟩ := info_parts infoI
  have := run_make W 25 3 i0 (.int .i64 0) Try.underlying25 hi hz0 .i64 .i64 (n : Int) (n : Int) (by omega) (by omega) (by rw [hz2]; omega) (by omega)
  rw [hz1] at this
  have e : (Value.int .i64 0).cells = #[.int .i64 0] := rfl
  rw [e] at this
  simpa using this
/-- a ring at block g, its places at block p: n places, the first at f, holding q -/
structure RG (w : World) (g p n f : Nat) (xs q : List Int) : Prop where
  blk : Blk w g 60 #[.slice (some ⟨p, 0, none⟩) n n, .int .i64 (f : Int), .int .i64 (q.length : Int)]
  arr : Blk w p 3 (xs.map intV).toArray
  len : xs.length = n
  hf : f < n
  hq : q.length ≤ n
  hn : n ≤ 64
  at_ : ∀ k x, q[k]? = some x → xs[(f + k) % n]? = some x
theorem RG.ne {w : World} {g p n f : Nat} {xs q : List Int} (h : RG w g p n f xs q) : p ≠ g := by
  intro e
  have h1 := h.blk; have h2 := h.arr
  rw [e] at h2
  unfold Blk at h1 h2
  rw [h1] at h2
  injection h2 with h2
  injection h2 with _ ht
  exact absurd ht (by decide)
theorem RG.chg {S : Nat → Prop} {w w' : World} {g p n f : Nat} {xs q : List Int} (h : RG w g p n f xs q) (hc : Chg S w w') (hg : ¬ S g) (hp : ¬ S p) : RG w' g p n f xs q :=
  ⟨h.blk.chg hc hg, h.arr.chg hc hp, h.len, h.hf, h.hq, h.hn, h.at_⟩
theorem RG.drewN {w : World} {g p n f : Nat} {xs q : List Int} (h : RG w g p n f xs q) (m : Nat) : RG (w.drewN m) g p n f xs q := ⟨h.blk, h.arr, h.len, h.hf, h.hq, h.hn, h.at_⟩
theorem RG.cell {w : World} {g p n f : Nat} {xs q : List Int} (h : RG w g p n f xs q) {j : Nat} {x : Int} (hj : xs[j]? = some x) : w.cell? ⟨p, j, none⟩ = some (.int .i64 x) := by
  rw [h.arr.cell j]
  simp [hj, intV]
def NewPost (n : Nat) (w : World) (e : Ending) (w' : World) : Prop :=
  ∃ g p xs, e = .returned (.tuple #[.pointer (some ⟨g, 0, none⟩), .int .i64 0]) ∧ w.heap.size ≤ g ∧ w.heap.size ≤ p ∧ RG w' g p n 0 xs [] ∧ Below w.heap.size w w'
theorem new_ok (n : Nat) (w : World) (h1 : 1 ≤ n) (h64 : n ≤ 64) : Calls Try.prog 6 #[.int .i64 (n : Int)] w (NewPost n w) := by
  have hmk := run_make_ints n (by omega)
  have hP : NewPost n w (.returned (.tuple #[.pointer (some ⟨w.heap.size + 1, 0, none⟩), .int .i64 0])) ((w.alloc (.cells (madeCells #[.int .i64 0] n) 3)).alloc (.cells #[.slice (some ⟨w.heap.size, 0, none⟩) n n, .int .i64 0, .int .i64 0] 60)) := by
    refine ⟨w.heap.size + 1, w.heap.size, List.replicate n 0, rfl, by omega, Nat.le_refl _, ⟨?_, ?_, by simp, by omega, by simp, h64, fun k x h => by simp at h⟩, ((Below.refl _ _).alloc (Nat.le_refl _) _).alloc (by simp) _⟩
    · exact Blk.new _ _ _ (by simp)
    · have e : (madeCells #[.int .i64 0] n) = ((List.replicate n (0 : Int)).map intV).toArray := by
        rw [List.map_replicate, ← toList_madeCells_one]; simp [intV]
      rw [e]
      exact (Blk.new w _ _ rfl).alloc _
  have HP := Lib.hid hP; clear hP
  go_enter Try.func6, Try.ntmps6
  go_wp2
  go_ret2
  exact HP.out
theorem new_bad (n : Int) (w : World) (h : n < 1 ∨ 64 < n) : Calls Try.prog 6 #[.int .i64 n] w fun e w' => e = .returned (.tuple #[.pointer none, .int .i64 1]) ∧ w = w' := by
  rcases h with h | h
  all_goals
    go_enter Try.func6, Try.ntmps6
    go_wp2
    go_ret2
    exact ⟨rfl, rfl⟩
theorem at_any (g p n f k j : Nat) (w : World) (c0 : w.cell? ⟨g, 0, none⟩ = some (.slice (some ⟨p, 0, none⟩) n n)) (c1 : w.cell? ⟨g, 1, none⟩ = some (.int .i64 (f : Int))) (hn : 0 < n) (hf : f ≤ 64) (hk : k ≤ 64) (hj : j = (f + k) % n) :
    Calls Try.prog 31 #[.pointer (some ⟨g, 0, none⟩), .int .i64 (k : Int)] w fun e w' => e = .returned (.int .i64 (j : Int)) ∧ ∃ m, w' = w.drewN m := by
  have q1 : IntKind.i64.wrap ((f : Int) + (k : Int)) = (f : Int) + (k : Int) := IntWalk.i64_in _ (by omega)
  have q2 : (0 : Int) ≤ (f : Int) + (k : Int) := by omega
  have q3 : (f : Int) + (k : Int) ≤ 128 := by omega
  have hjI : (j : Int) = ((f : Int) + (k : Int)) % (n : Int) := by rw [hj]; simp
  have HJ := Lib.hid hjI; clear hjI hj
  go_enter Try.func31, Try.ntmps31
  go_wp2_with fail
  go_quiet (fail)
  go_wp2_with fail
  go_ret
  exact ⟨by rw [HJ.out]; rfl, nq, rfl⟩
theorem full_yes (g p n f : Nat) (xs q : List Int) (w : World) (h : RG w g p n f xs q) (hq : q.length = n) :
    Calls Try.prog 19 #[.pointer (some ⟨g, 0, none⟩)] w fun e w' => e = .returned (.bool true) ∧ ∃ m, w' = w.drewN m := by
  have c0 : w.cell? ⟨g, 0, none⟩ = some (.slice (some ⟨p, 0, none⟩) n n) := h.blk.cell 0
  have c2 : w.cell? ⟨g, 2, none⟩ = some (.int .i64 (q.length : Int)) := h.blk.cell 2
  have t1 : ((q.length : Int) == (n : Int)) = true := by rw [beq_iff_eq]; omega
  generalize q.length = m at *
  clear h
  have HQ := Lib.hid hq; clear hq
  go_enter Try.func19, Try.ntmps19
  go_wp2_with fail
  go_quiet (fail)
  go_wp2_with fail
  go_ret
  exact ⟨rfl, nq, rfl⟩
theorem full_no (g p n f : Nat) (xs q : List Int) (w : World) (h : RG w g p n f xs q) (hq : q.length < n) :
    Calls Try.prog 19 #[.pointer (some ⟨g, 0, none⟩)] w fun e w' => e = .returned (.bool false) ∧ ∃ m, w' = w.drewN m := by
  have c0 : w.cell? ⟨g, 0, none⟩ = some (.slice (some ⟨p, 0, none⟩) n n) := h.blk.cell 0
  have c2 : w.cell? ⟨g, 2, none⟩ = some (.int .i64 (q.length : Int)) := h.blk.cell 2
  have t1 : ((q.length : Int) == (n : Int)) = false := by rw [beq_eq_false_iff_ne]; omega
  generalize q.length = m at *
  clear h hq
  go_enter Try.func19, Try.ntmps19
  go_wp2_with fail
  go_quiet (fail)
  go_wp2_with fail
  go_ret
  exact ⟨rfl, nq, rfl⟩
theorem len_any (g p n f : Nat) (xs q : List Int) (w : World) (h : RG w g p n f xs q) :
    Calls Try.prog 21 #[.pointer (some ⟨g, 0, none⟩)] w fun e w' => e = .returned (.int .i64 (q.length : Int)) ∧ w = w' := by
  have c2 : w.cell? ⟨g, 2, none⟩ = some (.int .i64 (q.length : Int)) := h.blk.cell 2
  generalize q.length = m at *
  clear h
  go_enter Try.func21, Try.ntmps21
  go_wp2_with fail
  go_ret
  exact ⟨rfl, rfl⟩
def ringF (g p : Nat) : Nat → Prop := fun k => k = g ∨ k = p
def PushPost (g p n f : Nat) (q : List Int) (w : World) (e : Ending) (w' : World) : Prop :=
  e = .returned (.int .i64 0) ∧ ∃ xs', RG w' g p n f xs' q ∧ Chg (ringF g p) w w'
theorem push_full (g p n f : Nat) (xs q : List Int) (x : Int) (w : World) (h : RG w g p n f xs q) (hq : q.length = n) :
    Calls Try.prog 20 #[.pointer (some ⟨g, 0, none⟩), .int .i64 x] w fun e w' => e = .returned (.int .i64 180) ∧ ∃ m, w' = w.drewN m := by
  have HQ := Lib.hid hq; have HR := Lib.hid h
  clear h hq
  go_enter Try.func20, Try.ntmps20
  go_wp2_with fail
  refine (full_yes g p n f xs q _ HR.out HQ.out).mono ?_
  rintro e w' ⟨rfl, m, rfl⟩
  go_wp2_with fail
  go_ret
  exact ⟨rfl, m, rfl⟩
theorem mod_ne {f k m n : Nat} (hk : k < m) (hm : m < n) (_hf : f < n) : (f + k) % n ≠ (f + m) % n := by
  intro h
  have h1 : (f + m) = (f + k) + (m - k) := by omega
  rw [h1, Nat.add_mod (f + k)] at h
  have h2 : (m - k) % n = m - k := Nat.mod_eq_of_lt (by omega)
  rw [h2] at h
  have h3 : (f + k) % n < n := Nat.mod_lt _ (by omega)
  generalize (f + k) % n = a at *
  by_cases hlt : a + (m - k) < n
  · rw [Nat.mod_eq_of_lt hlt] at h; omega
  · rw [Nat.mod_eq_sub_mod (by omega), Nat.mod_eq_of_lt (by omega)] at h; omega
theorem push_ok (g p n f : Nat) (xs q : List Int) (x : Int) (w : World) (h : RG w g p n f xs q) (hq : q.length < n) :
    Calls Try.prog 20 #[.pointer (some ⟨g, 0, none⟩), .int .i64 x] w (PushPost g p n f (q ++ [x]) w) := by
  have hne := h.ne
  obtain ⟨j, hj⟩ : ∃ j, j = (f + q.length) % n := ⟨_, rfl⟩
  have hjn : j < n := by rw [hj]; exact Nat.mod_lt _ (by omega)
  have hfn := h.hf; have hn := h.hn
  have hpost : ∀ m : Nat, PushPost g p n f (q ++ [x]) w (.returned (.int .i64 0)) (((w.drewN m).setCell ⟨p, j, none⟩ (.int .i64 x)).setCell ⟨g, 2, none⟩ (.int .i64 ((q.length : Int) + 1))) := fun m => by
    refine ⟨rfl, xs.set j x, ⟨?_, ?_, by rw [List.length_set, h.len], hfn, by simp; omega, hn, fun k y hy => ?_⟩, ?_⟩
    · have := ((h.blk.drewN m).far (p := ⟨p, j, none⟩) (by exact fun e => hne e.symm) (.int .i64 x)).set_ 2 (.int .i64 ((q.length : Int) + 1))
      simpa using this
    · have := ((h.arr.drewN m).set_ j (.int .i64 x)).far (p := ⟨g, 2, none⟩) hne (.int .i64 ((q.length : Int) + 1))
      have e : (xs.map intV).toArray.setIfInBounds j (.int .i64 x) = ((xs.set j x).map intV).toArray := by
        rw [List.map_set]; simp [intV]
      rwa [e] at this
    · rw [List.getElem?_append] at hy
      split at hy
      · rename_i hk
        rw [List.getElem?_set_ne (by rw [hj]; exact (mod_ne hk hq hfn).symm)]
        exact h.at_ k y hy
      · rename_i hk
        have hk0 : k - q.length = 0 := by
          have := (List.getElem?_eq_some_iff.1 hy).1
          simp at this; omega
        obtain rfl : k = q.length := by omega
        simp at hy
        subst hy
        rw [← hj, List.getElem?_set_self (by rw [h.len]; exact hjn)]
    · exact (((Chg.refl _ w).drewN m).setCell (p := ⟨p, j, none⟩) (.inl (.inr rfl)) _).setCell (p := ⟨g, 2, none⟩) (.inl (.inl rfl)) _
  have HP := Lib.hid hpost; clear hpost
  have c0 : w.cell? ⟨g, 0, none⟩ = some (.slice (some ⟨p, 0, none⟩) n n) := h.blk.cell 0
  have c1 : w.cell? ⟨g, 1, none⟩ = some (.int .i64 (f : Int)) := h.blk.cell 1
  have c2 : w.cell? ⟨g, 2, none⟩ = some (.int .i64 (q.length : Int)) := h.blk.cell 2
  have f2 := h.blk.frozen 2
  have fp := h.arr.frozen j
  have HR := Lib.hid h
  have hxj : xs[j]? = some (xs[j]'(by rw [h.len]; exact hjn)) := List.getElem?_eq_getElem _
  have cp := h.cell hxj
  obtain ⟨old, hold⟩ : ∃ o, o = xs[j]'(by rw [h.len]; exact hjn) := ⟨_, rfl⟩
  rw [← hold] at cp
  have HQ := Lib.hid hq
  clear h hxj hold
  generalize hm : q.length = m at *
  have HM := Lib.hid hm
  have HJ := Lib.hid hj
  clear hm hj
  go_enter Try.func20, Try.ntmps20
  go_wp2_with fail
  refine (full_no g p n f xs q _ HR.out (by rw [HM.out]; exact HQ.out)).mono ?_
  rintro e w' ⟨rfl, m1, rfl⟩
  go_wp2_with fail
  go_region_held3 (fun w' => w'.cell? ⟨g, 0, none⟩ = some (.slice (some ⟨p, 0, none⟩) n n) ∧ w'.cell? ⟨g, 1, none⟩ = some (.int .i64 (f : Int)) ∧ w'.cell? ⟨g, 2, none⟩ = some (.int .i64 (m : Int))) (go_keep)
    (first | (go_at_call 31; refine (at_any g p n f m j _ (by go_keep) (by go_keep) (by omega) (by omega) (by omega) HJ.out).mono ?_; rintro e w' ⟨rfl, m2, rfl⟩))
  go_wp2_with fail
  go_ret
  exact HP.out _
def FrontVal : List Int → Value
  | [] => .tuple #[.int .i64 0, .bool false]
  | x :: _ => .tuple #[.int .i64 x, .bool true]
theorem front_nil (g p n f : Nat) (xs : List Int) (w : World) (h : RG w g p n f xs []) :
    Calls Try.prog 26 #[.pointer (some ⟨g, 0, none⟩)] w fun e w' => e = .returned (.tuple #[.int .i64 0, .bool false]) ∧ ∃ m, w' = w.drewN m := by
  have c2 : w.cell? ⟨g, 2, none⟩ = some (.int .i64 0) := h.blk.cell 2
  clear h
  go_enter Try.func26, Try.ntmps26
  go_wp2_with fail
  go_ret2
  exact ⟨rfl, 0, rfl⟩
theorem front_cons (g p n f : Nat) (xs q : List Int) (x : Int) (w : World) (h : RG w g p n f xs (x :: q)) :
    Calls Try.prog 26 #[.pointer (some ⟨g, 0, none⟩)] w fun e w' => e = .returned (.tuple #[.int .i64 x, .bool true]) ∧ ∃ m, w' = w.drewN m := by
  have c0 : w.cell? ⟨g, 0, none⟩ = some (.slice (some ⟨p, 0, none⟩) n n) := h.blk.cell 0
  have c1 : w.cell? ⟨g, 1, none⟩ = some (.int .i64 (f : Int)) := h.blk.cell 1
  have c2 : w.cell? ⟨g, 2, none⟩ = some (.int .i64 ((x :: q).length : Int)) := h.blk.cell 2
  have hfn := h.hf; have hn := h.hn
  have hx := h.at_ 0 x rfl
  rw [Nat.add_zero, Nat.mod_eq_of_lt hfn] at hx
  have cx := h.cell hx
  have ht : (((x :: q).length : Int) == 0) = false := by rw [beq_eq_false_iff_ne]; simp; omega
  generalize (x :: q).length = m at *
  clear h hx
  go_enter Try.func26, Try.ntmps26
  go_wp2_with fail
  go_quiet (fail)
  go_wp2_with fail
  go_ret2
  exact ⟨rfl, nq, rfl⟩
theorem pop_nil (g p n f : Nat) (xs : List Int) (w : World) (h : RG w g p n f xs []) :
    Calls Try.prog 22 #[.pointer (some ⟨g, 0, none⟩)] w fun e w' => e = .returned (.tuple #[.int .i64 0, .bool false]) ∧ ∃ m, w' = w.drewN m := by
  have HR := Lib.hid h; clear h
  go_enter Try.func22, Try.ntmps22
  go_wp2_with fail
  refine (front_nil g p n f xs _ HR.out).mono ?_
  rintro e w' ⟨rfl, m, rfl⟩
  go_wp2_with fail
  go_ret2
  exact ⟨rfl, m, rfl⟩
def PopPost (g p n : Nat) (x : Int) (q : List Int) (w : World) (e : Ending) (w' : World) : Prop :=
  e = .returned (.tuple #[.int .i64 x, .bool true]) ∧ ∃ f' xs', RG w' g p n f' xs' q ∧ Chg (ringF g p) w w'
theorem pop_cons (g p n f : Nat) (xs q : List Int) (x : Int) (w : World) (h : RG w g p n f xs (x :: q)) :
    Calls Try.prog 22 #[.pointer (some ⟨g, 0, none⟩)] w (PopPost g p n x q w) := by
  have hne := h.ne
  have hfn := h.hf; have hn := h.hn
  have hql := h.hq
  obtain ⟨j, hj⟩ : ∃ j, j = (f + 1) % n := ⟨_, rfl⟩
  have hjn : j < n := by rw [hj]; exact Nat.mod_lt _ (by omega)
  have hpost : ∀ m m' : Nat, PopPost g p n x q w (.returned (.tuple #[.int .i64 x, .bool true])) (((((w.drewN m).setCell ⟨p, f, none⟩ (.int .i64 0)).drewN m').setCell ⟨g, 1, none⟩ (.int .i64 (j : Int))).setCell ⟨g, 2, none⟩ (.int .i64 ((q.length : Int)))) := fun m m' => by
    refine ⟨rfl, j, xs.set f 0, ⟨?_, ?_, by rw [List.length_set, h.len], hjn, by simp at hql; omega, hn, fun k y hy => ?_⟩, ?_⟩
    · have := (((((h.blk.drewN m).far (p := ⟨p, f, none⟩) (by exact fun e => hne e.symm) (.int .i64 0)).drewN m').set_ 1 (.int .i64 (j : Int))).set_ 2 (.int .i64 (q.length : Int)))
      simpa using this
    · have := (((((h.arr.drewN m).set_ f (.int .i64 0)).drewN m').far (p := ⟨g, 1, none⟩) hne (.int .i64 (j : Int))).far (p := ⟨g, 2, none⟩) hne (.int .i64 (q.length : Int)))
      have e : (xs.map intV).toArray.setIfInBounds f (.int .i64 0) = ((xs.set f 0).map intV).toArray := by
        rw [List.map_set]; simp [intV]
      rwa [e] at this
    · have hk := (List.getElem?_eq_some_iff.1 hy).1
      have h1 := h.at_ (k + 1) y (by simpa using hy)
      have e : (j + k) % n = (f + (k + 1)) % n := by
        rw [hj, Nat.add_mod, Nat.mod_mod, ← Nat.add_mod]; congr 1; omega
      rw [e, List.getElem?_set_ne]
      · exact h1
      · have := mod_ne (f := f) (k := 0) (m := k + 1) (n := n) (by omega) (by simp at hql; omega) hfn
        rwa [Nat.add_zero, Nat.mod_eq_of_lt hfn] at this
    · exact (((((Chg.refl _ w).drewN m).setCell (p := ⟨p, f, none⟩) (.inl (.inr rfl)) _).drewN m').setCell (p := ⟨g, 1, none⟩) (.inl (.inl rfl)) _).setCell (p := ⟨g, 2, none⟩) (.inl (.inl rfl)) _
  have HP := Lib.hid hpost; clear hpost
  have c0 : w.cell? ⟨g, 0, none⟩ = some (.slice (some ⟨p, 0, none⟩) n n) := h.blk.cell 0
  have c1 : w.cell? ⟨g, 1, none⟩ = some (.int .i64 (f : Int)) := h.blk.cell 1
  have c2 : w.cell? ⟨g, 2, none⟩ = some (.int .i64 (((x :: q).length : Nat) : Int)) := h.blk.cell 2
  have f1 := h.blk.frozen 1
  have f2 := h.blk.frozen 2
  have fp := h.arr.frozen f
  have hx := h.at_ 0 x rfl
  rw [Nat.add_zero, Nat.mod_eq_of_lt hfn] at hx
  have cx := h.cell hx
  have HR := Lib.hid h
  obtain ⟨m, hm⟩ : ∃ m, m = q.length := ⟨_, rfl⟩
  rw [List.length_cons, ← hm] at c2
  rw [← hm] at HP
  have c2' : w.cell? ⟨g, 2, none⟩ = some (.int .i64 ((m : Int) + 1)) := c2
  have hm1 : m + 1 ≤ n := by have := hql; rw [List.length_cons] at this; omega
  have HJ := Lib.hid hj
  clear h hx hm hj c2 hql
  go_enter Try.func22, Try.ntmps22
  go_wp2_with fail
  refine (front_cons g p n f xs q x _ HR.out).mono ?_
  rintro e w' ⟨rfl, m1, rfl⟩
  go_wp2_with fail
  go_region_held3 (fun w' => w'.cell? ⟨g, 0, none⟩ = some (.slice (some ⟨p, 0, none⟩) n n) ∧ w'.cell? ⟨g, 1, none⟩ = some (.int .i64 (f : Int)) ∧ w'.cell? ⟨g, 2, none⟩ = some (.int .i64 ((m : Int) + 1))) (go_keep) (fail)
  go_wp2_with fail
  refine (at_any g p n f 1 j _ (by go_keep) (by go_keep) (by omega) (by omega) (by omega) HJ.out).mono ?_
  rintro e w' ⟨rfl, m2, rfl⟩
  go_wp2_with fail
  go_ret2
  exact HP.out _ _
end Go.Proofs.Ytckhmdeeddjkhaa
