/- THE WALKS of package ring, of things (a string and a number). -/
import Derived.Test.YtckhmdeeddjkhaaFlat
import Derived.Laws.MakeOwn
import Derived.Laws.OwnMore
import Derived.Deep.QuietTactic
import Derived.BigQuiet
import Derived.Deep.RegionHeld3
import Derived.Deep.DeepCutAuto
namespace Go.Proofs.Ytckhmdeeddjkhaa
open Go.RowKit
structure Th where
  s : ByteArray
  n : Int
def Th.cells (x : Th) : Array Value := #[.string x.s, .int .i64 x.n]
def th0 : Th := ⟨ByteArray.empty, 0⟩
theorem th_size (x : Th) : x.cells.size = 2 := rfl
theorem infoT : (Try.prog.info? 47).map (fun i => (i.zero, i.size)) = some (some (.agg #[.string ByteArray.empty, .int .i64 0]), 2) := by kernel_rfl
theorem infoTb : (Try.prog.info? 47).map (fun i => i.bytes) = some 24 := by kernel_rfl
theorem run_make_ths (n : Nat) (hn : n ≤ 1048576) (W : World) :
    (Instr.makeSlice 41 (.int .i64 (n : Int)) (.int .i64 (n : Int))).run Try.prog W = .ok (.slice (some ⟨W.heap.size, 0, none⟩) n n) (W.alloc (.cells (flatE Th.cells (List.replicate n th0)).toArray 47)) := by
  obtain ⟨i0, hi, hz⟩ := Option.map_eq_some_iff.1 infoT
  simp only [Prod.mk.injEq] at hz
  obtain ⟨hz0, hz1⟩ := hz
  obtain ⟨i1, hi1, hz2⟩ := Option.map_eq_some_iff.1 infoTb
  rw [hi] at hi1
  obtain rfl := Option.some.inj hi1
  have := run_make W 41 47 i0 _ Try.underlying41 hi hz0 .i64 .i64 (n : Int) (n : Int) (by omega) (by omega) (by rw [hz2]; omega) (by omega)
  rw [hz1, Int.toNat_natCast] at this
  have e : (madeCells (Value.agg #[.string ByteArray.empty, .int .i64 0]).cells (n * 2)) = (flatE Th.cells (List.replicate n th0)).toArray := by
    refine Array.ext' (List.ext_getElem? fun i => ?_)
    rw [Array.getElem?_toList]
    show _ = (flatE Th.cells (List.replicate n th0))[i]?
    by_cases hin : i < n * 2
    · have hj : (List.replicate n th0)[i / 2]? = some th0 := by rw [List.getElem?_replicate, if_pos (by omega)]
      have hsz : (madeCells (Value.agg #[.string ByteArray.empty, .int .i64 0]).cells (n * 2)).size = n * 2 := size_madeCells _ _
      have e1 : (madeCells (Value.agg #[.string ByteArray.empty, .int .i64 0]).cells (n * 2))[i]? = some ((#[Value.string ByteArray.empty, .int .i64 0] : Array Value)[i % 2]!) := by
        rw [Array.getElem?_eq_getElem (by omega)]
        simp [madeCells, Value.cells]
      rw [e1]
      rcases Nat.mod_two_eq_zero_or_one i with h | h
      · have := flatE_at th_size (List.replicate n th0) hj (i := 0) rfl
        rw [show i / 2 * 2 + 0 = i from by omega] at this
        rw [this, h]; rfl
      · have := flatE_at th_size (List.replicate n th0) hj (i := 1) rfl
        rw [show i / 2 * 2 + 1 = i from by omega] at this
        rw [this, h]; rfl
    · rw [Array.getElem?_eq_none (by rw [size_madeCells]; omega), List.getElem?_eq_none (by rw [flatE_length th_size, List.length_replicate]; omega)]
  rwa [e] at this
/-- a ring at block g, its places at block p: n places, the first at f, holding q -/
structure RT (w : World) (g p n f : Nat) (xs q : List Th) : Prop where
  blk : Blk w g 66 #[.slice (some ⟨p, 0, none⟩) n n, .int .i64 (f : Int), .int .i64 (q.length : Int)]
  arr : Blk w p 47 (flatE Th.cells xs).toArray
  len : xs.length = n
  hf : f < n
  hq : q.length ≤ n
  hn : n ≤ 64
  at_ : ∀ k x, q[k]? = some x → xs[(f + k) % n]? = some x
theorem RT.ne {w : World} {g p n f : Nat} {xs q : List Th} (h : RT w g p n f xs q) : p ≠ g := by
  intro e
  have h1 := h.blk; have h2 := h.arr
  rw [e] at h2
  unfold Blk at h1 h2
  rw [h1] at h2
  injection h2 with h2
  injection h2 with _ ht
  exact absurd ht (by decide)
theorem RT.chg {S : Nat → Prop} {w w' : World} {g p n f : Nat} {xs q : List Th} (h : RT w g p n f xs q) (hc : Chg S w w') (hg : ¬ S g) (hp : ¬ S p) : RT w' g p n f xs q :=
  ⟨h.blk.chg hc hg, h.arr.chg hc hp, h.len, h.hf, h.hq, h.hn, h.at_⟩
theorem RT.keep {w w' : World} {g p n f : Nat} {xs q : List Th} (h : RT w g p n f xs q) (hb : Below w.heap.size w w') : RT w' g p n f xs q :=
  ⟨h.blk.keep hb, h.arr.keep hb, h.len, h.hf, h.hq, h.hn, h.at_⟩
theorem RT.cell0 {w : World} {g p n f : Nat} {xs q : List Th} (h : RT w g p n f xs q) {j : Nat} {x : Th} (hj : xs[j]? = some x) : w.cell? ⟨p, j * 2, none⟩ = some (.string x.s) := by
  rw [h.arr.cell, List.getElem?_toArray]
  exact flatE_at th_size xs hj (i := 0) rfl
theorem RT.cell1 {w : World} {g p n f : Nat} {xs q : List Th} (h : RT w g p n f xs q) {j : Nat} {x : Th} (hj : xs[j]? = some x) : w.cell? ⟨p, j * 2 + 1, none⟩ = some (.int .i64 x.n) := by
  rw [h.arr.cell, List.getElem?_toArray]
  exact flatE_at th_size xs hj (i := 1) rfl
def NewT (n : Nat) (w : World) (e : Ending) (w' : World) : Prop :=
  ∃ g p xs, e = .returned (.tuple #[.pointer (some ⟨g, 0, none⟩), .int .i64 0]) ∧ w.heap.size ≤ g ∧ w.heap.size ≤ p ∧ RT w' g p n 0 xs [] ∧ Below w.heap.size w w'
theorem newT_ok (n : Nat) (w : World) (h1 : 1 ≤ n) (h64 : n ≤ 64) : Calls Try.prog 12 #[.int .i64 (n : Int)] w (NewT n w) := by
  have hmk := run_make_ths n (by omega)
  have hP : NewT n w (.returned (.tuple #[.pointer (some ⟨w.heap.size + 1, 0, none⟩), .int .i64 0])) ((w.alloc (.cells (flatE Th.cells (List.replicate n th0)).toArray 47)).alloc (.cells #[.slice (some ⟨w.heap.size, 0, none⟩) n n, .int .i64 0, .int .i64 0] 66)) := by
    refine ⟨w.heap.size + 1, w.heap.size, List.replicate n th0, rfl, by omega, Nat.le_refl _, ⟨?_, ?_, by simp, by omega, by simp, h64, fun k x h => by simp at h⟩, ((Below.refl _ _).alloc (Nat.le_refl _) _).alloc (by simp) _⟩
    · exact Blk.new _ _ _ (by simp)
    · exact (Blk.new w _ _ rfl).alloc _
  have HP := Lib.hid hP; clear hP
  go_enter Try.func12, Try.ntmps12
  go_wp2
  go_ret2
  exact HP.out
theorem atT_any (g p n f k j : Nat) (w : World) (c0 : w.cell? ⟨g, 0, none⟩ = some (.slice (some ⟨p, 0, none⟩) n n)) (c1 : w.cell? ⟨g, 1, none⟩ = some (.int .i64 (f : Int))) (hn : 0 < n) (hf : f ≤ 64) (hk : k ≤ 64) (hj : j = (f + k) % n) :
    Calls Try.prog 30 #[.pointer (some ⟨g, 0, none⟩), .int .i64 (k : Int)] w fun e w' => e = .returned (.int .i64 (j : Int)) ∧ ∃ m, w' = w.drewN m := by
  have q1 : IntKind.i64.wrap ((f : Int) + (k : Int)) = (f : Int) + (k : Int) := IntWalk.i64_in _ (by omega)
  have q2 : (0 : Int) ≤ (f : Int) + (k : Int) := by omega
  have q3 : (f : Int) + (k : Int) ≤ 128 := by omega
  have hjI : (j : Int) = ((f : Int) + (k : Int)) % (n : Int) := by rw [hj]; simp
  have HJ := Lib.hid hjI; clear hjI hj
  go_enter Try.func30, Try.ntmps30
  go_wp2_with fail
  go_quiet (fail)
  go_wp2_with fail
  go_ret
  exact ⟨by rw [HJ.out]; rfl, nq, rfl⟩
theorem fullT_any (g p n f : Nat) (xs q : List Th) (w : World) (h : RT w g p n f xs q) :
    Calls Try.prog 14 #[.pointer (some ⟨g, 0, none⟩)] w fun e w' => e = .returned (.bool (decide (q.length = n))) ∧ ∃ m, w' = w.drewN m := by
  have c0 : w.cell? ⟨g, 0, none⟩ = some (.slice (some ⟨p, 0, none⟩) n n) := h.blk.cell 0
  have c2 : w.cell? ⟨g, 2, none⟩ = some (.int .i64 (q.length : Int)) := h.blk.cell 2
  generalize q.length = m at *
  have t1 : ((m : Int) == (n : Int)) = decide (m = n) := by
    by_cases e : m = n
    · subst e; simp
    · rw [decide_eq_false e, beq_eq_false_iff_ne]; omega
  obtain ⟨bv, hbv⟩ : ∃ bv, bv = decide (m = n) := ⟨_, rfl⟩
  rw [← hbv] at t1 ⊢
  clear h hbv
  go_enter Try.func14, Try.ntmps14
  go_wp2_with fail
  go_quiet (fail)
  go_wp2_with fail
  go_ret
  exact ⟨rfl, nq, rfl⟩
theorem lenT_any (g p n f : Nat) (xs q : List Th) (w : World) (h : RT w g p n f xs q) :
    Calls Try.prog 13 #[.pointer (some ⟨g, 0, none⟩)] w fun e w' => e = .returned (.int .i64 (q.length : Int)) ∧ w = w' := by
  have c2 : w.cell? ⟨g, 2, none⟩ = some (.int .i64 (q.length : Int)) := h.blk.cell 2
  generalize q.length = m at *
  clear h
  go_enter Try.func13, Try.ntmps13
  go_wp2_with fail
  go_ret
  exact ⟨rfl, rfl⟩
def ringF (g p : Nat) : Nat → Prop := fun k => k = g ∨ k = p
theorem mod_ne {f k m n : Nat} (hk : k < m) (hm : m < n) (_hf : f < n) : (f + k) % n ≠ (f + m) % n := by
  intro h
  have h1 : (f + m) = (f + k) + (m - k) := by omega
  rw [h1, Nat.add_mod (f + k)] at h
  have h2 : (m - k) % n = m - k := Nat.mod_eq_of_lt (by omega)
  rw [h2] at h
  have h3 : (f + k) % n < n := Nat.mod_lt _ (by omega)
  generalize (f + k) % n = a at *
  by_cases hlt : a + (m - k) < n
  · rw [Nat.mod_eq_of_lt hlt] at h; omega
  · rw [Nat.mod_eq_sub_mod (by omega), Nat.mod_eq_of_lt (by omega)] at h; omega
def PushT (g p n f : Nat) (q : List Th) (w : World) (e : Ending) (w' : World) : Prop :=
  e = .returned (.int .i64 0) ∧ ∃ xs', RT w' g p n f xs' q ∧ Chg (ringF g p) w w'
theorem pushT_full (g p n f : Nat) (xs q : List Th) (x : Th) (w : World) (h : RT w g p n f xs q) (hq : q.length = n) :
    Calls Try.prog 15 #[.pointer (some ⟨g, 0, none⟩), .agg x.cells] w fun e w' => e = .returned (.int .i64 180) ∧ Below w.heap.size w w' := by
  have HR := Lib.hid (h.keep ((Below.refl _ _).alloc (Nat.le_refl _) (.cells x.cells 47)))
  have HB : Hid (∀ m, Below w.heap.size w ((w.alloc (.cells x.cells 47)).drewN m)) := Lib.hid (fun m => below_drewN ((Below.refl _ _).alloc (Nat.le_refl _) _) m)
  have hd : decide (q.length = n) = true := decide_eq_true hq
  have HD := Lib.hid hd
  unfold Th.cells at *
  clear h hq hd
  go_enter Try.func15, Try.ntmps15
  go_wp2_with fail
  refine (fullT_any g p n f xs q _ HR.out).mono ?_
  rintro e w' ⟨rfl, m, rfl⟩
  rw [HD.out]
  go_wp2_with fail
  go_ret
  exact ⟨rfl, HB.out m⟩
theorem pushT_ok (g p n f : Nat) (xs q : List Th) (x : Th) (w : World) (h : RT w g p n f xs q) (hq : q.length < n) :
    Calls Try.prog 15 #[.pointer (some ⟨g, 0, none⟩), .agg x.cells] w (PushT g p n f (q ++ [x]) w) := by
  have hne := h.ne
  obtain ⟨j, hj⟩ : ∃ j, j = (f + q.length) % n := ⟨_, rfl⟩
  have hjn : j < n := by rw [hj]; exact Nat.mod_lt _ (by omega)
  have hfn := h.hf; have hn := h.hn
  obtain ⟨old, hold⟩ : ∃ old, xs[j]? = some old := ⟨_, List.getElem?_eq_getElem (by rw [h.len]; exact hjn)⟩
  have hgl := h.blk.lt; have hpl := h.arr.lt
  have h0 : RT (w.alloc (.cells x.cells 47)) g p n f xs q := h.keep ((Below.refl _ _).alloc (Nat.le_refl _) _)
  have hB0 : Blk (w.alloc (.cells x.cells 47)) w.heap.size 47 x.cells := Blk.new w _ _ rfl
  have hC0 : Chg (ringF g p) w (w.alloc (.cells x.cells 47)) := (Chg.refl _ w).alloc _
  obtain ⟨w0, hw0⟩ : ∃ w0, w0 = w.alloc (.cells x.cells 47) := ⟨_, rfl⟩
  obtain ⟨b, hb⟩ : ∃ b, b = w.heap.size := ⟨_, rfl⟩
  rw [← hw0] at h0 hB0 hC0
  rw [← hb] at hB0
  have hpost : ∀ m : Nat, PushT g p n f (q ++ [x]) w (.returned (.int .i64 0)) ((((w0.drewN m).setCell ⟨p, j * 2, none⟩ (.string x.s)).setCell ⟨p, j * 2 + 1, none⟩ (.int .i64 x.n)).setCell ⟨g, 2, none⟩ (.int .i64 ((q.length : Int) + 1))) := fun m => by
    refine ⟨rfl, xs.set j x, ⟨?_, ?_, by rw [List.length_set, h.len], hfn, by simp; omega, hn, fun k y hy => ?_⟩, ?_⟩
    · have := ((((h0.blk.drewN m).far (p := ⟨p, j * 2, none⟩) (by exact fun e => hne e.symm) (.string x.s)).far (p := ⟨p, j * 2 + 1, none⟩) (by exact fun e => hne e.symm) (.int .i64 x.n)).set_ 2 (.int .i64 ((q.length : Int) + 1)))
      simpa using this
    · have := ((((h0.arr.drewN m).set_ (j * 2) (.string x.s)).set_ (j * 2 + 1) (.int .i64 x.n)).far (p := ⟨g, 2, none⟩) hne (.int .i64 ((q.length : Int) + 1)))
      rw [List.setIfInBounds_toArray, List.setIfInBounds_toArray, flatE_set2 th_size xs hold x rfl] at this
      exact this
    · rw [List.getElem?_append] at hy
      split at hy
      · rename_i hk
        rw [List.getElem?_set_ne (by rw [hj]; exact (mod_ne hk hq hfn).symm)]
        exact h.at_ k y hy
      · rename_i hk
        have hk0 : k - q.length = 0 := by
          have := (List.getElem?_eq_some_iff.1 hy).1
          simp at this; omega
        obtain rfl : k = q.length := by omega
        simp at hy
        subst hy
        rw [← hj, List.getElem?_set_self (by rw [h.len]; exact hjn)]
    · exact (((hC0.drewN m).setCell (p := ⟨p, j * 2, none⟩) (.inl (.inr rfl)) _).setCell (p := ⟨p, j * 2 + 1, none⟩) (.inl (.inr rfl)) _).setCell (p := ⟨g, 2, none⟩) (.inl (.inl rfl)) _
  have HP := Lib.hid hpost; clear hpost
  have c0 : w0.cell? ⟨g, 0, none⟩ = some (.slice (some ⟨p, 0, none⟩) n n) := h0.blk.cell 0
  have c1 : w0.cell? ⟨g, 1, none⟩ = some (.int .i64 (f : Int)) := h0.blk.cell 1
  have c2 : w0.cell? ⟨g, 2, none⟩ = some (.int .i64 (q.length : Int)) := h0.blk.cell 2
  have b0 : w0.cell? ⟨b, 0, none⟩ = some (.string x.s) := hB0.cell 0
  have b1 : w0.cell? ⟨b, 1, none⟩ = some (.int .i64 x.n) := hB0.cell 1
  have f2 := h0.blk.frozen 2
  have fp0 := h0.arr.frozen (j * 2)
  have fp1 := h0.arr.frozen (j * 2 + 1)
  have d0 := h0.cell0 hold
  have d1 := h0.cell1 hold
  have HR := Lib.hid h0
  have HQ := Lib.hid hq
  have hd : decide (q.length = n) = false := decide_eq_false (by omega)
  have HD := Lib.hid hd
  clear h h0 hold hB0 hC0 hd
  unfold Th.cells at hw0 ⊢
  generalize hm : q.length = m at *
  have HM := Lib.hid hm
  have HJ := Lib.hid hj
  clear hm hj
  go_enter Try.func15, Try.ntmps15
  go_upto_region 1 with fail
  rw [← hw0, ← hb]
  have hbg : b ≠ g := by omega
  have hbp : b ≠ p := by omega
  have hgb : g ≠ b := by omega
  have hpb : p ≠ b := by omega
  clear hw0 hb
  go_wp2_with fail
  refine (fullT_any g p n f xs q _ HR.out).mono ?_
  rintro e w' ⟨rfl, m1, rfl⟩
  rw [HM.out, HD.out]
  go_upto_region 3 with fail
  go_region_held3 (fun w' => w'.cell? ⟨g, 0, none⟩ = some (.slice (some ⟨p, 0, none⟩) n n) ∧ w'.cell? ⟨g, 1, none⟩ = some (.int .i64 (f : Int)) ∧ w'.cell? ⟨g, 2, none⟩ = some (.int .i64 (m : Int)) ∧ w'.cell? ⟨b, 0, none⟩ = some (.string x.s) ∧ w'.cell? ⟨b, 1, none⟩ = some (.int .i64 x.n)) (go_keep)
    (first | (go_at_call 30; refine (atT_any g p n f m j _ (by go_keep) (by go_keep) (by omega) (by omega) (by omega) HJ.out).mono ?_; rintro e w' ⟨rfl, m2, rfl⟩))
  go_wp2_with fail
  go_ret
  exact HP.out _
def frontT : List Th → Th
  | [] => th0
  | x :: _ => x
/-- Front: the first, or the zero thing -/
def FrontT (q : List Th) (w : World) (e : Ending) (w' : World) : Prop :=
  e = .returned (.tuple #[.agg (frontT q).cells, .bool (!q.isEmpty)]) ∧ Below w.heap.size w w'
theorem frontT_nil (g p n f : Nat) (xs : List Th) (w : World) (h : RT w g p n f xs []) :
    Calls Try.prog 17 #[.pointer (some ⟨g, 0, none⟩)] w (FrontT [] w) := by
  have hgl := h.blk.lt
  have h0 := h.keep ((Below.refl _ _).alloc (Nat.le_refl _) (.cells th0.cells 47))
  have hB0 : Blk (w.alloc (.cells th0.cells 47)) w.heap.size 47 th0.cells := Blk.new w _ _ rfl
  have c2 : w.cell? ⟨g, 2, none⟩ = some (.int .i64 0) := h.blk.cell 2
  have hbb : Below w.heap.size w (w.alloc (.cells th0.cells 47)) := (Below.refl _ _).alloc (Nat.le_refl _) _
  have HB := Lib.hid hbb
  unfold Th.cells th0 at *
  clear h h0 hB0 hbb
  have hgb : g ≠ w.heap.size := by omega
  go_enter Try.func17, Try.ntmps17
  go_wp2_with fail
  refine bodyPost_ret (v := .tuple #[.agg #[.string ByteArray.empty, .int .i64 0], .bool false]) (by simp [results, Try.results17, go_sem]; rfl) rfl ?_
  exact ⟨rfl, HB.out⟩
theorem frontT_cons (g p n f : Nat) (xs q : List Th) (x : Th) (w : World) (h : RT w g p n f xs (x :: q)) :
    Calls Try.prog 17 #[.pointer (some ⟨g, 0, none⟩)] w (FrontT (x :: q) w) := by
  have hgl := h.blk.lt; have hpl := h.arr.lt
  have hfn := h.hf; have hn := h.hn
  have h0 := h.keep ((Below.refl _ _).alloc (Nat.le_refl _) (.cells th0.cells 47))
  have hx := h.at_ 0 x rfl
  rw [Nat.add_zero, Nat.mod_eq_of_lt hfn] at hx
  have hB0 : Blk (w.alloc (.cells th0.cells 47)) w.heap.size 47 th0.cells := Blk.new w _ _ rfl
  have hbb : Below w.heap.size w (w.alloc (.cells th0.cells 47)) := (Below.refl _ _).alloc (Nat.le_refl _) _
  have hP : ∀ m, FrontT (x :: q) w (.returned (.tuple #[.agg x.cells, .bool true])) ((((w.alloc (.cells th0.cells 47)).drewN m).setCell ⟨w.heap.size, 0, none⟩ (.string x.s)).setCell ⟨w.heap.size, 1, none⟩ (.int .i64 x.n)) := fun m => ⟨rfl, ((below_drewN hbb m).setCell (Nat.le_refl _) _).setCell (Nat.le_refl _) _⟩
  have HK : Hid (∀ m, Blk ((((w.alloc (.cells th0.cells 47)).drewN m).setCell ⟨w.heap.size, 0, none⟩ (.string x.s)).setCell ⟨w.heap.size, 1, none⟩ (.int .i64 x.n)) w.heap.size 47 x.cells) := Lib.hid (fun m => ((hB0.drewN m).set_ 0 (.string x.s)).set_ 1 (.int .i64 x.n))
  have HP := Lib.hid hP
  have c0 := h0.blk.cell 0
  have c1 := h0.blk.cell 1
  have c2 := h0.blk.cell 2
  have d0 := h0.cell0 hx
  have d1 := h0.cell1 hx
  have b0 := hB0.cell 0
  have b1 := hB0.cell 1
  have fb0 := hB0.frozen 0
  have fb1 := hB0.frozen 1
  have ht : (((x :: q).length : Int) == 0) = false := by rw [beq_eq_false_iff_ne]; simp; omega
  unfold Th.cells th0 at *
  obtain ⟨w0, hw0⟩ : ∃ w0, w0 = w.alloc (.cells #[.string ByteArray.empty, .int .i64 0] 47) := ⟨_, rfl⟩
  obtain ⟨b, hb⟩ : ∃ b, b = w.heap.size := ⟨_, rfl⟩
  rw [← hw0, ← hb] at HP HK
  rw [← hw0] at c0 c1 c2 d0 d1 b0 b1 fb0 fb1
  rw [← hb] at b0 b1 fb0 fb1
  generalize (x :: q).length = m at *
  have c0' : w0.cell? ⟨g, 0, none⟩ = some (.slice (some ⟨p, 0, none⟩) n n) := c0
  have c1' : w0.cell? ⟨g, 1, none⟩ = some (.int .i64 (f : Int)) := c1
  have c2' : w0.cell? ⟨g, 2, none⟩ = some (.int .i64 (m : Int)) := c2
  have b0' : w0.cell? ⟨b, 0, none⟩ = some (.string ByteArray.empty) := b0
  have b1' : w0.cell? ⟨b, 1, none⟩ = some (.int .i64 0) := b1
  clear h h0 hx hB0 hbb hP c0 c1 c2 b0 b1
  go_enter Try.func17, Try.ntmps17
  go_upto_region 1 with fail
  have e0 : (ByteArray.empty : ByteArray) = { data := #[] } := rfl
  rw [e0] at hw0
  rw [← hw0, ← hb]
  have hbg : b ≠ g := by omega
  have hbp : b ≠ p := by omega
  clear hw0 hb e0
  go_wp2_with fail
  go_region_held3 (fun w' => w'.cell? ⟨g, 0, none⟩ = some (.slice (some ⟨p, 0, none⟩) n n) ∧ w'.cell? ⟨g, 1, none⟩ = some (.int .i64 (f : Int)) ∧ w'.cell? ⟨p, f * 2, none⟩ = some (.string x.s) ∧ w'.cell? ⟨p, f * 2 + 1, none⟩ = some (.int .i64 x.n)) (go_keep) (fail)
  go_wp2_with fail
  obtain ⟨W, hW⟩ : ∃ W, W = ((w0.setCell ⟨b, 0, none⟩ (.string x.s)).setCell ⟨b, 1, none⟩ (.int .i64 x.n)).drew := ⟨_, rfl⟩
  have k0 : W.cell? ⟨b, 0, none⟩ = some (.string x.s) := by rw [hW]; exact (HK.out 1).cell 0
  have k1 : W.cell? ⟨b, 1, none⟩ = some (.int .i64 x.n) := by rw [hW]; exact (HK.out 1).cell 1
  have hF : FrontT (x :: q) w (.returned (.tuple #[.agg #[.string x.s, .int .i64 x.n], .bool true])) W := by rw [hW]; exact HP.out 1
  rw [← hW]
  refine bodyPost_ret (v := .tuple #[.agg #[.string x.s, .int .i64 x.n], .bool true]) (by simp [results, Try.results17, go_sem, k0, k1]) rfl ?_
  exact hF
theorem popT_nil (g p n f : Nat) (xs : List Th) (w : World) (h : RT w g p n f xs []) :
    Calls Try.prog 16 #[.pointer (some ⟨g, 0, none⟩)] w (FrontT [] w) := by
  have h0 := h.keep ((Below.refl _ _).alloc (Nat.le_refl _) (.cells th0.cells 47))
  have hB0 : Blk (w.alloc (.cells th0.cells 47)) w.heap.size 47 th0.cells := Blk.new w _ _ rfl
  have hbb : Below w.heap.size w (w.alloc (.cells th0.cells 47)) := (Below.refl _ _).alloc (Nat.le_refl _) _
  have CF := Lib.hid (frontT_nil g p n f xs _ h0)
  have HB := Lib.hid hbb; have HB0 := Lib.hid hB0
  clear h h0 hbb hB0
  unfold Th.cells th0 at CF HB HB0
  go_enter Try.func16, Try.ntmps16
  go_wp2_with fail
  refine CF.out.mono ?_
  rintro e w1 ⟨rfl, hb1⟩
  unfold frontT th0 Th.cells
  have HB1 : Hid (Below w.heap.size w w1) := Lib.hid (HB.out.trans (hb1.mono HB.out.size))
  have HBK := Lib.hid (HB0.out.keep hb1)
  obtain ⟨b, hb⟩ : ∃ b, b = w.heap.size := ⟨_, rfl⟩
  rw [← hb] at HBK ⊢
  have hsz : b < w1.heap.size := HBK.out.lt
  have hne : w1.heap.size ≠ b := by omega
  have k0 : w1.cell? ⟨b, 0, none⟩ = some (.string ByteArray.empty) := HBK.out.cell 0
  have k1 : w1.cell? ⟨b, 1, none⟩ = some (.int .i64 0) := HBK.out.cell 1
  have f0 : w1.frozen? ⟨b, 0, none⟩ = false := HBK.out.frozen 0
  have f1 : w1.frozen? ⟨b, 1, none⟩ = false := HBK.out.frozen 1
  have GB := Lib.hid hb
  clear hb1 CF HB HB0 hb
  go_wp2_with fail
  have hK := ((HBK.out.set_ 0 (.string ByteArray.empty)).set_ 1 (.int .i64 0)).alloc (.cells #[.string ByteArray.empty, .int .i64 0] 47)
  have hB1 := (HB1.out.setCell (p := ⟨b, 0, none⟩) (by rw [GB.out]; exact Nat.le_refl _) (.string ByteArray.empty)).setCell (p := ⟨b, 1, none⟩) (by rw [GB.out]; exact Nat.le_refl _) (.int .i64 0)
  have hBF := hB1.alloc hB1.size (.cells #[.string ByteArray.empty, .int .i64 0] 47)
  obtain ⟨W, hW⟩ : ∃ W, W = (((w1.setCell ⟨b, 0, none⟩ (.string ByteArray.empty)).setCell ⟨b, 1, none⟩ (.int .i64 0)).alloc (.cells #[.string ByteArray.empty, .int .i64 0] 47)) := ⟨_, rfl⟩
  rw [← hW] at hK hBF ⊢
  have q0 : W.cell? ⟨b, 0, none⟩ = some (.string ByteArray.empty) := hK.cell 0
  have q1 : W.cell? ⟨b, 1, none⟩ = some (.int .i64 0) := hK.cell 1
  refine bodyPost_ret (v := .tuple #[.agg #[.string ByteArray.empty, .int .i64 0], .bool false]) (by simp [results, Try.results16, go_sem, q0, q1]) rfl ?_
  exact ⟨rfl, hBF⟩
def PopT (g p n : Nat) (x : Th) (q : List Th) (w : World) (e : Ending) (w' : World) : Prop :=
  e = .returned (.tuple #[.agg x.cells, .bool true]) ∧ ∃ f' xs', RT w' g p n f' xs' q ∧ Chg (ringF g p) w w'
theorem popT_cons (g p n f : Nat) (xs q : List Th) (x : Th) (w : World) (h : RT w g p n f xs (x :: q)) :
    Calls Try.prog 16 #[.pointer (some ⟨g, 0, none⟩)] w (PopT g p n x q w) := by
  have hgl := h.blk.lt; have hpl := h.arr.lt
  have h0 := h.keep ((Below.refl _ _).alloc (Nat.le_refl _) (.cells th0.cells 47))
  have hB0 : Blk (w.alloc (.cells th0.cells 47)) w.heap.size 47 th0.cells := Blk.new w _ _ rfl
  have hbb : Below w.heap.size w (w.alloc (.cells th0.cells 47)) := (Below.refl _ _).alloc (Nat.le_refl _) _
  have CF := Lib.hid (frontT_cons g p n f xs q x _ h0)
  have HB := Lib.hid hbb; have HB0 := Lib.hid hB0; have HR0 := Lib.hid h0
  clear h h0 hbb hB0
  unfold th0 at CF HB HB0 HR0
  unfold Th.cells at CF HB HB0 HR0
  go_enter Try.func16, Try.ntmps16
  go_wp2_with fail
  refine CF.out.mono ?_
  rintro e w1 ⟨rfl, hb1⟩
  unfold frontT Th.cells
  -- three blocks more: the result's, what came, none
  have HB1 : Hid (Below w.heap.size w w1) := Lib.hid (HB.out.trans (hb1.mono HB.out.size))
  have HBK1 := Lib.hid (HB0.out.keep hb1)
  have HR1 := Lib.hid (HR0.out.keep hb1)
  have hb2 : Below w1.heap.size w1 (w1.alloc (.cells #[.string x.s, .int .i64 x.n] 47)) := (Below.refl _ _).alloc (Nat.le_refl _) _
  have hb3 := hb2.alloc hb2.size (.cells #[.string ByteArray.empty, .int .i64 0] 47)
  have HB3 := Lib.hid (HB1.out.trans (hb3.mono HB1.out.size))
  have HBK3 := Lib.hid (HBK1.out.keep hb3)
  have HR3 := Lib.hid (HR1.out.keep hb3)
  have HX3 : Hid (Blk ((w1.alloc (.cells #[.string x.s, .int .i64 x.n] 47)).alloc (.cells #[.string ByteArray.empty, .int .i64 0] 47)) w1.heap.size 47 #[.string x.s, .int .i64 x.n]) := Lib.hid ((Blk.new w1 _ _ rfl).alloc _)
  have HZ3 : Hid (Blk ((w1.alloc (.cells #[.string x.s, .int .i64 x.n] 47)).alloc (.cells #[.string ByteArray.empty, .int .i64 0] 47)) (w1.heap.size + 1) 47 #[.string ByteArray.empty, .int .i64 0]) := Lib.hid (Blk.new _ _ _ (by simp))
  have hs1 := HBK1.out.lt
  have hs2 := HR1.out.blk.lt
  have hs3 := HR1.out.arr.lt
  clear hb1 hb2 hb3 CF HB HB0 HR0
  have hql := HR3.out.hq
  have hfn := HR3.out.hf; have hn := HR3.out.hn
  have hne := HR3.out.ne
  go_upto_region 4 with fail
  obtain ⟨w3, hw3⟩ : ∃ w3, w3 = (w1.alloc (.cells #[.string x.s, .int .i64 x.n] 47)).alloc (.cells #[.string { data := #[] }, .int .i64 0] 47) := ⟨_, rfl⟩
  obtain ⟨b, hb⟩ : ∃ b, b = w.heap.size := ⟨_, rfl⟩
  obtain ⟨b2, hb2⟩ : ∃ b2, b2 = w1.heap.size := ⟨_, rfl⟩
  have R3 : Hid (RT w3 g p n f xs (x :: q)) := Lib.hid (by rw [hw3]; exact HR3.out)
  have K3 : Hid (Blk w3 b 47 #[.string ByteArray.empty, .int .i64 0]) := Lib.hid (by rw [hw3, hb]; exact HBK3.out)
  have X3 : Hid (Blk w3 b2 47 #[.string x.s, .int .i64 x.n]) := Lib.hid (by rw [hw3, hb2]; exact HX3.out)
  have Z3 : Hid (Blk w3 (b2 + 1) 47 #[.string ByteArray.empty, .int .i64 0]) := Lib.hid (by rw [hw3, hb2]; exact HZ3.out)
  have B3 : Hid (Below w.heap.size w w3) := Lib.hid (by rw [hw3]; exact HB3.out)
  rw [← hw3, ← hb, ← hb2]
  have GB := Lib.hid hb
  have hbg : b ≠ g := by omega
  have hbp : b ≠ p := by omega
  have hb2g : b2 ≠ g := by omega
  have hb2p : b2 ≠ p := by omega
  have hb2b : b2 ≠ b := by omega
  obtain ⟨b3, hb3⟩ : ∃ b3, b3 = b2 + 1 := ⟨_, rfl⟩
  rw [← hb3] at Z3 ⊢
  have hb3p : b3 ≠ p := by omega
  have hb3g : b3 ≠ g := by omega
  have hpb3 : p ≠ b3 := by omega
  clear hb3
  clear hw3 hb hb2 HR3 HBK3 HX3 HZ3 HB3 HB1 HBK1 HR1 hs1 hs2 hs3 hgl hpl
  have hx := R3.out.at_ 0 x rfl
  rw [Nat.add_zero, Nat.mod_eq_of_lt hfn] at hx
  have HX := Lib.hid hx
  have c0 : w3.cell? ⟨g, 0, none⟩ = some (.slice (some ⟨p, 0, none⟩) n n) := R3.out.blk.cell 0
  have c1 : w3.cell? ⟨g, 1, none⟩ = some (.int .i64 (f : Int)) := R3.out.blk.cell 1
  have z0 : w3.cell? ⟨b3, 0, none⟩ = some (.string ByteArray.empty) := Z3.out.cell 0
  have z1 : w3.cell? ⟨b3, 1, none⟩ = some (.int .i64 0) := Z3.out.cell 1
  have d0 := R3.out.cell0 hx
  have d1 := R3.out.cell1 hx
  have fp0 := R3.out.arr.frozen (f * 2)
  have fp1 := R3.out.arr.frozen (f * 2 + 1)
  clear hx
  go_region_held3 (fun w' => w'.cell? ⟨g, 0, none⟩ = some (.slice (some ⟨p, 0, none⟩) n n) ∧ w'.cell? ⟨g, 1, none⟩ = some (.int .i64 (f : Int)) ∧ w'.cell? ⟨b3, 0, none⟩ = some (.string ByteArray.empty) ∧ w'.cell? ⟨b3, 1, none⟩ = some (.int .i64 0)) (go_keep) (fail)
  go_upto_region 5 with fail
  obtain ⟨w4, hw4⟩ : ∃ w4, w4 = ((w3.setCell ⟨p, f * 2, none⟩ (.string ByteArray.empty)).setCell ⟨p, f * 2 + 1, none⟩ (.int .i64 0)).drew := ⟨_, rfl⟩
  rw [← hw4]
  have G4 : Hid (Blk w4 g 66 #[.slice (some ⟨p, 0, none⟩) n n, .int .i64 (f : Int), .int .i64 ((x :: q).length : Int)]) := Lib.hid (by rw [hw4]; exact ((R3.out.blk.far (p := ⟨p, f * 2, none⟩) (fun e => hne e.symm) _).far (p := ⟨p, f * 2 + 1, none⟩) (fun e => hne e.symm) _).drewN 1)
  have P4 : Hid (Blk w4 p 47 (flatE Th.cells (xs.set f th0)).toArray) := Lib.hid (by
    have := ((R3.out.arr.set_ (f * 2) (.string ByteArray.empty)).set_ (f * 2 + 1) (.int .i64 0)).drewN 1
    rw [List.setIfInBounds_toArray, List.setIfInBounds_toArray, flatE_set2 th_size xs HX.out th0 (u0 := .string ByteArray.empty) (u1 := .int .i64 0) rfl] at this
    rw [hw4]; exact this)
  have K4 : Hid (Blk w4 b 47 #[.string ByteArray.empty, .int .i64 0]) := Lib.hid (by rw [hw4]; exact ((K3.out.far (p := ⟨p, f * 2, none⟩) hbp _).far (p := ⟨p, f * 2 + 1, none⟩) hbp _).drewN 1)
  have X4 : Hid (Blk w4 b2 47 #[.string x.s, .int .i64 x.n]) := Lib.hid (by rw [hw4]; exact ((X3.out.far (p := ⟨p, f * 2, none⟩) hb2p _).far (p := ⟨p, f * 2 + 1, none⟩) hb2p _).drewN 1)
  have C4 : Hid (Chg (ringF g p) w w4) := Lib.hid (by rw [hw4]; exact (((Chg.of_below B3.out _).setCell (p := ⟨p, f * 2, none⟩) (.inl (.inr rfl)) _).setCell (p := ⟨p, f * 2 + 1, none⟩) (.inl (.inr rfl)) _).drew)
  obtain ⟨j, hj⟩ : ∃ j, j = (f + 1) % n := ⟨_, rfl⟩
  have hjn : j < n := by rw [hj]; exact Nat.mod_lt _ (by omega)
  have HJ := Lib.hid hj
  have HRR := Lib.hid (And.intro R3.out.len R3.out.at_)
  rw [List.length_cons] at G4 hql
  clear hw4 hj c0 c1 z0 z1 d0 d1 fp0 fp1 R3 K3 X3 Z3 B3
  have c0 : w4.cell? ⟨g, 0, none⟩ = some (.slice (some ⟨p, 0, none⟩) n n) := G4.out.cell 0
  have c1 : w4.cell? ⟨g, 1, none⟩ = some (.int .i64 (f : Int)) := G4.out.cell 1
  obtain ⟨m, hm⟩ : ∃ m, m = q.length := ⟨_, rfl⟩
  rw [← hm] at G4 hql
  have HMM := Lib.hid hm
  have c2 : w4.cell? ⟨g, 2, none⟩ = some (.int .i64 ((m : Int) + 1)) := G4.out.cell 2
  have f1 : w4.frozen? ⟨g, 1, none⟩ = false := G4.out.frozen 1
  have f2 : w4.frozen? ⟨g, 2, none⟩ = false := G4.out.frozen 2
  have x0 : w4.cell? ⟨b2, 0, none⟩ = some (.string x.s) := X4.out.cell 0
  have x1 : w4.cell? ⟨b2, 1, none⟩ = some (.int .i64 x.n) := X4.out.cell 1
  have k0 : w4.cell? ⟨b, 0, none⟩ = some (.string ByteArray.empty) := K4.out.cell 0
  have k1 : w4.cell? ⟨b, 1, none⟩ = some (.int .i64 0) := K4.out.cell 1
  have fk0 : w4.frozen? ⟨b, 0, none⟩ = false := K4.out.frozen 0
  have fk1 : w4.frozen? ⟨b, 1, none⟩ = false := K4.out.frozen 1
  have hgb : g ≠ b := fun e => hbg e.symm
  have hgb2 : g ≠ b2 := fun e => hb2g e.symm
  clear hm
  go_wp2_with fail
  refine (atT_any g p n f 1 j _ (by go_keep) (by go_keep) (by omega) (by omega) (by omega) HJ.out).mono ?_
  rintro e w' ⟨rfl, m2, rfl⟩
  go_wp2_with fail
  obtain ⟨W, hW⟩ : ∃ W, W = (((((w4.drewN m2).setCell ⟨g, 1, none⟩ (.int .i64 (j : Int))).setCell ⟨g, 2, none⟩ (.int .i64 (m : Int))).setCell ⟨b, 0, none⟩ (.string x.s)).setCell ⟨b, 1, none⟩ (.int .i64 x.n)) := ⟨_, rfl⟩
  have hpg1 : p ≠ g := hne
  have G5 : Blk W g 66 #[.slice (some ⟨p, 0, none⟩) n n, .int .i64 (j : Int), .int .i64 (q.length : Int)] := by
    have := ((((G4.out.drewN m2).set_ 1 (.int .i64 (j : Int))).set_ 2 (.int .i64 (m : Int))).far (p := ⟨b, 0, none⟩) hgb (.string x.s)).far (p := ⟨b, 1, none⟩) hgb (.int .i64 x.n)
    rw [hW, ← HMM.out]
    exact this
  have P5 : Blk W p 47 (flatE Th.cells (xs.set f th0)).toArray := by
    have := ((((P4.out.drewN m2).far (p := ⟨g, 1, none⟩) hne (.int .i64 (j : Int))).far (p := ⟨g, 2, none⟩) hne (.int .i64 (m : Int))).far (p := ⟨b, 0, none⟩) (fun e => hbp e.symm) (.string x.s)).far (p := ⟨b, 1, none⟩) (fun e => hbp e.symm) (.int .i64 x.n)
    rw [hW]
    exact this
  have K5 : Blk W b 47 #[.string x.s, .int .i64 x.n] := by
    have := ((((K4.out.drewN m2).far (p := ⟨g, 1, none⟩) hbg (.int .i64 (j : Int))).far (p := ⟨g, 2, none⟩) hbg (.int .i64 (m : Int))).set_ 0 (.string x.s)).set_ 1 (.int .i64 x.n)
    rw [hW]
    exact this
  have C5 : Chg (ringF g p) w W := by
    rw [hW]
    exact ((((C4.out.drewN m2).setCell (p := ⟨g, 1, none⟩) (.inl (.inl rfl)) _).setCell (p := ⟨g, 2, none⟩) (.inl (.inl rfl)) _).setCell (p := ⟨b, 0, none⟩) (.inr (by rw [GB.out]; exact Nat.le_refl _)) _).setCell (p := ⟨b, 1, none⟩) (.inr (by rw [GB.out]; exact Nat.le_refl _)) _
  have R5 : RT W g p n j (xs.set f th0) q := ⟨G5, P5, by rw [List.length_set, HRR.out.1], hjn, by rw [← HMM.out]; omega, hn, fun k y hy => by
    have hk := (List.getElem?_eq_some_iff.1 hy).1
    have h1 := HRR.out.2 (k + 1) y (by simpa using hy)
    have e : (j + k) % n = (f + (k + 1)) % n := by
      rw [HJ.out, Nat.add_mod, Nat.mod_mod, ← Nat.add_mod]; congr 1; omega
    rw [e, List.getElem?_set_ne]
    · exact h1
    · have := mod_ne (f := f) (k := 0) (m := k + 1) (n := n) (by omega) (by rw [← HMM.out] at hk; omega) hfn
      rwa [Nat.add_zero, Nat.mod_eq_of_lt hfn] at this⟩
  have q0 : W.cell? ⟨b, 0, none⟩ = some (.string x.s) := K5.cell 0
  have q1 : W.cell? ⟨b, 1, none⟩ = some (.int .i64 x.n) := K5.cell 1
  rw [← hW]
  clear hW
  refine bodyPost_ret (v := .tuple #[.agg #[.string x.s, .int .i64 x.n], .bool true]) (by simp [results, Try.results16, go_sem, q0, q1]) rfl ?_
  exact ⟨rfl, j, _, R5, C5⟩
end Go.Proofs.Ytckhmdeeddjkhaa
