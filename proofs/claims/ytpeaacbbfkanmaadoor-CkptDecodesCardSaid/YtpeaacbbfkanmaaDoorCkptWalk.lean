/- THE WALKS of package ckpt: numbers, may, lay. -/
import Derived.Test.YtpeaacbbfkanmaaDoorRecRead
import Derived.Test.YtpeaacbbfkanmaaDoorCrcWalk
import Derived.Deep.RegionHeld3
import Derived.Deep.DeepCutAuto
import Derived.LoopN
import Derived.Outline
namespace Go.Proofs.YtpeaacbbfkanmaaDoor
open Go.RowKit
structure Mk where
  a0 : Int
  a1 : Int
  a2 : Int
  a3 : Int
  a4 : Int
  a5 : Int
  a6 : Int
  a7 : Int
  a8 : Int
def Mk.list (m : Mk) : List Int := [m.a0, m.a1, m.a2, m.a3, m.a4, m.a5, m.a6, m.a7, m.a8]
def Mk.cells (m : Mk) : Array Value := #[.int .i64 m.a0, .int .i64 m.a1, .int .i64 m.a2, .int .i64 m.a3, .int .i64 m.a4, .int .i64 m.a5, .int .i64 m.a6, .int .i64 m.a7, .int .i64 m.a8]
def ptrs (b o : Nat) : Array Value := #[.pointer (some ⟨b, o, none⟩), .pointer (some ⟨b, o + 1, none⟩), .pointer (some ⟨b, o + 2, none⟩), .pointer (some ⟨b, o + 3, none⟩), .pointer (some ⟨b, o + 4, none⟩), .pointer (some ⟨b, o + 5, none⟩), .pointer (some ⟨b, o + 6, none⟩), .pointer (some ⟨b, o + 7, none⟩), .pointer (some ⟨b, o + 8, none⟩)]
def NumsPost (b o : Nat) (w : World) (e : Ending) (w' : World) : Prop :=
  e = .returned (.slice (some ⟨w.heap.size, 0, none⟩) 9 9) ∧ ∃ m, (w.alloc (.cells (ptrs b o) 52)).drewN m = w'
set_option maxRecDepth 100000 in
set_option maxHeartbeats 2000000 in
theorem numbers_any (b o : Nat) (w : World) :
    Calls Tryd.prog 22 #[.pointer (some ⟨b, o, none⟩)] w (NumsPost b o w) := by
  go_enter Tryd.func22, Tryd.ntmps22
  go_wp2_with fail
  go_region_held3 (fun _ => True) (first | exact True.intro | simp) (fail)
  go_wp2_with fail
  go_ret
  exact ⟨rfl, 1, rfl⟩
def bigB (x : Int) : Bool := decide (x < 0 ∨ 4611686018427387904 < x)
def oddB (m : Mk) : Bool := (decide (0 < m.a1) && (m.a0 == 0)) || ((m.a1 == 0) && (decide (0 < m.a2) || decide (0 < m.a3)))
def mayM (m : Mk) : Bool := (m.list.all fun x => !bigB x) && !oddB m
def mayB (l : List Mk) : Bool := l.all mayM && (decide (1 ≤ l.length) && decide (l.length ≤ 8))
/-- a slice of marks reads as these -/
def MS (w : World) (A : Option Addr) (n : Nat) (l : List Mk) : Prop :=
  l.length = n ∧ (0 < n → ∃ b off, A = some ⟨b, off, none⟩ ∧ b < w.heap.size ∧ ∀ (j : Nat) (m : Mk), l[j]? = some m → ∀ (k : Nat) (u : Value), m.cells[k]? = some u → w.cell? ⟨b, off + j * 9 + k, none⟩ = some u)
theorem MS.keep {w w' : World} {A : Option Addr} {n : Nat} {l : List Mk} (h : MS w A n l) (hb : Below w.heap.size w w') : MS w' A n l :=
  ⟨h.1, fun hn => by
    obtain ⟨b, off, e, hlt, hc⟩ := h.2 hn
    exact ⟨b, off, e, Nat.lt_of_lt_of_le hlt hb.size, fun j m hj k u hu => (hb.cell (p := ⟨b, _, none⟩) hlt).trans (hc j m hj k u hu)⟩⟩
theorem MS.at_ {w : World} {A : Option Addr} {n : Nat} {l : List Mk} (h : MS w A n l) {j : Nat} (hj : j < n) :
    ∃ b off m, A = some ⟨b, off, none⟩ ∧ b < w.heap.size ∧ l[j]? = some m ∧ w.cell? ⟨b, off + j * 9, none⟩ = some (.int .i64 m.a0) ∧ w.cell? ⟨b, off + j * 9 + 1, none⟩ = some (.int .i64 m.a1) ∧ w.cell? ⟨b, off + j * 9 + 2, none⟩ = some (.int .i64 m.a2) ∧ w.cell? ⟨b, off + j * 9 + 3, none⟩ = some (.int .i64 m.a3) ∧ w.cell? ⟨b, off + j * 9 + 4, none⟩ = some (.int .i64 m.a4) ∧ w.cell? ⟨b, off + j * 9 + 5, none⟩ = some (.int .i64 m.a5) ∧ w.cell? ⟨b, off + j * 9 + 6, none⟩ = some (.int .i64 m.a6) ∧ w.cell? ⟨b, off + j * 9 + 7, none⟩ = some (.int .i64 m.a7) ∧ w.cell? ⟨b, off + j * 9 + 8, none⟩ = some (.int .i64 m.a8) := by
  obtain ⟨b, off, e, hlt, hc⟩ := h.2 (by omega)
  have hl : j < l.length := by have := h.1; omega
  have q := hc j _ (List.getElem?_eq_getElem hl)
  exact ⟨b, off, l[j], e, hlt, List.getElem?_eq_getElem hl, q 0 _ rfl, q 1 _ rfl, q 2 _ rfl, q 3 _ rfl, q 4 _ rfl, q 5 _ rfl, q 6 _ rfl, q 7 _ rfl, q 8 _ rfl⟩
theorem list_cell (m : Mk) (j : Nat) (x : Int) (h : m.list[j]? = some x) : m.cells[j]? = some (.int .i64 x) := by
  match j, h with
  | 0, h => obtain rfl := Option.some.inj h; rfl
  | 1, h => obtain rfl := Option.some.inj h; rfl
  | 2, h => obtain rfl := Option.some.inj h; rfl
  | 3, h => obtain rfl := Option.some.inj h; rfl
  | 4, h => obtain rfl := Option.some.inj h; rfl
  | 5, h => obtain rfl := Option.some.inj h; rfl
  | 6, h => obtain rfl := Option.some.inj h; rfl
  | 7, h => obtain rfl := Option.some.inj h; rfl
  | 8, h => obtain rfl := Option.some.inj h; rfl
  | j + 9, h => simp [Mk.list] at h
theorem ptrs_at (b o j : Nat) (h : j < 9) : (ptrs b o)[j]? = some (.pointer (some ⟨b, o + j, none⟩)) := by
  match j, h with
  | 0, _ => rfl
  | 1, _ => rfl
  | 2, _ => rfl
  | 3, _ => rfl
  | 4, _ => rfl
  | 5, _ => rfl
  | 6, _ => rfl
  | 7, _ => rfl
  | 8, _ => rfl
theorem bad_mark {l : List Mk} {k j : Nat} {m : Mk} {x : Int} (hk : l[k]? = some m) (hj : m.list[j]? = some x) (hx : bigB x = true) : mayB l = false := by
  have h1 : mayM m = false := by
    unfold mayM
    have : (m.list.all fun x => !bigB x) = false := by
      rw [List.all_eq_false]
      exact ⟨x, List.mem_of_getElem? hj, by simp [hx]⟩
    rw [this]; rfl
  have h2 : l.all mayM = false := by
    rw [List.all_eq_false]
    exact ⟨m, List.mem_of_getElem? hk, by simp [h1]⟩
  unfold mayB; rw [h2]; rfl
theorem odd_mark {l : List Mk} {k : Nat} {m : Mk} (hk : l[k]? = some m) (hx : oddB m = true) : mayB l = false := by
  have h1 : mayM m = false := by unfold mayM; rw [hx]; simp
  have h2 : l.all mayM = false := by
    rw [List.all_eq_false]
    exact ⟨m, List.mem_of_getElem? hk, by simp [h1]⟩
  unfold mayB; rw [h2]; rfl
end Go.Proofs.YtpeaacbbfkanmaaDoor
