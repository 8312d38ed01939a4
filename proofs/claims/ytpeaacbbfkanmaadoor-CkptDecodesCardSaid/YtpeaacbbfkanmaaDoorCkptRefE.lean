/- THE WALK of the reference's Decode. -/
import Derived.Test.YtpeaacbbfkanmaaDoorCkptRefD
namespace Go.Proofs.YtpeaacbbfkanmaaDoor
open Go.RowKit
/-- a number of eight bytes as a signed one -/
def s64 (x : Nat) : Int := RowKit.wrap64 (x : Int)
theorem s64_small {x : Nat} (h : x < 9223372036854775808) : s64 x = x := by unfold s64 RowKit.wrap64; omega
theorem s64_nonneg {x : Nat} (h : x < 18446744073709551616) (h0 : 0 ≤ s64 x) : s64 x = x := by unfold s64 RowKit.wrap64 at *; omega
theorem s64_step (x c : Nat) : RowKit.wrap64 (RowKit.wrap64 (s64 x * 256) + c) = s64 (c + 256 * x) := by unfold s64 RowKit.wrap64; rw [Int.natCast_add, Int.natCast_mul]; omega
theorem numAt_lt (b : List UInt8) (p : Nat) : numAt b p < 18446744073709551616 := leV_take _ 8 (by omega)
def mkRAt (b : List UInt8) (p : Nat) : Mk := ⟨s64 (numAt b p), s64 (numAt b (p + 8)), s64 (numAt b (p + 16)), s64 (numAt b (p + 24)), s64 (numAt b (p + 32)), s64 (numAt b (p + 40)), s64 (numAt b (p + 48)), s64 (numAt b (p + 56)), s64 (numAt b (p + 64))⟩
def parseR (b : List UInt8) (n : Nat) : List Mk := (List.range n).map fun i => mkRAt b (9 + 72 * i)
theorem parseR_length (b : List UInt8) (n : Nat) : (parseR b n).length = n := by simp [parseR]
theorem parseR_succ (b : List UInt8) (n : Nat) : parseR b (n + 1) = parseR b n ++ [mkRAt b (9 + 72 * n)] := by simp [parseR, List.range_succ]
theorem mk_same {b : List UInt8} {p : Nat} (h : mayM (mkRAt b p) = true ∨ mayM (mkAt b p) = true) : mkRAt b p = mkAt b p := by
  have hb : ∀ q, s64 (numAt b q) ∈ (mkRAt b p).list → (numAt b q : Int) ∈ (mkAt b p).list → s64 (numAt b q) = (numAt b q : Int) := fun q h1 h2 => by
    rcases h with h | h
    · unfold mayM at h
      simp only [Bool.and_eq_true] at h
      have h3 := List.all_eq_true.1 h.1 _ h1
      simp [bigB] at h3
      exact s64_nonneg (numAt_lt b q) (by omega)
    · unfold mayM at h
      simp only [Bool.and_eq_true] at h
      have h3 := List.all_eq_true.1 h.1 _ h2
      simp [bigB] at h3
      exact s64_small (by omega)
  have q0 := hb p (by simp [mkRAt, Mk.list]) (by simp [mkAt, Mk.list])
  have q1 := hb (p + 8) (by simp [mkRAt, Mk.list]) (by simp [mkAt, Mk.list])
  have q2 := hb (p + 16) (by simp [mkRAt, Mk.list]) (by simp [mkAt, Mk.list])
  have q3 := hb (p + 24) (by simp [mkRAt, Mk.list]) (by simp [mkAt, Mk.list])
  have q4 := hb (p + 32) (by simp [mkRAt, Mk.list]) (by simp [mkAt, Mk.list])
  have q5 := hb (p + 40) (by simp [mkRAt, Mk.list]) (by simp [mkAt, Mk.list])
  have q6 := hb (p + 48) (by simp [mkRAt, Mk.list]) (by simp [mkAt, Mk.list])
  have q7 := hb (p + 56) (by simp [mkRAt, Mk.list]) (by simp [mkAt, Mk.list])
  have q8 := hb (p + 64) (by simp [mkRAt, Mk.list]) (by simp [mkAt, Mk.list])
  unfold mkRAt mkAt
  rw [q0, q1, q2, q3, q4, q5, q6, q7, q8]
theorem all_at {l : List Mk} (h : mayB l = true) {i : Nat} {m : Mk} (hm : l[i]? = some m) : mayM m = true := List.all_eq_true.1 (mayB_parts h).1 m (List.mem_of_getElem? hm)
theorem parseR_at (b : List UInt8) (n k : Nat) (h : k < n) : (parseR b n)[k]? = some (mkRAt b (9 + 72 * k)) := by
  unfold parseR
  rw [List.getElem?_map, List.getElem?_range h]; rfl
theorem parse_same {b : List UInt8} {n : Nat} (h : mayB (parseR b n) = true ∨ mayB (parse b n) = true) : parseR b n = parse b n := by
  refine List.ext_getElem? fun i => ?_
  by_cases hi : i < n
  · rw [parseR_at b n i hi, parse_at b n i hi, mk_same]
    rcases h with h | h
    · exact .inl (all_at h (parseR_at b n i hi))
    · exact .inr (all_at h (parse_at b n i hi))
  · rw [List.getElem?_eq_none (by rw [parseR_length]; omega), List.getElem?_eq_none (by rw [parse_length]; omega)]
theorem decR_true {b : List UInt8} {n : Nat} (h : decB b n = true) : parseR b n = parse b n ∧ mayB (parseR b n) = true ∧ encB (parseR b n) = b := by
  obtain ⟨h1, h2, h3⟩ := decB_form h
  have e := parse_same (.inr h2)
  exact ⟨e, by rw [e]; exact h2, by rw [e]; exact h1⟩
theorem decR_iff {b : List UInt8} {n : Nat} (hm : mayB (parseR b n) = true) : decB b n = true ↔ encB (parseR b n) = b := by
  constructor
  · intro h; exact (decR_true h).2.2
  · intro h
    have := decB_enc hm
    rwa [h, parseR_length] at this
/-- nine numbers in their block -/
def rowF (f : Nat → Int) : Array Value := #[.int .i64 (f 0), .int .i64 (f 1), .int .i64 (f 2), .int .i64 (f 3), .int .i64 (f 4), .int .i64 (f 5), .int .i64 (f 6), .int .i64 (f 7), .int .i64 (f 8)]
def upF (f : Nat → Int) (k : Nat) (x : Int) : Nat → Int := fun q => if q = k then x else f q
theorem rowF_set (f : Nat → Int) (k : Nat) (hk : k < 9) (x : Int) : (rowF f).setIfInBounds k (.int .i64 x) = rowF (upF f k x) := by
  match k, hk with
  | 0, _ => rfl
  | 1, _ => rfl
  | 2, _ => rfl
  | 3, _ => rfl
  | 4, _ => rfl
  | 5, _ => rfl
  | 6, _ => rfl
  | 7, _ => rfl
  | 8, _ => rfl
theorem rowF_at (f : Nat → Int) (k : Nat) (hk : k < 9) : (rowF f)[k]? = some (.int .i64 (f k)) := by
  match k, hk with
  | 0, _ => rfl
  | 1, _ => rfl
  | 2, _ => rfl
  | 3, _ => rfl
  | 4, _ => rfl
  | 5, _ => rfl
  | 6, _ => rfl
  | 7, _ => rfl
  | 8, _ => rfl
def fK (b : List UInt8) (p k : Nat) : Nat → Int := fun q => if q < k then s64 (numAt b (p + 8 * q)) else 0
theorem upF_upF (f : Nat → Int) (k : Nat) (x y : Int) : upF (upF f k x) k y = upF f k y := by funext q; unfold upF; split <;> rfl
theorem fK_succ (b : List UInt8) (p k : Nat) : upF (fK b p k) k (s64 (numAt b (p + 8 * k))) = fK b p (k + 1) := by
  funext q
  unfold upF fK
  by_cases h : q = k
  · subst h; rw [if_pos rfl, if_pos (by omega)]
  · rw [if_neg h]
    by_cases h2 : q < k
    · rw [if_pos h2, if_pos (by omega)]
    · rw [if_neg h2, if_neg (by omega)]
theorem fK_zero (b : List UInt8) (p k : Nat) : upF (fK b p k) k 0 = fK b p k := by
  funext q
  unfold upF fK
  by_cases h : q = k
  · subst h; rw [if_pos rfl, if_neg (by omega)]
  · rw [if_neg h]
theorem fK_nine (b : List UInt8) (p : Nat) : rowF (fK b p 9) = (mkRAt b p).cells := by
  unfold rowF fK mkRAt Mk.cells
  simp only [Nat.reduceLT, if_true, Nat.reduceMul, Nat.add_zero]
end Go.Proofs.YtpeaacbbfkanmaaDoor
