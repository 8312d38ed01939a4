/- The list of all alerts that were pushed; the state of DeliverOrder (printed by a program of ours). -/
import Derived.Test.YtjkocghbnljifaaDelSame
import Derived.ArgAppend
import Derived.Maps.AppendAt
namespace Go.Proofs.Ytjkocghbnljifaa
open Go.RowKit
/-- the slice (A, m, c) holds q, in a block of the call's own -/
def AW (w : World) (base : Nat) (A : Option Addr) (m c : Nat) (q : List Th) : Prop :=
  q.length = m ∧ m ≤ c ∧ c ≤ maxLen ∧ ((A = none ∧ c = 0) ∨ ∃ g off cur, A = some ⟨g, off, none⟩ ∧ base ≤ g ∧ Blk w g 44 cur ∧ off + c * 12 ≤ cur.size ∧ ∀ i u, (flatE Th.cells q)[i]? = some u → cur[off + i]? = some u)
def inB (A : Option Addr) : Nat → Prop := fun k => ∃ ad, A = some ad ∧ ad.block = k
theorem AW.nil (w : World) (base : Nat) : AW w base none 0 0 [] := ⟨rfl, Nat.le_refl _, Nat.zero_le _, .inl ⟨rfl, rfl⟩⟩
theorem AW.chg {S : Nat → Prop} {w w' : World} {base m c : Nat} {A : Option Addr} {q : List Th} (h : AW w base A m c q) (hc : Chg S w w') (hn : ∀ k, inB A k → ¬ S k) : AW w' base A m c q := by
  refine ⟨h.1, h.2.1, h.2.2.1, ?_⟩
  rcases h.2.2.2 with h1 | ⟨g, off, cur, rfl, hg, hB, hs, hc1⟩
  · exact .inl h1
  · exact .inr ⟨g, off, cur, rfl, hg, hB.chg hc (hn g ⟨_, rfl, rfl⟩), hs, hc1⟩
theorem AW.keep {w w' : World} {base m c : Nat} {A : Option Addr} {q : List Th} (h : AW w base A m c q) (hb : Below w.heap.size w w') : AW w' base A m c q := h.chg (Chg.of_below hb (fun _ => False)) (fun _ _ h => h)
theorem AW.lt {w : World} {base m c : Nat} {A : Option Addr} {q : List Th} (h : AW w base A m c q) : ∀ k, inB A k → base ≤ k ∧ k < w.heap.size := by
  rintro k ⟨ad, rfl, rfl⟩
  rcases h.2.2.2 with ⟨e, _⟩ | ⟨g, off, cur, e, hg, hB, _⟩
  · cases e
  · obtain rfl := Option.some.inj e
    exact ⟨hg, hB.lt⟩
theorem AW.as {w : World} {base m c : Nat} {A : Option Addr} {q : List Th} (h : AW w base A m c q) : AS w A m q := by
  refine ⟨h.1, fun j x hj => ?_⟩
  have hjl := (List.getElem?_eq_some_iff.1 hj).1
  rcases h.2.2.2 with ⟨_, e⟩ | ⟨g, off, cur, rfl, hg, hB, hs, hc⟩
  · have := h.1; have := h.2.1; omega
  · refine ⟨g, off, rfl, hB.lt, fun i u hu => ?_⟩
    rw [hB.cell, Nat.add_assoc]
    exact hc (j * 12 + i) u (flatE_at th_size q hj hu)
/-- the list from k on -/
theorem AS.drop {w : World} {m k : Nat} {A : Option Addr} {q : List Th} (h : AS w A m q) : ∀ A', (∀ g off, A = some ⟨g, off, none⟩ → k < m → A' = some ⟨g, off + k * 12, none⟩) → AS w A' (m - k) (q.drop k) := by
  intro A' hA
  refine ⟨by rw [List.length_drop, h.1], fun j x hj => ?_⟩
  rw [List.getElem?_drop] at hj
  obtain ⟨g, off, e, hlt, hc⟩ := h.2 _ _ hj
  have hjl := (List.getElem?_eq_some_iff.1 hj).1
  have := h.1
  refine ⟨g, off + k * 12, hA g off e (by omega), hlt, fun i u hu => ?_⟩
  have := hc i u hu
  rw [Nat.add_mul] at this
  rw [show off + k * 12 + j * 12 + i = off + (k * 12 + j * 12) + i from by omega]
  exact this
theorem th_one : ∀ x : Th, ∀ u ∈ x.cells.toList, u.oneCell' = true := by
  intro x u hu
  simp only [Th.cells, List.mem_cons, List.not_mem_nil, or_false] at hu
  rcases hu with rfl | rfl | rfl | rfl | rfl | rfl | rfl | rfl | rfl | rfl | rfl | rfl <;> rfl
/-- the deliverer, and what is known of it -/
structure DS (B : Nat) (W : World) (d g p N f : Nat) (xs q : List Th) (ba mo ji : Nat) (se : Bool) (re wt v : Nat) (A : Option Addr) (m c : Nat) (pl : List Th) (tk : Nat) (tr : Int) : Prop where
  dv : DV W d g p N f xs q ba mo ji se (re : Int) (wt : Int)
  wv : Blk W v 60 #[.int .i64 (N : Int), .int .i64 (ba : Int), .int .i64 (mo : Int), .int .i64 (ji : Int), .slice A m c, .int .i64 (tk : Int), .bool se, .int .i64 tr, .int .i64 (wt : Int)]
  al : AW W B A m c pl
  hq : q = pl.drop tk
  htk : tk ≤ m
  ap : ∀ k, inB A k → k ≠ d ∧ k ≠ g ∧ k ≠ p ∧ k ≠ v
  av : v ≠ d ∧ v ≠ g ∧ v ≠ p
  hse : se = true → q ≠ []
  htr : tr = (re : Int) + (if se then 1 else 0)
def dsF (d g p v : Nat) : Nat → Prop := fun k => k = d ∨ k = g ∨ k = p ∨ k = v
theorem DS.keep {B : Nat} {w w' : World} {d g p N f ba mo ji re wt v m c tk : Nat} {xs q pl : List Th} {se : Bool} {A : Option Addr} {tr : Int} (h : DS B w d g p N f xs q ba mo ji se re wt v A m c pl tk tr) (hb : Below w.heap.size w w') : DS B w' d g p N f xs q ba mo ji se re wt v A m c pl tk tr :=
  ⟨h.dv.keep hb, h.wv.keep hb, h.al.keep hb, h.hq, h.htk, h.ap, h.av, h.hse, h.htr⟩
theorem DS.len {B : Nat} {w : World} {d g p N f ba mo ji re wt v m c tk : Nat} {xs q pl : List Th} {se : Bool} {A : Option Addr} {tr : Int} (h : DS B w d g p N f xs q ba mo ji se re wt v A m c pl tk tr) : q.length = m - tk := by
  rw [h.hq, List.length_drop, h.al.1]
theorem DS.first {B : Nat} {w : World} {d g p N f ba mo ji re wt v m c tk : Nat} {xs q pl : List Th} {x : Th} {se : Bool} {A : Option Addr} {tr : Int} (h : DS B w d g p N f xs (x :: q) ba mo ji se re wt v A m c pl tk tr) : pl[tk]? = some x ∧ tk < m ∧ q = pl.drop (tk + 1) := by
  have h1 := h.hq
  have h2 : (pl.drop tk)[0]? = some x := by rw [← h1]; rfl
  rw [List.getElem?_drop, Nat.add_zero] at h2
  have := (List.getElem?_eq_some_iff.1 h2).1
  refine ⟨h2, by have := h.al.1; omega, ?_⟩
  have h3 : (x :: q).drop 1 = (pl.drop tk).drop 1 := by rw [h1]
  rw [List.drop_drop] at h3
  exact h3
end Go.Proofs.Ytjkocghbnljifaa
