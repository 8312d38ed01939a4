/- Words for memory that all the walks use: a slice of bytes that reads as a list. -/
import Derived.Below
import Derived.Laws.OwnMore
import Derived.Deep.AppendLies
import Derived.Deep.Draws
namespace Go.Proofs.YtlojmmcagglpoaaGreat
open Go.RowKit
theorem halt {p : Prop} (h : Hid p) : p := h
theorem unhalt {p : Prop} (h : p) : Hid p := h
def byteV (c : UInt8) : Value := .int .u8 (c.toNat : Int)
def RB (w : World) (A : Option Addr) (n : Nat) (l : List UInt8) : Prop :=
  l.length = n ∧ (0 < n → ∃ b off, A = some ⟨b, off, none⟩ ∧ b < w.heap.size ∧ ∀ j c, l[j]? = some c → w.cell? ⟨b, off + j, none⟩ = some (byteV c))
theorem RB.at_ {w : World} {A : Option Addr} {n : Nat} {l : List UInt8} (h : RB w A n l) {k : Nat} (hk : k < n) :
    ∃ b off, A = some ⟨b, off, none⟩ ∧ b < w.heap.size ∧ ∃ c : UInt8, l[k]? = some c ∧ w.cell? ⟨b, off + k, none⟩ = some (.int .u8 (c.toNat : Int)) := by
  obtain ⟨b, off, e, hb, hc⟩ := h.2 (by omega)
  have hl : k < l.length := by have := h.1; omega
  exact ⟨b, off, e, hb, l[k], List.getElem?_eq_getElem hl, hc k _ (List.getElem?_eq_getElem hl)⟩
theorem take_snoc {α : Type} {l : List α} {k : Nat} {c : α} (h : l[k]? = some c) : l.take (k + 1) = l.take k ++ [c] := by
  rw [List.take_add_one, h]; rfl
def RR (w : World) (A : Option Addr) (n : Nat) (ps : List (List UInt8)) : Prop :=
  ps.length = n ∧ (0 < n → ∃ b off, A = some ⟨b, off, none⟩ ∧ b < w.heap.size ∧
    ∀ j p, ps[j]? = some p → ∃ A' c', p.length ≤ c' ∧ w.cell? ⟨b, off + j, none⟩ = some (.slice A' p.length c') ∧ RB w A' p.length p)
theorem RB.keep {w w' : World} {A : Option Addr} {n : Nat} {l : List UInt8} (h : RB w A n l) (hb : Below w.heap.size w w') : RB w' A n l :=
  ⟨h.1, fun hn => by
    obtain ⟨b, off, e, hlt, hc⟩ := h.2 hn
    exact ⟨b, off, e, Nat.lt_of_lt_of_le hlt hb.size, fun j c hj => (hb.cell (p := ⟨b, off + j, none⟩) hlt).trans (hc j c hj)⟩⟩
theorem RB.nil (w : World) (A : Option Addr) : RB w A 0 [] := ⟨rfl, fun h => absurd h (by omega)⟩
theorem RB.new (w : World) (t : TypeId) (fr : Nat × Nat) (cs : Array Value) (l : List UInt8) (h : cs.toList = l.map byteV) (n : Nat) (hn : l.length = n) :
    RB (w.alloc (.cells cs t fr)) (some ⟨w.heap.size, 0, none⟩) n l := by
  refine ⟨hn, fun _ => ⟨_, _, rfl, by simp, fun j c hj => ?_⟩⟩
  have e : (w.alloc (.cells cs t fr)).heap[w.heap.size]? = some (.cells cs t fr) := heap_alloc_new w _
  simp only [World.cell?, e, Nat.zero_add]
  have h2 : cs[j]? = (l.map byteV)[j]? := by rw [← h]; simp
  simp only [Option.isSome_none, Bool.false_eq_true, if_false]
  rw [h2, List.getElem?_map, hj]; rfl
theorem RB.alloc {w : World} {A : Option Addr} {n : Nat} {l : List UInt8} (h : RB w A n l) (o : Obj) : RB (w.alloc o) A n l := h.keep ((Below.refl _ _).alloc (Nat.le_refl _) _)
theorem RB.take {w : World} {A : Option Addr} {n : Nat} {l : List UInt8} (h : RB w A n l) {k : Nat} (hk : k ≤ n) : RB w A k (l.take k) := by
  refine ⟨by have := h.1; simp; omega, fun hn => ?_⟩
  obtain ⟨b, off, e, hb, hc⟩ := h.2 (by omega)
  refine ⟨b, off, e, hb, fun j c hj => hc j c ?_⟩
  rw [List.getElem?_take] at hj
  split at hj
  · exact hj
  · cases hj
theorem RB.drop {w : World} {A : Option Addr} {n : Nat} {l : List UInt8} (h : RB w A n l) {k cap : Nat} (hk : k ≤ n) (hc : n ≤ cap) : RB w (if cap = k then A else A.map (·.add k)) (n - k) (l.drop k) := by
  refine ⟨by have := h.1; simp; omega, fun hn => ?_⟩
  obtain ⟨b, off, e, hb, hcell⟩ := h.2 (by omega)
  rw [if_neg (by omega)]
  subst e
  refine ⟨b, off + k, ?_, hb, fun j c hj => ?_⟩
  · simp only [Option.map_some, Addr.add]
    by_cases h0 : k = 0
    · subst h0; simp
    · simp [h0]
  · rw [List.getElem?_drop] at hj
    have := hcell _ _ hj
    rwa [← Nat.add_assoc] at this
theorem RB.drewN {w : World} {A : Option Addr} {n : Nat} {l : List UInt8} (h : RB w A n l) (k : Nat) : RB (w.drewN k) A n l := h
theorem below_drewN {B : Nat} {a w : World} (h : Below B a w) (n : Nat) : Below B a (w.drewN n) := ⟨h.os, h.tape, h.output, h.size, h.block⟩
theorem quiet {P : Program} {f : FuncId} {args : Array Value} {w : World} {n : Nat} {v : Value} (h : Calls P f args (w.drewN n) fun e w' => e = .returned v ∧ w.drewN n = w') :
    Calls P f args (w.drewN n) fun e w'' => e = .returned v ∧ ∃ m, w'' = w.drewN m := h.mono fun _ _ ⟨he, hm⟩ => ⟨he, n, hm.symm⟩
end Go.Proofs.YtlojmmcagglpoaaGreat
