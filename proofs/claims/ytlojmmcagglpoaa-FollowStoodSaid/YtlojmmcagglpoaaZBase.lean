/- Words for memory that all the walks use: a slice of bytes that reads as a list. -/
import Derived.Below
import Derived.Laws.OwnMore
import Derived.Deep.AppendLies
import Derived.Deep.Draws
namespace Go.Proofs.Ytlojmmcagglpoaa
open Go.RowKit
/-- the walk stops at a goal that is hidden -/
theorem halt {p : Prop} (h : Hid p) : p := h
theorem unhalt {p : Prop} (h : p) : Hid p := h
def byteV (c : UInt8) : Value := .int .u8 (c.toNat : Int)
/-- the slice (A, n) reads as the bytes l -/
def RB (w : World) (A : Option Addr) (n : Nat) (l : List UInt8) : Prop :=
  l.length = n ∧ (0 < n → ∃ b off, A = some ⟨b, off, none⟩ ∧ b < w.heap.size ∧ ∀ j c, l[j]? = some c → w.cell? ⟨b, off + j, none⟩ = some (byteV c))
theorem RB.at_ {w : World} {A : Option Addr} {n : Nat} {l : List UInt8} (h : RB w A n l) {k : Nat} (hk : k < n) :
    ∃ b off, A = some ⟨b, off, none⟩ ∧ b < w.heap.size ∧ ∃ c : UInt8, l[k]? = some c ∧ w.cell? ⟨b, off + k, none⟩ = some (.int .u8 (c.toNat : Int)) := by
  obtain ⟨b, off, e, hb, hc⟩ := h.2 (by omega)
  have hl : k < l.length := by have := h.1; omega
  exact ⟨b, off, e, hb, l[k], List.getElem?_eq_getElem hl, hc k _ (List.getElem?_eq_getElem hl)⟩
theorem take_snoc {α : Type} {l : List α} {k : Nat} {c : α} (h : l[k]? = some c) : l.take (k + 1) = l.take k ++ [c] := by
  rw [List.take_add_one, h]; rfl
/-- the slice (A, n) reads as the pieces ps -/
def RR (w : World) (A : Option Addr) (n : Nat) (ps : List (List UInt8)) : Prop :=
  ps.length = n ∧ (0 < n → ∃ b off, A = some ⟨b, off, none⟩ ∧ b < w.heap.size ∧
    ∀ j p, ps[j]? = some p → ∃ A' c', p.length ≤ c' ∧ w.cell? ⟨b, off + j, none⟩ = some (.slice A' p.length c') ∧ RB w A' p.length p)
theorem RR.at_ {w : World} {A : Option Addr} {n : Nat} {ps : List (List UInt8)} (h : RR w A n ps) {k : Nat} (hk : k < n) :
    ∃ b off, A = some ⟨b, off, none⟩ ∧ b < w.heap.size ∧ ∃ p A' c', ps[k]? = some p ∧ p.length ≤ c' ∧ w.cell? ⟨b, off + k, none⟩ = some (.slice A' p.length c') ∧ RB w A' p.length p := by
  obtain ⟨b, off, e, hb, hc⟩ := h.2 (by omega)
  have hl : k < ps.length := by have := h.1; omega
  obtain ⟨A', c', h0, h1, h2⟩ := hc k _ (List.getElem?_eq_getElem hl)
  exact ⟨b, off, e, hb, ps[k], A', c', List.getElem?_eq_getElem hl, h0, h1, h2⟩
theorem RB.keep {w w' : World} {A : Option Addr} {n : Nat} {l : List UInt8} (h : RB w A n l) (hb : Below w.heap.size w w') : RB w' A n l :=
  ⟨h.1, fun hn => by
    obtain ⟨b, off, e, hlt, hc⟩ := h.2 hn
    exact ⟨b, off, e, Nat.lt_of_lt_of_le hlt hb.size, fun j c hj => (hb.cell (p := ⟨b, off + j, none⟩) hlt).trans (hc j c hj)⟩⟩
theorem RR.keep {w w' : World} {A : Option Addr} {n : Nat} {ps : List (List UInt8)} (h : RR w A n ps) (hb : Below w.heap.size w w') : RR w' A n ps :=
  ⟨h.1, fun hn => by
    obtain ⟨b, off, e, hlt, hc⟩ := h.2 hn
    refine ⟨b, off, e, Nat.lt_of_lt_of_le hlt hb.size, fun j p hj => ?_⟩
    obtain ⟨A', c', h0, h1, h2⟩ := hc j p hj
    exact ⟨A', c', h0, (hb.cell (p := ⟨b, off + j, none⟩) hlt).trans h1, h2.keep hb⟩⟩
theorem RB.nil (w : World) (A : Option Addr) : RB w A 0 [] := ⟨rfl, fun h => absurd h (by omega)⟩
/-- a new block that holds the bytes -/
theorem RB.new (w : World) (t : TypeId) (fr : Nat × Nat) (cs : Array Value) (l : List UInt8) (h : cs.toList = l.map byteV) (n : Nat) (hn : l.length = n) :
    RB (w.alloc (.cells cs t fr)) (some ⟨w.heap.size, 0, none⟩) n l := by
  refine ⟨hn, fun _ => ⟨_, _, rfl, by simp, fun j c hj => ?_⟩⟩
  have e : (w.alloc (.cells cs t fr)).heap[w.heap.size]? = some (.cells cs t fr) := heap_alloc_new w _
  simp only [World.cell?, e, Nat.zero_add]
  have h2 : cs[j]? = (l.map byteV)[j]? := by rw [← h]; simp
  simp only [Option.isSome_none, Bool.false_eq_true, if_false]
  rw [h2, List.getElem?_map, hj]; rfl
theorem RB.new' (w : World) (t : TypeId) (fr : Nat × Nat) (cs : Array Value) (l : List UInt8) (h : cs.toList = l.map byteV) (n g : Nat) (hg : g = w.heap.size) (hn : l.length = n) :
    RB (w.alloc (.cells cs t fr)) (some ⟨g, 0, none⟩) n l := by
  subst hg; exact RB.new w t fr cs l h n hn
theorem RB.alloc {w : World} {A : Option Addr} {n : Nat} {l : List UInt8} (h : RB w A n l) (o : Obj) : RB (w.alloc o) A n l := h.keep ((Below.refl _ _).alloc (Nat.le_refl _) _)
theorem RR.new (w : World) (t : TypeId) (cs : Array Value) (ps : List (List UInt8)) (n g : Nat) (hg : g = w.heap.size) (hn : ps.length = n)
    (h : ∀ (j : Nat) p, ps[j]? = some p → ∃ A' c', p.length ≤ c' ∧ cs[j]? = some (.slice A' p.length c') ∧ RB w A' p.length p) :
    RR (w.alloc (.cells cs t)) (some ⟨g, 0, none⟩) n ps := by
  subst hg
  refine ⟨hn, fun _ => ⟨_, _, rfl, by simp, fun j p hj => ?_⟩⟩
  obtain ⟨A', c', h0, h1, h2⟩ := h j p hj
  have e : (w.alloc (.cells cs t)).heap[w.heap.size]? = some (.cells cs t) := heap_alloc_new w _
  refine ⟨A', c', h0, ?_, h2.alloc _⟩
  simp only [World.cell?, e, Nat.zero_add, Option.isSome_none, Bool.false_eq_true, if_false]
  exact h1
theorem RR.two (w : World) (t : TypeId) (A A' : Option Addr) (n n' c c' : Nat) (p q : List UInt8) {g : Nat} (hg : g = w.heap.size) (hnc : n ≤ c) (hnc' : n' ≤ c') (hp : RB w A n p) (hq : RB w A' n' q) :
    RR (w.alloc (.cells #[.slice A n c, .slice A' n' c'] t)) (some ⟨g, 0, none⟩) 2 [p, q] := by
  obtain rfl := hp.1
  obtain rfl := hq.1
  refine RR.new _ _ _ _ _ _ hg rfl fun j x hj => ?_
  match j, hj with
  | 0, hj => obtain rfl := Option.some.inj hj; exact ⟨_, _, hnc, rfl, hp⟩
  | 1, hj => obtain rfl := Option.some.inj hj; exact ⟨_, _, hnc', rfl, hq⟩
  | j + 2, hj => simp at hj
theorem RB.take {w : World} {A : Option Addr} {n : Nat} {l : List UInt8} (h : RB w A n l) {k : Nat} (hk : k ≤ n) : RB w A k (l.take k) := by
  refine ⟨by have := h.1; simp; omega, fun hn => ?_⟩
  obtain ⟨b, off, e, hb, hc⟩ := h.2 (by omega)
  refine ⟨b, off, e, hb, fun j c hj => hc j c ?_⟩
  rw [List.getElem?_take] at hj
  split at hj
  · exact hj
  · cases hj
theorem RB.drop {w : World} {A : Option Addr} {n : Nat} {l : List UInt8} (h : RB w A n l) {k cap : Nat} (hk : k ≤ n) (hc : n ≤ cap) : RB w (if cap = k then A else A.map (·.add k)) (n - k) (l.drop k) := by
  refine ⟨by have := h.1; simp; omega, fun hn => ?_⟩
  obtain ⟨b, off, e, hb, hcell⟩ := h.2 (by omega)
  rw [if_neg (by omega)]
  subst e
  refine ⟨b, off + k, ?_, hb, fun j c hj => ?_⟩
  · simp only [Option.map_some, Addr.add]
    by_cases h0 : k = 0
    · subst h0; simp
    · simp [h0]
  · rw [List.getElem?_drop] at hj
    have := hcell _ _ hj
    rwa [← Nat.add_assoc] at this
theorem RB.drewN {w : World} {A : Option Addr} {n : Nat} {l : List UInt8} (h : RB w A n l) (k : Nat) : RB (w.drewN k) A n l := h
theorem RR.drewN {w : World} {A : Option Addr} {n : Nat} {l : List (List UInt8)} (h : RR w A n l) (k : Nat) : RR (w.drewN k) A n l := h
theorem below_drewN {B : Nat} {a w : World} (h : Below B a w) (n : Nat) : Below B a (w.drewN n) := ⟨h.os, h.tape, h.output, h.size, h.block⟩
theorem quiet {P : Program} {f : FuncId} {args : Array Value} {w : World} {n : Nat} {v : Value} (h : Calls P f args (w.drewN n) fun e w' => e = .returned v ∧ w.drewN n = w') :
    Calls P f args (w.drewN n) fun e w'' => e = .returned v ∧ ∃ m, w'' = w.drewN m := h.mono fun _ _ ⟨he, hm⟩ => ⟨he, n, hm.symm⟩
theorem le_sum (ps : List (List UInt8)) {p : List UInt8} (h : p ∈ ps) : p.length ≤ (ps.map List.length).sum := by
  induction ps with
  | nil => cases h
  | cons q ps ih =>
    simp only [List.map_cons, List.sum_cons]
    rcases List.mem_cons.1 h with rfl | h
    · omega
    · have := ih h; omega
theorem flat_snoc {ps : List (List UInt8)} {k : Nat} {p : List UInt8} (h : ps[k]? = some p) : (ps.take (k + 1)).flatten = (ps.take k).flatten ++ p := by
  rw [take_snoc h, List.flatten_append]; simp
theorem RB.one {w : World} {b off n : Nat} {l : List UInt8} {c : UInt8} {k : Nat} (h : RB w (some ⟨b, off, none⟩) n l) (hk : l[k]? = some c) : RB w (some ⟨b, off + k, none⟩) 1 [c] := by
  have hl : k < l.length := (List.getElem?_eq_some_iff.1 hk).1
  obtain ⟨b', off', e, hb, hc⟩ := h.2 (by have := h.1; omega)
  simp only [Option.some.injEq, Addr.mk.injEq, and_true] at e
  obtain ⟨rfl, rfl⟩ := e
  refine ⟨rfl, fun _ => ⟨b, off + k, rfl, hb, fun j c' hj => ?_⟩⟩
  match j, hj with
  | 0, hj => obtain rfl := Option.some.inj hj; exact hc k c hk
  | j + 1, hj => simp at hj
theorem flat_take (ps : List (List UInt8)) (k : Nat) : (ps.take k).flatten.length ≤ (ps.map List.length).sum := by
  rw [List.length_flatten]
  induction ps generalizing k with
  | nil => simp
  | cons p ps ih =>
    cases k with
    | zero => simp
    | succ k => simp only [List.take_succ_cons, List.map_cons, List.sum_cons]; have := ih k; omega
theorem bcell {W w1 : World} (hb : Below W.heap.size W w1) : (∀ b o, b < W.heap.size → w1.cell? ⟨b, o, none⟩ = W.cell? ⟨b, o, none⟩) ∧ (∀ b o, b < W.heap.size → w1.frozen? ⟨b, o, none⟩ = W.frozen? ⟨b, o, none⟩) :=
  ⟨fun b o h => hb.cell (p := ⟨b, o, none⟩) h, fun b o h => hb.frozen (p := ⟨b, o, none⟩) h⟩
end Go.Proofs.Ytlojmmcagglpoaa
