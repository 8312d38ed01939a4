/- The state of the law DeliverOrder, and how it goes on. -/
import Derived.Test.YtjkocghbnljifaaDelAny
namespace Go.Proofs.Ytjkocghbnljifaa
open Go.RowKit
/-- the whole state of the law -/
def OM (w0 W : World) (s d v N ba mo ji now i : Nat) : Prop :=
  ∃ g p A m c pl R M, DP w0.heap.size W d g p v N ba mo ji A m c pl R M ∧ Blk W s 23 #[.int .i64 (N : Int), .int .i64 (ba : Int), .int .i64 (mo : Int), .int .i64 (ji : Int)] ∧ (s ≠ d ∧ s ≠ g ∧ s ≠ p ∧ s ≠ v ∧ ∀ k, inB A k → k ≠ s) ∧
    (w0.heap.size ≤ s ∧ w0.heap.size ≤ d ∧ w0.heap.size ≤ g ∧ w0.heap.size ≤ p ∧ w0.heap.size ≤ v) ∧ Below w0.heap.size w0 W ∧ m ≤ i ∧ R ≤ i ∧ M ≤ now + mo + ji ∧ now ≤ i * 1073741824
theorem OM.keep {w0 w w' : World} {s d v N ba mo ji now i : Nat} (h : OM w0 w s d v N ba mo ji now i) (hb : Below w.heap.size w w') : OM w0 w' s d v N ba mo ji now i := by
  obtain ⟨g, p, A, m, c, pl, R, M, h1, h2, h3, h4, h5, h6⟩ := h
  exact ⟨g, p, A, m, c, pl, R, M, h1.keep hb, h2.keep hb, h3, h4, h5.trans (hb.mono h5.size), h6⟩
theorem OM.turn {w0 w w' : World} {s d v N ba mo ji now' i : Nat} {g p : Nat} {A : Option Addr} {m c : Nat} {pl : List Th} {R M : Nat}
    (h2 : Blk w s 23 #[.int .i64 (N : Int), .int .i64 (ba : Int), .int .i64 (mo : Int), .int .i64 (ji : Int)]) (h3 : s ≠ d ∧ s ≠ g ∧ s ≠ p ∧ s ≠ v ∧ ∀ k, inB A k → k ≠ s)
    (h4 : w0.heap.size ≤ s ∧ w0.heap.size ≤ d ∧ w0.heap.size ≤ g ∧ w0.heap.size ≤ p ∧ w0.heap.size ≤ v) (h5 : Below w0.heap.size w0 w)
    (h1 : DP w0.heap.size w' d g p v N ba mo ji A m c pl R M) (hc : Chg (dsF d g p v) w w') (hm : m ≤ i) (hR : R ≤ i) (hM : M ≤ now' + mo + ji) (hn : now' ≤ i * 1073741824) : OM w0 w' s d v N ba mo ji now' i :=
  ⟨g, p, A, m, c, pl, R, M, h1, h2.chg hc (fun e => by rcases e with e | e | e | e; exact h3.1 e; exact h3.2.1 e; exact h3.2.2.1 e; exact h3.2.2.2.1 e), h3, h4, h5.trans (hc.below (fun k hk e => by rcases e with e | e | e | e <;> omega) h5.size), hm, hR, hM, hn⟩
theorem OM.later {w0 w w' : World} {s d v N ba mo ji now now' i i' : Nat} (h : OM w0 w s d v N ba mo ji now i) (hb : Below w.heap.size w w') (hn : now ≤ now') (hi : i ≤ i') (hx : now' ≤ i' * 1073741824) : OM w0 w' s d v N ba mo ji now' i' := by
  obtain ⟨g, p, A, m, c, pl, R, M, h1, h2, h3, h4, h5, h6, h7, h8, h9⟩ := h
  exact ⟨g, p, A, m, c, pl, R, M, h1.keep hb, h2.keep hb, h3, h4, h5.trans (hb.mono h5.size), by omega, by omega, by omega, hx⟩
theorem OM.push {w0 w6 w8 wx w' : World} {s d v N ba mo ji now' i : Nat} {g p : Nat} {A A' : Option Addr} {m c c' : Nat} {pl : List Th} {f : Nat} {xs xs' q : List Th} {se : Bool} {re wt tk : Nat} {tr : Int} (x : Th)
    (h2 : Blk w6 s 23 #[.int .i64 (N : Int), .int .i64 (ba : Int), .int .i64 (mo : Int), .int .i64 (ji : Int)]) (h3 : s ≠ d ∧ s ≠ g ∧ s ≠ p ∧ s ≠ v ∧ ∀ k, inB A k → k ≠ s)
    (h4 : w0.heap.size ≤ s ∧ w0.heap.size ≤ d ∧ w0.heap.size ≤ g ∧ w0.heap.size ≤ p ∧ w0.heap.size ≤ v) (h5 : Below w0.heap.size w0 w6)
    (h1 : DS w0.heap.size w6 d g p N f xs q ba mo ji se re wt v A m c pl tk tr)
    (hd8 : DV w8 d g p N f xs' (q ++ [x]) ba mo ji se (re : Int) (wt : Int)) (hc8 : Chg (ringF g p) w6 w8) (hb : Below w8.heap.size w8 wx)
    (a1 : AW w' w0.heap.size A' (m + 1) c' (pl ++ [x])) (a2 : Chg (inB A) wx w') (a3 : ∀ k, inB A' k → inB A k ∨ wx.heap.size ≤ k)
    (hm : m + 1 ≤ i) (hR : re ≤ i) (hM : wt ≤ now' + mo + ji) (hn : now' ≤ i * 1073741824) :
    OM w0 (w'.setCell ⟨v, 4, none⟩ (.slice A' (m + 1) c')) s d v N ba mo ji now' i := by
  have hal := h1.al.lt
  have hap := h1.ap
  have hav := h1.av
  have sz6 := hc8.size
  have sz8 := hb.size
  have sz' := a2.size
  have hdl := h1.dv.blk.lt
  have hgl := h1.dv.ring.blk.lt
  have hpl := h1.dv.ring.arr.lt
  have hvl := h1.wv.lt
  have hsl := h2.lt
  have v' := ((h1.wv.chg hc8 (fun e => by rcases e with e | e; exact hav.2.1 e; exact hav.2.2 e)).keep hb).chg a2 (fun e => (hap v e).2.2.2 rfl)
  have v'' := v'.set_ 4 (.slice A' (m + 1) c')
  have hcs : Chg (fun k => k = v) w' (w'.setCell ⟨v, 4, none⟩ (.slice A' (m + 1) c')) := Chg.setCell (S := fun k => k = v) (p := ⟨v, 4, none⟩) (Chg.refl _ w') (.inl rfl) _
  have ap' : ∀ k, inB A' k → k ≠ d ∧ k ≠ g ∧ k ≠ p ∧ k ≠ v := fun k hk => by
    rcases a3 k hk with e | e
    · exact hap k e
    · exact ⟨by omega, by omega, by omega, by omega⟩
  have D' := (hd8.keep hb).chg a2 (fun e => (hap d e).1 rfl) (fun e => (hap g e).2.1 rfl) (fun e => (hap p e).2.2.1 rfl)
  have D'' := D'.chg hcs (fun e => hav.1 e.symm) (fun e => hav.2.1 e.symm) (fun e => hav.2.2 e.symm)
  have S'' := (((h2.chg hc8 (fun e => by rcases e with e | e; exact h3.2.1 e; exact h3.2.2.1 e)).keep hb).chg a2 (fun e => h3.2.2.2.2 s e rfl)).chg hcs (fun e => h3.2.2.2.1 e)
  have b8 := h5.trans (hc8.below (fun k hk e => by rcases e with e | e <;> omega) h5.size)
  have bx := b8.trans (hb.mono b8.size)
  have b' := bx.trans (a2.below (fun k hk e => by have := hal k e; omega) bx.size)
  have b'' := b'.trans (hcs.below (fun k hk e => by omega) b'.size)
  refine ⟨g, p, A', m + 1, c', pl ++ [x], re, wt, ⟨f, xs', q ++ [x], se, re, wt, tk, tr, ⟨D'', by simpa using v'', a1.chg hcs (fun k hk e => (ap' k hk).2.2.2 e), ?_, by have := h1.htk; omega, ap', hav, fun _ => by simp, h1.htr⟩, Nat.le_refl _, Nat.le_refl _⟩, S'', ⟨h3.1, h3.2.1, h3.2.2.1, h3.2.2.2.1, fun k hk => ?_⟩, h4, b'', hm, hR, hM, hn⟩
  · rw [List.drop_append_of_le_length (by rw [h1.al.1]; exact h1.htk), ← h1.hq]
  · rcases a3 k hk with e | e
    · exact h3.2.2.2.2 k e
    · omega
theorem Blk.apartT {w : World} {a b : Nat} {t u : TypeId} {x y : Array Value} (h : Blk w a t x) (h' : Blk w b u y) (hne : t ≠ u) : a ≠ b := by
  rintro rfl
  unfold Blk at h h'
  rw [h] at h'
  injection h' with h'
  injection h' with _ ht
  exact hne ht
/-- an op's block is apart from all that the law holds -/
theorem DS.away {B : Nat} {W : World} {d g p N f ba mo ji re wt v m c tk : Nat} {xs q pl : List Th} {se : Bool} {A : Option Addr} {tr : Int} (h : DS B W d g p N f xs q ba mo ji se re wt v A m c pl tk tr) {z : Nat} {x : Array Value} (hz : Blk W z 46 x) : z ≠ g ∧ z ≠ p ∧ z ≠ v ∧ ∀ k, inB A k → k ≠ z :=
  ⟨hz.apartT h.dv.ring.blk (by decide), hz.apartT h.dv.ring.arr (by decide), hz.apartT h.wv (by decide), fun k hk e => by
    obtain ⟨ad, e1, e2⟩ := hk
    rcases h.al.2.2.2 with ⟨e3, _⟩ | ⟨b, off, cur, e3, _, hB, _⟩
    · rw [e1] at e3; cases e3
    · rw [e1] at e3
      obtain rfl := Option.some.inj e3
      exact hz.apartT hB (by decide) (by rw [← e, ← e2])⟩
end Go.Proofs.Ytjkocghbnljifaa
