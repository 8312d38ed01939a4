/- watch.send and watch.answer from any state; push. -/
import Derived.Test.YtjkocghbnljifaaDelApp
namespace Go.Proofs.Ytjkocghbnljifaa
open Go.RowKit
/-- the state, with its bounds: refused turns R, wait M -/
def DP (B : Nat) (W : World) (d g p v N ba mo ji : Nat) (A : Option Addr) (m c : Nat) (pl : List Th) (R M : Nat) : Prop :=
  ∃ f xs q se re wt tk tr, DS B W d g p N f xs q ba mo ji se re wt v A m c pl tk tr ∧ re ≤ R ∧ wt ≤ M
theorem DP.keep {B : Nat} {w w' : World} {d g p v N ba mo ji m c R M : Nat} {A : Option Addr} {pl : List Th} (h : DP B w d g p v N ba mo ji A m c pl R M) (hb : Below w.heap.size w w') : DP B w' d g p v N ba mo ji A m c pl R M := by
  obtain ⟨f, xs, q, se, re, wt, tk, tr, h1, h2, h3⟩ := h
  exact ⟨f, xs, q, se, re, wt, tk, tr, h1.keep hb, h2, h3⟩
def DAny (B d g p v N ba mo ji : Nat) (A : Option Addr) (m c : Nat) (pl : List Th) (R M : Nat) (w : World) (e : Ending) (w' : World) : Prop :=
  e = .returned (.bool true) ∧ DP B w' d g p v N ba mo ji A m c pl R M ∧ Chg (dsF d g p v) w w'
theorem wsend_any (B d g p v N ba mo ji m c R M : Nat) (A : Option Addr) (pl : List Th) (now : Nat) (w : World) (h : DP B w d g p v N ba mo ji A m c pl R M) (hnow : now ≤ 2305843009213693952) (hR : R ≤ 1000000) :
    Calls Try.prog 16 #[.pointer (some ⟨v, 0, none⟩), .pointer (some ⟨d, 0, none⟩), .int .i64 (now : Int)] w (DAny B d g p v N ba mo ji A m c pl R M w) := by
  obtain ⟨f, xs, q, se, re, wt, tk, tr, h1, h2, h3⟩ := h
  have no : (q = [] ∨ (q ≠ [] ∧ se = true) ∨ (q ≠ [] ∧ se = false ∧ now < wt)) → Calls Try.prog 16 #[.pointer (some ⟨v, 0, none⟩), .pointer (some ⟨d, 0, none⟩), .int .i64 (now : Int)] w (DAny B d g p v N ba mo ji A m c pl R M w) := fun hno => by
    refine (wsend_no B d g p N f ba mo ji re wt v m c tk xs q pl se A tr now w h1 hno hnow).mono ?_
    rintro e w' ⟨he, hb⟩
    exact ⟨he, ⟨f, xs, q, se, re, wt, tk, tr, h1.keep hb, h2, h3⟩, Chg.of_below hb _⟩
  cases q with
  | nil => exact no (.inl rfl)
  | cons x q =>
    cases se with
    | true => exact no (.inr (.inl ⟨by simp, rfl⟩))
    | false =>
      by_cases hlt : now < wt
      · exact no (.inr (.inr ⟨by simp, rfl, hlt⟩))
      · refine (wsend_ok B d g p N f ba mo ji re wt v m c tk xs q pl x A tr now w h1 (by omega) hnow (by omega)).mono ?_
        rintro e w' ⟨he, hd, hc⟩
        exact ⟨he, ⟨f, xs, x :: q, true, re, wt, tk, _, hd, h2, h3⟩, hc⟩
theorem wans_any (B d g p v N ba mo ji m c R M : Nat) (A : Option Addr) (pl : List Th) (o : Od) (now : Nat) (w : World) (h : DP B w d g p v N ba mo ji A m c pl R M) (hnow : now ≤ 2305843009213693952) (hR : R ≤ 1000000) (hba : ba ≤ 1099511627776) (hmo : mo ≤ 1099511627776) (hji : ji ≤ 1099511627776) :
    Calls Try.prog 17 #[.pointer (some ⟨v, 0, none⟩), .pointer (some ⟨d, 0, none⟩), .agg o.cells, .int .i64 (now : Int)] w (DAny B d g p v N ba mo ji A m c pl (R + 1) (max M (now + mo + ji)) w) := by
  obtain ⟨f, xs, q, se, re, wt, tk, tr, h1, h2, h3⟩ := h
  cases se with
  | false =>
    refine (wans_no B d g p N f ba mo ji re wt v m c tk xs q pl A tr o now w h1).mono ?_
    rintro e w' ⟨he, hb⟩
    exact ⟨he, ⟨f, xs, q, false, re, wt, tk, tr, h1.keep hb, by omega, by omega⟩, Chg.of_below hb _⟩
  | true =>
    cases q with
    | nil => exact absurd rfl (h1.hse rfl)
    | cons x q =>
      cases hy : o.y with
      | true =>
        refine (wans_yes B d g p N f ba mo ji re wt v m c tk xs q pl x A tr o hy now w h1).mono ?_
        rintro e w' ⟨he, f', xs', hd, hc⟩
        exact ⟨he, ⟨f', xs', q, false, 0, 0, tk + 1, 0, hd, by omega, by omega⟩, hc⟩
      | false =>
        refine (wans_again B d g p N f ba mo ji re wt v m c tk xs q pl x A tr o hy now w h1 hnow hba hmo hji (by omega)).mono ?_
        rintro e w' ⟨W, ⟨hW1, hW2⟩, he, f', xs', hd, hc⟩
        exact ⟨he, ⟨f', xs', x :: q, false, re + 1, W, tk, _, hd, by omega, by omega⟩, hc⟩
/-- the script that came in -/
def ODS (w : World) (A : Option Addr) (n : Nat) (l : List Od) : Prop :=
  l.length = n ∧ ∀ (j : Nat) (x : Od), l[j]? = some x → ∃ b off, A = some ⟨b, off, none⟩ ∧ b < w.heap.size ∧ ∀ i u, x.cells[i]? = some u → w.cell? ⟨b, off + j * 16 + i, none⟩ = some u
theorem ODS.keep {w w' : World} {A : Option Addr} {n : Nat} {l : List Od} (h : ODS w A n l) (hb : Below w.heap.size w w') : ODS w' A n l :=
  ⟨h.1, fun j x hj => by
    obtain ⟨g, off, e, hlt, hc⟩ := h.2 j x hj
    exact ⟨g, off, e, Nat.lt_of_lt_of_le hlt hb.size, fun i u hu => (hb.cell (p := ⟨g, _, none⟩) hlt).trans (hc i u hu)⟩⟩
end Go.Proofs.Ytjkocghbnljifaa
