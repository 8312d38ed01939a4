/- One region of DeliverPlays (a call, and what is asked behind it), over a frame of letters (printed by a program of ours). -/
import Derived.Test.YtjkocghbnljifaaDpWhole
import Derived.Test.YtjkocghbnljifaaDelR25
namespace Go.Proofs.Ytjkocghbnljifaa
open Go.RowKit
attribute [local go_sem ↓] Go.wp_at_zero Go.wp_at_succ
theorem PL.keep {w0 w w' : World} {d r k N ba mo ji i : Nat} (h : PL w0 w d r k N ba mo ji i) (hb : Below w.heap.size w w') : PL w0 w' d r k N ba mo ji i := by
  obtain ⟨C, g, p, f, xs, q, A, m, c, se, re, wt, vr, vw, rs, us, hp, h1, h2⟩ := h
  exact ⟨C, g, p, f, xs, q, A, m, c, se, re, wt, vr, vw, rs, us, hp.keep hb, h1, h2⟩
/-- what is asked behind a call: cells and contracts that hold at W and at every world later than W -/
def Asks (w0 W : World) (d r k N ba mo ji i g : Nat) (A : Option Addr) (m c : Nat) (wt : Int) (bv : Bool) : Prop :=
  ∀ W', Below W.heap.size W W' →
    (W'.cell? ⟨d, 0, none⟩ = some (.pointer (some ⟨g, 0, none⟩)) ∧ W'.cell? ⟨r, 0, none⟩ = some (.slice A m c) ∧ W'.cell? ⟨r, 1, none⟩ = some (.int .i64 (N : Int)) ∧ W'.cell? ⟨r, 7, none⟩ = some (.int .i64 wt)) ∧
    Calls Try.prog 9 #[.pointer (some ⟨d, 0, none⟩)] W' (fun e w' => e = .returned (.int .i64 wt) ∧ W' = w') ∧
    Calls Try.prog 10 #[.pointer (some ⟨g, 0, none⟩)] W' (fun e w' => e = .returned (.bool bv) ∧ Below W.heap.size W w') ∧
    Calls Try.prog 12 #[.pointer (some ⟨d, 0, none⟩)] W' (fun e w' => ∃ a, e = .returned (.slice (some ⟨a, 0, none⟩) m m) ∧ Below W.heap.size W w' ∧ Hid (∀ W2, Below w'.heap.size w' W2 → Calls Try.prog 11 #[.slice (some ⟨a, 0, none⟩) m m, .slice A m c] W2 (fun e w3 => e = .returned (.bool true) ∧ Below W.heap.size W w3))) ∧
    PL w0 W' d r k N ba mo ji i
theorem PL.asks {w0 W : World} {d r k N ba mo ji i : Nat} (h : PL w0 W d r k N ba mo ji i) : ∃ (g : Nat) (A : Option Addr) (m c : Nat) (wt : Int) (bv : Bool), ((m : Int) == (N : Int)) = bv ∧ Asks w0 W d r k N ba mo ji i g A m c wt bv := by
  obtain ⟨C, g, p, f, xs, q, A, m, c, se, re, wt, vr, vw, rs, us, hp, h1, h2⟩ := h
  have hl := hp.len
  have hn := hp.hN
  refine ⟨g, A, m, c, wt, decide (m = N), ?_, fun W' hb => ?_⟩
  · by_cases e : m = N
    · subst e; simp
    · rw [decide_eq_false e, beq_eq_false_iff_ne]; omega
  · have hk := hp.keep hb
    refine ⟨⟨hk.dv.blk.cell 0, hk.rv.blk.cell 0, hk.rv.blk.cell 1, hk.rv.blk.cell 7⟩, wait_any d g p N f ba mo ji xs q se re wt W' hk.dv, ?_, ?_, ⟨C, g, p, f, xs, q, A, m, c, se, re, wt, vr, vw, rs, us, hk, h1, h2⟩⟩
    · refine (fullT_any g p N f xs q W' hk.dv.ring).mono ?_
      rintro e w' ⟨rfl, t, rfl⟩
      rw [hl.1]
      exact ⟨rfl, below_drewN hb _⟩
    · refine (queue_any d g p N f ba mo ji xs q se re wt W' hk.dv).mono ?_
      rintro e w' ⟨a, rfl, _, ha, hb2⟩
      rw [hl.1]
      have hb3 := hb.trans (hb2.mono hb.size)
      have hAS := AS.of_blk ha
      rw [hl.1] at hAS
      refine ⟨a, rfl, hb3, Lib.hid (fun W2 hb4 => ?_)⟩
      have hk2 := (hp.keep hb3).keep hb4
      refine (same_al _ _ m m c q W2 (hAS.keep hb4) hk2.rv.al.as (by omega) (Nat.le_refl _) hl.2.1).mono ?_
      rintro e w3 ⟨rfl, t, rfl⟩
      exact ⟨rfl, below_drewN (hb3.trans (hb4.mono hb3.size)) _⟩
end Go.Proofs.Ytjkocghbnljifaa
