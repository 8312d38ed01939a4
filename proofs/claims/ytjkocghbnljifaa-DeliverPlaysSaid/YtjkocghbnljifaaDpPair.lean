/- Send and Answer, the program's behind the document's: the same answer, and the state behind both. -/
import Derived.Test.YtjkocghbnljifaaDpStepA
namespace Go.Proofs.Ytjkocghbnljifaa
open Go.RowKit
theorem dsend_no (d g p N f ba mo ji : Nat) (xs q : List Th) (se : Bool) (re wt : Int) (now : Int) (w : World) (h : DV w d g p N f xs q ba mo ji se re wt) (hno : q = [] ∨ se = true ∨ tmC now < wt) :
    Calls Try.prog 18 #[.pointer (some ⟨d, 0, none⟩), .int .i64 now] w (SendNo w) := by
  cases q with
  | nil => exact send_nil d g p N f ba mo ji xs se re wt now w h
  | cons x q =>
    cases se with
    | true => exact send_sent d g p N f ba mo ji xs q x re wt now w h
    | false =>
      refine send_early d g p N f ba mo ji xs q x re wt now w h ?_
      rcases hno with e | e | e
      · cases e
      · cases e
      · exact e
section
variable {w0 w1 : World} {C : Nat → Nat} {d g p r k N ba mo ji f : Nat} {xs q : List Th} {A : Option Addr} {m c : Nat} {se : Bool} {re : Nat} {wt : Int} {vr vw : Value} {rs : List (Nat × List Th)} {us : List Value}
/-- what the second call leaves -/
def Left (w0 : World) (d g p r k N ba mo ji i : Nat) (v : Value) (w2 : World) (e : Ending) (w3 : World) : Prop :=
  e = .returned v ∧ (∃ S : Nat → Prop, Chg S w2 w3 ∧ ∀ b, S b → b = d ∨ b = g ∨ b = p) ∧ ∀ w4, Below w3.heap.size w3 w4 → PL w0 w4 d r k N ba mo ji i
/-- what the first call leaves -/
def First (v : Value) (PR : World → Prop) (e : Ending) (w' : World) : Prop := e = .returned v ∧ PR w'
theorem send_pair (h : PT w0 w1 C d g p r k N ba mo ji f xs q A m c se re wt vr vw rs us) {i : Nat} (hre : re ≤ i) (hrs : rs.length ≤ 2 * i) (hi : i ≤ 300) (now : Int) :
    ∃ (x : Th) (v : Int) (b : Bool) (PR : World → Prop),
      Calls Try.prog 23 #[.pointer (some ⟨r, 0, none⟩), .int .i64 now] w1 (First (.tuple #[.agg x.cells, .int .i64 v, .bool b]) PR) ∧
      (∀ w', PR w' → ∃ S : Nat → Prop, Chg S w1 w' ∧ ∀ b, S b → b = r) ∧
      (∀ w' w2, PR w' → Below w'.heap.size w' w2 → Calls Try.prog 18 #[.pointer (some ⟨d, 0, none⟩), .int .i64 now] w2 (Left w0 d g p r k N ba mo ji (i + 1) (.tuple #[.agg x.cells, .int .i64 v, .bool b]) w2)) := by
  by_cases hno : q = [] ∨ se = true ∨ tmC now < wt
  · refine ⟨th0, 0, false, fun w' => Below w1.heap.size w1 w', rsend_no w0.heap.size r A m c q N ba mo ji se re wt now w1 h.rv hno, fun w' hb => ⟨fun _ => False, Chg.of_below hb _, fun _ e => e.elim⟩, fun w' w2 hb hb2 => ?_⟩
    have hb3 := hb.trans (hb2.mono hb.size)
    refine (dsend_no d g p N f ba mo ji xs q se re wt now w2 (h.keep hb3).dv hno).mono ?_
    rintro e w3 ⟨rfl, hb4⟩
    refine ⟨rfl, ⟨fun _ => False, Chg.of_below hb4 _, fun _ e => e.elim⟩, fun w4 hb5 => ?_⟩
    have hb6 := (hb3.trans (hb4.mono hb3.size))
    exact ⟨_, _, _, _, _, _, _, _, _, _, _, _, _, _, _, _, h.keep (hb6.trans (hb5.mono hb6.size)), by omega, by omega⟩
  · have hq : q ≠ [] := fun e => hno (.inl e)
    have hse : se = false := by cases se; rfl; exact absurd (.inr (.inl rfl)) hno
    have hwt : wt ≤ tmC now := Int.not_lt.1 (fun e => hno (.inr (.inr e)))
    obtain ⟨x, qs, rfl⟩ := List.exists_cons_of_ne_nil hq
    subst hse
    have hdl := h.dv.blk.lt
    have hrl := h.rv.blk.lt
    have hdr : d ≠ r := fun e => by have := h.cd.1; have := h.cr; rw [e] at *; omega
    have hgr : g ≠ r := fun e => by have := h.cd.2.1; have := h.cr; rw [e] at *; omega
    have hpr : p ≠ r := fun e => by have := h.cd.2.2; have := h.cr; rw [e] at *; omega
    have hAd : ∀ b, inB A b → b ≠ d := fun b hb e => by have := h.cd.1; have := h.ca b hb; rw [e] at this; omega
    refine ⟨x, (re : Int) + 1, true, fun w' => RV w' w0.heap.size r A m c (x :: qs) N ba mo ji true re wt ∧ Chg (fun k => k = r) w1 w', (rsend_ok w0.heap.size r A m c _ x qs N ba mo ji false re wt now w1 h.rv rfl rfl hwt (by omega)).mono (fun e w' h => ⟨h.1, h.2⟩), fun w' hp => ⟨fun k => k = r, hp.2, fun _ e => e⟩, fun w' w2 hp hb2 => ?_⟩
    obtain ⟨hr1, hc1⟩ := hp
    have hd2 : DV w2 d g p N f xs (x :: qs) ba mo ji false re wt := (h.dv.chg hc1 hdr hgr hpr).keep hb2
    refine (send_ok d g p N f ba mo ji xs qs x re wt now w2 hd2 hwt (by omega)).mono ?_
    rintro e w3 ⟨rfl, hd3, hc3⟩
    have hr3 : RV w3 w0.heap.size r A m c (x :: qs) N ba mo ji true re wt := (hr1.keep hb2).chg hc3 (fun e => hdr e.symm) hAd
    have hc : Chg (fun b => b = r ∨ b = d) w1 w3 := ((hc1.mono (fun _ _ e => Or.inl e)).trans (Chg.of_below hb2 (fun _ => False)) (fun _ _ e => e.elim)).trans hc3 (fun _ _ e => Or.inr e)
    refine ⟨rfl, ⟨fun b => b = d, hc3, fun b e => .inl e⟩, fun w4 hb5 => ?_⟩
    exact ⟨_, _, _, _, _, _, _, _, _, _, _, _, _, _, _, _, (h.go hc (fun b _ e => by rcases e with e | e; exact .inr (.inr (.inr (.inl e))); exact .inl e) hd3 hr3 (fun b hb => .inl hb) (fun _ => by simp)).keep hb5, by omega, by omega⟩
theorem answer_pair (h : PT w0 w1 C d g p r k N ba mo ji f xs q A m c se re wt vr vw rs us) {i : Nat} (hre : re ≤ i) (hrs : rs.length ≤ 2 * i) (hi : i ≤ 300) (yes : Bool) (now jit : Int) :
    ∃ (x : Th) (b : Bool) (PR : World → Prop),
      Calls Try.prog 24 #[.pointer (some ⟨r, 0, none⟩), .bool yes, .int .i64 now, .int .i64 jit] w1 (First (.tuple #[.agg x.cells, .bool b]) PR) ∧
      (∀ w', PR w' → ∃ S : Nat → Prop, Chg S w1 w' ∧ ∀ b, S b → b = r) ∧
      (∀ w' w2, PR w' → Below w'.heap.size w' w2 → Calls Try.prog 19 #[.pointer (some ⟨d, 0, none⟩), .bool yes, .int .i64 now, .int .i64 jit] w2 (Left w0 d g p r k N ba mo ji (i + 1) (.tuple #[.agg x.cells, .bool b]) w2)) := by
  cases se with
  | false =>
    refine ⟨th0, false, fun w' => Below w1.heap.size w1 w', rans_no w0.heap.size r A m c q N ba mo ji false re wt yes now jit w1 h.rv rfl, fun w' hb => ⟨fun _ => False, Chg.of_below hb _, fun _ e => e.elim⟩, fun w' w2 hb hb2 => ?_⟩
    have hb3 := hb.trans (hb2.mono hb.size)
    refine (ans_no d g p N f ba mo ji xs q re wt yes now jit w2 (h.keep hb3).dv).mono ?_
    rintro e w3 ⟨rfl, hb4⟩
    refine ⟨rfl, ⟨fun _ => False, Chg.of_below hb4 _, fun _ e => e.elim⟩, fun w4 hb5 => ?_⟩
    have hb6 := (hb3.trans (hb4.mono hb3.size))
    exact ⟨_, _, _, _, _, _, _, _, _, _, _, _, _, _, _, _, h.keep (hb6.trans (hb5.mono hb6.size)), by omega, by omega⟩
  | true =>
    obtain ⟨x, qs, rfl⟩ := List.exists_cons_of_ne_nil (h.hse rfl)
    have hdl := h.dv.blk.lt
    have hgl := h.dv.ring.blk.lt
    have hpl := h.dv.ring.arr.lt
    have hrl := h.rv.blk.lt
    have hdr : d ≠ r := fun e => by have := h.cd.1; have := h.cr; rw [e] at *; omega
    have hgr : g ≠ r := fun e => by have := h.cd.2.1; have := h.cr; rw [e] at *; omega
    have hpr : p ≠ r := fun e => by have := h.cd.2.2; have := h.cr; rw [e] at *; omega
    have hAd : ∀ b, inB A b → ¬ dvF d g p b := fun b hb e => by
      have hc : C b = 0 := by rcases e with rfl | rfl | rfl; exact h.cd.1; exact h.cd.2.1; exact h.cd.2.2
      have := h.ca b hb; omega
    have hrd : ¬ dvF d g p r := fun e => by rcases e with e | e | e; exact hdr e.symm; exact hgr e.symm; exact hpr e.symm
    have key : ∀ (q' : List Th) (m' : Nat) (re' : Nat) (wt' : Int), re' ≤ i + 1 →
        (∀ W, RV W w0.heap.size r A m c (x :: qs) N ba mo ji true re wt → Calls Try.prog 24 #[.pointer (some ⟨r, 0, none⟩), .bool yes, .int .i64 now, .int .i64 jit] W (RAns w0.heap.size r A m' q' x N ba mo ji (re' : Int) wt' W)) →
        (∀ W, DV W d g p N f xs (x :: qs) ba mo ji true re wt → Calls Try.prog 19 #[.pointer (some ⟨d, 0, none⟩), .bool yes, .int .i64 now, .int .i64 jit] W (AnsP d g p N q' x ba mo ji (re' : Int) wt' W)) → ∃ (x : Th) (b : Bool) (PR : World → Prop),
      Calls Try.prog 24 #[.pointer (some ⟨r, 0, none⟩), .bool yes, .int .i64 now, .int .i64 jit] w1 (First (.tuple #[.agg x.cells, .bool b]) PR) ∧
      (∀ w', PR w' → ∃ S : Nat → Prop, Chg S w1 w' ∧ ∀ b, S b → b = r) ∧
      (∀ w' w2, PR w' → Below w'.heap.size w' w2 → Calls Try.prog 19 #[.pointer (some ⟨d, 0, none⟩), .bool yes, .int .i64 now, .int .i64 jit] w2 (Left w0 d g p r k N ba mo ji (i + 1) (.tuple #[.agg x.cells, .bool b]) w2)) := by
      intro q' m' re' wt' hre' hR hD
      refine ⟨x, true, fun w' => ∃ A' c', RV w' w0.heap.size r A' m' c' q' N ba mo ji false (re' : Int) wt' ∧ Chg (fun k => k = r) w1 w' ∧ ∀ k, inB A' k → inB A k, (hR w1 h.rv).mono (fun e w' h => ⟨h.1, h.2⟩), fun w' hp => by obtain ⟨_, _, _, hc, _⟩ := hp; exact ⟨fun k => k = r, hc, fun _ e => e⟩, fun w' w2 hp hb2 => ?_⟩
      obtain ⟨A', c', hr1, hc1, hA⟩ := hp
      have hd2 : DV w2 d g p N f xs (x :: qs) ba mo ji true re wt := (h.dv.chg hc1 hdr hgr hpr).keep hb2
      refine (hD w2 hd2).mono ?_
      rintro e w3 ⟨rfl, f', xs', hd3, hc3⟩
      have hr3 : RV w3 w0.heap.size r A' m' c' q' N ba mo ji false (re' : Int) wt' := (hr1.keep hb2).chg hc3 hrd (fun b hb => hAd b (hA b hb))
      have hc : Chg (fun b => b = r ∨ dvF d g p b) w1 w3 := ((hc1.mono (fun _ _ e => Or.inl e)).trans (Chg.of_below hb2 (fun _ => False)) (fun _ _ e => e.elim)).trans hc3 (fun _ _ e => Or.inr e)
      refine ⟨rfl, ⟨dvF d g p, hc3, fun b e => e⟩, fun w4 hb5 => ?_⟩
      exact ⟨_, _, _, _, _, _, _, _, _, _, _, _, _, _, _, _, (h.go hc (fun b _ e => by rcases e with e | e | e | e; exact .inr (.inr (.inr (.inl e))); exact .inl e; exact .inr (.inl e); exact .inr (.inr (.inl e))) hd3 hr3 (fun b hb => .inl (hA b hb)) (fun e => by cases e)).keep hb5, hre', by omega⟩
    cases yes with
    | true => exact key qs (m - 1) 0 0 (by omega) (fun W hr => rans_yes w0.heap.size r A m c _ x qs N ba mo ji true re wt now jit W hr rfl rfl) (fun W hd => ans_yes d g p N f ba mo ji xs qs x re wt now jit W hd)
    | false =>
      have e1 : (((re + 1 : Nat)) : Int) = (re : Int) + 1 := by omega
      refine key (x :: qs) m (re + 1) (duI (tmC now) ba mo re jit ji) (by omega) (fun W hr => ?_) (fun W hd => ?_)
      · rw [e1]; exact rans_again w0.heap.size r A m c _ x qs N ba mo ji true re wt now jit W hr rfl rfl (by omega)
      · rw [e1]; exact ans_again d g p N f ba mo ji xs qs x re wt now jit W hd (by omega)
end
end Go.Proofs.Ytjkocghbnljifaa
