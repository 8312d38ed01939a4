/- A drawn region whose own stores write cells that it has loaded: a condition on the world that may hang on which operations have come up. -/
import Derived.Test.YtlojmmcagglpoaaGreatUFrame
import Derived.OrdersHeld
import Derived.Deep.RegionHeld3
namespace Go.Proofs.YtlojmmcagglpoaaGreat
open Go.RowKit
def regionOf (n : Nat) : Code → Option Code
  | .region id ops b => if id = n then some (.region id ops b) else none
  | .seq a b => match regionOf n a with
    | some c => some c
    | none => regionOf n b
  | .loop c => regionOf n c
  | .block _ c => regionOf n c
  | .scope c => regionOf n c
  | .cond _ a b => match regionOf n a with
    | some c => some c
    | none => regionOf n b
  | _ => none
section
variable {P : Program} {ops : Array Oper} {Q : Exit → Act → World → Prop} {md : Region.Mode} {S : Array Bool → World → Prop}
def anyL (P : Program) (md : Region.Mode) (ops : Array Oper) (Q : Exit → Act → World → Prop) (S : Array Bool → World → Prop) : Nat → Array Bool → Act → World → Prop
  | 0, ls, a, w => Region.ready md ops ls = [] ∧ Q .normal a w
  | n + 1, ls, a, w => (Region.ready md ops ls = [] → Q .normal a w) ∧ ∀ i ∈ Region.ready md ops ls, wpOp P ops Q i (fun a' w' => S (ls.setIfInBounds i true) w' ∧ anyL P md ops Q S n (ls.setIfInBounds i true) a' w') a w
theorem any_of_L : ∀ (n : Nat) (ls : Array Bool) (a : Act) (w : World), anyL P md ops Q S n ls a w → wpAny P md ops Q n ls a w
  | 0, _, _, _, h => h
  | n + 1, _, _, _, h => ⟨h.1, fun i hi => wpOp_mono (fun a' w' h' => any_of_L n _ a' w' h'.2) (h.2 i hi)⟩
theorem anyL_done {ls : Array Bool} {a : Act} {w : World} (hr : Region.ready md ops ls = []) (h : Q .normal a w) : ∀ n, anyL P md ops Q S n ls a w
  | 0 => ⟨hr, h⟩
  | _ + 1 => ⟨fun _ => h, by rw [hr]; simp⟩
theorem anyC_first {i s : Nat} {ch : List Nat} {oi : Oper} {v : Value} {T : World → Prop} (hi : ops[i]? = some oi) (hsel : ∀ (j : Nat) (o : Oper) cs b, ops[j]? = some o → o.op ≠ .select cs b)
    (hQ : ∀ c a w, Q (.panic c) (a.put oi.dst v) w → Q (.panic c) a w) (hst : ∀ ls w, ls.getD s false = false → S ls w → T w) (hsi : ∀ ls w, S (ls.setIfInBounds i true) w → S ls w) (hsc : s ∈ ch)
    (hw8 : ∀ c ∈ ch, ∀ o, ops[c]? = some o → ∃ e ∈ o.after, Region.binds md e = true ∧ (e.on = i ∨ e.on ∈ ch)) :
    ∀ (n : Nat) (ls : Array Bool) (a : Act) (w : World), (∀ c ∈ ch, ls.getD c false = false) →
      (∀ j oj, ops[j]? = some oj → j ≠ i → ls.getD j true = false → (∀ e ∈ oj.after, Region.binds md e = true → e.on ≠ i) → oi.apart ops oj = true) →
      i ∈ Region.ready md ops ls → YieldsIf P ops T oi v a → S ls w → S (ls.setIfInBounds i true) w →
      anyL P md ops Q S n (ls.setIfInBounds i true) (a.put oi.dst v) w → anyL P md ops Q S (n + 1) ls a w := by
  intro n
  induction n with
  | zero =>
    intro ls a w hs _ hr hy hS hS1 H
    refine ⟨fun h => (by rw [h] at hr; cases hr), fun j hj => ?_⟩
    by_cases e : j = i
    · subst e; exact hy.wpOp hi (hst ls w (hs s hsc) hS) ⟨hS1, H⟩
    · have h0 := ready_mono hj e
      rw [H.1] at h0; cases h0
  | succ n ih =>
    intro ls a w hs hfree hr hy hS hS1 H
    refine ⟨fun h => (by rw [h] at hr; cases hr), fun j hj => ?_⟩
    by_cases e : j = i
    · subst e; exact hy.wpOp hi (hst ls w (hs s hsc) hS) ⟨hS1, H⟩
    · obtain ⟨hjf, oj, hoj, hall⟩ := mem_ready.1 hj
      have hif := (mem_ready.1 hr).1
      have hno : ∀ e ∈ oj.after, Region.binds md e = true → e.on ≠ i := by
        intro x hx hb he
        have h1 := hall x hx hb
        rw [he] at h1
        rcases Nat.lt_or_ge i ls.size with hlt | hge
        · simp [hlt] at hif h1; rw [hif] at h1; cases h1
        · simp [Array.getElem?_eq_none hge] at hif
      have hjs : j ∉ ch := by
        intro hjc
        obtain ⟨x, hx, hb, he⟩ := hw8 j hjc oj hoj
        rcases he with he | he
        · exact hno x hx hb he
        · have h1 := hall x hx hb
          have h2 := hs _ he
          rw [h1] at h2; cases h2
      have h2 := wpOp_putIf hoj (hfree j oj hoj e hjf hno) (fun cs b => hsel i oi cs b hi) (fun cs b => hsel j oj cs b hoj) hQ hy (H.2 j (ready_mono hj e))
      refine wpOp_mono (fun a' w' h3 => ?_) h2
      obtain ⟨hy', hS', H'⟩ := h3
      rw [Array.setIfInBounds_comm _ _ (Ne.symm e)] at hS' H'
      have hs' : ∀ c ∈ ch, (ls.setIfInBounds j true).getD c false = false := fun c hc => by
        have hjc : j ≠ c := fun e2 => hjs (by rw [e2]; exact hc)
        rw [getD_set_ne false hjc]; exact hs c hc
      refine ⟨hsi _ _ hS', ih (ls.setIfInBounds j true) a' w' hs' (fun k ok hk hki hun hn => hfree k ok hk hki ?_ hn) (ready_mono hr (Ne.symm e)) hy' (hsi _ _ hS') hS' H'⟩
      by_cases hjk : j = k
      · subst hjk; exact hjf
      · rwa [getD_set_ne true hjk] at hun
def chOk (md : Region.Mode) (ops : Array Oper) (ls : Array Bool) (i : Nat) (ch : List Nat) : Bool :=
  ch.all fun c => !(ls.getD c false) && match ops[c]? with
    | some o => o.after.any fun e => Region.binds md e && (e.on == i || ch.contains e.on)
    | none => true
theorem anyC_take {i : Nat} (s : Nat) (ch : List Nat) {oi : Oper} {v : Value} (T : World → Prop) {n : Nat} {ls : Array Bool} {a : Act} {w : World} (hi : ops[i]? = some oi)
    (hsel : Region.noSelect ops = true) (hf : Region.free md ops ls i = true) (hr : (Region.ready md ops ls).contains i = true) (hc : ch.contains s = true) (hw8 : chOk md ops ls i ch = true)
    (hQ : ∀ c a w, Q (.panic c) (a.put oi.dst v) w → Q (.panic c) a w) (hst : ∀ ls w, ls.getD s false = false → S ls w → T w) (hsi : ∀ ls w, S (ls.setIfInBounds i true) w → S ls w) (hsi2 : ∀ ls w, S ls w → S (ls.setIfInBounds i true) w)
    (hy : YieldsIf P ops T oi v a) (hS : S ls w)
    (h : anyL P md ops Q S n (ls.setIfInBounds i true) (a.put oi.dst v) w) : anyL P md ops Q S (n + 1) ls a w := by
  have key : ∀ c ∈ ch, ls.getD c false = false ∧ ∀ o, ops[c]? = some o → ∃ e ∈ o.after, Region.binds md e = true ∧ (e.on = i ∨ e.on ∈ ch) := fun c hc => by
    have := List.all_eq_true.1 hw8 c hc
    rw [Bool.and_eq_true] at this
    refine ⟨by simpa using this.1, fun o ho => ?_⟩
    have h2 := this.2
    rw [ho] at h2
    obtain ⟨e, he, hb⟩ := Array.any_eq_true'.1 h2
    rw [Bool.and_eq_true, Bool.or_eq_true, beq_iff_eq] at hb
    exact ⟨e, he, hb.1, hb.2.imp id (fun h => by simpa using h)⟩
  exact anyC_first hi (Region.noSelect_spec hsel) hQ hst hsi (by simpa using hc) (fun c hc => (key c hc).2) n ls a w (fun c hc => (key c hc).1) (Region.free_spec hi hf) (by simpa using hr) hy hS (hsi2 _ _ hS) h
def AllL (P : Program) (md : Region.Mode) (ops : Array Oper) (Q : Exit → Act → World → Prop) (S : Array Bool → World → Prop) (n : Nat) (ls : Array Bool) (a : Act) (w : World) (rs : List Nat) : Prop :=
  ∀ i ∈ rs, wpOp P ops Q i (fun a' w' => S (ls.setIfInBounds i true) w' ∧ anyL P md ops Q S n (ls.setIfInBounds i true) a' w') a w
theorem AllL.nil {n : Nat} {ls : Array Bool} {a : Act} {w : World} : AllL P md ops Q S n ls a w [] := fun _ h => by cases h
theorem AllL.cons {n : Nat} {ls : Array Bool} {a : Act} {w : World} {i : Nat} {o : Oper} {rs : List Nat} (ho : ops[i]? = some o)
    (h : ∀ K : Act → World → Prop, Hid (∀ a w, S (ls.setIfInBounds i true) w → anyL P md ops Q S n (ls.setIfInBounds i true) a w → K a w) → if Region.wanted o (yielded ops a.tmps) = true then Oper.wp P o a w K Q else K (a.put o.dst undef) w)
    (hs : AllL P md ops Q S n ls a w rs) : AllL P md ops Q S n ls a w (i :: rs) := fun j hj => by
  rcases List.mem_cons.1 hj with rfl | hj
  · exact wpOp_step ho (fun K hK => h K (Lib.hid (fun a w hS hW => hK a w ⟨hS, hW⟩)))
  · exact hs j hj
theorem anyL_ready {rs : List Nat} {n : Nat} {ls : Array Bool} {a : Act} {w : World} (hr : Region.ready md ops ls = rs) (hne : rs ≠ []) (h : AllL P md ops Q S n ls a w rs) : anyL P md ops Q S (n + 1) ls a w :=
  ⟨fun h0 => absurd (hr ▸ h0) hne, by rw [hr]; exact h⟩
end
def SL (last : Nat) (T : World → Prop) (ls : Array Bool) (w' : World) : Prop := ls.getD last false = false → T w'
theorem SL.of {last : Nat} {T : World → Prop} {ls : Array Bool} {w : World} (h : T w) : SL last T ls w := fun _ => h
theorem SL.irr {last i : Nat} {T : World → Prop} (h : i ≠ last) : (∀ ls w, SL last T (ls.setIfInBounds i true) w → SL last T ls w) ∧ (∀ ls w, SL last T ls w → SL last T (ls.setIfInBounds i true) w) := by
  unfold SL
  refine ⟨fun ls w h1 => ?_, fun ls w h1 => ?_⟩
  · rwa [getD_set_ne false h] at h1
  · rwa [getD_set_ne false h]
theorem SL.fin {last : Nat} {T : World → Prop} {w : World} {ls : Array Bool} (h : ls.getD last false = true) : SL last T ls w := fun h2 => by rw [h] at h2; cases h2
theorem tkc {P : Program} {ops : Array Oper} {Q : Exit → Act → World → Prop} {md : Region.Mode} (i s : Nat) (ch : List Nat) {T : World → Prop} {oi : Oper} {v : Value} {n : Nat} {ls : Array Bool} {a : Act} {w : World} (hi : ops[i]? = some oi)
    (hv : ∀ w, T w → (execOp a.eval oi).run P w = .ok (.value v) w) (h : anyL P md ops Q (SL s T) n (ls.setIfInBounds i true) (a.put oi.dst v) w) (hT : T w)
    (hsel : Region.noSelect ops = true := by kernel_rfl) (hf : Region.free md ops ls i = true := by kernel_rfl) (hr : (Region.ready md ops ls).contains i = true := by kernel_rfl) (hc : ch.contains s = true := by kernel_rfl) (hw8 : chOk md ops ls i ch = true := by kernel_rfl)
    (hQ : ∀ c a w, Q (.panic c) (a.put oi.dst v) w → Q (.panic c) a w := by exact fun _ _ _ h => h) (hw : Region.wanted oi (yielded ops a.tmps) = true := by rfl) (hne : i ≠ s := by decide) : anyL P md ops Q (SL s T) (n + 1) ls a w :=
  anyC_take s ch T hi hsel hf hr hc hw8 hQ (fun _ _ h0 h => h h0) (SL.irr hne).1 (SL.irr hne).2 (Or.inl ⟨hw, hv⟩) (SL.of hT) h
end Go.Proofs.YtlojmmcagglpoaaGreat
