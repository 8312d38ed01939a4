/- A table that the reference reads: lists of the call's own, rows of any room. -/
import Derived.Test.YtnglgppdkohhpaaDoorTbREnc
namespace Go.Proofs.YtnglgppdkohhpaaDoor
open Go.RowKit
structure RL (W : World) (N0 : Nat) (vn vf ve : Value) (t : Tb) (vs : List Value) : Prop where
  on : W.ownsRow N0 35 1 vn vs.length vs
  of_ : W.ownsRow N0 34 1 vf (t.fo.map uV).length (t.fo.map uV)
  oe : W.ownsRow N0 34 1 ve (t.en.map uV).length (t.en.map uV)
  len : vs.length = t.nx.length
  rows : ∀ (s : Nat) (v : Value) (row : List Int), vs[s]? = some v → t.nx[s]? = some row → W.ownsRow N0 3 1 v (row.map iV).length (row.map iV)
  fe : vf.ownBlock = none ∨ vf.ownBlock ≠ ve.ownBlock
section
variable {W W' : World} {N0 : Nat} {vn vf ve : Value} {t : Tb} {vs : List Value}
theorem RL.chg {S : Nat → Prop} (h : RL W N0 vn vf ve t vs) (hc : Chg S W W') (hS : ∀ b, N0 ≤ b → b < W.heap.size → ¬ S b) : RL W' N0 vn vf ve t vs :=
  ⟨hc.own h.on (fun k hk => hS k (h.on.lt k hk).1 (h.on.lt k hk).2), hc.own h.of_ (fun k hk => hS k (h.of_.lt k hk).1 (h.of_.lt k hk).2), hc.own h.oe (fun k hk => hS k (h.oe.lt k hk).1 (h.oe.lt k hk).2), h.len,
    fun s v row hv hr => by
      have h3 := h.rows s v row hv hr
      exact hc.own h3 (fun k hk => hS k (h3.lt k hk).1 (h3.lt k hk).2), h.fe⟩
theorem RL.keep (h : RL W N0 vn vf ve t vs) (hb : Below W.heap.size W W') : RL W' N0 vn vf ve t vs := h.chg (Chg.of_below hb (fun _ => False)) (fun _ _ _ e => e)
theorem RL.nil (W : World) (N0 : Nat) (cl : List Int) : RL W N0 (.slice none 0 0) (.slice none 0 0) (.slice none 0 0) ⟨cl, [], [], []⟩ [] :=
  ⟨World.ownsRow_nil W N0 _ 1, World.ownsRow_nil W N0 _ 1, World.ownsRow_nil W N0 _ 1, rfl, fun s v row hv => by simp at hv, .inl rfl⟩
theorem RL.appN (h : RL W N0 vn vf ve t vs) {row : List Int} {rv : Value} (hr : W.ownsRow N0 3 1 rv (row.map iV).length (row.map iV)) {vn' : Value}
    (ho : W'.ownsRow N0 35 1 vn' (vs ++ [rv]).length (vs ++ [rv])) (hw : W.grownBy W' vn.ownBlock) : RL W' N0 vn' vf ve { t with nx := t.nx ++ [row] } (vs ++ [rv]) := by
  have hc : Chg (fun k => vn.ownBlock = some k) W W' := (Chg.refl _ W).grown hw (fun k hk _ => hk)
  refine ⟨ho, hc.own h.of_ (ownBlock_ne h.of_ h.on (by decide)), hc.own h.oe (ownBlock_ne h.oe h.on (by decide)), by simp [h.len], fun s v row' hv hr' => ?_, h.fe⟩
  by_cases hs : s < vs.length
  · rw [List.getElem?_append_left hs] at hv
    rw [List.getElem?_append_left (by rw [← h.len]; exact hs)] at hr'
    have h3 := h.rows s v row' hv hr'
    exact hc.own h3 (ownBlock_ne h3 h.on (by decide))
  · rw [List.getElem?_append_right (by omega)] at hv
    rw [List.getElem?_append_right (by rw [← h.len]; omega)] at hr'
    have hs0 : s - vs.length = 0 := by have := (List.getElem?_eq_some_iff.1 hv).1; simp at this; omega
    rw [hs0] at hv
    rw [← h.len, hs0] at hr'
    simp at hv hr'
    subst hv hr'
    exact hc.own hr (ownBlock_ne hr h.on (by decide))
theorem RL.appF (h : RL W N0 vn vf ve t vs) {x : Nat} {vf' : Value} (ho : W'.ownsRow N0 34 1 vf' (t.fo.map uV ++ [uV x]).length (t.fo.map uV ++ [uV x])) (hw : W.grownBy W' vf.ownBlock) (hf : vf'.ownBlock = vf.ownBlock ∨ vf'.ownBlock = some W.heap.size) : RL W' N0 vn vf' ve { t with fo := t.fo ++ [x] } vs := by
  have hc : Chg (fun k => vf.ownBlock = some k) W W' := (Chg.refl _ W).grown hw (fun k hk _ => hk)
  refine ⟨hc.own h.on (ownBlock_ne h.on h.of_ (by decide)), by simpa using ho, hc.own h.oe (fun k hk e => ?_), h.len, fun s v row hv hr => ?_, ?_⟩
  · rcases h.fe with h0 | h0
    · rw [h0] at e; cases e
    · rw [e, hk] at h0; exact h0 rfl
  · have h3 := h.rows s v row hv hr
    exact hc.own h3 (ownBlock_ne h3 h.of_ (by decide))
  · rcases hf with e | e
    · rw [e]; exact h.fe
    · right
      rw [e]
      intro e2
      have := (h.oe.lt _ e2.symm).2
      omega
theorem RL.appE (h : RL W N0 vn vf ve t vs) {x : Nat} {ve' : Value} (ho : W'.ownsRow N0 34 1 ve' (t.en.map uV ++ [uV x]).length (t.en.map uV ++ [uV x])) (hw : W.grownBy W' ve.ownBlock) (hf : ve'.ownBlock = ve.ownBlock ∨ ve'.ownBlock = some W.heap.size) : RL W' N0 vn vf ve' { t with en := t.en ++ [x] } vs := by
  have hc : Chg (fun k => ve.ownBlock = some k) W W' := (Chg.refl _ W).grown hw (fun k hk _ => hk)
  refine ⟨hc.own h.on (ownBlock_ne h.on h.oe (by decide)), hc.own h.of_ (fun k hk e => ?_), by simpa using ho, h.len, fun s v row hv hr => ?_, ?_⟩
  · rcases h.fe with h0 | h0
    · rw [h0] at hk; cases hk
    · rw [hk, e] at h0; exact h0 rfl
  · have h3 := h.rows s v row hv hr
    exact hc.own h3 (ownBlock_ne h3 h.oe (by decide))
  · rcases hf with e | e
    · rw [e]; exact h.fe
    · by_cases h0 : vf.ownBlock = none
      · exact .inl h0
      · right
        rw [e]
        intro e2
        have := (h.of_.lt _ e2).2
        omega
end
theorem RL.tb {W : World} {N0 : Nat} {vn vf ve : Value} {t : Tb} {vs : List Value} (h : RL W N0 vn vf ve t vs) (hc : t.cls.length = 256) (hu : (∀ x ∈ t.fo, x < 4294967296) ∧ ∀ x ∈ t.en, x < 4294967296) (hm : ∀ l ∈ t.nx, l.length ≤ 1000000) (hs : t.nx.length ≤ 1000000 ∧ t.fo.length ≤ 1000000 ∧ t.en.length ≤ 1000000) : TB W (dcells t.cls vn vf ve) t := by
  obtain ⟨A1, c1, rfl, l1, x1, r1⟩ := RG.own (f := id) (l := vs) (by simpa using h.on)
  obtain ⟨A2, c2, rfl, l2, x2, r2⟩ := RG.own h.of_
  obtain ⟨A3, c3, rfl, l3, x3, r3⟩ := RG.own h.oe
  rw [h.len] at r1 l1
  refine ⟨⟨A1, c1, A2, c2, A3, c3, by rw [h.len], l1, l2, l3, ⟨rfl, fun hn => ?_⟩, r2, r3⟩, hc, hu, ?_⟩
  · obtain ⟨b, off, e, hb, hcell⟩ := r1.2 hn
    refine ⟨b, off, e, hb, fun j row hj => ?_⟩
    have hjl : j < vs.length := by rw [h.len]; exact (List.getElem?_eq_some_iff.1 hj).1
    obtain ⟨v, hv⟩ : ∃ v, vs[j]? = some v := ⟨_, List.getElem?_eq_getElem hjl⟩
    obtain ⟨A, c, rfl, y1, _, y2⟩ := RG.own (h.rows j v row hv hj)
    exact ⟨A, c, y1, hcell j _ hv, y2⟩
  · exact ⟨by omega, by omega, by omega, fun l hl => by have := hm l hl; omega⟩
end Go.Proofs.YtnglgppdkohhpaaDoor
