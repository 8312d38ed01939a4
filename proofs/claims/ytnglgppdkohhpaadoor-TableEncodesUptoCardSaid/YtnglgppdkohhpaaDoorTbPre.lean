/- A copied table: each list the front of an own row with one element behind it. -/
import Derived.Test.YtnglgppdkohhpaaDoorTbRDec
namespace Go.Proofs.YtnglgppdkohhpaaDoor
open Go.RowKit
/-- the front of an own row; z stands behind it -/
def PR (W : World) (N0 : Nat) (e : TypeId) (v : Value) (xs : List Value) (z : Value) : Prop :=
  ∃ g c, v = .slice (some ⟨g, 0, none⟩) xs.length c ∧ W.ownsRow N0 e 1 (.slice (some ⟨g, 0, none⟩) (xs.length + 1) c) (xs.length + 1) (xs ++ [z])
section
variable {W W' : World} {N0 : Nat} {e e' : TypeId} {v v' : Value} {xs xs' : List Value} {z z' : Value}
theorem PR.lt (h : PR W N0 e v xs z) : ∃ g, v.ownBlock = some g ∧ N0 ≤ g ∧ g < W.heap.size := by
  obtain ⟨g, c, rfl, h⟩ := h
  exact ⟨g, rfl, h.lt g rfl⟩
theorem PR.chg {S : Nat → Prop} (h : PR W N0 e v xs z) (hc : Chg S W W') (hn : ∀ k, v.ownBlock = some k → ¬ S k) : PR W' N0 e v xs z := by
  obtain ⟨g, c, rfl, h⟩ := h
  exact ⟨g, c, rfl, hc.own h (fun k hk => hn k hk)⟩
theorem PR.keep (h : PR W N0 e v xs z) (hb : Below W.heap.size W W') : PR W' N0 e v xs z := h.chg (Chg.of_below hb (fun _ => False)) (fun _ _ => id)
theorem PR.less {N1 : Nat} (h : PR W N0 e v xs z) (hb : N1 ≤ N0) : PR W N1 e v xs z := by
  obtain ⟨g, c, rfl, h⟩ := h
  exact ⟨g, c, rfl, own_less h hb⟩
theorem PR.one (h : PR W N0 e v xs z) : v.oneCell' = true := by
  obtain ⟨g, c, rfl, _⟩ := h
  rfl
theorem PR.apart (h : PR W N0 e v xs z) (h' : PR W N0 e' v' xs' z') (hne : e ≠ e') : v.ownBlock ≠ v'.ownBlock := by
  obtain ⟨g, c, rfl, h⟩ := h
  obtain ⟨g', c', rfl, h'⟩ := h'
  rcases own_apart h h' hne with h0 | h0
  · cases h0
  · exact h0
theorem PR.apart_own {base n size : Nat} (h : PR W N0 e v xs z) (h' : W.ownsRow base e' size v' n xs') (hne : e ≠ e') (k : Nat) (hk : v.ownBlock = some k) : ¬ v'.ownBlock = some k := by
  obtain ⟨g, c, rfl, h⟩ := h
  rcases own_apart h h' hne with h0 | h0
  · cases h0
  · intro e; rw [e] at h0; exact h0 hk
theorem PR.cell {g c n : Nat} (h : PR W N0 e (.slice (some ⟨g, 0, none⟩) n c) xs z) : n = xs.length ∧ n + 1 ≤ c ∧ c ≤ maxLen ∧ N0 ≤ g ∧ g < W.heap.size ∧ (∀ j u, (xs ++ [z])[j]? = some u → W.cell? ⟨g, j, none⟩ = some u) ∧ ∀ j, W.frozen? ⟨g, j, none⟩ = false := by
  obtain ⟨g', c', e0, h⟩ := h
  injection e0 with e1 e2 e3
  obtain rfl : g = g' := by injection e1 with e1; injection e1
  subst e2 e3
  obtain ⟨A, cap, e4, h2, h3, _⟩ := own_form h
  injection e4 with _ _ e5
  have hl := h.lt g rfl
  refine ⟨rfl, by rw [e5]; exact h2, by rw [e5]; exact h3, hl.1, hl.2, fun j u hj => ?_, fun j => World.ownsRow.frozenAt h j⟩
  have hjl := (List.getElem?_eq_some_iff.1 hj).1
  rw [World.ownsRow.cellAt h j (by simp at hjl; omega), hj]
theorem PR.form (h : PR W N0 e v xs z) : ∃ g c, v = .slice (some ⟨g, 0, none⟩) xs.length c ∧ PR W N0 e (.slice (some ⟨g, 0, none⟩) xs.length c) xs z := by
  obtain ⟨g, c, rfl, h⟩ := h
  exact ⟨g, c, rfl, g, c, rfl, h⟩
theorem PR.stored {g c n : Nat} (h : PR W N0 e (.slice (some ⟨g, 0, none⟩) n c) xs z) {j : Nat} (hj : j < xs.length) (u : Value) : PR (W.setCell ⟨g, j, none⟩ u) N0 e (.slice (some ⟨g, 0, none⟩) n c) (xs.set j u) z := by
  obtain ⟨g', c', e0, h⟩ := h
  injection e0 with e1 e2 e3
  obtain rfl : g = g' := by injection e1 with e1; injection e1
  subst e2 e3
  have := (World.ownsRow.stored h j u).1
  rw [List.set_append_left _ _ hj] at this
  exact ⟨g, c, by rw [List.length_set], by rw [List.length_set]; exact this⟩
/-- an own row with at least one element: its front -/
theorem PR.of_own {base : Nat} (h : W.ownsRow base e 1 v (xs ++ [z]).length (xs ++ [z])) : ∃ g c, v = .slice (some ⟨g, 0, none⟩) (xs.length + 1) c ∧ xs.length + 1 ≤ c ∧ PR W base e (.slice (some ⟨g, 0, none⟩) xs.length c) xs z := by
  obtain ⟨A, c, hv, h1, _, h3⟩ := own_form h
  rw [List.length_append, List.length_singleton] at hv h1 h h3
  rcases h3 with ⟨_, h0⟩ | ⟨g, rfl, _, _⟩
  · omega
  · subst hv
    exact ⟨g, c, rfl, h1, g, c, rfl, h⟩
theorem RG.pre {α : Type} {f : α → Value} {l : List α} {g c n : Nat} (h : PR W N0 e (.slice (some ⟨g, 0, none⟩) n c) (l.map f) z) : n = l.length ∧ RG f W (some ⟨g, 0, none⟩) n l := by
  obtain ⟨h1, h2, h3, h4, h5, h6, h7⟩ := h.cell
  rw [List.length_map] at h1
  refine ⟨h1, h1.symm, fun hn => ⟨g, 0, rfl, h5, fun j x hj => ?_⟩⟩
  rw [Nat.zero_add]
  refine h6 j (f x) ?_
  have hjl := (List.getElem?_eq_some_iff.1 hj).1
  rw [List.getElem?_append_left (by rw [List.length_map]; exact hjl), List.getElem?_map, hj]; rfl
end
def oneLong (z : Value) : Prop := ∃ A c, z = .slice A 1 c ∧ 1 ≤ c
structure CP (W : World) (N0 : Nat) (vn vf ve : Value) (t : Tb) (vs : List Value) (z : Value) : Prop where
  on : PR W N0 35 vn vs z
  of_ : PR W N0 34 vf (t.fo.map uV) (uV 77)
  oe : PR W N0 34 ve (t.en.map uV) (uV 77)
  len : vs.length = t.nx.length
  rows : ∀ (s : Nat) (v : Value) (row : List Int), vs[s]? = some v → t.nx[s]? = some row → PR W N0 3 v (row.map iV) (iV (-77))
  ap : ∀ (i j : Nat) (v v' : Value), vs[i]? = some v → vs[j]? = some v' → v.ownBlock = v'.ownBlock → i = j
  fe : vf.ownBlock ≠ ve.ownBlock
  hz : oneLong z
section
variable {W W' : World} {N0 : Nat} {vn vf ve : Value} {t : Tb} {vs : List Value} {z : Value}
theorem CP.chg {S : Nat → Prop} (h : CP W N0 vn vf ve t vs z) (hc : Chg S W W') (hS : ∀ b, N0 ≤ b → b < W.heap.size → ¬ S b) : CP W' N0 vn vf ve t vs z := by
  have key : ∀ {e v xs z}, PR W N0 e v xs z → PR W' N0 e v xs z := fun hp => hp.chg hc (fun k hk => by
    obtain ⟨g, h1, h2, h3⟩ := hp.lt
    rw [h1] at hk
    obtain rfl := Option.some.inj hk
    exact hS _ h2 h3)
  exact ⟨key h.on, key h.of_, key h.oe, h.len, fun s v row hv hr => key (h.rows s v row hv hr), h.ap, h.fe, h.hz⟩
theorem CP.less {N1 : Nat} (h : CP W N0 vn vf ve t vs z) (hb : N1 ≤ N0) : CP W N1 vn vf ve t vs z :=
  ⟨h.on.less hb, h.of_.less hb, h.oe.less hb, h.len, fun s v row hv hr => (h.rows s v row hv hr).less hb, h.ap, h.fe, h.hz⟩
theorem CP.keep (h : CP W N0 vn vf ve t vs z) (hb : Below W.heap.size W W') : CP W' N0 vn vf ve t vs z := h.chg (Chg.of_below hb (fun _ => False)) (fun _ _ _ e => e)
theorem CP.tb (h : CP W N0 vn vf ve t vs z) (hc : t.cls.length = 256) (hu : (∀ x ∈ t.fo, x < 4294967296) ∧ ∀ x ∈ t.en, x < 4294967296) (hm : ∀ l ∈ t.nx, l.length ≤ 9223372036854775807) (hs : t.nx.length ≤ 9223372036854775807 ∧ t.fo.length ≤ 9223372036854775807 ∧ t.en.length ≤ 9223372036854775807) : TB W (dcells t.cls vn vf ve) t := by
  obtain ⟨g1, c1, rfl, p1⟩ := h.on.form
  obtain ⟨g2, c2, rfl, p2⟩ := h.of_.form
  obtain ⟨g3, c3, rfl, p3⟩ := h.oe.form
  obtain ⟨e1, k1, _, _, b1, q1, _⟩ := p1.cell
  obtain ⟨e2, r2⟩ := RG.pre p2
  obtain ⟨e3, r3⟩ := RG.pre p3
  have k2 := p2.cell.2.1
  have k3 := p3.cell.2.1
  refine ⟨⟨_, c1, _, c2, _, c3, by rw [e2, e3, h.len], by rw [← h.len]; omega, by simp at k2; omega, by simp at k3; omega, ⟨rfl, fun hn => ?_⟩, by rw [e2] at r2; exact r2, by rw [e3] at r3; exact r3⟩, hc, hu, hs.1, hs.2.1, hs.2.2, hm⟩
  refine ⟨g1, 0, rfl, b1, fun j row hj => ?_⟩
  have hjl : j < vs.length := by rw [h.len]; exact (List.getElem?_eq_some_iff.1 hj).1
  obtain ⟨v, hv⟩ : ∃ v, vs[j]? = some v := ⟨_, List.getElem?_eq_getElem hjl⟩
  obtain ⟨g, c, rfl, p⟩ := (h.rows j v row hv hj).form
  obtain ⟨e4, r4⟩ := RG.pre p
  have k4 := p.cell.2.1
  rw [e4] at r4
  refine ⟨_, c, by simp at k4; omega, ?_, r4⟩
  rw [Nat.zero_add]
  refine q1 j _ ?_
  rw [List.getElem?_append_left hjl, hv, e4]
end
end Go.Proofs.YtnglgppdkohhpaaDoor
