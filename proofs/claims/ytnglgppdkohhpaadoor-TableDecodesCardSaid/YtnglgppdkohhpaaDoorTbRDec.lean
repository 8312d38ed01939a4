/- THE WALK of the reference's Decode: bytes whose length fits. -/
import Derived.Test.YtnglgppdkohhpaaDoorTbRDecA
namespace Go.Proofs.YtnglgppdkohhpaaDoor
open Go.RowKit
theorem own_less {w : World} {base base' size n : Nat} {e : TypeId} {v : Value} {xs : List Value} (h : w.ownsRow base e size v n xs) (hb : base' ≤ base) : w.ownsRow base' e size v n xs :=
  ⟨h.1, h.2.elim Or.inl (fun ⟨g, cap, cur, hv, hg, r⟩ => Or.inr ⟨g, cap, cur, hv, Nat.le_trans hb hg, r⟩)⟩
theorem dcells_set_nx {cl : List Int} {vn vf ve : Value} (h : cl.length = 256) (u : Value) : (dcells cl vn vf ve).setIfInBounds 256 u = dcells cl u vf ve := by
  unfold dcells
  rw [List.setIfInBounds_toArray, List.set_append_right _ _ (by simp [h]), List.length_map, h]; rfl
theorem dcells_set_fo {cl : List Int} {vn vf ve : Value} (h : cl.length = 256) (u : Value) : (dcells cl vn vf ve).setIfInBounds 257 u = dcells cl vn u ve := by
  unfold dcells
  rw [List.setIfInBounds_toArray, List.set_append_right _ _ (by simp [h]), List.length_map, h]; rfl
theorem dcells_set_en {cl : List Int} {vn vf ve : Value} (h : cl.length = 256) (u : Value) : (dcells cl vn vf ve).setIfInBounds 258 u = dcells cl vn vf u := by
  unfold dcells
  rw [List.setIfInBounds_toArray, List.set_append_right _ _ (by simp [h]), List.length_map, h]; rfl
theorem infoInt : (Tryd.prog.info? 3).map (fun i => (i.zero, i.size, i.bytes)) = some (some (.int .i64 0), 1, 8) := by kernel_rfl
theorem infoU : (Tryd.prog.info? 34).map (fun i => (i.zero, i.size, i.bytes)) = some (some (.int .u32 0), 1, 4) := by kernel_rfl
theorem append_cell {w : World} {ops : Array Oper} {rest : List Oper} {o : Oper} {a : Act} {Q : Exit → Act → World → Prop} (hgd : o.guard = none) (s x : Operand) (t e : TypeId) {z : Value} {by_ : Nat}
    (ho : o.op = .call { callee := .builtin .append, args := #[s, x], argTypes := #[t, t] }) (ht : Tryd.prog.underlying t = some (.slice e)) (hinfo : (Tryd.prog.info? e).map (fun i => (i.zero, i.size, i.bytes)) = some (some z, 1, by_)) (hz : z.cells.size = 1)
    (base : Nat) (v : Value) (xs : List Value) (hs : a.eval s = v) (hown : w.ownsRow base e 1 v xs.length xs) (g c : Nat) (u : Value) (hx : a.eval x = .slice (some ⟨g, 0, none⟩) 1 c) (hc : w.cell? ⟨g, 0, none⟩ = some u) (h1 : u.oneCell' = true)
    (hlen : (xs.length + 1) * by_ ≤ 140737488355328) (hmax : xs.length + 1 ≤ maxLen) (hbase : base ≤ w.heap.size)
    (h : ∀ v' w', w'.ownsRow base e 1 v' (xs ++ [u]).length (xs ++ [u]) → w.grownBy w' v.ownBlock → (v'.ownBlock = v.ownBlock ∨ v'.ownBlock = some w.heap.size) → wpList Tryd.prog ops Q rest (a.put o.dst v') w') : wpList Tryd.prog ops Q (o :: rest) a w := by
  refine append_row hgd s x t e ho ht hinfo hz (by omega) base v xs.length xs hs hown (some ⟨g, 0, none⟩) 1 c [u] hx rfl (fun h => by cases h) (fun ad e j y hj => ?_) (fun y hy => by simp at hy; subst hy; exact h1) hlen hmax hbase (fun v' w' h2 h3 h4 => h v' w' (by simpa using h2) h3 h4)
  obtain rfl := Option.some.inj e
  match j, hj with
  | 0, hj => obtain rfl := Option.some.inj hj; simpa [Addr.add] using hc
  | j + 1, hj => simp at hj
theorem rowAt_succ (l : List UInt8) (k o : Nat) : rowAt l (k + 1) o = rowAt l k o ++ [(numAt l (o + 2 * k) 2 : Int)] := by unfold rowAt; simp [List.range_succ]
theorem rowAt_length (l : List UInt8) (k o : Nat) : (rowAt l k o).length = k := by unfold rowAt; simp
/-- the reference's reading: the variable that is filled, the result's cell -/
structure DR (w W : World) (N0 b2 bD : Nat) (C : Array Value) : Prop where
  bd : Blk W bD 26 C
  bz : Blk W b2 26 (dcells zcls nilV nilV nilV)
  bl : Below w.heap.size w W
  lo : b2 < N0 ∧ bD < N0 ∧ b2 ≠ bD ∧ w.heap.size ≤ b2 ∧ w.heap.size ≤ bD ∧ N0 ≤ W.heap.size
theorem DR.chg {w W W' : World} {N0 b2 bD : Nat} {C : Array Value} {S : Nat → Prop} (h : DR w W N0 b2 bD C) (hc : Chg S W W') (hS : ∀ b, b < N0 → ¬ S b) : DR w W' N0 b2 bD C :=
  ⟨h.bd.chg hc (hS _ h.lo.2.1), h.bz.chg hc (hS _ h.lo.1), h.bl.trans (hc.below (fun k hk => hS k (by have := h.lo; omega)) h.bl.size), by have := h.lo; have := hc.size; omega⟩
theorem DR.keep {w W W' : World} {N0 b2 bD : Nat} {C : Array Value} (h : DR w W N0 b2 bD C) (hb : Below W.heap.size W W') : DR w W' N0 b2 bD C := h.chg (Chg.of_below hb (fun _ => False)) (fun _ _ e => e)
theorem DR.grown {w W W' : World} {N0 b2 bD : Nat} {C : Array Value} (h : DR w W N0 b2 bD C) {v : Value} (hw : W.grownBy W' v.ownBlock) (hv : ∀ k, v.ownBlock = some k → N0 ≤ k) : DR w W' N0 b2 bD C :=
  h.chg (S := fun k => v.ownBlock = some k) ((Chg.refl _ W).grown hw (fun k hk _ => hk)) (fun b hb e => by have := hv b e; omega)
theorem DR.set {w W : World} {N0 b2 bD : Nat} {C : Array Value} (h : DR w W N0 b2 bD C) (k : Nat) (u : Value) : DR w (W.setCell ⟨bD, k, none⟩ u) N0 b2 bD (C.setIfInBounds k u) := by
  have hc : Chg (fun b => b = bD) W (W.setCell ⟨bD, k, none⟩ u) := Chg.setCell (S := fun b => b = bD) (p := ⟨bD, k, none⟩) (Chg.refl _ W) (.inl rfl) _
  exact ⟨h.bd.set_ k u, h.bz.chg hc h.lo.2.2.1, h.bl.trans (hc.below (fun k hk e => by have := h.lo; omega) h.bl.size), by have := h.lo; have := hc.size; omega⟩
theorem RL.set_far {W : World} {N0 : Nat} {vn vf ve : Value} {t : Tb} {vs : List Value} (h : RL W N0 vn vf ve t vs) {bD : Nat} (hb : bD < N0) (k : Nat) (u : Value) : RL (W.setCell ⟨bD, k, none⟩ u) N0 vn vf ve t vs :=
  h.chg (S := fun b => b = bD) (Chg.setCell (S := fun b => b = bD) (p := ⟨bD, k, none⟩) (Chg.refl _ W) (.inl rfl) _) (fun b hb2 _ e => by omega)
def RDecQ (l : List UInt8) (w : World) (e : Ending) (w' : World) : Prop :=
  (∃ cs t, Sound t ∧ Fits t ∧ l = encT t ∧ e = .returned (.tuple #[.agg cs, .int .i64 0]) ∧ TB w' cs t ∧ Below w.heap.size w w') ∨ (¬ IsEnc l ∧ NoneT w e w')
end Go.Proofs.YtnglgppdkohhpaaDoor
