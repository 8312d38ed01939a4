/- Maps of the call's own, as functions from keys to elements. -/
import Derived.Test.YtlojmmcagglpoaaGreatUFrame
import Derived.Maps.OwnSet
import Derived.Maps.RangeWalk
namespace Go.Proofs.YtlojmmcagglpoaaGreat
open Go.RowKit Go.Maps Go.WideShapes
structure MR (P : Program) (k : TypeId) {κ ε : Type} (kv : κ → Value) (kl : κ → Lit) (ev : ε → Value) (ed : ε → DataW Unit) (zv : Value) (zd : DataW Unit) (R : Value → Option (DataW Unit × List MemPlace)) (okK : κ → Prop) (okE : ε → Prop) : Prop where
  key : ∀ x, okK x → keyOf P k (kv x) = some (kl x)
  lit : ∀ x, okK x → WideAt.IsKeyLit (kl x)
  inj : ∀ x y, kl x = kl y → x = y
  elem : ∀ e, okE e → R (ev e) = some (ed e, [])
  back : ∀ v e ps, R v = some (ed e, ps) → v = ev e
  zero : R zv = some (zd, [])
  zback : ∀ v ps, R v = some (zd, ps) → v = zv
section
variable {P : Program} {k : TypeId} {κ ε : Type} {kv : κ → Value} {kl : κ → Lit} {ev : ε → Value} {ed : ε → DataW Unit} {zv : Value} {zd : DataW Unit} {R : Value → Option (DataW Unit × List MemPlace)} {okK : κ → Prop} {okE : ε → Prop}
def FM (P : Program) (k : TypeId) (kl : κ → Lit) (ed : ε → DataW Unit) (R : Value → Option (DataW Unit × List MemPlace)) (w : World) (b n : Nat) (m : κ → Option ε) : Prop :=
  ∃ D, w.ownsMap P k R b n D ∧ (∀ x, Maps.has D (kl x) = (m x).isSome) ∧ ∀ x e, m x = some e → ∀ z, D.atKey (kl x) z = ed e
variable {w w' : World} {b n : Nat} {m : κ → Option ε}
theorem FM.lt (h : FM P k kl ed R w b n m) : b < w.heap.size := by
  obtain ⟨D, h1, _⟩ := h
  exact h1.lt
theorem FM.mono (h : FM P k kl ed R w b n m) {n' : Nat} (hn : n ≤ n') : FM P k kl ed R w b n' m := by
  obtain ⟨D, h1, h2⟩ := h
  exact ⟨D, h1.mono hn, h2⟩
theorem FM.made (w : World) (P : Program) (k : TypeId) (kl : κ → Lit) (ed : ε → DataW Unit) (R : Value → Option (DataW Unit × List MemPlace)) : FM P k kl ed R (w.alloc (.map #[] 0)) w.heap.size 0 (fun _ => none) :=
  ⟨.map [], World.ownsMap_made w P k R, fun _ => rfl, fun _ _ h => by cases h⟩
theorem FM.block (h : FM P k kl ed R w b n m) (hb : w'.heap[b]? = w.heap[b]?) : FM P k kl ed R w' b n m := by
  obtain ⟨D, ⟨es, clock, h1, h2⟩, h3⟩ := h
  exact ⟨D, ⟨es, clock, hb.trans h1, h2⟩, h3⟩
theorem FM.chg {S : Nat → Prop} (h : FM P k kl ed R w b n m) (hc : Chg S w w') (hS : ¬ S b) : FM P k kl ed R w' b n m := h.block (hc.block b h.lt hS)
theorem FM.keep (h : FM P k kl ed R w b n m) (hb : Below w.heap.size w w') : FM P k kl ed R w' b n m := h.block (hb.block b h.lt)
theorem FM.drewN (h : FM P k kl ed R w b n m) (j : Nat) : FM P k kl ed R (w.drewN j) b n m := h.block rfl
def lookV (ev : ε → Value) (zv : Value) (o : Option ε) : Value := match o with
  | some e => ev e
  | none => zv
theorem FM.at_ (M : MR P k kv kl ev ed zv zd R okK okE) {D : DataW Unit} (h2 : ∀ x, Maps.has D (kl x) = (m x).isSome) (h3 : ∀ x e, m x = some e → ∀ z, D.atKey (kl x) z = ed e) (x : κ) {v : Value} {ps : List MemPlace} (hv : R v = some (D.atKey (kl x) zd, ps)) : v = lookV ev zv (m x) := by
  cases hm : m x with
  | none =>
    have := h2 x
    rw [hm] at this
    rw [atKey_of_not_has this] at hv
    exact M.zback v ps hv
  | some e =>
    rw [h3 x e hm] at hv
    exact M.back v e ps hv
theorem FM.look_ok (h : FM P k kl ed R w b n m) (M : MR P k kv kl ev ed zv zd R okK okE) (K : Keyed P k) {t e : TypeId} (ht : P.underlying t = some (.map k e)) (hz : (zeroValue e).run P w = .ok zv w) {x : κ} (hx : okK x) :
    (Instr.lookup t (.map (some b)) (kv x) true).run P w = .ok (.tuple #[lookV ev zv (m x), .bool (m x).isSome]) w := by
  obtain ⟨D, h1, h2, h3⟩ := h
  obtain ⟨v, ps, hrun, hv⟩ := h1.look_ok K ht hz M.zero (M.key x hx)
  rw [hrun, FM.at_ M h2 h3 x hv, h2]
theorem FM.look (h : FM P k kl ed R w b n m) (M : MR P k kv kl ev ed zv zd R okK okE) (K : Keyed P k) {t e : TypeId} (ht : P.underlying t = some (.map k e)) (hz : (zeroValue e).run P w = .ok zv w) {x : κ} (hx : okK x) :
    (Instr.lookup t (.map (some b)) (kv x) false).run P w = .ok (lookV ev zv (m x)) w := by
  obtain ⟨D, h1, h2, h3⟩ := h
  obtain ⟨v, ps, hrun, hv⟩ := h1.lookup K ht hz M.zero (M.key x hx)
  rw [hrun, FM.at_ M h2 h3 x hv]
theorem chg_of_turned (h : w.mapTurned w' b) : Chg (fun q => q = b) w w' := (Chg.refl _ w).grown h.grown (fun _ hk _ => (Option.some.inj hk).symm)
open Classical in
noncomputable def putM (m : κ → Option ε) (x : κ) (e : ε) : κ → Option ε := fun y => if y = x then some e else m y
open Classical in
noncomputable def delM (m : κ → Option ε) (x : κ) : κ → Option ε := fun y => if y = x then none else m y
theorem putM_same (m : κ → Option ε) (x : κ) (e : ε) : putM m x e x = some e := by unfold putM; rw [if_pos rfl]
theorem putM_other (m : κ → Option ε) {x y : κ} (e : ε) (h : y ≠ x) : putM m x e y = m y := by unfold putM; rw [if_neg h]
theorem delM_same (m : κ → Option ε) (x : κ) : delM m x x = none := by unfold delM; rw [if_pos rfl]
theorem delM_other (m : κ → Option ε) {x y : κ} (h : y ≠ x) : delM m x y = m y := by unfold delM; rw [if_neg h]
theorem FM.put (h : FM P k kl ed R w b n m) (M : MR P k kv kl ev ed zv zd R okK okE) (K : Keyed P k) {t e : TypeId} (ht : P.underlying t = some (.map k e)) (hn : n < maxLen) {x : κ} (hx : okK x) {u : ε} (hu : okE u) :
    ∃ w', (Instr.mapUpdate t (.map (some b)) (kv x) (ev u)).run P w = .ok () w' ∧ FM P k kl ed R w' b (n + 1) (putM m x u) ∧ Chg (fun q => q = b) w w' := by
  obtain ⟨D, h1, h2, h3⟩ := h
  obtain ⟨w', hrun, h4, h5⟩ := h1.store K ht hn (M.key x hx) (M.elem u hu)
  have hD := h1.isMap
  refine ⟨w', hrun, ⟨_, h4, fun y => ?_, fun y e hy z => ?_⟩, chg_of_turned h5⟩
  · by_cases e : y = x
    · subst e
      rw [putM_same, has_put_same hD (M.lit y hx)]; rfl
    · rw [putM_other m u e, has_put_other (fun e2 => e (M.inj _ _ e2)), h2]
  · by_cases e2 : y = x
    · subst e2
      rw [putM_same] at hy
      obtain rfl := Option.some.inj hy
      exact atKey_put_same hD (M.lit y hx) _ _
    · rw [putM_other m u e2] at hy
      rw [atKey_put_other (fun e3 => e2 (M.inj _ _ e3))]
      exact h3 y e hy z
theorem FM.del (h : FM P k kl ed R w b n m) (M : MR P k kv kl ev ed zv zd R okK okE) (K : Keyed P k) {t e : TypeId} (ht : P.underlying t = some (.map k e)) {x : κ} (hx : okK x) (ty : TypeId) :
    ∃ w', (Builtin.delete_ #[t, k] ty #[.map (some b), kv x]).run P w = .ok (.tuple #[]) w' ∧ FM P k kl ed R w' b n (delM m x) ∧ Chg (fun q => q = b) w w' := by
  obtain ⟨D, h1, h2, h3⟩ := h
  obtain ⟨w', hrun, h4, h5⟩ := h1.drop K ht (M.key x hx) ty
  refine ⟨w', hrun, ⟨_, h4, fun y => ?_, fun y e hy z => ?_⟩, chg_of_turned h5⟩
  · by_cases e : y = x
    · subst e
      rw [delM_same, has_del_same]; rfl
    · rw [delM_other m e, has_del_other (fun e2 => e (M.inj _ _ e2)), h2]
  · by_cases e2 : y = x
    · subst e2
      rw [delM_same] at hy; cases hy
    · rw [delM_other m e2] at hy
      rw [atKey_del_other (fun e3 => e2 (M.inj _ _ e3))]
      exact h3 y e hy z
theorem update_fm {ops : Array Oper} {rest : List Oper} {o : Oper} {a : Act} {Q : Exit → Act → World → Prop} (hg : o.guard = none) (mo xo vo : Operand) {t e : TypeId} (hop : o.op = Op.mapUpdate t mo xo vo)
    (M : MR P k kv kl ev ed zv zd R okK okE) (K : Keyed P k) (ht : P.underlying t = some (.map k e)) (b n : Nat) (m : κ → Option ε) (hm : a.eval mo = .map (some b)) (h : FM P k kl ed R w b n m) (hn : n < maxLen) (x : κ) (hx : okK x) (u : ε) (hu : okE u) (hxe : a.eval xo = kv x) (hve : a.eval vo = ev u)
    (hK : ∀ w', FM P k kl ed R w' b (n + 1) (putM m x u) → Chg (fun q => q = b) w w' → wpList P ops Q rest (a.put o.dst undef) w') : wpList P ops Q (o :: rest) a w := by
  refine wpList_plain hg fun K' hK' => ?_
  obtain ⟨w', hrun, r1, r2⟩ := h.put M K ht hn hx hu
  unfold Oper.wp
  simp [execOp, hop, hm, hxe, hve, hrun, Result.andThen]
  exact hK' _ _ (hK w' r1 r2)
theorem delete_fm {ops : Array Oper} {rest : List Oper} {o : Oper} {a : Act} {Q : Exit → Act → World → Prop} (hg : o.guard = none) (mo xo : Operand) {t e : TypeId} (hop : o.op = Op.call { callee := Callee.builtin Builtin.delete, args := #[mo, xo], argTypes := #[t, k] })
    (M : MR P k kv kl ev ed zv zd R okK okE) (K : Keyed P k) (ht : P.underlying t = some (.map k e)) (b n : Nat) (m : κ → Option ε) (hm : a.eval mo = .map (some b)) (h : FM P k kl ed R w b n m) (x : κ) (hx : okK x) (hxe : a.eval xo = kv x)
    (hK : ∀ w', FM P k kl ed R w' b n (delM m x) → Chg (fun q => q = b) w w' → wpList P ops Q rest (a.put o.dst (.tuple #[])) w') : wpList P ops Q (o :: rest) a w := by
  refine wpList_plain hg fun K' hK' => ?_
  obtain ⟨w', hrun, r1, r2⟩ := h.del M K ht hx o.type
  unfold Oper.wp
  simp [execOp, hop, resolve, invoke, builtin, hm, hxe, hrun, Result.andThen]
  exact hK' _ _ (hK w' r1 r2)
end
end Go.Proofs.YtlojmmcagglpoaaGreat
