/- Short words for printed walks: an operation of a drawn region that is taken first; a frame's slot that is written. -/
import Derived.OrdersHeld
import Derived.KernelRfl
namespace Go.Proofs.YtlojmmcagglpoaaGreat
theorem tkh {P : Program} {md : Region.Mode} {ops : Array Oper} {Q : Exit → Act → World → Prop} {S : World → Prop} (i : Nat) {oi : Oper} {v : Value} {fuel : Nat} {listed : Array Bool} {a : Act} {w : World} (hi : ops[i]? = some oi)
    (hv : ∀ w, S w → (execOp a.eval oi).run P w = .ok (.value v) w) (h : wpAnyH P md ops Q S fuel (listed.setIfInBounds i true) (a.put oi.dst v) w)
    (hs : Region.noSelect ops = true := by kernel_rfl) (hf : Region.free md ops listed i = true := by kernel_rfl) (hr : (Region.ready md ops listed).contains i = true := by kernel_rfl)
    (hQ : ∀ c a w, Q (.panic c) (a.put oi.dst v) w → Q (.panic c) a w := by exact fun _ _ _ h => h) (hw : Region.wanted oi (yielded ops a.tmps) = true := by rfl) (hS : S w := by assumption) : wpAnyH P md ops Q S (fuel + 1) listed a w :=
  wpAnyH_take hi hs hf hr hQ (Or.inl ⟨hw, hv⟩) hS h
theorem pz {α : Type} : (∀ (l : List α) (i : Nat) (v : α), l.toArray.setIfInBounds i v = (l.set i v).toArray) ∧ (∀ (x v : α) (l : List α), (x :: l).set 0 v = v :: l) ∧ (∀ (x v : α) (l : List α) (n : Nat), (x :: l).set (n + 1) v = x :: l.set n v) ∧ (∀ (l : List α) (i : Nat) (h : i < l.toArray.size), l.toArray[i]'h = l[i]'(by simpa using h)) ∧ (∀ (x : α) (l : List α) (h : 0 < (x :: l).length), (x :: l)[0]'h = x) ∧ (∀ (x : α) (l : List α) (n : Nat) (h : n + 1 < (x :: l).length), (x :: l)[n + 1]'h = l[n]'(Nat.lt_of_succ_lt_succ h)) :=
  ⟨fun _ _ _ => List.setIfInBounds_toArray .., fun _ _ _ => rfl, fun _ _ _ _ => rfl, fun _ _ _ => rfl, fun _ _ _ => rfl, fun _ _ _ _ => rfl⟩
end Go.Proofs.YtlojmmcagglpoaaGreat
