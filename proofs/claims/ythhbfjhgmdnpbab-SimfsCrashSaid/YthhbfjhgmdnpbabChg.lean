/- Frames for bytes of the call's own. -/
import Derived.Test.YthhbfjhgmdnpbabMem
import Derived.Test.YthhbfjhgmdnpbabFrame
namespace Go.Proofs.Ythhbfjhgmdnpbab
open Go.RowKit
section
variable {S S' : Nat → Prop} {a b c w w' : World}
theorem Chg.ob (h : Chg S a b) {base : Nat} {v : Value} {l : List UInt8} (ho : OB a base v l) (hn : ∀ k, v.ownBlock = some k → ¬ S k) : OB b base v l := h.own ho hn
theorem OB.set_far {base : Nat} {v : Value} {l : List UInt8} (h : OB w base v l) {p : Addr} (hp : v.ownBlock ≠ some p.block) (u : Value) : OB (w.setCell p u) base v l :=
  Chg.ob (S := fun k => k = p.block) (Chg.setCell (S := fun k => k = p.block) (p := p) (Chg.refl _ w) (.inl rfl) u) h (fun k hk e => hp (by rw [hk, e]))
end
end Go.Proofs.Ythhbfjhgmdnpbab
