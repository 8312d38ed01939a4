/- does, whatever the call is (package heronlaw14). -/
import Derived.Test.YthhbfjhgmdnpbabDoesCrash
import Derived.Test.YthhbfjhgmdnpbabDoesApp
namespace Go.Proofs.Ythhbfjhgmdnpbab
open Go.RowKit Go.Maps
/-- what a call's data must keep to -/
def O14.In (W : World) (o : O14) : Prop := o.s.size ≤ 140737488355328 ∧ RI W o.A o.m o.ks ∧ o.m * 8 ≤ 140737488355328
theorem O14.In.keep {W W' : World} {o : O14} (h : o.In W) (hb : Below W.heap.size W W') : o.In W' := ⟨h.1, h.2.1.keep hb, h.2.2⟩
theorem does_any {W : World} {N : Nat} {C : Nat → Nat} {c p n : Nat} {d : Dk} (h : DC W N C c p n d) (hn : n + 2 < 1000000) (o : O14) (ho : o.In W) : Calls Try.prog 6 #[.pointer (some ⟨p, 0, none⟩), .agg (oC o)] W (DoesQ W N C c p n d o) := by
  obtain ⟨hs, hr, hm⟩ := ho
  by_cases k0 : o.k = 0
  · exact does_create h hn o k0
  by_cases k1 : o.k = 1
  · exact does_append h hn o k1 hs
  by_cases k2 : o.k = 2
  · exact does_cut h hn o k2
  by_cases k3 : o.k = 3
  · exact does_rename h hn o k3
  by_cases k4 : o.k = 4
  · exact does_remove h hn o k4
  by_cases k5 : o.k = 5
  · exact does_sync h hn o k5
  by_cases k6 : o.k = 10
  · exact does_crash h hn o k6 hr hm
  · exact does_other h hn o ⟨k0, k1, k2, k3, k4, k5, k6⟩
end Go.Proofs.Ythhbfjhgmdnpbab
