/- The disk: what it holds, and how it lies in memory. -/
import Derived.Test.YtlojmmcagglpoaaGreatUFrame
import Derived.Test.YtlojmmcagglpoaaGreatUMapF
import Derived.Test.YtlojmmcagglpoaaGreatUMem
import Derived.Test.YtlojmmcagglpoaaGreatURow
import Derived.StringKeys
namespace Go.Proofs.YtlojmmcagglpoaaGreat
open Go.RowKit
section
variable {S S' : Nat → Prop} {a b c w w' : World}
theorem Chg.ob (h : Chg S a b) {base : Nat} {v : Value} {l : List UInt8} (ho : OB a base v l) (hn : ∀ k, v.ownBlock = some k → ¬ S k) : OB b base v l := h.own ho hn
theorem OB.set_far {base : Nat} {v : Value} {l : List UInt8} (h : OB w base v l) {p : Addr} (hp : v.ownBlock ≠ some p.block) (u : Value) : OB (w.setCell p u) base v l :=
  Chg.ob (S := fun k => k = p.block) (Chg.setCell (S := fun k => k = p.block) (p := p) (Chg.refl _ w) (.inl rfl) u) h (fun k hk e => hp (by rw [hk, e]))
end
end Go.Proofs.YtlojmmcagglpoaaGreat
namespace Go.Proofs.YtlojmmcagglpoaaGreat
open Go.RowKit Go.Maps
structure Fl where
  nm : List UInt8
  by_ : List UInt8
  la : Nat
  ge : Nat
structure Dk where
  fs : Int → Option Fl
  ns : List UInt8 → Option Int
  se : List UInt8 → Option Int
  no : Nat
def strB (l : List UInt8) : ByteArray := ⟨l.toArray⟩
def okName (l : List UInt8) : Prop := l.length ≤ 4096
def okInt (x : Int) : Prop := -9223372036854775808 ≤ x ∧ x < 9223372036854775808
theorem strK : Keyed Tryz.prog 9 := string_keyed Tryz.underlying9
theorem intK : Keyed Tryz.prog 3 := int_keyed Tryz.underlying3
theorem wf_int {x : Int} (h : okInt x) : (Lit.int .i64 x).wf = true := by
  unfold okInt at h
  simp [Lit.wf, IntKind.min, IntKind.max, IntKind.signed, IntKind.bits]
  omega
def sV (l : List UInt8) : Value := .string (strB l)
def sL (l : List UInt8) : Lit := .string l
def iV' (x : Int) : Value := .int .i64 x
def iL (x : Int) : Lit := .int .i64 x
def iD (x : Int) : DataW Unit := .lit (.int .i64 x)
theorem iD_inj {x y : Int} (h : iD x = iD y) : x = y := by
  unfold iD at h
  injection h with h
  injection h
theorem mrNames : MR Tryz.prog 9 sV sL iV' iD (.int .i64 0) (.lit (.int .i64 0)) (plainElem Tryz.prog 3) okName okInt where
  key := fun x hx => by
    have := Go.WideMaps.keyOf_string_mk (P := Tryz.prog) (k := 9) Tryz.underlying9 (s := strB x) (by unfold strB maxLen; simp [ByteArray.size]; unfold okName at hx; omega)
    simpa [sV, sL, strB] using this
  lit := fun x _ => trivial
  inj := fun x y h => by injection h
  elem := fun e he => plainElem_int Tryz.underlying3 (wf_int he)
  back := fun v e ps h => by
    obtain ⟨a, h1, h2, _⟩ := plainElem_int_inv Tryz.underlying3 h
    have h3 : iD e = iD a := congrArg Prod.fst h2
    have h4 : e = a := iD_inj h3
    rw [h1, h4]; rfl
  zero := plainElem_int Tryz.underlying3 (by decide)
  zback := fun v ps h => by
    obtain ⟨a, h1, h2, _⟩ := plainElem_int_inv Tryz.underlying3 h
    have h3 : iD 0 = iD a := congrArg Prod.fst h2
    have h4 : 0 = a := iD_inj h3
    rw [h1, ← h4]
def ptrE (v : Value) : Option (DataW Unit × List MemPlace) := match v with
  | .pointer (some ⟨g, 0, none⟩) => some (.lit (.int .i64 (g : Int)), [])
  | .pointer none => some (.nil, [])
  | _ => none
def pV (g : Nat) : Value := .pointer (some ⟨g, 0, none⟩)
def pD (g : Nat) : DataW Unit := .lit (.int .i64 (g : Int))
theorem mrFiles : MR Tryz.prog 3 iV' iL pV pD (.pointer none) .nil ptrE okInt (fun _ => True) where
  key := fun x hx => keyOf_int_mk Tryz.underlying3 (wf_int hx)
  lit := fun x _ => trivial
  inj := fun x y h => by injection h
  elem := fun e _ => rfl
  back := fun v e ps h => by
    unfold ptrE at h
    split at h
    · rename_i g
      have := congrArg Prod.fst (Option.some.inj h)
      unfold pD at this
      injection this with this
      injection this with _ this
      have : g = e := by omega
      rw [this]; rfl
    · have := congrArg Prod.fst (Option.some.inj h)
      cases this
    · cases h
  zero := rfl
  zback := fun v ps h => by
    unfold ptrE at h
    split at h
    · have := congrArg Prod.fst (Option.some.inj h)
      cases this
    · rfl
    · cases h
def fcells (x : Fl) (v : Value) : Array Value := #[.string (strB x.nm), v, .int .i64 (x.la : Int), .int .i64 (x.ge : Int)]
def FW (W : World) (N g : Nat) (x : Fl) : Prop := ∃ v, Blk W g 182 (fcells x v) ∧ OB W N v x.by_
def bytesAt (W : World) (g : Nat) (k : Nat) : Prop := ∃ v, W.cell? ⟨g, 1, none⟩ = some v ∧ v.ownBlock = some k
structure DW (W : World) (N p q : Nat) (d : Dk) (bf bn bs : Nat) (fl : Int → Option Nat) : Prop where
  bd : Blk W p 132 #[.map (some bf), .map (some bn), .map (some bs), .int .i64 (d.no : Int)]
  mf : FM Tryz.prog 3 iL pD ptrE W bf q fl
  mn : FM Tryz.prog 9 sL iD (plainElem Tryz.prog 3) W bn q d.ns
  ms : FM Tryz.prog 9 sL iD (plainElem Tryz.prog 3) W bs q d.se
  lo : N ≤ p ∧ N ≤ bf ∧ N ≤ bn ∧ N ≤ bs ∧ bf ≠ bn ∧ bf ≠ bs ∧ bn ≠ bs
  hf : ∀ i, (fl i).isSome = (d.fs i).isSome
  fw : ∀ i g x, fl i = some g → d.fs i = some x → N ≤ g ∧ FW W N g x
  ap : ∀ i j g, fl i = some g → fl j = some g → i = j
  ab : ∀ i j g g' k, fl i = some g → fl j = some g' → bytesAt W g k → bytesAt W g' k → i = j
end Go.Proofs.YtlojmmcagglpoaaGreat
