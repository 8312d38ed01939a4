/- From a walk ('it returns true, and below the heap's old end nothing has turned') to a law's row: what every law of this seat shares. Nothing of the program's code is used here. -/
import Derived.Test.YtlojmmcagglpoaaGreatUBase
import Derived.Test.YtlojmmcagglpoaaGreatRows
import Derived.ProofKit
import Derived.OpenShut
import Derived.Carry
import Derived.Deep.Slices
import Derived.Deep.DeepHandedRow
import Derived.Lib.LaidTab
namespace Go.Proofs.YtlojmmcagglpoaaGreat
open Go.ChangeShapes Go.WideShapes Go.ChangeAt Go.RowKit
/-! ### What a bulk gives -/
section
variable {H : Type} {enc : TypeId × Value → H} {P : Program}
theorem weights_cons {t : TypeId} {ts : List TypeId} {d : DataW H} {ds : List (DataW H)} {m : Nat} (h : (DataW.weightsEach P (t :: ts) (d :: ds)).all (· ≤ m) = true) :
    (d.weights P t).all (· ≤ m) = true ∧ (DataW.weightsEach P ts ds).all (· ≤ m) = true := by
  simp only [DataW.weightsEach, List.all_append, Bool.and_eq_true] at h
  exact h
theorem trodAll_stays (hl : laidOutB P = true) {W W' : World} (hb : Below W.heap.size W W') {sp : Nat → Bool} :
    ∀ (ts : List TypeId), (∀ t ∈ ts, P.readableRec t = true ∧ t < P.types.size) → ∀ (vs : List Value) (ds : List (DataW H)) (ps : List MemPlace),
      DataW.TrodAll enc P W 0 (fun _ => true) true ts vs ds ps → (∀ x ∈ ps, x.block < W.heap.size) → (∀ x ∈ ps, sp x.block = true) → DataW.TrodAll enc P W' 0 sp true ts vs ds ps
  | [], _, vs, ds, ps, h, _, _ => by
    obtain ⟨rfl, rfl, rfl⟩ := trodAll_nil h
    exact trodAll_mk0
  | t :: ts, ht, vs, ds, ps, h, hlt, hsp => by
    obtain ⟨v, vs', d, ds', p, q, rfl, rfl, rfl, h0, hr⟩ := trodAll_cons h
    have h1 := ht t (by simp)
    exact trodAll_cons_mk (WideElems.Trod_stays hl h1.1 h1.2 h0 (fun x hx => hb.same (hlt x (by simp [hx]))) (fun x hx => hsp x (by simp [hx])))
      (trodAll_stays hl hb ts (fun t' ht' => ht t' (by simp [ht'])) vs' ds' q hr (fun x hx => hlt x (by simp [hx])) (fun x hx => hsp x (by simp [hx])))
theorem lawPost {f : Func} {s : ChangeSpec} {b : TypeId} {W W' : World} {args : Array Value} {ds gs : List (DataW H)} {before : List MemPlace}
    (hl : laidOutB P = true) (hts : ∀ t ∈ f.params.toList, P.readableRec t = true ∧ t < P.types.size) (hv : s.vars = []) (hbool : P.underlying b = some .bool) (hrt : f.resultTypes = #[b])
    (hspec : ∀ (ds : List (DataW H)), ds.length = f.params.size → (s.fn H (ds ++ [])).results = [.lit (.bool true)] ∧ (s.fn H (ds ++ [])).args = ds ∧ (s.fn H (ds ++ [])).vars = [])
    (hW : DataW.Whole enc P f.params.toList s.vars false W args.toList ds gs before) (hb : Below W.heap.size W W') :
    s.post enc P f false true false false W args (.bool true) W' := by
  have hW' := hW
  obtain ⟨p, q, hA, hV, rfl, hfz, hnd⟩ := hW
  rw [hv] at hV
  obtain ⟨rfl, rfl⟩ := trodVars_none hV
  have hlt : ∀ x ∈ p, x.block < W.heap.size := fun x hx => hW'.lt x (by simp [hx])
  have hlen : ds.length = f.params.size := by
    have : ∀ (ts : List TypeId) (vs : List Value) (ds : List (DataW H)) (ps : List MemPlace), DataW.TrodAll enc P W 0 (fun _ => true) true ts vs ds ps → ds.length = ts.length := by
      intro ts
      induction ts with
      | nil => intro vs ds ps h; obtain ⟨_, rfl, _⟩ := trodAll_nil h; rfl
      | cons t ts ih => intro vs ds ps h; obtain ⟨v, vs', d, ds', p, q, _, rfl, _, _, hr⟩ := trodAll_cons h; simp [ih _ _ _ hr]
    have := this _ _ _ _ hA
    simpa using this
  obtain ⟨e1, e2, e3⟩ := hspec ds hlen
  have hold : ∀ x ∈ p ++ [], (fun b => decide (b < W.heap.size)) x.block = true := fun x hx => by simpa using hlt x (by simpa using hx)
  have hargs : ∀ sp : Nat → Bool, (∀ x ∈ p ++ [], sp x.block = true) → DataW.TrodAll enc P W' 0 sp true f.params.toList args.toList (s.fn H (ds ++ [])).args p := fun sp hsp => by
    rw [e2]; exact trodAll_stays hl hb _ hts _ _ _ hA hlt (fun x hx => hsp x (by simp [hx]))
  have hvars : ∀ sp : Nat → Bool, DataW.TrodVars enc P W' sp s.vars (s.fn H (ds ++ [])).vars [] := fun sp => by rw [hv, e3]; rfl
  have hres : ∀ (b' : Nat) (sp : Nat → Bool) (hd : Bool), DataW.TrodAll enc P W' b' sp hd f.resultTypes.toList ((Value.bool true).resultList f.resultTypes.size) (s.fn H (ds ++ [])).results [] := fun b' sp hd => by
    rw [e1, hrt]; exact trodAll_mk1 (shut_bool hbool true)
  refine ⟨ds, [], p ++ [], [], p, [], hW', hres _ _ _, hargs _ hold, hvars _, World.keptBut_mono (fun x hx => ⟨hx, ?_⟩) (hb.frame (· ∈ p ++ [])), fun _ => ?_⟩
  · exact .inr (by simpa using hx)
  · refine ⟨ok_one hrt rfl (okWide_bool_mk hbool true), _, _, ([] ++ p) ++ [], ⟨[] ++ p, [], trodAll_append (hargs _ (fun _ _ => rfl)) (hres _ _ _), hvars _, rfl, ?_, ?_⟩, ?_⟩
    · intro b' off hp
      have hin : MemPlace.cell b' off ∈ p ++ [] := by simpa using hp
      rw [hb.frozen (hlt _ (by simpa using hin))]
      exact hfz b' off hin
    · intro ha; cases ha
    · intro x hx _
      simpa using hx
variable {W : World} {base : Nat} {sp : Nat → Bool} {held : Bool}
theorem i64_bounds {x : Int} (w : (Lit.int .i64 x).wf = true) : -9223372036854775808 ≤ x ∧ x ≤ 9223372036854775807 := by
  simpa [Lit.wf, IntKind.min, IntKind.max, IntKind.signed, IntKind.bits] using w
end
end Go.Proofs.YtlojmmcagglpoaaGreat
