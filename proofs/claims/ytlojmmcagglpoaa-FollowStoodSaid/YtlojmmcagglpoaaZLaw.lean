/- From a walk ('it returns true, and below the heap's old end nothing has turned') to a law's row: what every law of this seat shares. Nothing of the program's code is used here. -/
import Derived.Test.YtlojmmcagglpoaaZBase
import Derived.Test.YtlojmmcagglpoaaRows
import Derived.ProofKit
import Derived.OpenShut
import Derived.Carry
import Derived.Deep.Slices
import Derived.Deep.DeepHandedRow
import Derived.Lib.LaidTab
namespace Go.Proofs.Ytlojmmcagglpoaa
open Go.ChangeShapes Go.WideShapes Go.ChangeAt Go.RowKit
/-! ### What a bulk gives -/
theorem bulk_one {H : Type} (d : DataW H) : 1 ≤ Rows.uptoBulk d := by
  cases d with
  | lit l => cases l <;> simp [Rows.uptoBulk]
  | nil => simp [Rows.uptoBulk]
  | ptr d => simp [Rows.uptoBulk]
  | slice elems spare => simp [Rows.uptoBulk]
  | agg parts => simp [Rows.uptoBulk]
  | iface t d => simp [Rows.uptoBulk]
  | map entries => simp [Rows.uptoBulk]
  | held h => simp [Rows.uptoBulk]
theorem bulk_length {H : Type} (l : List (DataW H)) : l.length ≤ Rows.uptoBulkAll l := by
  induction l with
  | nil => simp [Rows.uptoBulkAll]
  | cons x r ih => have := bulk_one x; simp only [Rows.uptoBulkAll, List.length_cons]; omega
theorem bulk_append {H : Type} (l r : List (DataW H)) : Rows.uptoBulkAll (l ++ r) = Rows.uptoBulkAll l + Rows.uptoBulkAll r := by
  induction l with
  | nil => simp [Rows.uptoBulkAll]
  | cons x l ih => simp only [List.cons_append, Rows.uptoBulkAll, ih]; omega
theorem bulk_slice {H : Type} (elems spare : List (DataW H)) : elems.length + spare.length + 1 ≤ Rows.uptoBulk (.slice elems spare) := by
  have h1 := bulk_length elems
  have h2 := bulk_length spare
  simp only [Rows.uptoBulk]
  omega
theorem bulk_bound {H : Type} {l : List (DataW H)} (hk : Rows.uptoSmall H l = true) : Rows.uptoBulkAll l ≤ 1048576 := of_decide_eq_true hk
section
variable {H : Type} {enc : TypeId × Value → H} {P : Program}
theorem weights_cons {t : TypeId} {ts : List TypeId} {d : DataW H} {ds : List (DataW H)} {m : Nat} (h : (DataW.weightsEach P (t :: ts) (d :: ds)).all (· ≤ m) = true) :
    (d.weights P t).all (· ≤ m) = true ∧ (DataW.weightsEach P ts ds).all (· ≤ m) = true := by
  simp only [DataW.weightsEach, List.all_append, Bool.and_eq_true] at h
  exact h
theorem trodAll_stays (hl : laidOutB P = true) {W W' : World} (hb : Below W.heap.size W W') {sp : Nat → Bool} :
    ∀ (ts : List TypeId), (∀ t ∈ ts, P.readableRec t = true ∧ t < P.types.size) → ∀ (vs : List Value) (ds : List (DataW H)) (ps : List MemPlace),
      DataW.TrodAll enc P W 0 (fun _ => true) true ts vs ds ps → (∀ x ∈ ps, x.block < W.heap.size) → (∀ x ∈ ps, sp x.block = true) → DataW.TrodAll enc P W' 0 sp true ts vs ds ps
  | [], _, vs, ds, ps, h, _, _ => by
    obtain ⟨rfl, rfl, rfl⟩ := trodAll_nil h
    exact trodAll_mk0
  | t :: ts, ht, vs, ds, ps, h, hlt, hsp => by
    obtain ⟨v, vs', d, ds', p, q, rfl, rfl, rfl, h0, hr⟩ := trodAll_cons h
    have h1 := ht t (by simp)
    exact trodAll_cons_mk (WideElems.Trod_stays hl h1.1 h1.2 h0 (fun x hx => hb.same (hlt x (by simp [hx]))) (fun x hx => hsp x (by simp [hx])))
      (trodAll_stays hl hb ts (fun t' ht' => ht t' (by simp [ht'])) vs' ds' q hr (fun x hx => hlt x (by simp [hx])) (fun x hx => hsp x (by simp [hx])))

/-- THE ROW's LAST STEP of a law: it answered true; its arguments lie as they lay. -/
theorem lawPost {f : Func} {s : ChangeSpec} {b : TypeId} {W W' : World} {args : Array Value} {ds gs : List (DataW H)} {before : List MemPlace}
    (hl : laidOutB P = true) (hts : ∀ t ∈ f.params.toList, P.readableRec t = true ∧ t < P.types.size) (hv : s.vars = []) (hbool : P.underlying b = some .bool) (hrt : f.resultTypes = #[b])
    (hspec : ∀ (ds : List (DataW H)), ds.length = f.params.size → (s.fn H (ds ++ [])).results = [.lit (.bool true)] ∧ (s.fn H (ds ++ [])).args = ds ∧ (s.fn H (ds ++ [])).vars = [])
    (hW : DataW.Whole enc P f.params.toList s.vars false W args.toList ds gs before) (hb : Below W.heap.size W W') :
    s.post enc P f false true false false W args (.bool true) W' := by
  have hW' := hW
  obtain ⟨p, q, hA, hV, rfl, hfz, hnd⟩ := hW
  rw [hv] at hV
  obtain ⟨rfl, rfl⟩ := trodVars_none hV
  have hlt : ∀ x ∈ p, x.block < W.heap.size := fun x hx => hW'.lt x (by simp [hx])
  have hlen : ds.length = f.params.size := by
    have : ∀ (ts : List TypeId) (vs : List Value) (ds : List (DataW H)) (ps : List MemPlace), DataW.TrodAll enc P W 0 (fun _ => true) true ts vs ds ps → ds.length = ts.length := by
      intro ts
      induction ts with
      | nil => intro vs ds ps h; obtain ⟨_, rfl, _⟩ := trodAll_nil h; rfl
      | cons t ts ih => intro vs ds ps h; obtain ⟨v, vs', d, ds', p, q, _, rfl, _, _, hr⟩ := trodAll_cons h; simp [ih _ _ _ hr]
    have := this _ _ _ _ hA
    simpa using this
  obtain ⟨e1, e2, e3⟩ := hspec ds hlen
  have hold : ∀ x ∈ p ++ [], (fun b => decide (b < W.heap.size)) x.block = true := fun x hx => by simpa using hlt x (by simpa using hx)
  have hargs : ∀ sp : Nat → Bool, (∀ x ∈ p ++ [], sp x.block = true) → DataW.TrodAll enc P W' 0 sp true f.params.toList args.toList (s.fn H (ds ++ [])).args p := fun sp hsp => by
    rw [e2]; exact trodAll_stays hl hb _ hts _ _ _ hA hlt (fun x hx => hsp x (by simp [hx]))
  have hvars : ∀ sp : Nat → Bool, DataW.TrodVars enc P W' sp s.vars (s.fn H (ds ++ [])).vars [] := fun sp => by rw [hv, e3]; rfl
  have hres : ∀ (b' : Nat) (sp : Nat → Bool) (hd : Bool), DataW.TrodAll enc P W' b' sp hd f.resultTypes.toList ((Value.bool true).resultList f.resultTypes.size) (s.fn H (ds ++ [])).results [] := fun b' sp hd => by
    rw [e1, hrt]; exact trodAll_mk1 (shut_bool hbool true)
  refine ⟨ds, [], p ++ [], [], p, [], hW', hres _ _ _, hargs _ hold, hvars _, World.keptBut_mono (fun x hx => ⟨hx, ?_⟩) (hb.frame (· ∈ p ++ [])), fun _ => ?_⟩
  · exact .inr (by simpa using hx)
  · refine ⟨ok_one hrt rfl (okWide_bool_mk hbool true), _, _, ([] ++ p) ++ [], ⟨[] ++ p, [], trodAll_append (hargs _ (fun _ _ => rfl)) (hres _ _ _), hvars _, rfl, ?_, ?_⟩, ?_⟩
    · intro b' off hp
      have hin : MemPlace.cell b' off ∈ p ++ [] := by simpa using hp
      rw [hb.frozen (hlt _ (by simpa using hin))]
      exact hfz b' off hin
    · intro ha; cases ha
    · intro x hx _
      simpa using hx

variable {W : World} {base : Nat} {sp : Nat → Bool} {held : Bool}
theorem u32_bounds {x : Int} (w : (Lit.int .u32 x).wf = true) : 0 ≤ x ∧ x < 4294967296 := by
  have h : 0 ≤ x ∧ x ≤ 4294967295 := by simpa [Lit.wf, IntKind.min, IntKind.max, IntKind.signed, IntKind.bits] using w
  omega
theorem i64_bounds {x : Int} (w : (Lit.int .i64 x).wf = true) : -9223372036854775808 ≤ x ∧ x ≤ 9223372036854775807 := by
  simpa [Lit.wf, IntKind.min, IntKind.max, IntKind.signed, IntKind.bits] using w
/-- A []byte that came in. -/
theorem open_bytes {r : Reach} {b0 : Nat} {t e : TypeId} {v : Value} {d : DataW H} {ps : List MemPlace} (ht : P.underlying t = some (.slice e)) (he : P.underlying e = some (.int .u8)) (hc : P.cellsOf e = 1)
    (hval : Value.okWide P W r b0 t v) (h : DataW.Trod enc P W base (fun _ => true) held t v d ps) :
    ∃ A len cap l, v = .slice A len cap ∧ len ≤ cap ∧ cap ≤ maxLen ∧ RB W A len l ∧
      (∀ m, (d.weights P t).all (· ≤ m) = true → cap * P.bytesOf e ≤ m) ∧ cap ≤ Rows.uptoBulk d := by
  obtain ⟨a, len, cap, rfl⟩ := okWide_slice ht hval
  obtain ⟨fuel, hf⟩ := h
  rcases open_ints ht he hc hf with ⟨hcs, hx⟩ | ⟨a', len', cap', zs, hcs, _, hl, hm, hz, hx, hcell, hwz⟩
  · simp [Value.cells] at hcs
    obtain ⟨rfl, rfl, rfl⟩ := hcs
    simp only [Prod.mk.injEq] at hx
    exact ⟨_, _, _, [], rfl, Nat.le_refl _, Nat.zero_le _, RB.nil _ _, fun m _ => by simp, Nat.zero_le _⟩
  · simp [Value.cells] at hcs
    obtain ⟨rfl, rfl, rfl⟩ := hcs
    simp only [Prod.mk.injEq] at hx
    simp only [if_true] at hz
    refine ⟨_, _, _, (zs.take len).map fun n => UInt8.ofNat n.toNat, rfl, hl, hm, ⟨by simp; omega, fun hn => ?_⟩, fun m hm' => ?_, ?_⟩
    rotate_left
    · rw [hx.1] at hm'
      simp only [DataW.weights, ht, List.all_cons, Bool.and_eq_true, decide_eq_true_eq] at hm'
      have e2 : (lits (H := H) .u8 (zs.take len)).length + (lits (H := H) .u8 (zs.drop len)).length = cap := by simp [lits]; omega
      rw [e2] at hm'
      exact hm'.1
    · rw [hx.1]
      have e2 : (lits (H := H) .u8 (zs.take len)).length + (lits (H := H) .u8 (zs.drop len)).length = cap := by simp [lits]; omega
      have := bulk_slice (H := H) (lits .u8 (zs.take len)) (lits .u8 (zs.drop len))
      omega
    obtain ⟨b, off, rfl, hc'⟩ := ints_at hcell (by omega)
    have hlt : b < W.heap.size := World.block_lt_of_cell? W _ (hc' 0 (by omega))
    refine ⟨b, off, rfl, hlt, fun j c hj => ?_⟩
    have hjl : j < len := by
      have := (List.getElem?_eq_some_iff.1 hj).1
      simp at this; omega
    rw [hc' j (by omega)]
    rw [List.getElem?_map, List.getElem?_take_of_lt hjl, List.getElem?_eq_getElem (by omega)] at hj
    simp only [Option.map_some, Option.some.injEq] at hj
    have hg : zs.getD j 0 = zs[j]'(by omega) := by rw [List.getD_eq_getElem?_getD, List.getElem?_eq_getElem (by omega)]; rfl
    rw [hg]
    have hw := hwz (zs[j]'(by omega)) (List.getElem_mem _)
    have hbd : 0 ≤ zs[j]'(by omega) ∧ zs[j]'(by omega) ≤ 255 := by simpa [Lit.wf, IntKind.min, IntKind.max, IntKind.signed, IntKind.bits] using hw
    subst hj
    simp only [byteV]
    congr 2
    rw [UInt8.toNat_ofNat_of_lt' (by show _ < 256; omega)]
    omega
end
end Go.Proofs.Ytlojmmcagglpoaa
