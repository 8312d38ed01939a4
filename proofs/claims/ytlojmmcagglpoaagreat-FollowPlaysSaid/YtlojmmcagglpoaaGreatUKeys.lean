/- slices.Sorted(maps.Keys(m)) over a map of the call's own with int keys: by the library's contracts. -/
import Derived.Test.YtlojmmcagglpoaaGreatUDisk
import Derived.Test.YtlojmmcagglpoaaGreatULay
import Derived.RangeFuncBound
import Derived.Sort.OwnSortedInts
namespace Go.Proofs.YtlojmmcagglpoaaGreat
open Go.RowKit Go.Maps Go.Sort Go.Shelf
def keysW (W : World) (mb : Option Nat) : World := W.alloc (.cells #[.map mb] 129)
def keysV (W : World) : Value := .func (.func 160) #[] #[.pointer (some ⟨W.heap.size, 0, none⟩)]
theorem keys_any (W : World) (mb : Option Nat) : Calls Tryz.prog 144 #[.map mb] W fun e w' => e = .returned (keysV W) ∧ w' = keysW W mb :=
  (callsIn_wide (n := 5)).1 (AnyZI.keys_in keysL Fence.wide 5 trivial rfl mb W)
def SortedQ (W : World) (n : Nat) (has : Int → Bool) (e : Ending) (w' : World) : Prop :=
  ∃ (v : Value) (ss : List Int), e = .returned v ∧ ss.Pairwise (· < ·) ∧ (∀ i, i ∈ ss ↔ has i = true) ∧ ss.length ≤ n ∧ w'.ownsRow W.heap.size 3 1 v ss.length (ss.map iV') ∧ Below W.heap.size W w'
theorem keys_nodup {es : List (Lit × DataW Unit)} (hp : es.Pairwise (fun p q => p.1 ≠ q.1)) (hk : ∀ p ∈ es, ∃ x, p.1 = .int .i64 x) : (intKeys (.map es)).Nodup ∧ ∀ x, x ∈ intKeys (.map es) ↔ Maps.has (.map es) (.int .i64 x) = true := by
  constructor
  · show (es.map fun p => _root_.Go.intOf p.1).Nodup
    refine List.pairwise_map.2 (hp.imp_of_mem fun {p q} hp' hq' hne e => hne ?_)
    obtain ⟨a, ha⟩ := hk p hp'
    obtain ⟨b, hb⟩ := hk q hq'
    rw [ha, hb] at e ⊢
    exact congrArg _ e
  · intro x
    rw [has_eq, List.any_eq_true]
    show x ∈ (es.map fun p => _root_.Go.intOf p.1) ↔ _
    rw [List.mem_map]
    constructor
    · rintro ⟨p, hp', rfl⟩
      obtain ⟨a, ha⟩ := hk p hp'
      exact ⟨p, hp', by rw [ha]; simp [Lit.sameKey, _root_.Go.intOf]⟩
    · rintro ⟨p, hp', hs⟩
      obtain ⟨a, ha⟩ := hk p hp'
      rw [ha] at hs
      exact ⟨p, hp', by rw [ha]; simpa [Lit.sameKey, _root_.Go.intOf] using hs⟩
set_option maxHeartbeats 1000000 in
theorem sorted_any {ε : Type} {ed : ε → DataW Unit} {R : Value → Option (DataW Unit × List MemPlace)} {W : World} {b n : Nat} {m : Int → Option ε} (h : FM Tryz.prog 3 iL ed R W b n m) (hn : n ≤ 1000000) :
    Calls Tryz.prog 143 #[keysV W] (keysW W (some b)) (SortedQ W n (fun i => (m i).isSome)) := by
  obtain ⟨D0, hown, hhas, _⟩ := h
  refine (callsIn_wide (n := 6)).1 ?_
  have hmax : Maps.size D0 ≤ maxLen := Nat.le_trans hown.size_le (by unfold maxLen; omega)
  have hbytes : Maps.size D0 * 8 ≤ 140737488355328 := by have := hown.size_le; omega
  have hbl := hown.lt
  have hseq : SeqGives Fence.wide 3 Tryz.prog 160 #[.pointer (some ⟨W.heap.size, 0, none⟩)] encZ (fun ss => ss.Perm (intKeys D0)) (Maps.size D0) (keysW W (some b)) :=
    AnyZI.keys_gives (ρ := keysL_ren) { keysL with } Fence.wide _ trivial rfl (by omega) W.heap.size b n D0 _ (by simp [keysW]) (by simp [keysW]) (by
      obtain ⟨es, clock, hb, Ft, hs, hD⟩ := hown
      exact ⟨es, clock, (Below.heap_alloc _ _ b hbl).trans hb, Ft, hs, hD⟩)
  have hsorts : AnyZI.SortsIn Tryz.prog sortedL_ren Fence.wide 5 :=
    ⟨fun blk off cap ss W hH hblk hsz => callsIn_wide.2 (AnyM.slices_Sort_int sortIL blk off cap ss W hH hblk hsz), fun p cap W => callsIn_wide.2 (AnyM.slices_Sort_int_none sortIL p cap W)⟩
  have cS := AnyZI.sorted_in sortedL Fence.wide 6 trivial trivial trivial trivial rfl (by omega) hsorts (enters_of Tryz.func159 (by kernel_rfl) rfl) 160 #[.pointer (some ⟨W.heap.size, 0, none⟩)] trivial (enters_of Tryz.func160 (by kernel_rfl) rfl) _ _ hmax hbytes _ hseq
  refine cS.mono ?_
  rintro e w' ⟨v, ss, rfl, hS, hrow, hnil, hb⟩
  obtain ⟨es, rfl, hpw, hkl⟩ := hown.entries intK
  have hk : ∀ p ∈ es, ∃ x, p.1 = .int .i64 x := fun p hp => by
    obtain ⟨es', hD', hko⟩ := hown.keysOf
    obtain rfl : es = es' := by simpa using hD'
    obtain ⟨v, hv⟩ := hko p hp
    obtain ⟨x, _, hx, _⟩ := Maps.keyOf_i64 Tryz.underlying3 hv
    exact ⟨x, hx⟩
  obtain ⟨hnd, hmem⟩ := keys_nodup hpw hk
  have hp := (List.mergeSort_perm ss leI).trans hS
  have hsz : (keysW W (some b)).heap.size = W.heap.size + 1 := by simp [keysW]
  refine ⟨v, ss.mergeSort leI, rfl, ?_, fun i => ?_, ?_, ?_, ?_⟩
  · have h1 : (ss.mergeSort leI).Pairwise (fun a b => leI a b = true) := List.pairwise_mergeSort (fun a b c h1 h2 => by simp only [leI, decide_eq_true_eq] at *; omega) (fun a b => by simp only [leI, Bool.or_eq_true, decide_eq_true_eq]; omega) ss
    have h2 : (ss.mergeSort leI).Nodup := hp.nodup_iff.2 hnd
    exact (h1.and h2).imp (fun {a b} h => by
      have h3 := h.1
      simp only [leI, decide_eq_true_eq] at h3
      have h4 : a ≠ b := h.2
      omega)
  · rw [hp.mem_iff, hmem]; exact Iff.of_eq (congrArg (· = true) (hhas i))
  · rw [hp.length_eq]
    have h3 : (intKeys (.map es)).length = Maps.size (.map es) := by simp [intKeys, Maps.size]
    rw [h3]; exact hown.size_le
  · have := ownsRow_base_a hrow (base' := W.heap.size) (by omega)
    rw [List.length_mergeSort]; exact this
  · exact ((Below.refl _ W).alloc (Nat.le_refl _) _).trans (hb.mono (by omega))
end Go.Proofs.YtlojmmcagglpoaaGreat
