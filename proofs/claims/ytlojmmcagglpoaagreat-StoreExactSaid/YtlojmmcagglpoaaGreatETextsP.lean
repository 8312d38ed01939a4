/- THE WALK of sameTexts (package heronlaw14); sorted names. -/
import Derived.Test.YtlojmmcagglpoaaGreatEDiskC
import Derived.Test.YtlojmmcagglpoaaGreatENames
import Derived.RegionTactic
import Derived.BigQuiet
import Derived.Laws.StructEq
namespace Go.Proofs.YtlojmmcagglpoaaGreat
open Go.RowKit Go.Maps
/-- the slice (A, n) reads as texts -/
def TX (W : World) (A : Option Addr) (n : Nat) (l : List (List UInt8)) : Prop :=
  l.length = n ∧ (0 < n → ∃ b off, A = some ⟨b, off, none⟩ ∧ b < W.heap.size ∧ ∀ (j : Nat) (s : List UInt8), l[j]? = some s → W.cell? ⟨b, off + j, none⟩ = some (.string (strB s)))
theorem TX.at_ {w : World} {A : Option Addr} {n : Nat} {l : List (List UInt8)} (h : TX w A n l) {k : Nat} (hk : k < n) :
    ∃ b off s, A = some ⟨b, off, none⟩ ∧ l[k]? = some s ∧ w.cell? ⟨b, off + k, none⟩ = some (.string (strB s)) := by
  obtain ⟨b, off, e, hb, hc⟩ := h.2 (by omega)
  have hl : k < l.length := by have := h.1; omega
  exact ⟨b, off, l[k], e, List.getElem?_eq_getElem hl, hc k _ (List.getElem?_eq_getElem hl)⟩
theorem TX.of_own {w : World} {base n c : Nat} {A : Option Addr} {l : List (List UInt8)} (hl : l.length = n) (h : w.ownsRow base 9 1 (.slice A n c) n (l.map sV)) : TX w A n l := by
  refine ⟨hl, fun hm => ?_⟩
  rcases h.2 with ⟨hv, hz⟩ | ⟨gb, cap', cur, hv, _, _⟩
  · omega
  · have hv' := hv
    injection hv with e1 _ _
    subst e1
    refine ⟨gb, 0, rfl, (h.lt gb rfl).2, fun j k hj => ?_⟩
    have h1 := World.ownsRow.cellAt h j (by have := (List.getElem?_eq_some_iff.1 hj).1; omega)
    rw [Nat.zero_add, h1, List.getElem?_map, hj]; rfl
theorem strB_list (a : List UInt8) : (strB a).toList = a := by rw [ByteArray.toList_eq]; rfl
theorem strBL_inj {a b : List UInt8} (h : (strB a).toList = (strB b).toList) : a = b := by rwa [strB_list, strB_list] at h
set_option maxRecDepth 100000 in
set_option maxHeartbeats 2000000 in
theorem texts_any (A A' : Option Addr) (n n' c c' : Nat) (l l' : List (List UInt8)) (w : World) (hl : TX w A n l) (hl' : TX w A' n' l') (hn : n ≤ 9223372036854775807) (hn' : n' ≤ 9223372036854775807) (hc : n ≤ c) (hc' : n' ≤ c') :
    Calls Tryz.prog 58 #[.slice A n c, .slice A' n' c'] w fun e w' => e = .returned (.bool (decide (l = l'))) ∧ ∃ m, w' = w.drewN m := by
  by_cases hnn : n = n'
  · subst hnn
    have HL := Lib.hid hl; have HL' := Lib.hid hl'
    clear hl hl'
    go_enter Tryz.func58, Tryz.ntmps58
    go_wp2_with fail
    go_loopw [5] (fun iv W => ∃ k : Nat, k ≤ n ∧ iv = .int .i64 (k : Int) ∧ Hid (l.take k = l'.take k) ∧ ∃ m, W = w.drewN m) (fun iv _ => n - (intOf iv).toNat)
    case atStart => exact ⟨0, Nat.zero_le _, rfl, Lib.hid rfl, 0, rfl⟩
    case round =>
      obtain ⟨k, hk, rfl, HK, md, rfl⟩ := hrel
      by_cases hlt : k < n
      · obtain ⟨b, off, s, rfl, hs, c0⟩ := HL.out.at_ hlt
        obtain ⟨b', off', s', rfl, hs', c1⟩ := HL'.out.at_ hlt
        have HM := Lib.hid hs; have HM' := Lib.hid hs'
        have d0 : ∀ q, (w.drewN q).cell? ⟨b, off + k, none⟩ = some (.string (strB s)) := fun q => c0
        have d1 : ∀ q, (w.drewN q).cell? ⟨b', off' + k, none⟩ = some (.string (strB s')) := fun q => c1
        clear hs hs' c0 c1
        by_cases he : s = s'
        · subst he
          have HK2 : Hid (l.take (k + 1) = l'.take (k + 1)) := Lib.hid (by rw [take_snoc HM.out, take_snoc HM'.out, HK.out])
          go_upto_region 6 with fail
          go_quiet (fail)
          go_wp2_with fail
          go_roundw
          case rel => exact ⟨k + 1, by omega, by go_num, HK2, _, rfl⟩
          case measure => simp [intOf]; omega
        · have hne : ((strB s).toList == (strB s').toList) = false := by
            rw [beq_eq_false_iff_ne]
            exact fun e => he (strBL_inj e)
          have HS : Hid (decide (l = l') = false) := Lib.hid (decide_eq_false (fun e => he (by
            have h1 := HM.out
            rw [e, HM'.out] at h1
            exact (Option.some.inj h1).symm)))
          clear he
          go_upto_region 6 with fail
          go_quiet (fail)
          go_wp2_with fail
          go_ret
          exact ⟨by rw [HS.out]; rfl, md + nq, by simp⟩
      · obtain rfl : k = n := by omega
        have HS : Hid (decide (l = l') = true) := Lib.hid (decide_eq_true (by
          have := HK.out
          rwa [List.take_of_length_le (by have := HL.out.1; omega), List.take_of_length_le (by have := HL'.out.1; omega)] at this))
        go_wp2_with fail
        go_ret
        exact ⟨by rw [HS.out]; rfl, _, rfl⟩
  · have HS : Hid (decide (l = l') = false) := Lib.hid (decide_eq_false (fun e => hnn (by rw [← hl.1, ← hl'.1, e])))
    have hni : ((n : Int) == (n' : Int)) = false := by rw [beq_eq_false_iff_ne]; omega
    clear hl hl'
    go_enter Tryz.func58, Tryz.ntmps58
    go_wp2_with fail
    go_ret
    exact ⟨by rw [HS.out]; rfl, 0, rfl⟩
/-- names that are the same are the same when sorted -/
theorem sorted_same {a b : List (List UInt8)} (ha : a.Nodup) (hb : b.Nodup) (h : ∀ x, x ∈ a ↔ x ∈ b) : (a.mergeSort fun x y => decide (x ≤ y)) = b.mergeSort fun x y => decide (x ≤ y) := by
  have hp : a.Perm b := (List.perm_ext_iff_of_nodup ha hb).2 h
  have tr : ∀ (x y z : List UInt8), decide (x ≤ y) = true → decide (y ≤ z) = true → decide (x ≤ z) = true := fun x y z h1 h2 => decide_eq_true (List.le_trans (of_decide_eq_true h1) (of_decide_eq_true h2))
  have tt : ∀ (x y : List UInt8), (decide (x ≤ y) || decide (y ≤ x)) = true := fun x y => by
    rcases List.le_total x y with h | h
    · simp [h]
    · simp [h]
  refine List.Perm.eq_of_pairwise (le := fun x y => decide (x ≤ y) = true) (fun x y _ _ h1 h2 => List.le_antisymm (of_decide_eq_true h1) (of_decide_eq_true h2)) (List.pairwise_mergeSort tr tt a) (List.pairwise_mergeSort tr tt b) (((List.mergeSort_perm a _).trans hp).trans (List.mergeSort_perm b _).symm)
def eqS4 (a b c d a' b' c' d' : Int) : Bool := (a == a') && ((b == b') && ((c == c') && (d == d')))
theorem eql_stat (a b c d a' b' c' d' : Int) (w : World) : (Op.equalIn 10000 119 (.agg #[.int .i64 a, .int .i64 b, .int .i64 c, .int .i64 d]) (.agg #[.int .i64 a', .int .i64 b', .int .i64 c', .int .i64 d'])).run Tryz.prog w = .ok (eqS4 a b c d a' b' c' d') w := by
  unfold eqS4
  have u3 := Tryz.underlying3
  have hS : Tryz.prog.underlying 119 = some (.struct (Tryz.prog.fieldsOf 119)) := by kernel_rfl
  have hp : Tryz.prog.stoodInHeld 119 = false := by kernel_rfl
  rw [show (10000 : Nat) = 9999 + 1 from rfl, run_equalIn_agg w 9999 119 _ _ hS hp]
  simp only [Program.fieldsOf, Tryz.underlying119]
  clear hS hp
  go_simp
  repeat' split
  all_goals simp [*]
theorem neq_stat (a b c d a' b' c' d' : Int) (w : World) : (binOp .neq 119 (.agg #[.int .i64 a, .int .i64 b, .int .i64 c, .int .i64 d]) (.agg #[.int .i64 a', .int .i64 b', .int .i64 c', .int .i64 d'])).run Tryz.prog w = .ok (.bool (!eqS4 a b c d a' b' c' d')) w := by
  rw [run_neq_struct, eql_stat]; rfl
theorem eq_stat (a b c d a' b' c' d' : Int) (w : World) : (binOp .eql 119 (.agg #[.int .i64 a, .int .i64 b, .int .i64 c, .int .i64 d]) (.agg #[.int .i64 a', .int .i64 b', .int .i64 c', .int .i64 d'])).run Tryz.prog w = .ok (.bool (eqS4 a b c d a' b' c' d')) w := by
  rw [run_eql_struct, eql_stat]; rfl
theorem guard_stat : Tryz.prog.eqGuardType Tryz.prog.depth 119 = false := by kernel_rfl
end Go.Proofs.YtlojmmcagglpoaaGreat
