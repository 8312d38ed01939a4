/- THE WALKS of the law's own helpers. -/
import Derived.Test.YtpeaacbbfkanmaaDoorCkptOwn
import Derived.Deep.QuietTactic
import Derived.BigQuiet
import Derived.Laws.StructEq
namespace Go.Proofs.YtpeaacbbfkanmaaDoor
open Go.RowKit
theorem Mk.list_inj {m m' : Mk} (h : m.list = m'.list) : m = m' := by
  obtain ⟨a0, a1, a2, a3, a4, a5, a6, a7, a8⟩ := m
  obtain ⟨b0, b1, b2, b3, b4, b5, b6, b7, b8⟩ := m'
  simp only [Mk.list, List.cons.injEq, and_true] at h
  obtain ⟨rfl, rfl, rfl, rfl, rfl, rfl, rfl, rfl, rfl⟩ := h
  rfl
def sameB (l l' : List Mk) : Bool := decide (l.map Mk.list = l'.map Mk.list)
theorem sameB_iff (l l' : List Mk) : sameB l l' = true ↔ l = l' := by
  unfold sameB
  rw [decide_eq_true_eq]
  constructor
  · intro h
    have hl : l.length = l'.length := by have := congrArg List.length h; simpa using this
    refine List.ext_getElem? fun i => ?_
    by_cases hi : i < l.length
    · have := congrArg (fun q => q[i]?) h
      simp only [List.getElem?_map] at this
      rw [List.getElem?_eq_getElem hi, List.getElem?_eq_getElem (show i < l'.length by omega)] at this ⊢
      rw [Mk.list_inj (Option.some.inj this)]
    · rw [List.getElem?_eq_none (by omega), List.getElem?_eq_none (by omega)]
  · rintro rfl; rfl
def eqM (m m' : Mk) : Bool := (m.a0 == m'.a0) && ((m.a1 == m'.a1) && ((m.a2 == m'.a2) && ((m.a3 == m'.a3) && ((m.a4 == m'.a4) && ((m.a5 == m'.a5) && ((m.a6 == m'.a6) && ((m.a7 == m'.a7) && (m.a8 == m'.a8))))))))
theorem eqM_iff (m m' : Mk) : eqM m m' = true ↔ m = m' := by
  obtain ⟨a0, a1, a2, a3, a4, a5, a6, a7, a8⟩ := m
  obtain ⟨b0, b1, b2, b3, b4, b5, b6, b7, b8⟩ := m'
  simp [eqM]
theorem eql_marks (m m' : Mk) (w : World) : (Op.equalIn 10000 31 (.agg m.cells) (.agg m'.cells)).run Tryd.prog w = .ok (eqM m m') w := by
  obtain ⟨a0, a1, a2, a3, a4, a5, a6, a7, a8⟩ := m
  obtain ⟨b0, b1, b2, b3, b4, b5, b6, b7, b8⟩ := m'
  unfold Mk.cells eqM
  have u3 := Tryd.underlying3
  have hS : Tryd.prog.underlying 31 = some (.struct (Tryd.prog.fieldsOf 31)) := by kernel_rfl
  have hp : Tryd.prog.stoodInHeld 31 = false := by kernel_rfl
  have hS2 : Tryd.prog.underlying 29 = some (.struct (Tryd.prog.fieldsOf 29)) := by kernel_rfl
  have hp2 : Tryd.prog.stoodInHeld 29 = false := by kernel_rfl
  have hL := fun xs ys w => run_equalIn_agg (P := Tryd.prog) w 9998 29 xs ys hS2 hp2
  rw [show (10000 : Nat) = 9999 + 1 from rfl, run_equalIn_agg w 9999 31 _ _ hS hp]
  simp only [Program.fieldsOf, Tryd.underlying31, Tryd.underlying29] at hL ⊢
  clear hS hp hS2 hp2
  go_simp
  repeat' split
  all_goals simp [*]
theorem neq_marks (m m' : Mk) (w : World) : (binOp .neq 31 (.agg m.cells) (.agg m'.cells)).run Tryd.prog w = .ok (.bool (!eqM m m')) w := by
  rw [run_neq_struct, eql_marks]; rfl
theorem eq_marks (m m' : Mk) (w : World) : (binOp .eql 31 (.agg m.cells) (.agg m'.cells)).run Tryd.prog w = .ok (.bool (eqM m m')) w := by
  rw [run_eql_struct, eql_marks]; rfl
theorem guard_marks : Tryd.prog.eqGuardType Tryd.prog.depth 31 = false := by kernel_rfl
def SamePost (b : Bool) (w : World) (e : Ending) (w' : World) : Prop := e = .returned (.bool b) ∧ ∃ m, w' = w.drewN m
set_option maxRecDepth 100000 in
set_option maxHeartbeats 2000000 in
theorem same_any (A A' : Option Addr) (n n' c c' : Nat) (l l' : List Mk) (w : World) (hl : MS w A n l) (hl' : MS w A' n' l') (hn : n ≤ 1048576) (hn' : n' ≤ 1048576) (hc : n ≤ c) (hc' : n' ≤ c') :
    Calls Tryd.prog 10 #[.slice A n c, .slice A' n' c'] w (SamePost (sameB l l') w) := by
  by_cases hnn : n = n'
  · subst hnn
    have HL := Lib.hid hl; have HL' := Lib.hid hl'
    clear hl hl'
    go_enter Tryd.func10, Tryd.ntmps10
    go_wp2_with fail
    go_loopw [13] (fun iv W => ∃ k : Nat, k ≤ n ∧ iv = .int .i64 (k : Int) ∧ Hid (l.take k = l'.take k) ∧ ∃ m, W = w.drewN m) (fun iv _ => n - (intOf iv).toNat)
    case atStart => exact ⟨0, Nat.zero_le _, rfl, Lib.hid rfl, 0, rfl⟩
    case round =>
      obtain ⟨k, hk, rfl, HK, md, rfl⟩ := hrel
      by_cases hlt : k < n
      · obtain ⟨bb, off, m, rfl, hbb, hm, c0, c1, c2, c3, c4, c5, c6, c7, c8⟩ := HL.out.at_ hlt
        obtain ⟨bb', off', m', rfl, hbb', hm', d0, d1, d2, d3, d4, d5, d6, d7, d8⟩ := HL'.out.at_ hlt
        have HM := Lib.hid hm; have HM' := Lib.hid hm'
        have hq := guard_marks
        have he := neq_marks m m'
        unfold Mk.cells at he
        have HE := Lib.hid he
        clear hm hm'
        clear he
        cases hee : eqM m m' with
        | true =>
          have hmm := (eqM_iff m m').1 hee
          have HK2 : Hid (l.take (k + 1) = l'.take (k + 1)) := Lib.hid (by rw [take_snoc HM.out, take_snoc HM'.out, HK.out, hmm])
          have he := HE.out
          rw [hee] at he
          clear hmm hee
          go_upto_region 6 with fail
          go_quiet (fail)
          go_wp2_with fail
          go_roundw
          case rel => exact ⟨k + 1, by omega, by go_num, HK2, _, rfl⟩
          case measure => simp [intOf]; omega
        | false =>
          have hs : sameB l l' = false := by
            cases hs : sameB l l' with
            | false => rfl
            | true =>
              have e := (sameB_iff l l').1 hs
              have e1 := HM.out
              rw [e, HM'.out] at e1
              rw [(eqM_iff m m').2 (Option.some.inj e1).symm] at hee
              cases hee
          have HS := Lib.hid hs
          have he := HE.out
          rw [hee] at he
          clear hs hee
          go_upto_region 6 with fail
          go_quiet (fail)
          go_wp2_with fail
          go_ret
          exact ⟨by rw [HS.out]; rfl, md + nq, by simp⟩
      · obtain rfl : k = n := by omega
        have hs : sameB l l' = true := (sameB_iff l l').2 (by
          have := HK.out
          rwa [List.take_of_length_le (by have := HL.out.1; omega), List.take_of_length_le (by have := HL'.out.1; omega)] at this)
        have HS := Lib.hid hs
        clear hs
        go_wp2_with fail
        go_ret
        exact ⟨by rw [HS.out]; rfl, _, rfl⟩
  · have hs : sameB l l' = false := by
      cases hs : sameB l l' with
      | false => rfl
      | true =>
        have e := (sameB_iff l l').1 hs
        have h1 := hl.1
        have h2 := hl'.1
        rw [e] at h1
        omega
    have HS := Lib.hid hs
    have hne : ((n : Int) == (n' : Int)) = false := by simp; omega
    clear hs hl hl'
    go_enter Tryd.func10, Tryd.ntmps10
    go_wp2_with fail
    go_ret
    exact ⟨by rw [HS.out]; rfl, 0, rfl⟩
def zeroM : List Mk := [mz]
def KnownPost (w : World) (e : Ending) (w' : World) : Prop := e = .returned (.bool true) ∧ Below w.heap.size w w'
set_option maxRecDepth 100000 in
set_option maxHeartbeats 2000000 in
theorem known_any (w : World) (hT : CrcTab w) : Calls Tryd.prog 7 #[] w (KnownPost w) := by
  have HT := Lib.hid hT; clear hT
  have hmay : mayB zeroM = true := by decide
  have hms : MS (w.alloc (.cells #[.int .i64 0, .int .i64 0, .int .i64 0, .int .i64 0, .int .i64 0, .int .i64 0, .int .i64 0, .int .i64 0, .int .i64 0] 31)) (some ⟨w.heap.size, 0, none⟩) 1 zeroM := MS.new w mz rfl
  have hb : Below w.heap.size w (w.alloc (.cells #[.int .i64 0, .int .i64 0, .int .i64 0, .int .i64 0, .int .i64 0, .int .i64 0, .int .i64 0, .int .i64 0, .int .i64 0] 31)) := (Below.refl _ _).alloc (Nat.le_refl _) _
  have HM := Lib.hid hms; have HB := Lib.hid hb; have HY := Lib.hid hmay
  clear hms hb hmay
  go_enter Tryd.func7, Tryd.ntmps7
  go_wp2_with fail
  refine (encode_ok _ 1 1 zeroM _ (HT.out.keep HB.out) HM.out (Nat.le_refl _) HY.out).mono ?_
  intro e w2 hpost
  obtain ⟨v2, rfl, ho2, hb2⟩ := hpost
  obtain ⟨D, dc, rfl, hdc, _, hr2⟩ := ho2.form
  have hlen : (encB zeroM).length = 85 := encB_length _
  rw [hlen] at hr2 hdc ⊢
  have B2 := Lib.hid (HB.out.trans (hb2.mono HB.out.size)); have R2 := Lib.hid hr2
  have T2 := Lib.hid (HT.out.keep B2.out)
  have hdec : decB (encB zeroM) 1 = true := decB_enc HY.out
  have hparse : parse (encB zeroM) 1 = zeroM := parse_encB HY.out
  have HDEC := Lib.hid hdec; have HPARSE := Lib.hid hparse; have HLEN := Lib.hid hlen
  clear hb2 hr2 ho2 hdec hparse hlen
  go_wp2_with fail
  refine (decode_any D 85 dc (encB zeroM) 1 _ T2.out R2.out hdc (by omega) (by omega) (by omega) (by omega)).mono ?_
  intro e w3 hpost
  have h3 := hpost.1 HDEC.out
  rw [HPARSE.out] at h3
  obtain ⟨g3, C3, rfl, hg3, hB3, _, hm3, hb3⟩ := h3
  clear hpost
  have B3 := Lib.hid (B2.out.trans (hb3.mono B2.out.size))
  have R3 := Lib.hid ((R2.out.keep hb3).take (k := 9) (by omega))
  obtain ⟨bb, off, m, e1, hbb, hm, c0, c1, c2, c3, c4, c5, c6, c7, c8⟩ := hm3.at_ (j := 0) (by decide)
  injection e1 with e1
  injection e1 with e1 e2 e3
  subst e1; subst e2
  obtain rfl := Option.some.inj hm
  have cs := conv_bytes w3 D 9 dc _ R3.out
  have hs9 : (strOf ((encB zeroM).take 9)).toList = [72, 69, 82, 79, 78, 67, 75, 49, 1] := by
    rw [strOf_toList]
    have e : (encB zeroM).take 9 = magicB ++ leB 1 1 := by
      unfold encB bodyB
      rw [List.append_assoc]
      exact List.take_left' rfl
    rw [e]; decide
  have hq := guard_marks
  have he := eq_marks mz mz
  rw [(eqM_iff mz mz).2 rfl] at he
  unfold mz Mk.cells at he
  clear hm3 hb3 hB3 hm
  have e0 : zeroM.length = 1 := rfl
  rw [e0] at *
  go_wp2_with fail
  go_ret
  exact ⟨rfl, B3.out⟩
end Go.Proofs.YtpeaacbbfkanmaaDoor
