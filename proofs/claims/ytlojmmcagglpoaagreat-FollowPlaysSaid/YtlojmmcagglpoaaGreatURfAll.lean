/- THE WALK of the document's All (heronref14). -/
import Derived.Test.YtlojmmcagglpoaaGreatUNames
import Derived.Test.YtlojmmcagglpoaaGreatURfAllLaw
import Derived.BigQuiet
namespace Go.Proofs.YtlojmmcagglpoaaGreat
open Go.RowKit Go.Maps Go.Sort
def insM (L : List (List UInt8)) (a : Nat) (u : List UInt8) : List (List UInt8) := L.take a ++ u :: L.drop a
theorem insM_all (L : List (List UInt8)) (u : List UInt8) : insM L L.length u = L ++ [u] := by unfold insM; simp
theorem insM_at {L : List (List UInt8)} {a : Nat} (ha : a ≤ L.length) {u : List UInt8} {j : Nat} (hj : j < a) : (insM L a u)[j]? = L[j]? := by
  unfold insM
  rw [List.getElem?_append_left (by simp; omega), List.getElem?_take_of_lt hj]
theorem insM_self {L : List (List UInt8)} {a : Nat} (ha : a ≤ L.length) {u : List UInt8} : (insM L a u)[a]? = some u := by
  unfold insM
  rw [List.getElem?_append_right (by simp; omega)]
  simp [Nat.min_eq_left ha]
theorem insM_set {L : List (List UInt8)} {a : Nat} (ha : a ≤ L.length) (u x : List UInt8) : (insM L a u).set a x = insM L a x := by
  unfold insM
  rw [List.set_append_right _ _ (by simp; omega)]
  simp [Nat.min_eq_left ha]
theorem insM_down {L : List (List UInt8)} {a : Nat} {y : List UInt8} (hy : L[a]? = some y) : insM L (a + 1) y = insM L a y := by
  unfold insM
  rw [take_snoc hy]
  obtain ⟨h1, h2⟩ := List.getElem?_eq_some_iff.1 hy
  rw [List.append_assoc, List.singleton_append]
  congr 1
  rw [List.drop_eq_getElem_cons h1, h2]
theorem insM_end (L : List (List UInt8)) (x : List UInt8) : insM L (stopAt L x L.length) x = insL L x := rfl
theorem lt_ne {x y : List UInt8} (h : x ≤ y) (hn : x ≠ y) : x < y := by
  by_cases h1 : x < y
  · exact h1
  · exact absurd (List.le_antisymm h (List.not_lt.1 h1)) hn
theorem run_gtrS {P : Program} {t : TypeId} (y x : List UInt8) (w : World) : (binOp .gtr t (.string (strB y)) (.string (strB x))).run P w = .ok (.bool (decide (x < y))) w := by
  have e : (!(Op.bytesLess (strB y).toList (strB x).toList || (strB y).toList == (strB x).toList)) = decide (x < y) := by
    rw [bytesLess_eq, strB_eq, ByteArray.toList_eq, ByteArray.toList_eq]
    show (!(decide (y < x) || decide (y = x))) = decide (x < y)
    by_cases h1 : x < y
    · have h2 : ¬ y < x := fun h => absurd (List.lt_trans h1 h) (List.lt_irrefl x)
      have h3 : y ≠ x := fun h => by rw [h] at h1; exact List.lt_irrefl x h1
      simp [h1, h2, h3]
    · rcases List.le_total x y with h | h
      · by_cases h3 : y = x
        · simp [h3]
        · exact absurd (lt_ne h (fun e => h3 e.symm)) h1
      · by_cases h3 : y = x
        · simp [h3]
        · have h4 : y < x := lt_ne h h3
          simp [h1, h4]
  show (Sem.run P (pure (Value.bool (!(Op.bytesLess (strB y).toList (strB x).toList || (strB y).toList == (strB x).toList)))) w) = _
  rw [e]; rfl
def AllQ (W : World) (l : List (List UInt8)) (e : Ending) (w' : World) : Prop := ∃ v, e = .returned v ∧ w'.ownsRow W.heap.size 9 1 v l.length (l.map sV) ∧ Below W.heap.size W w'
set_option maxRecDepth 20000 in
set_option maxHeartbeats 2000000 in
theorem rall_any {W : World} {N : Nat} {C : Nat → Nat} {c p : Nat} {r : Rd} (h : RC W N C c p r) (hn : r.ns.length ≤ 1000000) : Calls Tryz.prog 43 #[.pointer (some ⟨p, 0, none⟩)] W (AllQ W r.all) := by
  obtain ⟨us, vi, vn, hw⟩ := h
  obtain ⟨An, capn, rfl, hc1, hc2, hA⟩ := hw.fn
  have HW := Lib.hid hw
  obtain ⟨n, hnn⟩ : ∃ n, n = r.ns.length := ⟨_, rfl⟩
  have q1 : W.cell? ⟨p, 1, none⟩ = some (.slice An n capn) := (hw.bd.cell 1).trans (by rw [hnn]; rfl)
  rw [← hnn] at hn hc1 hA
  have HN := Lib.hid hnn
  have Q1 := Lib.hid q1
  clear hw hnn q1
  go_enter Tryz.func43, Tryz.ntmps43
  go_wp2_with fail
  go_loopw [3, 4, 5] (fun s3 s4 _ w => ∃ (k m : Nat) (A : Option Addr) (cap : Nat), s4 = .int .i64 (k : Int) ∧ k ≤ n ∧ s3 = .slice A m cap ∧ m ≤ k ∧ Hid (m = (allJ r.ns k).length) ∧ Hid (w.ownsRow W.heap.size 9 1 (.slice A m cap) m ((allJ r.ns k).map sV)) ∧ Hid (Below W.heap.size W w)) (fun _ s4 _ _ => n - (intOf s4).toNat)
  case atStart => exact ⟨0, 0, none, 0, rfl, Nat.zero_le _, rfl, Nat.le_refl _, Lib.hid rfl, Lib.hid (World.ownsRow_nil _ _ _ 1), Lib.hid (Below.refl _ _)⟩
  case round =>
    obtain ⟨k, m, A, cap, rfl, hk, rfl, hmk, HM, O1, B1⟩ := hrel
    have q1 : wr.cell? ⟨p, 1, none⟩ = some (.slice An n capn) := cell_later B1.out Q1.out
    by_cases hlt : k < n
    · have hki : (k : Int) < (n : Int) := by omega
      have hk0 : (0 : Int) ≤ (k : Int) := by omega
      have hk3 : (k : Int) ≤ 1000000 := by omega
      obtain ⟨g, rfl⟩ := hA (by omega)
      obtain ⟨x, hx⟩ : ∃ x, r.ns[k]? = some x := ⟨_, List.getElem?_eq_getElem (by have := HN.out; omega)⟩
      obtain ⟨_, c0, _, c2⟩ := (HW.out.keep B1.out (Sam.refl _ _)).cn_at hx
      have HX := Lib.hid hx
      clear hx
      by_cases h0 : x.ino = 0
      · have hi : ((x.ino : Int) == 0) = true := by rw [h0]; rfl
        have HJ : Hid (allJ r.ns (k + 1) = allJ r.ns k) := Lib.hid (by rw [allJ_succ HX.out]; unfold allS; rw [if_pos h0])
        clear h0
        go_wp2_with fail
        go_roundw
        case rel => exact ⟨k + 1, m, A, cap, by go_num, by omega, rfl, by omega, Lib.hid (by rw [HJ.out]; exact HM.out), Lib.hid (by rw [HJ.out]; exact O1.out), B1⟩
        case measure => simp [intOf]; omega
      · have hi : ((x.ino : Int) == 0) = false := by rw [beq_eq_false_iff_ne]; omega
        have HJ : Hid (allJ r.ns (k + 1) = insL (allJ r.ns k) x.nm) := Lib.hid (by rw [allJ_succ HX.out]; unfold allS; rw [if_neg h0])
        obtain ⟨L, hL⟩ : ∃ L, L = allJ r.ns k := ⟨_, rfl⟩
        rw [← hL] at HJ HM O1
        clear h0 hL
        go_upto_region 7 with fail
        clear c2
        have CL : Hid ((wr.alloc (.cells #[.string { data := #[] }] 9)).cell? ⟨wr.heap.size, 0, none⟩ = some (.string { data := #[] })) := Lib.hid (by simp)
        have X4 : Hid ((wr.alloc (.cells #[.string { data := #[] }] 9)).ownsRow W.heap.size 9 1 (.slice A m cap) (L.map sV).length (L.map sV)) := Lib.hid (by rw [List.length_map, ← HM.out]; exact World.ownsRow.alloc O1.out _)
        have B4 := Lib.hid (B1.out.alloc B1.out.size (.cells #[.string { data := #[] }] 9))
        have HL : Hid ((L.map sV).length = m ∧ m + 1 ≤ 1000000) := Lib.hid ⟨by rw [List.length_map, HM.out], by omega⟩
        have XS : Hid (∀ xs, xs = L.map sV → xs = L.map sV) := Lib.hid (fun _ h => h)
        clear XS
        obtain ⟨xs, hxs⟩ : ∃ xs, xs = L.map sV := ⟨_, rfl⟩
        rw [← hxs] at X4 HL
        have XS := Lib.hid hxs
        clear hxs
        go_wp2_with ((at_builtin; go_must (refine append_one rfl (.tmp 26) (.tmp 27) 32 9 rfl Tryz.underlying32 infoS rfl W.heap.size (.slice A m cap) xs rfl X4.out wr.heap.size 1 _ rfl CL.out rfl (by have := HL.out; omega) (by have := HL.out; unfold maxLen; omega) B4.out.size ?_); intro v5 w5 ho5 hg5 ha5; refine halt ?_))
        refine unhalt ?_
        have O5 : Hid (w5.ownsRow W.heap.size 9 1 v5 (m + 1) ((insM L m []).map sV)) := Lib.hid (by
          have e1 : (insM L m []).map sV = xs ++ [.string { data := #[] }] := by rw [HM.out, insM_all, List.map_append, XS.out]; rfl
          rw [e1]
          have h2 := ho5
          have h3 : (xs ++ [Value.string { data := #[] }]).length = m + 1 := by rw [List.length_append, HL.out.1]; rfl
          rw [h3] at h2
          exact h2)
        have B5 := Lib.hid (B4.out.grown hg5 B4.out.size (fun j hj => (World.ownsRow.lt X4.out j hj).1))
        obtain ⟨M, hM⟩ : ∃ M, M = m + 1 := ⟨_, rfl⟩
        rw [← hM] at O5
        obtain ⟨A5, cap5, hv5, hc5, _, hA5⟩ := own_form O5.out
        subst hv5
        have HM2 := Lib.hid hM
        obtain ⟨g5, rfl⟩ : ∃ g5, A5 = some ⟨g5, 0, none⟩ := by
          rcases hA5 with ⟨_, e⟩ | ⟨g5, e, _⟩
          · omega
          · exact ⟨g5, e⟩
        clear hM ho5 hg5 ha5 CL X4 B4 O1 B1 XS HL hA5 q1 c0
        go_wp2_with fail
        go_loopw [5] (fun s5 w => ∃ (a : Nat) (u : List UInt8), s5 = .int .i64 (a : Int) ∧ a ≤ m ∧ Hid (stopAt L x.nm m = stopAt L x.nm a) ∧ Hid (w.ownsRow W.heap.size 9 1 (.slice (some ⟨g5, 0, none⟩) M cap5) M ((insM L a u).map sV)) ∧ Hid (Below W.heap.size W w)) (fun s5 _ => (intOf s5).toNat)
        case atStart => exact ⟨m, [], rfl, Nat.le_refl _, Lib.hid rfl, O5, B5⟩
        case round =>
          obtain ⟨a, u, rfl, ha, HS, O6, B6⟩ := hrel
          clear O5 B5
          obtain ⟨wi, hwi⟩ : ∃ wi, wi = wr := ⟨_, rfl⟩
          rw [← hwi]
          have q2 : ∀ q, (wi.drewN q).cell? ⟨p, 1, none⟩ = some (.slice (some ⟨g, 0, none⟩) n capn) := fun q => by rw [hwi]; exact cell_later (below_drewN B6.out q) Q1.out
          have c0 : ∀ q, (wi.drewN q).cell? ⟨g, k * 3, none⟩ = some (.string (strB x.nm)) := fun q => by
            rw [hwi]
            exact ((HW.out.keep B6.out (Sam.refl _ _)).cn_at HX.out).2.1
          have haM : (a : Int) < (M : Int) := by have := HM2.out; omega
          have ha9 : (0 : Int) ≤ (a : Int) := by omega
          have f9 : ∀ q, (wi.drewN q).frozen? ⟨g5, a, none⟩ = false := fun q => by
            rw [hwi]; exact World.ownsRow.frozenAt O6.out a
          have c9 : ∀ q, (wi.drewN q).cell? ⟨g5, a, none⟩ = some (.string (strB u)) := fun q => by
            rw [hwi]
            show wr.cell? _ = _
            rw [World.ownsRow.cellAt O6.out a (by have := HM2.out; omega), List.getElem?_map, insM_self (by have := HM.out; omega)]; rfl
          have hset : ∀ (v : List UInt8) (q : Nat), World.ownsRow ((wi.drewN q).setCell ⟨g5, a, none⟩ (.string (strB v))) W.heap.size 9 1 (.slice (some ⟨g5, 0, none⟩) M cap5) M ((insM L a v).map sV) := fun v q => by
            have h1 := (World.ownsRow.stored O6.out a (.string (strB v))).1
            have h2 : ((insM L a u).map sV).set a (.string (strB v)) = (insM L a v).map sV := by
              rw [← insM_set (by have := HM.out; omega) u v, List.map_set]; rfl
            rw [h2] at h1
            rw [hwi]; exact h1
          have HST := Lib.hid hset
          have B6G : Hid (W.heap.size ≤ g5) := Lib.hid (O6.out.lt g5 rfl).1
          have HWI := Lib.hid hwi
          clear hset hwi
          by_cases ha0 : a = 0
          · have hai : decide (0 < a) = false := decide_eq_false (by omega)
            have SE : Hid (insM L a x.nm = insL L x.nm) := Lib.hid (by rw [← insM_end, ← HM.out, HS.out, ha0]; rfl)
            clear ha0
            go_upto_region 8 with fail
            go_quiet (fail)
            go_wp2_with fail
            go_roundw
            case rel => exact ⟨k + 1, M, _, cap5, by go_num, by omega, rfl, by have := HM2.out; omega, Lib.hid (by rw [HJ.out, insL_length, HM2.out, HM.out]), Lib.hid (by rw [HJ.out, ← SE.out]; exact HST.out x.nm nq), Lib.hid ((below_drewN (by rw [HWI.out]; exact B6.out) nq).setCell B6G.out _)⟩
            case measure => simp [intOf]; omega
          · obtain ⟨b, hb⟩ : ∃ b, a = b + 1 := ⟨a - 1, by omega⟩
            have hai : decide (0 < a) = true := decide_eq_true (by omega)
            have hw1 : IntKind.i64.wrap ((a : Int) - 1) = (b : Int) := by rw [IntKind.wrap_i64]; omega
            have hw2 : wrap64 ((a : Int) - 1) = (b : Int) := by unfold wrap64; omega
            have hb0 : (0 : Int) ≤ (b : Int) := by omega
            have hbM : (b : Int) < (M : Int) := by have := HM2.out; omega
            obtain ⟨y, hy⟩ : ∃ y, L[b]? = some y := ⟨_, List.getElem?_eq_getElem (by have := HM.out; omega)⟩
            have cy : ∀ q, (wi.drewN q).cell? ⟨g5, b, none⟩ = some (.string (strB y)) := fun q => by
              rw [HWI.out]
              have h1 := World.ownsRow.cellAt O6.out b (by have := HM2.out; omega)
              show wr.cell? _ = _
              rw [h1, List.getElem?_map, insM_at (by have := HM.out; omega) (by omega), hy]; rfl
            have HB := Lib.hid hb; have HY := Lib.hid hy
            clear hb hy
            have hyd : L.getD b [] = y := by rw [List.getD_eq_getElem?_getD, HY.out]; rfl
            by_cases hlt2 : x.nm < y
            · have hgt : ∀ w, (binOp .gtr 9 (.string (strB y)) (.string (strB x.nm))).run Tryz.prog w = .ok (.bool true) w := fun w => by rw [run_gtrS, decide_eq_true hlt2]
              have HS2 : Hid (stopAt L x.nm m = stopAt L x.nm b) := Lib.hid (by
                rw [HS.out, HB.out]
                show (if x.nm < L.getD b [] then stopAt L x.nm b else b + 1) = _
                rw [hyd, if_pos hlt2])
              have HDN : Hid (insM L a y = insM L b y) := Lib.hid (by rw [HB.out]; exact insM_down HY.out)
              clear hlt2 hyd
              go_upto_region 8 with fail
              go_quiet (fail)
              go_wp2_with fail
              go_roundw
              case rel => exact ⟨b, y, rfl, by have := HB.out; omega, HS2, Lib.hid (by rw [← HDN.out]; exact HST.out y nq), Lib.hid ((below_drewN (by rw [HWI.out]; exact B6.out) nq).setCell B6G.out _)⟩
              case measure => simp [intOf]; have := HB.out; omega
            · have hgt : ∀ w, (binOp .gtr 9 (.string (strB y)) (.string (strB x.nm))).run Tryz.prog w = .ok (.bool false) w := fun w => by rw [run_gtrS, decide_eq_false hlt2]
              have SE : Hid (insM L a x.nm = insL L x.nm) := Lib.hid (by
                rw [← insM_end, ← HM.out, HS.out, HB.out]
                show _ = insM L (if x.nm < L.getD b [] then stopAt L x.nm b else b + 1) x.nm
                rw [hyd, if_neg hlt2])
              clear hlt2 hyd
              go_upto_region 8 with fail
              go_quiet (fail)
              go_wp2_with fail
              go_roundw
              case rel => exact ⟨k + 1, M, _, cap5, by go_num, by omega, rfl, by have := HM2.out; omega, Lib.hid (by rw [HJ.out, insL_length, HM2.out, HM.out]), Lib.hid (by rw [HJ.out, ← SE.out]; exact HST.out x.nm nq), Lib.hid ((below_drewN (by rw [HWI.out]; exact B6.out) nq).setCell B6G.out _)⟩
              case measure => simp [intOf]; omega
    · obtain rfl : k = n := by omega
      have HF : Hid (AllQ W r.all (.returned (.slice A m cap)) wr) := Lib.hid ⟨_, rfl, by
        have h1 := O1.out
        have h2 := HM.out
        unfold Rd.all
        rw [← HN.out, ← h2]; exact h1, B1.out⟩
      go_wp2_with fail
      go_ret
      exact HF.out
end Go.Proofs.YtlojmmcagglpoaaGreat
