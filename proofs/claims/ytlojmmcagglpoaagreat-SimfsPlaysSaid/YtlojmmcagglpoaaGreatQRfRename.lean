/- THE WALK of the document's Rename (heronref14). -/
import Derived.Test.YtlojmmcagglpoaaGreatQRfCut
namespace Go.Proofs.YtlojmmcagglpoaaGreat
open Go.RowKit Go.Maps
def goN (k : Nat) (x : Rn) : Rn := if x.ino = k + 1 then { x with ino := 0 } else x
def riG : Ri := ⟨[], 0, 0, true⟩
def Rd.goes (r : Rd) (k : Nat) : Rd := ⟨r.is.set k riG, r.ns.map (goN k)⟩
/-- an inode is written over whole -/
theorem RW.gone {W : World} {N : Nat} {C : Nat → Nat} {c p g n cap : Nat} {us : List (Value × Ri)} {vn : Value} {r : Rd} (h : RW W N C c p us (.slice (some ⟨g, 0, none⟩) n cap) vn r) {k : Nat} {u : Value × Ri} (hk : us[k]? = some u) :
    (∃ us2, RW ((((W.setCell ⟨g, k * 4, none⟩ (.slice none 0 0)).setCell ⟨g, k * 4 + 1, none⟩ (.int .i64 0)).setCell ⟨g, k * 4 + 2, none⟩ (.int .i64 0)).setCell ⟨g, k * 4 + 3, none⟩ (.bool true)) N (paint C W.heap.size c) c p us2 (.slice (some ⟨g, 0, none⟩) n cap) vn ⟨r.is.set k riG, r.ns⟩) ∧
    Chg (fun b => C b = c) W ((((W.setCell ⟨g, k * 4, none⟩ (.slice none 0 0)).setCell ⟨g, k * 4 + 1, none⟩ (.int .i64 0)).setCell ⟨g, k * 4 + 2, none⟩ (.int .i64 0)).setCell ⟨g, k * 4 + 3, none⟩ (.bool true)) := by
  obtain ⟨⟨us1, h1, k1⟩, c1⟩ := h.wipe hk
  obtain ⟨v, y⟩ := u
  simp only at h1 k1
  have p1 := h1.put_i (j := 1) (y := ⟨[], 0, y.ge, y.out⟩) (v := .int .i64 0) k1 (by decide) rfl rfl
  have k2 : ((us1.set k ((Value.slice none 0 0), (⟨[], 0, y.ge, y.out⟩ : Ri))))[k]? = some (.slice none 0 0, ⟨[], 0, y.ge, y.out⟩) := List.getElem?_set_self (List.getElem?_eq_some_iff.1 k1).1
  have p2 := p1.1.put_i (j := 2) (y := ⟨[], 0, 0, y.out⟩) (v := .int .i64 0) k2 (by decide) rfl rfl
  have k3 : (((us1.set k ((Value.slice none 0 0), (⟨[], 0, y.ge, y.out⟩ : Ri)))).set k ((Value.slice none 0 0), (⟨[], 0, 0, y.out⟩ : Ri)))[k]? = some (.slice none 0 0, ⟨[], 0, 0, y.out⟩) := List.getElem?_set_self (by rw [List.length_set]; exact (List.getElem?_eq_some_iff.1 k1).1)
  have p3 := p2.1.put_i (j := 3) (y := riG) (v := .bool true) k3 (by decide) rfl rfl
  refine ⟨?_, ?_⟩
  · have h5 := p3.1
    simp only [List.set_set] at h5
    exact ⟨_, h5⟩
  · have hC : C g = c := h.ci g rfl
    exact (((c1.setCell (p := ⟨g, k * 4 + 1, none⟩) (.inl hC) _).setCell (p := ⟨g, k * 4 + 2, none⟩) (.inl hC) _).setCell (p := ⟨g, k * 4 + 3, none⟩) (.inl hC) _)
theorem map_take_set {α : Type} (f : α → α) (l : List α) {j : Nat} {x : α} (hx : l[j]? = some x) : ((l.take j).map f ++ l.drop j).set j (f x) = (l.take (j + 1)).map f ++ l.drop (j + 1) := by
  obtain ⟨hj, he⟩ := List.getElem?_eq_some_iff.1 hx
  rw [List.set_append_right _ _ (by rw [List.length_map, List.length_take]; omega), List.length_map, List.length_take, Nat.min_eq_left (by omega), Nat.sub_self, List.drop_eq_getElem_cons hj, List.set_cons_zero, List.take_add_one, hx, List.map_append]
  simp
theorem map_take_at {α : Type} (f : α → α) (l : List α) {j : Nat} {x : α} (hx : l[j]? = some x) : ((l.take j).map f ++ l.drop j)[j]? = some x := by
  obtain ⟨hj, he⟩ := List.getElem?_eq_some_iff.1 hx
  rw [List.getElem?_append_right (by rw [List.length_map, List.length_take]; omega), List.length_map, List.length_take, Nat.min_eq_left (by omega), Nat.sub_self, List.drop_eq_getElem_cons hj, he]; rfl
set_option maxRecDepth 20000 in
set_option maxHeartbeats 2000000 in
theorem rgoes_any {W : World} {N : Nat} {C : Nat → Nat} {c p n : Nat} {r : Rd} (h : RC W N C c p r) (hok : r.Ok n) (k : Nat) (hk : k < r.is.length) : Calls Tryz.prog 109 #[.pointer (some ⟨p, 0, none⟩), .int .i64 ((k : Int) + 1)] W (RStepQ W N C c p (.tuple #[]) (r.goes k)) := by
  obtain ⟨us, vi, vn, hw⟩ := h
  obtain ⟨⟨v, y⟩, hu, hu2⟩ := hw.inode hk
  have hob := hw.ob k _ hu
  simp only at hob
  obtain ⟨Av, cv, hv, _, _, _⟩ := hob.form
  subst hv
  obtain ⟨A, cap, rfl, hc1, hc2, hA⟩ := hw.fi
  obtain ⟨g, rfl⟩ := hA (by rw [hw.len]; omega)
  obtain ⟨A2, cap2, rfl, hd1, hd2, hA2⟩ := hw.fn
  obtain ⟨L, hL⟩ : ∃ L, L = us.length := ⟨_, rfl⟩
  obtain ⟨M, hM⟩ : ∃ M, M = r.ns.length := ⟨_, rfl⟩
  have hkL : k < L := by rw [hL, hw.len]; exact hk
  have hLb : L ≤ 1000000 := by rw [hL, hw.len]; exact Nat.le_trans hok.il hok.big
  have hMb : M ≤ 1000000 := by rw [hM]; exact Nat.le_trans hok.nl hok.big
  have hri := hw.ri
  rw [← hL] at hw hri
  rw [← hM] at hw hA2
  have q0 : W.cell? ⟨p, 0, none⟩ = some (.slice (some ⟨g, 0, none⟩) L cap) := (hw.bd.cell 0).trans rfl
  obtain ⟨-, c0, c1, c2, c3⟩ := hw.ci_at hu
  have f0 : W.frozen? ⟨g, k * 4, none⟩ = false := World.ownsRow.frozenAt hri _
  have f1 : W.frozen? ⟨g, k * 4 + 1, none⟩ = false := World.ownsRow.frozenAt hri _
  have f2 : W.frozen? ⟨g, k * 4 + 2, none⟩ = false := World.ownsRow.frozenAt hri _
  have f3 : W.frozen? ⟨g, k * 4 + 3, none⟩ = false := World.ownsRow.frozenAt hri _
  have hgo := hw.gone hu
  have HG := Lib.hid hgo
  have HM := Lib.hid hM
  have hino := hok.ino
  have HI : Hid (∀ x ∈ r.ns, (x.ino : Int) ≤ 1000000) := Lib.hid (fun x hx => by have := hok.ino x hx; have := hok.il; have := hok.big; omega)
  have hki : (k : Int) < (L : Int) := by omega
  have hk0 : (0 : Int) ≤ (k : Int) := by omega
  have hk3 : (k : Int) ≤ 1000000 := by omega
  simp only at c0 c1 c2 c3
  clear hw hu hu2 hc1 hA hL hM hd1 hri hgo hk hok hino hob
  go_enter Tryz.func109, Tryz.ntmps109
  go_upto_region 1 with fail
  obtain ⟨w1, hw1⟩ : ∃ w1, w1 = (((W.setCell ⟨g, k * 4, none⟩ (.slice none 0 0)).setCell ⟨g, k * 4 + 1, none⟩ (.int .i64 0)).setCell ⟨g, k * 4 + 2, none⟩ (.int .i64 0)).setCell ⟨g, k * 4 + 3, none⟩ (.bool true) := ⟨_, rfl⟩
  rw [← hw1] at HG ⊢
  have HS : Hid (∃ us2, RW w1 N (paint C W.heap.size c) c p us2 (.slice (some ⟨g, 0, none⟩) L cap) (.slice A2 M cap2) ⟨r.is.set k riG, (r.ns.take 0).map (goN k) ++ r.ns.drop 0⟩) := Lib.hid (by simpa using HG.out.1)
  have HC := Lib.hid HG.out.2
  clear hw1 HG q0 c0 c1 c2 c3 f0 f1 f2 f3 hki hk0
  go_wp2_with fail
  go_loopw [4] (fun s4 w => ∃ j : Nat, s4 = .int .i64 (j : Int) ∧ j ≤ M ∧ Hid (∃ us2, RW w N (paint C W.heap.size c) c p us2 (.slice (some ⟨g, 0, none⟩) L cap) (.slice A2 M cap2) ⟨r.is.set k riG, (r.ns.take j).map (goN k) ++ r.ns.drop j⟩) ∧ Hid (Chg (fun b => C b = c) W w)) (fun s4 _ => M - (intOf s4).toNat)
  case atStart => exact ⟨0, rfl, Nat.zero_le _, HS, HC⟩
  case round =>
    obtain ⟨j, rfl, hj, HSJ, HCJ⟩ := hrel
    clear HS HC
    obtain ⟨us2, hwj⟩ := HSJ.out
    have q1 : wr.cell? ⟨p, 1, none⟩ = some (.slice A2 M cap2) := (hwj.bd.cell 1).trans rfl
    by_cases hlt : j < M
    · have hji : (j : Int) < (M : Int) := by omega
      have hj0 : (0 : Int) ≤ (j : Int) := by omega
      have hj3 : (j : Int) ≤ 1000000 := by omega
      obtain ⟨g2, rfl⟩ := hA2 (by omega)
      obtain ⟨x, hx⟩ : ∃ x, r.ns[j]? = some x := ⟨_, List.getElem?_eq_getElem (by have := HM.out; omega)⟩
      have hxj := map_take_at (goN k) r.ns hx
      obtain ⟨-, -, -, d2⟩ := hwj.cn_at (r := ⟨r.is.set k riG, (r.ns.take j).map (goN k) ++ r.ns.drop j⟩) hxj
      have hst := map_take_set (goN k) r.ns hx
      have hxi := HI.out x (List.mem_of_getElem? hx)
      have fz : wr.frozen? ⟨g2, j * 3 + 2, none⟩ = false := by
        have h5 := hwj.rn
        have h6 : M = ((r.ns.take j).map (goN k) ++ r.ns.drop j).length := by rw [List.length_append, List.length_map, List.length_take, List.length_drop]; have := HM.out; omega
        rw [← h6] at h5
        exact World.ownsRow.frozenAt h5 _
      by_cases e : x.ino = k + 1
      · have hp := hwj.put_n (j := 2) (y := goN k x) (v := .int .i64 0) hxj (by decide) (by unfold goN; rw [if_pos e]; rfl)
        simp only at hp
        rw [hst] at hp
        have HSK : Hid (∃ us2, RW (wr.setCell ⟨g2, j * 3 + 2, none⟩ (.int .i64 0)) N (paint C W.heap.size c) c p us2 (.slice (some ⟨g, 0, none⟩) L cap) (.slice (some ⟨g2, 0, none⟩) M cap2) ⟨r.is.set k riG, (r.ns.take (j + 1)).map (goN k) ++ r.ns.drop (j + 1)⟩) := Lib.hid ⟨us2, hp.1⟩
        have HCK : Hid (Chg (fun b => C b = c) W (wr.setCell ⟨g2, j * 3 + 2, none⟩ (.int .i64 0))) := Lib.hid (chg_paint' HCJ.out hp.2)
        have he : ((x.ino : Int) == (k : Int) + 1) = true := by rw [beq_iff_eq]; omega
        have hei : (x.ino : Int) = (k : Int) + 1 := by omega
        rw [hei] at d2
        clear hp hwj hx hxj hst e HSJ HCJ he hei
        go_wp2_with fail
        go_roundw
        case rel => exact ⟨j + 1, by go_num, by omega, HSK, HCK⟩
        case measure => simp [intOf]; omega
      · have he : ((x.ino : Int) == (k : Int) + 1) = false := by rw [beq_eq_false_iff_ne]; omega
        have HSK : Hid (∃ us2, RW wr N (paint C W.heap.size c) c p us2 (.slice (some ⟨g, 0, none⟩) L cap) (.slice (some ⟨g2, 0, none⟩) M cap2) ⟨r.is.set k riG, (r.ns.take (j + 1)).map (goN k) ++ r.ns.drop (j + 1)⟩) := Lib.hid (by
          rw [← hst]
          have e1 : goN k x = x := by unfold goN; rw [if_neg e]
          rw [e1]
          obtain ⟨h4, h5⟩ := List.getElem?_eq_some_iff.1 hxj
          have e2 : ((r.ns.take j).map (goN k) ++ r.ns.drop j).set j x = (r.ns.take j).map (goN k) ++ r.ns.drop j := by
            conv => lhs; rw [← h5]
            exact List.set_getElem_self h4
          rw [e2]
          exact HSJ.out)
        clear hwj hx hxj hst e HSJ fz
        go_wp2_with fail
        go_roundw
        case rel => exact ⟨j + 1, by go_num, by omega, HSK, HCJ⟩
        case measure => simp [intOf]; omega
    · obtain rfl : j = M := by omega
      have HF : Hid (RStepQ W N C c p (.tuple #[]) (r.goes k) (.returned (.tuple #[])) wr) := Lib.hid ⟨rfl, ⟨us2, _, _, by
        have h5 := hwj
        rw [List.take_of_length_le (by rw [HM.out]; exact Nat.le_refl _), List.drop_of_length_le (by rw [HM.out]; exact Nat.le_refl _), List.append_nil] at h5
        exact h5⟩, HCJ.out⟩
      clear hwj
      go_wp2_with fail
      go_end0
      exact HF.out
noncomputable def Rd.remove (r : Rd) (nm : List UInt8) : Int × Rd := if mayB nm = true then (if r.file nm = 0 then (141, r) else (0, r.goes (r.file nm - 1))) else (140, r)
set_option maxRecDepth 20000 in
set_option maxHeartbeats 2000000 in
theorem rremove_any {W : World} {N : Nat} {C : Nat → Nat} {c p n : Nat} {r : Rd} (h : RC W N C c p r) (hok : r.Ok n) (nm : List UInt8) : Calls Tryz.prog 67 #[.pointer (some ⟨p, 0, none⟩), .string (strB nm)] W (RStepQ W N C c p (.int .i64 (r.remove nm).1) (r.remove nm).2) := by
  have CT := Lib.hid (rthere_any h (Nat.le_trans hok.nl hok.big) nm)
  have same : ∀ v : Int, r.remove nm = (v, r) → Hid (RStepQ W N C c p (.int .i64 (r.remove nm).1) (r.remove nm).2 (.returned (.int .i64 v)) W) := fun v e => Lib.hid (by rw [e]; exact RStepQ.same h rfl (Below.refl _ _))
  by_cases hm : mayB nm = true
  · by_cases h0 : r.file nm = 0
    · rw [Rd.there_no hm h0] at CT
      have HE := same 141 (by unfold Rd.remove; rw [if_pos hm, if_pos h0])
      clear same h hok h0 hm
      go_enter Tryz.func67, Tryz.ntmps67
      go_wp2_with fail
      refine CT.out.mono ?_
      rintro e w2 ⟨rfl, rfl⟩
      go_wp2_with fail
      go_ret
      exact HE.out
    · obtain ⟨k, hk⟩ : ∃ k, r.file nm = k + 1 := ⟨r.file nm - 1, by omega⟩
      rw [Rd.there_of hm hk] at CT
      have hkr : k < r.is.length := by have := hok.file_le nm; omega
      have CG := Lib.hid (rgoes_any h hok k hkr)
      have hap : r.remove nm = (0, r.goes k) := by unfold Rd.remove; rw [if_pos hm, if_neg h0, hk, Nat.add_sub_cancel]
      rw [hap]
      clear same h hok hm h0 hk hkr hap
      go_enter Tryz.func67, Tryz.ntmps67
      go_wp2_with fail
      refine CT.out.mono ?_
      rintro e w2 ⟨rfl, rfl⟩
      go_wp2_with fail
      refine CG.out.mono ?_
      rintro e w3 ⟨rfl, h2, h3⟩
      have HF : Hid (RStepQ W N C c p (.int .i64 0) (r.goes k) (.returned (.int .i64 0)) w3) := Lib.hid ⟨rfl, h2, h3⟩
      clear h2 h3 CG CT
      go_wp2_with fail
      go_ret
      exact HF.out
  · rw [Rd.there_bad hm] at CT
    have HE := same 140 (by unfold Rd.remove; rw [if_neg hm])
    clear same h hok hm
    go_enter Tryz.func67, Tryz.ntmps67
    go_wp2_with fail
    refine CT.out.mono ?_
    rintro e w2 ⟨rfl, rfl⟩
    go_wp2_with fail
    go_ret
    exact HE.out
end Go.Proofs.YtlojmmcagglpoaaGreat
namespace Go.Proofs.YtlojmmcagglpoaaGreat
open Go.RowKit Go.Maps
theorem goN_nm (k : Nat) (x : Rn) : (goN k x).nm = x.nm ∧ (goN k x).se = x.se := by unfold goN; split <;> exact ⟨rfl, rfl⟩
theorem Rd.goes_pos (r : Rd) (k : Nat) (nm : List UInt8) : (r.goes k).pos nm = r.pos nm := by
  unfold Rd.pos Rd.goes
  simp only [List.findIdx?_map, List.length_map]
  have e : ((fun x : Rn => x.nm == nm) ∘ goN k) = fun x : Rn => x.nm == nm := by
    funext x
    simp only [Function.comp, (goN_nm k x).1]
  rw [e]
theorem Rd.pos_lt {r : Rd} {nm : List UInt8} (h : r.file nm ≠ 0) : r.pos nm < r.ns.length := by
  obtain ⟨x, hx, _⟩ := r.file_mem nm h
  exact (List.getElem?_eq_some_iff.1 hx).1
theorem Rd.ated_of {r : Rd} {nm : List UInt8} (h : r.pos nm < r.ns.length) : r.ated nm = r := by unfold Rd.ated; rw [if_pos h]
def Rd.freed (r : Rd) (other : List UInt8) : Rd := if r.file other = 0 then r else r.goes (r.file other - 1)
def Rd.unname (r : Rd) (nm : List UInt8) : Rd := match r.ns[r.pos nm]? with
  | some x => ⟨r.is, r.ns.set (r.pos nm) { x with ino := 0 }⟩
  | none => r
noncomputable def Rd.rename (r : Rd) (old other : List UInt8) : Int × Rd := if mayB old = true ∧ mayB other = true then (if r.file old = 0 then (141, r) else if old = other then (0, r) else (0, ((r.freed other).unname old).has other (r.file old))) else (140, r)
theorem Rd.freed_facts {r : Rd} {n : Nat} (hok : r.Ok n) (other : List UInt8) : (r.freed other).ns.length = r.ns.length ∧ (∀ nm, (r.freed other).pos nm = r.pos nm) ∧ (∀ x ∈ (r.freed other).ns, x.se ≤ 1000000) := by
  unfold Rd.freed
  split
  · exact ⟨rfl, fun _ => rfl, fun x hx => Nat.le_trans (hok.se x hx) hok.big⟩
  · refine ⟨by unfold Rd.goes; simp, fun nm => Rd.goes_pos _ _ _, fun x hx => ?_⟩
    unfold Rd.goes at hx
    obtain ⟨y, hy, rfl⟩ := List.mem_map.1 hx
    rw [(goN_nm _ y).2]
    exact Nat.le_trans (hok.se y hy) hok.big
set_option maxRecDepth 20000 in
set_option maxHeartbeats 2000000 in
theorem rrename_any {W : World} {N : Nat} {C : Nat → Nat} {c p n : Nat} {r : Rd} (h : RC W N C c p r) (hN : N ≤ W.heap.size) (hok : r.Ok n) (old other : List UInt8) : Calls Tryz.prog 66 #[.pointer (some ⟨p, 0, none⟩), .string (strB old), .string (strB other)] W (RStepQ W N C c p (.int .i64 (r.rename old other).1) (r.rename old other).2) := by
  have CT := Lib.hid (rthere_any h (Nat.le_trans hok.nl hok.big) old)
  have CM := Lib.hid (fun w => rmay_any other w)
  have same : ∀ v : Int, r.rename old other = (v, r) → Hid (RStepQ W N C c p (.int .i64 (r.rename old other).1) (r.rename old other).2 (.returned (.int .i64 v)) W) := fun v e => Lib.hid (by rw [e]; exact RStepQ.same h rfl (Below.refl _ _))
  by_cases hm : mayB old = true
  · by_cases hm2 : mayB other = true
    · rw [hm2] at CM
      by_cases h0 : r.file old = 0
      · rw [Rd.there_no hm h0] at CT
        have HE := same 141 (by unfold Rd.rename; rw [if_pos ⟨hm, hm2⟩, if_pos h0])
        clear same h hok h0 hm hm2
        go_enter Tryz.func66, Tryz.ntmps66
        go_wp2_with fail
        refine CT.out.mono ?_
        rintro e w2 ⟨rfl, rfl⟩
        go_wp2_with fail
        refine (CM.out _).mono ?_
        rintro e w2 ⟨rfl, rfl⟩
        go_wp2_with fail
        go_ret
        exact HE.out
      · obtain ⟨k, hk⟩ : ∃ k, r.file old = k + 1 := ⟨r.file old - 1, by omega⟩
        rw [Rd.there_of hm hk] at CT
        by_cases hoo : old = other
        · have HE := same 0 (by unfold Rd.rename; rw [if_pos ⟨hm, hm2⟩, if_neg h0, if_pos hoo])
          have he : ((strB old).toList == (strB other).toList) = true := by rw [strB_eq, decide_eq_true hoo]
          clear same h hok h0 hm hm2 hoo hk
          go_enter Tryz.func66, Tryz.ntmps66
          go_wp2_with fail
          refine CT.out.mono ?_
          rintro e w2 ⟨rfl, rfl⟩
          go_wp2_with fail
          refine (CM.out _).mono ?_
          rintro e w2 ⟨rfl, rfl⟩
          go_wp2_with fail
          go_ret
          exact HE.out
        · have he : ((strB old).toList == (strB other).toList) = false := by rw [strB_eq, decide_eq_false hoo]
          have hrn : r.rename old other = (0, ((r.freed other).unname old).has other (k + 1)) := by unfold Rd.rename; rw [if_pos ⟨hm, hm2⟩, if_neg h0, if_neg hoo, hk]
          rw [hrn]
          have CF := Lib.hid (rfile_any h (Nat.le_trans hok.nl hok.big) other)
          obtain ⟨e1, e2, e3⟩ := Rd.freed_facts hok other
          have hpos := Rd.pos_lt h0
          have HFA : Hid ((r.freed other).ated old = r.freed other ∧ (r.freed other).pos old < (r.freed other).ns.length ∧ (r.freed other).ns.length ≤ 1000000 ∧ ∀ x ∈ (r.freed other).ns, x.se ≤ 1000000) := Lib.hid ⟨Rd.ated_of (by rw [e1, e2]; exact hpos), by rw [e1, e2]; exact hpos, by rw [e1]; exact Nat.le_trans hok.nl hok.big, e3⟩
          obtain ⟨f, hf⟩ : ∃ f, f = r.file other := ⟨_, rfl⟩
          have hfl := hok.file_le other
          have HFR : Hid ((f = 0 → r.freed other = r ∧ RC W N C c p r) ∧ (∀ q, f = q + 1 → r.freed other = r.goes q ∧ Calls Tryz.prog 109 #[.pointer (some ⟨p, 0, none⟩), .int .i64 ((q : Int) + 1)] W (RStepQ W N C c p (.tuple #[]) (r.goes q)))) := Lib.hid ⟨fun e => ⟨by unfold Rd.freed; rw [if_pos (by rw [← hf, e])], h⟩, fun q e => ⟨by unfold Rd.freed; rw [if_neg (by omega), ← hf, e, Nat.add_sub_cancel], rgoes_any h hok q (by omega)⟩⟩
          rw [← hf] at CF
          have HNN := Lib.hid hN
          have hkb : (k : Int) ≤ 1000000 := by have := hok.file_le old; have := hok.il; have := hok.big; omega
          have hfb : (f : Int) ≤ 1000000 := by have := hok.il; have := hok.big; omega
          clear same h hok h0 hm hm2 hoo hk e1 e2 e3 hpos hf hfl hrn hN
          go_enter Tryz.func66, Tryz.ntmps66
          go_wp2_with fail
          refine CT.out.mono ?_
          rintro e w2 ⟨rfl, rfl⟩
          go_wp2_with fail
          refine (CM.out _).mono ?_
          rintro e w2 ⟨rfl, rfl⟩
          go_wp2_with fail
          refine CF.out.mono ?_
          rintro e w2 ⟨rfl, rfl⟩
          go_upto_if 37 with fail
          go_cut [] (fun wx => Hid (RC wx N (paint C W.heap.size c) c p (r.freed other) ∧ Chg (fun b => C b = c) W wx))
          case first =>
            by_cases hf0 : f = 0
            · have hfi : ((f : Int) == 0) = true := by rw [beq_iff_eq]; omega
              obtain ⟨e1, e2⟩ := HFR.out.1 hf0
              have HE : Hid (RC W N (paint C W.heap.size c) c p (r.freed other) ∧ Chg (fun b => C b = c) W W) := Lib.hid ⟨by rw [e1]; exact e2.keep (Below.refl _ _) (sam_paint _ _ _), Chg.refl _ _⟩
              subst hf0
              clear e1 e2
              go_wp2_with fail
              go_meet
              exact HE
            · obtain ⟨q, hq⟩ : ∃ q, f = q + 1 := ⟨f - 1, by omega⟩
              obtain ⟨e1, e2⟩ := HFR.out.2 q hq
              have e3 : ((q : Int) + 1) = (f : Int) := by omega
              rw [e3] at e2
              have CG := Lib.hid e2
              have E1 := Lib.hid e1
              have hfi : ((f : Int) == 0) = false := by rw [beq_eq_false_iff_ne]; omega
              clear e1 e2 e3 HFR hq hf0
              go_wp2_with fail
              refine CG.out.mono ?_
              rintro e w3 ⟨rfl, h2, h3⟩
              have HE : Hid (RC w3 N (paint C W.heap.size c) c p (r.freed other) ∧ Chg (fun b => C b = c) W w3) := Lib.hid ⟨by rw [E1.out]; exact h2, h3⟩
              clear h2 h3
              go_wp2_with fail
              go_meet
              exact HE
          case rest =>
            obtain ⟨wx, hwx⟩ : ∃ wx, wx = wc := ⟨_, rfl⟩
            rw [← hwx] at hcut ⊢
            clear hwx wc HFR CF CT CM
            obtain ⟨r1, hr1⟩ : ∃ r1, r1 = r.freed other := ⟨_, rfl⟩
            rw [← hr1] at hcut HFA
            have HR1 := Lib.hid hr1
            have CA := Lib.hid (rat_any hcut.out.1 (Nat.le_trans HNN.out hcut.out.2.size) HFA.out.2.2.1 old)
            rw [HFA.out.1] at CA
            obtain ⟨i, hi⟩ : ∃ i, i = r1.pos old := ⟨_, rfl⟩
            rw [← hi] at CA
            have HI : Hid (i = r1.pos old ∧ i < r1.ns.length) := Lib.hid ⟨hi, by rw [hi]; exact HFA.out.2.1⟩
            have hi3 : i ≤ 1000000 := by have := HI.out.2; have := HFA.out.2.2.1; omega
            have HCUT := Lib.hid hcut.out.2
            clear hr1 hi hcut
            go_wp2_with fail
            refine CA.out.mono ?_
            rintro e w4 ⟨rfl, ⟨us, vi, vn, hw⟩, h5⟩
            obtain ⟨A, cap, rfl, hc1, hc2, hA⟩ := hw.fn
            obtain ⟨g, rfl⟩ := hA (by have := HI.out.2; omega)
            obtain ⟨M, hM⟩ : ∃ M, M = r1.ns.length := ⟨_, rfl⟩
            have hiM : i < M := by rw [hM]; exact HI.out.2
            obtain ⟨x, hx⟩ : ∃ x, r1.ns[i]? = some x := ⟨_, List.getElem?_eq_getElem HI.out.2⟩
            have hrn := hw.rn
            rw [← hM] at hw hrn
            have q1 : w4.cell? ⟨p, 1, none⟩ = some (.slice (some ⟨g, 0, none⟩) M cap) := (hw.bd.cell 1).trans rfl
            obtain ⟨-, -, -, d2⟩ := hw.cn_at hx
            have fz : w4.frozen? ⟨g, i * 3 + 2, none⟩ = false := World.ownsRow.frozenAt hrn _
            have hp := hw.put_n (j := 2) (y := { x with ino := 0 }) (v := .int .i64 0) hx (by decide) rfl
            have hun : r1.unname old = ⟨r1.is, r1.ns.set i { x with ino := 0 }⟩ := by unfold Rd.unname; rw [← HI.out.1, hx]
            rw [← hun] at hp
            have HCH : Hid (Chg (fun b => C b = c) W (w4.setCell ⟨g, i * 3 + 2, none⟩ (.int .i64 0))) := Lib.hid (chg_paint' HCUT.out (h5.trans hp.2 (fun b hb e => by rwa [paint_old _ _ hb] at e)))
            have hxs : ∀ y ∈ (r1.unname old).ns, y.se ≤ 1000000 := fun y hy => by
              rw [hun] at hy
              rcases List.mem_or_eq_of_mem_set hy with h6 | rfl
              · exact HFA.out.2.2.2 y h6
              · exact HFA.out.2.2.2 x (List.mem_of_getElem? hx)
            have hul : (r1.unname old).ns.length ≤ 1000000 := by rw [hun]; simp; exact HFA.out.2.2.1
            have HW := Lib.hid hp.1
            have HU := Lib.hid (And.intro hul hxs)
            have hSZ : W.heap.size ≤ wx.heap.size := HCUT.out.size
            have HSZ := Lib.hid hSZ
            have hi1 : (i : Int) < (M : Int) := by omega
            have hi0 : (0 : Int) ≤ (i : Int) := by omega
            clear hw hrn hx hp hun hxs hul h5 hA hc1 hM CA hSZ HI HFA
            go_upto_region 14 with fail
            obtain ⟨w5, hw5⟩ : ∃ w5, w5 = w4.setCell ⟨g, i * 3 + 2, none⟩ (.int .i64 0) := ⟨_, rfl⟩
            rw [← hw5] at HW HCH ⊢
            have ch := rhave_any ⟨_, _, _, HW.out⟩ (Nat.le_trans HNN.out HCH.out.size) HU.out.1 HU.out.2 other (k + 1)
            rw [show (((k + 1 : Nat)) : Int) = (k : Int) + 1 from rfl] at ch
            have CH := Lib.hid ch
            clear ch hw5 q1 d2 fz
            go_wp2_with fail
            refine CH.out.mono ?_
            rintro e w6 ⟨rfl, ⟨us6, vi6, vn6, h6⟩, h7⟩
            have HF : Hid (RStepQ W N C c p (.int .i64 0) (((r.freed other).unname old).has other (k + 1)) (.returned (.int .i64 0)) w6) := Lib.hid ⟨rfl, ⟨us6, vi6, vn6, by
              rw [← HR1.out]
              refine h6.recol (C := C) (h0 := W.heap.size) (fun b hb => ?_)
              have hb5 := Nat.lt_of_lt_of_le hb HCH.out.size
              have hbx := Nat.lt_of_lt_of_le hb HSZ.out
              rw [paint_old _ _ hb5, paint_old _ _ hbx, paint_old _ _ hb]⟩, HCH.out.trans h7 (fun b hb e => by
              have hbx := Nat.lt_of_lt_of_le hb HSZ.out
              rw [paint_old _ _ hbx, paint_old _ _ hb] at e
              exact e)⟩
            clear h6 h7 CH HW
            go_wp2_with fail
            go_ret
            exact HF.out
    · have hmf : mayB other = false := by simpa using hm2
      rw [hmf] at CM
      have HE := same 140 (by unfold Rd.rename; rw [if_neg (fun e => hm2 e.2)])
      by_cases h0 : r.file old = 0
      · rw [Rd.there_no hm h0] at CT
        clear same h hok h0 hm hm2
        go_enter Tryz.func66, Tryz.ntmps66
        go_wp2_with fail
        refine CT.out.mono ?_
        rintro e w2 ⟨rfl, rfl⟩
        go_wp2_with fail
        refine (CM.out _).mono ?_
        rintro e w2 ⟨rfl, rfl⟩
        go_wp2_with fail
        go_ret
        exact HE.out
      · obtain ⟨k, hk⟩ : ∃ k, r.file old = k + 1 := ⟨r.file old - 1, by omega⟩
        rw [Rd.there_of hm hk] at CT
        clear same h hok h0 hm hm2 hk
        go_enter Tryz.func66, Tryz.ntmps66
        go_wp2_with fail
        refine CT.out.mono ?_
        rintro e w2 ⟨rfl, rfl⟩
        go_wp2_with fail
        refine (CM.out _).mono ?_
        rintro e w2 ⟨rfl, rfl⟩
        go_wp2_with fail
        go_ret
        exact HE.out
  · rw [Rd.there_bad hm] at CT
    have HE := same 140 (by unfold Rd.rename; rw [if_neg (fun e => hm e.1)])
    clear same h hok hm
    go_enter Tryz.func66, Tryz.ntmps66
    go_wp2_with fail
    refine CT.out.mono ?_
    rintro e w2 ⟨rfl, rfl⟩
    go_wp2_with fail
    go_ret
    exact HE.out
end Go.Proofs.YtlojmmcagglpoaaGreat
