/- What the document's disk keeps to is kept by Create, Append, Rename. Nothing of the program's code is used here. -/
import Derived.Test.YtlojmmcagglpoaaGreatUDiskFile
import Derived.Test.YtlojmmcagglpoaaGreatURfCut
import Derived.Test.YtlojmmcagglpoaaGreatURfInode
import Derived.Test.YtlojmmcagglpoaaGreatURfRead
namespace Go.Proofs.YtlojmmcagglpoaaGreat
open Go.RowKit Go.Maps
def goN (k : Nat) (x : Rn) : Rn := if x.ino = k + 1 then { x with ino := 0 } else x
def riG : Ri := ⟨[], 0, 0, true⟩
def Rd.goes (r : Rd) (k : Nat) : Rd := ⟨r.is.set k riG, r.ns.map (goN k)⟩
theorem RW.gone {W : World} {N : Nat} {C : Nat → Nat} {c p g n cap : Nat} {us : List (Value × Ri)} {vn : Value} {r : Rd} (h : RW W N C c p us (.slice (some ⟨g, 0, none⟩) n cap) vn r) {k : Nat} {u : Value × Ri} (hk : us[k]? = some u) :
    (∃ us2, RW ((((W.setCell ⟨g, k * 4, none⟩ (.slice none 0 0)).setCell ⟨g, k * 4 + 1, none⟩ (.int .i64 0)).setCell ⟨g, k * 4 + 2, none⟩ (.int .i64 0)).setCell ⟨g, k * 4 + 3, none⟩ (.bool true)) N (paint C W.heap.size c) c p us2 (.slice (some ⟨g, 0, none⟩) n cap) vn ⟨r.is.set k riG, r.ns⟩) ∧
    Chg (fun b => C b = c) W ((((W.setCell ⟨g, k * 4, none⟩ (.slice none 0 0)).setCell ⟨g, k * 4 + 1, none⟩ (.int .i64 0)).setCell ⟨g, k * 4 + 2, none⟩ (.int .i64 0)).setCell ⟨g, k * 4 + 3, none⟩ (.bool true)) := by
  obtain ⟨⟨us1, h1, k1⟩, c1⟩ := h.wipe hk
  obtain ⟨v, y⟩ := u
  simp only at h1 k1
  have p1 := h1.put_i (j := 1) (y := ⟨[], 0, y.ge, y.out⟩) (v := .int .i64 0) k1 (by decide) rfl rfl
  have k2 : ((us1.set k ((Value.slice none 0 0), (⟨[], 0, y.ge, y.out⟩ : Ri))))[k]? = some (.slice none 0 0, ⟨[], 0, y.ge, y.out⟩) := List.getElem?_set_self (List.getElem?_eq_some_iff.1 k1).1
  have p2 := p1.1.put_i (j := 2) (y := ⟨[], 0, 0, y.out⟩) (v := .int .i64 0) k2 (by decide) rfl rfl
  have k3 : (((us1.set k ((Value.slice none 0 0), (⟨[], 0, y.ge, y.out⟩ : Ri)))).set k ((Value.slice none 0 0), (⟨[], 0, 0, y.out⟩ : Ri)))[k]? = some (.slice none 0 0, ⟨[], 0, 0, y.out⟩) := List.getElem?_set_self (by rw [List.length_set]; exact (List.getElem?_eq_some_iff.1 k1).1)
  have p3 := p2.1.put_i (j := 3) (y := riG) (v := .bool true) k3 (by decide) rfl rfl
  refine ⟨?_, ?_⟩
  · have h5 := p3.1
    simp only [List.set_set] at h5
    exact ⟨_, h5⟩
  · have hC : C g = c := h.ci g rfl
    exact (((c1.setCell (p := ⟨g, k * 4 + 1, none⟩) (.inl hC) _).setCell (p := ⟨g, k * 4 + 2, none⟩) (.inl hC) _).setCell (p := ⟨g, k * 4 + 3, none⟩) (.inl hC) _)
theorem map_take_set {α : Type} (f : α → α) (l : List α) {j : Nat} {x : α} (hx : l[j]? = some x) : ((l.take j).map f ++ l.drop j).set j (f x) = (l.take (j + 1)).map f ++ l.drop (j + 1) := by
  obtain ⟨hj, he⟩ := List.getElem?_eq_some_iff.1 hx
  rw [List.set_append_right _ _ (by rw [List.length_map, List.length_take]; omega), List.length_map, List.length_take, Nat.min_eq_left (by omega), Nat.sub_self, List.drop_eq_getElem_cons hj, List.set_cons_zero, List.take_add_one, hx, List.map_append]
  simp
theorem map_take_at {α : Type} (f : α → α) (l : List α) {j : Nat} {x : α} (hx : l[j]? = some x) : ((l.take j).map f ++ l.drop j)[j]? = some x := by
  obtain ⟨hj, he⟩ := List.getElem?_eq_some_iff.1 hx
  rw [List.getElem?_append_right (by rw [List.length_map, List.length_take]; omega), List.length_map, List.length_take, Nat.min_eq_left (by omega), Nat.sub_self, List.drop_eq_getElem_cons hj, he]; rfl
set_option maxRecDepth 20000 in
set_option maxHeartbeats 2000000 in
theorem rgoes_any {W : World} {N : Nat} {C : Nat → Nat} {c p n : Nat} {r : Rd} (h : RC W N C c p r) (hok : r.Ok n) (k : Nat) (hk : k < r.is.length) : Calls Tryz.prog 109 #[.pointer (some ⟨p, 0, none⟩), .int .i64 ((k : Int) + 1)] W (RStepQ W N C c p (.tuple #[]) (r.goes k)) := by
  obtain ⟨us, vi, vn, hw⟩ := h
  obtain ⟨⟨v, y⟩, hu, hu2⟩ := hw.inode hk
  have hob := hw.ob k _ hu
  simp only at hob
  obtain ⟨Av, cv, hv, _, _, _⟩ := hob.form
  subst hv
  obtain ⟨A, cap, rfl, hc1, hc2, hA⟩ := hw.fi
  obtain ⟨g, rfl⟩ := hA (by rw [hw.len]; omega)
  obtain ⟨A2, cap2, rfl, hd1, hd2, hA2⟩ := hw.fn
  obtain ⟨L, hL⟩ : ∃ L, L = us.length := ⟨_, rfl⟩
  obtain ⟨M, hM⟩ : ∃ M, M = r.ns.length := ⟨_, rfl⟩
  have hkL : k < L := by rw [hL, hw.len]; exact hk
  have hLb : L ≤ 1000000 := by rw [hL, hw.len]; exact Nat.le_trans hok.il hok.big
  have hMb : M ≤ 1000000 := by rw [hM]; exact Nat.le_trans hok.nl hok.big
  have hri := hw.ri
  rw [← hL] at hw hri
  rw [← hM] at hw hA2
  have q0 : W.cell? ⟨p, 0, none⟩ = some (.slice (some ⟨g, 0, none⟩) L cap) := (hw.bd.cell 0).trans rfl
  obtain ⟨-, c0, c1, c2, c3⟩ := hw.ci_at hu
  have f0 : W.frozen? ⟨g, k * 4, none⟩ = false := World.ownsRow.frozenAt hri _
  have f1 : W.frozen? ⟨g, k * 4 + 1, none⟩ = false := World.ownsRow.frozenAt hri _
  have f2 : W.frozen? ⟨g, k * 4 + 2, none⟩ = false := World.ownsRow.frozenAt hri _
  have f3 : W.frozen? ⟨g, k * 4 + 3, none⟩ = false := World.ownsRow.frozenAt hri _
  have hgo := hw.gone hu
  have HG := Lib.hid hgo
  have HM := Lib.hid hM
  have hino := hok.ino
  have HI : Hid (∀ x ∈ r.ns, (x.ino : Int) ≤ 1000000) := Lib.hid (fun x hx => by have := hok.ino x hx; have := hok.il; have := hok.big; omega)
  have hki : (k : Int) < (L : Int) := by omega
  have hk0 : (0 : Int) ≤ (k : Int) := by omega
  have hk3 : (k : Int) ≤ 1000000 := by omega
  simp only at c0 c1 c2 c3
  clear hw hu hu2 hc1 hA hL hM hd1 hri hgo hk hok hino hob
  go_enter Tryz.func109, Tryz.ntmps109
  go_upto_region 1 with fail
  obtain ⟨w1, hw1⟩ : ∃ w1, w1 = (((W.setCell ⟨g, k * 4, none⟩ (.slice none 0 0)).setCell ⟨g, k * 4 + 1, none⟩ (.int .i64 0)).setCell ⟨g, k * 4 + 2, none⟩ (.int .i64 0)).setCell ⟨g, k * 4 + 3, none⟩ (.bool true) := ⟨_, rfl⟩
  rw [← hw1] at HG ⊢
  have HS : Hid (∃ us2, RW w1 N (paint C W.heap.size c) c p us2 (.slice (some ⟨g, 0, none⟩) L cap) (.slice A2 M cap2) ⟨r.is.set k riG, (r.ns.take 0).map (goN k) ++ r.ns.drop 0⟩) := Lib.hid (by simpa using HG.out.1)
  have HC := Lib.hid HG.out.2
  clear hw1 HG q0 c0 c1 c2 c3 f0 f1 f2 f3 hki hk0
  go_wp2_with fail
  go_loopw [4] (fun s4 w => ∃ j : Nat, s4 = .int .i64 (j : Int) ∧ j ≤ M ∧ Hid (∃ us2, RW w N (paint C W.heap.size c) c p us2 (.slice (some ⟨g, 0, none⟩) L cap) (.slice A2 M cap2) ⟨r.is.set k riG, (r.ns.take j).map (goN k) ++ r.ns.drop j⟩) ∧ Hid (Chg (fun b => C b = c) W w)) (fun s4 _ => M - (intOf s4).toNat)
  case atStart => exact ⟨0, rfl, Nat.zero_le _, HS, HC⟩
  case round =>
    obtain ⟨j, rfl, hj, HSJ, HCJ⟩ := hrel
    clear HS HC
    obtain ⟨us2, hwj⟩ := HSJ.out
    have q1 : wr.cell? ⟨p, 1, none⟩ = some (.slice A2 M cap2) := (hwj.bd.cell 1).trans rfl
    by_cases hlt : j < M
    · have hji : (j : Int) < (M : Int) := by omega
      have hj0 : (0 : Int) ≤ (j : Int) := by omega
      have hj3 : (j : Int) ≤ 1000000 := by omega
      obtain ⟨g2, rfl⟩ := hA2 (by omega)
      obtain ⟨x, hx⟩ : ∃ x, r.ns[j]? = some x := ⟨_, List.getElem?_eq_getElem (by have := HM.out; omega)⟩
      have hxj := map_take_at (goN k) r.ns hx
      obtain ⟨-, -, -, d2⟩ := hwj.cn_at (r := ⟨r.is.set k riG, (r.ns.take j).map (goN k) ++ r.ns.drop j⟩) hxj
      have hst := map_take_set (goN k) r.ns hx
      have hxi := HI.out x (List.mem_of_getElem? hx)
      have fz : wr.frozen? ⟨g2, j * 3 + 2, none⟩ = false := by
        have h5 := hwj.rn
        have h6 : M = ((r.ns.take j).map (goN k) ++ r.ns.drop j).length := by rw [List.length_append, List.length_map, List.length_take, List.length_drop]; have := HM.out; omega
        rw [← h6] at h5
        exact World.ownsRow.frozenAt h5 _
      by_cases e : x.ino = k + 1
      · have hp := hwj.put_n (j := 2) (y := goN k x) (v := .int .i64 0) hxj (by decide) (by unfold goN; rw [if_pos e]; rfl)
        simp only at hp
        rw [hst] at hp
        have HSK : Hid (∃ us2, RW (wr.setCell ⟨g2, j * 3 + 2, none⟩ (.int .i64 0)) N (paint C W.heap.size c) c p us2 (.slice (some ⟨g, 0, none⟩) L cap) (.slice (some ⟨g2, 0, none⟩) M cap2) ⟨r.is.set k riG, (r.ns.take (j + 1)).map (goN k) ++ r.ns.drop (j + 1)⟩) := Lib.hid ⟨us2, hp.1⟩
        have HCK : Hid (Chg (fun b => C b = c) W (wr.setCell ⟨g2, j * 3 + 2, none⟩ (.int .i64 0))) := Lib.hid (chg_paint' HCJ.out hp.2)
        have he : ((x.ino : Int) == (k : Int) + 1) = true := by rw [beq_iff_eq]; omega
        have hei : (x.ino : Int) = (k : Int) + 1 := by omega
        rw [hei] at d2
        clear hp hwj hx hxj hst e HSJ HCJ he hei
        go_wp2_with fail
        go_roundw
        case rel => exact ⟨j + 1, by go_num, by omega, HSK, HCK⟩
        case measure => simp [intOf]; omega
      · have he : ((x.ino : Int) == (k : Int) + 1) = false := by rw [beq_eq_false_iff_ne]; omega
        have HSK : Hid (∃ us2, RW wr N (paint C W.heap.size c) c p us2 (.slice (some ⟨g, 0, none⟩) L cap) (.slice (some ⟨g2, 0, none⟩) M cap2) ⟨r.is.set k riG, (r.ns.take (j + 1)).map (goN k) ++ r.ns.drop (j + 1)⟩) := Lib.hid (by
          rw [← hst]
          have e1 : goN k x = x := by unfold goN; rw [if_neg e]
          rw [e1]
          obtain ⟨h4, h5⟩ := List.getElem?_eq_some_iff.1 hxj
          have e2 : ((r.ns.take j).map (goN k) ++ r.ns.drop j).set j x = (r.ns.take j).map (goN k) ++ r.ns.drop j := by
            conv => lhs; rw [← h5]
            exact List.set_getElem_self h4
          rw [e2]
          exact HSJ.out)
        clear hwj hx hxj hst e HSJ fz
        go_wp2_with fail
        go_roundw
        case rel => exact ⟨j + 1, by go_num, by omega, HSK, HCJ⟩
        case measure => simp [intOf]; omega
    · obtain rfl : j = M := by omega
      have HF : Hid (RStepQ W N C c p (.tuple #[]) (r.goes k) (.returned (.tuple #[])) wr) := Lib.hid ⟨rfl, ⟨us2, _, _, by
        have h5 := hwj
        rw [List.take_of_length_le (by rw [HM.out]; exact Nat.le_refl _), List.drop_of_length_le (by rw [HM.out]; exact Nat.le_refl _), List.append_nil] at h5
        exact h5⟩, HCJ.out⟩
      clear hwj
      go_wp2_with fail
      go_end0
      exact HF.out
noncomputable def Rd.remove (r : Rd) (nm : List UInt8) : Int × Rd := if mayB nm = true then (if r.file nm = 0 then (141, r) else (0, r.goes (r.file nm - 1))) else (140, r)
set_option maxRecDepth 20000 in
set_option maxHeartbeats 2000000 in
theorem rremove_any {W : World} {N : Nat} {C : Nat → Nat} {c p n : Nat} {r : Rd} (h : RC W N C c p r) (hok : r.Ok n) (nm : List UInt8) : Calls Tryz.prog 67 #[.pointer (some ⟨p, 0, none⟩), .string (strB nm)] W (RStepQ W N C c p (.int .i64 (r.remove nm).1) (r.remove nm).2) := by
  have CT := Lib.hid (rthere_any h (Nat.le_trans hok.nl hok.big) nm)
  have same : ∀ v : Int, r.remove nm = (v, r) → Hid (RStepQ W N C c p (.int .i64 (r.remove nm).1) (r.remove nm).2 (.returned (.int .i64 v)) W) := fun v e => Lib.hid (by rw [e]; exact RStepQ.same h rfl (Below.refl _ _))
  by_cases hm : mayB nm = true
  · by_cases h0 : r.file nm = 0
    · rw [Rd.there_no hm h0] at CT
      have HE := same 141 (by unfold Rd.remove; rw [if_pos hm, if_pos h0])
      clear same h hok h0 hm
      go_enter Tryz.func67, Tryz.ntmps67
      go_wp2_with fail
      refine CT.out.mono ?_
      rintro e w2 ⟨rfl, rfl⟩
      go_wp2_with fail
      go_ret
      exact HE.out
    · obtain ⟨k, hk⟩ : ∃ k, r.file nm = k + 1 := ⟨r.file nm - 1, by omega⟩
      rw [Rd.there_of hm hk] at CT
      have hkr : k < r.is.length := by have := hok.file_le nm; omega
      have CG := Lib.hid (rgoes_any h hok k hkr)
      have hap : r.remove nm = (0, r.goes k) := by unfold Rd.remove; rw [if_pos hm, if_neg h0, hk, Nat.add_sub_cancel]
      rw [hap]
      clear same h hok hm h0 hk hkr hap
      go_enter Tryz.func67, Tryz.ntmps67
      go_wp2_with fail
      refine CT.out.mono ?_
      rintro e w2 ⟨rfl, rfl⟩
      go_wp2_with fail
      refine CG.out.mono ?_
      rintro e w3 ⟨rfl, h2, h3⟩
      have HF : Hid (RStepQ W N C c p (.int .i64 0) (r.goes k) (.returned (.int .i64 0)) w3) := Lib.hid ⟨rfl, h2, h3⟩
      clear h2 h3 CG CT
      go_wp2_with fail
      go_ret
      exact HF.out
  · rw [Rd.there_bad hm] at CT
    have HE := same 140 (by unfold Rd.remove; rw [if_neg hm])
    clear same h hok hm
    go_enter Tryz.func67, Tryz.ntmps67
    go_wp2_with fail
    refine CT.out.mono ?_
    rintro e w2 ⟨rfl, rfl⟩
    go_wp2_with fail
    go_ret
    exact HE.out
end Go.Proofs.YtlojmmcagglpoaaGreat
namespace Go.Proofs.YtlojmmcagglpoaaGreat
open Go.RowKit Go.Maps
theorem goN_nm (k : Nat) (x : Rn) : (goN k x).nm = x.nm ∧ (goN k x).se = x.se := by unfold goN; split <;> exact ⟨rfl, rfl⟩
theorem Rd.goes_pos (r : Rd) (k : Nat) (nm : List UInt8) : (r.goes k).pos nm = r.pos nm := by
  unfold Rd.pos Rd.goes
  simp only [List.findIdx?_map, List.length_map]
  have e : ((fun x : Rn => x.nm == nm) ∘ goN k) = fun x : Rn => x.nm == nm := by
    funext x
    simp only [Function.comp, (goN_nm k x).1]
  rw [e]
theorem Rd.pos_lt {r : Rd} {nm : List UInt8} (h : r.file nm ≠ 0) : r.pos nm < r.ns.length := by
  obtain ⟨x, hx, _⟩ := r.file_mem nm h
  exact (List.getElem?_eq_some_iff.1 hx).1
theorem Rd.ated_of {r : Rd} {nm : List UInt8} (h : r.pos nm < r.ns.length) : r.ated nm = r := by unfold Rd.ated; rw [if_pos h]
def Rd.freed (r : Rd) (other : List UInt8) : Rd := if r.file other = 0 then r else r.goes (r.file other - 1)
def Rd.unname (r : Rd) (nm : List UInt8) : Rd := match r.ns[r.pos nm]? with
  | some x => ⟨r.is, r.ns.set (r.pos nm) { x with ino := 0 }⟩
  | none => r
noncomputable def Rd.rename (r : Rd) (old other : List UInt8) : Int × Rd := if mayB old = true ∧ mayB other = true then (if r.file old = 0 then (141, r) else if old = other then (0, r) else (0, ((r.freed other).unname old).has other (r.file old))) else (140, r)
theorem Rd.freed_facts {r : Rd} {n : Nat} (hok : r.Ok n) (other : List UInt8) : (r.freed other).ns.length = r.ns.length ∧ (∀ nm, (r.freed other).pos nm = r.pos nm) ∧ (∀ x ∈ (r.freed other).ns, x.se ≤ 1000000) := by
  unfold Rd.freed
  split
  · exact ⟨rfl, fun _ => rfl, fun x hx => Nat.le_trans (hok.se x hx) hok.big⟩
  · refine ⟨by unfold Rd.goes; simp, fun nm => Rd.goes_pos _ _ _, fun x hx => ?_⟩
    unfold Rd.goes at hx
    obtain ⟨y, hy, rfl⟩ := List.mem_map.1 hx
    rw [(goN_nm _ y).2]
    exact Nat.le_trans (hok.se y hy) hok.big
set_option maxRecDepth 20000 in
set_option maxHeartbeats 2000000 in
theorem rrename_any {W : World} {N : Nat} {C : Nat → Nat} {c p n : Nat} {r : Rd} (h : RC W N C c p r) (hN : N ≤ W.heap.size) (hok : r.Ok n) (old other : List UInt8) : Calls Tryz.prog 66 #[.pointer (some ⟨p, 0, none⟩), .string (strB old), .string (strB other)] W (RStepQ W N C c p (.int .i64 (r.rename old other).1) (r.rename old other).2) := by
  have CT := Lib.hid (rthere_any h (Nat.le_trans hok.nl hok.big) old)
  have CM := Lib.hid (fun w => rmay_any other w)
  have same : ∀ v : Int, r.rename old other = (v, r) → Hid (RStepQ W N C c p (.int .i64 (r.rename old other).1) (r.rename old other).2 (.returned (.int .i64 v)) W) := fun v e => Lib.hid (by rw [e]; exact RStepQ.same h rfl (Below.refl _ _))
  by_cases hm : mayB old = true
  · by_cases hm2 : mayB other = true
    · rw [hm2] at CM
      by_cases h0 : r.file old = 0
      · rw [Rd.there_no hm h0] at CT
        have HE := same 141 (by unfold Rd.rename; rw [if_pos ⟨hm, hm2⟩, if_pos h0])
        clear same h hok h0 hm hm2
        go_enter Tryz.func66, Tryz.ntmps66
        go_wp2_with fail
        refine CT.out.mono ?_
        rintro e w2 ⟨rfl, rfl⟩
        go_wp2_with fail
        refine (CM.out _).mono ?_
        rintro e w2 ⟨rfl, rfl⟩
        go_wp2_with fail
        go_ret
        exact HE.out
      · obtain ⟨k, hk⟩ : ∃ k, r.file old = k + 1 := ⟨r.file old - 1, by omega⟩
        rw [Rd.there_of hm hk] at CT
        by_cases hoo : old = other
        · have HE := same 0 (by unfold Rd.rename; rw [if_pos ⟨hm, hm2⟩, if_neg h0, if_pos hoo])
          have he : ((strB old).toList == (strB other).toList) = true := by rw [strB_eq, decide_eq_true hoo]
          clear same h hok h0 hm hm2 hoo hk
          go_enter Tryz.func66, Tryz.ntmps66
          go_wp2_with fail
          refine CT.out.mono ?_
          rintro e w2 ⟨rfl, rfl⟩
          go_wp2_with fail
          refine (CM.out _).mono ?_
          rintro e w2 ⟨rfl, rfl⟩
          go_wp2_with fail
          go_ret
          exact HE.out
        · have he : ((strB old).toList == (strB other).toList) = false := by rw [strB_eq, decide_eq_false hoo]
          have hrn : r.rename old other = (0, ((r.freed other).unname old).has other (k + 1)) := by unfold Rd.rename; rw [if_pos ⟨hm, hm2⟩, if_neg h0, if_neg hoo, hk]
          rw [hrn]
          have CF := Lib.hid (rfile_any h (Nat.le_trans hok.nl hok.big) other)
          obtain ⟨e1, e2, e3⟩ := Rd.freed_facts hok other
          have hpos := Rd.pos_lt h0
          have HFA : Hid ((r.freed other).ated old = r.freed other ∧ (r.freed other).pos old < (r.freed other).ns.length ∧ (r.freed other).ns.length ≤ 1000000 ∧ ∀ x ∈ (r.freed other).ns, x.se ≤ 1000000) := Lib.hid ⟨Rd.ated_of (by rw [e1, e2]; exact hpos), by rw [e1, e2]; exact hpos, by rw [e1]; exact Nat.le_trans hok.nl hok.big, e3⟩
          obtain ⟨f, hf⟩ : ∃ f, f = r.file other := ⟨_, rfl⟩
          have hfl := hok.file_le other
          have HFR : Hid ((f = 0 → r.freed other = r ∧ RC W N C c p r) ∧ (∀ q, f = q + 1 → r.freed other = r.goes q ∧ Calls Tryz.prog 109 #[.pointer (some ⟨p, 0, none⟩), .int .i64 ((q : Int) + 1)] W (RStepQ W N C c p (.tuple #[]) (r.goes q)))) := Lib.hid ⟨fun e => ⟨by unfold Rd.freed; rw [if_pos (by rw [← hf, e])], h⟩, fun q e => ⟨by unfold Rd.freed; rw [if_neg (by omega), ← hf, e, Nat.add_sub_cancel], rgoes_any h hok q (by omega)⟩⟩
          rw [← hf] at CF
          have HNN := Lib.hid hN
          have hkb : (k : Int) ≤ 1000000 := by have := hok.file_le old; have := hok.il; have := hok.big; omega
          have hfb : (f : Int) ≤ 1000000 := by have := hok.il; have := hok.big; omega
          clear same h hok h0 hm hm2 hoo hk e1 e2 e3 hpos hf hfl hrn hN
          go_enter Tryz.func66, Tryz.ntmps66
          go_wp2_with fail
          refine CT.out.mono ?_
          rintro e w2 ⟨rfl, rfl⟩
          go_wp2_with fail
          refine (CM.out _).mono ?_
          rintro e w2 ⟨rfl, rfl⟩
          go_wp2_with fail
          refine CF.out.mono ?_
          rintro e w2 ⟨rfl, rfl⟩
          go_upto_if 37 with fail
          go_cut [] (fun wx => Hid (RC wx N (paint C W.heap.size c) c p (r.freed other) ∧ Chg (fun b => C b = c) W wx))
          case first =>
            by_cases hf0 : f = 0
            · have hfi : ((f : Int) == 0) = true := by rw [beq_iff_eq]; omega
              obtain ⟨e1, e2⟩ := HFR.out.1 hf0
              have HE : Hid (RC W N (paint C W.heap.size c) c p (r.freed other) ∧ Chg (fun b => C b = c) W W) := Lib.hid ⟨by rw [e1]; exact e2.keep (Below.refl _ _) (sam_paint _ _ _), Chg.refl _ _⟩
              subst hf0
              clear e1 e2
              go_wp2_with fail
              go_meet
              exact HE
            · obtain ⟨q, hq⟩ : ∃ q, f = q + 1 := ⟨f - 1, by omega⟩
              obtain ⟨e1, e2⟩ := HFR.out.2 q hq
              have e3 : ((q : Int) + 1) = (f : Int) := by omega
              rw [e3] at e2
              have CG := Lib.hid e2
              have E1 := Lib.hid e1
              have hfi : ((f : Int) == 0) = false := by rw [beq_eq_false_iff_ne]; omega
              clear e1 e2 e3 HFR hq hf0
              go_wp2_with fail
              refine CG.out.mono ?_
              rintro e w3 ⟨rfl, h2, h3⟩
              have HE : Hid (RC w3 N (paint C W.heap.size c) c p (r.freed other) ∧ Chg (fun b => C b = c) W w3) := Lib.hid ⟨by rw [E1.out]; exact h2, h3⟩
              clear h2 h3
              go_wp2_with fail
              go_meet
              exact HE
          case rest =>
            obtain ⟨wx, hwx⟩ : ∃ wx, wx = wc := ⟨_, rfl⟩
            rw [← hwx] at hcut ⊢
            clear hwx wc HFR CF CT CM
            obtain ⟨r1, hr1⟩ : ∃ r1, r1 = r.freed other := ⟨_, rfl⟩
            rw [← hr1] at hcut HFA
            have HR1 := Lib.hid hr1
            have CA := Lib.hid (rat_any hcut.out.1 (Nat.le_trans HNN.out hcut.out.2.size) HFA.out.2.2.1 old)
            rw [HFA.out.1] at CA
            obtain ⟨i, hi⟩ : ∃ i, i = r1.pos old := ⟨_, rfl⟩
            rw [← hi] at CA
            have HI : Hid (i = r1.pos old ∧ i < r1.ns.length) := Lib.hid ⟨hi, by rw [hi]; exact HFA.out.2.1⟩
            have hi3 : i ≤ 1000000 := by have := HI.out.2; have := HFA.out.2.2.1; omega
            have HCUT := Lib.hid hcut.out.2
            clear hr1 hi hcut
            go_wp2_with fail
            refine CA.out.mono ?_
            rintro e w4 ⟨rfl, ⟨us, vi, vn, hw⟩, h5⟩
            obtain ⟨A, cap, rfl, hc1, hc2, hA⟩ := hw.fn
            obtain ⟨g, rfl⟩ := hA (by have := HI.out.2; omega)
            obtain ⟨M, hM⟩ : ∃ M, M = r1.ns.length := ⟨_, rfl⟩
            have hiM : i < M := by rw [hM]; exact HI.out.2
            obtain ⟨x, hx⟩ : ∃ x, r1.ns[i]? = some x := ⟨_, List.getElem?_eq_getElem HI.out.2⟩
            have hrn := hw.rn
            rw [← hM] at hw hrn
            have q1 : w4.cell? ⟨p, 1, none⟩ = some (.slice (some ⟨g, 0, none⟩) M cap) := (hw.bd.cell 1).trans rfl
            obtain ⟨-, -, -, d2⟩ := hw.cn_at hx
            have fz : w4.frozen? ⟨g, i * 3 + 2, none⟩ = false := World.ownsRow.frozenAt hrn _
            have hp := hw.put_n (j := 2) (y := { x with ino := 0 }) (v := .int .i64 0) hx (by decide) rfl
            have hun : r1.unname old = ⟨r1.is, r1.ns.set i { x with ino := 0 }⟩ := by unfold Rd.unname; rw [← HI.out.1, hx]
            rw [← hun] at hp
            have HCH : Hid (Chg (fun b => C b = c) W (w4.setCell ⟨g, i * 3 + 2, none⟩ (.int .i64 0))) := Lib.hid (chg_paint' HCUT.out (h5.trans hp.2 (fun b hb e => by rwa [paint_old _ _ hb] at e)))
            have hxs : ∀ y ∈ (r1.unname old).ns, y.se ≤ 1000000 := fun y hy => by
              rw [hun] at hy
              rcases List.mem_or_eq_of_mem_set hy with h6 | rfl
              · exact HFA.out.2.2.2 y h6
              · exact HFA.out.2.2.2 x (List.mem_of_getElem? hx)
            have hul : (r1.unname old).ns.length ≤ 1000000 := by rw [hun]; simp; exact HFA.out.2.2.1
            have HW := Lib.hid hp.1
            have HU := Lib.hid (And.intro hul hxs)
            have hSZ : W.heap.size ≤ wx.heap.size := HCUT.out.size
            have HSZ := Lib.hid hSZ
            have hi1 : (i : Int) < (M : Int) := by omega
            have hi0 : (0 : Int) ≤ (i : Int) := by omega
            clear hw hrn hx hp hun hxs hul h5 hA hc1 hM CA hSZ HI HFA
            go_upto_region 14 with fail
            obtain ⟨w5, hw5⟩ : ∃ w5, w5 = w4.setCell ⟨g, i * 3 + 2, none⟩ (.int .i64 0) := ⟨_, rfl⟩
            rw [← hw5] at HW HCH ⊢
            have ch := rhave_any ⟨_, _, _, HW.out⟩ (Nat.le_trans HNN.out HCH.out.size) HU.out.1 HU.out.2 other (k + 1)
            rw [show (((k + 1 : Nat)) : Int) = (k : Int) + 1 from rfl] at ch
            have CH := Lib.hid ch
            clear ch hw5 q1 d2 fz
            go_wp2_with fail
            refine CH.out.mono ?_
            rintro e w6 ⟨rfl, ⟨us6, vi6, vn6, h6⟩, h7⟩
            have HF : Hid (RStepQ W N C c p (.int .i64 0) (((r.freed other).unname old).has other (k + 1)) (.returned (.int .i64 0)) w6) := Lib.hid ⟨rfl, ⟨us6, vi6, vn6, by
              rw [← HR1.out]
              refine h6.recol (C := C) (h0 := W.heap.size) (fun b hb => ?_)
              have hb5 := Nat.lt_of_lt_of_le hb HCH.out.size
              have hbx := Nat.lt_of_lt_of_le hb HSZ.out
              rw [paint_old _ _ hb5, paint_old _ _ hbx, paint_old _ _ hb]⟩, HCH.out.trans h7 (fun b hb e => by
              have hbx := Nat.lt_of_lt_of_le hb HSZ.out
              rw [paint_old _ _ hbx, paint_old _ _ hb] at e
              exact e)⟩
            clear h6 h7 CH HW
            go_wp2_with fail
            go_ret
            exact HF.out
    · have hmf : mayB other = false := by simpa using hm2
      rw [hmf] at CM
      have HE := same 140 (by unfold Rd.rename; rw [if_neg (fun e => hm2 e.2)])
      by_cases h0 : r.file old = 0
      · rw [Rd.there_no hm h0] at CT
        clear same h hok h0 hm hm2
        go_enter Tryz.func66, Tryz.ntmps66
        go_wp2_with fail
        refine CT.out.mono ?_
        rintro e w2 ⟨rfl, rfl⟩
        go_wp2_with fail
        refine (CM.out _).mono ?_
        rintro e w2 ⟨rfl, rfl⟩
        go_wp2_with fail
        go_ret
        exact HE.out
      · obtain ⟨k, hk⟩ : ∃ k, r.file old = k + 1 := ⟨r.file old - 1, by omega⟩
        rw [Rd.there_of hm hk] at CT
        clear same h hok h0 hm hm2 hk
        go_enter Tryz.func66, Tryz.ntmps66
        go_wp2_with fail
        refine CT.out.mono ?_
        rintro e w2 ⟨rfl, rfl⟩
        go_wp2_with fail
        refine (CM.out _).mono ?_
        rintro e w2 ⟨rfl, rfl⟩
        go_wp2_with fail
        go_ret
        exact HE.out
  · rw [Rd.there_bad hm] at CT
    have HE := same 140 (by unfold Rd.rename; rw [if_neg (fun e => hm e.1)])
    clear same h hok hm
    go_enter Tryz.func66, Tryz.ntmps66
    go_wp2_with fail
    refine CT.out.mono ?_
    rintro e w2 ⟨rfl, rfl⟩
    go_wp2_with fail
    go_ret
    exact HE.out
end Go.Proofs.YtlojmmcagglpoaaGreat
namespace Go.Proofs.YtlojmmcagglpoaaGreat
open Go.RowKit Go.Maps
def Rd.look (r : Rd) (nm : List UInt8) : Option Rn := r.ns[r.pos nm]?
theorem Rd.look_nm {r : Rd} {nm : List UInt8} {x : Rn} (h : r.look nm = some x) : x.nm = nm := by
  unfold Rd.look at h
  have hp := (List.getElem?_eq_some_iff.1 h).1
  cases hq : r.ns.findIdx? (fun x => x.nm == nm) with
  | none =>
    have : r.pos nm = r.ns.length := by unfold Rd.pos; rw [hq]; rfl
    omega
  | some i =>
    have e : r.pos nm = i := by unfold Rd.pos; rw [hq]; rfl
    have h2 := (List.findIdx?_eq_some_iff_getElem.1 hq).2.1
    rw [e] at h
    obtain ⟨h3, h4⟩ := List.getElem?_eq_some_iff.1 h
    rw [h4] at h2
    simpa using h2
theorem Rd.pos_fresh (r : Rd) (nm : List UInt8) : r.fresh nm (r.pos nm) := fun j x hj hx => by
  cases hq : r.ns.findIdx? (fun x => x.nm == nm) with
  | none =>
    have h1 := List.findIdx?_eq_none_iff.1 hq x (List.mem_of_getElem? hx)
    simpa using h1
  | some i =>
    have e : r.pos nm = i := by unfold Rd.pos; rw [hq]; rfl
    rw [e] at hj
    have h2 := (List.findIdx?_eq_some_iff_getElem.1 hq).2.2 j hj
    obtain ⟨h3, h4⟩ := List.getElem?_eq_some_iff.1 hx
    rw [h4] at h2
    simpa using h2
theorem Rd.look_at {r : Rd} {nm : List UInt8} {k : Nat} {x : Rn} (hk : r.ns[k]? = some x) (hx : x.nm = nm) (hf : r.fresh nm k) : r.look nm = some x := by
  unfold Rd.look
  rw [Rd.pos_at hk hx hf, hk]
theorem Rd.look_none {r : Rd} {nm : List UInt8} (hf : r.fresh nm r.ns.length) : r.look nm = none := by
  unfold Rd.look
  rw [Rd.pos_none hf]
  exact List.getElem?_eq_none (Nat.le_refl _)
theorem Rd.look_cases (r : Rd) (nm : List UInt8) : (r.look nm = none ∧ r.pos nm = r.ns.length ∧ r.fresh nm r.ns.length) ∨ ∃ x, r.look nm = some x ∧ x.nm = nm ∧ r.ns[r.pos nm]? = some x ∧ r.fresh nm (r.pos nm) := by
  cases h : r.look nm with
  | none =>
    have e : r.pos nm = r.ns.length := by
      have h1 := r.pos_le nm
      unfold Rd.look at h
      have h2 := List.getElem?_eq_none_iff.1 h
      omega
    exact .inl ⟨rfl, e, by have := r.pos_fresh nm; rwa [e] at this⟩
  | some x => exact .inr ⟨x, rfl, Rd.look_nm h, h, r.pos_fresh nm⟩
theorem Rd.file_look (r : Rd) (nm : List UInt8) : r.file nm = ((r.look nm).map Rn.ino).getD 0 := by
  unfold Rd.file Rd.look
  cases r.ns[r.pos nm]? <;> rfl
theorem Rd.look_set {r : Rd} {is : List Ri} {nm : List UInt8} {x y : Rn} (hx : r.look nm = some x) (hy : y.nm = nm) (m : List UInt8) : (⟨is, r.ns.set (r.pos nm) y⟩ : Rd).look m = if m = nm then some y else r.look m := by
  have hk : r.ns[r.pos nm]? = some x := hx
  have hl := (List.getElem?_eq_some_iff.1 hk).1
  have hxn := Rd.look_nm hx
  have key : ∀ j z, j ≠ r.pos nm → ((r.ns.set (r.pos nm) y)[j]? = some z ↔ r.ns[j]? = some z) := fun j z hj => by rw [List.getElem?_set_ne (fun e => hj e.symm)]
  by_cases e : m = nm
  · rw [if_pos e]
    subst e
    exact Rd.look_at (r := ⟨is, r.ns.set (r.pos m) y⟩) (List.getElem?_set_self hl) hy (fun j z hj hz => by
      rw [show (⟨is, r.ns.set (r.pos m) y⟩ : Rd).ns = r.ns.set (r.pos m) y from rfl, key j z (by omega)] at hz
      exact r.pos_fresh m j z hj hz)
  · rw [if_neg e]
    have fr : ∀ k, r.fresh m k → (⟨is, r.ns.set (r.pos nm) y⟩ : Rd).fresh m k := fun k hf j z hj hz => by
      rw [show (⟨is, r.ns.set (r.pos nm) y⟩ : Rd).ns = r.ns.set (r.pos nm) y from rfl] at hz
      by_cases e2 : j = r.pos nm
      · subst e2
        rw [List.getElem?_set_self hl] at hz
        obtain rfl := Option.some.inj hz
        rw [hy]; exact fun e3 => e e3.symm
      · rw [key j z e2] at hz
        exact hf j z hj hz
    rcases r.look_cases m with ⟨h1, _, h3⟩ | ⟨z, h1, h2, h3, h4⟩
    · rw [h1]
      exact Rd.look_none (by rw [show (⟨is, r.ns.set (r.pos nm) y⟩ : Rd).ns.length = r.ns.length from List.length_set]; exact fr _ h3)
    · rw [h1]
      have hne : r.pos m ≠ r.pos nm := fun e2 => by
        rw [e2, hk] at h3
        obtain rfl := Option.some.inj h3
        exact e (h2.symm.trans hxn)
      exact Rd.look_at (r := ⟨is, r.ns.set (r.pos nm) y⟩) (by rw [key _ z hne]; exact h3) h2 (fr _ h4)
theorem Rd.look_app {r : Rd} {is : List Ri} {nm : List UInt8} {y : Rn} (hx : r.look nm = none) (hy : y.nm = nm) (m : List UInt8) : (⟨is, r.ns ++ [y]⟩ : Rd).look m = if m = nm then some y else r.look m := by
  have old : ∀ j z, j < r.ns.length → ((r.ns ++ [y])[j]? = some z ↔ r.ns[j]? = some z) := fun j z hj => by rw [List.getElem?_append_left hj]
  have fr : ∀ k, k ≤ r.ns.length → r.fresh m k → (⟨is, r.ns ++ [y]⟩ : Rd).fresh m k := fun k hk hf j z hj hz => hf j z hj ((old j z (by omega)).1 hz)
  by_cases e : m = nm
  · rw [if_pos e]
    subst e
    rcases r.look_cases m with ⟨_, _, h3⟩ | ⟨z, h1, _⟩
    · exact Rd.look_at (r := ⟨is, r.ns ++ [y]⟩) (k := r.ns.length) (by rw [show (⟨is, r.ns ++ [y]⟩ : Rd).ns = r.ns ++ [y] from rfl, List.getElem?_append_right (Nat.le_refl _), Nat.sub_self]; rfl) hy (fr _ (Nat.le_refl _) h3)
    · rw [hx] at h1; cases h1
  · rw [if_neg e]
    rcases r.look_cases m with ⟨h1, _, h3⟩ | ⟨z, h1, h2, h3, h4⟩
    · rw [h1]
      refine Rd.look_none (fun j z hj hz => ?_)
      rw [show (⟨is, r.ns ++ [y]⟩ : Rd).ns = r.ns ++ [y] from rfl] at hj hz
      by_cases e2 : j < r.ns.length
      · exact h3 j z e2 ((old j z e2).1 hz)
      · have e3 : j = r.ns.length := by simp at hj; omega
        subst e3
        rw [List.getElem?_append_right (Nat.le_refl _), Nat.sub_self] at hz
        obtain rfl := Option.some.inj hz
        rw [hy]; exact fun e4 => e e4.symm
    · rw [h1]
      have hl := (List.getElem?_eq_some_iff.1 h3).1
      exact Rd.look_at (r := ⟨is, r.ns ++ [y]⟩) ((old _ z hl).2 h3) h2 (fr _ (Nat.le_of_lt hl) h4)
theorem Rd.look_has (r : Rd) (nm : List UInt8) (n : Nat) (m : List UInt8) : (r.has nm n).look m = if m = nm then some ⟨nm, ((r.look nm).map Rn.se).getD 0 + 1, n⟩ else r.look m := by
  unfold Rd.has
  rcases r.look_cases nm with ⟨h1, h2, h3⟩ | ⟨x, h1, h2, h3, h4⟩
  · have ha : r.ated nm = ⟨r.is, r.ns ++ [⟨nm, 0, 0⟩]⟩ := by unfold Rd.ated; rw [if_neg (by omega)]
    have hl := Rd.look_app (is := r.is) (y := ⟨nm, 0, 0⟩) h1 rfl nm
    rw [if_pos rfl] at hl
    have hp : (⟨r.is, r.ns ++ [⟨nm, 0, 0⟩]⟩ : Rd).pos nm = r.pos nm := by
      rw [h2]
      exact Rd.pos_at (r := ⟨r.is, r.ns ++ [⟨nm, 0, 0⟩]⟩) (k := r.ns.length) (x := ⟨nm, 0, 0⟩) (by show (r.ns ++ [_])[_]? = _; rw [List.getElem?_append_right (Nat.le_refl _), Nat.sub_self]; rfl) rfl (fun j z hj hz => h3 j z hj (by rw [show (⟨r.is, r.ns ++ [⟨nm, 0, 0⟩]⟩ : Rd).ns = r.ns ++ [⟨nm, 0, 0⟩] from rfl, List.getElem?_append_left hj] at hz; exact hz))
    rw [ha]
    have hl2 : (r.ns ++ [(⟨nm, 0, 0⟩ : Rn)])[r.pos nm]? = some ⟨nm, 0, 0⟩ := by rw [← hp]; exact hl
    simp only [hl2]
    have := Rd.look_set (is := r.is) (y := ⟨nm, 0 + 1, n⟩) hl rfl m
    rw [hp] at this
    rw [this, h1]
    by_cases e : m = nm
    · rw [if_pos e, if_pos e]; rfl
    · rw [if_neg e, if_neg e, Rd.look_app h1 rfl m, if_neg e]
  · have ha : r.ated nm = r := Rd.ated_of (List.getElem?_eq_some_iff.1 h3).1
    rw [ha, h3]
    simp only
    rw [Rd.look_set h1 (by exact h2) m, h1, h2]; rfl
theorem Rd.look_goes (r : Rd) (k : Nat) (m : List UInt8) : (r.goes k).look m = (r.look m).map (goN k) := by
  unfold Rd.look
  rw [Rd.goes_pos]
  show ((r.ns.map (goN k))[r.pos m]?) = _
  rw [List.getElem?_map]
theorem Rd.look_unname {r : Rd} {nm : List UInt8} {x : Rn} (hx : r.look nm = some x) (m : List UInt8) : (r.unname nm).look m = if m = nm then some { x with ino := 0 } else r.look m := by
  unfold Rd.unname
  have h3 : r.ns[r.pos nm]? = some x := hx
  rw [h3]
  have e := Rd.look_nm hx
  exact Rd.look_set (y := { x with ino := 0 }) hx e m
end Go.Proofs.YtlojmmcagglpoaaGreat
namespace Go.Proofs.YtlojmmcagglpoaaGreat
open Go.RowKit Go.Maps
def inoV (x : Rn) : Option Int := if x.ino = 0 then none else some (x.ino : Int)
structure Sim (d : Dk) (r : Rd) : Prop where
  no : d.no = r.is.length
  ns : ∀ m, d.ns m = (r.look m).bind inoV
  se : ∀ m, d.se m = (r.look m).map fun x => (x.se : Int)
  fs : ∀ i x, d.fs i = some x → ∃ (k : Nat) (y : Ri), i = (k : Int) + 1 ∧ r.is[k]? = some y ∧ x.by_ = y.b ∧ x.la = y.la ∧ x.ge = y.ge
theorem Sim.file {d : Dk} {r : Rd} (h : Sim d r) (m : List UInt8) : d.ns m = if r.file m = 0 then none else some (r.file m : Int) := by
  rw [h.ns, Rd.file_look]
  cases r.look m with
  | none => rfl
  | some x => rfl
theorem Sim.empty : Sim emptyD ⟨[], []⟩ := ⟨rfl, fun _ => rfl, fun _ => rfl, fun _ _ h => by cases h⟩
theorem Sim.create {d : Dk} {r : Rd} {n : Nat} (h : Sim d r) (_hok : d.Ok n) (nm : List UInt8) : (d.create nm).1 = (r.create nm).1 ∧ Sim (d.create nm).2 (r.create nm).2 := by
  have hf := h.file nm
  unfold Dk.create Rd.create
  by_cases hm : mayB nm = true
  · rw [if_pos hm, if_pos hm]
    by_cases h0 : r.file nm = 0
    · rw [if_pos h0] at hf ⊢
      rw [hf]
      refine ⟨rfl, ?_⟩
      have hlk : ∀ m, ((⟨r.is ++ [riZ], r.ns⟩ : Rd).has nm (r.is.length + 1)).look m = if m = nm then some ⟨nm, ((r.look nm).map Rn.se).getD 0 + 1, r.is.length + 1⟩ else r.look m := fun m => Rd.look_has _ _ _ _
      have his : ((⟨r.is ++ [riZ], r.ns⟩ : Rd).has nm (r.is.length + 1)).is = r.is ++ [riZ] := by
        unfold Rd.has
        split <;> rfl
      refine ⟨by rw [his]; show d.no + 1 = _; rw [h.no, List.length_append]; rfl, fun m => ?_, fun m => ?_, fun i x hx => ?_⟩
      · rw [hlk]
        unfold Dk.made
        rw [Dk.named_ns]
        by_cases e : m = nm
        · rw [if_pos e, if_pos e, Option.bind_some]
          unfold inoV
          rw [if_neg (by simp), h.no]; rfl
        · rw [if_neg e, if_neg e]
          exact h.ns m
      · rw [hlk]
        unfold Dk.made
        rw [Dk.named_se]
        by_cases e : m = nm
        · rw [if_pos e, if_pos e]
          show some ((d.se nm).getD 0 + 1) = _
          rw [h.se nm]
          cases r.look nm with
          | none => rfl
          | some x => rfl
        · rw [if_neg e, if_neg e]
          exact h.se m
      · rw [his]
        unfold Dk.made at hx
        rw [Dk.named_fs] at hx
        by_cases e : i = (d.no : Int) + 1
        · rw [if_pos e] at hx
          obtain rfl := Option.some.inj hx
          exact ⟨r.is.length, riZ, by rw [e, h.no], by rw [List.getElem?_append_right (Nat.le_refl _), Nat.sub_self]; rfl, rfl, rfl, rfl⟩
        · rw [if_neg e] at hx
          have hx2 : d.fs i = some x := by
            have : d.born.fs i = d.fs i := if_neg e
            rw [← this]; exact hx
          obtain ⟨k, y, e1, e2, e3⟩ := h.fs i x hx2
          exact ⟨k, y, e1, by rw [List.getElem?_append_left (List.getElem?_eq_some_iff.1 e2).1]; exact e2, e3⟩
    · rw [if_neg h0] at hf ⊢
      rw [hf]
      exact ⟨rfl, h⟩
  · rw [if_neg hm, if_neg hm]
    exact ⟨rfl, h⟩
theorem Sim.at_ {d : Dk} {r : Rd} {n : Nat} (h : Sim d r) (hok : d.Ok n) (nm : List UInt8) : (r.file nm = 0 ∧ d.file nm = none) ∨ ∃ k x y, r.file nm = k + 1 ∧ d.file nm = some (((k : Nat) : Int) + 1, x) ∧ d.fs ((k : Int) + 1) = some x ∧ r.is[k]? = some y ∧ x.by_ = y.b ∧ x.la = y.la ∧ x.ge = y.ge := by
  have hf := h.file nm
  by_cases h0 : r.file nm = 0
  · rw [if_pos h0] at hf
    exact .inl ⟨h0, Dk.file_none hf⟩
  · rw [if_neg h0] at hf
    obtain ⟨x, hx, _, hfl⟩ := hok.file hf
    obtain ⟨k, y, e1, e2, e3⟩ := h.fs _ x hx
    have hk : r.file nm = k + 1 := by omega
    rw [hk] at hfl hx
    exact .inr ⟨k, x, y, hk, hfl, hx, e2, e3⟩
theorem Sim.edit {d : Dk} {r : Rd} (h : Sim d r) {k : Nat} {x x' : Fl} {y y' : Ri} (hy : r.is[k]? = some y) (e1 : x'.by_ = y'.b) (e2 : x'.la = y'.la) (e3 : x'.ge = y'.ge) (_hx : d.fs ((k : Int) + 1) = some x) : Sim (d.edit ((k : Int) + 1) x') ⟨r.is.set k y', r.ns⟩ := by
  have hk := (List.getElem?_eq_some_iff.1 hy).1
  refine ⟨by show d.no = (r.is.set k y').length; rw [List.length_set]; exact h.no, h.ns, h.se, fun i z hz => ?_⟩
  rw [Dk.edit_fs] at hz
  by_cases e : i = (k : Int) + 1
  · rw [if_pos e] at hz
    obtain rfl := Option.some.inj hz
    exact ⟨k, y', e, List.getElem?_set_self hk, e1, e2, e3⟩
  · rw [if_neg e] at hz
    obtain ⟨k2, y2, q1, q2, q3⟩ := h.fs i z hz
    exact ⟨k2, y2, q1, by show (r.is.set k y')[k2]? = _; rw [List.getElem?_set_ne (by omega)]; exact q2, q3⟩
theorem Sim.edits {d : Dk} {r : Rd} {n : Nat} (h : Sim d r) (hok : d.Ok n) (nm : List UInt8) (f : Fl → Fl) (g : Ri → Ri) (hfg : ∀ x y, x.by_ = y.b → x.la = y.la → x.ge = y.ge → (f x).by_ = (g y).b ∧ (f x).la = (g y).la ∧ (f x).ge = (g y).ge) : (d.edits nm f).1 = (r.edits nm g).1 ∧ Sim (d.edits nm f).2 (r.edits nm g).2 := by
  by_cases hm : mayB nm = true
  · rcases h.at_ hok nm with ⟨h0, h1⟩ | ⟨k, x, y, hk, hfl, hx, hy, e1, e2, e3⟩
    · rw [Rd.edits_no hm h0]
      unfold Dk.edits
      rw [if_pos hm, h1]
      exact ⟨rfl, h⟩
    · rw [Rd.edits_of hm hk hy]
      unfold Dk.edits
      rw [if_pos hm, hfl]
      obtain ⟨q1, q2, q3⟩ := hfg x y e1 e2 e3
      exact ⟨rfl, h.edit hy q1 q2 q3 hx⟩
  · rw [Rd.edits_bad hm]
    unfold Dk.edits
    rw [if_neg hm]
    exact ⟨rfl, h⟩
theorem Sim.cut {d : Dk} {r : Rd} {n : Nat} (h : Sim d r) (hok : d.Ok n) (nm : List UInt8) : (d.cut nm).1 = (r.cut nm).1 ∧ Sim (d.cut nm).2 (r.cut nm).2 :=
  h.edits hok nm _ _ (fun x y e1 e2 e3 => by
    unfold Fl.kept Ri.cut
    rw [e1]
    by_cases h0 : 0 < y.b.length
    · rw [if_pos h0, if_pos h0]; exact ⟨by simp, by simp, by simp [e3]⟩
    · rw [if_neg h0, if_neg h0]
      have : y.b = [] := List.eq_nil_of_length_eq_zero (by omega)
      exact ⟨by simp [this], by simp, e3⟩)
theorem Sim.sync {d : Dk} {r : Rd} {n : Nat} (h : Sim d r) (hok : d.Ok n) (nm : List UInt8) : (d.sync nm).1 = (r.sync nm).1 ∧ Sim (d.sync nm).2 (r.sync nm).2 :=
  h.edits hok nm _ _ (fun x y e1 e2 e3 => by unfold Ri.sync; exact ⟨e1, by simp [e1], e3⟩)
theorem Sim.append {d : Dk} {r : Rd} {n : Nat} (h : Sim d r) (hok : d.Ok n) (nm l : List UInt8) : (d.append nm l).1 = (r.append nm l).1 ∧ Sim (d.append nm l).2 (r.append nm l).2 := by
  unfold Dk.append Rd.append
  by_cases hm : mayB nm = true
  · rw [if_pos hm, if_pos hm]
    rcases h.at_ hok nm with ⟨h0, h1⟩ | ⟨k, x, y, hk, hfl, hx, hy, e1, e2, e3⟩
    · rw [h1]
      cases r.is[r.file nm - 1]? with
      | none => exact ⟨rfl, h⟩
      | some y => simp only; rw [if_pos h0]; exact ⟨rfl, h⟩
    · rw [hfl, hk, Nat.add_sub_cancel, hy]
      simp only
      rw [if_neg (by omega : ¬ k + 1 = 0), e1]
      by_cases hl : 1048576 < y.b.length + l.length
      · rw [if_pos hl, if_pos hl]; exact ⟨rfl, h⟩
      · rw [if_neg hl, if_neg hl]
        exact ⟨rfl, h.edit hy (x' := { x with by_ := x.by_ ++ l }) (by simp [e1]) e2 e3 hx⟩
  · rw [if_neg hm, if_neg hm]; exact ⟨rfl, h⟩
end Go.Proofs.YtlojmmcagglpoaaGreat
namespace Go.Proofs.YtlojmmcagglpoaaGreat
open Go.RowKit Go.Maps
theorem Sim.ns_some {d : Dk} {r : Rd} (h : Sim d r) {m : List UInt8} {x : Rn} (hx : r.look m = some x) {k : Nat} (hk : x.ino = k + 1) : d.ns m = some ((k : Int) + 1) := by
  rw [h.ns, hx, Option.bind_some]
  unfold inoV
  rw [if_neg (by omega), hk]; rfl
theorem Sim.less {d : Dk} {r : Rd} {n : Nat} (h : Sim d r) (hok : d.Ok n) {nm : List UInt8} {k : Nat} (hd : d.ns nm = some ((k : Int) + 1)) : Sim (d.less nm ((k : Int) + 1)) (r.goes k) := by
  refine ⟨by show d.no = (r.is.set k riG).length; rw [List.length_set]; exact h.no, fun m => ?_, fun m => ?_, fun i x hx => ?_⟩
  · rw [Dk.less_ns, Rd.look_goes, h.ns m]
    cases hl : r.look m with
    | none =>
      by_cases e : m = nm
      · rw [if_pos e]; rfl
      · rw [if_neg e]; rfl
    | some x =>
      simp only [Option.map_some, Option.bind_some]
      by_cases e : m = nm
      · rw [if_pos e]
        subst e
        have h1 := h.ns m
        rw [hl, Option.bind_some, hd] at h1
        unfold inoV at h1
        have h2 : x.ino = k + 1 := by
          by_cases h0 : x.ino = 0
          · rw [if_pos h0] at h1; cases h1
          · rw [if_neg h0] at h1
            have := Option.some.inj h1
            omega
        unfold inoV goN
        rw [if_pos h2]; rfl
      · rw [if_neg e]
        by_cases h2 : x.ino = k + 1
        · exact absurd (hok.inj (h.ns_some hl h2) hd) e
        · unfold inoV goN
          rw [if_neg h2]
  · show d.se m = _
    rw [Rd.look_goes, h.se m]
    cases r.look m with
    | none => rfl
    | some x => simp only [Option.map_some]; rw [(goN_nm k x).2]
  · rw [Dk.less_fs] at hx
    by_cases e : i = (k : Int) + 1
    · rw [if_pos e] at hx; cases hx
    · rw [if_neg e] at hx
      obtain ⟨k2, y, q1, q2, q3⟩ := h.fs i x hx
      exact ⟨k2, y, q1, by show (r.is.set k riG)[k2]? = _; rw [List.getElem?_set_ne (by omega)]; exact q2, q3⟩
theorem Sim.remove {d : Dk} {r : Rd} {n : Nat} (h : Sim d r) (hok : d.Ok n) (nm : List UInt8) : (d.remove nm).1 = (r.remove nm).1 ∧ Sim (d.remove nm).2 (r.remove nm).2 := by
  have hf := h.file nm
  unfold Dk.remove Rd.remove
  by_cases hm : mayB nm = true
  · rw [if_pos hm, if_pos hm]
    by_cases h0 : r.file nm = 0
    · rw [if_pos h0] at hf ⊢
      rw [hf]; exact ⟨rfl, h⟩
    · rw [if_neg h0] at hf ⊢
      obtain ⟨k, hk⟩ : ∃ k, r.file nm = k + 1 := ⟨r.file nm - 1, by omega⟩
      rw [hk] at hf
      rw [hf, hk, Nat.add_sub_cancel]
      exact ⟨rfl, h.less hok hf⟩
  · rw [if_neg hm, if_neg hm]; exact ⟨rfl, h⟩
theorem Sim.rename {d : Dk} {r : Rd} {n : Nat} (h : Sim d r) (hok : d.Ok n) (old other : List UInt8) : (d.rename old other).1 = (r.rename old other).1 ∧ Sim (d.rename old other).2 (r.rename old other).2 := by
  unfold Dk.rename Rd.rename
  by_cases hm : mayB old = true ∧ mayB other = true
  · rw [if_pos (by rw [hm.1, hm.2]; rfl), if_pos hm]
    rcases h.at_ hok old with ⟨h0, h1⟩ | ⟨k, x, y, hk, hfl, hx, hy, e1, e2, e3⟩
    · rw [h1, if_pos h0]; exact ⟨rfl, h⟩
    · rw [hfl, if_neg (by omega)]
      simp only
      by_cases hoo : old = other
      · rw [if_pos hoo, if_pos hoo]; exact ⟨rfl, h⟩
      · rw [if_neg hoo, if_neg hoo, hk]
        refine ⟨rfl, ?_⟩
        have hdo : d.ns old = some ((k : Int) + 1) := (hok.of_file hfl).1
        obtain ⟨xo, hlo, hio⟩ : ∃ xo, r.look old = some xo ∧ xo.ino = k + 1 := by
          rw [Rd.file_look] at hk
          cases hl : r.look old with
          | none => rw [hl] at hk; cases hk
          | some z => rw [hl] at hk; exact ⟨z, rfl, hk⟩
        -- the freed disk
        have hfree : ∃ d1, Sim d1 (r.freed other) ∧ d1.fs = (d.freed old other).fs ∧ (∀ m, m ≠ other → d1.ns m = d.ns m) ∧ d1.se = d.se ∧ d1.no = d.no ∧ (r.freed other).look old = some xo ∧ ((r.freed other).is[k]? = some y) := by
          have hf := h.file other
          unfold Rd.freed
          by_cases h0 : r.file other = 0
          · rw [if_pos h0] at hf ⊢
            exact ⟨d, h, by unfold Dk.freed; simp only; rw [hf], fun _ _ => rfl, rfl, rfl, hlo, hy⟩
          · rw [if_neg h0] at hf ⊢
            obtain ⟨q, hq⟩ : ∃ q, r.file other = q + 1 := ⟨r.file other - 1, by omega⟩
            rw [hq] at hf
            rw [hq, Nat.add_sub_cancel]
            have hqk : q ≠ k := fun e => by
              have hf2 : d.ns other = some ((k : Int) + 1) := by rw [hf, e]; rfl
              exact hoo (hok.inj hdo hf2)
            refine ⟨d.less other ((q : Int) + 1), h.less hok hf, ?_, fun m hmm => by rw [Dk.less_ns, if_neg hmm], rfl, rfl, ?_, ?_⟩
            · unfold Dk.freed Dk.less
              simp only
              rw [hf]; rfl
            · rw [Rd.look_goes, hlo]
              simp only [Option.map_some]
              unfold goN
              rw [if_neg (by omega)]
            · show (r.is.set q riG)[k]? = _
              rw [List.getElem?_set_ne hqk]; exact hy
        obtain ⟨d1, s1, g1, g2, g3, g4, g5, g6⟩ := hfree
        have hlk : ∀ m, (((r.freed other).unname old).has other (k + 1)).look m = if m = other then some ⟨other, ((((r.freed other).unname old).look other).map Rn.se).getD 0 + 1, k + 1⟩ else if m = old then some { xo with ino := 0 } else (r.freed other).look m := fun m => by
          rw [Rd.look_has]
          by_cases e : m = other
          · rw [if_pos e, if_pos e]
          · rw [if_neg e, if_neg e, Rd.look_unname g5]
        have his : (((r.freed other).unname old).has other (k + 1)).is = (r.freed other).is := by
          have e1 : ∀ (q : Rd) (a : List UInt8) (b : Nat), (q.has a b).is = q.is := fun q a b => by unfold Rd.has; split <;> rfl
          have e2 : ∀ (q : Rd) (a : List UInt8), (q.unname a).is = q.is := fun q a => by unfold Rd.unname; split <;> rfl
          rw [e1, e2]
        refine ⟨?_, fun m => ?_, fun m => ?_, fun i z hz => ?_⟩
        · rw [his, ← s1.no, g4]; rfl
        · rw [hlk]
          unfold Dk.ren
          rw [Dk.named_ns]
          by_cases e : m = other
          · rw [if_pos e, if_pos e, Option.bind_some]
            unfold inoV
            rw [if_neg (by simp)]; rfl
          · rw [if_neg e, if_neg e]
            show delM d.ns old m = _
            by_cases e4 : m = old
            · rw [e4, delM_same, if_pos rfl]; rfl
            · rw [delM_other _ e4, if_neg e4, ← g2 m e]; exact s1.ns m
        · rw [hlk]
          unfold Dk.ren
          rw [Dk.named_se]
          by_cases e : m = other
          · rw [if_pos e, if_pos e]
            show some ((d.se other).getD 0 + 1) = _
            rw [Rd.look_unname g5, if_neg (fun e => hoo e.symm), ← g3, s1.se other]
            cases (r.freed other).look other with
            | none => rfl
            | some z => rfl
          · rw [if_neg e, if_neg e]
            show d.se m = _
            rw [← g3, s1.se m]
            by_cases e4 : m = old
            · rw [e4, if_pos rfl, g5]; rfl
            · rw [if_neg e4]
        · rw [his]
          unfold Dk.ren at hz
          rw [Dk.named_fs] at hz
          by_cases e : i = (k : Int) + 1
          · rw [if_pos e] at hz
            obtain rfl := Option.some.inj hz
            exact ⟨k, y, e, g6, e1, e2, e3⟩
          · rw [if_neg e, ← g1] at hz
            exact s1.fs i z hz
  · rw [if_neg (fun e => hm (by rw [Bool.and_eq_true] at e; exact e)), if_neg hm]; exact ⟨rfl, h⟩
end Go.Proofs.YtlojmmcagglpoaaGreat
namespace Go.Proofs.YtlojmmcagglpoaaGreat
open Go.RowKit Go.Maps
theorem Sim.stat {d : Dk} {r : Rd} {n : Nat} (h : Sim d r) (hok : d.Ok n) (nm : List UInt8) : d.stat nm = (statV (r.sti nm).1 (r.sti nm).2.1 (r.sti nm).2.2.1 (r.sti nm).2.2.2.1, (r.sti nm).2.2.2.2) := by
  unfold Dk.stat Rd.sti
  by_cases hm : mayB nm = true
  · rw [if_pos hm, if_pos hm]
    rcases h.at_ hok nm with ⟨h0, h1⟩ | ⟨k, x, y, hk, hfl, hx, hy, e1, e2, e3⟩
    · rw [h1, if_pos h0]
    · obtain ⟨xo, hlo⟩ : ∃ xo, r.look nm = some xo := by
        rw [Rd.file_look] at hk
        cases hl : r.look nm with
        | none => rw [hl] at hk; cases hk
        | some z => exact ⟨z, rfl⟩
      have hns : r.ns[r.pos nm]? = some xo := hlo
      rw [hfl, if_neg (by omega), hk, Nat.add_sub_cancel, hy, hns]
      simp only
      rw [h.se nm, hlo, e1, e3]; rfl
  · rw [if_neg hm, if_neg hm]
def Rd.Uq (r : Rd) : Prop := (r.ns.map Rn.nm).Nodup
theorem Rd.Uq.look {r : Rd} (h : r.Uq) {j : Nat} {x : Rn} (hx : r.ns[j]? = some x) : r.look x.nm = some x := by
  refine Rd.look_at hx rfl (fun i z hi hz e => ?_)
  have h1 : (r.ns.map Rn.nm)[i]? = some x.nm := by rw [List.getElem?_map, hz, ← e]; rfl
  have h2 : (r.ns.map Rn.nm)[j]? = some x.nm := by rw [List.getElem?_map, hx]; rfl
  obtain ⟨l1, g1⟩ := List.getElem?_eq_some_iff.1 h1
  obtain ⟨l2, g2⟩ := List.getElem?_eq_some_iff.1 h2
  exact List.pairwise_iff_getElem.1 h i j l1 l2 hi (g1.trans g2.symm)
theorem Rd.uq_set {l : List Rn} {i : Nat} {x y : Rn} (hx : l[i]? = some x) (hy : y.nm = x.nm) : (l.set i y).map Rn.nm = l.map Rn.nm := by
  rw [List.map_set, hy]
  obtain ⟨h1, h2⟩ := List.getElem?_eq_some_iff.1 hx
  have h3 : i < (l.map Rn.nm).length := by rw [List.length_map]; exact h1
  have h4 : (l.map Rn.nm)[i] = x.nm := by rw [List.getElem_map, h2]
  rw [← h4, List.set_getElem_self]
theorem Rd.Uq.ated {r : Rd} (h : r.Uq) (nm : List UInt8) : (r.ated nm).Uq := by
  unfold Rd.ated
  split
  · exact h
  · rename_i hp
    unfold Rd.Uq
    rw [List.map_append]
    refine List.nodup_append.2 ⟨h, by simp, fun a ha b hb => ?_⟩
    simp only [List.map_cons, List.map_nil, List.mem_singleton] at hb
    rw [hb]
    obtain ⟨z, hz, rfl⟩ := List.mem_map.1 ha
    obtain ⟨j, hj⟩ := List.getElem?_of_mem hz
    rcases r.look_cases nm with ⟨_, _, h3⟩ | ⟨z2, h1, h2, h3, h4⟩
    · exact h3 j z (List.getElem?_eq_some_iff.1 hj).1 hj
    · exact absurd (List.getElem?_eq_some_iff.1 h3).1 hp
theorem Rd.Uq.has {r : Rd} (h : r.Uq) (nm : List UInt8) (n : Nat) : (r.has nm n).Uq := by
  unfold Rd.has
  cases hx : (r.ated nm).ns[r.pos nm]? with
  | none => exact h
  | some x =>
    simp only
    unfold Rd.Uq
    rw [show (⟨r.is, (r.ated nm).ns.set (r.pos nm) ⟨x.nm, x.se + 1, n⟩⟩ : Rd).ns = (r.ated nm).ns.set (r.pos nm) ⟨x.nm, x.se + 1, n⟩ from rfl, Rd.uq_set (y := ⟨x.nm, x.se + 1, n⟩) hx rfl]
    exact h.ated nm
theorem Rd.Uq.goes {r : Rd} (h : r.Uq) (k : Nat) : (r.goes k).Uq := by
  unfold Rd.Uq Rd.goes
  simp only [List.map_map]
  have e : (Rn.nm ∘ goN k) = Rn.nm := by funext x; exact (goN_nm k x).1
  rw [e]; exact h
theorem Rd.Uq.unname {r : Rd} (h : r.Uq) (nm : List UInt8) : (r.unname nm).Uq := by
  unfold Rd.unname
  cases hx : r.ns[r.pos nm]? with
  | none => exact h
  | some x =>
    simp only
    unfold Rd.Uq
    rw [show (⟨r.is, r.ns.set (r.pos nm) { x with ino := 0 }⟩ : Rd).ns = r.ns.set (r.pos nm) { x with ino := 0 } from rfl, Rd.uq_set (y := { x with ino := 0 }) hx rfl]
    exact h
def Dk.May (d : Dk) : Prop := ∀ m i, d.ns m = some i → mayB m = true
theorem Dk.May.create {d : Dk} (h : d.May) (nm : List UInt8) : (d.create nm).2.May := by
  unfold Dk.create
  split
  · rename_i hm
    cases d.ns nm with
    | some i => exact h
    | none =>
      intro m i hi
      unfold Dk.made at hi
      rw [Dk.named_ns] at hi
      by_cases e : m = nm
      · rw [e]; exact hm
      · rw [if_neg e] at hi; exact h m i hi
  · exact h
theorem Dk.May.edits {d : Dk} (h : d.May) (nm : List UInt8) (f : Fl → Fl) : (d.edits nm f).2.May := by
  unfold Dk.edits
  split
  · split <;> exact h
  · exact h
theorem Dk.May.append {d : Dk} (h : d.May) (nm l : List UInt8) : (d.append nm l).2.May := by
  unfold Dk.append
  split
  · split
    · exact h
    · split <;> exact h
  · exact h
theorem Dk.May.remove {d : Dk} (h : d.May) (nm : List UInt8) : (d.remove nm).2.May := by
  unfold Dk.remove
  split
  · split
    · exact h
    · intro m i hi
      rw [Dk.less_ns] at hi
      split at hi
      · cases hi
      · exact h m i hi
  · exact h
theorem Dk.May.rename {d : Dk} (h : d.May) (old other : List UInt8) : (d.rename old other).2.May := by
  unfold Dk.rename
  split
  · rename_i hm
    rw [Bool.and_eq_true] at hm
    split
    · exact h
    · split
      · exact h
      · intro m i hi
        unfold Dk.ren at hi
        rw [Dk.named_ns] at hi
        by_cases e : m = other
        · rw [e]; exact hm.2
        · rw [if_neg e] at hi
          have hi2 : delM d.ns old m = some i := hi
          by_cases e2 : m = old
          · rw [e2, delM_same] at hi2; cases hi2
          · rw [delM_other _ e2] at hi2; exact h m i hi2
  · exact h
theorem Sim.inode {d : Dk} {r : Rd} {n : Nat} (h : Sim d r) (hok : d.Ok n) (hu : r.Uq) (hmy : d.May) (i : Int) : d.inode i = (statV (r.inode i).1 (r.inode i).2.1 (r.inode i).2.2.1 (r.inode i).2.2.2.1, (r.inode i).2.2.2.2) := by
  unfold Rd.inode
  cases hf : r.ofIno i with
  | none =>
    unfold Dk.inode
    cases hx : d.fs i with
    | none => rfl
    | some x =>
      exfalso
      have h1 := hok.back i x hx
      have h2 := h.file x.nm
      rw [h1] at h2
      by_cases h0 : r.file x.nm = 0
      · rw [if_pos h0] at h2; cases h2
      · rw [if_neg h0] at h2
        have hi := Option.some.inj h2
        obtain ⟨z, hz, hzi⟩ := r.file_mem x.nm h0
        unfold Rd.ofIno at hf
        have h3 := List.find?_eq_none.1 hf z (List.mem_of_getElem? hz)
        have hpos : 0 < i := by omega
        have h5 : (decide (0 < i) && ((z.ino : Int) == i)) = true := by
          rw [decide_eq_true hpos, hzi, hi]; simp
        exact h3 h5
  | some z =>
    simp only
    unfold Rd.ofIno at hf
    have hz := List.find?_some hf
    simp only [Bool.and_eq_true, decide_eq_true_iff, beq_iff_eq] at hz
    obtain ⟨j, hj⟩ := List.getElem?_of_mem (List.mem_of_find?_eq_some hf)
    have hl := hu.look hj
    obtain ⟨k, hk⟩ : ∃ k, z.ino = k + 1 := ⟨z.ino - 1, by omega⟩
    have hns := h.ns_some hl hk
    rw [← h.stat hok z.nm]
    obtain ⟨x, hx, hxn, hfl⟩ := hok.file hns
    have hik : i = (k : Int) + 1 := by omega
    have hmay : mayB z.nm = true := hmy _ _ hns
    unfold Dk.inode Dk.stat
    rw [if_pos hmay, hfl, hik, hx]
    simp only
    rw [hxn]
end Go.Proofs.YtlojmmcagglpoaaGreat
namespace Go.Proofs.YtlojmmcagglpoaaGreat
open Go.RowKit Go.Maps
theorem Sim.ino_at {d : Dk} {r : Rd} {n : Nat} (h : Sim d r) (hok : d.Ok n) (hu : r.Uq) (hmy : d.May) (i : Int) : (d.fs i = none ∧ (r.inode i).2.2.2.2 = 143) ∨ ∃ (k : Nat) (x : Fl) (y : Ri), i = (k : Int) + 1 ∧ d.fs i = some x ∧ r.is[k]? = some y ∧ x.by_ = y.b ∧ x.ge = y.ge ∧ (r.inode i).2.2.2.2 = 0 ∧ (r.inode i).2.2.1 = (y.ge : Int) ∧ (r.inode i).2.2.2.1 = (y.b.length : Int) := by
  have hi := h.inode hok hu hmy i
  unfold Dk.inode at hi
  cases hx : d.fs i with
  | none =>
    rw [hx] at hi
    exact .inl ⟨rfl, (congrArg Prod.snd hi).symm⟩
  | some x =>
    rw [hx] at hi
    simp only at hi
    obtain ⟨k, y, e1, e2, e3, _, e5⟩ := h.fs i x hx
    have h1 := congrArg Prod.snd hi
    have h2 := congrArg Prod.fst hi
    unfold statV at h2
    simp only [Value.agg.injEq, Array.mk.injEq, List.cons.injEq, Value.int.injEq, true_and, and_true] at h2
    obtain ⟨_, _, g3, g4⟩ := h2
    exact .inr ⟨k, x, y, e1, rfl, e2, e3, e5, h1.symm, by rw [← g3, e5], by rw [← g4, e3]⟩
theorem Sim.cons {d : Dk} {r : Rd} {n : Nat} (h : Sim d r) (hok : d.Ok n) (hu : r.Uq) (hmy : d.May) (i : Int) (h0 : (r.inode i).2.2.2.2 = 0) : ∃ k y, i = ((k : Nat) : Int) + 1 ∧ r.is[k]? = some y ∧ (r.inode i).2.2.2.1 = (y.b.length : Int) := by
  rcases h.ino_at hok hu hmy i with ⟨_, h1⟩ | ⟨k, x, y, e1, _, e2, _, _, _, _, e6⟩
  · rw [h1] at h0; cases h0
  · exact ⟨k, y, e1, e2, e6⟩
theorem Sim.read {d : Dk} {r : Rd} {n : Nat} (h : Sim d r) (hok : d.Ok n) (hu : r.Uq) (hmy : d.May) (i gen off size : Int) : d.read i gen off size = r.read i gen off size := by
  unfold Dk.read Rd.read
  by_cases h0 : off < 0 ∨ size < 0
  · rw [if_pos h0, if_pos h0]
  · rw [if_neg h0, if_neg h0]
    rcases h.ino_at hok hu hmy i with ⟨h1, h2⟩ | ⟨k, x, y, e1, e2, e3, e4, e5, e6, e7, e8⟩
    · rw [h1, h2, if_pos (by decide)]
    · rw [e2, e6, if_neg (by simp), e7]
      simp only
      rw [e5, e4, e1, show ((k : Int) + 1).toNat - 1 = k from by omega, e3]
theorem Rd.Ok.edits {r : Rd} {n n' : Nat} (h : r.Ok n) (hn : n ≤ n') (hb : n' ≤ 1000000) (nm : List UInt8) (f : Ri → Ri) (hf : ∀ y ∈ r.is, (f y).b.length ≤ 1048576 ∧ (f y).la ≤ (f y).b.length ∧ (f y).ge ≤ n') : (r.edits nm f).2.Ok n' := by
  have more : r.Ok n' := ⟨hb, Nat.le_trans h.nl hn, Nat.le_trans h.il hn, fun x hx => Nat.le_trans (h.se x hx) hn, h.ino, h.bl, h.la, fun y hy => Nat.le_trans (h.ge y hy) hn⟩
  unfold Rd.edits
  split
  · split
    · exact more
    · rename_i y hy
      split
      · exact more
      · have hfy := hf y (List.mem_of_getElem? hy)
        refine ⟨hb, more.nl, ?_, more.se, fun x hx => ?_, fun z hz => ?_, fun z hz => ?_, fun z hz => ?_⟩
        · show (r.is.set _ _).length ≤ n'
          rw [List.length_set]; exact more.il
        · show x.ino ≤ (r.is.set _ _).length
          rw [List.length_set]; exact h.ino x hx
        all_goals
          rcases List.mem_or_eq_of_mem_set hz with h1 | rfl
          · first
              | exact more.bl z h1
              | exact more.la z h1
              | exact more.ge z h1
          · first
              | exact hfy.1
              | exact hfy.2.1
              | exact hfy.2.2
  · exact more
theorem Rd.Ok.cut {r : Rd} {n : Nat} (h : r.Ok n) (hb : n + 1 ≤ 1000000) (nm : List UInt8) : (r.cut nm).2.Ok (n + 1) :=
  h.edits (Nat.le_succ n) hb nm _ (fun y hy => ⟨by unfold Ri.cut; simp, by unfold Ri.cut; simp, by
    have := h.ge y hy
    unfold Ri.cut
    simp only
    split <;> omega⟩)
theorem Rd.Ok.sync {r : Rd} {n : Nat} (h : r.Ok n) (nm : List UInt8) : (r.sync nm).2.Ok n :=
  h.edits (Nat.le_refl n) h.big nm _ (fun y hy => ⟨h.bl y hy, Nat.le_refl _, h.ge y hy⟩)
theorem Rd.Ok.goes {r : Rd} {n : Nat} (h : r.Ok n) (k : Nat) : (r.goes k).Ok n := by
  refine ⟨h.big, by unfold Rd.goes; simpa using h.nl, by unfold Rd.goes; simpa using h.il, fun x hx => ?_, fun x hx => ?_, fun z hz => ?_, fun z hz => ?_, fun z hz => ?_⟩
  · obtain ⟨y, hy, rfl⟩ := List.mem_map.1 hx
    rw [(goN_nm k y).2]; exact h.se y hy
  · obtain ⟨y, hy, rfl⟩ := List.mem_map.1 hx
    have h1 : (r.goes k).is.length = r.is.length := by unfold Rd.goes; simp
    rw [h1]
    unfold goN
    split
    · exact Nat.zero_le _
    · exact h.ino y hy
  all_goals
    rcases List.mem_or_eq_of_mem_set hz with h1 | rfl
    · first
        | exact h.bl z h1
        | exact h.la z h1
        | exact h.ge z h1
    · exact Nat.zero_le _
theorem Rd.Ok.remove {r : Rd} {n : Nat} (h : r.Ok n) (nm : List UInt8) : (r.remove nm).2.Ok n := by
  unfold Rd.remove
  split
  · split
    · exact h
    · exact h.goes _
  · exact h
end Go.Proofs.YtlojmmcagglpoaaGreat
namespace Go.Proofs.YtlojmmcagglpoaaGreat
open Go.RowKit Go.Maps
theorem Rd.ated_mem {r : Rd} {nm : List UInt8} {x : Rn} (h : x ∈ (r.ated nm).ns) : x ∈ r.ns ∨ x = ⟨nm, 0, 0⟩ := by
  unfold Rd.ated at h
  split at h
  · exact .inl h
  · rcases List.mem_append.1 h with h1 | h1
    · exact .inl h1
    · exact .inr (List.mem_singleton.1 h1)
theorem Rd.ated_len (r : Rd) (nm : List UInt8) : (r.ated nm).ns.length ≤ r.ns.length + 1 := by
  unfold Rd.ated
  split
  · omega
  · simp
theorem Rd.Ok.has {r : Rd} {n : Nat} (h : r.Ok n) (hb : n + 1 ≤ 1000000) (nm : List UInt8) (q : Nat) (hq : q ≤ r.is.length) : (r.has nm q).Ok (n + 1) := by
  have more : r.Ok (n + 1) := ⟨hb, Nat.le_succ_of_le h.nl, Nat.le_succ_of_le h.il, fun x hx => Nat.le_succ_of_le (h.se x hx), h.ino, h.bl, h.la, fun y hy => Nat.le_succ_of_le (h.ge y hy)⟩
  unfold Rd.has
  cases hx : (r.ated nm).ns[r.pos nm]? with
  | none => exact more
  | some x =>
    simp only
    have hxs : x.se ≤ n := by
      rcases Rd.ated_mem (List.mem_of_getElem? hx) with h1 | rfl
      · exact h.se x h1
      · exact Nat.zero_le _
    refine ⟨hb, ?_, more.il, fun z hz => ?_, fun z hz => ?_, h.bl, h.la, more.ge⟩
    · show ((r.ated nm).ns.set _ _).length ≤ n + 1
      rw [List.length_set]
      have := r.ated_len nm
      have := h.nl
      omega
    · rcases List.mem_or_eq_of_mem_set hz with h1 | rfl
      · rcases Rd.ated_mem h1 with h2 | rfl
        · exact more.se z h2
        · exact Nat.zero_le _
      · show x.se + 1 ≤ n + 1
        omega
    · rcases List.mem_or_eq_of_mem_set hz with h1 | rfl
      · rcases Rd.ated_mem h1 with h2 | rfl
        · exact h.ino z h2
        · exact Nat.zero_le _
      · exact hq
theorem Rd.Ok.create {r : Rd} {n : Nat} (h : r.Ok n) (hb : n + 2 ≤ 1000000) (nm : List UInt8) : (r.create nm).2.Ok (n + 2) := by
  have more : r.Ok (n + 2) := ⟨hb, by have := h.nl; omega, by have := h.il; omega, fun x hx => by have := h.se x hx; omega, h.ino, h.bl, h.la, fun y hy => by have := h.ge y hy; omega⟩
  unfold Rd.create
  split
  · split
    · have h1 : (⟨r.is ++ [riZ], r.ns⟩ : Rd).Ok (n + 1) := by
        refine ⟨by omega, by have := h.nl; show r.ns.length ≤ _; omega, by have := h.il; simp; omega, fun x hx => by have := h.se x hx; omega, fun x hx => by have := h.ino x hx; simp; omega, fun y hy => ?_, fun y hy => ?_, fun y hy => ?_⟩
        all_goals
          rcases List.mem_append.1 hy with h2 | h2
          · first
              | exact h.bl y h2
              | exact h.la y h2
              | (have := h.ge y h2; omega)
          · rw [List.mem_singleton.1 h2]; exact Nat.zero_le _
      exact h1.has (by omega) nm _ (by simp)
    · exact more
  · exact more
theorem Rd.Ok.append {r : Rd} {n : Nat} (h : r.Ok n) (nm l : List UInt8) : (r.append nm l).2.Ok n := by
  unfold Rd.append
  split
  · split
    · exact h
    · rename_i y hy
      split
      · exact h
      · split
        · exact h
        · rename_i hl
          have hym := List.mem_of_getElem? hy
          refine ⟨h.big, h.nl, ?_, h.se, fun x hx => ?_, fun z hz => ?_, fun z hz => ?_, fun z hz => ?_⟩
          · show (r.is.set _ _).length ≤ n
            rw [List.length_set]; exact h.il
          · show x.ino ≤ (r.is.set _ _).length
            rw [List.length_set]; exact h.ino x hx
          · rcases List.mem_or_eq_of_mem_set hz with h1 | rfl
            · exact h.bl z h1
            · show (y.b ++ l).length ≤ _
              rw [List.length_append]; omega
          · rcases List.mem_or_eq_of_mem_set hz with h1 | rfl
            · exact h.la z h1
            · show y.la ≤ (y.b ++ l).length
              have := h.la y hym
              rw [List.length_append]; omega
          · rcases List.mem_or_eq_of_mem_set hz with h1 | rfl
            · exact h.ge z h1
            · exact h.ge y hym
  · exact h
theorem Rd.Ok.unname {r : Rd} {n : Nat} (h : r.Ok n) (nm : List UInt8) : (r.unname nm).Ok n := by
  unfold Rd.unname
  cases hx : r.ns[r.pos nm]? with
  | none => exact h
  | some x =>
    simp only
    refine ⟨h.big, by show (r.ns.set _ _).length ≤ n; rw [List.length_set]; exact h.nl, h.il, fun z hz => ?_, fun z hz => ?_, h.bl, h.la, h.ge⟩
    · rcases List.mem_or_eq_of_mem_set hz with h1 | rfl
      · exact h.se z h1
      · exact h.se x (List.mem_of_getElem? hx)
    · rcases List.mem_or_eq_of_mem_set hz with h1 | rfl
      · exact h.ino z h1
      · exact Nat.zero_le _
theorem Rd.unname_is (r : Rd) (nm : List UInt8) : (r.unname nm).is = r.is := by unfold Rd.unname; split <;> rfl
theorem Rd.freed_is (r : Rd) (nm : List UInt8) : (r.freed nm).is.length = r.is.length := by
  unfold Rd.freed
  split
  · rfl
  · unfold Rd.goes; simp
theorem Rd.Ok.rename {r : Rd} {n : Nat} (h : r.Ok n) (hb : n + 1 ≤ 1000000) (old other : List UInt8) : (r.rename old other).2.Ok (n + 1) := by
  have more : r.Ok (n + 1) := ⟨hb, Nat.le_succ_of_le h.nl, Nat.le_succ_of_le h.il, fun x hx => Nat.le_succ_of_le (h.se x hx), h.ino, h.bl, h.la, fun y hy => Nat.le_succ_of_le (h.ge y hy)⟩
  unfold Rd.rename
  split
  · split
    · exact more
    · split
      · exact more
      · have h1 : (r.freed other).Ok n := by
          unfold Rd.freed
          split
          · exact h
          · exact h.goes _
        refine (h1.unname old).has hb other _ ?_
        rw [Rd.unname_is, Rd.freed_is]
        exact h.file_le old
  · exact more
theorem Rd.Uq.create {r : Rd} (h : r.Uq) (nm : List UInt8) : (r.create nm).2.Uq := by
  unfold Rd.create
  split
  · split
    · exact Rd.Uq.has (r := ⟨r.is ++ [riZ], r.ns⟩) h nm _
    · exact h
  · exact h
theorem Rd.Uq.edits {r : Rd} (h : r.Uq) (nm : List UInt8) (f : Ri → Ri) : (r.edits nm f).2.Uq := by
  unfold Rd.edits
  split
  · split
    · exact h
    · split <;> exact h
  · exact h
theorem Rd.Uq.append {r : Rd} (h : r.Uq) (nm l : List UInt8) : (r.append nm l).2.Uq := by
  unfold Rd.append
  split
  · split
    · exact h
    · split
      · exact h
      · split <;> exact h
  · exact h
theorem Rd.Uq.remove {r : Rd} (h : r.Uq) (nm : List UInt8) : (r.remove nm).2.Uq := by
  unfold Rd.remove
  split
  · split
    · exact h
    · exact h.goes _
  · exact h
theorem Rd.Uq.rename {r : Rd} (h : r.Uq) (old other : List UInt8) : (r.rename old other).2.Uq := by
  unfold Rd.rename
  split
  · split
    · exact h
    · split
      · exact h
      · refine Rd.Uq.has (Rd.Uq.unname ?_ old) other _
        unfold Rd.freed
        split
        · exact h
        · exact h.goes _
  · exact h
end Go.Proofs.YtlojmmcagglpoaaGreat
