/- THE WALK of a ring's All, of alerts (printed by a program of ours). -/
import Derived.Test.YtjkocghbnljifaaAlRing
namespace Go.Proofs.Ytjkocghbnljifaa
open Go.RowKit
def AllT (q : List Th) (w : World) (e : Ending) (w' : World) : Prop :=
  ∃ a, e = .returned (.slice (some ⟨a, 0, none⟩) q.length q.length) ∧ w.heap.size ≤ a ∧ Blk w' a 44 (flatE Th.cells q).toArray ∧ Below w.heap.size w w'
def midT (q : List Th) (k : Nat) : List Th := q.take k ++ List.replicate (q.length - k) th0
theorem midT_at (q : List Th) {k : Nat} (hk : k < q.length) : (midT q k)[k]? = some th0 := by
  unfold midT
  rw [List.getElem?_append_right (by rw [List.length_take]; omega), List.length_take, Nat.min_eq_left (by omega), Nat.sub_self, List.getElem?_replicate, if_pos (by omega)]
theorem midT_set (q : List Th) {k : Nat} {x : Th} (hx : q[k]? = some x) : (midT q k).set k x = midT q (k + 1) := by
  have hk := (List.getElem?_eq_some_iff.1 hx).1
  unfold midT
  rw [List.set_append_right _ _ (by rw [List.length_take]; omega), List.length_take, Nat.min_eq_left (by omega), Nat.sub_self, show q.length - k = (q.length - (k + 1)) + 1 from by omega, List.replicate_succ, List.set_cons_zero, take_snoc hx, List.append_assoc]
  rfl
set_option maxRecDepth 100000 in
set_option maxHeartbeats 4000000 in
theorem allT_any (g p n f : Nat) (xs q : List Th) (w : World) (h : RT w g p n f xs q) :
    Calls Try.prog 25 #[.pointer (some ⟨g, 0, none⟩)] w (AllT q w) := by
  have c2 : w.cell? ⟨g, 2, none⟩ = some (.int .i64 (q.length : Int)) := h.blk.cell 2
  have hmk := run_make_ths q.length (by have := h.hq; have := h.hn; omega)
  have hgl := h.blk.lt; have hpl := h.arr.lt
  have hfn := h.hf; have hn := h.hn; have hqn := h.hq
  have hB : Blk (w.alloc (.cells (flatE Th.cells (List.replicate q.length th0)).toArray 44)) w.heap.size 44 (flatE Th.cells (midT q 0)).toArray := by
    have e : midT q 0 = List.replicate q.length th0 := by unfold midT; simp
    rw [e]
    exact Blk.new w _ _ rfl
  have hR : RT (w.alloc (.cells (flatE Th.cells (List.replicate q.length th0)).toArray 44)) g p n f xs q := h.keep ((Below.refl _ _).alloc (Nat.le_refl _) _)
  have HB := Lib.hid hB; have HR := Lib.hid hR
  clear hB hR h
  obtain ⟨a, ha⟩ : ∃ a, a = w.heap.size := ⟨_, rfl⟩
  generalize hm : q.length = m at *
  have HM := Lib.hid hm; clear hm
  go_enter Try.func25, Try.ntmps25
  go_wp2_with fail
  rw [← ha] at HB ⊢
  have HA := Lib.hid ha
  have hga : g ≠ a := by omega
  have hpa : p ≠ a := by omega
  have hag : a ≠ g := by omega
  have hap : a ≠ p := by omega
  clear ha hmk c2
  go_loopw [12] (fun iv W => ∃ k : Nat, k ≤ m ∧ iv = .int .i64 (k : Int) ∧ RT W g p n f xs q ∧ Blk W a 44 (flatE Th.cells (midT q k)).toArray ∧ Below w.heap.size w W) (fun iv _ => m - (intOf iv).toNat)
  case atStart => exact ⟨0, Nat.zero_le _, rfl, HR.out, HB.out, (Below.refl _ _).alloc (Nat.le_refl _) _⟩
  case round =>
    obtain ⟨k, hk, rfl, hr, hb, hz⟩ := hrel
    have HR2 := Lib.hid hr; have HB2 := Lib.hid hb; have HZ := Lib.hid hz
    by_cases hlt : k < m
    · have hqk : q[k]? = some (q[k]'(by have := HM.out; omega)) := List.getElem?_eq_getElem _
      obtain ⟨x, hx⟩ : ∃ x, x = q[k]'(by have := HM.out; omega) := ⟨_, rfl⟩
      rw [← hx] at hqk
      obtain ⟨j, hj⟩ : ∃ j, j = (f + k) % n := ⟨_, rfl⟩
      have hjn : j < n := by rw [hj]; exact Nat.mod_lt _ (by omega)
      have hxj := hr.at_ k x hqk
      rw [← hj] at hxj
      have cx0 := hr.cell0 hxj
      have cx1 := hr.cell1 hxj
      have cx2 := hr.cell2 hxj
      have cx3 := hr.cell3 hxj
      have cx4 := hr.cell4 hxj
      have cx5 := hr.cell5 hxj
      have cx6 := hr.cell6 hxj
      have cx7 := hr.cell7 hxj
      have cx8 := hr.cell8 hxj
      have cx9 := hr.cell9 hxj
      have cx10 := hr.cell10 hxj
      have cx11 := hr.cell11 hxj
      have c0 : wr.cell? ⟨g, 0, none⟩ = some (.slice (some ⟨p, 0, none⟩) n n) := hr.blk.cell 0
      have c1 : wr.cell? ⟨g, 1, none⟩ = some (.int .i64 (f : Int)) := hr.blk.cell 1
      have fa0 := hb.frozen (k * 12)
      have fa1 := hb.frozen (k * 12 + 1)
      have fa2 := hb.frozen (k * 12 + 2)
      have fa3 := hb.frozen (k * 12 + 3)
      have fa4 := hb.frozen (k * 12 + 4)
      have fa5 := hb.frozen (k * 12 + 5)
      have fa6 := hb.frozen (k * 12 + 6)
      have fa7 := hb.frozen (k * 12 + 7)
      have fa8 := hb.frozen (k * 12 + 8)
      have fa9 := hb.frozen (k * 12 + 9)
      have fa10 := hb.frozen (k * 12 + 10)
      have fa11 := hb.frozen (k * 12 + 11)
      have hma := midT_at q (k := k) (by rw [HM.out]; exact hlt)
      have ca0 : wr.cell? ⟨a, k * 12, none⟩ = some (.int .i64 0) := by
        rw [hb.cell, List.getElem?_toArray]
        exact flatE_at th_size _ hma (i := 0) rfl
      have ca1 : wr.cell? ⟨a, k * 12 + 1, none⟩ = some (.int .i64 0) := by
        rw [hb.cell, List.getElem?_toArray]
        exact flatE_at th_size _ hma (i := 1) rfl
      have ca2 : wr.cell? ⟨a, k * 12 + 2, none⟩ = some (.int .i64 0) := by
        rw [hb.cell, List.getElem?_toArray]
        exact flatE_at th_size _ hma (i := 2) rfl
      have ca3 : wr.cell? ⟨a, k * 12 + 3, none⟩ = some (.int .i64 0) := by
        rw [hb.cell, List.getElem?_toArray]
        exact flatE_at th_size _ hma (i := 3) rfl
      have ca4 : wr.cell? ⟨a, k * 12 + 4, none⟩ = some (.int .i64 0) := by
        rw [hb.cell, List.getElem?_toArray]
        exact flatE_at th_size _ hma (i := 4) rfl
      have ca5 : wr.cell? ⟨a, k * 12 + 5, none⟩ = some (.int .i64 0) := by
        rw [hb.cell, List.getElem?_toArray]
        exact flatE_at th_size _ hma (i := 5) rfl
      have ca6 : wr.cell? ⟨a, k * 12 + 6, none⟩ = some (.int .i64 0) := by
        rw [hb.cell, List.getElem?_toArray]
        exact flatE_at th_size _ hma (i := 6) rfl
      have ca7 : wr.cell? ⟨a, k * 12 + 7, none⟩ = some (.int .i64 0) := by
        rw [hb.cell, List.getElem?_toArray]
        exact flatE_at th_size _ hma (i := 7) rfl
      have ca8 : wr.cell? ⟨a, k * 12 + 8, none⟩ = some (.int .i64 0) := by
        rw [hb.cell, List.getElem?_toArray]
        exact flatE_at th_size _ hma (i := 8) rfl
      have ca9 : wr.cell? ⟨a, k * 12 + 9, none⟩ = some (.int .i64 0) := by
        rw [hb.cell, List.getElem?_toArray]
        exact flatE_at th_size _ hma (i := 9) rfl
      have ca10 : wr.cell? ⟨a, k * 12 + 10, none⟩ = some (.string ByteArray.empty) := by
        rw [hb.cell, List.getElem?_toArray]
        exact flatE_at th_size _ hma (i := 10) rfl
      have ca11 : wr.cell? ⟨a, k * 12 + 11, none⟩ = some (.int .u32 0) := by
        rw [hb.cell, List.getElem?_toArray]
        exact flatE_at th_size _ hma (i := 11) rfl
      have HJ := Lib.hid hj; have HQ := Lib.hid hqk; have HMA := Lib.hid hma
      have hset : ∀ (W : World) (m' : Nat), W = (wr.drewN m').setCells a (k * 12) x.cells.toList → RT W g p n f xs q ∧ Blk W a 44 (flatE Th.cells (midT q (k + 1))).toArray ∧ Below w.heap.size w W := fun W m' hW => by
        subst hW
        refine ⟨HR2.out.chg (Chg.cellsSet (S := fun k => k = a) (.inl rfl) _ _ _ ((Chg.refl (fun k => k = a) wr).drewN m')) hga hpa, ?_, Below.cellsSet (by have := HA.out; omega) _ _ _ (below_drewN HZ.out m')⟩
        have := (HB2.out.drewN m').elem HMA.out x
        rwa [midT_set q HQ.out] at this
      have HS := Lib.hid hset
      clear hr hb hz hx hxj hj hqk hset hma
      obtain ⟨qp, qm0, qm1, qm2, qm3, qm4, qm5, qm6, qm7, qm8, qt, qr⟩ := x
      simp only at cx0 cx1 cx2 cx3 cx4 cx5 cx6 cx7 cx8 cx9 cx10 cx11
      go_upto_region 5 with fail
      go_region_held3 (fun w' => w'.cell? ⟨g, 0, none⟩ = some (.slice (some ⟨p, 0, none⟩) n n) ∧ w'.cell? ⟨g, 1, none⟩ = some (.int .i64 (f : Int)) ∧ w'.cell? ⟨p, j * 12, none⟩ = some (.int .i64 qp) ∧ w'.cell? ⟨p, j * 12 + 1, none⟩ = some (.int .i64 qm0) ∧ w'.cell? ⟨p, j * 12 + 2, none⟩ = some (.int .i64 qm1) ∧ w'.cell? ⟨p, j * 12 + 3, none⟩ = some (.int .i64 qm2) ∧ w'.cell? ⟨p, j * 12 + 4, none⟩ = some (.int .i64 qm3) ∧ w'.cell? ⟨p, j * 12 + 5, none⟩ = some (.int .i64 qm4) ∧ w'.cell? ⟨p, j * 12 + 6, none⟩ = some (.int .i64 qm5) ∧ w'.cell? ⟨p, j * 12 + 7, none⟩ = some (.int .i64 qm6) ∧ w'.cell? ⟨p, j * 12 + 8, none⟩ = some (.int .i64 qm7) ∧ w'.cell? ⟨p, j * 12 + 9, none⟩ = some (.int .i64 qm8) ∧ w'.cell? ⟨p, j * 12 + 10, none⟩ = some (.string qt) ∧ w'.cell? ⟨p, j * 12 + 11, none⟩ = some (.int .u32 qr)) (go_keep)
        (first | (go_at_call 33; refine (atT_any g p n f k j _ (by go_keep) (by go_keep) (by omega) (by omega) (by omega) HJ.out).mono ?_; rintro e w' ⟨rfl, m2, rfl⟩))
      go_upto_region 6 with fail
      obtain ⟨w5, hw5⟩ : ∃ w5, w5 = ((((((((((((wr.drewN (1 + m2)).setCell ⟨a, k * 12, none⟩ (.int .i64 qp)).setCell ⟨a, k * 12 + 1, none⟩ (.int .i64 qm0)).setCell ⟨a, k * 12 + 2, none⟩ (.int .i64 qm1)).setCell ⟨a, k * 12 + 3, none⟩ (.int .i64 qm2)).setCell ⟨a, k * 12 + 4, none⟩ (.int .i64 qm3)).setCell ⟨a, k * 12 + 5, none⟩ (.int .i64 qm4)).setCell ⟨a, k * 12 + 6, none⟩ (.int .i64 qm5)).setCell ⟨a, k * 12 + 7, none⟩ (.int .i64 qm6)).setCell ⟨a, k * 12 + 8, none⟩ (.int .i64 qm7)).setCell ⟨a, k * 12 + 9, none⟩ (.int .i64 qm8)).setCell ⟨a, k * 12 + 10, none⟩ (.string qt)).setCell ⟨a, k * 12 + 11, none⟩ (.int .u32 qr) := ⟨_, rfl⟩
      rw [← hw5]
      have R5 := Lib.hid (HS.out w5 (1 + m2) hw5)
      clear hw5 HS HR2 HB2 HZ c0 c1 cx0 cx1 cx2 cx3 cx4 cx5 cx6 cx7 cx8 cx9 cx10 cx11 fa0 fa1 fa2 fa3 fa4 fa5 fa6 fa7 fa8 fa9 fa10 fa11 ca0 ca1 ca2 ca3 ca4 ca5 ca6 ca7 ca8 ca9 ca10 ca11
      go_wp2_with fail
      go_roundw
      first
        | (case rel => exact ⟨k + 1, by omega, by go_num, R5.out.1, R5.out.2.1, R5.out.2.2⟩)
        | (case rel => (repeat apply Exists.intro); exact ⟨⟨k + 1, by omega, by go_num, R5.out.1, R5.out.2.1, R5.out.2.2⟩, rfl⟩)
      case measure => simp [intOf]; omega
    · obtain rfl : k = m := by omega
      have e : midT q k = q := by unfold midT; rw [HM.out, Nat.sub_self, List.take_of_length_le (by rw [HM.out]; exact Nat.le_refl _)]; simp
      rw [e] at HB2
      have hF : AllT q w (.returned (.slice (some ⟨a, 0, none⟩) k k)) wr := ⟨a, by rw [HM.out], by have := HA.out; omega, HB2.out, HZ.out⟩
      have HF := Lib.hid hF
      clear hr hb hz e hF
      go_wp2_with fail
      go_ret
      exact HF.out
end Go.Proofs.Ytjkocghbnljifaa
