/- THE WALK of a ring's All, of things. -/
import Derived.Test.YtckhmdeeddjkhaaRingThing
namespace Go.Proofs.Ytckhmdeeddjkhaa
open Go.RowKit
def AllT (q : List Th) (w : World) (e : Ending) (w' : World) : Prop :=
  ∃ a, e = .returned (.slice (some ⟨a, 0, none⟩) q.length q.length) ∧ w.heap.size ≤ a ∧ Blk w' a 47 (flatE Th.cells q).toArray ∧ Below w.heap.size w w'
def midT (q : List Th) (k : Nat) : List Th := q.take k ++ List.replicate (q.length - k) th0
theorem midT_at (q : List Th) {k : Nat} (hk : k < q.length) : (midT q k)[k]? = some th0 := by
  unfold midT
  rw [List.getElem?_append_right (by rw [List.length_take]; omega), List.length_take, Nat.min_eq_left (by omega), Nat.sub_self, List.getElem?_replicate, if_pos (by omega)]
theorem midT_set (q : List Th) {k : Nat} {x : Th} (hx : q[k]? = some x) : (midT q k).set k x = midT q (k + 1) := by
  have hk := (List.getElem?_eq_some_iff.1 hx).1
  unfold midT
  rw [List.set_append_right _ _ (by rw [List.length_take]; omega), List.length_take, Nat.min_eq_left (by omega), Nat.sub_self, show q.length - k = (q.length - (k + 1)) + 1 from by omega, List.replicate_succ, List.set_cons_zero, take_snoc hx, List.append_assoc]
  rfl
set_option maxRecDepth 100000 in
set_option maxHeartbeats 2000000 in
theorem allT_any (g p n f : Nat) (xs q : List Th) (w : World) (h : RT w g p n f xs q) :
    Calls Try.prog 18 #[.pointer (some ⟨g, 0, none⟩)] w (AllT q w) := by
  have c2 : w.cell? ⟨g, 2, none⟩ = some (.int .i64 (q.length : Int)) := h.blk.cell 2
  have hmk := run_make_ths q.length (by have := h.hq; have := h.hn; omega)
  have hgl := h.blk.lt; have hpl := h.arr.lt
  have hfn := h.hf; have hn := h.hn; have hqn := h.hq
  have hB : Blk (w.alloc (.cells (flatE Th.cells (List.replicate q.length th0)).toArray 47)) w.heap.size 47 (flatE Th.cells (midT q 0)).toArray := by
    have e : midT q 0 = List.replicate q.length th0 := by unfold midT; simp
    rw [e]
    exact Blk.new w _ _ rfl
  have hR : RT (w.alloc (.cells (flatE Th.cells (List.replicate q.length th0)).toArray 47)) g p n f xs q := h.keep ((Below.refl _ _).alloc (Nat.le_refl _) _)
  have HB := Lib.hid hB; have HR := Lib.hid hR
  clear hB hR h
  obtain ⟨a, ha⟩ : ∃ a, a = w.heap.size := ⟨_, rfl⟩
  generalize hm : q.length = m at *
  have HM := Lib.hid hm; clear hm
  go_enter Try.func18, Try.ntmps18
  go_wp2_with fail
  rw [← ha] at HB ⊢
  have HA := Lib.hid ha
  have hga : g ≠ a := by omega
  have hpa : p ≠ a := by omega
  have hag : a ≠ g := by omega
  have hap : a ≠ p := by omega
  clear ha hmk c2
  go_loopw [12] (fun iv W => ∃ k : Nat, k ≤ m ∧ iv = .int .i64 (k : Int) ∧ RT W g p n f xs q ∧ Blk W a 47 (flatE Th.cells (midT q k)).toArray ∧ Below w.heap.size w W) (fun iv _ => m - (intOf iv).toNat)
  case atStart => exact ⟨0, Nat.zero_le _, rfl, HR.out, HB.out, (Below.refl _ _).alloc (Nat.le_refl _) _⟩
  case round =>
    obtain ⟨k, hk, rfl, hr, hb, hz⟩ := hrel
    have HR2 := Lib.hid hr; have HB2 := Lib.hid hb; have HZ := Lib.hid hz
    by_cases hlt : k < m
    · have hqk : q[k]? = some (q[k]'(by have := HM.out; omega)) := List.getElem?_eq_getElem _
      obtain ⟨x, hx⟩ : ∃ x, x = q[k]'(by have := HM.out; omega) := ⟨_, rfl⟩
      rw [← hx] at hqk
      obtain ⟨j, hj⟩ : ∃ j, j = (f + k) % n := ⟨_, rfl⟩
      have hjn : j < n := by rw [hj]; exact Nat.mod_lt _ (by omega)
      have hxj := hr.at_ k x hqk
      rw [← hj] at hxj
      have cx0 := hr.cell0 hxj
      have cx1 := hr.cell1 hxj
      have c0 : wr.cell? ⟨g, 0, none⟩ = some (.slice (some ⟨p, 0, none⟩) n n) := hr.blk.cell 0
      have c1 : wr.cell? ⟨g, 1, none⟩ = some (.int .i64 (f : Int)) := hr.blk.cell 1
      have fa0 := hb.frozen (k * 2)
      have fa1 := hb.frozen (k * 2 + 1)
      have hma := midT_at q (k := k) (by rw [HM.out]; exact hlt)
      have ca0 : wr.cell? ⟨a, k * 2, none⟩ = some (.string ByteArray.empty) := by
        rw [hb.cell, List.getElem?_toArray]
        exact flatE_at th_size _ hma (i := 0) rfl
      have ca1 : wr.cell? ⟨a, k * 2 + 1, none⟩ = some (.int .i64 0) := by
        rw [hb.cell, List.getElem?_toArray]
        exact flatE_at th_size _ hma (i := 1) rfl
      have HJ := Lib.hid hj; have HQ := Lib.hid hqk; have HMA := Lib.hid hma
      have hset : ∀ m' : Nat, RT (((wr.drewN m').setCell ⟨a, k * 2, none⟩ (.string x.s)).setCell ⟨a, k * 2 + 1, none⟩ (.int .i64 x.n)) g p n f xs q ∧ Blk (((wr.drewN m').setCell ⟨a, k * 2, none⟩ (.string x.s)).setCell ⟨a, k * 2 + 1, none⟩ (.int .i64 x.n)) a 47 (flatE Th.cells (midT q (k + 1))).toArray ∧ Below w.heap.size w (((wr.drewN m').setCell ⟨a, k * 2, none⟩ (.string x.s)).setCell ⟨a, k * 2 + 1, none⟩ (.int .i64 x.n)) := fun m' => by
        refine ⟨HR2.out.chg ((((Chg.refl (fun k => k = a) wr).drewN m').setCell (p := ⟨a, k * 2, none⟩) (.inl rfl) _).setCell (p := ⟨a, k * 2 + 1, none⟩) (.inl rfl) _) hga hpa, ?_, ((below_drewN HZ.out m').setCell (p := ⟨a, k * 2, none⟩) (by have := HA.out; show w.heap.size ≤ a; omega) _).setCell (p := ⟨a, k * 2 + 1, none⟩) (by have := HA.out; show w.heap.size ≤ a; omega) _⟩
        have := ((HB2.out.drewN m').set_ (k * 2) (.string x.s)).set_ (k * 2 + 1) (.int .i64 x.n)
        rw [List.setIfInBounds_toArray, List.setIfInBounds_toArray, flatE_set2 th_size _ HMA.out x rfl, midT_set q HQ.out] at this
        exact this
      have HS := Lib.hid hset
      clear hr hb hz hx hxj hj hqk hset hma
      go_upto_region 5 with fail
      go_region_held3 (fun w' => w'.cell? ⟨g, 0, none⟩ = some (.slice (some ⟨p, 0, none⟩) n n) ∧ w'.cell? ⟨g, 1, none⟩ = some (.int .i64 (f : Int)) ∧ w'.cell? ⟨p, j * 2, none⟩ = some (.string x.s) ∧ w'.cell? ⟨p, j * 2 + 1, none⟩ = some (.int .i64 x.n)) (go_keep)
        (first | (go_at_call 30; refine (atT_any g p n f k j _ (by go_keep) (by go_keep) (by omega) (by omega) (by omega) HJ.out).mono ?_; rintro e w' ⟨rfl, m2, rfl⟩))
      go_wp2_with fail
      go_roundw
      case rel => exact ⟨k + 1, by omega, by go_num, (HS.out _).1, (HS.out _).2.1, (HS.out _).2.2⟩
      case measure => simp [intOf]; omega
    · obtain rfl : k = m := by omega
      have e : midT q k = q := by unfold midT; rw [HM.out, Nat.sub_self, List.take_of_length_le (by rw [HM.out]; exact Nat.le_refl _)]; simp
      rw [e] at HB2
      have hF : AllT q w (.returned (.slice (some ⟨a, 0, none⟩) k k)) wr := ⟨a, by rw [HM.out], by have := HA.out; omega, HB2.out, HZ.out⟩
      have HF := Lib.hid hF
      clear hr hb hz e hF
      go_wp2_with fail
      go_ret
      exact HF.out
end Go.Proofs.Ytckhmdeeddjkhaa
