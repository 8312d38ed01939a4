/- THE WALK of a ring's All: a list of the call's own. -/
import Derived.Test.YtckhmdeeddjkhaaRingWalk
namespace Go.Proofs.Ytckhmdeeddjkhaa
open Go.RowKit
def AllPost (q : List Int) (w : World) (e : Ending) (w' : World) : Prop :=
  ∃ a, e = .returned (.slice (some ⟨a, 0, none⟩) q.length q.length) ∧ w.heap.size ≤ a ∧ Blk w' a 3 (q.map intV).toArray ∧ Below w.heap.size w w'
theorem int_set (q : List Int) (k : Nat) (x : Int) (hx : q[k]? = some x) : (((q.take k).map intV ++ List.replicate (q.length - k) (intV 0)).toArray).setIfInBounds k (.int .i64 x) = ((q.take (k + 1)).map intV ++ List.replicate (q.length - (k + 1)) (intV 0)).toArray := by
  have hk := (List.getElem?_eq_some_iff.1 hx).1
  have e : q.length - k = (q.length - (k + 1)) + 1 := by omega
  rw [e, List.replicate_succ, take_snoc hx, List.setIfInBounds_toArray, List.set_append_right _ _ (by simp; omega)]
  have h0 : k - ((q.take k).map intV).length = 0 := by simp; omega
  rw [h0, List.set_cons_zero]
  simp [intV]
theorem all_any (g p n f : Nat) (xs q : List Int) (w : World) (h : RG w g p n f xs q) :
    Calls Try.prog 23 #[.pointer (some ⟨g, 0, none⟩)] w (AllPost q w) := by
  have c2 : w.cell? ⟨g, 2, none⟩ = some (.int .i64 (q.length : Int)) := h.blk.cell 2
  have hmk := run_make_ints q.length (by have := h.hq; have := h.hn; omega)
  have hgl := h.blk.lt; have hpl := h.arr.lt
  have hfn := h.hf; have hn := h.hn; have hqn := h.hq
  have hB : Blk (w.alloc (.cells (madeCells #[.int .i64 0] q.length) 3)) w.heap.size 3 ((q.take 0).map intV ++ List.replicate (q.length - 0) (intV 0)).toArray := by
    have e : (madeCells #[.int .i64 0] q.length) = ((q.take 0).map intV ++ List.replicate (q.length - 0) (intV 0)).toArray := by
      rw [List.take_zero, List.map_nil, List.nil_append, Nat.sub_zero, ← toList_madeCells_one]; simp [intV]
    rw [← e]
    exact Blk.new w _ _ rfl
  have hR : RG (w.alloc (.cells (madeCells #[.int .i64 0] q.length) 3)) g p n f xs q := h.chg ((Chg.refl (fun _ => False) w).alloc _) id id
  have HB := Lib.hid hB; have HR := Lib.hid hR
  clear hB hR h
  obtain ⟨a, ha⟩ : ∃ a, a = w.heap.size := ⟨_, rfl⟩
  generalize hm : q.length = m at *
  have HM := Lib.hid hm; clear hm
  go_enter Try.func23, Try.ntmps23
  go_wp2_with fail
  rw [← ha] at HB ⊢
  have HA := Lib.hid ha
  have hga : g ≠ a := by omega
  have hpa : p ≠ a := by omega
  have hag : a ≠ g := by omega
  have hap : a ≠ p := by omega
  clear ha hmk c2
  go_loopw [12] (fun iv W => ∃ k : Nat, k ≤ m ∧ iv = .int .i64 (k : Int) ∧ RG W g p n f xs q ∧ Blk W a 3 ((q.take k).map intV ++ List.replicate (m - k) (intV 0)).toArray ∧ Below w.heap.size w W) (fun iv _ => m - (intOf iv).toNat)
  case atStart => exact ⟨0, Nat.zero_le _, rfl, HR.out, HB.out, (Below.refl _ _).alloc (Nat.le_refl _) _⟩
  case round =>
    obtain ⟨k, hk, rfl, hr, hb, hz⟩ := hrel
    have HR2 := Lib.hid hr; have HB2 := Lib.hid hb; have HZ := Lib.hid hz
    by_cases hlt : k < m
    · have hqk : q[k]? = some (q[k]'(by have := HM.out; omega)) := List.getElem?_eq_getElem _
      obtain ⟨x, hx⟩ : ∃ x, x = q[k]'(by have := HM.out; omega) := ⟨_, rfl⟩
      rw [← hx] at hqk
      obtain ⟨j, hj⟩ : ∃ j, j = (f + k) % n := ⟨_, rfl⟩
      have hjn : j < n := by rw [hj]; exact Nat.mod_lt _ (by omega)
      have hxj := hr.at_ k x hqk
      rw [← hj] at hxj
      have cx := hr.cell hxj
      have c0 : wr.cell? ⟨g, 0, none⟩ = some (.slice (some ⟨p, 0, none⟩) n n) := hr.blk.cell 0
      have c1 : wr.cell? ⟨g, 1, none⟩ = some (.int .i64 (f : Int)) := hr.blk.cell 1
      have fa := hb.frozen k
      have ca : ∃ o, wr.cell? ⟨a, k, none⟩ = some o := by
        rw [hb.cell k]
        have : k < ((q.take k).map intV ++ List.replicate (m - k) (intV 0)).toArray.size := by have := HM.out; simp; omega
        exact ⟨_, Array.getElem?_eq_getElem this⟩
      obtain ⟨o, ca⟩ := ca
      have HJ := Lib.hid hj; have HQ := Lib.hid hqk
      have hset : ∀ m' : Nat, RG ((wr.drewN m').setCell ⟨a, k, none⟩ (.int .i64 x)) g p n f xs q ∧ Blk ((wr.drewN m').setCell ⟨a, k, none⟩ (.int .i64 x)) a 3 ((q.take (k + 1)).map intV ++ List.replicate (m - (k + 1)) (intV 0)).toArray ∧ Below w.heap.size w ((wr.drewN m').setCell ⟨a, k, none⟩ (.int .i64 x)) := fun m' => by
        refine ⟨HR2.out.chg (((Chg.refl (fun k => k = a) wr).drewN m').setCell (p := ⟨a, k, none⟩) (.inl rfl) _) hga hpa, ?_, (below_drewN HZ.out m').setCell (p := ⟨a, k, none⟩) (by have := HA.out; show w.heap.size ≤ a; omega) _⟩
        have := (HB2.out.drewN m').set_ k (.int .i64 x)
        rw [← HM.out] at this ⊢
        rwa [int_set q k x HQ.out] at this
      have HS := Lib.hid hset
      clear hr hb hz hx hxj hj hqk hset
      go_upto_region 5 with fail
      go_region_held3 (fun w' => w'.cell? ⟨g, 0, none⟩ = some (.slice (some ⟨p, 0, none⟩) n n) ∧ w'.cell? ⟨g, 1, none⟩ = some (.int .i64 (f : Int)) ∧ w'.cell? ⟨p, j, none⟩ = some (.int .i64 x)) (go_keep)
        (first | (go_at_call 31; refine (at_any g p n f k j _ (by go_keep) (by go_keep) (by omega) (by omega) (by omega) HJ.out).mono ?_; rintro e w' ⟨rfl, m2, rfl⟩))
      go_wp2_with fail
      go_roundw
      case rel => exact ⟨k + 1, by omega, by go_num, (HS.out _).1, (HS.out _).2.1, (HS.out _).2.2⟩
      case measure => simp [intOf]; omega
    · obtain rfl : k = m := by omega
      have e : ((q.take k).map intV ++ List.replicate (k - k) (intV 0)).toArray = (q.map intV).toArray := by
        rw [Nat.sub_self, List.take_of_length_le (by have := HM.out; omega)]; simp
      rw [e] at HB2
      have hF : AllPost q w (.returned (.slice (some ⟨a, 0, none⟩) k k)) wr := ⟨a, by rw [HM.out], by have := HA.out; omega, HB2.out, HZ.out⟩
      have HF := Lib.hid hF
      clear hr hb hz e hF
      go_wp2_with fail
      go_ret
      exact HF.out
end Go.Proofs.Ytckhmdeeddjkhaa
