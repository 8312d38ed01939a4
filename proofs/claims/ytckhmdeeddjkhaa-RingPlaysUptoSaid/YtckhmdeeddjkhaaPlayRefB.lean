/- THE WALKS of the document's ring: Front, Pop; of the law's: sameInts. -/
import Derived.Test.YtckhmdeeddjkhaaPlayRef
namespace Go.Proofs.Ytckhmdeeddjkhaa
open Go.RowKit
theorem rfront_nil (r N : Nat) (A : Option Addr) (c : Nat) (w : World) (h : RF w r N A 0 c []) :
    Calls Try.prog 27 #[.pointer (some ⟨r, 0, none⟩)] w fun e w' => e = .returned (.tuple #[.int .i64 0, .bool false]) ∧ ∃ m, w' = w.drewN m := by
  have c1 : w.cell? ⟨r, 1, none⟩ = some (.slice A 0 c) := h.blk.cell 1
  clear h
  go_enter Try.func27, Try.ntmps27
  go_wp2_with fail
  go_ret2
  exact ⟨rfl, 0, rfl⟩
theorem rfront_cons (r N : Nat) (A : Option Addr) (m c : Nat) (x : Int) (q : List Int) (w : World) (h : RF w r N A m c (x :: q)) :
    Calls Try.prog 27 #[.pointer (some ⟨r, 0, none⟩)] w fun e w' => e = .returned (.tuple #[.int .i64 x, .bool true]) ∧ ∃ m, w' = w.drewN m := by
  have c1 : w.cell? ⟨r, 1, none⟩ = some (.slice A m c) := h.blk.cell 1
  have hm : 0 < m := by have := h.lst.1; simp at this; omega
  have ht : ((m : Int) == 0) = false := by rw [beq_eq_false_iff_ne]; omega
  obtain ⟨b, off, rfl, hb, hc⟩ := h.lst.2 hm
  have cx : w.cell? ⟨b, off, none⟩ = some (.int .i64 x) := hc 0 x rfl
  clear h hc
  go_enter Try.func27, Try.ntmps27
  go_wp2_with fail
  go_ret2
  exact ⟨rfl, 0, rfl⟩
theorem rpop_nil (r N : Nat) (A : Option Addr) (c : Nat) (w : World) (h : RF w r N A 0 c []) :
    Calls Try.prog 25 #[.pointer (some ⟨r, 0, none⟩)] w fun e w' => e = .returned (.tuple #[.int .i64 0, .bool false]) ∧ ∃ m, w' = w.drewN m := by
  have c1 : w.cell? ⟨r, 1, none⟩ = some (.slice A 0 c) := h.blk.cell 1
  clear h
  go_enter Try.func25, Try.ntmps25
  go_wp2_with fail
  go_ret2
  exact ⟨rfl, 0, rfl⟩
def RPopPost (r N m : Nat) (A : Option Addr) (x : Int) (q : List Int) (w : World) (e : Ending) (w' : World) : Prop :=
  e = .returned (.tuple #[.int .i64 x, .bool true]) ∧ ∃ A' c', RF w' r N A' m c' q ∧ Chg (fun k => k = r) w w' ∧ ∀ k, inA m A' k → inA (m + 1) A k
theorem rpop_cons (r N : Nat) (A : Option Addr) (m c : Nat) (x : Int) (q : List Int) (w : World) (h : RF w r N A (m + 1) c (x :: q)) :
    Calls Try.prog 25 #[.pointer (some ⟨r, 0, none⟩)] w (RPopPost r N m A x q w) := by
  have c1 : w.cell? ⟨r, 1, none⟩ = some (.slice A (m + 1) c) := h.blk.cell 1
  have f1 := h.blk.frozen 1
  have hmc := h.mc
  have hmx := h.mx
  have ht : (((m : Int) + 1) == 0) = false := by rw [beq_eq_false_iff_ne]; omega
  obtain ⟨b, off, rfl, hb, hc⟩ := h.lst.2 (Nat.succ_pos _)
  have hbr : b ≠ r := h.ne b (Nat.succ_pos _) _ rfl rfl
  have cx : w.cell? ⟨b, off, none⟩ = some (.int .i64 x) := hc 0 x rfl
  have hlen : q.length = m := by have := h.lst.1; simp at this; omega
  have hF : ∀ (k : Nat) (A' : Option Addr), (0 < m → A' = some ⟨b, off + 1, none⟩) → RPopPost r N m (some ⟨b, off, none⟩) x q w (.returned (.tuple #[.int .i64 x, .bool true])) ((w.drewN k).setCell ⟨r, 1, none⟩ (.slice A' m (c - 1))) := fun k A' hA => by
    have hs : Chg (fun k => k = r) w ((w.drewN k).setCell ⟨r, 1, none⟩ (.slice A' m (c - 1))) := ((Chg.refl (fun k => k = r) w).drewN k).setCell (p := ⟨r, 1, none⟩) (.inl rfl) _
    refine ⟨rfl, A', c - 1, ⟨?_, ⟨hlen, fun hm => ⟨b, off + 1, hA hm, Nat.lt_of_lt_of_le hb hs.size, fun j y hj => ?_⟩⟩, by omega, by omega, fun k hm ad e hk => ?_⟩, hs, fun k ⟨hm, ad, e, hk⟩ => ?_⟩
    · have := (h.blk.drewN k).set_ 1 (.slice A' m (c - 1))
      simpa using this
    · have h1 := hc (j + 1) y (by simpa using hj)
      rw [show off + 1 + j = off + (j + 1) by omega]
      exact (hs.cell (p := ⟨b, off + (j + 1), none⟩) hb hbr).trans h1
    · rw [hA hm] at e
      obtain rfl := Option.some.inj e
      exact hk ▸ hbr
    · rw [hA hm] at e
      obtain rfl := Option.some.inj e
      exact ⟨Nat.succ_pos _, _, rfl, hk⟩
  have HF := Lib.hid hF
  have HLN := Lib.hid hlen
  clear h hc hF hlen
  by_cases h1 : c = 1
  · have hm0 : m = 0 := by omega
    subst h1 hm0
    go_enter Try.func25, Try.ntmps25
    go_wp2_with fail
    go_ret2
    exact HF.out 0 _ (fun h => absurd h (by omega))
  · go_enter Try.func25, Try.ntmps25
    go_wp2_with fail
    go_ret2
    exact HF.out 0 _ (fun _ => rfl)
theorem same_ints (A B : Option Addr) (m ca cb : Nat) (q : List Int) (w : World) (ha : RI w A m q) (hb : RI w B m q) (hM : m ≤ 1000000) (h1 : m ≤ ca) (h2 : m ≤ cb) :
    Calls Try.prog 28 #[.slice A m ca, .slice B m cb] w fun e w' => e = .returned (.bool true) ∧ ∃ k, w' = w.drewN k := by
  have HA := Lib.hid ha; have HB := Lib.hid hb
  clear ha hb
  go_enter Try.func28, Try.ntmps28
  go_wp2_with fail
  go_loopw [13] (fun iv W => ∃ j : Nat, j ≤ m ∧ iv = .int .i64 (j : Int) ∧ ∃ k, W = w.drewN k) (fun iv _ => m - (intOf iv).toNat)
  case atStart => exact ⟨0, Nat.zero_le _, rfl, 0, rfl⟩
  case round =>
    obtain ⟨j, hj, rfl, k, rfl⟩ := hrel
    by_cases hlt : j < m
    · obtain ⟨a, oa, x, rfl, hx, ca⟩ := HA.out.at_ hlt
      obtain ⟨b, ob, y, rfl, hy, cb⟩ := HB.out.at_ hlt
      rw [hx] at hy
      obtain rfl := Option.some.inj hy
      clear hx hy
      go_wp2_with fail
      go_quiet (fail)
      go_wp2_with fail
      go_roundw
      first
        | (case rel => exact ⟨j + 1, by omega, by go_num, _, rfl⟩)
        | (case rel => (repeat apply Exists.intro); exact ⟨⟨j + 1, by omega, by go_num, _, rfl⟩, rfl⟩)
      case measure => simp [intOf]; omega
    · obtain rfl : j = m := by omega
      go_wp2_with fail
      go_ret
      exact ⟨rfl, k, rfl⟩
end Go.Proofs.Ytckhmdeeddjkhaa
