/- THE WALK of ahead (package heronlaw17). -/
import Derived.Test.YtlojmmcagglpoaaZFwAsk
namespace Go.Proofs.Ytlojmmcagglpoaa
open Go.RowKit Go.Maps
def aheadM (a b : FwS) : Prop := a.se < b.se ∨ (a.se = b.se ∧ (a.ge < b.ge ∨ (a.ge = b.ge ∧ a.off < b.off)))
set_option maxRecDepth 20000 in
theorem ahead17 (W : World) (a b : FwS) (hab : aheadM a b) : Calls Try.prog 33 #[.agg a.mark, .agg b.mark] W fun e w' => e = .returned (.bool true) ∧ Below W.heap.size W w' := by
  obtain ⟨w1, hw1⟩ : ∃ w1, w1 = W.alloc (.cells a.mark 37) := ⟨_, rfl⟩
  obtain ⟨g, hg⟩ : ∃ g, g = W.heap.size := ⟨_, rfl⟩
  obtain ⟨w2, hw2⟩ : ∃ w2, w2 = w1.alloc (.cells b.mark 37) := ⟨_, rfl⟩
  obtain ⟨q, hq⟩ : ∃ q, q = W.heap.size + 1 := ⟨_, rfl⟩
  have B1 : Below W.heap.size W w1 := by rw [hw1]; exact (Below.refl _ _).alloc (Nat.le_refl _) _
  have BL : Hid (Below W.heap.size W w2) := Lib.hid (by rw [hw2]; exact B1.alloc B1.size _)
  have K1 : Blk w1 g 37 a.mark := by rw [hw1]; exact Blk.new W _ _ hg
  have K1' : Blk w2 g 37 a.mark := by rw [hw2]; exact K1.alloc _
  have K2 : Blk w2 q 37 b.mark := by rw [hw2]; exact Blk.new w1 _ _ (by rw [hq, hw1]; simp)
  have a0 : w2.cell? ⟨g, 0, none⟩ = some (.int .i64 a.se) := (K1'.cell 0).trans rfl
  have a2 : w2.cell? ⟨g, 2, none⟩ = some (.int .i64 a.ge) := (K1'.cell 2).trans rfl
  have a3 : w2.cell? ⟨g, 3, none⟩ = some (.int .i64 a.off) := (K1'.cell 3).trans rfl
  have b0 : w2.cell? ⟨q, 0, none⟩ = some (.int .i64 b.se) := (K2.cell 0).trans rfl
  have b2 : w2.cell? ⟨q, 2, none⟩ = some (.int .i64 b.ge) := (K2.cell 2).trans rfl
  have b3 : w2.cell? ⟨q, 3, none⟩ = some (.int .i64 b.off) := (K2.cell 3).trans rfl
  unfold FwS.mark at hw1 hw2 ⊢
  clear B1 K1 K1' K2
  go_enter Try.func33, Try.ntmps33
  go_upto_region 1 with fail
  rw [← hw1, ← hw2]
  rw [← hq, ← hg]
  clear hw1 hw2 hg hq
  rcases hab with h | ⟨h, h2 | ⟨h2, h3⟩⟩
  · have hne : (a.se == b.se) = false := by rw [beq_eq_false_iff_ne]; omega
    go_wp2_with fail
    go_ret
    exact ⟨by simp [], BL.out⟩
  · rw [h] at a0
    have hne : (a.ge == b.ge) = false := by rw [beq_eq_false_iff_ne]; omega
    go_wp2_with fail
    go_ret
    exact ⟨by simp [], BL.out⟩
  · rw [h] at a0
    rw [h2] at a2
    go_wp2_with fail
    go_ret
    exact ⟨by simp [], BL.out⟩
end Go.Proofs.Ytlojmmcagglpoaa
