/- THE WALK of watch.send, where nothing is sent (printed by a program of ours). -/
import Derived.Test.YtjkocghbnljifaaDelWant
import Derived.Test.YtjkocghbnljifaaDelAns
namespace Go.Proofs.Ytjkocghbnljifaa
open Go.RowKit
def WNo (w : World) (e : Ending) (w' : World) : Prop := e = .returned (.bool true) ∧ Below w.heap.size w w'
set_option maxRecDepth 100000 in
set_option maxHeartbeats 4000000 in
theorem wsend_no (B d g p N f ba mo ji re wt v m c tk : Nat) (xs q pl : List Th) (se : Bool) (A : Option Addr) (tr : Int) (now : Nat) (w : World) (h : DS B w d g p N f xs q ba mo ji se re wt v A m c pl tk tr)
    (hno : q = [] ∨ (q ≠ [] ∧ se = true) ∨ (q ≠ [] ∧ se = false ∧ now < wt)) (hnow : now ≤ 2305843009213693952) :
    Calls Try.prog 16 #[.pointer (some ⟨v, 0, none⟩), .pointer (some ⟨d, 0, none⟩), .int .i64 (now : Int)] w (WNo w) := by
  have CS : Hid (Calls Try.prog 18 #[.pointer (some ⟨d, 0, none⟩), .int .i64 (now : Int)] w (SendNo w)) := Lib.hid (by
    rcases hno with rfl | ⟨hq, rfl⟩ | ⟨hq, rfl, hlt⟩
    · exact send_nil d g p N f ba mo ji xs se re wt now w h.dv
    · obtain ⟨x, q', rfl⟩ := List.exists_cons_of_ne_nil hq
      exact send_sent d g p N f ba mo ji xs q' x re wt now w h.dv
    · obtain ⟨x, q', rfl⟩ := List.exists_cons_of_ne_nil hq
      exact send_early d g p N f ba mo ji xs q' x re wt now w h.dv (by unfold tmC; omega))
  have HM : Hid ((tk = m) ∨ (tk < m ∧ se = true) ∨ (tk < m ∧ se = false ∧ now < wt)) := Lib.hid (by
    have hl := h.len; have := h.htk
    rcases hno with rfl | ⟨hq, rfl⟩ | ⟨hq, rfl, hlt⟩
    · left; simp at hl; omega
    · right; left; have := List.length_pos_iff.2 hq; exact ⟨by omega, rfl⟩
    · right; right; have := List.length_pos_iff.2 hq; exact ⟨by omega, rfl, hlt⟩)
  have HD := Lib.hid h
  have hmx : Hid (m ≤ 9223372036854775807) := Lib.hid (by have h1 := h.al.2.1; have h2 := h.al.2.2.1; simp only [maxLen] at h2; omega)
  clear h hno
  go_enter Try.func16, Try.ntmps16
  go_wp2_with fail
  refine CS.out.mono ?_
  rintro e w1 ⟨rfl, hb1⟩
  have H1 := Lib.hid (HD.out.keep hb1)
  have C1 := Lib.hid hb1
  clear hb1 CS HD
  simp only [th0, Th.cells]
  go_upto_region 2 with fail
  obtain ⟨w2, hw2⟩ : ∃ w2, w2 = w1.alloc (.cells #[.int .i64 0, .int .i64 0, .int .i64 0, .int .i64 0, .int .i64 0, .int .i64 0, .int .i64 0, .int .i64 0, .int .i64 0, .int .i64 0, .string ByteArray.empty, .int .u32 0] 44) := ⟨_, rfl⟩
  obtain ⟨b, hb⟩ : ∃ b, b = w1.heap.size := ⟨_, rfl⟩
  rw [← hw2, ← hb]
  have hbb : Below w1.heap.size w1 w2 := by rw [hw2]; exact (Below.refl _ _).alloc (Nat.le_refl _) _
  have K2 : Blk w2 b 44 th0.cells := by rw [hw2, hb]; exact Blk.new w1 _ _ rfl
  have H2 := Lib.hid (H1.out.keep hbb)
  have C2 : Hid (Below w.heap.size w w2) := Lib.hid (C1.out.trans (hbb.mono C1.out.size))
  clear hw2 hb hbb C1 H1
  have v4 : w2.cell? ⟨v, 4, none⟩ = some (.slice A m c) := H2.out.wv.cell 4
  have v5 : w2.cell? ⟨v, 5, none⟩ = some (.int .i64 (tk : Int)) := H2.out.wv.cell 5
  have v6 : w2.cell? ⟨v, 6, none⟩ = some (.bool se) := H2.out.wv.cell 6
  have v8 : w2.cell? ⟨v, 8, none⟩ = some (.int .i64 (wt : Int)) := H2.out.wv.cell 8
  have k0 : w2.cell? ⟨b, 0, none⟩ = some (.int .i64 0) := K2.cell 0
  have k1 : w2.cell? ⟨b, 1, none⟩ = some (.int .i64 0) := K2.cell 1
  have k2 : w2.cell? ⟨b, 2, none⟩ = some (.int .i64 0) := K2.cell 2
  have k3 : w2.cell? ⟨b, 3, none⟩ = some (.int .i64 0) := K2.cell 3
  have k4 : w2.cell? ⟨b, 4, none⟩ = some (.int .i64 0) := K2.cell 4
  have k5 : w2.cell? ⟨b, 5, none⟩ = some (.int .i64 0) := K2.cell 5
  have k6 : w2.cell? ⟨b, 6, none⟩ = some (.int .i64 0) := K2.cell 6
  have k7 : w2.cell? ⟨b, 7, none⟩ = some (.int .i64 0) := K2.cell 7
  have k8 : w2.cell? ⟨b, 8, none⟩ = some (.int .i64 0) := K2.cell 8
  have k9 : w2.cell? ⟨b, 9, none⟩ = some (.int .i64 0) := K2.cell 9
  have k10 : w2.cell? ⟨b, 10, none⟩ = some (.string ByteArray.empty) := K2.cell 10
  have k11 : w2.cell? ⟨b, 11, none⟩ = some (.int .u32 0) := K2.cell 11
  clear K2 H2
  go_cut [10] (fun s wx => s = .bool false ∧ ∃ md, wx = w2.drewN md)
  case first =>
    rcases HM.out with h1 | ⟨h1, rfl⟩ | ⟨h1, rfl, h2⟩
    · subst h1
      go_quiet (fail)
      go_wp2_with fail
      go_meet
      exact ⟨rfl, _, rfl⟩
    · have t1 : decide ((tk : Int) < (m : Int)) = true := decide_eq_true (by omega)
      go_quiet (fail)
      go_wp2_with fail
      go_meet
      exact ⟨rfl, _, rfl⟩
    · have t1 : decide ((tk : Int) < (m : Int)) = true := decide_eq_true (by omega)
      have t2 : ¬ wt ≤ now := by omega
      go_quiet (fail)
      go_wp2_with fail
      go_meet
      exact ⟨rfl, _, rfl⟩
  case rest =>
    obtain ⟨rfl, md, rfl⟩ := hcut
    have hq := guard_al
    have he := eq_al th0
    simp only [th0, Th.cells] at he
    go_wp2_with fail
    go_ret
    exact ⟨rfl, below_drewN C2.out _⟩
end Go.Proofs.Ytjkocghbnljifaa
