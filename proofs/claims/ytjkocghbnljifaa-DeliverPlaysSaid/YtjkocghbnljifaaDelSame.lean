/- Lists of alerts that are read; an alert's == and !=; sameAlerts (printed by a program of ours). -/
import Derived.Test.YtjkocghbnljifaaDelNew
import Derived.Laws.StructEq
import Derived.Deep.LoopGhost
namespace Go.Proofs.Ytjkocghbnljifaa
open Go.RowKit
theorem neq_al (x : Th) (w : World) : (binOp .neq 44 (.agg x.cells) (.agg x.cells)).run Try.prog w = .ok (.bool false) w := by
  obtain ⟨ap, a0, a1, a2, a3, a4, a5, a6, a7, a8, at_, ar⟩ := x
  unfold Th.cells
  have u3 := Try.underlying3
  have u9 := Try.underlying9
  have hS : Try.prog.underlying 44 = some (.struct (Try.prog.fieldsOf 44)) := by kernel_rfl
  have hp : Try.prog.stoodInHeld 44 = false := by kernel_rfl
  have hS1 : Try.prog.underlying 41 = some (.struct (Try.prog.fieldsOf 41)) := by kernel_rfl
  have hp1 : Try.prog.stoodInHeld 41 = false := by kernel_rfl
  have hS2 : Try.prog.underlying 39 = some (.struct (Try.prog.fieldsOf 39)) := by kernel_rfl
  have hp2 : Try.prog.stoodInHeld 39 = false := by kernel_rfl
  have hM := fun xs ys w => run_equalIn_agg (P := Try.prog) w 9998 41 xs ys hS1 hp1
  have hL := fun xs ys w => run_equalIn_agg (P := Try.prog) w 9997 39 xs ys hS2 hp2
  rw [run_neq_struct, show (10000 : Nat) = 9999 + 1 from rfl, run_equalIn_agg w 9999 44 _ _ hS hp]
  simp only [Program.fieldsOf, Try.underlying44, Try.underlying41, Try.underlying39] at hM hL ⊢
  clear hS hp hS1 hp1 hS2 hp2
  go_simp
theorem eq_al (x : Th) (w : World) : (binOp .eql 44 (.agg x.cells) (.agg x.cells)).run Try.prog w = .ok (.bool true) w := by
  obtain ⟨ap, a0, a1, a2, a3, a4, a5, a6, a7, a8, at_, ar⟩ := x
  unfold Th.cells
  have u3 := Try.underlying3
  have u9 := Try.underlying9
  have hS : Try.prog.underlying 44 = some (.struct (Try.prog.fieldsOf 44)) := by kernel_rfl
  have hp : Try.prog.stoodInHeld 44 = false := by kernel_rfl
  have hS1 : Try.prog.underlying 41 = some (.struct (Try.prog.fieldsOf 41)) := by kernel_rfl
  have hp1 : Try.prog.stoodInHeld 41 = false := by kernel_rfl
  have hS2 : Try.prog.underlying 39 = some (.struct (Try.prog.fieldsOf 39)) := by kernel_rfl
  have hp2 : Try.prog.stoodInHeld 39 = false := by kernel_rfl
  have hM := fun xs ys w => run_equalIn_agg (P := Try.prog) w 9998 41 xs ys hS1 hp1
  have hL := fun xs ys w => run_equalIn_agg (P := Try.prog) w 9997 39 xs ys hS2 hp2
  rw [run_eql_struct, show (10000 : Nat) = 9999 + 1 from rfl, run_equalIn_agg w 9999 44 _ _ hS hp]
  simp only [Program.fieldsOf, Try.underlying44, Try.underlying41, Try.underlying39] at hM hL ⊢
  clear hS hp hS1 hp1 hS2 hp2
  go_simp
theorem guard_al : Try.prog.eqGuardType Try.prog.depth 44 = false := by kernel_rfl
/-- the slice (A, n, _) holds q -/
def AS (w : World) (A : Option Addr) (n : Nat) (q : List Th) : Prop :=
  q.length = n ∧ ∀ (j : Nat) (x : Th), q[j]? = some x → ∃ g off, A = some ⟨g, off, none⟩ ∧ g < w.heap.size ∧ ∀ i u, x.cells[i]? = some u → w.cell? ⟨g, off + j * 12 + i, none⟩ = some u
theorem AS.keep {w w' : World} {A : Option Addr} {n : Nat} {q : List Th} (h : AS w A n q) (hb : Below w.heap.size w w') : AS w' A n q :=
  ⟨h.1, fun j x hj => by
    obtain ⟨g, off, e, hlt, hc⟩ := h.2 j x hj
    exact ⟨g, off, e, Nat.lt_of_lt_of_le hlt hb.size, fun i u hu => (hb.cell (p := ⟨g, _, none⟩) hlt).trans (hc i u hu)⟩⟩
theorem AS.of_blk {w : World} {a : Nat} {q : List Th} (h : Blk w a 44 (flatE Th.cells q).toArray) : AS w (some ⟨a, 0, none⟩) q.length q :=
  ⟨rfl, fun j x hj => ⟨a, 0, rfl, h.lt, fun i u hu => by
    rw [h.cell, Nat.zero_add]
    simpa using flatE_at th_size q hj hu⟩⟩
theorem AS.at_ {w : World} {A : Option Addr} {n : Nat} {q : List Th} (h : AS w A n q) {j : Nat} {x : Th} (hj : q[j]? = some x) : ∃ g off, A = some ⟨g, off, none⟩ ∧ g < w.heap.size ∧ w.cell? ⟨g, off + j * 12, none⟩ = some (.int .i64 x.p) ∧ w.cell? ⟨g, off + j * 12 + 1, none⟩ = some (.int .i64 x.m0) ∧ w.cell? ⟨g, off + j * 12 + 2, none⟩ = some (.int .i64 x.m1) ∧ w.cell? ⟨g, off + j * 12 + 3, none⟩ = some (.int .i64 x.m2) ∧ w.cell? ⟨g, off + j * 12 + 4, none⟩ = some (.int .i64 x.m3) ∧ w.cell? ⟨g, off + j * 12 + 5, none⟩ = some (.int .i64 x.m4) ∧ w.cell? ⟨g, off + j * 12 + 6, none⟩ = some (.int .i64 x.m5) ∧ w.cell? ⟨g, off + j * 12 + 7, none⟩ = some (.int .i64 x.m6) ∧ w.cell? ⟨g, off + j * 12 + 8, none⟩ = some (.int .i64 x.m7) ∧ w.cell? ⟨g, off + j * 12 + 9, none⟩ = some (.int .i64 x.m8) ∧ w.cell? ⟨g, off + j * 12 + 10, none⟩ = some (.string x.t) ∧ w.cell? ⟨g, off + j * 12 + 11, none⟩ = some (.int .u32 x.r) := by
  obtain ⟨g, off, e, hlt, hc⟩ := h.2 j x hj
  exact ⟨g, off, e, hlt, hc 0 _ rfl, hc 1 _ rfl, hc 2 _ rfl, hc 3 _ rfl, hc 4 _ rfl, hc 5 _ rfl, hc 6 _ rfl, hc 7 _ rfl, hc 8 _ rfl, hc 9 _ rfl, hc 10 _ rfl, hc 11 _ rfl⟩
def SameP (w : World) (e : Ending) (w' : World) : Prop := e = .returned (.bool true) ∧ ∃ m, w' = w.drewN m
set_option maxRecDepth 100000 in
set_option maxHeartbeats 4000000 in
theorem same_al (A A' : Option Addr) (n c c' : Nat) (q : List Th) (w : World) (h : AS w A n q) (h' : AS w A' n q) (hn : n ≤ 1048576) (hc : n ≤ c) (hc' : n ≤ c') :
    Calls Try.prog 11 #[.slice A n c, .slice A' n c'] w (SameP w) := by
  have HL := Lib.hid h; have HL' := Lib.hid h'
  have hql := Lib.hid h.1
  clear h h'
  go_enter Try.func11, Try.ntmps11
  go_wp2_with fail
  go_loopw [5] (fun iv W => ∃ k : Nat, k ≤ n ∧ iv = .int .i64 (k : Int) ∧ ∃ m, W = w.drewN m) (fun iv _ => n - (intOf iv).toNat)
  case atStart => exact ⟨0, Nat.zero_le _, rfl, 0, rfl⟩
  case round =>
    obtain ⟨k, hk, rfl, md, rfl⟩ := hrel
    by_cases hlt : k < n
    · obtain ⟨x, hx⟩ : ∃ x, q[k]? = some x := ⟨_, List.getElem?_eq_getElem (by rw [hql.out]; exact hlt)⟩
      obtain ⟨bb, off, rfl, hbb, c0, c1, c2, c3, c4, c5, c6, c7, c8, c9, c10, c11⟩ := HL.out.at_ hx
      obtain ⟨bb', off', rfl, hbb', d0, d1, d2, d3, d4, d5, d6, d7, d8, d9, d10, d11⟩ := HL'.out.at_ hx
      clear hx
      have hq := guard_al
      have he := neq_al x
      unfold Th.cells at he
      obtain ⟨ap, a0, a1, a2, a3, a4, a5, a6, a7, a8, at_, ar⟩ := x
      simp only at he c0 c1 c2 c3 c4 c5 c6 c7 c8 c9 c10 c11 d0 d1 d2 d3 d4 d5 d6 d7 d8 d9 d10 d11
      go_upto_region 6 with fail
      go_quiet (fail)
      go_wp2_with fail
      go_roundw
      case rel => exact ⟨k + 1, by omega, by go_num, _, rfl⟩
      case measure => simp [intOf]; omega
    · obtain rfl : k = n := by omega
      go_wp2_with fail
      go_ret
      exact ⟨rfl, _, rfl⟩
end Go.Proofs.Ytjkocghbnljifaa
