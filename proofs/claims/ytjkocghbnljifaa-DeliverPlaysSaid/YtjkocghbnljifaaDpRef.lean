/- THE WALKS of the document's deliverer (printed by a program of ours). -/
import Derived.Test.YtjkocghbnljifaaDelAny
import Derived.Deep.DrawnRows
import Derived.Deep.RegionLaw
import Derived.Deep.CutBlock
namespace Go.Proofs.Ytjkocghbnljifaa
open Go.RowKit
attribute [local go_sem ↓] Go.wp_at_zero Go.wp_at_succ
structure RV (w : World) (B r : Nat) (A : Option Addr) (m c : Nat) (q : List Th) (N ba mo ji : Nat) (se : Bool) (re wt : Int) : Prop where
  blk : Blk w r 50 #[.slice A m c, .int .i64 (N : Int), .int .i64 (ba : Int), .int .i64 (mo : Int), .int .i64 (ji : Int), .bool se, .int .i64 re, .int .i64 wt]
  al : AW w B A m c q
  ar : ∀ k, inB A k → k ≠ r
theorem RV.keep {w w' : World} {B r : Nat} {A : Option Addr} {m c : Nat} {q : List Th} {N ba mo ji : Nat} {se : Bool} {re wt : Int} (h : RV w B r A m c q N ba mo ji se re wt) (hb : Below w.heap.size w w') : RV w' B r A m c q N ba mo ji se re wt := ⟨h.blk.keep hb, h.al.keep hb, h.ar⟩
theorem RV.chg {S : Nat → Prop} {w w' : World} {B r : Nat} {A : Option Addr} {m c : Nat} {q : List Th} {N ba mo ji : Nat} {se : Bool} {re wt : Int} (h : RV w B r A m c q N ba mo ji se re wt) (hc : Chg S w w') (hr : ¬ S r) (hA : ∀ k, inB A k → ¬ S k) : RV w' B r A m c q N ba mo ji se re wt := ⟨h.blk.chg hc hr, h.al.chg hc hA, h.ar⟩
def rF (r : Nat) (A : Option Addr) : Nat → Prop := fun k => k = r ∨ inB A k
theorem rtime_any (x : Int) (w : World) : Calls Try.prog 31 #[.int .i64 x] w fun e w' => e = .returned (.int .i64 (tmC x)) ∧ w = w' := by
  have hT : tmC x = max 0 (min x 2305843009213693952) := by unfold tmC; omega
  rw [hT]
  go_enter Try.func31, Try.ntmps31
  go_wp2
  go_ret
  exact ⟨rfl, rfl⟩
/-- may it be a delay? -/
def dlB (x : Int) : Bool := decide (0 ≤ x ∧ x ≤ 1099511627776)
theorem rdelay_any (x : Int) (w : World) : Calls Try.prog 20 #[.int .i64 x] w fun e w' => e = .returned (.bool (dlB x)) ∧ w = w' := by
  unfold dlB
  by_cases h0 : 0 ≤ x
  · by_cases h1 : x ≤ 1099511627776
    · rw [decide_eq_true ⟨h0, h1⟩]
      go_enter Try.func20, Try.ntmps20
      go_wp2
      go_ret
      exact ⟨rfl, rfl⟩
    · rw [decide_eq_false (fun h => h1 h.2)]
      go_enter Try.func20, Try.ntmps20
      go_wp2
      go_ret
      exact ⟨rfl, rfl⟩
  · rw [decide_eq_false (fun h => h0 h.1)]
    go_enter Try.func20, Try.ntmps20
    go_wp2
    go_ret
    exact ⟨rfl, rfl⟩
theorem RV.new (w : World) (N ba mo ji : Nat) : RV (w.alloc (.cells #[.slice none 0 0, .int .i64 (N : Int), .int .i64 (ba : Int), .int .i64 (mo : Int), .int .i64 (ji : Int), .bool false, .int .i64 0, .int .i64 0] 50)) w.heap.size w.heap.size none 0 0 [] N ba mo ji false 0 0 :=
  ⟨Blk.new w _ _ rfl, AW.nil _ _, fun k h => by obtain ⟨_, e, _⟩ := h; cases e⟩
def RNew (N ba mo ji : Nat) (w : World) (e : Ending) (w' : World) : Prop :=
  e = .returned (.tuple #[.pointer (some ⟨w.heap.size, 0, none⟩), .int .i64 0]) ∧ RV w' w.heap.size w.heap.size none 0 0 [] N ba mo ji false 0 0 ∧ Below w.heap.size w w'
set_option maxRecDepth 100000 in
set_option maxHeartbeats 4000000 in
theorem rnew_ok (N ba mo ji : Nat) (w : World) (h1 : 1 ≤ N) (h2 : N ≤ 64) (h3 : ba ≤ 1099511627776) (h4 : mo ≤ 1099511627776) (h5 : ji ≤ 1099511627776) :
    Calls Try.prog 6 #[.int .i64 (N : Int), .int .i64 (ba : Int), .int .i64 (mo : Int), .int .i64 (ji : Int)] w (RNew N ba mo ji w) := by
  have D : Hid (dlB ba = true ∧ dlB mo = true ∧ dlB ji = true) := Lib.hid (by unfold dlB; simp; omega)
  go_enter Try.func6, Try.ntmps6
  go_wp2_with fail
  refine (rdelay_any _ _).mono ?_
  rintro e w1 ⟨rfl, rfl⟩
  rw [D.out.1]
  go_wp2_with fail
  refine (rdelay_any _ _).mono ?_
  rintro e w1 ⟨rfl, rfl⟩
  rw [D.out.2.1]
  go_wp2_with fail
  refine (rdelay_any _ _).mono ?_
  rintro e w1 ⟨rfl, rfl⟩
  rw [D.out.2.2]
  go_wp2_with fail
  go_ret2
  exact ⟨rfl, RV.new _ _ _ _ _, below_alloc _ _⟩
set_option maxRecDepth 100000 in
set_option maxHeartbeats 4000000 in
theorem rnew_bad (N ba mo ji : Int) (w : World) (h : N < 1 ∨ 64 < N ∨ dlB ba = false ∨ dlB mo = false ∨ dlB ji = false) :
    Calls Try.prog 6 #[.int .i64 N, .int .i64 ba, .int .i64 mo, .int .i64 ji] w fun e w' => e = .returned (.tuple #[.pointer none, .int .i64 1]) ∧ w = w' := by
  obtain ⟨b1, hb1⟩ : ∃ b1, b1 = dlB ba := ⟨_, rfl⟩
  obtain ⟨b2, hb2⟩ : ∃ b2, b2 = dlB mo := ⟨_, rfl⟩
  obtain ⟨b3, hb3⟩ : ∃ b3, b3 = dlB ji := ⟨_, rfl⟩
  rw [← hb1, ← hb2, ← hb3] at h
  have C1 : Hid (∀ w, Calls Try.prog 20 #[.int .i64 ba] w fun e w' => e = .returned (.bool b1) ∧ w = w') := Lib.hid (fun w => hb1 ▸ rdelay_any ba w)
  have C2 : Hid (∀ w, Calls Try.prog 20 #[.int .i64 mo] w fun e w' => e = .returned (.bool b2) ∧ w = w') := Lib.hid (fun w => hb2 ▸ rdelay_any mo w)
  have C3 : Hid (∀ w, Calls Try.prog 20 #[.int .i64 ji] w fun e w' => e = .returned (.bool b3) ∧ w = w') := Lib.hid (fun w => hb3 ▸ rdelay_any ji w)
  have HH := Lib.hid h
  clear hb1 hb2 hb3 h
  go_enter Try.func6, Try.ntmps6
  go_wp2_with fail
  refine (C1.out _).mono ?_
  rintro e w1 ⟨rfl, rfl⟩
  go_wp2_with fail
  refine (C2.out _).mono ?_
  rintro e w1 ⟨rfl, rfl⟩
  go_wp2_with fail
  refine (C3.out _).mono ?_
  rintro e w1 ⟨rfl, rfl⟩
  clear C1 C2 C3
  go_upto_region 4 with fail
  go_cut [36] (fun s wx => s = .bool true ∧ wx = w)
  case first =>
    by_cases n1 : N < 1
    · go_wp2_with fail
      go_meet
      exact ⟨rfl, rfl⟩
    · by_cases n2 : 64 < N
      · go_wp2_with fail
        go_meet
        exact ⟨rfl, rfl⟩
      · have h := HH.out
        rcases h with h | h | h | h | h
        · exact absurd h n1
        · exact absurd h n2
        · subst h
          go_wp2_with fail
          go_meet
          exact ⟨rfl, rfl⟩
        · subst h
          cases b1 <;> (go_wp2_with fail; go_meet; exact ⟨rfl, rfl⟩)
        · subst h
          cases b1 <;> cases b2 <;> (go_wp2_with fail; go_meet; exact ⟨rfl, rfl⟩)
  case rest =>
    obtain ⟨rfl, rfl⟩ := hcut
    go_wp2_with fail
    go_ret2
    exact ⟨rfl, rfl⟩
set_option maxRecDepth 100000 in
set_option maxHeartbeats 4000000 in
theorem rpush_full (B r : Nat) (A : Option Addr) (m c : Nat) (q : List Th) (x : Th) (N ba mo ji : Nat) (se : Bool) (re wt : Int) (w : World) (h : RV w B r A m c q N ba mo ji se re wt) (hf : q.length = N) :
    Calls Try.prog 22 #[.pointer (some ⟨r, 0, none⟩), .agg x.cells] w fun e w' => e = .returned (.int .i64 180) ∧ Below w.heap.size w w' := by
  obtain ⟨qp, qm0, qm1, qm2, qm3, qm4, qm5, qm6, qm7, qm8, qt, qr⟩ := x
  simp only [Th.cells]
  have hbb := below_alloc w (.cells #[.int .i64 qp, .int .i64 qm0, .int .i64 qm1, .int .i64 qm2, .int .i64 qm3, .int .i64 qm4, .int .i64 qm5, .int .i64 qm6, .int .i64 qm7, .int .i64 qm8, .string qt, .int .u32 qr] 44)
  have h0 := Lib.hid (h.keep hbb)
  have HB0 : Hid (Blk (w.alloc (.cells #[.int .i64 qp, .int .i64 qm0, .int .i64 qm1, .int .i64 qm2, .int .i64 qm3, .int .i64 qm4, .int .i64 qm5, .int .i64 qm6, .int .i64 qm7, .int .i64 qm8, .string qt, .int .u32 qr] 44)) w.heap.size 44 #[.int .i64 qp, .int .i64 qm0, .int .i64 qm1, .int .i64 qm2, .int .i64 qm3, .int .i64 qm4, .int .i64 qm5, .int .i64 qm6, .int .i64 qm7, .int .i64 qm8, .string qt, .int .u32 qr]) := Lib.hid (Blk.new w _ _ rfl)
  have HC0 := Lib.hid hbb
  have HRL := Lib.hid (And.intro h.blk.lt h.al.lt)
  have hml : q.length = m := h.al.1
  clear hbb
  obtain ⟨w0, hw0⟩ : ∃ w0, w0 = w.alloc (.cells #[.int .i64 qp, .int .i64 qm0, .int .i64 qm1, .int .i64 qm2, .int .i64 qm3, .int .i64 qm4, .int .i64 qm5, .int .i64 qm6, .int .i64 qm7, .int .i64 qm8, .string qt, .int .u32 qr] 44) := ⟨_, rfl⟩
  obtain ⟨b, hb⟩ : ∃ b, b = w.heap.size := ⟨_, rfl⟩
  rw [← hw0] at h0 HB0 HC0
  rw [← hb] at HB0
  obtain rfl : m = N := by omega
  have HM := Lib.hid hml
  have c0 : w0.cell? ⟨r, 0, none⟩ = some (.slice A m c) := h0.out.blk.cell 0
  have c1 : w0.cell? ⟨r, 1, none⟩ = some (.int .i64 (m : Int)) := h0.out.blk.cell 1
  clear h hml hf
  go_enter Try.func22, Try.ntmps22
  go_upto_region 1 with fail
  rw [← hw0, ← hb]
  clear hw0 hb
  go_quiet (fail)
  go_wp2_with fail
  go_ret
  exact ⟨rfl, below_drewN HC0.out _⟩
def RPush (B r : Nat) (A : Option Addr) (m : Nat) (q : List Th) (N ba mo ji : Nat) (se : Bool) (re wt : Int) (w : World) (e : Ending) (w' : World) : Prop :=
  e = .returned (.int .i64 0) ∧ ∃ A' c', RV w' B r A' (m + 1) c' q N ba mo ji se re wt ∧ Chg (rF r A) w w' ∧ ∀ k, inB A' k → inB A k ∨ w.heap.size ≤ k
set_option maxRecDepth 100000 in
set_option maxHeartbeats 4000000 in
theorem rpush_ok (B r : Nat) (A : Option Addr) (m c : Nat) (q : List Th) (x : Th) (N ba mo ji : Nat) (se : Bool) (re wt : Int) (w : World) (h : RV w B r A m c q N ba mo ji se re wt) (hf : q.length < N) (hN : N ≤ 64) (hBw : B ≤ w.heap.size) :
    Calls Try.prog 22 #[.pointer (some ⟨r, 0, none⟩), .agg x.cells] w (RPush B r A m (q ++ [x]) N ba mo ji se re wt w) := by
  obtain ⟨qp, qm0, qm1, qm2, qm3, qm4, qm5, qm6, qm7, qm8, qt, qr⟩ := x
  simp only [Th.cells]
  have hbb := below_alloc w (.cells #[.int .i64 qp, .int .i64 qm0, .int .i64 qm1, .int .i64 qm2, .int .i64 qm3, .int .i64 qm4, .int .i64 qm5, .int .i64 qm6, .int .i64 qm7, .int .i64 qm8, .string qt, .int .u32 qr] 44)
  have h0 := Lib.hid (h.keep hbb)
  have HB0 : Hid (Blk (w.alloc (.cells #[.int .i64 qp, .int .i64 qm0, .int .i64 qm1, .int .i64 qm2, .int .i64 qm3, .int .i64 qm4, .int .i64 qm5, .int .i64 qm6, .int .i64 qm7, .int .i64 qm8, .string qt, .int .u32 qr] 44)) w.heap.size 44 #[.int .i64 qp, .int .i64 qm0, .int .i64 qm1, .int .i64 qm2, .int .i64 qm3, .int .i64 qm4, .int .i64 qm5, .int .i64 qm6, .int .i64 qm7, .int .i64 qm8, .string qt, .int .u32 qr]) := Lib.hid (Blk.new w _ _ rfl)
  have HC0 := Lib.hid hbb
  have HRL := Lib.hid (And.intro h.blk.lt h.al.lt)
  have hml : q.length = m := h.al.1
  clear hbb
  obtain ⟨w0, hw0⟩ : ∃ w0, w0 = w.alloc (.cells #[.int .i64 qp, .int .i64 qm0, .int .i64 qm1, .int .i64 qm2, .int .i64 qm3, .int .i64 qm4, .int .i64 qm5, .int .i64 qm6, .int .i64 qm7, .int .i64 qm8, .string qt, .int .u32 qr] 44) := ⟨_, rfl⟩
  obtain ⟨b, hb⟩ : ∃ b, b = w.heap.size := ⟨_, rfl⟩
  rw [← hw0] at h0 HB0 HC0
  rw [← hb] at HB0
  have hmN : m < N := by omega
  have hmx : m ≤ 100000 := by omega
  have HM := Lib.hid hml
  have HBW := Lib.hid hBw
  have HB := Lib.hid hb
  have c0 : w0.cell? ⟨r, 0, none⟩ = some (.slice A m c) := h0.out.blk.cell 0
  have c1 : w0.cell? ⟨r, 1, none⟩ = some (.int .i64 (N : Int)) := h0.out.blk.cell 1
  clear h hml hf hBw
  go_enter Try.func22, Try.ntmps22
  go_upto_region 1 with fail
  rw [← hw0, ← hb]
  clear hw0 hb
  go_quiet (fail)
  go_upto_region 3 with fail
  obtain ⟨w2, hw2⟩ : ∃ w2, w2 = w0.drewN nq := ⟨_, rfl⟩
  rw [← hw2]
  have H2 : Hid (RV w2 B r A m c q N ba mo ji se re wt) := Lib.hid (by rw [hw2]; exact h0.out.keep (below_drewN (Below.refl _ _) _))
  have C2 : Hid (Below w.heap.size w w2) := Lib.hid (by rw [hw2]; exact below_drewN HC0.out _)
  have K2 : Hid (Blk w2 b 44 #[.int .i64 qp, .int .i64 qm0, .int .i64 qm1, .int .i64 qm2, .int .i64 qm3, .int .i64 qm4, .int .i64 qm5, .int .i64 qm6, .int .i64 qm7, .int .i64 qm8, .string qt, .int .u32 qr]) := Lib.hid (by rw [hw2]; exact HB0.out.drewN nq)
  clear hw2 h0 HC0 HB0 c0 c1 hmN
  have v4 : w2.cell? ⟨r, 0, none⟩ = some (.slice A m c) := H2.out.blk.cell 0
  have v4a : (w2.alloc (.cells #[.int .i64 qp, .int .i64 qm0, .int .i64 qm1, .int .i64 qm2, .int .i64 qm3, .int .i64 qm4, .int .i64 qm5, .int .i64 qm6, .int .i64 qm7, .int .i64 qm8, .string qt, .int .u32 qr] 44)).cell? ⟨r, 0, none⟩ = some (.slice A m c) := (H2.out.blk.keep (below_alloc _ _)).cell 0
  have y0 : w2.cell? ⟨b, 0, none⟩ = some (.int .i64 qp) := K2.out.cell 0
  have y1 : w2.cell? ⟨b, 1, none⟩ = some (.int .i64 qm0) := K2.out.cell 1
  have y2 : w2.cell? ⟨b, 2, none⟩ = some (.int .i64 qm1) := K2.out.cell 2
  have y3 : w2.cell? ⟨b, 3, none⟩ = some (.int .i64 qm2) := K2.out.cell 3
  have y4 : w2.cell? ⟨b, 4, none⟩ = some (.int .i64 qm3) := K2.out.cell 4
  have y5 : w2.cell? ⟨b, 5, none⟩ = some (.int .i64 qm4) := K2.out.cell 5
  have y6 : w2.cell? ⟨b, 6, none⟩ = some (.int .i64 qm5) := K2.out.cell 6
  have y7 : w2.cell? ⟨b, 7, none⟩ = some (.int .i64 qm6) := K2.out.cell 7
  have y8 : w2.cell? ⟨b, 8, none⟩ = some (.int .i64 qm7) := K2.out.cell 8
  have y9 : w2.cell? ⟨b, 9, none⟩ = some (.int .i64 qm8) := K2.out.cell 9
  have y10 : w2.cell? ⟨b, 10, none⟩ = some (.string qt) := K2.out.cell 10
  have y11 : w2.cell? ⟨b, 11, none⟩ = some (.int .u32 qr) := K2.out.cell 11
  have HW : Hid (∀ W1, Below (w2.alloc (.cells #[.int .i64 qp, .int .i64 qm0, .int .i64 qm1, .int .i64 qm2, .int .i64 qm3, .int .i64 qm4, .int .i64 qm5, .int .i64 qm6, .int .i64 qm7, .int .i64 qm8, .string qt, .int .u32 qr] 44)).heap.size (w2.alloc (.cells #[.int .i64 qp, .int .i64 qm0, .int .i64 qm1, .int .i64 qm2, .int .i64 qm3, .int .i64 qm4, .int .i64 qm5, .int .i64 qm6, .int .i64 qm7, .int .i64 qm8, .string qt, .int .u32 qr] 44)) W1 → AW W1 B A m c q ∧ B ≤ W1.heap.size ∧ Blk W1 w2.heap.size 44 (Th.cells ⟨qp, qm0, qm1, qm2, qm3, qm4, qm5, qm6, qm7, qm8, qt, qr⟩)) := Lib.hid (fun W1 hb => by
    have hb1 : Below w2.heap.size w2 W1 := (below_alloc _ _).trans (hb.mono (by simp))
    exact ⟨H2.out.al.keep hb1, Nat.le_trans HBW.out (Nat.le_trans C2.out.size hb1.size), Blk.keep (Blk.new w2 _ _ rfl) hb⟩)
  have FIN : Hid (∀ W1, Below (w2.alloc (.cells #[.int .i64 qp, .int .i64 qm0, .int .i64 qm1, .int .i64 qm2, .int .i64 qm3, .int .i64 qm4, .int .i64 qm5, .int .i64 qm6, .int .i64 qm7, .int .i64 qm8, .string qt, .int .u32 qr] 44)).heap.size (w2.alloc (.cells #[.int .i64 qp, .int .i64 qm0, .int .i64 qm1, .int .i64 qm2, .int .i64 qm3, .int .i64 qm4, .int .i64 qm5, .int .i64 qm6, .int .i64 qm7, .int .i64 qm8, .string qt, .int .u32 qr] 44)) W1 → ∀ A' c' w', AW w' B A' (m + 1) c' (q ++ [⟨qp, qm0, qm1, qm2, qm3, qm4, qm5, qm6, qm7, qm8, qt, qr⟩]) → Chg (inB A) W1 w' → (∀ k, inB A' k → inB A k ∨ W1.heap.size ≤ k) →
      w'.cell? ⟨r, 0, none⟩ = some (.slice A m c) ∧ w'.frozen? ⟨r, 0, none⟩ = false ∧ RPush B r A m (q ++ [⟨qp, qm0, qm1, qm2, qm3, qm4, qm5, qm6, qm7, qm8, qt, qr⟩]) N ba mo ji se re wt w (.returned (.int .i64 0)) (w'.setCell ⟨r, 0, none⟩ (.slice A' (m + 1) c'))) := Lib.hid (fun W1 hb A' c' w' k1 k2 k3 => by
    have hbx : Below w2.heap.size w2 W1 := (below_alloc _ _).trans (hb.mono (by simp))
    have hv := (H2.out.blk.keep hbx).chg k2 (fun e => H2.out.ar r e rfl)
    have hlt := H2.out.blk.lt
    have hs := hbx.size
    have hs2 := C2.out.size
    have hrl := HRL.out.1
    have hcs : Chg (fun k => k = r) w' (w'.setCell ⟨r, 0, none⟩ (.slice A' (m + 1) c')) := Chg.setCell (S := fun k => k = r) (p := ⟨r, 0, none⟩) (Chg.refl _ w') (.inl rfl) _
    have hne : ∀ k, inB A' k → k ≠ r := fun k hk => by
      rcases k3 k hk with e | e
      · exact H2.out.ar k e
      · omega
    have hset := hv.set_ 0 (.slice A' (m + 1) c')
    refine ⟨hv.cell 0, hv.frozen 0, rfl, A', c', ⟨by simpa using hset, k1.chg hcs (fun k hk e => hne k hk e), hne⟩, ?_, fun k hk => ?_⟩
    · have h1 : Chg (rF r A) w W1 := (Chg.of_below C2.out _).trans (Chg.of_below hbx (rF r A)) (fun _ _ h => h)
      exact (h1.trans k2 (fun k _ e => .inr e)).trans hcs (fun k _ e => .inl e)
    · rcases k3 k hk with e | e
      · exact .inl e
      · exact .inr (by omega))
  clear H2 K2 C2
  go_region_law ((refine step_append_al rfl (.tmp 19) (.tmp 21) rfl B A m c q (by first | rfl | simp [Act.eval]) (HW.out _ (by repeat (first | exact Below.refl _ _ | refine Below.drew ?_))).1 (HW.out _ (by repeat (first | exact Below.refl _ _ | refine Below.drew ?_))).2.1 w2.heap.size 1 ⟨qp, qm0, qm1, qm2, qm3, qm4, qm5, qm6, qm7, qm8, qt, qr⟩ (by first | rfl | simp [Act.eval]) (HW.out _ (by repeat (first | exact Below.refl _ _ | refine Below.drew ?_))).2.2 hmx ?_; intro A' c' w' k1 k2 k3; obtain ⟨f1, f2, f3⟩ := FIN.out _ (by repeat (first | exact Below.refl _ _ | refine Below.drew ?_)) A' c' w' k1 k2 k3; have F3 := Lib.hid f3; clear k1 k2 k3 f3))
  all_goals
    clear HW FIN
    go_wp2_with fail
    go_ret
    exact F3.out
set_option maxRecDepth 100000 in
set_option maxHeartbeats 4000000 in
theorem rsend_no (B r : Nat) (A : Option Addr) (m c : Nat) (q : List Th) (N ba mo ji : Nat) (se : Bool) (re wt : Int) (now : Int) (w : World) (h : RV w B r A m c q N ba mo ji se re wt) (hno : q = [] ∨ se = true ∨ tmC now < wt) :
    Calls Try.prog 23 #[.pointer (some ⟨r, 0, none⟩), .int .i64 now] w (SendNo w) := by
  have h0 := h.keep (below_alloc w (.cells th0.cells 44))
  have hB0 : Blk (w.alloc (.cells th0.cells 44)) w.heap.size 44 th0.cells := Blk.new w _ _ rfl
  have hC0 : Below w.heap.size w (w.alloc (.cells th0.cells 44)) := below_alloc _ _
  obtain ⟨w0, hw0⟩ : ∃ w0, w0 = w.alloc (.cells th0.cells 44) := ⟨_, rfl⟩
  obtain ⟨b, hb⟩ : ∃ b, b = w.heap.size := ⟨_, rfl⟩
  rw [← hw0] at h0 hB0 hC0
  rw [← hb] at hB0
  have hrl := h.blk.lt
  have hbr : b ≠ r := by omega
  have hrb : r ≠ b := by omega
  have HBA : Hid (∀ k, inB A k → k ≠ b) := Lib.hid (fun k hk => by have := h.al.lt k hk; omega)
  have hml : q.length = m := h.al.1
  have hmc : m ≤ c := h.al.2.1
  have H0 := Lib.hid h0; have HK := Lib.hid hB0; have HC := Lib.hid hC0; have HE := Lib.hid hb
  clear h h0 hB0 hC0
  simp only [Th.cells, th0] at hw0
  have HT : Hid (Calls Try.prog 31 #[.int .i64 now] w0 fun e w' => e = .returned (.int .i64 (tmC now)) ∧ w0 = w') := Lib.hid (rtime_any now _)
  obtain ⟨tm, htm⟩ : ∃ tm, tm = tmC now := ⟨_, rfl⟩
  rw [← htm] at HT hno
  clear htm
  have HN := Lib.hid hno
  clear hno
  have c0 : w0.cell? ⟨r, 0, none⟩ = some (.slice A m c) := H0.out.blk.cell 0
  have c5 : w0.cell? ⟨r, 5, none⟩ = some (.bool se) := H0.out.blk.cell 5
  have c7 : w0.cell? ⟨r, 7, none⟩ = some (.int .i64 wt) := H0.out.blk.cell 7
  go_enter Try.func23, Try.ntmps23
  go_upto_region 1 with fail
  have e0 : (ByteArray.empty : ByteArray) = { data := #[] } := rfl
  rw [e0] at hw0
  rw [← hw0, ← hb]
  clear hw0 hb e0 hrl
  go_wp2_with fail
  refine HT.out.mono ?_
  rintro e w1 ⟨rfl, rfl⟩
  clear HT
  go_upto_region 2 with fail
  go_cut [29] (fun s wx => s = .bool true ∧ wx = w0)
  case first =>
    by_cases hm : m = 0
    · subst hm
      go_wp2_with fail
      go_meet
      exact ⟨rfl, rfl⟩
    · have t0 : ((m : Int) == 0) = false := by rw [beq_eq_false_iff_ne]; omega
      have hno : se = true ∨ tm < wt := by
        rcases HN.out with h | h
        · rw [h] at hml; simp at hml; omega
        · exact h
      cases se
      · have hlt : tm < wt := by rcases hno with h | h; cases h; exact h
        go_wp2_with fail
        go_meet
        exact ⟨rfl, rfl⟩
      · clear hno
        go_wp2_with fail
        go_meet
        exact ⟨rfl, rfl⟩
  case rest =>
    obtain ⟨rfl, rfl⟩ := hcut
    clear c0 c5 c7 HN
    have k0 : wc.cell? ⟨b, 0, none⟩ = some (.int .i64 0) := HK.out.cell 0
    have k1 : wc.cell? ⟨b, 1, none⟩ = some (.int .i64 0) := HK.out.cell 1
    have k2 : wc.cell? ⟨b, 2, none⟩ = some (.int .i64 0) := HK.out.cell 2
    have k3 : wc.cell? ⟨b, 3, none⟩ = some (.int .i64 0) := HK.out.cell 3
    have k4 : wc.cell? ⟨b, 4, none⟩ = some (.int .i64 0) := HK.out.cell 4
    have k5 : wc.cell? ⟨b, 5, none⟩ = some (.int .i64 0) := HK.out.cell 5
    have k6 : wc.cell? ⟨b, 6, none⟩ = some (.int .i64 0) := HK.out.cell 6
    have k7 : wc.cell? ⟨b, 7, none⟩ = some (.int .i64 0) := HK.out.cell 7
    have k8 : wc.cell? ⟨b, 8, none⟩ = some (.int .i64 0) := HK.out.cell 8
    have k9 : wc.cell? ⟨b, 9, none⟩ = some (.int .i64 0) := HK.out.cell 9
    have k10 : wc.cell? ⟨b, 10, none⟩ = some (.string ByteArray.empty) := HK.out.cell 10
    have k11 : wc.cell? ⟨b, 11, none⟩ = some (.int .u32 0) := HK.out.cell 11
    have fk0 : wc.frozen? ⟨b, 0, none⟩ = false := HK.out.frozen 0
    have fk1 : wc.frozen? ⟨b, 1, none⟩ = false := HK.out.frozen 1
    have fk2 : wc.frozen? ⟨b, 2, none⟩ = false := HK.out.frozen 2
    have fk3 : wc.frozen? ⟨b, 3, none⟩ = false := HK.out.frozen 3
    have fk4 : wc.frozen? ⟨b, 4, none⟩ = false := HK.out.frozen 4
    have fk5 : wc.frozen? ⟨b, 5, none⟩ = false := HK.out.frozen 5
    have fk6 : wc.frozen? ⟨b, 6, none⟩ = false := HK.out.frozen 6
    have fk7 : wc.frozen? ⟨b, 7, none⟩ = false := HK.out.frozen 7
    have fk8 : wc.frozen? ⟨b, 8, none⟩ = false := HK.out.frozen 8
    have fk9 : wc.frozen? ⟨b, 9, none⟩ = false := HK.out.frozen 9
    have fk10 : wc.frozen? ⟨b, 10, none⟩ = false := HK.out.frozen 10
    have fk11 : wc.frozen? ⟨b, 11, none⟩ = false := HK.out.frozen 11
    go_wp2_with fail
    obtain ⟨W, hW⟩ : ∃ W, W = ((((((((((((wc).setCell ⟨b, 0, none⟩ (.int .i64 0)).setCell ⟨b, 1, none⟩ (.int .i64 0)).setCell ⟨b, 2, none⟩ (.int .i64 0)).setCell ⟨b, 3, none⟩ (.int .i64 0)).setCell ⟨b, 4, none⟩ (.int .i64 0)).setCell ⟨b, 5, none⟩ (.int .i64 0)).setCell ⟨b, 6, none⟩ (.int .i64 0)).setCell ⟨b, 7, none⟩ (.int .i64 0)).setCell ⟨b, 8, none⟩ (.int .i64 0)).setCell ⟨b, 9, none⟩ (.int .i64 0)).setCell ⟨b, 10, none⟩ (.string { data := #[] })).setCell ⟨b, 11, none⟩ (.int .u32 0) := ⟨_, rfl⟩
    rw [← hW]
    have hW' : W = (wc).setCells b 0 th0.cells.toList := hW
    have K3 : Blk W b 44 th0.cells := by rw [hW']; exact HK.out.boxed th0
    have hF : SendNo w (.returned (.tuple #[.agg th0.cells, .int .i64 0, .bool false])) W := ⟨rfl, by rw [hW']; exact Below.cellsSet (by rw [HE.out]; exact Nat.le_refl _) _ _ _ HC.out⟩
    have q0 : W.cell? ⟨b, 0, none⟩ = some (.int .i64 0) := K3.cell 0
    have q1 : W.cell? ⟨b, 1, none⟩ = some (.int .i64 0) := K3.cell 1
    have q2 : W.cell? ⟨b, 2, none⟩ = some (.int .i64 0) := K3.cell 2
    have q3 : W.cell? ⟨b, 3, none⟩ = some (.int .i64 0) := K3.cell 3
    have q4 : W.cell? ⟨b, 4, none⟩ = some (.int .i64 0) := K3.cell 4
    have q5 : W.cell? ⟨b, 5, none⟩ = some (.int .i64 0) := K3.cell 5
    have q6 : W.cell? ⟨b, 6, none⟩ = some (.int .i64 0) := K3.cell 6
    have q7 : W.cell? ⟨b, 7, none⟩ = some (.int .i64 0) := K3.cell 7
    have q8 : W.cell? ⟨b, 8, none⟩ = some (.int .i64 0) := K3.cell 8
    have q9 : W.cell? ⟨b, 9, none⟩ = some (.int .i64 0) := K3.cell 9
    have q10 : W.cell? ⟨b, 10, none⟩ = some (.string ByteArray.empty) := K3.cell 10
    have q11 : W.cell? ⟨b, 11, none⟩ = some (.int .u32 0) := K3.cell 11
    clear hW hW' K3
    refine bodyPost_ret (v := .tuple #[.agg #[.int .i64 0, .int .i64 0, .int .i64 0, .int .i64 0, .int .i64 0, .int .i64 0, .int .i64 0, .int .i64 0, .int .i64 0, .int .i64 0, .string ByteArray.empty, .int .u32 0], .int .i64 0, .bool false]) (by simp [results, Try.results23, go_sem, q0, q1, q2, q3, q4, q5, q6, q7, q8, q9, q10, q11]) rfl ?_
    exact hF
def RSendOk (B r : Nat) (A : Option Addr) (m c : Nat) (q : List Th) (x : Th) (N ba mo ji : Nat) (re wt : Int) (w : World) (e : Ending) (w' : World) : Prop :=
  e = .returned (.tuple #[.agg x.cells, .int .i64 (re + 1), .bool true]) ∧ RV w' B r A m c q N ba mo ji true re wt ∧ Chg (fun k => k = r) w w'
set_option maxRecDepth 100000 in
set_option maxHeartbeats 4000000 in
theorem rsend_ok (B r : Nat) (A : Option Addr) (m c : Nat) (q : List Th) (x : Th) (qs : List Th) (N ba mo ji : Nat) (se : Bool) (re wt : Int) (now : Int) (w : World) (h : RV w B r A m c q N ba mo ji se re wt) (hx : q = x :: qs) (hse : se = false) (ht : wt ≤ tmC now) (hre : -9223372036854775808 ≤ re + 1 ∧ re + 1 ≤ 9223372036854775807) :
    Calls Try.prog 23 #[.pointer (some ⟨r, 0, none⟩), .int .i64 now] w (RSendOk B r A m c q x N ba mo ji re wt w) := by
  have h0 := h.keep (below_alloc w (.cells th0.cells 44))
  have hB0 : Blk (w.alloc (.cells th0.cells 44)) w.heap.size 44 th0.cells := Blk.new w _ _ rfl
  have hC0 : Below w.heap.size w (w.alloc (.cells th0.cells 44)) := below_alloc _ _
  obtain ⟨w0, hw0⟩ : ∃ w0, w0 = w.alloc (.cells th0.cells 44) := ⟨_, rfl⟩
  obtain ⟨b, hb⟩ : ∃ b, b = w.heap.size := ⟨_, rfl⟩
  rw [← hw0] at h0 hB0 hC0
  rw [← hb] at hB0
  have hrl := h.blk.lt
  have hbr : b ≠ r := by omega
  have hrb : r ≠ b := by omega
  have HBA : Hid (∀ k, inB A k → k ≠ b) := Lib.hid (fun k hk => by have := h.al.lt k hk; omega)
  have hml : q.length = m := h.al.1
  have hmc : m ≤ c := h.al.2.1
  have H0 := Lib.hid h0; have HK := Lib.hid hB0; have HC := Lib.hid hC0; have HE := Lib.hid hb
  clear h h0 hB0 hC0
  simp only [Th.cells, th0] at hw0
  subst hx hse
  obtain ⟨qp, qm0, qm1, qm2, qm3, qm4, qm5, qm6, qm7, qm8, qt, qr⟩ := x
  obtain ⟨X, hX⟩ : ∃ X : Th, X = ⟨qp, qm0, qm1, qm2, qm3, qm4, qm5, qm6, qm7, qm8, qt, qr⟩ := ⟨_, rfl⟩
  have HXX := Lib.hid hX
  have HXC : Hid (X.cells = #[.int .i64 qp, .int .i64 qm0, .int .i64 qm1, .int .i64 qm2, .int .i64 qm3, .int .i64 qm4, .int .i64 qm5, .int .i64 qm6, .int .i64 qm7, .int .i64 qm8, .string qt, .int .u32 qr]) := Lib.hid (by rw [hX]; rfl)
  rw [← hX] at H0 hml ⊢
  clear hX
  have HT : Hid (Calls Try.prog 31 #[.int .i64 now] w0 fun e w' => e = .returned (.int .i64 (tmC now)) ∧ w0 = w') := Lib.hid (rtime_any now _)
  obtain ⟨tm, htm⟩ : ∃ tm, tm = tmC now := ⟨_, rfl⟩
  rw [← htm] at HT ht
  clear htm
  have hm0 : 0 < m := by simp only [List.length_cons] at hml; omega
  have hm0' : (0 : Int) < (m : Int) := by omega
  have t0 : ((m : Int) == 0) = false := by rw [beq_eq_false_iff_ne]; omega
  have HML := Lib.hid hml
  clear hml
  obtain ⟨gb, off, rfl, HX0⟩ : ∃ gb off, A = some ⟨gb, off, none⟩ ∧ Hid (gb < w0.heap.size ∧ ∀ i u, (#[.int .i64 qp, .int .i64 qm0, .int .i64 qm1, .int .i64 qm2, .int .i64 qm3, .int .i64 qm4, .int .i64 qm5, .int .i64 qm6, .int .i64 qm7, .int .i64 qm8, .string qt, .int .u32 qr])[i]? = some u → w0.cell? ⟨gb, off + i, none⟩ = some u) := by
    obtain ⟨gb, off, e, hlt, hc⟩ := H0.out.al.as.2 0 _ rfl
    exact ⟨gb, off, e, Lib.hid ⟨hlt, fun i u hu => by have := hc i u (by rw [HXC.out]; exact hu); simpa using this⟩⟩
  have hgb : gb ≠ b := HBA.out gb ⟨_, rfl, rfl⟩
  have hbg : b ≠ gb := fun e => hgb e.symm
  have c0 : w0.cell? ⟨r, 0, none⟩ = some (.slice (some ⟨gb, off, none⟩) m c) := H0.out.blk.cell 0
  have c5 : w0.cell? ⟨r, 5, none⟩ = some (.bool false) := H0.out.blk.cell 5
  have c7 : w0.cell? ⟨r, 7, none⟩ = some (.int .i64 wt) := H0.out.blk.cell 7
  have f5 := H0.out.blk.frozen 5
  go_enter Try.func23, Try.ntmps23
  go_upto_region 1 with fail
  have e0 : (ByteArray.empty : ByteArray) = { data := #[] } := rfl
  rw [e0] at hw0
  rw [← hw0, ← hb]
  clear hw0 hb e0 hrl
  go_wp2_with fail
  refine HT.out.mono ?_
  rintro e w1 ⟨rfl, rfl⟩
  clear HT
  go_upto_region 5 with fail
  obtain ⟨w3, hw3⟩ : ∃ w3, w3 = w0.setCell ⟨r, 5, none⟩ (.bool true) := ⟨_, rfl⟩
  rw [← hw3]
  have hc3 : Chg (fun k => k = r) w0 w3 := by rw [hw3]; exact Chg.setCell (S := fun k => k = r) (p := ⟨r, 5, none⟩) (Chg.refl _ w0) (.inl rfl) _
  have H3 : Hid (RV w3 B r (some ⟨gb, off, none⟩) m c (X :: qs) N ba mo ji true re wt) := Lib.hid (by
    refine ⟨?_, H0.out.al.chg hc3 (fun k hk e => H0.out.ar k hk e), H0.out.ar⟩
    have := H0.out.blk.set_ 5 (.bool true)
    rw [hw3]
    simpa using this)
  have K3 : Hid (Blk w3 b 44 th0.cells) := Lib.hid (by rw [hw3]; exact HK.out.far (p := ⟨r, 5, none⟩) hbr _)
  have hgr : gb ≠ r := H0.out.ar gb ⟨_, rfl, rfl⟩
  have X3 : Hid (∀ i u, (#[.int .i64 qp, .int .i64 qm0, .int .i64 qm1, .int .i64 qm2, .int .i64 qm3, .int .i64 qm4, .int .i64 qm5, .int .i64 qm6, .int .i64 qm7, .int .i64 qm8, .string qt, .int .u32 qr])[i]? = some u → w3.cell? ⟨gb, off + i, none⟩ = some u) := Lib.hid (fun i u hu => (hc3.cell (p := ⟨gb, off + i, none⟩) HX0.out.1 hgr).trans (HX0.out.2 i u hu))
  have C3 : Hid (Chg (fun k => k = r) w w3) := Lib.hid ((Chg.of_below HC.out _).trans hc3 (fun _ _ h => h))
  clear hw3 hc3 hgr c0 c5 c7 f5 H0 HK HC HX0 ht t0
  have c0 : w3.cell? ⟨r, 0, none⟩ = some (.slice (some ⟨gb, off, none⟩) m c) := H3.out.blk.cell 0
  have c6 : w3.cell? ⟨r, 6, none⟩ = some (.int .i64 re) := H3.out.blk.cell 6
  have k0 : w3.cell? ⟨b, 0, none⟩ = some (.int .i64 0) := K3.out.cell 0
  have k1 : w3.cell? ⟨b, 1, none⟩ = some (.int .i64 0) := K3.out.cell 1
  have k2 : w3.cell? ⟨b, 2, none⟩ = some (.int .i64 0) := K3.out.cell 2
  have k3 : w3.cell? ⟨b, 3, none⟩ = some (.int .i64 0) := K3.out.cell 3
  have k4 : w3.cell? ⟨b, 4, none⟩ = some (.int .i64 0) := K3.out.cell 4
  have k5 : w3.cell? ⟨b, 5, none⟩ = some (.int .i64 0) := K3.out.cell 5
  have k6 : w3.cell? ⟨b, 6, none⟩ = some (.int .i64 0) := K3.out.cell 6
  have k7 : w3.cell? ⟨b, 7, none⟩ = some (.int .i64 0) := K3.out.cell 7
  have k8 : w3.cell? ⟨b, 8, none⟩ = some (.int .i64 0) := K3.out.cell 8
  have k9 : w3.cell? ⟨b, 9, none⟩ = some (.int .i64 0) := K3.out.cell 9
  have k10 : w3.cell? ⟨b, 10, none⟩ = some (.string ByteArray.empty) := K3.out.cell 10
  have k11 : w3.cell? ⟨b, 11, none⟩ = some (.int .u32 0) := K3.out.cell 11
  have fk0 : w3.frozen? ⟨b, 0, none⟩ = false := K3.out.frozen 0
  have fk1 : w3.frozen? ⟨b, 1, none⟩ = false := K3.out.frozen 1
  have fk2 : w3.frozen? ⟨b, 2, none⟩ = false := K3.out.frozen 2
  have fk3 : w3.frozen? ⟨b, 3, none⟩ = false := K3.out.frozen 3
  have fk4 : w3.frozen? ⟨b, 4, none⟩ = false := K3.out.frozen 4
  have fk5 : w3.frozen? ⟨b, 5, none⟩ = false := K3.out.frozen 5
  have fk6 : w3.frozen? ⟨b, 6, none⟩ = false := K3.out.frozen 6
  have fk7 : w3.frozen? ⟨b, 7, none⟩ = false := K3.out.frozen 7
  have fk8 : w3.frozen? ⟨b, 8, none⟩ = false := K3.out.frozen 8
  have fk9 : w3.frozen? ⟨b, 9, none⟩ = false := K3.out.frozen 9
  have fk10 : w3.frozen? ⟨b, 10, none⟩ = false := K3.out.frozen 10
  have fk11 : w3.frozen? ⟨b, 11, none⟩ = false := K3.out.frozen 11
  have x0 : w3.cell? ⟨gb, off, none⟩ = some (.int .i64 qp) := X3.out 0 _ rfl
  have x1 : w3.cell? ⟨gb, off + 1, none⟩ = some (.int .i64 qm0) := X3.out 1 _ rfl
  have x2 : w3.cell? ⟨gb, off + 2, none⟩ = some (.int .i64 qm1) := X3.out 2 _ rfl
  have x3 : w3.cell? ⟨gb, off + 3, none⟩ = some (.int .i64 qm2) := X3.out 3 _ rfl
  have x4 : w3.cell? ⟨gb, off + 4, none⟩ = some (.int .i64 qm3) := X3.out 4 _ rfl
  have x5 : w3.cell? ⟨gb, off + 5, none⟩ = some (.int .i64 qm4) := X3.out 5 _ rfl
  have x6 : w3.cell? ⟨gb, off + 6, none⟩ = some (.int .i64 qm5) := X3.out 6 _ rfl
  have x7 : w3.cell? ⟨gb, off + 7, none⟩ = some (.int .i64 qm6) := X3.out 7 _ rfl
  have x8 : w3.cell? ⟨gb, off + 8, none⟩ = some (.int .i64 qm7) := X3.out 8 _ rfl
  have x9 : w3.cell? ⟨gb, off + 9, none⟩ = some (.int .i64 qm8) := X3.out 9 _ rfl
  have x10 : w3.cell? ⟨gb, off + 10, none⟩ = some (.string qt) := X3.out 10 _ rfl
  have x11 : w3.cell? ⟨gb, off + 11, none⟩ = some (.int .u32 qr) := X3.out 11 _ rfl
  have q1 : IntKind.i64.wrap (re + 1) = re + 1 := IntWalk.i64_in _ hre
  go_region_held3 (fun w' => w'.cell? ⟨r, 0, none⟩ = some (.slice (some ⟨gb, off, none⟩) m c) ∧ w'.cell? ⟨r, 6, none⟩ = some (.int .i64 re) ∧ w'.cell? ⟨gb, off, none⟩ = some (.int .i64 qp) ∧ w'.cell? ⟨gb, off + 1, none⟩ = some (.int .i64 qm0) ∧ w'.cell? ⟨gb, off + 2, none⟩ = some (.int .i64 qm1) ∧ w'.cell? ⟨gb, off + 3, none⟩ = some (.int .i64 qm2) ∧ w'.cell? ⟨gb, off + 4, none⟩ = some (.int .i64 qm3) ∧ w'.cell? ⟨gb, off + 5, none⟩ = some (.int .i64 qm4) ∧ w'.cell? ⟨gb, off + 6, none⟩ = some (.int .i64 qm5) ∧ w'.cell? ⟨gb, off + 7, none⟩ = some (.int .i64 qm6) ∧ w'.cell? ⟨gb, off + 8, none⟩ = some (.int .i64 qm7) ∧ w'.cell? ⟨gb, off + 9, none⟩ = some (.int .i64 qm8) ∧ w'.cell? ⟨gb, off + 10, none⟩ = some (.string qt) ∧ w'.cell? ⟨gb, off + 11, none⟩ = some (.int .u32 qr)) (go_keep) (fail)
  go_wp2_with fail
  obtain ⟨W, hW⟩ : ∃ W, W = (((((((((((((w3).setCell ⟨b, 0, none⟩ (.int .i64 qp)).setCell ⟨b, 1, none⟩ (.int .i64 qm0)).setCell ⟨b, 2, none⟩ (.int .i64 qm1)).setCell ⟨b, 3, none⟩ (.int .i64 qm2)).setCell ⟨b, 4, none⟩ (.int .i64 qm3)).setCell ⟨b, 5, none⟩ (.int .i64 qm4)).setCell ⟨b, 6, none⟩ (.int .i64 qm5)).setCell ⟨b, 7, none⟩ (.int .i64 qm6)).setCell ⟨b, 8, none⟩ (.int .i64 qm7)).setCell ⟨b, 9, none⟩ (.int .i64 qm8)).setCell ⟨b, 10, none⟩ (.string qt)).setCell ⟨b, 11, none⟩ (.int .u32 qr)).drew := ⟨_, rfl⟩
  rw [← hW]
  have hW' : W = (w3.setCells b 0 X.cells.toList).drew := by rw [HXX.out]; exact hW
  have K4 : Blk W b 44 X.cells := by rw [hW']; exact (K3.out.boxed X).drewN 1
  have hF : RSendOk B r (some ⟨gb, off, none⟩) m c (X :: qs) X N ba mo ji re wt w (.returned (.tuple #[.agg X.cells, .int .i64 (re + 1), .bool true])) W := by
    have hcb : Chg (fun k => k = b) w3 W := by rw [hW']; exact (Chg.cellsSet (S := fun k => k = b) (.inl rfl) _ _ _ (Chg.refl _ w3)).drewN 1
    refine ⟨rfl, H3.out.chg hcb (fun e => hrb e) (fun k hk e => HBA.out k hk e), by rw [hW']; exact (Chg.cellsSet (.inr (by rw [HE.out]; exact Nat.le_refl _)) _ _ _ C3.out).drewN 1⟩
  rw [HXC.out] at hF K4
  have q0 : W.cell? ⟨b, 0, none⟩ = some (.int .i64 qp) := K4.cell 0
  have q1 : W.cell? ⟨b, 1, none⟩ = some (.int .i64 qm0) := K4.cell 1
  have q2 : W.cell? ⟨b, 2, none⟩ = some (.int .i64 qm1) := K4.cell 2
  have q3 : W.cell? ⟨b, 3, none⟩ = some (.int .i64 qm2) := K4.cell 3
  have q4 : W.cell? ⟨b, 4, none⟩ = some (.int .i64 qm3) := K4.cell 4
  have q5 : W.cell? ⟨b, 5, none⟩ = some (.int .i64 qm4) := K4.cell 5
  have q6 : W.cell? ⟨b, 6, none⟩ = some (.int .i64 qm5) := K4.cell 6
  have q7 : W.cell? ⟨b, 7, none⟩ = some (.int .i64 qm6) := K4.cell 7
  have q8 : W.cell? ⟨b, 8, none⟩ = some (.int .i64 qm7) := K4.cell 8
  have q9 : W.cell? ⟨b, 9, none⟩ = some (.int .i64 qm8) := K4.cell 9
  have q10 : W.cell? ⟨b, 10, none⟩ = some (.string qt) := K4.cell 10
  have q11 : W.cell? ⟨b, 11, none⟩ = some (.int .u32 qr) := K4.cell 11
  clear hW hW' K4
  refine bodyPost_ret (v := .tuple #[.agg #[.int .i64 qp, .int .i64 qm0, .int .i64 qm1, .int .i64 qm2, .int .i64 qm3, .int .i64 qm4, .int .i64 qm5, .int .i64 qm6, .int .i64 qm7, .int .i64 qm8, .string qt, .int .u32 qr], .int .i64 (re + 1), .bool true]) (by simp [results, Try.results23, go_sem, q0, q1, q2, q3, q4, q5, q6, q7, q8, q9, q10, q11]) rfl ?_
  first
    | exact hF
    | (rw [HXX.out] at hF ⊢; exact hF)
    | (rw [HXX.out] at hF; exact hF)
set_option maxRecDepth 100000 in
set_option maxHeartbeats 4000000 in
theorem rans_no (B r : Nat) (A : Option Addr) (m c : Nat) (q : List Th) (N ba mo ji : Nat) (se : Bool) (re wt : Int) (yes : Bool) (now jit : Int) (w : World) (h : RV w B r A m c q N ba mo ji se re wt) (hse : se = false) :
    Calls Try.prog 24 #[.pointer (some ⟨r, 0, none⟩), .bool yes, .int .i64 now, .int .i64 jit] w (AnsNo w) := by
  have h0 := h.keep (below_alloc w (.cells th0.cells 44))
  have hB0 : Blk (w.alloc (.cells th0.cells 44)) w.heap.size 44 th0.cells := Blk.new w _ _ rfl
  have hC0 : Below w.heap.size w (w.alloc (.cells th0.cells 44)) := below_alloc _ _
  obtain ⟨w0, hw0⟩ : ∃ w0, w0 = w.alloc (.cells th0.cells 44) := ⟨_, rfl⟩
  obtain ⟨b, hb⟩ : ∃ b, b = w.heap.size := ⟨_, rfl⟩
  rw [← hw0] at h0 hB0 hC0
  rw [← hb] at hB0
  have hrl := h.blk.lt
  have hbr : b ≠ r := by omega
  have hrb : r ≠ b := by omega
  have HBA : Hid (∀ k, inB A k → k ≠ b) := Lib.hid (fun k hk => by have := h.al.lt k hk; omega)
  have hml : q.length = m := h.al.1
  have hmc : m ≤ c := h.al.2.1
  have H0 := Lib.hid h0; have HK := Lib.hid hB0; have HC := Lib.hid hC0; have HE := Lib.hid hb
  clear h h0 hB0 hC0
  simp only [Th.cells, th0] at hw0
  subst hse
  have c5 : w0.cell? ⟨r, 5, none⟩ = some (.bool false) := H0.out.blk.cell 5
  have HM := Lib.hid hml
  clear hml
  go_enter Try.func24, Try.ntmps24
  go_upto_region 1 with fail
  have e0 : (ByteArray.empty : ByteArray) = { data := #[] } := rfl
  rw [e0] at hw0
  rw [← hw0, ← hb]
  clear hw0 hb e0 hrl
  have k0 : w0.cell? ⟨b, 0, none⟩ = some (.int .i64 0) := HK.out.cell 0
  have k1 : w0.cell? ⟨b, 1, none⟩ = some (.int .i64 0) := HK.out.cell 1
  have k2 : w0.cell? ⟨b, 2, none⟩ = some (.int .i64 0) := HK.out.cell 2
  have k3 : w0.cell? ⟨b, 3, none⟩ = some (.int .i64 0) := HK.out.cell 3
  have k4 : w0.cell? ⟨b, 4, none⟩ = some (.int .i64 0) := HK.out.cell 4
  have k5 : w0.cell? ⟨b, 5, none⟩ = some (.int .i64 0) := HK.out.cell 5
  have k6 : w0.cell? ⟨b, 6, none⟩ = some (.int .i64 0) := HK.out.cell 6
  have k7 : w0.cell? ⟨b, 7, none⟩ = some (.int .i64 0) := HK.out.cell 7
  have k8 : w0.cell? ⟨b, 8, none⟩ = some (.int .i64 0) := HK.out.cell 8
  have k9 : w0.cell? ⟨b, 9, none⟩ = some (.int .i64 0) := HK.out.cell 9
  have k10 : w0.cell? ⟨b, 10, none⟩ = some (.string ByteArray.empty) := HK.out.cell 10
  have k11 : w0.cell? ⟨b, 11, none⟩ = some (.int .u32 0) := HK.out.cell 11
  have fk0 : w0.frozen? ⟨b, 0, none⟩ = false := HK.out.frozen 0
  have fk1 : w0.frozen? ⟨b, 1, none⟩ = false := HK.out.frozen 1
  have fk2 : w0.frozen? ⟨b, 2, none⟩ = false := HK.out.frozen 2
  have fk3 : w0.frozen? ⟨b, 3, none⟩ = false := HK.out.frozen 3
  have fk4 : w0.frozen? ⟨b, 4, none⟩ = false := HK.out.frozen 4
  have fk5 : w0.frozen? ⟨b, 5, none⟩ = false := HK.out.frozen 5
  have fk6 : w0.frozen? ⟨b, 6, none⟩ = false := HK.out.frozen 6
  have fk7 : w0.frozen? ⟨b, 7, none⟩ = false := HK.out.frozen 7
  have fk8 : w0.frozen? ⟨b, 8, none⟩ = false := HK.out.frozen 8
  have fk9 : w0.frozen? ⟨b, 9, none⟩ = false := HK.out.frozen 9
  have fk10 : w0.frozen? ⟨b, 10, none⟩ = false := HK.out.frozen 10
  have fk11 : w0.frozen? ⟨b, 11, none⟩ = false := HK.out.frozen 11
  go_wp2_with fail
  obtain ⟨W, hW⟩ : ∃ W, W = ((((((((((((w0).setCell ⟨b, 0, none⟩ (.int .i64 0)).setCell ⟨b, 1, none⟩ (.int .i64 0)).setCell ⟨b, 2, none⟩ (.int .i64 0)).setCell ⟨b, 3, none⟩ (.int .i64 0)).setCell ⟨b, 4, none⟩ (.int .i64 0)).setCell ⟨b, 5, none⟩ (.int .i64 0)).setCell ⟨b, 6, none⟩ (.int .i64 0)).setCell ⟨b, 7, none⟩ (.int .i64 0)).setCell ⟨b, 8, none⟩ (.int .i64 0)).setCell ⟨b, 9, none⟩ (.int .i64 0)).setCell ⟨b, 10, none⟩ (.string { data := #[] })).setCell ⟨b, 11, none⟩ (.int .u32 0) := ⟨_, rfl⟩
  rw [← hW]
  have hW' : W = (w0).setCells b 0 th0.cells.toList := hW
  have K3 : Blk W b 44 th0.cells := by rw [hW']; exact HK.out.boxed th0
  have hF : AnsNo w (.returned (.tuple #[.agg th0.cells, .bool false])) W := ⟨rfl, by rw [hW']; exact Below.cellsSet (by rw [HE.out]; exact Nat.le_refl _) _ _ _ HC.out⟩
  have q0 : W.cell? ⟨b, 0, none⟩ = some (.int .i64 0) := K3.cell 0
  have q1 : W.cell? ⟨b, 1, none⟩ = some (.int .i64 0) := K3.cell 1
  have q2 : W.cell? ⟨b, 2, none⟩ = some (.int .i64 0) := K3.cell 2
  have q3 : W.cell? ⟨b, 3, none⟩ = some (.int .i64 0) := K3.cell 3
  have q4 : W.cell? ⟨b, 4, none⟩ = some (.int .i64 0) := K3.cell 4
  have q5 : W.cell? ⟨b, 5, none⟩ = some (.int .i64 0) := K3.cell 5
  have q6 : W.cell? ⟨b, 6, none⟩ = some (.int .i64 0) := K3.cell 6
  have q7 : W.cell? ⟨b, 7, none⟩ = some (.int .i64 0) := K3.cell 7
  have q8 : W.cell? ⟨b, 8, none⟩ = some (.int .i64 0) := K3.cell 8
  have q9 : W.cell? ⟨b, 9, none⟩ = some (.int .i64 0) := K3.cell 9
  have q10 : W.cell? ⟨b, 10, none⟩ = some (.string ByteArray.empty) := K3.cell 10
  have q11 : W.cell? ⟨b, 11, none⟩ = some (.int .u32 0) := K3.cell 11
  clear hW hW' K3
  refine bodyPost_ret (v := .tuple #[.agg #[.int .i64 0, .int .i64 0, .int .i64 0, .int .i64 0, .int .i64 0, .int .i64 0, .int .i64 0, .int .i64 0, .int .i64 0, .int .i64 0, .string ByteArray.empty, .int .u32 0], .bool false]) (by simp [results, Try.results24, go_sem, q0, q1, q2, q3, q4, q5, q6, q7, q8, q9, q10, q11]) rfl ?_
  exact hF
theorem AW.tail {w : World} {B m c gb off : Nat} {x : Th} {q : List Th} (h : AW w B (some ⟨gb, off, none⟩) m c (x :: q)) : AW w B (some ⟨gb, off + 12, none⟩) (m - 1) (c - 1) q := by
  have hl := h.1
  simp only [List.length_cons] at hl
  refine ⟨by omega, by have := h.2.1; omega, by have := h.2.2.1; omega, ?_⟩
  rcases h.2.2.2 with ⟨e, _⟩ | ⟨g, o, cur, e, hg, hB, hs, hc⟩
  · cases e
  · injection e with e
    injection e with e1 e2
    subst e1 e2
    refine .inr ⟨gb, off + 12, cur, rfl, hg, hB, by have := h.2.1; omega, fun i u hu => ?_⟩
    have := hc (i + 12) u (by
      have e1 : flatE Th.cells (x :: q) = x.cells.toList ++ flatE Th.cells q := flatE_cons x q
      rw [e1, List.getElem?_append_right (by simp [Th.cells])]
      simpa [Th.cells] using hu)
    rw [show off + 12 + i = off + (i + 12) from by omega]
    exact this
theorem AW.last {w : World} {B gb off : Nat} {q : List Th} (h : AW w B (some ⟨gb, off, none⟩) 1 1 q) : AW w B (some ⟨gb, off, none⟩) 0 0 [] := by
  refine ⟨rfl, Nat.le_refl _, Nat.zero_le _, ?_⟩
  rcases h.2.2.2 with ⟨e, _⟩ | ⟨g, o, cur, e, hg, hB, hs, hc⟩
  · cases e
  · injection e with e
    injection e with e1 e2
    subst e1 e2
    exact .inr ⟨gb, off, cur, rfl, hg, hB, by omega, fun i u hu => by simp [flatE] at hu⟩
def RAns (B r : Nat) (A : Option Addr) (m2 : Nat) (qs : List Th) (x : Th) (N ba mo ji : Nat) (re wt : Int) (w : World) (e : Ending) (w' : World) : Prop :=
  e = .returned (.tuple #[.agg x.cells, .bool true]) ∧ ∃ A' c', RV w' B r A' m2 c' qs N ba mo ji false re wt ∧ Chg (fun k => k = r) w w' ∧ ∀ k, inB A' k → inB A k
set_option maxRecDepth 100000 in
set_option maxHeartbeats 4000000 in
theorem rans_yes (B r : Nat) (A : Option Addr) (m c : Nat) (q : List Th) (x : Th) (qs : List Th) (N ba mo ji : Nat) (se : Bool) (re wt : Int) (now jit : Int) (w : World) (h : RV w B r A m c q N ba mo ji se re wt) (hx : q = x :: qs) (hse : se = true) :
    Calls Try.prog 24 #[.pointer (some ⟨r, 0, none⟩), .bool true, .int .i64 now, .int .i64 jit] w (RAns B r A (m - 1) qs x N ba mo ji 0 0 w) := by
  have h0 := h.keep (below_alloc w (.cells th0.cells 44))
  have hB0 : Blk (w.alloc (.cells th0.cells 44)) w.heap.size 44 th0.cells := Blk.new w _ _ rfl
  have hC0 : Below w.heap.size w (w.alloc (.cells th0.cells 44)) := below_alloc _ _
  obtain ⟨w0, hw0⟩ : ∃ w0, w0 = w.alloc (.cells th0.cells 44) := ⟨_, rfl⟩
  obtain ⟨b, hb⟩ : ∃ b, b = w.heap.size := ⟨_, rfl⟩
  rw [← hw0] at h0 hB0 hC0
  rw [← hb] at hB0
  have hrl := h.blk.lt
  have hbr : b ≠ r := by omega
  have hrb : r ≠ b := by omega
  have HBA : Hid (∀ k, inB A k → k ≠ b) := Lib.hid (fun k hk => by have := h.al.lt k hk; omega)
  have hml : q.length = m := h.al.1
  have hmc : m ≤ c := h.al.2.1
  have H0 := Lib.hid h0; have HK := Lib.hid hB0; have HC := Lib.hid hC0; have HE := Lib.hid hb
  clear h h0 hB0 hC0
  simp only [Th.cells, th0] at hw0
  subst hx hse
  obtain ⟨qp, qm0, qm1, qm2, qm3, qm4, qm5, qm6, qm7, qm8, qt, qr⟩ := x
  obtain ⟨X, hX⟩ : ∃ X : Th, X = ⟨qp, qm0, qm1, qm2, qm3, qm4, qm5, qm6, qm7, qm8, qt, qr⟩ := ⟨_, rfl⟩
  have HXX := Lib.hid hX
  have HXC : Hid (X.cells = #[.int .i64 qp, .int .i64 qm0, .int .i64 qm1, .int .i64 qm2, .int .i64 qm3, .int .i64 qm4, .int .i64 qm5, .int .i64 qm6, .int .i64 qm7, .int .i64 qm8, .string qt, .int .u32 qr]) := Lib.hid (by rw [hX]; rfl)
  rw [← hX] at H0 hml ⊢
  clear hX
  have hm0 : 0 < m := by simp only [List.length_cons] at hml; omega
  have hm0' : (0 : Int) < (m : Int) := by omega
  have HML := Lib.hid hml
  clear hml
  obtain ⟨gb, off, rfl, HX0⟩ : ∃ gb off, A = some ⟨gb, off, none⟩ ∧ Hid (gb < w0.heap.size ∧ ∀ i u, (#[.int .i64 qp, .int .i64 qm0, .int .i64 qm1, .int .i64 qm2, .int .i64 qm3, .int .i64 qm4, .int .i64 qm5, .int .i64 qm6, .int .i64 qm7, .int .i64 qm8, .string qt, .int .u32 qr])[i]? = some u → w0.cell? ⟨gb, off + i, none⟩ = some u) := by
    obtain ⟨gb, off, e, hlt, hc⟩ := H0.out.al.as.2 0 _ rfl
    exact ⟨gb, off, e, Lib.hid ⟨hlt, fun i u hu => by have := hc i u (by rw [HXC.out]; exact hu); simpa using this⟩⟩
  have hgb : gb ≠ b := HBA.out gb ⟨_, rfl, rfl⟩
  have hbg : b ≠ gb := fun e => hgb e.symm
  have hgr : gb ≠ r := H0.out.ar gb ⟨_, rfl, rfl⟩
  have c0 : w0.cell? ⟨r, 0, none⟩ = some (.slice (some ⟨gb, off, none⟩) m c) := H0.out.blk.cell 0
  have c5 : w0.cell? ⟨r, 5, none⟩ = some (.bool true) := H0.out.blk.cell 5
  have x0 : w0.cell? ⟨gb, off, none⟩ = some (.int .i64 qp) := HX0.out.2 0 _ rfl
  have x1 : w0.cell? ⟨gb, off + 1, none⟩ = some (.int .i64 qm0) := HX0.out.2 1 _ rfl
  have x2 : w0.cell? ⟨gb, off + 2, none⟩ = some (.int .i64 qm1) := HX0.out.2 2 _ rfl
  have x3 : w0.cell? ⟨gb, off + 3, none⟩ = some (.int .i64 qm2) := HX0.out.2 3 _ rfl
  have x4 : w0.cell? ⟨gb, off + 4, none⟩ = some (.int .i64 qm3) := HX0.out.2 4 _ rfl
  have x5 : w0.cell? ⟨gb, off + 5, none⟩ = some (.int .i64 qm4) := HX0.out.2 5 _ rfl
  have x6 : w0.cell? ⟨gb, off + 6, none⟩ = some (.int .i64 qm5) := HX0.out.2 6 _ rfl
  have x7 : w0.cell? ⟨gb, off + 7, none⟩ = some (.int .i64 qm6) := HX0.out.2 7 _ rfl
  have x8 : w0.cell? ⟨gb, off + 8, none⟩ = some (.int .i64 qm7) := HX0.out.2 8 _ rfl
  have x9 : w0.cell? ⟨gb, off + 9, none⟩ = some (.int .i64 qm8) := HX0.out.2 9 _ rfl
  have x10 : w0.cell? ⟨gb, off + 10, none⟩ = some (.string qt) := HX0.out.2 10 _ rfl
  have x11 : w0.cell? ⟨gb, off + 11, none⟩ = some (.int .u32 qr) := HX0.out.2 11 _ rfl
  go_enter Try.func24, Try.ntmps24
  go_upto_region 1 with fail
  have e0 : (ByteArray.empty : ByteArray) = { data := #[] } := rfl
  rw [e0] at hw0
  rw [← hw0, ← hb]
  clear hw0 hb e0 hrl
  go_upto_region 4 with fail
  obtain ⟨w1, hw1⟩ : ∃ w1, w1 = w0.alloc (.cells #[.int .i64 qp, .int .i64 qm0, .int .i64 qm1, .int .i64 qm2, .int .i64 qm3, .int .i64 qm4, .int .i64 qm5, .int .i64 qm6, .int .i64 qm7, .int .i64 qm8, .string qt, .int .u32 qr] 44) := ⟨_, rfl⟩
  obtain ⟨b1, hb1⟩ : ∃ b1, b1 = w0.heap.size := ⟨_, rfl⟩
  rw [← hw1, ← hb1]
  have hba : Below w0.heap.size w0 w1 := by rw [hw1]; exact below_alloc _ _
  have H1 := Lib.hid (H0.out.keep hba)
  have K1 := Lib.hid (HK.out.keep hba)
  have X1 : Hid (Blk w1 b1 44 #[.int .i64 qp, .int .i64 qm0, .int .i64 qm1, .int .i64 qm2, .int .i64 qm3, .int .i64 qm4, .int .i64 qm5, .int .i64 qm6, .int .i64 qm7, .int .i64 qm8, .string qt, .int .u32 qr]) := Lib.hid (by rw [hw1, hb1]; exact Blk.new _ _ _ rfl)
  have C1 := Lib.hid (HC.out.trans (hba.mono HC.out.size))
  have h1r : b1 ≠ r := by have := H0.out.blk.lt; omega
  have hr1 : r ≠ b1 := by omega
  have h1b : b1 ≠ b := by have := HK.out.lt; omega
  have hb1' : b ≠ b1 := by omega
  clear hw1 hb1 hba H0 HK HC c0 c5 x0 x1 x2 x3 x4 x5 x6 x7 x8 x9 x10 x11
  have hmI : (1 : Int) ≤ (m : Int) := by omega
  have hcI : (m : Int) ≤ (c : Int) := by omega
  have HCL := Lib.hid H1.out.al.2.2.1
  have hcm := HCL.out
  simp only [maxLen] at hcm
  by_cases hc1 : c = 1
  · subst hc1
    obtain rfl : m = 1 := by omega
    obtain rfl : qs = [] := by have := HML.out; simp only [List.length_cons] at this; exact List.eq_nil_of_length_eq_zero (by omega)
    have c0 : w1.cell? ⟨r, 0, none⟩ = some (.slice (some ⟨gb, off, none⟩) 1 1) := H1.out.blk.cell 0
    have f0 := H1.out.blk.frozen 0
    have f5 := H1.out.blk.frozen 5
    have f6 := H1.out.blk.frozen 6
    have f7 := H1.out.blk.frozen 7
    have c5 : w1.cell? ⟨r, 5, none⟩ = some (.bool true) := H1.out.blk.cell 5
    have c6 : w1.cell? ⟨r, 6, none⟩ = some (.int .i64 re) := H1.out.blk.cell 6
    have c7 : w1.cell? ⟨r, 7, none⟩ = some (.int .i64 wt) := H1.out.blk.cell 7
    go_upto_region 9 with fail
    obtain ⟨w2, hw2⟩ : ∃ w2, w2 = (((w1.setCell ⟨r, 5, none⟩ (.bool false)).setCell ⟨r, 0, none⟩ (.slice (some ⟨gb, off, none⟩) 0 0)).setCell ⟨r, 6, none⟩ (.int .i64 0)).setCell ⟨r, 7, none⟩ (.int .i64 0) := ⟨_, rfl⟩
    rw [← hw2]
    have hc2 : Chg (fun k => k = r) w1 w2 := by
      rw [hw2]
      exact Chg.setCell (S := fun k => k = r) (p := ⟨r, 7, none⟩) (Chg.setCell (S := fun k => k = r) (p := ⟨r, 6, none⟩) (Chg.setCell (S := fun k => k = r) (p := ⟨r, 0, none⟩) (Chg.setCell (S := fun k => k = r) (p := ⟨r, 5, none⟩) (Chg.refl _ w1) (.inl rfl) _) (.inl rfl) _) (.inl rfl) _) (.inl rfl) _
    have H2 : Hid (RV w2 B r (some ⟨gb, off, none⟩) 0 0 [] N ba mo ji false 0 0) := Lib.hid (by
      have hal : AW w1 B (some ⟨gb, off, none⟩) 0 0 [] := H1.out.al.last
      refine ⟨?_, hal.chg hc2 (fun k hk e => H1.out.ar k (by obtain ⟨_, e5, rfl⟩ := hk; obtain rfl := Option.some.inj e5; exact ⟨_, rfl, rfl⟩) e), fun k hk => H1.out.ar k (by obtain ⟨_, e5, rfl⟩ := hk; obtain rfl := Option.some.inj e5; exact ⟨_, rfl, rfl⟩)⟩
      have := (((H1.out.blk.set_ 5 (.bool false)).set_ 0 (.slice (some ⟨gb, off, none⟩) 0 0)).set_ 6 (.int .i64 0)).set_ 7 (.int .i64 0)
      rw [hw2]
      simpa using this)
    have K2 : Hid (Blk w2 b 44 th0.cells) := Lib.hid (K1.out.chg hc2 hbr)
    have X2 : Hid (Blk w2 b1 44 #[.int .i64 qp, .int .i64 qm0, .int .i64 qm1, .int .i64 qm2, .int .i64 qm3, .int .i64 qm4, .int .i64 qm5, .int .i64 qm6, .int .i64 qm7, .int .i64 qm8, .string qt, .int .u32 qr]) := Lib.hid (X1.out.chg hc2 h1r)
    have C2 : Hid (Chg (fun k => k = r) w w2) := Lib.hid ((Chg.of_below C1.out _).trans hc2 (fun _ _ h => h))
    clear hw2 hc2 c0 c5 c6 c7 f0 f5 f6 f7 H1 K1 X1 C1
    have k0 : w2.cell? ⟨b, 0, none⟩ = some (.int .i64 0) := K2.out.cell 0
    have k1 : w2.cell? ⟨b, 1, none⟩ = some (.int .i64 0) := K2.out.cell 1
    have k2 : w2.cell? ⟨b, 2, none⟩ = some (.int .i64 0) := K2.out.cell 2
    have k3 : w2.cell? ⟨b, 3, none⟩ = some (.int .i64 0) := K2.out.cell 3
    have k4 : w2.cell? ⟨b, 4, none⟩ = some (.int .i64 0) := K2.out.cell 4
    have k5 : w2.cell? ⟨b, 5, none⟩ = some (.int .i64 0) := K2.out.cell 5
    have k6 : w2.cell? ⟨b, 6, none⟩ = some (.int .i64 0) := K2.out.cell 6
    have k7 : w2.cell? ⟨b, 7, none⟩ = some (.int .i64 0) := K2.out.cell 7
    have k8 : w2.cell? ⟨b, 8, none⟩ = some (.int .i64 0) := K2.out.cell 8
    have k9 : w2.cell? ⟨b, 9, none⟩ = some (.int .i64 0) := K2.out.cell 9
    have k10 : w2.cell? ⟨b, 10, none⟩ = some (.string ByteArray.empty) := K2.out.cell 10
    have k11 : w2.cell? ⟨b, 11, none⟩ = some (.int .u32 0) := K2.out.cell 11
    have fk0 : w2.frozen? ⟨b, 0, none⟩ = false := K2.out.frozen 0
    have fk1 : w2.frozen? ⟨b, 1, none⟩ = false := K2.out.frozen 1
    have fk2 : w2.frozen? ⟨b, 2, none⟩ = false := K2.out.frozen 2
    have fk3 : w2.frozen? ⟨b, 3, none⟩ = false := K2.out.frozen 3
    have fk4 : w2.frozen? ⟨b, 4, none⟩ = false := K2.out.frozen 4
    have fk5 : w2.frozen? ⟨b, 5, none⟩ = false := K2.out.frozen 5
    have fk6 : w2.frozen? ⟨b, 6, none⟩ = false := K2.out.frozen 6
    have fk7 : w2.frozen? ⟨b, 7, none⟩ = false := K2.out.frozen 7
    have fk8 : w2.frozen? ⟨b, 8, none⟩ = false := K2.out.frozen 8
    have fk9 : w2.frozen? ⟨b, 9, none⟩ = false := K2.out.frozen 9
    have fk10 : w2.frozen? ⟨b, 10, none⟩ = false := K2.out.frozen 10
    have fk11 : w2.frozen? ⟨b, 11, none⟩ = false := K2.out.frozen 11
    have x0 : w2.cell? ⟨b1, 0, none⟩ = some (.int .i64 qp) := X2.out.cell 0
    have x1 : w2.cell? ⟨b1, 1, none⟩ = some (.int .i64 qm0) := X2.out.cell 1
    have x2 : w2.cell? ⟨b1, 2, none⟩ = some (.int .i64 qm1) := X2.out.cell 2
    have x3 : w2.cell? ⟨b1, 3, none⟩ = some (.int .i64 qm2) := X2.out.cell 3
    have x4 : w2.cell? ⟨b1, 4, none⟩ = some (.int .i64 qm3) := X2.out.cell 4
    have x5 : w2.cell? ⟨b1, 5, none⟩ = some (.int .i64 qm4) := X2.out.cell 5
    have x6 : w2.cell? ⟨b1, 6, none⟩ = some (.int .i64 qm5) := X2.out.cell 6
    have x7 : w2.cell? ⟨b1, 7, none⟩ = some (.int .i64 qm6) := X2.out.cell 7
    have x8 : w2.cell? ⟨b1, 8, none⟩ = some (.int .i64 qm7) := X2.out.cell 8
    have x9 : w2.cell? ⟨b1, 9, none⟩ = some (.int .i64 qm8) := X2.out.cell 9
    have x10 : w2.cell? ⟨b1, 10, none⟩ = some (.string qt) := X2.out.cell 10
    have x11 : w2.cell? ⟨b1, 11, none⟩ = some (.int .u32 qr) := X2.out.cell 11
    go_wp2_with fail
    obtain ⟨W, hW⟩ : ∃ W, W = ((((((((((((w2).setCell ⟨b, 0, none⟩ (.int .i64 qp)).setCell ⟨b, 1, none⟩ (.int .i64 qm0)).setCell ⟨b, 2, none⟩ (.int .i64 qm1)).setCell ⟨b, 3, none⟩ (.int .i64 qm2)).setCell ⟨b, 4, none⟩ (.int .i64 qm3)).setCell ⟨b, 5, none⟩ (.int .i64 qm4)).setCell ⟨b, 6, none⟩ (.int .i64 qm5)).setCell ⟨b, 7, none⟩ (.int .i64 qm6)).setCell ⟨b, 8, none⟩ (.int .i64 qm7)).setCell ⟨b, 9, none⟩ (.int .i64 qm8)).setCell ⟨b, 10, none⟩ (.string qt)).setCell ⟨b, 11, none⟩ (.int .u32 qr) := ⟨_, rfl⟩
    rw [← hW]
    have hW' : W = w2.setCells b 0 X.cells.toList := by rw [HXX.out]; exact hW
    have K4 : Blk W b 44 X.cells := by rw [hW']; exact K2.out.boxed X
    have hcb : Chg (fun k => k = b) w2 W := by rw [hW']; exact Chg.cellsSet (S := fun k => k = b) (.inl rfl) _ _ _ (Chg.refl _ w2)
    have hF : RAns B r (some ⟨gb, off, none⟩) (1 - 1) [] X N ba mo ji 0 0 w (.returned (.tuple #[.agg X.cells, .bool true])) W :=
      ⟨rfl, some ⟨gb, off, none⟩, 0, H2.out.chg hcb (fun e => hrb e) (fun k hk e => HBA.out k (by obtain ⟨_, e5, rfl⟩ := hk; obtain rfl := Option.some.inj e5; exact ⟨_, rfl, rfl⟩) e), by rw [hW']; exact Chg.cellsSet (.inr (by rw [HE.out]; exact Nat.le_refl _)) _ _ _ C2.out, fun k hk => by obtain ⟨_, e5, rfl⟩ := hk; obtain rfl := Option.some.inj e5; exact ⟨_, rfl, rfl⟩⟩
    rw [HXC.out] at hF K4
    have q0 : W.cell? ⟨b, 0, none⟩ = some (.int .i64 qp) := K4.cell 0
    have q1 : W.cell? ⟨b, 1, none⟩ = some (.int .i64 qm0) := K4.cell 1
    have q2 : W.cell? ⟨b, 2, none⟩ = some (.int .i64 qm1) := K4.cell 2
    have q3 : W.cell? ⟨b, 3, none⟩ = some (.int .i64 qm2) := K4.cell 3
    have q4 : W.cell? ⟨b, 4, none⟩ = some (.int .i64 qm3) := K4.cell 4
    have q5 : W.cell? ⟨b, 5, none⟩ = some (.int .i64 qm4) := K4.cell 5
    have q6 : W.cell? ⟨b, 6, none⟩ = some (.int .i64 qm5) := K4.cell 6
    have q7 : W.cell? ⟨b, 7, none⟩ = some (.int .i64 qm6) := K4.cell 7
    have q8 : W.cell? ⟨b, 8, none⟩ = some (.int .i64 qm7) := K4.cell 8
    have q9 : W.cell? ⟨b, 9, none⟩ = some (.int .i64 qm8) := K4.cell 9
    have q10 : W.cell? ⟨b, 10, none⟩ = some (.string qt) := K4.cell 10
    have q11 : W.cell? ⟨b, 11, none⟩ = some (.int .u32 qr) := K4.cell 11
    clear hW hW' K4 hcb
    refine bodyPost_ret (v := .tuple #[.agg #[.int .i64 qp, .int .i64 qm0, .int .i64 qm1, .int .i64 qm2, .int .i64 qm3, .int .i64 qm4, .int .i64 qm5, .int .i64 qm6, .int .i64 qm7, .int .i64 qm8, .string qt, .int .u32 qr], .bool true]) (by simp [results, Try.results24, go_sem, q0, q1, q2, q3, q4, q5, q6, q7, q8, q9, q10, q11]) rfl ?_
    first
      | exact hF
      | (rw [HXX.out] at hF ⊢; exact hF)
      | (rw [HXX.out] at hF; exact hF)
  · have hc1' : ¬ (1 : Nat) = c := fun e => hc1 e.symm
    have c0 : w1.cell? ⟨r, 0, none⟩ = some (.slice (some ⟨gb, off, none⟩) m c) := H1.out.blk.cell 0
    have f0 := H1.out.blk.frozen 0
    have f5 := H1.out.blk.frozen 5
    have f6 := H1.out.blk.frozen 6
    have f7 := H1.out.blk.frozen 7
    have c5 : w1.cell? ⟨r, 5, none⟩ = some (.bool true) := H1.out.blk.cell 5
    have c6 : w1.cell? ⟨r, 6, none⟩ = some (.int .i64 re) := H1.out.blk.cell 6
    have c7 : w1.cell? ⟨r, 7, none⟩ = some (.int .i64 wt) := H1.out.blk.cell 7
    go_upto_region 9 with fail
    obtain ⟨w2, hw2⟩ : ∃ w2, w2 = (((w1.setCell ⟨r, 5, none⟩ (.bool false)).setCell ⟨r, 0, none⟩ (.slice (some ⟨gb, off + 12, none⟩) (m - 1) (c - 1))).setCell ⟨r, 6, none⟩ (.int .i64 0)).setCell ⟨r, 7, none⟩ (.int .i64 0) := ⟨_, rfl⟩
    rw [← hw2]
    have hc2 : Chg (fun k => k = r) w1 w2 := by
      rw [hw2]
      exact Chg.setCell (S := fun k => k = r) (p := ⟨r, 7, none⟩) (Chg.setCell (S := fun k => k = r) (p := ⟨r, 6, none⟩) (Chg.setCell (S := fun k => k = r) (p := ⟨r, 0, none⟩) (Chg.setCell (S := fun k => k = r) (p := ⟨r, 5, none⟩) (Chg.refl _ w1) (.inl rfl) _) (.inl rfl) _) (.inl rfl) _) (.inl rfl) _
    have H2 : Hid (RV w2 B r (some ⟨gb, off + 12, none⟩) (m - 1) (c - 1) qs N ba mo ji false 0 0) := Lib.hid (by
      have hal : AW w1 B (some ⟨gb, off + 12, none⟩) (m - 1) (c - 1) qs := H1.out.al.tail
      refine ⟨?_, hal.chg hc2 (fun k hk e => H1.out.ar k (by obtain ⟨_, e5, rfl⟩ := hk; obtain rfl := Option.some.inj e5; exact ⟨_, rfl, rfl⟩) e), fun k hk => H1.out.ar k (by obtain ⟨_, e5, rfl⟩ := hk; obtain rfl := Option.some.inj e5; exact ⟨_, rfl, rfl⟩)⟩
      have := (((H1.out.blk.set_ 5 (.bool false)).set_ 0 (.slice (some ⟨gb, off + 12, none⟩) (m - 1) (c - 1))).set_ 6 (.int .i64 0)).set_ 7 (.int .i64 0)
      rw [hw2]
      simpa using this)
    have K2 : Hid (Blk w2 b 44 th0.cells) := Lib.hid (K1.out.chg hc2 hbr)
    have X2 : Hid (Blk w2 b1 44 #[.int .i64 qp, .int .i64 qm0, .int .i64 qm1, .int .i64 qm2, .int .i64 qm3, .int .i64 qm4, .int .i64 qm5, .int .i64 qm6, .int .i64 qm7, .int .i64 qm8, .string qt, .int .u32 qr]) := Lib.hid (X1.out.chg hc2 h1r)
    have C2 : Hid (Chg (fun k => k = r) w w2) := Lib.hid ((Chg.of_below C1.out _).trans hc2 (fun _ _ h => h))
    clear hw2 hc2 c0 c5 c6 c7 f0 f5 f6 f7 H1 K1 X1 C1
    have k0 : w2.cell? ⟨b, 0, none⟩ = some (.int .i64 0) := K2.out.cell 0
    have k1 : w2.cell? ⟨b, 1, none⟩ = some (.int .i64 0) := K2.out.cell 1
    have k2 : w2.cell? ⟨b, 2, none⟩ = some (.int .i64 0) := K2.out.cell 2
    have k3 : w2.cell? ⟨b, 3, none⟩ = some (.int .i64 0) := K2.out.cell 3
    have k4 : w2.cell? ⟨b, 4, none⟩ = some (.int .i64 0) := K2.out.cell 4
    have k5 : w2.cell? ⟨b, 5, none⟩ = some (.int .i64 0) := K2.out.cell 5
    have k6 : w2.cell? ⟨b, 6, none⟩ = some (.int .i64 0) := K2.out.cell 6
    have k7 : w2.cell? ⟨b, 7, none⟩ = some (.int .i64 0) := K2.out.cell 7
    have k8 : w2.cell? ⟨b, 8, none⟩ = some (.int .i64 0) := K2.out.cell 8
    have k9 : w2.cell? ⟨b, 9, none⟩ = some (.int .i64 0) := K2.out.cell 9
    have k10 : w2.cell? ⟨b, 10, none⟩ = some (.string ByteArray.empty) := K2.out.cell 10
    have k11 : w2.cell? ⟨b, 11, none⟩ = some (.int .u32 0) := K2.out.cell 11
    have fk0 : w2.frozen? ⟨b, 0, none⟩ = false := K2.out.frozen 0
    have fk1 : w2.frozen? ⟨b, 1, none⟩ = false := K2.out.frozen 1
    have fk2 : w2.frozen? ⟨b, 2, none⟩ = false := K2.out.frozen 2
    have fk3 : w2.frozen? ⟨b, 3, none⟩ = false := K2.out.frozen 3
    have fk4 : w2.frozen? ⟨b, 4, none⟩ = false := K2.out.frozen 4
    have fk5 : w2.frozen? ⟨b, 5, none⟩ = false := K2.out.frozen 5
    have fk6 : w2.frozen? ⟨b, 6, none⟩ = false := K2.out.frozen 6
    have fk7 : w2.frozen? ⟨b, 7, none⟩ = false := K2.out.frozen 7
    have fk8 : w2.frozen? ⟨b, 8, none⟩ = false := K2.out.frozen 8
    have fk9 : w2.frozen? ⟨b, 9, none⟩ = false := K2.out.frozen 9
    have fk10 : w2.frozen? ⟨b, 10, none⟩ = false := K2.out.frozen 10
    have fk11 : w2.frozen? ⟨b, 11, none⟩ = false := K2.out.frozen 11
    have x0 : w2.cell? ⟨b1, 0, none⟩ = some (.int .i64 qp) := X2.out.cell 0
    have x1 : w2.cell? ⟨b1, 1, none⟩ = some (.int .i64 qm0) := X2.out.cell 1
    have x2 : w2.cell? ⟨b1, 2, none⟩ = some (.int .i64 qm1) := X2.out.cell 2
    have x3 : w2.cell? ⟨b1, 3, none⟩ = some (.int .i64 qm2) := X2.out.cell 3
    have x4 : w2.cell? ⟨b1, 4, none⟩ = some (.int .i64 qm3) := X2.out.cell 4
    have x5 : w2.cell? ⟨b1, 5, none⟩ = some (.int .i64 qm4) := X2.out.cell 5
    have x6 : w2.cell? ⟨b1, 6, none⟩ = some (.int .i64 qm5) := X2.out.cell 6
    have x7 : w2.cell? ⟨b1, 7, none⟩ = some (.int .i64 qm6) := X2.out.cell 7
    have x8 : w2.cell? ⟨b1, 8, none⟩ = some (.int .i64 qm7) := X2.out.cell 8
    have x9 : w2.cell? ⟨b1, 9, none⟩ = some (.int .i64 qm8) := X2.out.cell 9
    have x10 : w2.cell? ⟨b1, 10, none⟩ = some (.string qt) := X2.out.cell 10
    have x11 : w2.cell? ⟨b1, 11, none⟩ = some (.int .u32 qr) := X2.out.cell 11
    go_wp2_with fail
    obtain ⟨W, hW⟩ : ∃ W, W = ((((((((((((w2).setCell ⟨b, 0, none⟩ (.int .i64 qp)).setCell ⟨b, 1, none⟩ (.int .i64 qm0)).setCell ⟨b, 2, none⟩ (.int .i64 qm1)).setCell ⟨b, 3, none⟩ (.int .i64 qm2)).setCell ⟨b, 4, none⟩ (.int .i64 qm3)).setCell ⟨b, 5, none⟩ (.int .i64 qm4)).setCell ⟨b, 6, none⟩ (.int .i64 qm5)).setCell ⟨b, 7, none⟩ (.int .i64 qm6)).setCell ⟨b, 8, none⟩ (.int .i64 qm7)).setCell ⟨b, 9, none⟩ (.int .i64 qm8)).setCell ⟨b, 10, none⟩ (.string qt)).setCell ⟨b, 11, none⟩ (.int .u32 qr) := ⟨_, rfl⟩
    rw [← hW]
    have hW' : W = w2.setCells b 0 X.cells.toList := by rw [HXX.out]; exact hW
    have K4 : Blk W b 44 X.cells := by rw [hW']; exact K2.out.boxed X
    have hcb : Chg (fun k => k = b) w2 W := by rw [hW']; exact Chg.cellsSet (S := fun k => k = b) (.inl rfl) _ _ _ (Chg.refl _ w2)
    have hF : RAns B r (some ⟨gb, off, none⟩) (m - 1) qs X N ba mo ji 0 0 w (.returned (.tuple #[.agg X.cells, .bool true])) W :=
      ⟨rfl, some ⟨gb, off + 12, none⟩, (c - 1), H2.out.chg hcb (fun e => hrb e) (fun k hk e => HBA.out k (by obtain ⟨_, e5, rfl⟩ := hk; obtain rfl := Option.some.inj e5; exact ⟨_, rfl, rfl⟩) e), by rw [hW']; exact Chg.cellsSet (.inr (by rw [HE.out]; exact Nat.le_refl _)) _ _ _ C2.out, fun k hk => by obtain ⟨_, e5, rfl⟩ := hk; obtain rfl := Option.some.inj e5; exact ⟨_, rfl, rfl⟩⟩
    rw [HXC.out] at hF K4
    have q0 : W.cell? ⟨b, 0, none⟩ = some (.int .i64 qp) := K4.cell 0
    have q1 : W.cell? ⟨b, 1, none⟩ = some (.int .i64 qm0) := K4.cell 1
    have q2 : W.cell? ⟨b, 2, none⟩ = some (.int .i64 qm1) := K4.cell 2
    have q3 : W.cell? ⟨b, 3, none⟩ = some (.int .i64 qm2) := K4.cell 3
    have q4 : W.cell? ⟨b, 4, none⟩ = some (.int .i64 qm3) := K4.cell 4
    have q5 : W.cell? ⟨b, 5, none⟩ = some (.int .i64 qm4) := K4.cell 5
    have q6 : W.cell? ⟨b, 6, none⟩ = some (.int .i64 qm5) := K4.cell 6
    have q7 : W.cell? ⟨b, 7, none⟩ = some (.int .i64 qm6) := K4.cell 7
    have q8 : W.cell? ⟨b, 8, none⟩ = some (.int .i64 qm7) := K4.cell 8
    have q9 : W.cell? ⟨b, 9, none⟩ = some (.int .i64 qm8) := K4.cell 9
    have q10 : W.cell? ⟨b, 10, none⟩ = some (.string qt) := K4.cell 10
    have q11 : W.cell? ⟨b, 11, none⟩ = some (.int .u32 qr) := K4.cell 11
    clear hW hW' K4 hcb
    refine bodyPost_ret (v := .tuple #[.agg #[.int .i64 qp, .int .i64 qm0, .int .i64 qm1, .int .i64 qm2, .int .i64 qm3, .int .i64 qm4, .int .i64 qm5, .int .i64 qm6, .int .i64 qm7, .int .i64 qm8, .string qt, .int .u32 qr], .bool true]) (by simp [results, Try.results24, go_sem, q0, q1, q2, q3, q4, q5, q6, q7, q8, q9, q10, q11]) rfl ?_
    first
      | exact hF
      | (rw [HXX.out] at hF ⊢; exact hF)
      | (rw [HXX.out] at hF; exact hF)
set_option maxRecDepth 100000 in
set_option maxHeartbeats 4000000 in
theorem rans_again (B r : Nat) (A : Option Addr) (m c : Nat) (q : List Th) (x : Th) (qs : List Th) (N ba mo ji : Nat) (se : Bool) (re wt : Int) (now jit : Int) (w : World) (h : RV w B r A m c q N ba mo ji se re wt) (hx : q = x :: qs) (hse : se = true) (hre : 0 ≤ re ∧ re ≤ 1000000) :
    Calls Try.prog 24 #[.pointer (some ⟨r, 0, none⟩), .bool false, .int .i64 now, .int .i64 jit] w (RAns B r A m q x N ba mo ji (re + 1) (duI (tmC now) ba mo re jit ji) w) := by
  have h0 := h.keep (below_alloc w (.cells th0.cells 44))
  have hB0 : Blk (w.alloc (.cells th0.cells 44)) w.heap.size 44 th0.cells := Blk.new w _ _ rfl
  have hC0 : Below w.heap.size w (w.alloc (.cells th0.cells 44)) := below_alloc _ _
  obtain ⟨w0, hw0⟩ : ∃ w0, w0 = w.alloc (.cells th0.cells 44) := ⟨_, rfl⟩
  obtain ⟨b, hb⟩ : ∃ b, b = w.heap.size := ⟨_, rfl⟩
  rw [← hw0] at h0 hB0 hC0
  rw [← hb] at hB0
  have hrl := h.blk.lt
  have hbr : b ≠ r := by omega
  have hrb : r ≠ b := by omega
  have HBA : Hid (∀ k, inB A k → k ≠ b) := Lib.hid (fun k hk => by have := h.al.lt k hk; omega)
  have hml : q.length = m := h.al.1
  have hmc : m ≤ c := h.al.2.1
  have H0 := Lib.hid h0; have HK := Lib.hid hB0; have HC := Lib.hid hC0; have HE := Lib.hid hb
  clear h h0 hB0 hC0
  simp only [Th.cells, th0] at hw0
  subst hx hse
  obtain ⟨qp, qm0, qm1, qm2, qm3, qm4, qm5, qm6, qm7, qm8, qt, qr⟩ := x
  obtain ⟨X, hX⟩ : ∃ X : Th, X = ⟨qp, qm0, qm1, qm2, qm3, qm4, qm5, qm6, qm7, qm8, qt, qr⟩ := ⟨_, rfl⟩
  have HXX := Lib.hid hX
  have HXC : Hid (X.cells = #[.int .i64 qp, .int .i64 qm0, .int .i64 qm1, .int .i64 qm2, .int .i64 qm3, .int .i64 qm4, .int .i64 qm5, .int .i64 qm6, .int .i64 qm7, .int .i64 qm8, .string qt, .int .u32 qr]) := Lib.hid (by rw [hX]; rfl)
  rw [← hX] at H0 hml ⊢
  clear hX
  have hm0 : 0 < m := by simp only [List.length_cons] at hml; omega
  have hm0' : (0 : Int) < (m : Int) := by omega
  have HML := Lib.hid hml
  clear hml
  obtain ⟨gb, off, rfl, HX0⟩ : ∃ gb off, A = some ⟨gb, off, none⟩ ∧ Hid (gb < w0.heap.size ∧ ∀ i u, (#[.int .i64 qp, .int .i64 qm0, .int .i64 qm1, .int .i64 qm2, .int .i64 qm3, .int .i64 qm4, .int .i64 qm5, .int .i64 qm6, .int .i64 qm7, .int .i64 qm8, .string qt, .int .u32 qr])[i]? = some u → w0.cell? ⟨gb, off + i, none⟩ = some u) := by
    obtain ⟨gb, off, e, hlt, hc⟩ := H0.out.al.as.2 0 _ rfl
    exact ⟨gb, off, e, Lib.hid ⟨hlt, fun i u hu => by have := hc i u (by rw [HXC.out]; exact hu); simpa using this⟩⟩
  have hgb : gb ≠ b := HBA.out gb ⟨_, rfl, rfl⟩
  have hbg : b ≠ gb := fun e => hgb e.symm
  have hgr : gb ≠ r := H0.out.ar gb ⟨_, rfl, rfl⟩
  have c0 : w0.cell? ⟨r, 0, none⟩ = some (.slice (some ⟨gb, off, none⟩) m c) := H0.out.blk.cell 0
  have c5 : w0.cell? ⟨r, 5, none⟩ = some (.bool true) := H0.out.blk.cell 5
  have x0 : w0.cell? ⟨gb, off, none⟩ = some (.int .i64 qp) := HX0.out.2 0 _ rfl
  have x1 : w0.cell? ⟨gb, off + 1, none⟩ = some (.int .i64 qm0) := HX0.out.2 1 _ rfl
  have x2 : w0.cell? ⟨gb, off + 2, none⟩ = some (.int .i64 qm1) := HX0.out.2 2 _ rfl
  have x3 : w0.cell? ⟨gb, off + 3, none⟩ = some (.int .i64 qm2) := HX0.out.2 3 _ rfl
  have x4 : w0.cell? ⟨gb, off + 4, none⟩ = some (.int .i64 qm3) := HX0.out.2 4 _ rfl
  have x5 : w0.cell? ⟨gb, off + 5, none⟩ = some (.int .i64 qm4) := HX0.out.2 5 _ rfl
  have x6 : w0.cell? ⟨gb, off + 6, none⟩ = some (.int .i64 qm5) := HX0.out.2 6 _ rfl
  have x7 : w0.cell? ⟨gb, off + 7, none⟩ = some (.int .i64 qm6) := HX0.out.2 7 _ rfl
  have x8 : w0.cell? ⟨gb, off + 8, none⟩ = some (.int .i64 qm7) := HX0.out.2 8 _ rfl
  have x9 : w0.cell? ⟨gb, off + 9, none⟩ = some (.int .i64 qm8) := HX0.out.2 9 _ rfl
  have x10 : w0.cell? ⟨gb, off + 10, none⟩ = some (.string qt) := HX0.out.2 10 _ rfl
  have x11 : w0.cell? ⟨gb, off + 11, none⟩ = some (.int .u32 qr) := HX0.out.2 11 _ rfl
  go_enter Try.func24, Try.ntmps24
  go_upto_region 1 with fail
  have e0 : (ByteArray.empty : ByteArray) = { data := #[] } := rfl
  rw [e0] at hw0
  rw [← hw0, ← hb]
  clear hw0 hb e0 hrl
  go_upto_region 4 with fail
  obtain ⟨w1, hw1⟩ : ∃ w1, w1 = w0.alloc (.cells #[.int .i64 qp, .int .i64 qm0, .int .i64 qm1, .int .i64 qm2, .int .i64 qm3, .int .i64 qm4, .int .i64 qm5, .int .i64 qm6, .int .i64 qm7, .int .i64 qm8, .string qt, .int .u32 qr] 44) := ⟨_, rfl⟩
  obtain ⟨b1, hb1⟩ : ∃ b1, b1 = w0.heap.size := ⟨_, rfl⟩
  rw [← hw1, ← hb1]
  have hba : Below w0.heap.size w0 w1 := by rw [hw1]; exact below_alloc _ _
  have H1 := Lib.hid (H0.out.keep hba)
  have K1 := Lib.hid (HK.out.keep hba)
  have X1 : Hid (Blk w1 b1 44 #[.int .i64 qp, .int .i64 qm0, .int .i64 qm1, .int .i64 qm2, .int .i64 qm3, .int .i64 qm4, .int .i64 qm5, .int .i64 qm6, .int .i64 qm7, .int .i64 qm8, .string qt, .int .u32 qr]) := Lib.hid (by rw [hw1, hb1]; exact Blk.new _ _ _ rfl)
  have C1 := Lib.hid (HC.out.trans (hba.mono HC.out.size))
  have h1r : b1 ≠ r := by have := H0.out.blk.lt; omega
  have hr1 : r ≠ b1 := by omega
  have h1b : b1 ≠ b := by have := HK.out.lt; omega
  have hb1' : b ≠ b1 := by omega
  clear hw1 hb1 hba H0 HK HC c0 c5 x0 x1 x2 x3 x4 x5 x6 x7 x8 x9 x10 x11
  have c5 : w1.cell? ⟨r, 5, none⟩ = some (.bool true) := H1.out.blk.cell 5
  have f5 := H1.out.blk.frozen 5
  go_upto_region 10 with fail
  obtain ⟨w2, hw2⟩ : ∃ w2, w2 = w1.setCell ⟨r, 5, none⟩ (.bool false) := ⟨_, rfl⟩
  rw [← hw2]
  have hc2 : Chg (fun k => k = r) w1 w2 := by
    rw [hw2]
    exact Chg.setCell (S := fun k => k = r) (p := ⟨r, 5, none⟩) (Chg.refl _ w1) (.inl rfl) _
  have H2 : Hid (RV w2 B r (some ⟨gb, off, none⟩) m c (X :: qs) N ba mo ji false re wt) := Lib.hid (by
    refine ⟨?_, H1.out.al.chg hc2 (fun k hk e => H1.out.ar k hk e), H1.out.ar⟩
    have := H1.out.blk.set_ 5 (.bool false)
    rw [hw2]
    simpa using this)
  have K2 : Hid (Blk w2 b 44 th0.cells) := Lib.hid (K1.out.chg hc2 hbr)
  have X2 : Hid (Blk w2 b1 44 #[.int .i64 qp, .int .i64 qm0, .int .i64 qm1, .int .i64 qm2, .int .i64 qm3, .int .i64 qm4, .int .i64 qm5, .int .i64 qm6, .int .i64 qm7, .int .i64 qm8, .string qt, .int .u32 qr]) := Lib.hid (X1.out.chg hc2 h1r)
  have C2 : Hid (Chg (fun k => k = r) w w2) := Lib.hid ((Chg.of_below C1.out _).trans hc2 (fun _ _ h => h))
  clear hw2 hc2 c5 f5 H1 K1 X1 C1
  have HT : Hid (Calls Try.prog 31 #[.int .i64 now] w2 fun e w' => e = .returned (.int .i64 (tmC now)) ∧ w2 = w') := Lib.hid (rtime_any now _)
  have HD : Hid (∀ k, Calls Try.prog 32 #[.int .i64 (tmC now), .int .i64 (ba : Int), .int .i64 (mo : Int), .int .i64 re, .int .i64 jit, .int .i64 (ji : Int)] (w2.drewN k) fun e w' => e = .returned (.tuple #[.int .i64 (duI (tmC now) ba mo re jit ji), .int .i64 (duE (tmC now) ba mo re ji)]) ∧ w2.drewN k = w') := Lib.hid (fun k => refdue_any (tmC now) ba mo re jit ji _ (by unfold tmC; omega) (by omega))
  obtain ⟨tm, htm⟩ : ∃ tm, tm = tmC now := ⟨_, rfl⟩
  obtain ⟨du, hdu⟩ : ∃ du, du = duI (tmC now) ba mo re jit ji := ⟨_, rfl⟩
  obtain ⟨de, hde⟩ : ∃ de, de = duE (tmC now) ba mo re ji := ⟨_, rfl⟩
  rw [← hdu, ← hde] at HD
  have HDU := Lib.hid hdu
  rw [← htm] at HT HD
  clear htm hdu hde
  have c2 : w2.cell? ⟨r, 2, none⟩ = some (.int .i64 (ba : Int)) := H2.out.blk.cell 2
  have c3 : w2.cell? ⟨r, 3, none⟩ = some (.int .i64 (mo : Int)) := H2.out.blk.cell 3
  have c4 : w2.cell? ⟨r, 4, none⟩ = some (.int .i64 (ji : Int)) := H2.out.blk.cell 4
  have c6 : w2.cell? ⟨r, 6, none⟩ = some (.int .i64 re) := H2.out.blk.cell 6
  have c7 : w2.cell? ⟨r, 7, none⟩ = some (.int .i64 wt) := H2.out.blk.cell 7
  have f7 := H2.out.blk.frozen 7
  have KS : Hid (∀ k, Blk ((w2.drewN k).setCell ⟨r, 7, none⟩ (.int .i64 du)) r 50 #[.slice (some ⟨gb, off, none⟩) m c, .int .i64 (N : Int), .int .i64 (ba : Int), .int .i64 (mo : Int), .int .i64 (ji : Int), .bool false, .int .i64 re, .int .i64 du]) := Lib.hid (fun k => by
    have := (H2.out.blk.drewN k).set_ 7 (.int .i64 du)
    simpa using this)
  go_wp2_with fail
  refine HT.out.mono ?_
  rintro e w' ⟨rfl, rfl⟩
  clear HT
  go_upto_region 11 with fail
  go_region_held3 (fun w' => w'.cell? ⟨r, 2, none⟩ = some (.int .i64 (ba : Int)) ∧ w'.cell? ⟨r, 3, none⟩ = some (.int .i64 (mo : Int)) ∧ w'.cell? ⟨r, 6, none⟩ = some (.int .i64 re) ∧ w'.cell? ⟨r, 4, none⟩ = some (.int .i64 (ji : Int))) (first | go_keep | exact ⟨(KS.out 1).cell 2, (KS.out 1).cell 3, (KS.out 1).cell 6, (KS.out 1).cell 4⟩)
    (first | (go_at_call 32; refine (HD.out 1).mono ?_; rintro e w' ⟨rfl, rfl⟩))
  go_upto_region 12 with fail
  obtain ⟨w3, hw3⟩ : ∃ w3, w3 = (w2.drewN 1).setCell ⟨r, 7, none⟩ (.int .i64 du) := ⟨_, rfl⟩
  rw [← hw3]
  have hc3 : Chg (fun k => k = r) w2 w3 := by
    rw [hw3]
    exact Chg.setCell (S := fun k => k = r) (p := ⟨r, 7, none⟩) ((Chg.refl _ w2).drewN 1) (.inl rfl) _
  have H3 : Hid (RV w3 B r (some ⟨gb, off, none⟩) m c (X :: qs) N ba mo ji false re du) := Lib.hid (by
    refine ⟨?_, H2.out.al.chg hc3 (fun k hk e => H2.out.ar k hk e), H2.out.ar⟩
    have := (H2.out.blk.drewN 1).set_ 7 (.int .i64 du)
    rw [hw3]
    simpa using this)
  have K3 : Hid (Blk w3 b 44 th0.cells) := Lib.hid (K2.out.chg hc3 hbr)
  have X3 : Hid (Blk w3 b1 44 #[.int .i64 qp, .int .i64 qm0, .int .i64 qm1, .int .i64 qm2, .int .i64 qm3, .int .i64 qm4, .int .i64 qm5, .int .i64 qm6, .int .i64 qm7, .int .i64 qm8, .string qt, .int .u32 qr]) := Lib.hid (X2.out.chg hc3 h1r)
  have C3 : Hid (Chg (fun k => k = r) w w3) := Lib.hid (C2.out.trans hc3 (fun _ _ h => h))
  clear hw3 hc3 c2 c3 c4 c6 c7 f7 H2 K2 X2 C2 HD KS
  have c6 : w3.cell? ⟨r, 6, none⟩ = some (.int .i64 re) := H3.out.blk.cell 6
  have f6 := H3.out.blk.frozen 6
  go_upto_region 13 with fail
  obtain ⟨w4, hw4⟩ : ∃ w4, w4 = w3.setCell ⟨r, 6, none⟩ (.int .i64 (re + 1)) := ⟨_, rfl⟩
  rw [← hw4]
  have hc4 : Chg (fun k => k = r) w3 w4 := by
    rw [hw4]
    exact Chg.setCell (S := fun k => k = r) (p := ⟨r, 6, none⟩) (Chg.refl _ w3) (.inl rfl) _
  have H4 : Hid (RV w4 B r (some ⟨gb, off, none⟩) m c (X :: qs) N ba mo ji false (re + 1) du) := Lib.hid (by
    refine ⟨?_, H3.out.al.chg hc4 (fun k hk e => H3.out.ar k hk e), H3.out.ar⟩
    have := H3.out.blk.set_ 6 (.int .i64 (re + 1))
    rw [hw4]
    simpa using this)
  have K4 : Hid (Blk w4 b 44 th0.cells) := Lib.hid (K3.out.chg hc4 hbr)
  have X4 : Hid (Blk w4 b1 44 #[.int .i64 qp, .int .i64 qm0, .int .i64 qm1, .int .i64 qm2, .int .i64 qm3, .int .i64 qm4, .int .i64 qm5, .int .i64 qm6, .int .i64 qm7, .int .i64 qm8, .string qt, .int .u32 qr]) := Lib.hid (X3.out.chg hc4 h1r)
  have C4 : Hid (Chg (fun k => k = r) w w4) := Lib.hid (C3.out.trans hc4 (fun _ _ h => h))
  clear hw4 hc4 c6 f6 H3 K3 X3 C3
  have k0 : w4.cell? ⟨b, 0, none⟩ = some (.int .i64 0) := K4.out.cell 0
  have k1 : w4.cell? ⟨b, 1, none⟩ = some (.int .i64 0) := K4.out.cell 1
  have k2 : w4.cell? ⟨b, 2, none⟩ = some (.int .i64 0) := K4.out.cell 2
  have k3 : w4.cell? ⟨b, 3, none⟩ = some (.int .i64 0) := K4.out.cell 3
  have k4 : w4.cell? ⟨b, 4, none⟩ = some (.int .i64 0) := K4.out.cell 4
  have k5 : w4.cell? ⟨b, 5, none⟩ = some (.int .i64 0) := K4.out.cell 5
  have k6 : w4.cell? ⟨b, 6, none⟩ = some (.int .i64 0) := K4.out.cell 6
  have k7 : w4.cell? ⟨b, 7, none⟩ = some (.int .i64 0) := K4.out.cell 7
  have k8 : w4.cell? ⟨b, 8, none⟩ = some (.int .i64 0) := K4.out.cell 8
  have k9 : w4.cell? ⟨b, 9, none⟩ = some (.int .i64 0) := K4.out.cell 9
  have k10 : w4.cell? ⟨b, 10, none⟩ = some (.string ByteArray.empty) := K4.out.cell 10
  have k11 : w4.cell? ⟨b, 11, none⟩ = some (.int .u32 0) := K4.out.cell 11
  have fk0 : w4.frozen? ⟨b, 0, none⟩ = false := K4.out.frozen 0
  have fk1 : w4.frozen? ⟨b, 1, none⟩ = false := K4.out.frozen 1
  have fk2 : w4.frozen? ⟨b, 2, none⟩ = false := K4.out.frozen 2
  have fk3 : w4.frozen? ⟨b, 3, none⟩ = false := K4.out.frozen 3
  have fk4 : w4.frozen? ⟨b, 4, none⟩ = false := K4.out.frozen 4
  have fk5 : w4.frozen? ⟨b, 5, none⟩ = false := K4.out.frozen 5
  have fk6 : w4.frozen? ⟨b, 6, none⟩ = false := K4.out.frozen 6
  have fk7 : w4.frozen? ⟨b, 7, none⟩ = false := K4.out.frozen 7
  have fk8 : w4.frozen? ⟨b, 8, none⟩ = false := K4.out.frozen 8
  have fk9 : w4.frozen? ⟨b, 9, none⟩ = false := K4.out.frozen 9
  have fk10 : w4.frozen? ⟨b, 10, none⟩ = false := K4.out.frozen 10
  have fk11 : w4.frozen? ⟨b, 11, none⟩ = false := K4.out.frozen 11
  have x0 : w4.cell? ⟨b1, 0, none⟩ = some (.int .i64 qp) := X4.out.cell 0
  have x1 : w4.cell? ⟨b1, 1, none⟩ = some (.int .i64 qm0) := X4.out.cell 1
  have x2 : w4.cell? ⟨b1, 2, none⟩ = some (.int .i64 qm1) := X4.out.cell 2
  have x3 : w4.cell? ⟨b1, 3, none⟩ = some (.int .i64 qm2) := X4.out.cell 3
  have x4 : w4.cell? ⟨b1, 4, none⟩ = some (.int .i64 qm3) := X4.out.cell 4
  have x5 : w4.cell? ⟨b1, 5, none⟩ = some (.int .i64 qm4) := X4.out.cell 5
  have x6 : w4.cell? ⟨b1, 6, none⟩ = some (.int .i64 qm5) := X4.out.cell 6
  have x7 : w4.cell? ⟨b1, 7, none⟩ = some (.int .i64 qm6) := X4.out.cell 7
  have x8 : w4.cell? ⟨b1, 8, none⟩ = some (.int .i64 qm7) := X4.out.cell 8
  have x9 : w4.cell? ⟨b1, 9, none⟩ = some (.int .i64 qm8) := X4.out.cell 9
  have x10 : w4.cell? ⟨b1, 10, none⟩ = some (.string qt) := X4.out.cell 10
  have x11 : w4.cell? ⟨b1, 11, none⟩ = some (.int .u32 qr) := X4.out.cell 11
  go_wp2_with fail
  obtain ⟨W, hW⟩ : ∃ W, W = ((((((((((((w4).setCell ⟨b, 0, none⟩ (.int .i64 qp)).setCell ⟨b, 1, none⟩ (.int .i64 qm0)).setCell ⟨b, 2, none⟩ (.int .i64 qm1)).setCell ⟨b, 3, none⟩ (.int .i64 qm2)).setCell ⟨b, 4, none⟩ (.int .i64 qm3)).setCell ⟨b, 5, none⟩ (.int .i64 qm4)).setCell ⟨b, 6, none⟩ (.int .i64 qm5)).setCell ⟨b, 7, none⟩ (.int .i64 qm6)).setCell ⟨b, 8, none⟩ (.int .i64 qm7)).setCell ⟨b, 9, none⟩ (.int .i64 qm8)).setCell ⟨b, 10, none⟩ (.string qt)).setCell ⟨b, 11, none⟩ (.int .u32 qr) := ⟨_, rfl⟩
  rw [← hW]
  have hW' : W = w4.setCells b 0 X.cells.toList := by rw [HXX.out]; exact hW
  have K5 : Blk W b 44 X.cells := by rw [hW']; exact K4.out.boxed X
  have hcb : Chg (fun k => k = b) w4 W := by rw [hW']; exact Chg.cellsSet (S := fun k => k = b) (.inl rfl) _ _ _ (Chg.refl _ w4)
  have hF : RAns B r (some ⟨gb, off, none⟩) m (X :: qs) X N ba mo ji (re + 1) du w (.returned (.tuple #[.agg X.cells, .bool true])) W :=
    ⟨rfl, some ⟨gb, off, none⟩, c, H4.out.chg hcb (fun e => hrb e) (fun k hk e => HBA.out k (by obtain ⟨_, e5, rfl⟩ := hk; obtain rfl := Option.some.inj e5; exact ⟨_, rfl, rfl⟩) e), by rw [hW']; exact Chg.cellsSet (.inr (by rw [HE.out]; exact Nat.le_refl _)) _ _ _ C4.out, fun k hk => by obtain ⟨_, e5, rfl⟩ := hk; obtain rfl := Option.some.inj e5; exact ⟨_, rfl, rfl⟩⟩
  rw [HXC.out] at hF K5
  have q0 : W.cell? ⟨b, 0, none⟩ = some (.int .i64 qp) := K5.cell 0
  have q1 : W.cell? ⟨b, 1, none⟩ = some (.int .i64 qm0) := K5.cell 1
  have q2 : W.cell? ⟨b, 2, none⟩ = some (.int .i64 qm1) := K5.cell 2
  have q3 : W.cell? ⟨b, 3, none⟩ = some (.int .i64 qm2) := K5.cell 3
  have q4 : W.cell? ⟨b, 4, none⟩ = some (.int .i64 qm3) := K5.cell 4
  have q5 : W.cell? ⟨b, 5, none⟩ = some (.int .i64 qm4) := K5.cell 5
  have q6 : W.cell? ⟨b, 6, none⟩ = some (.int .i64 qm5) := K5.cell 6
  have q7 : W.cell? ⟨b, 7, none⟩ = some (.int .i64 qm6) := K5.cell 7
  have q8 : W.cell? ⟨b, 8, none⟩ = some (.int .i64 qm7) := K5.cell 8
  have q9 : W.cell? ⟨b, 9, none⟩ = some (.int .i64 qm8) := K5.cell 9
  have q10 : W.cell? ⟨b, 10, none⟩ = some (.string qt) := K5.cell 10
  have q11 : W.cell? ⟨b, 11, none⟩ = some (.int .u32 qr) := K5.cell 11
  clear hW hW' K5 hcb
  refine bodyPost_ret (v := .tuple #[.agg #[.int .i64 qp, .int .i64 qm0, .int .i64 qm1, .int .i64 qm2, .int .i64 qm3, .int .i64 qm4, .int .i64 qm5, .int .i64 qm6, .int .i64 qm7, .int .i64 qm8, .string qt, .int .u32 qr], .bool true]) (by simp [results, Try.results24, go_sem, q0, q1, q2, q3, q4, q5, q6, q7, q8, q9, q10, q11]) rfl ?_
  first
    | exact hF
    | (rw [HDU.out] at hF; exact hF)
    | (rw [HDU.out, HXX.out] at hF; exact hF)
    | (rw [HDU.out, HXX.out] at hF; rw [HXX.out]; exact hF)
    | (rw [HXX.out] at hF ⊢; exact hF)
    | (rw [HXX.out] at hF; exact hF)
end Go.Proofs.Ytjkocghbnljifaa
