/- THE WALKS of Book.step where it sends, and where it answers (printed by a program of ours). -/
import Derived.Test.YtjkocghbnljifaaDpPair
namespace Go.Proofs.Ytjkocghbnljifaa
open Go.RowKit
set_option maxRecDepth 100000 in
set_option maxHeartbeats 4000000 in
theorem step_send {w0 w : World} {C : Nat → Nat} {d g p r k N ba mo ji f : Nat} {xs q : List Th} {A : Option Addr} {m c : Nat} {se : Bool} {re : Nat} {wt : Int} {vr vw : Value} {rs : List (Nat × List Th)} {us : List Value} (i : Nat)
    (h : PT w0 w C d g p r k N ba mo ji f xs q A m c se re wt vr vw rs us) (hre : re ≤ i) (hrs : rs.length ≤ 2 * i) (hi : i ≤ 300) (o : Od) (hk : o.k = 1) :
    Calls Try.prog 8 #[.pointer (some ⟨k, 0, none⟩), .pointer (some ⟨d, 0, none⟩), .pointer (some ⟨r, 0, none⟩), .agg o.cells] w (StepP w0 d r k N ba mo ji (i + 1)) := by
  obtain ⟨ok_, ⟨qp, qm0, qm1, qm2, qm3, qm4, qm5, qm6, qm7, qm8, qt, qr⟩, on, oy, oj⟩ := o
  simp only [Od.cells]
  have hbb := below_alloc w (.cells #[.int .i64 ok_, .int .i64 qp, .int .i64 qm0, .int .i64 qm1, .int .i64 qm2, .int .i64 qm3, .int .i64 qm4, .int .i64 qm5, .int .i64 qm6, .int .i64 qm7, .int .i64 qm8, .string qt, .int .u32 qr, .int .i64 on, .bool oy, .int .i64 oj] 46)
  have H1 := Lib.hid (h.keep hbb)
  have Z1 : Hid (Blk (w.alloc (.cells #[.int .i64 ok_, .int .i64 qp, .int .i64 qm0, .int .i64 qm1, .int .i64 qm2, .int .i64 qm3, .int .i64 qm4, .int .i64 qm5, .int .i64 qm6, .int .i64 qm7, .int .i64 qm8, .string qt, .int .u32 qr, .int .i64 on, .bool oy, .int .i64 oj] 46)) w.heap.size 46 #[.int .i64 ok_, .int .i64 qp, .int .i64 qm0, .int .i64 qm1, .int .i64 qm2, .int .i64 qm3, .int .i64 qm4, .int .i64 qm5, .int .i64 qm6, .int .i64 qm7, .int .i64 qm8, .string qt, .int .u32 qr, .int .i64 on, .bool oy, .int .i64 oj]) := Lib.hid (Blk.new w _ _ rfl)
  have HI : Hid (re ≤ i ∧ rs.length ≤ 2 * i ∧ i ≤ 300) := Lib.hid ⟨hre, hrs, hi⟩
  have HZ : Hid (d < w.heap.size ∧ g < w.heap.size ∧ p < w.heap.size ∧ r < w.heap.size ∧ k < w.heap.size ∧ ∀ b, inB A b → b < w.heap.size) := Lib.hid ⟨h.dv.blk.lt, h.dv.ring.blk.lt, h.dv.ring.arr.lt, h.rv.blk.lt, h.kb.lt, fun b hb => (h.rv.al.lt b hb).2⟩
  clear hbb h hre hrs hi
  obtain ⟨w1, hw1⟩ : ∃ w1, w1 = w.alloc (.cells #[.int .i64 ok_, .int .i64 qp, .int .i64 qm0, .int .i64 qm1, .int .i64 qm2, .int .i64 qm3, .int .i64 qm4, .int .i64 qm5, .int .i64 qm6, .int .i64 qm7, .int .i64 qm8, .string qt, .int .u32 qr, .int .i64 on, .bool oy, .int .i64 oj] 46) := ⟨_, rfl⟩
  obtain ⟨z, hz⟩ : ∃ z, z = w.heap.size := ⟨_, rfl⟩
  rw [← hw1] at H1 Z1
  rw [← hz] at Z1 HZ
  simp only at hk
  have HI2 := HI.out
  obtain ⟨⟨xp, xm0, xm1, xm2, xm3, xm4, xm5, xm6, xm7, xm8, xt, xr⟩, v, bl, PR, CR, HPR, CD⟩ := send_pair H1.out HI2.1 HI2.2.1 HI2.2.2 on
  simp only [Th.cells] at CR CD
  have HR := Lib.hid CR; have HD := Lib.hid CD; have HS := Lib.hid HPR
  clear CR CD HPR HI2
  have HDG : Hid (z ≠ d ∧ z ≠ g ∧ z ≠ p ∧ z ≠ r ∧ d < z ∧ g < z ∧ p < z) := Lib.hid (by have h := HZ.out; omega)
  subst hk
  have y0 : w1.cell? ⟨z, 0, none⟩ = some (.int .i64 1) := Z1.out.cell 0
  have y13 : w1.cell? ⟨z, 13, none⟩ = some (.int .i64 on) := Z1.out.cell 13
  go_enter Try.func8, Try.ntmps8
  go_upto_region 1 with fail
  rw [← hw1, ← hz]
  clear hw1 hz
  go_wp2_with fail
  refine HR.out.mono ?_
  rintro e w2 ⟨rfl, hp⟩
  have HP := Lib.hid hp
  obtain ⟨S, hcS, hSr⟩ := HS.out _ hp
  have Z2 : Hid (Blk w2 z 46 #[.int .i64 1, .int .i64 qp, .int .i64 qm0, .int .i64 qm1, .int .i64 qm2, .int .i64 qm3, .int .i64 qm4, .int .i64 qm5, .int .i64 qm6, .int .i64 qm7, .int .i64 qm8, .string qt, .int .u32 qr, .int .i64 on, .bool oy, .int .i64 oj]) := Lib.hid (Z1.out.chg hcS (fun e => HDG.out.2.2.2.1 (hSr _ e)))
  clear hp HR HS hcS hSr y0 y13
  have y13 : w2.cell? ⟨z, 13, none⟩ = some (.int .i64 on) := Z2.out.cell 13
  go_upto_region 6 with fail
  obtain ⟨w3, hw3⟩ : ∃ w3, w3 = w2.alloc (.cells #[.int .i64 xp, .int .i64 xm0, .int .i64 xm1, .int .i64 xm2, .int .i64 xm3, .int .i64 xm4, .int .i64 xm5, .int .i64 xm6, .int .i64 xm7, .int .i64 xm8, .string xt, .int .u32 xr] 44) := ⟨_, rfl⟩
  obtain ⟨b, hb⟩ : ∃ b, b = w2.heap.size := ⟨_, rfl⟩
  rw [← hw3, ← hb]
  have HB3 : Hid (Below w2.heap.size w2 w3) := Lib.hid (by rw [hw3]; exact below_alloc _ _)
  have K3 : Hid (Blk w3 b 44 #[.int .i64 xp, .int .i64 xm0, .int .i64 xm1, .int .i64 xm2, .int .i64 xm3, .int .i64 xm4, .int .i64 xm5, .int .i64 xm6, .int .i64 xm7, .int .i64 xm8, .string xt, .int .u32 xr]) := Lib.hid (by rw [hw3, hb]; exact Blk.new w2 _ _ rfl)
  have HBL : Hid (z < b) := Lib.hid (by rw [hb]; exact Z2.out.lt)
  have CD := Lib.hid (HD.out w2 w3 HP.out HB3.out)
  have Z3 := Lib.hid (Z2.out.keep HB3.out)
  clear hw3 hb HD HP Z2 y13
  have y13 : w3.cell? ⟨z, 13, none⟩ = some (.int .i64 on) := Z3.out.cell 13
  go_wp2_with fail
  refine CD.out.mono ?_
  rintro e w4 ⟨rfl, ⟨S, hcS, hSd⟩, hpl⟩
  have HPL := Lib.hid hpl
  have K4 : Hid (Blk w4 b 44 #[.int .i64 xp, .int .i64 xm0, .int .i64 xm1, .int .i64 xm2, .int .i64 xm3, .int .i64 xm4, .int .i64 xm5, .int .i64 xm6, .int .i64 xm7, .int .i64 xm8, .string xt, .int .u32 xr]) := Lib.hid (K3.out.chg hcS (fun e => by have h1 := HDG.out; have h2 := HBL.out; rcases hSd _ e with e | e | e <;> omega))
  clear hpl hcS hSd CD K3 Z3 y13
  go_upto_region 7 with fail
  obtain ⟨w5, hw5⟩ : ∃ w5, w5 = w4.alloc (.cells #[.int .i64 xp, .int .i64 xm0, .int .i64 xm1, .int .i64 xm2, .int .i64 xm3, .int .i64 xm4, .int .i64 xm5, .int .i64 xm6, .int .i64 xm7, .int .i64 xm8, .string xt, .int .u32 xr] 44) := ⟨_, rfl⟩
  obtain ⟨b5, hb5⟩ : ∃ b5, b5 = w4.heap.size := ⟨_, rfl⟩
  rw [← hw5, ← hb5]
  have HB5 : Hid (Below w4.heap.size w4 w5) := Lib.hid (by rw [hw5]; exact below_alloc _ _)
  have K5 : Hid (Blk w5 b 44 #[.int .i64 xp, .int .i64 xm0, .int .i64 xm1, .int .i64 xm2, .int .i64 xm3, .int .i64 xm4, .int .i64 xm5, .int .i64 xm6, .int .i64 xm7, .int .i64 xm8, .string xt, .int .u32 xr]) := Lib.hid (K4.out.keep HB5.out)
  have X5 : Hid (Blk w5 b5 44 #[.int .i64 xp, .int .i64 xm0, .int .i64 xm1, .int .i64 xm2, .int .i64 xm3, .int .i64 xm4, .int .i64 xm5, .int .i64 xm6, .int .i64 xm7, .int .i64 xm8, .string xt, .int .u32 xr]) := Lib.hid (by rw [hw5, hb5]; exact Blk.new w4 _ _ rfl)
  have FF := Lib.hid (HPL.out w5 HB5.out)
  clear hw5 hb5 K4 HB5 HPL
  have hq := guard_al
  have he := eq_al ⟨xp, xm0, xm1, xm2, xm3, xm4, xm5, xm6, xm7, xm8, xt, xr⟩
  simp only [Th.cells] at he
  have k0 : w5.cell? ⟨b, 0, none⟩ = some (.int .i64 xp) := K5.out.cell 0
  have k1 : w5.cell? ⟨b, 1, none⟩ = some (.int .i64 xm0) := K5.out.cell 1
  have k2 : w5.cell? ⟨b, 2, none⟩ = some (.int .i64 xm1) := K5.out.cell 2
  have k3 : w5.cell? ⟨b, 3, none⟩ = some (.int .i64 xm2) := K5.out.cell 3
  have k4 : w5.cell? ⟨b, 4, none⟩ = some (.int .i64 xm3) := K5.out.cell 4
  have k5 : w5.cell? ⟨b, 5, none⟩ = some (.int .i64 xm4) := K5.out.cell 5
  have k6 : w5.cell? ⟨b, 6, none⟩ = some (.int .i64 xm5) := K5.out.cell 6
  have k7 : w5.cell? ⟨b, 7, none⟩ = some (.int .i64 xm6) := K5.out.cell 7
  have k8 : w5.cell? ⟨b, 8, none⟩ = some (.int .i64 xm7) := K5.out.cell 8
  have k9 : w5.cell? ⟨b, 9, none⟩ = some (.int .i64 xm8) := K5.out.cell 9
  have k10 : w5.cell? ⟨b, 10, none⟩ = some (.string xt) := K5.out.cell 10
  have k11 : w5.cell? ⟨b, 11, none⟩ = some (.int .u32 xr) := K5.out.cell 11
  have m0 : w5.cell? ⟨b5, 0, none⟩ = some (.int .i64 xp) := X5.out.cell 0
  have m1 : w5.cell? ⟨b5, 1, none⟩ = some (.int .i64 xm0) := X5.out.cell 1
  have m2 : w5.cell? ⟨b5, 2, none⟩ = some (.int .i64 xm1) := X5.out.cell 2
  have m3 : w5.cell? ⟨b5, 3, none⟩ = some (.int .i64 xm2) := X5.out.cell 3
  have m4 : w5.cell? ⟨b5, 4, none⟩ = some (.int .i64 xm3) := X5.out.cell 4
  have m5 : w5.cell? ⟨b5, 5, none⟩ = some (.int .i64 xm4) := X5.out.cell 5
  have m6 : w5.cell? ⟨b5, 6, none⟩ = some (.int .i64 xm5) := X5.out.cell 6
  have m7 : w5.cell? ⟨b5, 7, none⟩ = some (.int .i64 xm6) := X5.out.cell 7
  have m8 : w5.cell? ⟨b5, 8, none⟩ = some (.int .i64 xm7) := X5.out.cell 8
  have m9 : w5.cell? ⟨b5, 9, none⟩ = some (.int .i64 xm8) := X5.out.cell 9
  have m10 : w5.cell? ⟨b5, 10, none⟩ = some (.string xt) := X5.out.cell 10
  have m11 : w5.cell? ⟨b5, 11, none⟩ = some (.int .u32 xr) := X5.out.cell 11
  go_wp2_with fail
  go_ret
  exact ⟨rfl, FF.out⟩
set_option maxRecDepth 100000 in
set_option maxHeartbeats 4000000 in
theorem step_answer {w0 w : World} {C : Nat → Nat} {d g p r k N ba mo ji f : Nat} {xs q : List Th} {A : Option Addr} {m c : Nat} {se : Bool} {re : Nat} {wt : Int} {vr vw : Value} {rs : List (Nat × List Th)} {us : List Value} (i : Nat)
    (h : PT w0 w C d g p r k N ba mo ji f xs q A m c se re wt vr vw rs us) (hre : re ≤ i) (hrs : rs.length ≤ 2 * i) (hi : i ≤ 300) (o : Od) (hk : o.k = 2) :
    Calls Try.prog 8 #[.pointer (some ⟨k, 0, none⟩), .pointer (some ⟨d, 0, none⟩), .pointer (some ⟨r, 0, none⟩), .agg o.cells] w (StepP w0 d r k N ba mo ji (i + 1)) := by
  obtain ⟨ok_, ⟨qp, qm0, qm1, qm2, qm3, qm4, qm5, qm6, qm7, qm8, qt, qr⟩, on, oy, oj⟩ := o
  simp only [Od.cells]
  have hbb := below_alloc w (.cells #[.int .i64 ok_, .int .i64 qp, .int .i64 qm0, .int .i64 qm1, .int .i64 qm2, .int .i64 qm3, .int .i64 qm4, .int .i64 qm5, .int .i64 qm6, .int .i64 qm7, .int .i64 qm8, .string qt, .int .u32 qr, .int .i64 on, .bool oy, .int .i64 oj] 46)
  have H1 := Lib.hid (h.keep hbb)
  have Z1 : Hid (Blk (w.alloc (.cells #[.int .i64 ok_, .int .i64 qp, .int .i64 qm0, .int .i64 qm1, .int .i64 qm2, .int .i64 qm3, .int .i64 qm4, .int .i64 qm5, .int .i64 qm6, .int .i64 qm7, .int .i64 qm8, .string qt, .int .u32 qr, .int .i64 on, .bool oy, .int .i64 oj] 46)) w.heap.size 46 #[.int .i64 ok_, .int .i64 qp, .int .i64 qm0, .int .i64 qm1, .int .i64 qm2, .int .i64 qm3, .int .i64 qm4, .int .i64 qm5, .int .i64 qm6, .int .i64 qm7, .int .i64 qm8, .string qt, .int .u32 qr, .int .i64 on, .bool oy, .int .i64 oj]) := Lib.hid (Blk.new w _ _ rfl)
  have HI : Hid (re ≤ i ∧ rs.length ≤ 2 * i ∧ i ≤ 300) := Lib.hid ⟨hre, hrs, hi⟩
  have HZ : Hid (d < w.heap.size ∧ g < w.heap.size ∧ p < w.heap.size ∧ r < w.heap.size ∧ k < w.heap.size ∧ ∀ b, inB A b → b < w.heap.size) := Lib.hid ⟨h.dv.blk.lt, h.dv.ring.blk.lt, h.dv.ring.arr.lt, h.rv.blk.lt, h.kb.lt, fun b hb => (h.rv.al.lt b hb).2⟩
  clear hbb h hre hrs hi
  obtain ⟨w1, hw1⟩ : ∃ w1, w1 = w.alloc (.cells #[.int .i64 ok_, .int .i64 qp, .int .i64 qm0, .int .i64 qm1, .int .i64 qm2, .int .i64 qm3, .int .i64 qm4, .int .i64 qm5, .int .i64 qm6, .int .i64 qm7, .int .i64 qm8, .string qt, .int .u32 qr, .int .i64 on, .bool oy, .int .i64 oj] 46) := ⟨_, rfl⟩
  obtain ⟨z, hz⟩ : ∃ z, z = w.heap.size := ⟨_, rfl⟩
  rw [← hw1] at H1 Z1
  rw [← hz] at Z1 HZ
  simp only at hk
  have HI2 := HI.out
  obtain ⟨⟨xp, xm0, xm1, xm2, xm3, xm4, xm5, xm6, xm7, xm8, xt, xr⟩, bl, PR, CR, HPR, CD⟩ := answer_pair H1.out HI2.1 HI2.2.1 HI2.2.2 oy on oj
  simp only [Th.cells] at CR CD
  have HR := Lib.hid CR; have HD := Lib.hid CD; have HS := Lib.hid HPR
  clear CR CD HPR HI2
  have HDG : Hid (z ≠ d ∧ z ≠ g ∧ z ≠ p ∧ z ≠ r ∧ d < z ∧ g < z ∧ p < z) := Lib.hid (by have h := HZ.out; omega)
  subst hk
  have y0 : w1.cell? ⟨z, 0, none⟩ = some (.int .i64 2) := Z1.out.cell 0
  have y13 : w1.cell? ⟨z, 13, none⟩ = some (.int .i64 on) := Z1.out.cell 13
  have y14 : w1.cell? ⟨z, 14, none⟩ = some (.bool oy) := Z1.out.cell 14
  have y15 : w1.cell? ⟨z, 15, none⟩ = some (.int .i64 oj) := Z1.out.cell 15
  go_enter Try.func8, Try.ntmps8
  go_upto_region 1 with fail
  rw [← hw1, ← hz]
  clear hw1 hz
  go_wp2_with fail
  refine HR.out.mono ?_
  rintro e w2 ⟨rfl, hp⟩
  have HP := Lib.hid hp
  obtain ⟨S, hcS, hSr⟩ := HS.out _ hp
  have Z2 : Hid (Blk w2 z 46 #[.int .i64 2, .int .i64 qp, .int .i64 qm0, .int .i64 qm1, .int .i64 qm2, .int .i64 qm3, .int .i64 qm4, .int .i64 qm5, .int .i64 qm6, .int .i64 qm7, .int .i64 qm8, .string qt, .int .u32 qr, .int .i64 on, .bool oy, .int .i64 oj]) := Lib.hid (Z1.out.chg hcS (fun e => HDG.out.2.2.2.1 (hSr _ e)))
  clear hp HR HS hcS hSr y0 y13 y14 y15
  have y13 : w2.cell? ⟨z, 13, none⟩ = some (.int .i64 on) := Z2.out.cell 13
  have y14 : w2.cell? ⟨z, 14, none⟩ = some (.bool oy) := Z2.out.cell 14
  have y15 : w2.cell? ⟨z, 15, none⟩ = some (.int .i64 oj) := Z2.out.cell 15
  go_upto_region 10 with fail
  obtain ⟨w3, hw3⟩ : ∃ w3, w3 = w2.alloc (.cells #[.int .i64 xp, .int .i64 xm0, .int .i64 xm1, .int .i64 xm2, .int .i64 xm3, .int .i64 xm4, .int .i64 xm5, .int .i64 xm6, .int .i64 xm7, .int .i64 xm8, .string xt, .int .u32 xr] 44) := ⟨_, rfl⟩
  obtain ⟨b, hb⟩ : ∃ b, b = w2.heap.size := ⟨_, rfl⟩
  rw [← hw3, ← hb]
  have HB3 : Hid (Below w2.heap.size w2 w3) := Lib.hid (by rw [hw3]; exact below_alloc _ _)
  have K3 : Hid (Blk w3 b 44 #[.int .i64 xp, .int .i64 xm0, .int .i64 xm1, .int .i64 xm2, .int .i64 xm3, .int .i64 xm4, .int .i64 xm5, .int .i64 xm6, .int .i64 xm7, .int .i64 xm8, .string xt, .int .u32 xr]) := Lib.hid (by rw [hw3, hb]; exact Blk.new w2 _ _ rfl)
  have HBL : Hid (z < b) := Lib.hid (by rw [hb]; exact Z2.out.lt)
  have CD := Lib.hid (HD.out w2 w3 HP.out HB3.out)
  have Z3 := Lib.hid (Z2.out.keep HB3.out)
  clear hw3 hb HD HP Z2 y13 y14 y15
  have y13 : w3.cell? ⟨z, 13, none⟩ = some (.int .i64 on) := Z3.out.cell 13
  have y14 : w3.cell? ⟨z, 14, none⟩ = some (.bool oy) := Z3.out.cell 14
  have y15 : w3.cell? ⟨z, 15, none⟩ = some (.int .i64 oj) := Z3.out.cell 15
  go_wp2_with fail
  refine CD.out.mono ?_
  rintro e w4 ⟨rfl, ⟨S, hcS, hSd⟩, hpl⟩
  have HPL := Lib.hid hpl
  have K4 : Hid (Blk w4 b 44 #[.int .i64 xp, .int .i64 xm0, .int .i64 xm1, .int .i64 xm2, .int .i64 xm3, .int .i64 xm4, .int .i64 xm5, .int .i64 xm6, .int .i64 xm7, .int .i64 xm8, .string xt, .int .u32 xr]) := Lib.hid (K3.out.chg hcS (fun e => by have h1 := HDG.out; have h2 := HBL.out; rcases hSd _ e with e | e | e <;> omega))
  clear hpl hcS hSd CD K3 Z3 y13 y14 y15
  go_upto_region 11 with fail
  obtain ⟨w5, hw5⟩ : ∃ w5, w5 = w4.alloc (.cells #[.int .i64 xp, .int .i64 xm0, .int .i64 xm1, .int .i64 xm2, .int .i64 xm3, .int .i64 xm4, .int .i64 xm5, .int .i64 xm6, .int .i64 xm7, .int .i64 xm8, .string xt, .int .u32 xr] 44) := ⟨_, rfl⟩
  obtain ⟨b5, hb5⟩ : ∃ b5, b5 = w4.heap.size := ⟨_, rfl⟩
  rw [← hw5, ← hb5]
  have HB5 : Hid (Below w4.heap.size w4 w5) := Lib.hid (by rw [hw5]; exact below_alloc _ _)
  have K5 : Hid (Blk w5 b 44 #[.int .i64 xp, .int .i64 xm0, .int .i64 xm1, .int .i64 xm2, .int .i64 xm3, .int .i64 xm4, .int .i64 xm5, .int .i64 xm6, .int .i64 xm7, .int .i64 xm8, .string xt, .int .u32 xr]) := Lib.hid (K4.out.keep HB5.out)
  have X5 : Hid (Blk w5 b5 44 #[.int .i64 xp, .int .i64 xm0, .int .i64 xm1, .int .i64 xm2, .int .i64 xm3, .int .i64 xm4, .int .i64 xm5, .int .i64 xm6, .int .i64 xm7, .int .i64 xm8, .string xt, .int .u32 xr]) := Lib.hid (by rw [hw5, hb5]; exact Blk.new w4 _ _ rfl)
  have FF := Lib.hid (HPL.out w5 HB5.out)
  clear hw5 hb5 K4 HB5 HPL
  have hq := guard_al
  have he := eq_al ⟨xp, xm0, xm1, xm2, xm3, xm4, xm5, xm6, xm7, xm8, xt, xr⟩
  simp only [Th.cells] at he
  have k0 : w5.cell? ⟨b, 0, none⟩ = some (.int .i64 xp) := K5.out.cell 0
  have k1 : w5.cell? ⟨b, 1, none⟩ = some (.int .i64 xm0) := K5.out.cell 1
  have k2 : w5.cell? ⟨b, 2, none⟩ = some (.int .i64 xm1) := K5.out.cell 2
  have k3 : w5.cell? ⟨b, 3, none⟩ = some (.int .i64 xm2) := K5.out.cell 3
  have k4 : w5.cell? ⟨b, 4, none⟩ = some (.int .i64 xm3) := K5.out.cell 4
  have k5 : w5.cell? ⟨b, 5, none⟩ = some (.int .i64 xm4) := K5.out.cell 5
  have k6 : w5.cell? ⟨b, 6, none⟩ = some (.int .i64 xm5) := K5.out.cell 6
  have k7 : w5.cell? ⟨b, 7, none⟩ = some (.int .i64 xm6) := K5.out.cell 7
  have k8 : w5.cell? ⟨b, 8, none⟩ = some (.int .i64 xm7) := K5.out.cell 8
  have k9 : w5.cell? ⟨b, 9, none⟩ = some (.int .i64 xm8) := K5.out.cell 9
  have k10 : w5.cell? ⟨b, 10, none⟩ = some (.string xt) := K5.out.cell 10
  have k11 : w5.cell? ⟨b, 11, none⟩ = some (.int .u32 xr) := K5.out.cell 11
  have m0 : w5.cell? ⟨b5, 0, none⟩ = some (.int .i64 xp) := X5.out.cell 0
  have m1 : w5.cell? ⟨b5, 1, none⟩ = some (.int .i64 xm0) := X5.out.cell 1
  have m2 : w5.cell? ⟨b5, 2, none⟩ = some (.int .i64 xm1) := X5.out.cell 2
  have m3 : w5.cell? ⟨b5, 3, none⟩ = some (.int .i64 xm2) := X5.out.cell 3
  have m4 : w5.cell? ⟨b5, 4, none⟩ = some (.int .i64 xm3) := X5.out.cell 4
  have m5 : w5.cell? ⟨b5, 5, none⟩ = some (.int .i64 xm4) := X5.out.cell 5
  have m6 : w5.cell? ⟨b5, 6, none⟩ = some (.int .i64 xm5) := X5.out.cell 6
  have m7 : w5.cell? ⟨b5, 7, none⟩ = some (.int .i64 xm6) := X5.out.cell 7
  have m8 : w5.cell? ⟨b5, 8, none⟩ = some (.int .i64 xm7) := X5.out.cell 8
  have m9 : w5.cell? ⟨b5, 9, none⟩ = some (.int .i64 xm8) := X5.out.cell 9
  have m10 : w5.cell? ⟨b5, 10, none⟩ = some (.string xt) := X5.out.cell 10
  have m11 : w5.cell? ⟨b5, 11, none⟩ = some (.int .u32 xr) := X5.out.cell 11
  go_wp2_with fail
  go_ret
  exact ⟨rfl, FF.out⟩
end Go.Proofs.Ytjkocghbnljifaa
