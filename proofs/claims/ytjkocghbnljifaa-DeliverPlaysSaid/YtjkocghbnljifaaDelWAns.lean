/- THE WALKS of watch.answer (printed by a program of ours). -/
import Derived.Test.YtjkocghbnljifaaDelWSent
namespace Go.Proofs.Ytjkocghbnljifaa
open Go.RowKit
/-- one call of the script -/
structure Od where
  k : Int
  a : Th
  n : Int
  y : Bool
  j : Int
def Od.cells (o : Od) : Array Value := #[.int .i64 o.k, .int .i64 o.a.p, .int .i64 o.a.m0, .int .i64 o.a.m1, .int .i64 o.a.m2, .int .i64 o.a.m3, .int .i64 o.a.m4, .int .i64 o.a.m5, .int .i64 o.a.m6, .int .i64 o.a.m7, .int .i64 o.a.m8, .string o.a.t, .int .u32 o.a.r, .int .i64 o.n, .bool o.y, .int .i64 o.j]
theorem du_nat {now ba mo ji re : Nat} {j : Int} (hn : now ≤ 2305843009213693952) (hb : ba ≤ 1099511627776) (hm : mo ≤ 1099511627776) (hj : ji ≤ 1099511627776) : ∃ W : Nat, duI (tmC now) ba mo re j ji = (W : Int) ∧ now ≤ W ∧ W ≤ now + mo + ji := by
  have e : tmC (now : Int) = now := by unfold tmC; omega
  rw [e]
  unfold duI okU okD
  rw [if_pos (by simp; omega), dlI_nat ba mo re hb hm]
  have := dl_le ba mo re
  exact ⟨now + dl ba mo re + (max 0 (min j ji)).toNat, by omega, by omega, by omega⟩
set_option maxRecDepth 100000 in
set_option maxHeartbeats 4000000 in
theorem wans_no (B d g p N f ba mo ji re wt v m c tk : Nat) (xs q pl : List Th) (A : Option Addr) (tr : Int) (o : Od) (now : Nat) (w : World) (h : DS B w d g p N f xs q ba mo ji false re wt v A m c pl tk tr) :
    Calls Try.prog 17 #[.pointer (some ⟨v, 0, none⟩), .pointer (some ⟨d, 0, none⟩), .agg o.cells, .int .i64 (now : Int)] w (WNo w) := by
  obtain ⟨ok_, ⟨ap, am0, am1, am2, am3, am4, am5, am6, am7, am8, at_, ar⟩, on, oy, oj⟩ := o
  simp only [Od.cells]
  obtain ⟨w0, hw0⟩ : ∃ w0, w0 = w.alloc (.cells #[.int .i64 ok_, .int .i64 ap, .int .i64 am0, .int .i64 am1, .int .i64 am2, .int .i64 am3, .int .i64 am4, .int .i64 am5, .int .i64 am6, .int .i64 am7, .int .i64 am8, .string at_, .int .u32 ar, .int .i64 on, .bool oy, .int .i64 oj] 46) := ⟨_, rfl⟩
  obtain ⟨z, hz⟩ : ∃ z, z = w.heap.size := ⟨_, rfl⟩
  have hb0 : Below w.heap.size w w0 := by rw [hw0]; exact (Below.refl _ _).alloc (Nat.le_refl _) _
  have Z0 : Blk w0 z 46 #[.int .i64 ok_, .int .i64 ap, .int .i64 am0, .int .i64 am1, .int .i64 am2, .int .i64 am3, .int .i64 am4, .int .i64 am5, .int .i64 am6, .int .i64 am7, .int .i64 am8, .string at_, .int .u32 ar, .int .i64 on, .bool oy, .int .i64 oj] := by rw [hw0, hz]; exact Blk.new w _ _ rfl
  have y0 : w0.cell? ⟨z, 14, none⟩ = some (.bool oy) := Z0.cell 14
  have j0 : w0.cell? ⟨z, 15, none⟩ = some (.int .i64 oj) := Z0.cell 15
  have H0 := Lib.hid (h.keep hb0)
  have HB := Lib.hid hb0
  have CS := Lib.hid (ans_no d g p N f ba mo ji xs q re wt oy now oj w0 H0.out.dv)
  clear h hb0 Z0
  go_enter Try.func17, Try.ntmps17
  go_upto_region 1 with fail
  rw [← hw0, ← hz]
  clear hw0 hz
  go_wp2_with fail
  refine CS.out.mono ?_
  rintro e w1 ⟨rfl, hb1⟩
  have H1 := Lib.hid (H0.out.keep hb1)
  have C1 : Hid (Below w.heap.size w w1) := Lib.hid (HB.out.trans (hb1.mono HB.out.size))
  clear hb1 CS H0 HB y0 j0
  simp only [th0, Th.cells]
  go_upto_region 2 with fail
  obtain ⟨w2, hw2⟩ : ∃ w2, w2 = w1.alloc (.cells #[.int .i64 0, .int .i64 0, .int .i64 0, .int .i64 0, .int .i64 0, .int .i64 0, .int .i64 0, .int .i64 0, .int .i64 0, .int .i64 0, .string ByteArray.empty, .int .u32 0] 44) := ⟨_, rfl⟩
  obtain ⟨b, hb⟩ : ∃ b, b = w1.heap.size := ⟨_, rfl⟩
  rw [← hw2, ← hb]
  have hbb : Below w1.heap.size w1 w2 := by rw [hw2]; exact (Below.refl _ _).alloc (Nat.le_refl _) _
  have K2 : Blk w2 b 44 th0.cells := by rw [hw2, hb]; exact Blk.new w1 _ _ rfl
  have H2 := Lib.hid (H1.out.keep hbb)
  have C2 : Hid (Below w.heap.size w w2) := Lib.hid (C1.out.trans (hbb.mono C1.out.size))
  clear hw2 hb hbb C1 H1
  have v6 : w2.cell? ⟨v, 6, none⟩ = some (.bool false) := H2.out.wv.cell 6
  have v8 : w2.cell? ⟨v, 8, none⟩ = some (.int .i64 (wt : Int)) := H2.out.wv.cell 8
  have k0 : w2.cell? ⟨b, 0, none⟩ = some (.int .i64 0) := K2.cell 0
  have k1 : w2.cell? ⟨b, 1, none⟩ = some (.int .i64 0) := K2.cell 1
  have k2 : w2.cell? ⟨b, 2, none⟩ = some (.int .i64 0) := K2.cell 2
  have k3 : w2.cell? ⟨b, 3, none⟩ = some (.int .i64 0) := K2.cell 3
  have k4 : w2.cell? ⟨b, 4, none⟩ = some (.int .i64 0) := K2.cell 4
  have k5 : w2.cell? ⟨b, 5, none⟩ = some (.int .i64 0) := K2.cell 5
  have k6 : w2.cell? ⟨b, 6, none⟩ = some (.int .i64 0) := K2.cell 6
  have k7 : w2.cell? ⟨b, 7, none⟩ = some (.int .i64 0) := K2.cell 7
  have k8 : w2.cell? ⟨b, 8, none⟩ = some (.int .i64 0) := K2.cell 8
  have k9 : w2.cell? ⟨b, 9, none⟩ = some (.int .i64 0) := K2.cell 9
  have k10 : w2.cell? ⟨b, 10, none⟩ = some (.string ByteArray.empty) := K2.cell 10
  have k11 : w2.cell? ⟨b, 11, none⟩ = some (.int .u32 0) := K2.cell 11
  have CW : Hid (∀ k, Calls Try.prog 9 #[.pointer (some ⟨d, 0, none⟩)] (w2.drewN k) fun e w' => e = .returned (.int .i64 (wt : Int)) ∧ w2.drewN k = w') := Lib.hid fun k => wait_any d g p N f ba mo ji xs q false re wt _ (H2.out.dv.keep (below_drewN (Below.refl _ _) _))
  clear K2 H2
  have hq := guard_al
  have he := eq_al th0
  simp only [th0, Th.cells] at he
  go_upto_region 5 with fail
  go_cut [8] (fun s wx => s = .bool true ∧ ∃ md, wx = w2.drewN md)
  case first =>
    go_quiet ((first | (with_reducible exact quiet (CW.out _)) | (with_reducible exact quiet2 (CW.out _)) | (with_reducible exact quiet3 (CW.out _))))
    go_wp2_with fail
    go_meet
    exact ⟨rfl, _, rfl⟩
  case rest =>
    obtain ⟨rfl, md, rfl⟩ := hcut
    go_wp2_with fail
    go_ret
    exact ⟨rfl, below_drewN C2.out _⟩
end Go.Proofs.Ytjkocghbnljifaa
