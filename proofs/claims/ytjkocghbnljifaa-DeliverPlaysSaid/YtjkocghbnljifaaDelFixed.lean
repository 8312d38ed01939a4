/- THE WALK of the law's fixed() (printed by a program of ours). -/
import Derived.Test.YtjkocghbnljifaaDelWTook
namespace Go.Proofs.Ytjkocghbnljifaa
open Go.RowKit
theorem quiet2 {P : Program} {f : FuncId} {args : Array Value} {w : World} {n : Nat} {v : Value} (h : Calls P f args (w.drewN n) fun e w' => e = .returned v ∧ ∃ m, w' = (w.drewN n).drewN m) :
    Calls P f args (w.drewN n) fun e w'' => e = .returned v ∧ ∃ m, w'' = w.drewN m := h.mono fun _ _ ⟨he, m, hm⟩ => ⟨he, n + m, hm.trans (by simp)⟩
def thA : Th := ⟨0, 0, 0, 0, 0, 0, 0, 0, 0, 0, { data := #[97] }, 0⟩
def thB : Th := ⟨0, 0, 0, 0, 0, 0, 0, 0, 0, 0, { data := #[98] }, 0⟩
structure FS (w0 W : World) (d g p f : Nat) (xs q : List Th) (se : Bool) (re wt : Int) : Prop where
  dv : DV W d g p 2 f xs q 3 10 4 se re wt
  hd : w0.heap.size ≤ d ∧ w0.heap.size ≤ g ∧ w0.heap.size ≤ p
  b : Below w0.heap.size w0 W
theorem FS.keep {w0 W W' : World} {d g p f : Nat} {xs q : List Th} {se : Bool} {re wt : Int} (h : FS w0 W d g p f xs q se re wt) (hb : Below W.heap.size W W') : FS w0 W' d g p f xs q se re wt :=
  ⟨h.dv.keep hb, h.hd, h.b.trans (hb.mono h.b.size)⟩
theorem FS.to {w0 W W' : World} {d g p f f' : Nat} {xs xs' q q' : List Th} {se se' : Bool} {re wt re' wt' : Int} (h : FS w0 W d g p f xs q se re wt) (h' : DV W' d g p 2 f' xs' q' 3 10 4 se' re' wt') {S : Nat → Prop} (hc : Chg S W W') (hS : ∀ k, S k → k = d ∨ k = g ∨ k = p) : FS w0 W' d g p f' xs' q' se' re' wt' :=
  ⟨h', h.hd, h.b.trans (hc.below (fun k hk hs => by have := h.hd; rcases hS k hs with rfl | rfl | rfl <;> omega) h.b.size)⟩
theorem FS.lt {w0 W : World} {d g p f : Nat} {xs q : List Th} {se : Bool} {re wt : Int} (h : FS w0 W d g p f xs q se re wt) : d < W.heap.size ∧ g < W.heap.size ∧ p < W.heap.size := ⟨h.dv.blk.lt, h.dv.ring.blk.lt, h.dv.ring.arr.lt⟩
/-- a block of an alert, apart from the deliverer's -/
def AB (W : World) (d g p b : Nat) (x : Th) : Prop := Blk W b 44 x.cells ∧ b ≠ d ∧ b ≠ g ∧ b ≠ p
theorem AB.to {W W' : World} {d g p b : Nat} {x : Th} (h : AB W d g p b x) {S : Nat → Prop} (hc : Chg S W W') (hS : ∀ k, S k → k = d ∨ k = g ∨ k = p) : AB W' d g p b x :=
  ⟨h.1.chg hc (fun e => by rcases hS b e with e | e | e; exact h.2.1 e; exact h.2.2.1 e; exact h.2.2.2 e), h.2⟩
theorem AB.keep {W W' : World} {d g p b : Nat} {x : Th} (h : AB W d g p b x) (hb : Below W.heap.size W W') : AB W' d g p b x := ⟨h.1.keep hb, h.2⟩
theorem AB.new {w0 W : World} {d g p f : Nat} {xs q : List Th} {se : Bool} {re wt : Int} (h : FS w0 W d g p f xs q se re wt) (x : Th) : AB (W.alloc (.cells x.cells 44)) d g p W.heap.size x :=
  ⟨Blk.new W _ _ rfl, by have := h.lt; omega⟩
theorem below_alloc (W : World) (o : Obj) : Below W.heap.size W (W.alloc o) := (Below.refl _ _).alloc (Nat.le_refl _) _
set_option maxRecDepth 100000 in
set_option maxHeartbeats 8000000 in
theorem fixed_any (w : World) : Calls Try.prog 5 #[] w (WNo w) := by
  have C1 := Lib.hid (dnew_ok 2 3 10 4 w (by decide) (by decide) (by decide) (by decide) (by decide))
  go_enter Try.func5, Try.ntmps5
  go_wp2_with fail
  refine C1.out.mono ?_
  rintro e w1 ⟨d, g, p, xs0, rfl, hd, hg, hp, hdv, hb1⟩
  have F1 : Hid (FS w w1 d g p 0 xs0 [] false 0 0) := Lib.hid ⟨hdv, ⟨hd, hg, hp⟩, hb1⟩
  have C2 := Lib.hid (dnew_none w1)
  clear hd hg hp hdv hb1 C1
  go_wp2_with fail
  refine C2.out.mono ?_
  rintro e w2 ⟨rfl, hb2⟩
  have F2 := Lib.hid (F1.out.keep hb2)
  clear F1 hb2 C2
  go_upto_region 6 with fail
  obtain ⟨w3, hw3⟩ : ∃ w3, w3 = w2.alloc (.cells #[.int .i64 0, .int .i64 0, .int .i64 0, .int .i64 0, .int .i64 0, .int .i64 0, .int .i64 0, .int .i64 0, .int .i64 0, .int .i64 0, .string { data := #[97] }, .int .u32 0] 44) := ⟨_, rfl⟩
  obtain ⟨ba, hba⟩ : ∃ ba, ba = w2.heap.size := ⟨_, rfl⟩
  rw [← hw3, ← hba]
  have hbw : Below w2.heap.size w2 w3 := by rw [hw3]; exact below_alloc _ _
  have Ba : Hid (AB w3 d g p ba thA) := Lib.hid (by rw [hw3, hba]; exact AB.new F2.out thA)
  have F3 := Lib.hid (F2.out.keep hbw)
  clear F2 hw3 hba hbw
  have CC := Lib.hid (by have h := dpush_ok d g p 2 0 3 10 4 xs0 [] false 0 0 thA w3 F3.out.dv (by decide); unfold DPush at h; exact h)
  have a0 : w3.cell? ⟨ba, 0, none⟩ = some (.int .i64 0) := Ba.out.1.cell 0
  have a1 : w3.cell? ⟨ba, 1, none⟩ = some (.int .i64 0) := Ba.out.1.cell 1
  have a2 : w3.cell? ⟨ba, 2, none⟩ = some (.int .i64 0) := Ba.out.1.cell 2
  have a3 : w3.cell? ⟨ba, 3, none⟩ = some (.int .i64 0) := Ba.out.1.cell 3
  have a4 : w3.cell? ⟨ba, 4, none⟩ = some (.int .i64 0) := Ba.out.1.cell 4
  have a5 : w3.cell? ⟨ba, 5, none⟩ = some (.int .i64 0) := Ba.out.1.cell 5
  have a6 : w3.cell? ⟨ba, 6, none⟩ = some (.int .i64 0) := Ba.out.1.cell 6
  have a7 : w3.cell? ⟨ba, 7, none⟩ = some (.int .i64 0) := Ba.out.1.cell 7
  have a8 : w3.cell? ⟨ba, 8, none⟩ = some (.int .i64 0) := Ba.out.1.cell 8
  have a9 : w3.cell? ⟨ba, 9, none⟩ = some (.int .i64 0) := Ba.out.1.cell 9
  have a10 : w3.cell? ⟨ba, 10, none⟩ = some (.string { data := #[97] }) := Ba.out.1.cell 10
  have a11 : w3.cell? ⟨ba, 11, none⟩ = some (.int .u32 0) := Ba.out.1.cell 11
  go_wp2_with fail
  refine CC.out.mono ?_
  rintro e w4 ⟨rfl, xs1, hdv, hc⟩
  have F4 := Lib.hid (F3.out.to hdv hc (fun k h => by rcases h with h | h; exact .inr (.inl h); exact .inr (.inr h)))
  have Ba' := Lib.hid (Ba.out.to hc (fun k h => by rcases h with h | h; exact .inr (.inl h); exact .inr (.inr h)))
  clear Ba
  have Ba := Ba'
  clear Ba'
  clear F3 CC a0 a1 a2 a3 a4 a5 a6 a7 a8 a9 a10 a11
  clear hdv hc
  simp only [List.nil_append] at F4
  have CC := Lib.hid (by have h := dpush_ok d g p 2 0 3 10 4 xs1 [thA] false 0 0 thB w4 F4.out.dv (by decide); unfold DPush at h; exact h)
  go_wp2_with fail
  refine CC.out.mono ?_
  rintro e w5 ⟨rfl, xs2, hdv, hc⟩
  have F5 := Lib.hid (F4.out.to hdv hc (fun k h => by rcases h with h | h; exact .inr (.inl h); exact .inr (.inr h)))
  have Ba' := Lib.hid (Ba.out.to hc (fun k h => by rcases h with h | h; exact .inr (.inl h); exact .inr (.inr h)))
  clear Ba
  have Ba := Ba'
  clear Ba'
  clear F4 CC
  clear hdv hc
  have CC := Lib.hid (dpush_full d g p 2 0 3 10 4 xs2 [thA, thB] false 0 0 thA w5 F5.out.dv rfl)
  have a0 : w5.cell? ⟨ba, 0, none⟩ = some (.int .i64 0) := Ba.out.1.cell 0
  have a1 : w5.cell? ⟨ba, 1, none⟩ = some (.int .i64 0) := Ba.out.1.cell 1
  have a2 : w5.cell? ⟨ba, 2, none⟩ = some (.int .i64 0) := Ba.out.1.cell 2
  have a3 : w5.cell? ⟨ba, 3, none⟩ = some (.int .i64 0) := Ba.out.1.cell 3
  have a4 : w5.cell? ⟨ba, 4, none⟩ = some (.int .i64 0) := Ba.out.1.cell 4
  have a5 : w5.cell? ⟨ba, 5, none⟩ = some (.int .i64 0) := Ba.out.1.cell 5
  have a6 : w5.cell? ⟨ba, 6, none⟩ = some (.int .i64 0) := Ba.out.1.cell 6
  have a7 : w5.cell? ⟨ba, 7, none⟩ = some (.int .i64 0) := Ba.out.1.cell 7
  have a8 : w5.cell? ⟨ba, 8, none⟩ = some (.int .i64 0) := Ba.out.1.cell 8
  have a9 : w5.cell? ⟨ba, 9, none⟩ = some (.int .i64 0) := Ba.out.1.cell 9
  have a10 : w5.cell? ⟨ba, 10, none⟩ = some (.string { data := #[97] }) := Ba.out.1.cell 10
  have a11 : w5.cell? ⟨ba, 11, none⟩ = some (.int .u32 0) := Ba.out.1.cell 11
  go_wp2_with fail
  refine CC.out.mono ?_
  rintro e w6 ⟨rfl, hb⟩
  have F6 := Lib.hid (F5.out.keep hb)
  have Ba' := Lib.hid (Ba.out.keep hb)
  clear Ba
  have Ba := Ba'
  clear Ba'
  clear F5 CC a0 a1 a2 a3 a4 a5 a6 a7 a8 a9 a10 a11
  clear hb
  have CC := Lib.hid (send_ok d g p 2 0 3 10 4 xs2 [thB] thA 0 0 0 w6 F6.out.dv (by decide) (by decide))
  go_wp2_with fail
  refine CC.out.mono ?_
  rintro e w7 ⟨rfl, hdv, hc⟩
  have F7 := Lib.hid (F6.out.to hdv hc (fun k h => .inl h))
  have Ba' := Lib.hid (Ba.out.to hc (fun k h => .inl h))
  clear Ba
  have Ba := Ba'
  clear Ba'
  clear F6 CC
  clear hdv hc
  simp only [thA, Th.cells]
  go_upto_region 10 with fail
  obtain ⟨w8, hw8⟩ : ∃ w8, w8 = w7.alloc (.cells #[.int .i64 0, .int .i64 0, .int .i64 0, .int .i64 0, .int .i64 0, .int .i64 0, .int .i64 0, .int .i64 0, .int .i64 0, .int .i64 0, .string { data := #[97] }, .int .u32 0] 44) := ⟨_, rfl⟩
  obtain ⟨bx, hbx⟩ : ∃ bx, bx = w7.heap.size := ⟨_, rfl⟩
  rw [← hw8, ← hbx]
  have hbw : Below w7.heap.size w7 w8 := by rw [hw8]; exact below_alloc _ _
  have Bx : Hid (AB w8 d g p bx thA) := Lib.hid (by rw [hw8, hbx]; exact AB.new F7.out thA)
  have F8 := Lib.hid (F7.out.keep hbw)
  have Ba' := Lib.hid (Ba.out.keep hbw)
  clear Ba
  have Ba := Ba'
  clear Ba'
  clear F7 hw8 hbx hbw
  have CC := Lib.hid (by have h := ans_again d g p 2 0 3 10 4 xs2 [thB] thA 0 0 5 2 w8 F8.out.dv (by decide); unfold AnsP at h; exact h)
  go_wp2_with fail
  refine CC.out.mono ?_
  rintro e w9 ⟨rfl, f3, xs3, hdv, hc⟩
  have F9 := Lib.hid (F8.out.to hdv hc (fun k h => h))
  have Ba' := Lib.hid (Ba.out.to hc (fun k h => h))
  clear Ba
  have Ba := Ba'
  clear Ba'
  have Bx' := Lib.hid (Bx.out.to hc (fun k h => h))
  clear Bx
  have Bx := Bx'
  clear Bx'
  clear F8 CC
  clear hdv hc
  have ew : duI (tmC 5) (3 : Nat) (10 : Nat) (0 : Nat) 2 (4 : Nat) = 10 := by decide
  rw [ew] at F9
  clear ew
  simp only [thA, Th.cells]
  go_upto_region 11 with fail
  obtain ⟨w10, hw10⟩ : ∃ w10, w10 = w9.alloc (.cells #[.int .i64 0, .int .i64 0, .int .i64 0, .int .i64 0, .int .i64 0, .int .i64 0, .int .i64 0, .int .i64 0, .int .i64 0, .int .i64 0, .string { data := #[97] }, .int .u32 0] 44) := ⟨_, rfl⟩
  obtain ⟨bo, hbo⟩ : ∃ bo, bo = w9.heap.size := ⟨_, rfl⟩
  rw [← hw10, ← hbo]
  have hbw : Below w9.heap.size w9 w10 := by rw [hw10]; exact below_alloc _ _
  have Bo : Hid (AB w10 d g p bo thA) := Lib.hid (by rw [hw10, hbo]; exact AB.new F9.out thA)
  have F10 := Lib.hid (F9.out.keep hbw)
  have Ba' := Lib.hid (Ba.out.keep hbw)
  clear Ba
  have Ba := Ba'
  clear Ba'
  have Bx' := Lib.hid (Bx.out.keep hbw)
  clear Bx
  have Bx := Bx'
  clear Bx'
  clear F9 hw10 hbo hbw
  have CC := Lib.hid (send_early d g p 2 f3 3 10 4 xs3 [thB] thA _ 10 9 w10 F10.out.dv (by decide))
  go_wp2_with fail
  refine CC.out.mono ?_
  rintro e w11 ⟨rfl, hb⟩
  have F11 := Lib.hid (F10.out.keep hb)
  have Ba' := Lib.hid (Ba.out.keep hb)
  clear Ba
  have Ba := Ba'
  clear Ba'
  have Bx' := Lib.hid (Bx.out.keep hb)
  clear Bx
  have Bx := Bx'
  clear Bx'
  have Bo' := Lib.hid (Bo.out.keep hb)
  clear Bo
  have Bo := Bo'
  clear Bo'
  clear F10 CC
  clear hb
  simp only [th0, Th.cells]
  go_upto_region 12 with fail
  obtain ⟨w12, hw12⟩ : ∃ w12, w12 = w11.alloc (.cells #[.int .i64 0, .int .i64 0, .int .i64 0, .int .i64 0, .int .i64 0, .int .i64 0, .int .i64 0, .int .i64 0, .int .i64 0, .int .i64 0, .string ByteArray.empty, .int .u32 0] 44) := ⟨_, rfl⟩
  obtain ⟨bu, hbu⟩ : ∃ bu, bu = w11.heap.size := ⟨_, rfl⟩
  rw [← hw12, ← hbu]
  have hbw : Below w11.heap.size w11 w12 := by rw [hw12]; exact below_alloc _ _
  have Bu : Hid (AB w12 d g p bu th0) := Lib.hid (by rw [hw12, hbu]; exact AB.new F11.out th0)
  have F12 := Lib.hid (F11.out.keep hbw)
  have Ba' := Lib.hid (Ba.out.keep hbw)
  clear Ba
  have Ba := Ba'
  clear Ba'
  have Bx' := Lib.hid (Bx.out.keep hbw)
  clear Bx
  have Bx := Bx'
  clear Bx'
  have Bo' := Lib.hid (Bo.out.keep hbw)
  clear Bo
  have Bo := Bo'
  clear Bo'
  clear F11 hw12 hbu hbw
  have CC := Lib.hid (send_ok d g p 2 f3 3 10 4 xs3 [thB] thA _ 10 10 w12 F12.out.dv (by decide) (by decide))
  go_wp2_with fail
  refine CC.out.mono ?_
  rintro e w13 ⟨rfl, hdv, hc⟩
  have F13 := Lib.hid (F12.out.to hdv hc (fun k h => .inl h))
  have Ba' := Lib.hid (Ba.out.to hc (fun k h => .inl h))
  clear Ba
  have Ba := Ba'
  clear Ba'
  have Bx' := Lib.hid (Bx.out.to hc (fun k h => .inl h))
  clear Bx
  have Bx := Bx'
  clear Bx'
  have Bo' := Lib.hid (Bo.out.to hc (fun k h => .inl h))
  clear Bo
  have Bo := Bo'
  clear Bo'
  have Bu' := Lib.hid (Bu.out.to hc (fun k h => .inl h))
  clear Bu
  have Bu := Bu'
  clear Bu'
  clear F12 CC
  clear hdv hc
  simp only [thA, Th.cells]
  go_upto_region 13 with fail
  obtain ⟨w14, hw14⟩ : ∃ w14, w14 = w13.alloc (.cells #[.int .i64 0, .int .i64 0, .int .i64 0, .int .i64 0, .int .i64 0, .int .i64 0, .int .i64 0, .int .i64 0, .int .i64 0, .int .i64 0, .string { data := #[97] }, .int .u32 0] 44) := ⟨_, rfl⟩
  obtain ⟨bs, hbs⟩ : ∃ bs, bs = w13.heap.size := ⟨_, rfl⟩
  rw [← hw14, ← hbs]
  have hbw : Below w13.heap.size w13 w14 := by rw [hw14]; exact below_alloc _ _
  have Bs : Hid (AB w14 d g p bs thA) := Lib.hid (by rw [hw14, hbs]; exact AB.new F13.out thA)
  have F14 := Lib.hid (F13.out.keep hbw)
  have Ba' := Lib.hid (Ba.out.keep hbw)
  clear Ba
  have Ba := Ba'
  clear Ba'
  have Bx' := Lib.hid (Bx.out.keep hbw)
  clear Bx
  have Bx := Bx'
  clear Bx'
  have Bo' := Lib.hid (Bo.out.keep hbw)
  clear Bo
  have Bo := Bo'
  clear Bo'
  have Bu' := Lib.hid (Bu.out.keep hbw)
  clear Bu
  have Bu := Bu'
  clear Bu'
  clear F13 hw14 hbs hbw
  have CC := Lib.hid (by have h := ans_yes d g p 2 f3 3 10 4 xs3 [thB] thA _ 10 10 0 w14 F14.out.dv; unfold AnsP at h; exact h)
  go_wp2_with fail
  refine CC.out.mono ?_
  rintro e w15 ⟨rfl, f4, xs4, hdv, hc⟩
  have F15 := Lib.hid (F14.out.to hdv hc (fun k h => h))
  have Ba' := Lib.hid (Ba.out.to hc (fun k h => h))
  clear Ba
  have Ba := Ba'
  clear Ba'
  have Bx' := Lib.hid (Bx.out.to hc (fun k h => h))
  clear Bx
  have Bx := Bx'
  clear Bx'
  have Bo' := Lib.hid (Bo.out.to hc (fun k h => h))
  clear Bo
  have Bo := Bo'
  clear Bo'
  have Bu' := Lib.hid (Bu.out.to hc (fun k h => h))
  clear Bu
  have Bu := Bu'
  clear Bu'
  have Bs' := Lib.hid (Bs.out.to hc (fun k h => h))
  clear Bs
  have Bs := Bs'
  clear Bs'
  clear F14 CC
  clear hdv hc
  simp only [thA, Th.cells]
  go_upto_region 14 with fail
  obtain ⟨w16, hw16⟩ : ∃ w16, w16 = w15.alloc (.cells #[.int .i64 0, .int .i64 0, .int .i64 0, .int .i64 0, .int .i64 0, .int .i64 0, .int .i64 0, .int .i64 0, .int .i64 0, .int .i64 0, .string { data := #[97] }, .int .u32 0] 44) := ⟨_, rfl⟩
  obtain ⟨bk, hbk⟩ : ∃ bk, bk = w15.heap.size := ⟨_, rfl⟩
  rw [← hw16, ← hbk]
  have hbw : Below w15.heap.size w15 w16 := by rw [hw16]; exact below_alloc _ _
  have Bk : Hid (AB w16 d g p bk thA) := Lib.hid (by rw [hw16, hbk]; exact AB.new F15.out thA)
  have F16 := Lib.hid (F15.out.keep hbw)
  have Ba' := Lib.hid (Ba.out.keep hbw)
  clear Ba
  have Ba := Ba'
  clear Ba'
  have Bx' := Lib.hid (Bx.out.keep hbw)
  clear Bx
  have Bx := Bx'
  clear Bx'
  have Bo' := Lib.hid (Bo.out.keep hbw)
  clear Bo
  have Bo := Bo'
  clear Bo'
  have Bu' := Lib.hid (Bu.out.keep hbw)
  clear Bu
  have Bu := Bu'
  clear Bu'
  have Bs' := Lib.hid (Bs.out.keep hbw)
  clear Bs
  have Bs := Bs'
  clear Bs'
  clear F15 hw16 hbk hbw
  have CC := Lib.hid (by have h := queue_any d g p 2 f4 3 10 4 xs4 [thB] false 0 0 w16 F16.out.dv; unfold AllT at h; exact h)
  go_wp2_with fail
  refine CC.out.mono ?_
  rintro e w17 ⟨lq, rfl, hlq, hbl, hb⟩
  have F17 := Lib.hid (F16.out.keep hb)
  have Ba' := Lib.hid (Ba.out.keep hb)
  clear Ba
  have Ba := Ba'
  clear Ba'
  have Bx' := Lib.hid (Bx.out.keep hb)
  clear Bx
  have Bx := Bx'
  clear Bx'
  have Bo' := Lib.hid (Bo.out.keep hb)
  clear Bo
  have Bo := Bo'
  clear Bo'
  have Bu' := Lib.hid (Bu.out.keep hb)
  clear Bu
  have Bu := Bu'
  clear Bu'
  have Bs' := Lib.hid (Bs.out.keep hb)
  clear Bs
  have Bs := Bs'
  clear Bs'
  have Bk' := Lib.hid (Bk.out.keep hb)
  clear Bk
  have Bk := Bk'
  clear Bk'
  clear F16 CC
  clear hb hlq
  have HL := Lib.hid hbl
  clear hbl
  have l10 : w17.cell? ⟨lq, 10, none⟩ = some (.string { data := #[98] }) := HL.out.cell 10
  have dc0 : w17.cell? ⟨d, 0, none⟩ = some (.pointer (some ⟨g, 0, none⟩)) := F17.out.dv.blk.cell 0
  have a0 : w17.cell? ⟨ba, 0, none⟩ = some (.int .i64 0) := Ba.out.1.cell 0
  have a1 : w17.cell? ⟨ba, 1, none⟩ = some (.int .i64 0) := Ba.out.1.cell 1
  have a2 : w17.cell? ⟨ba, 2, none⟩ = some (.int .i64 0) := Ba.out.1.cell 2
  have a3 : w17.cell? ⟨ba, 3, none⟩ = some (.int .i64 0) := Ba.out.1.cell 3
  have a4 : w17.cell? ⟨ba, 4, none⟩ = some (.int .i64 0) := Ba.out.1.cell 4
  have a5 : w17.cell? ⟨ba, 5, none⟩ = some (.int .i64 0) := Ba.out.1.cell 5
  have a6 : w17.cell? ⟨ba, 6, none⟩ = some (.int .i64 0) := Ba.out.1.cell 6
  have a7 : w17.cell? ⟨ba, 7, none⟩ = some (.int .i64 0) := Ba.out.1.cell 7
  have a8 : w17.cell? ⟨ba, 8, none⟩ = some (.int .i64 0) := Ba.out.1.cell 8
  have a9 : w17.cell? ⟨ba, 9, none⟩ = some (.int .i64 0) := Ba.out.1.cell 9
  have a10 : w17.cell? ⟨ba, 10, none⟩ = some (.string { data := #[97] }) := Ba.out.1.cell 10
  have a11 : w17.cell? ⟨ba, 11, none⟩ = some (.int .u32 0) := Ba.out.1.cell 11
  have x0 : w17.cell? ⟨bx, 0, none⟩ = some (.int .i64 0) := Bx.out.1.cell 0
  have x1 : w17.cell? ⟨bx, 1, none⟩ = some (.int .i64 0) := Bx.out.1.cell 1
  have x2 : w17.cell? ⟨bx, 2, none⟩ = some (.int .i64 0) := Bx.out.1.cell 2
  have x3 : w17.cell? ⟨bx, 3, none⟩ = some (.int .i64 0) := Bx.out.1.cell 3
  have x4 : w17.cell? ⟨bx, 4, none⟩ = some (.int .i64 0) := Bx.out.1.cell 4
  have x5 : w17.cell? ⟨bx, 5, none⟩ = some (.int .i64 0) := Bx.out.1.cell 5
  have x6 : w17.cell? ⟨bx, 6, none⟩ = some (.int .i64 0) := Bx.out.1.cell 6
  have x7 : w17.cell? ⟨bx, 7, none⟩ = some (.int .i64 0) := Bx.out.1.cell 7
  have x8 : w17.cell? ⟨bx, 8, none⟩ = some (.int .i64 0) := Bx.out.1.cell 8
  have x9 : w17.cell? ⟨bx, 9, none⟩ = some (.int .i64 0) := Bx.out.1.cell 9
  have x10 : w17.cell? ⟨bx, 10, none⟩ = some (.string { data := #[97] }) := Bx.out.1.cell 10
  have x11 : w17.cell? ⟨bx, 11, none⟩ = some (.int .u32 0) := Bx.out.1.cell 11
  have o0 : w17.cell? ⟨bo, 0, none⟩ = some (.int .i64 0) := Bo.out.1.cell 0
  have o1 : w17.cell? ⟨bo, 1, none⟩ = some (.int .i64 0) := Bo.out.1.cell 1
  have o2 : w17.cell? ⟨bo, 2, none⟩ = some (.int .i64 0) := Bo.out.1.cell 2
  have o3 : w17.cell? ⟨bo, 3, none⟩ = some (.int .i64 0) := Bo.out.1.cell 3
  have o4 : w17.cell? ⟨bo, 4, none⟩ = some (.int .i64 0) := Bo.out.1.cell 4
  have o5 : w17.cell? ⟨bo, 5, none⟩ = some (.int .i64 0) := Bo.out.1.cell 5
  have o6 : w17.cell? ⟨bo, 6, none⟩ = some (.int .i64 0) := Bo.out.1.cell 6
  have o7 : w17.cell? ⟨bo, 7, none⟩ = some (.int .i64 0) := Bo.out.1.cell 7
  have o8 : w17.cell? ⟨bo, 8, none⟩ = some (.int .i64 0) := Bo.out.1.cell 8
  have o9 : w17.cell? ⟨bo, 9, none⟩ = some (.int .i64 0) := Bo.out.1.cell 9
  have o10 : w17.cell? ⟨bo, 10, none⟩ = some (.string { data := #[97] }) := Bo.out.1.cell 10
  have o11 : w17.cell? ⟨bo, 11, none⟩ = some (.int .u32 0) := Bo.out.1.cell 11
  have CW : Hid (∀ k, Calls Try.prog 9 #[.pointer (some ⟨d, 0, none⟩)] (w17.drewN k) fun e w' => e = .returned (.int .i64 0) ∧ w17.drewN k = w') := Lib.hid fun k => wait_any d g p 2 f4 3 10 4 xs4 [thB] false 0 0 _ (F17.out.dv.keep (below_drewN (Below.refl _ _) _))
  have CF : Hid (∀ k, Calls Try.prog 10 #[.pointer (some ⟨g, 0, none⟩)] (w17.drewN k) fun e w' => e = .returned (.bool false) ∧ ∃ m, w' = (w17.drewN k).drewN m) := Lib.hid fun k => fullT_any g p 2 f4 xs4 [thB] _ (F17.out.dv.ring.keep (below_drewN (Below.refl _ _) _))
  have hq := guard_al
  have he := eq_al thA
  simp only [thA, Th.cells] at he
  clear HL
  simp only [List.length_cons, List.length_nil]
  go_wp2_with fail
  refine (CW.out 0).mono ?_
  rintro e wa ⟨rfl, rfl⟩
  go_wp2_with fail
  refine (CF.out 0).mono ?_
  rintro e wb ⟨rfl, md, rfl⟩
  go_wp2_with fail
  go_ret
  exact ⟨rfl, below_drewN F17.out.b _⟩
end Go.Proofs.Ytjkocghbnljifaa
