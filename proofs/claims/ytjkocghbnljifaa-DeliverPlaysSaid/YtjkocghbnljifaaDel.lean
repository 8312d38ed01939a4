/- THE WALKS of package deliver: time, New, Queue, Wait, Push. -/
import Derived.Test.YtjkocghbnljifaaAlAll
import Derived.Test.YtjkocghbnljifaaBackDueW
import Derived.Deep.LoopGhost
import Derived.Deep.CutBlock
import Derived.LoopN
namespace Go.Proofs.Ytjkocghbnljifaa
open Go.RowKit
/-- a deliverer at block d over the ring at g -/
structure DV (w : World) (d g p N f : Nat) (xs q : List Th) (ba mo ji : Nat) (se : Bool) (re wt : Int) : Prop where
  blk : Blk w d 53 #[.pointer (some ⟨g, 0, none⟩), .int .i64 (ba : Int), .int .i64 (mo : Int), .int .i64 (ji : Int), .bool se, .int .i64 re, .int .i64 wt]
  ring : RT w g p N f xs q
theorem DV.dg {w : World} {d g p N f ba mo ji : Nat} {xs q : List Th} {se : Bool} {re wt : Int} (h : DV w d g p N f xs q ba mo ji se re wt) : d ≠ g ∧ d ≠ p := by
  constructor
  · intro e
    have h1 := h.blk; have h2 := h.ring.blk
    rw [e] at h1
    unfold Blk at h1 h2
    rw [h1] at h2
    injection h2 with h2
    injection h2 with _ ht
    exact absurd ht (by decide)
  · intro e
    have h1 := h.blk; have h2 := h.ring.arr
    rw [e] at h1
    unfold Blk at h1 h2
    rw [h1] at h2
    injection h2 with h2
    injection h2 with _ ht
    exact absurd ht (by decide)
theorem DV.chg {S : Nat → Prop} {w w' : World} {d g p N f ba mo ji : Nat} {xs q : List Th} {se : Bool} {re wt : Int} (h : DV w d g p N f xs q ba mo ji se re wt) (hc : Chg S w w') (hd : ¬ S d) (hg : ¬ S g) (hp : ¬ S p) : DV w' d g p N f xs q ba mo ji se re wt :=
  ⟨h.blk.chg hc hd, h.ring.chg hc hg hp⟩
theorem DV.keep {w w' : World} {d g p N f ba mo ji : Nat} {xs q : List Th} {se : Bool} {re wt : Int} (h : DV w d g p N f xs q ba mo ji se re wt) (hb : Below w.heap.size w w') : DV w' d g p N f xs q ba mo ji se re wt :=
  ⟨h.blk.keep hb, h.ring.keep hb⟩
def dvF (d g p : Nat) : Nat → Prop := fun k => k = d ∨ k = g ∨ k = p
/-- a time, as far as it goes -/
def tmC (x : Int) : Int := min (max x 0) 2305843009213693952
theorem time_any (x : Int) (w : World) : Calls Try.prog 28 #[.int .i64 x] w fun e w' => e = .returned (.int .i64 (tmC x)) ∧ w = w' := by
  unfold tmC
  go_enter Try.func28, Try.ntmps28
  go_wp2
  go_ret
  exact ⟨rfl, rfl⟩
theorem queue_any (d g p N f ba mo ji : Nat) (xs q : List Th) (se : Bool) (re wt : Int) (w : World) (h : DV w d g p N f xs q ba mo ji se re wt) :
    Calls Try.prog 12 #[.pointer (some ⟨d, 0, none⟩)] w (AllT q w) := by
  have c0 : w.cell? ⟨d, 0, none⟩ = some (.pointer (some ⟨g, 0, none⟩)) := h.blk.cell 0
  have CA := Lib.hid (allT_any g p N f xs q w h.ring)
  clear h
  go_enter Try.func12, Try.ntmps12
  go_wp2_with fail
  refine CA.out.mono ?_
  intro e w' hpost
  have HP := Lib.hid hpost
  obtain ⟨a, rfl, _⟩ := hpost
  go_wp2_with fail
  go_ret
  exact HP.out
theorem wait_any (d g p N f ba mo ji : Nat) (xs q : List Th) (se : Bool) (re wt : Int) (w : World) (h : DV w d g p N f xs q ba mo ji se re wt) :
    Calls Try.prog 9 #[.pointer (some ⟨d, 0, none⟩)] w fun e w' => e = .returned (.int .i64 wt) ∧ w = w' := by
  have c6 : w.cell? ⟨d, 6, none⟩ = some (.int .i64 wt) := h.blk.cell 6
  clear h
  go_enter Try.func9, Try.ntmps9
  go_wp2
  go_ret
  exact ⟨rfl, rfl⟩
set_option maxRecDepth 100000 in
set_option maxHeartbeats 4000000 in
theorem dpush_full (d g p N f ba mo ji : Nat) (xs q : List Th) (se : Bool) (re wt : Int) (x : Th) (w : World) (h : DV w d g p N f xs q ba mo ji se re wt) (hq : q.length = N) :
    Calls Try.prog 15 #[.pointer (some ⟨d, 0, none⟩), .agg x.cells] w fun e w' => e = .returned (.int .i64 180) ∧ Below w.heap.size w w' := by
  have h0 := h.keep ((Below.refl _ _).alloc (Nat.le_refl _) (.cells x.cells 44))
  have hB0 : Blk (w.alloc (.cells x.cells 44)) w.heap.size 44 x.cells := Blk.new w _ _ rfl
  have hC0 : Below w.heap.size w (w.alloc (.cells x.cells 44)) := (Below.refl _ _).alloc (Nat.le_refl _) _
  have hdl := h.blk.lt; have hgl := h.ring.blk.lt; have hpl := h.ring.arr.lt
  obtain ⟨w0, hw0⟩ : ∃ w0, w0 = w.alloc (.cells x.cells 44) := ⟨_, rfl⟩
  obtain ⟨b, hb⟩ : ∃ b, b = w.heap.size := ⟨_, rfl⟩
  rw [← hw0] at h0 hB0 hC0
  rw [← hb] at hB0
  have H0 := Lib.hid h0; have HK := Lib.hid hB0; have HC := Lib.hid hC0
  have CP : Hid (∀ t : Nat, Calls Try.prog 26 #[.pointer (some ⟨g, 0, none⟩), .agg x.cells] (w0.drewN t) fun e w' => e = .returned (.int .i64 180) ∧ Below w0.heap.size w0 w') := Lib.hid (fun t =>
    (pushT_full g p N f xs q x (w0.drewN t) (H0.out.ring.keep (below_drewN (Below.refl _ _) t)) hq).mono (fun e w' ⟨h1, h2⟩ => ⟨h1, (below_drewN (Below.refl _ w0) t).trans h2⟩))
  have c0 : w0.cell? ⟨d, 0, none⟩ = some (.pointer (some ⟨g, 0, none⟩)) := h0.blk.cell 0
  have HNE : Hid (d ≠ g ∧ d ≠ p ∧ b ≠ g ∧ b ≠ p ∧ b ≠ d) := Lib.hid ⟨h.dg.1, h.dg.2, by omega, by omega, by omega⟩
  clear h h0 hB0 hC0 hq
  obtain ⟨qp, qm0, qm1, qm2, qm3, qm4, qm5, qm6, qm7, qm8, qt, qr⟩ := x
  obtain ⟨X, hX⟩ : ∃ X : Th, X = ⟨qp, qm0, qm1, qm2, qm3, qm4, qm5, qm6, qm7, qm8, qt, qr⟩ := ⟨_, rfl⟩
  have HXX := Lib.hid hX
  have HXC : Hid (X.cells = #[.int .i64 qp, .int .i64 qm0, .int .i64 qm1, .int .i64 qm2, .int .i64 qm3, .int .i64 qm4, .int .i64 qm5, .int .i64 qm6, .int .i64 qm7, .int .i64 qm8, .string qt, .int .u32 qr]) := Lib.hid (by rw [hX]; rfl)
  rw [← hX] at CP HK ⊢
  rw [HXC.out] at CP HK ⊢
  clear hX
  have b0 : w0.cell? ⟨b, 0, none⟩ = some (.int .i64 qp) := HK.out.cell 0
  have b1 : w0.cell? ⟨b, 1, none⟩ = some (.int .i64 qm0) := HK.out.cell 1
  have b2 : w0.cell? ⟨b, 2, none⟩ = some (.int .i64 qm1) := HK.out.cell 2
  have b3 : w0.cell? ⟨b, 3, none⟩ = some (.int .i64 qm2) := HK.out.cell 3
  have b4 : w0.cell? ⟨b, 4, none⟩ = some (.int .i64 qm3) := HK.out.cell 4
  have b5 : w0.cell? ⟨b, 5, none⟩ = some (.int .i64 qm4) := HK.out.cell 5
  have b6 : w0.cell? ⟨b, 6, none⟩ = some (.int .i64 qm5) := HK.out.cell 6
  have b7 : w0.cell? ⟨b, 7, none⟩ = some (.int .i64 qm6) := HK.out.cell 7
  have b8 : w0.cell? ⟨b, 8, none⟩ = some (.int .i64 qm7) := HK.out.cell 8
  have b9 : w0.cell? ⟨b, 9, none⟩ = some (.int .i64 qm8) := HK.out.cell 9
  have b10 : w0.cell? ⟨b, 10, none⟩ = some (.string qt) := HK.out.cell 10
  have b11 : w0.cell? ⟨b, 11, none⟩ = some (.int .u32 qr) := HK.out.cell 11
  simp only [Th.cells] at hw0
  go_enter Try.func15, Try.ntmps15
  go_upto_region 1 with fail
  rw [← hw0, ← hb]
  clear hw0 hb hdl hgl hpl
  go_region_held3 (fun w' => w'.cell? ⟨d, 0, none⟩ = some (.pointer (some ⟨g, 0, none⟩)) ∧ w'.cell? ⟨b, 0, none⟩ = some (.int .i64 qp) ∧ w'.cell? ⟨b, 1, none⟩ = some (.int .i64 qm0) ∧ w'.cell? ⟨b, 2, none⟩ = some (.int .i64 qm1) ∧ w'.cell? ⟨b, 3, none⟩ = some (.int .i64 qm2) ∧ w'.cell? ⟨b, 4, none⟩ = some (.int .i64 qm3) ∧ w'.cell? ⟨b, 5, none⟩ = some (.int .i64 qm4) ∧ w'.cell? ⟨b, 6, none⟩ = some (.int .i64 qm5) ∧ w'.cell? ⟨b, 7, none⟩ = some (.int .i64 qm6) ∧ w'.cell? ⟨b, 8, none⟩ = some (.int .i64 qm7) ∧ w'.cell? ⟨b, 9, none⟩ = some (.int .i64 qm8) ∧ w'.cell? ⟨b, 10, none⟩ = some (.string qt) ∧ w'.cell? ⟨b, 11, none⟩ = some (.int .u32 qr)) (first | go_keep | exact ⟨kd, e0, e1, e2, e3, e4, e5, e6, e7, e8, e9, e10, e11⟩)
    (first | (go_at_call 26; refine (CP.out _).mono ?_; rintro e w1 ⟨rfl, hb1⟩; have KD := Lib.hid (H0.out.blk.keep hb1); have KB := Lib.hid (HK.out.keep hb1); have HF : Hid (Below w.heap.size w w1) := Lib.hid (HC.out.trans (hb1.mono HC.out.size)); clear hb1; have kd : w1.cell? ⟨d, 0, none⟩ = some (.pointer (some ⟨g, 0, none⟩)) := KD.out.cell 0; have e0 : w1.cell? ⟨b, 0, none⟩ = some (.int .i64 qp) := KB.out.cell 0; have e1 : w1.cell? ⟨b, 1, none⟩ = some (.int .i64 qm0) := KB.out.cell 1; have e2 : w1.cell? ⟨b, 2, none⟩ = some (.int .i64 qm1) := KB.out.cell 2; have e3 : w1.cell? ⟨b, 3, none⟩ = some (.int .i64 qm2) := KB.out.cell 3; have e4 : w1.cell? ⟨b, 4, none⟩ = some (.int .i64 qm3) := KB.out.cell 4; have e5 : w1.cell? ⟨b, 5, none⟩ = some (.int .i64 qm4) := KB.out.cell 5; have e6 : w1.cell? ⟨b, 6, none⟩ = some (.int .i64 qm5) := KB.out.cell 6; have e7 : w1.cell? ⟨b, 7, none⟩ = some (.int .i64 qm6) := KB.out.cell 7; have e8 : w1.cell? ⟨b, 8, none⟩ = some (.int .i64 qm7) := KB.out.cell 8; have e9 : w1.cell? ⟨b, 9, none⟩ = some (.int .i64 qm8) := KB.out.cell 9; have e10 : w1.cell? ⟨b, 10, none⟩ = some (.string qt) := KB.out.cell 10; have e11 : w1.cell? ⟨b, 11, none⟩ = some (.int .u32 qr) := KB.out.cell 11))
  go_wp2_with fail
  go_ret
  exact ⟨rfl, HF.out⟩
def DPush (d g p N f : Nat) (q : List Th) (ba mo ji : Nat) (se : Bool) (re wt : Int) (w : World) (e : Ending) (w' : World) : Prop :=
  e = .returned (.int .i64 0) ∧ ∃ xs', DV w' d g p N f xs' q ba mo ji se re wt ∧ Chg (ringF g p) w w'
set_option maxRecDepth 100000 in
set_option maxHeartbeats 4000000 in
theorem dpush_ok (d g p N f ba mo ji : Nat) (xs q : List Th) (se : Bool) (re wt : Int) (x : Th) (w : World) (h : DV w d g p N f xs q ba mo ji se re wt) (hq : q.length < N) :
    Calls Try.prog 15 #[.pointer (some ⟨d, 0, none⟩), .agg x.cells] w (DPush d g p N f (q ++ [x]) ba mo ji se re wt w) := by
  have h0 := h.keep ((Below.refl _ _).alloc (Nat.le_refl _) (.cells x.cells 44))
  have hB0 : Blk (w.alloc (.cells x.cells 44)) w.heap.size 44 x.cells := Blk.new w _ _ rfl
  have hC0 : Below w.heap.size w (w.alloc (.cells x.cells 44)) := (Below.refl _ _).alloc (Nat.le_refl _) _
  have hdl := h.blk.lt; have hgl := h.ring.blk.lt; have hpl := h.ring.arr.lt
  obtain ⟨w0, hw0⟩ : ∃ w0, w0 = w.alloc (.cells x.cells 44) := ⟨_, rfl⟩
  obtain ⟨b, hb⟩ : ∃ b, b = w.heap.size := ⟨_, rfl⟩
  rw [← hw0] at h0 hB0 hC0
  rw [← hb] at hB0
  have H0 := Lib.hid h0; have HK := Lib.hid hB0; have HC := Lib.hid hC0
  have CP : Hid (∀ t : Nat, Calls Try.prog 26 #[.pointer (some ⟨g, 0, none⟩), .agg x.cells] (w0.drewN t) fun e w' => e = .returned (.int .i64 0) ∧ ∃ xs', RT w' g p N f xs' (q ++ [x]) ∧ Chg (ringF g p) w0 w') := Lib.hid (fun t =>
    (pushT_ok g p N f xs q x (w0.drewN t) (H0.out.ring.keep (below_drewN (Below.refl _ _) t)) hq).mono (fun e w' ⟨h1, xs', h2, h3⟩ => ⟨h1, xs', h2, ((Chg.refl _ w0).drewN t).trans h3 (fun _ _ h => h)⟩))
  have c0 : w0.cell? ⟨d, 0, none⟩ = some (.pointer (some ⟨g, 0, none⟩)) := h0.blk.cell 0
  have HNE : Hid (d ≠ g ∧ d ≠ p ∧ b ≠ g ∧ b ≠ p ∧ b ≠ d) := Lib.hid ⟨h.dg.1, h.dg.2, by omega, by omega, by omega⟩
  clear h h0 hB0 hC0 hq
  obtain ⟨qp, qm0, qm1, qm2, qm3, qm4, qm5, qm6, qm7, qm8, qt, qr⟩ := x
  obtain ⟨X, hX⟩ : ∃ X : Th, X = ⟨qp, qm0, qm1, qm2, qm3, qm4, qm5, qm6, qm7, qm8, qt, qr⟩ := ⟨_, rfl⟩
  have HXX := Lib.hid hX
  have HXC : Hid (X.cells = #[.int .i64 qp, .int .i64 qm0, .int .i64 qm1, .int .i64 qm2, .int .i64 qm3, .int .i64 qm4, .int .i64 qm5, .int .i64 qm6, .int .i64 qm7, .int .i64 qm8, .string qt, .int .u32 qr]) := Lib.hid (by rw [hX]; rfl)
  rw [← hX] at CP HK ⊢
  rw [HXC.out] at CP HK ⊢
  clear hX
  have b0 : w0.cell? ⟨b, 0, none⟩ = some (.int .i64 qp) := HK.out.cell 0
  have b1 : w0.cell? ⟨b, 1, none⟩ = some (.int .i64 qm0) := HK.out.cell 1
  have b2 : w0.cell? ⟨b, 2, none⟩ = some (.int .i64 qm1) := HK.out.cell 2
  have b3 : w0.cell? ⟨b, 3, none⟩ = some (.int .i64 qm2) := HK.out.cell 3
  have b4 : w0.cell? ⟨b, 4, none⟩ = some (.int .i64 qm3) := HK.out.cell 4
  have b5 : w0.cell? ⟨b, 5, none⟩ = some (.int .i64 qm4) := HK.out.cell 5
  have b6 : w0.cell? ⟨b, 6, none⟩ = some (.int .i64 qm5) := HK.out.cell 6
  have b7 : w0.cell? ⟨b, 7, none⟩ = some (.int .i64 qm6) := HK.out.cell 7
  have b8 : w0.cell? ⟨b, 8, none⟩ = some (.int .i64 qm7) := HK.out.cell 8
  have b9 : w0.cell? ⟨b, 9, none⟩ = some (.int .i64 qm8) := HK.out.cell 9
  have b10 : w0.cell? ⟨b, 10, none⟩ = some (.string qt) := HK.out.cell 10
  have b11 : w0.cell? ⟨b, 11, none⟩ = some (.int .u32 qr) := HK.out.cell 11
  simp only [Th.cells] at hw0
  go_enter Try.func15, Try.ntmps15
  go_upto_region 1 with fail
  rw [← hw0, ← hb]
  clear hw0 hb hdl hgl hpl
  go_region_held3 (fun w' => w'.cell? ⟨d, 0, none⟩ = some (.pointer (some ⟨g, 0, none⟩)) ∧ w'.cell? ⟨b, 0, none⟩ = some (.int .i64 qp) ∧ w'.cell? ⟨b, 1, none⟩ = some (.int .i64 qm0) ∧ w'.cell? ⟨b, 2, none⟩ = some (.int .i64 qm1) ∧ w'.cell? ⟨b, 3, none⟩ = some (.int .i64 qm2) ∧ w'.cell? ⟨b, 4, none⟩ = some (.int .i64 qm3) ∧ w'.cell? ⟨b, 5, none⟩ = some (.int .i64 qm4) ∧ w'.cell? ⟨b, 6, none⟩ = some (.int .i64 qm5) ∧ w'.cell? ⟨b, 7, none⟩ = some (.int .i64 qm6) ∧ w'.cell? ⟨b, 8, none⟩ = some (.int .i64 qm7) ∧ w'.cell? ⟨b, 9, none⟩ = some (.int .i64 qm8) ∧ w'.cell? ⟨b, 10, none⟩ = some (.string qt) ∧ w'.cell? ⟨b, 11, none⟩ = some (.int .u32 qr)) (first | go_keep | exact ⟨kd, e0, e1, e2, e3, e4, e5, e6, e7, e8, e9, e10, e11⟩)
    (first | (go_at_call 26; refine (CP.out _).mono ?_; rintro e w1 ⟨rfl, xs1, hr1, hc1⟩; have hne := HNE.out; have KD := Lib.hid (H0.out.blk.chg hc1 (fun h => by rcases h with h | h; exact hne.1 h; exact hne.2.1 h)); have KB := Lib.hid (HK.out.chg hc1 (fun h => by rcases h with h | h; exact hne.2.2.1 h; exact hne.2.2.2.1 h)); have HF : Hid (DPush d g p N f (q ++ [X]) ba mo ji se re wt w (.returned (.int .i64 0)) w1) := Lib.hid ⟨rfl, xs1, ⟨KD.out, hr1⟩, (Chg.of_below HC.out _).trans hc1 (fun _ _ h => h)⟩; clear hr1 hc1 hne; have kd : w1.cell? ⟨d, 0, none⟩ = some (.pointer (some ⟨g, 0, none⟩)) := KD.out.cell 0; have e0 : w1.cell? ⟨b, 0, none⟩ = some (.int .i64 qp) := KB.out.cell 0; have e1 : w1.cell? ⟨b, 1, none⟩ = some (.int .i64 qm0) := KB.out.cell 1; have e2 : w1.cell? ⟨b, 2, none⟩ = some (.int .i64 qm1) := KB.out.cell 2; have e3 : w1.cell? ⟨b, 3, none⟩ = some (.int .i64 qm2) := KB.out.cell 3; have e4 : w1.cell? ⟨b, 4, none⟩ = some (.int .i64 qm3) := KB.out.cell 4; have e5 : w1.cell? ⟨b, 5, none⟩ = some (.int .i64 qm4) := KB.out.cell 5; have e6 : w1.cell? ⟨b, 6, none⟩ = some (.int .i64 qm5) := KB.out.cell 6; have e7 : w1.cell? ⟨b, 7, none⟩ = some (.int .i64 qm6) := KB.out.cell 7; have e8 : w1.cell? ⟨b, 8, none⟩ = some (.int .i64 qm7) := KB.out.cell 8; have e9 : w1.cell? ⟨b, 9, none⟩ = some (.int .i64 qm8) := KB.out.cell 9; have e10 : w1.cell? ⟨b, 10, none⟩ = some (.string qt) := KB.out.cell 10; have e11 : w1.cell? ⟨b, 11, none⟩ = some (.int .u32 qr) := KB.out.cell 11))
  go_wp2_with fail
  go_ret
  exact HF.out
end Go.Proofs.Ytjkocghbnljifaa
