/- THE WALK of heronref17's Step (printed by a program of ours). -/
import Derived.Test.YtlojmmcagglpoaaGreatUTk
import Derived.Test.YtlojmmcagglpoaaGreatUFwStep
import Derived.Test.YtlojmmcagglpoaaGreatUGfUp
import Derived.Deep.QuietTactic
import Derived.BigQuiet
namespace Go.Proofs.YtlojmmcagglpoaaGreat
open Go.RowKit Go.Maps
attribute [local go_sem ↓] Go.wp_at_zero Go.wp_at_succ
theorem GfQ.far {W w1 w2 : World} {C : Nat → Nat} {c rb r : Nat} {k : FwK} {f : FwS} {dc : Array Value} (h : GfQ W C c rb k f w1) (hr : W.heap.size ≤ r) (hK : Blk w1 r 170 dc) (hc : Chg (fun b => b = r) w1 w2) : GfQ W C c rb k f w2 := by
  obtain ⟨⟨mb, v, hf⟩, h2⟩ := h
  refine ⟨⟨mb, v, hf.blk.chg hc (fun e => ?_), hf.maker.stp hc (fun e => ?_) (fun q hq e => ?_), hf.cr, hf.cm, hf.cv⟩, h2.trans hc (fun b hb e => by omega)⟩
  · have h1 := hf.blk; have h2 := hK
    rw [e] at h1
    unfold Blk at h1 h2
    rw [h1] at h2
    injection h2 with h2
    injection h2 with _ ht
    exact absurd ht (by decide)
  · have h1 := hf.maker.blk; have h2 := hK
    rw [e] at h1
    unfold Blk at h1 h2
    rw [h1] at h2
    injection h2 with h2
    injection h2 with _ ht
    exact absurd ht (by decide)
  · exact hK.apart hf.maker.own (by decide) (by rw [hq, e])
def StpG (W : World) (C : Nat → Nat) (c rb : Nat) (k : FwK) (f : FwS) (y : FwS × Option (List UInt8)) (e : Ending) (w' : World) : Prop := e = .returned (.tuple #[.agg (lineO f y.2), .bool y.2.isSome]) ∧ GfQ W C c rb k y.1 w'
theorem LRM.drewN {w : World} {g : Nat} {v : Value} {most long : Nat} {u : List UInt8} (h : LRM w g v most u long) (n : Nat) : LRM (w.drewN n) g v most u long := ⟨h.blk.drewN n, h.own⟩
theorem upv_zero {n : Int} (h : inM n) : upv n 0 = n := by unfold upv; have := h.2; omega
set_option maxRecDepth 20000 in
set_option maxHeartbeats 8000000 in
theorem gf_read {W : World} {C : Nat → Nat} {c rb p : Nat} {k : FwK} {f : FwS} {D : World → Prop} {S : List UInt8 → T5} {I : Int → T5} {R : Int → Int → Int → Int → List UInt8 × Int} (h : GfR W C c rb k f) (ha : RAsks p D S I R) (hD : Stay W C c D) (ho : AskOk S I R) (hf : f.Ok) (hch : okInt k.ch) (hul : f.u.length ≤ 100000000) (hli : k.line ≤ 4096) (hlc : f.lc ≤ 1000000000) (hq : (R f.ino f.ge (f.off + (f.u.length : Int)) k.ch).1 ≠ []) : Calls Tryz.prog 140 #[.pointer (some ⟨rb, 0, none⟩), .pointer (some ⟨p, 0, none⟩)] W (StpG W C c rb k f (f.readF k.line (R f.ino f.ge (f.off + (f.u.length : Int)) k.ch).1, if feedW k.line f.u (R f.ino f.ge (f.off + (f.u.length : Int)) k.ch).1 = true then some (feedS k.line f.u (R f.ino f.ge (f.off + (f.u.length : Int)) k.ch).1) else none)) := by
  have hrl := ho.r f.ino f.ge (f.off + (f.u.length : Int)) k.ch (by have := hf.off.1; omega)
  obtain ⟨w1, hw1⟩ : ∃ w1, w1 = W.alloc (.cells zeroL 170) := ⟨_, rfl⟩
  obtain ⟨r, hr⟩ : ∃ r, r = W.heap.size := ⟨_, rfl⟩
  have B1 : Hid (Below W.heap.size W w1) := Lib.hid (by rw [hw1]; exact (Below.refl _ _).alloc (Nat.le_refl _) _)
  have K1 : Hid (Blk w1 r 170 zeroL) := Lib.hid (by rw [hw1]; exact Blk.new W _ _ hr)
  have HR : Hid (W.heap.size ≤ r) := Lib.hid (by omega)
  have Q1 : Hid (GfQ W C c rb k f w1) := Lib.hid ((GfQ.refl h).below B1.out)
  have HLI := Lib.hid (And.intro hli hlc)
  have HA := Lib.hid ha
  have HD := Lib.hid hD
  have HF := Lib.hid hf
  have HCH := Lib.hid hch
  obtain ⟨L, hL⟩ : ∃ L, L = f.u.length := ⟨_, rfl⟩
  have HL := Lib.hid hL
  have HUL : Hid (L ≤ 100000000) := Lib.hid (by rw [hL]; exact hul)
  obtain ⟨⟨l, er⟩, hy⟩ : ∃ y, y = R f.ino f.ge (f.off + (L : Int)) k.ch := ⟨_, rfl⟩
  rw [← hL, ← hy] at hq hrl ⊢
  have HY := Lib.hid hy
  obtain ⟨oo, hoo⟩ : ∃ oo, oo = (if feedW k.line f.u l = true then some (feedS k.line f.u l) else none) := ⟨_, rfl⟩
  rw [← hoo]
  have HOO := Lib.hid hoo
  clear hoo
  have hl0 : l ≠ [] := hq
  have hlen : l.length ≤ 1048576 := by
    rcases hrl with e | e
    · exact absurd e hl0
    · have := hf.off.1
      have e2 : f.off + (L : Int) + (l.length : Int) ≤ 1048576 := e
      omega
  have hlpos : 0 < l.length := List.length_pos_iff.2 hl0
  obtain ⟨n, hn⟩ : ∃ n, n = l.length := ⟨_, rfl⟩
  have HN := Lib.hid hn
  have HNB : Hid (n ≤ 1048576 ∧ 0 < n) := Lib.hid (by rw [hn]; exact ⟨hlen, hlpos⟩)
  obtain ⟨AT, hAT⟩ : ∃ AT, AT = f.off + (L : Int) := ⟨_, rfl⟩
  have HAT := Lib.hid hAT
  have HATB : Hid (0 ≤ AT ∧ AT ≤ 4611686018527387904) := Lib.hid (by have := hf.off.1; have := hf.off.2; omega)
  have hw : IntKind.i64.wrap (f.off + (L : Int)) = AT := by rw [hAT]; exact IntWalk.i64_in _ (by have := hf.off.1; have := hf.off.2; omega)
  obtain ⟨mb, v, y13, hm, hKm⟩ := Q1.out.1.maker
  have HMK := Lib.hid hm
  have HKM := Lib.hid hKm
  have HT : Hid (∀ w, Below w1.heap.size w1 w → (fun w' => w'.cell? ⟨rb, 3, none⟩ = some (.int .i64 k.ch) ∧ w'.cell? ⟨rb, 5, none⟩ = some (.int .i64 f.ino) ∧ w'.cell? ⟨rb, 6, none⟩ = some (.int .i64 f.ge) ∧ w'.cell? ⟨rb, 7, none⟩ = some (.int .i64 f.off) ∧ w'.cell? ⟨rb, 13, none⟩ = some (.pointer (some ⟨mb, 0, none⟩))) w) := Lib.hid (fun w hb => ⟨(Q1.out.below hb).1.cells.2.2.2.1, (Q1.out.below hb).1.cells.2.2.2.2.2.1, (Q1.out.below hb).1.cells.2.2.2.2.2.2.1, (Q1.out.below hb).1.cells.2.2.2.2.2.2.2.1, cell_later hb y13⟩)
  clear h ha hD ho hf hch hul hL hy hq hm hKm hrl hl0 hlen hlpos hn hli hlc hAT y13
  go_enter Tryz.func140, Tryz.ntmps140
  go_upto_region 1 with fail
  unfold zeroL at hw1
  rw [← hw1, ← hr]
  clear hw1 hr
  refine wp_region_any (by kernel_rfl) ?_
  change wpAny _ _ _ _ _ _ _ (World.drew _)
  refine wpAny_of_held (S := fun w' => w'.cell? ⟨rb, 3, none⟩ = some (.int .i64 k.ch) ∧ w'.cell? ⟨rb, 5, none⟩ = some (.int .i64 f.ino) ∧ w'.cell? ⟨rb, 6, none⟩ = some (.int .i64 f.ge) ∧ w'.cell? ⟨rb, 7, none⟩ = some (.int .i64 f.off) ∧ w'.cell? ⟨rb, 13, none⟩ = some (.pointer (some ⟨mb, 0, none⟩))) _ _ _ _ ?_
  obtain ⟨w2, hw2⟩ : ∃ w2, w2 = w1.drew := ⟨_, rfl⟩
  have B2 : Hid (Below w1.heap.size w1 w2) := Lib.hid (by rw [hw2]; exact (Below.refl _ _).drew)
  have CB := Lib.hid (rbegun_any mb v k.line _ _ w2 (by rw [hw2]; exact HMK.out.drewN 1))
  rw [← HL.out] at CB
  rw [← hw2]
  clear hw2
  have hHeld : (fun w' => w'.cell? ⟨rb, 3, none⟩ = some (.int .i64 k.ch) ∧ w'.cell? ⟨rb, 5, none⟩ = some (.int .i64 f.ino) ∧ w'.cell? ⟨rb, 6, none⟩ = some (.int .i64 f.ge) ∧ w'.cell? ⟨rb, 7, none⟩ = some (.int .i64 f.off) ∧ w'.cell? ⟨rb, 13, none⟩ = some (.pointer (some ⟨mb, 0, none⟩))) w2 := HT.out w2 B2.out
  refine tkh 0 (v := ?_) rfl ?_ ?_; rotate_left
  · intro w hSw; (try dsimp only at hSw); go_simp <;> with_reducible rfl
  try simp only [Act.put, pz]
  refine tkh 1 (v := ?_) rfl ?_ ?_; rotate_left
  · intro w hSw; (try dsimp only at hSw); go_simp <;> with_reducible rfl
  try simp only [Act.put, pz]
  refine tkh 2 (v := ?_) rfl ?_ ?_; rotate_left
  · intro w hSw; (try dsimp only at hSw); go_simp <;> with_reducible rfl
  try simp only [Act.put, pz]
  refine tkh 3 (v := ?_) rfl ?_ ?_; rotate_left
  · intro w hSw; (try dsimp only at hSw); go_simp <;> with_reducible rfl
  try simp only [Act.put, pz]
  refine tkh 4 (v := ?_) rfl ?_ ?_; rotate_left
  · intro w hSw; obtain ⟨q0, q1, q2, q3, q4⟩ := hSw; go_simp <;> with_reducible rfl
  try simp only [Act.put, pz]
  refine tkh 5 (v := ?_) rfl ?_ ?_; rotate_left
  · intro w hSw; (try dsimp only at hSw); go_simp <;> with_reducible rfl
  try simp only [Act.put, pz]
  refine tkh 6 (v := ?_) rfl ?_ ?_; rotate_left
  · intro w hSw; (try dsimp only at hSw); go_simp <;> with_reducible rfl
  try simp only [Act.put, pz]
  refine tkh 7 (v := ?_) rfl ?_ ?_; rotate_left
  · intro w hSw; (try dsimp only at hSw); go_simp <;> with_reducible rfl
  try simp only [Act.put, pz]
  refine tkh 8 (v := ?_) rfl ?_ ?_; rotate_left
  · intro w hSw; obtain ⟨q0, q1, q2, q3, q4⟩ := hSw; go_simp <;> with_reducible rfl
  try simp only [Act.put, pz]
  refine wpAnyH_ready (rs := [9]) (by kernel_rfl) (by simp) (AllReadyH.cons rfl (fun K hK => ?_) AllReadyH.nil)
  have hPrev := hHeld
  clear hHeld
  go_simp
  refine CB.out.mono ?_
  rintro e w' ⟨rfl, rfl⟩
  clear CB
  refine hK.out _ _ (HT.out w2 B2.out) (fun hHeld => ?_)
  clear hK K hPrev
  try simp only [Act.put, pz]
  refine tkh 10 (v := ?_) rfl ?_ ?_; rotate_left
  · intro w hSw; (try dsimp only at hSw); go_simp <;> with_reducible rfl
  try simp only [Act.put, pz]
  refine tkh 11 (v := ?_) rfl ?_ ?_; rotate_left
  · intro w hSw; (try dsimp only at hSw); go_simp <;> with_reducible rfl
  try simp only [Act.put, pz]
  refine wpAnyH_done (by kernel_rfl) ?_ _
  clear hHeld hw
  go_upto_region 2 with fail
  refine wp_region_any (by kernel_rfl) ?_
  change wpAny _ _ _ _ _ _ _ (World.drew _)
  refine wpAny_of_held (S := fun w' => w'.cell? ⟨rb, 3, none⟩ = some (.int .i64 k.ch) ∧ w'.cell? ⟨rb, 5, none⟩ = some (.int .i64 f.ino) ∧ w'.cell? ⟨rb, 6, none⟩ = some (.int .i64 f.ge) ∧ w'.cell? ⟨rb, 7, none⟩ = some (.int .i64 f.off) ∧ w'.cell? ⟨rb, 13, none⟩ = some (.pointer (some ⟨mb, 0, none⟩))) _ _ _ _ ?_
  obtain ⟨w2', hw2'⟩ : ∃ w2', w2' = w2.drew := ⟨_, rfl⟩
  have B2' : Hid (Below w1.heap.size w1 w2') := Lib.hid (by rw [hw2']; exact B2.out.drew)
  have CR := Lib.hid (HA.out.read w2' f.ino f.ge AT k.ch (inM_ok HF.out.ino) ⟨by have := HATB.out.1; omega, by have := HATB.out.2; omega⟩ HCH.out (HD.out w2' (Chg.of_below (B1.out.trans (B2'.out.mono B1.out.size)) _)))
  rw [HAT.out, ← HY.out] at CR
  rw [← HAT.out] at CR
  rw [← hw2']
  clear hw2'
  have hHeld : (fun w' => w'.cell? ⟨rb, 3, none⟩ = some (.int .i64 k.ch) ∧ w'.cell? ⟨rb, 5, none⟩ = some (.int .i64 f.ino) ∧ w'.cell? ⟨rb, 6, none⟩ = some (.int .i64 f.ge) ∧ w'.cell? ⟨rb, 7, none⟩ = some (.int .i64 f.off) ∧ w'.cell? ⟨rb, 13, none⟩ = some (.pointer (some ⟨mb, 0, none⟩))) w2' := HT.out w2' B2'.out
  refine tkh 0 (v := ?_) rfl ?_ ?_; rotate_left
  · intro w hSw; (try dsimp only at hSw); go_simp <;> with_reducible rfl
  try simp only [Act.put, pz]
  refine tkh 1 (v := ?_) rfl ?_ ?_; rotate_left
  · intro w hSw; (try dsimp only at hSw); go_simp <;> with_reducible rfl
  try simp only [Act.put, pz]
  refine tkh 2 (v := ?_) rfl ?_ ?_; rotate_left
  · intro w hSw; (try dsimp only at hSw); go_simp <;> with_reducible rfl
  try simp only [Act.put, pz]
  refine tkh 3 (v := ?_) rfl ?_ ?_; rotate_left
  · intro w hSw; (try dsimp only at hSw); go_simp <;> with_reducible rfl
  try simp only [Act.put, pz]
  refine tkh 4 (v := ?_) rfl ?_ ?_; rotate_left
  · intro w hSw; (try dsimp only at hSw); go_simp <;> with_reducible rfl
  try simp only [Act.put, pz]
  refine tkh 5 (v := ?_) rfl ?_ ?_; rotate_left
  · intro w hSw; obtain ⟨q0, q1, q2, q3, q4⟩ := hSw; go_simp <;> with_reducible rfl
  try simp only [Act.put, pz]
  refine tkh 6 (v := ?_) rfl ?_ ?_; rotate_left
  · intro w hSw; (try dsimp only at hSw); go_simp <;> with_reducible rfl
  try simp only [Act.put, pz]
  refine tkh 7 (v := ?_) rfl ?_ ?_; rotate_left
  · intro w hSw; (try dsimp only at hSw); go_simp <;> with_reducible rfl
  try simp only [Act.put, pz]
  refine tkh 8 (v := ?_) rfl ?_ ?_; rotate_left
  · intro w hSw; (try dsimp only at hSw); go_simp <;> with_reducible rfl
  try simp only [Act.put, pz]
  refine tkh 9 (v := ?_) rfl ?_ ?_; rotate_left
  · intro w hSw; (try dsimp only at hSw); go_simp <;> with_reducible rfl
  try simp only [Act.put, pz]
  refine tkh 10 (v := ?_) rfl ?_ ?_; rotate_left
  · intro w hSw; obtain ⟨q0, q1, q2, q3, q4⟩ := hSw; go_simp <;> with_reducible rfl
  try simp only [Act.put, pz]
  refine tkh 11 (v := ?_) rfl ?_ ?_; rotate_left
  · intro w hSw; (try dsimp only at hSw); go_simp <;> with_reducible rfl
  try simp only [Act.put, pz]
  refine tkh 12 (v := ?_) rfl ?_ ?_; rotate_left
  · intro w hSw; (try dsimp only at hSw); go_simp <;> with_reducible rfl
  try simp only [Act.put, pz]
  refine tkh 13 (v := ?_) rfl ?_ ?_; rotate_left
  · intro w hSw; (try dsimp only at hSw); go_simp <;> with_reducible rfl
  try simp only [Act.put, pz]
  refine tkh 14 (v := ?_) rfl ?_ ?_; rotate_left
  · intro w hSw; (try dsimp only at hSw); go_simp <;> with_reducible rfl
  try simp only [Act.put, pz]
  refine tkh 15 (v := ?_) rfl ?_ ?_; rotate_left
  · intro w hSw; obtain ⟨q0, q1, q2, q3, q4⟩ := hSw; go_simp <;> with_reducible rfl
  try simp only [Act.put, pz]
  refine wpAnyH_ready (rs := [16]) (by kernel_rfl) (by simp) (AllReadyH.cons rfl (fun K hK => ?_) AllReadyH.nil)
  have hPrev := hHeld
  clear hHeld
  go_simp
  refine CR.out.mono ?_
  rintro e w3 ⟨v3, rfl, ho3, hb3⟩
  dsimp only at ho3
  simp only
  obtain ⟨A, cap, rfl, hcap, _, hr3⟩ := ho3.form
  rw [← HN.out] at hcap hr3 ⊢
  have R3 := Lib.hid hr3
  have HCAP := Lib.hid hcap
  have HAB : Hid (∀ ad, A = some ad → w1.heap.size ≤ ad.block ∧ ad.block < w3.heap.size) := Lib.hid (fun ad e => by have h1 := ho3.lt ad.block (by rw [e]; rfl); have := B2'.out.size; omega)
  have B3 : Hid (Below w1.heap.size w1 w3) := Lib.hid (B2'.out.trans (hb3.mono B2'.out.size))
  have Q3 := Lib.hid (Q1.out.below B3.out)
  have K3 := Lib.hid (K1.out.keep B3.out)
  clear hr3 ho3 hb3 CR hcap
  refine hK.out _ _ (HT.out w3 B3.out) (fun hHeld => ?_)
  clear hK K hPrev
  try simp only [Act.put, pz]
  refine tkh 17 (v := ?_) rfl ?_ ?_; rotate_left
  · intro w hSw; (try dsimp only at hSw); go_simp <;> with_reducible rfl
  try simp only [Act.put, pz]
  refine tkh 18 (v := ?_) rfl ?_ ?_; rotate_left
  · intro w hSw; (try dsimp only at hSw); go_simp <;> with_reducible rfl
  try simp only [Act.put, pz]
  refine tkh 19 (v := ?_) rfl ?_ ?_; rotate_left
  · intro w hSw; (try dsimp only at hSw); go_simp <;> with_reducible rfl
  try simp only [Act.put, pz]
  refine tkh 20 (v := ?_) rfl ?_ ?_; rotate_left
  · intro w hSw; (try dsimp only at hSw); go_simp <;> with_reducible rfl
  try simp only [Act.put, pz]
  refine tkh 21 (v := ?_) rfl ?_ ?_; rotate_left
  · intro w hSw; (try dsimp only at hSw); go_simp <;> with_reducible rfl
  try simp only [Act.put, pz]
  refine wpAnyH_done (by kernel_rfl) ?_ _
  clear hHeld B2 B2'
  have HM3 : Hid (LRM w3 mb v k.line f.u f.lc) := Lib.hid (HMK.out.stp (S := fun _ => False) (Chg.of_below B3.out _) (fun e => e) (fun _ _ e => e))
  have hsep : Hid (0 < n → ∀ ad, A = some ad → v.ownBlock ≠ some ad.block) := Lib.hid (fun _ ad e e2 => by have h1 := (HAB.out ad e).1; have := (World.ownsRow.lt HMK.out.own _ e2).2; omega)
  have CF := Lib.hid (refFeed_any mb v k.line f.lc f.u A n cap l w3 HM3.out R3.out hsep.out HCAP.out HLI.out.1 (by have := HL.out; have := HUL.out; have := HNB.out; omega) (by have := HLI.out.2; omega))
  have y13 : w3.cell? ⟨rb, 13, none⟩ = some (.pointer (some ⟨mb, 0, none⟩)) := (HT.out w3 B3.out).2.2.2.2
  obtain ⟨C3, hC3, hn3, _, hb3⟩ := Q3.out.1.only
  have HC3 := Lib.hid (And.intro (hn3 r _ _ K3.out (by decide) (by decide) (by decide)) hb3)
  have X3 := Lib.hid (GfQ.refl hC3)
  clear hC3 hn3 hb3
  obtain ⟨tx, htx⟩ : ∃ tx, tx = strOf (feedS k.line f.u l) := ⟨_, rfl⟩
  obtain ⟨wh, hwh⟩ : ∃ wh, wh = feedW k.line f.u l := ⟨_, rfl⟩
  obtain ⟨N, hNN⟩ : ∃ N, N = feedN l := ⟨_, rfl⟩
  have HTX := Lib.hid htx
  have HWH := Lib.hid hwh
  have HNN := Lib.hid hNN
  go_wp2_with fail
  refine CF.out.mono ?_
  rintro e w5 ⟨rfl, v5, hm5, hc5, hf5⟩
  simp only
  rw [← htx, ← hwh, ← hNN]
  clear htx hwh hNN
  obtain ⟨mb2, v2, y92, hmm, hKK⟩ := X3.out.1.maker
  obtain rfl : mb = mb2 := by rw [y13] at y92; cases y92; rfl
  have hvv : v2 = v := by
    have h1 := hmm.blk; have h2 := HM3.out.blk
    unfold Blk at h1 h2
    rw [h1] at h2
    injection h2 with h2
    injection h2 with h2 _ _
    injection h2 with h2
    injection h2 with _ h2
    injection h2 with h2 _
  subst hvv
  have X5 : Hid (GfQ w3 C3 c rb k { f with u := feedU f.u l, lc := feedL k.line f.lc f.u l } w5) := Lib.hid (X3.out.trans (hKK _ _ _ _ hm5 hc5 hf5))
  have R5 : Hid (RB w5 A n l) := Lib.hid (hc5.rb R3.out (fun _ ad e hs => by
    have h1 := HAB.out ad e
    rcases hs with e2 | e2
    · have := HMK.out.blk.lt; omega
    · have := (World.ownsRow.lt HMK.out.own _ e2).2; omega))
  have K5 : Hid (Blk w5 r 170 zeroL) := Lib.hid (K3.out.chg X5.out.2 HC3.out.1)
  have Q5 : Hid (GfQ W C c rb k { f with u := feedU f.u l, lc := feedL k.line f.lc f.u l } w5) := Lib.hid (Q3.out.trans (HC3.out.2 _ _ X5.out))
  clear hm5 hc5 hf5 CF y13 y92 hmm hKK X3 X5 HM3 hsep HKM
  obtain ⟨_, _, _, _, x4, x5, x6, x7, x8, x9, x10, x11, x12⟩ := Q5.out.1.cells
  simp only at x4 x5 x6 x7 x8 x9 x10 x11 x12
  obtain ⟨w6, hw6⟩ : ∃ w6, w6 = w5.alloc (.cells #[.int .i64 f.se, .int .i64 f.ino, .int .i64 f.ge, .int .i64 f.off, .int .i64 f.mi, .int .i64 f.go, .int .i64 f.cu, .int .i64 f.ta, .int .i64 f.lo] 100) := ⟨_, rfl⟩
  obtain ⟨g, hg⟩ : ∃ g, g = w5.heap.size := ⟨_, rfl⟩
  have B6 : Hid (Below w5.heap.size w5 w6) := Lib.hid (by rw [hw6]; exact (Below.refl _ _).alloc (Nat.le_refl _) _)
  have KG6 : Hid (Blk w6 g 100 #[.int .i64 f.se, .int .i64 f.ino, .int .i64 f.ge, .int .i64 f.off, .int .i64 f.mi, .int .i64 f.go, .int .i64 f.cu, .int .i64 f.ta, .int .i64 f.lo]) := Lib.hid (by rw [hw6]; exact Blk.new w5 _ _ hg)
  have HGR : Hid (g ≠ r ∧ W.heap.size ≤ g) := Lib.hid (by have := K5.out.lt; have := HR.out; omega)
  have Q6 := Lib.hid (Q5.out.below B6.out)
  have K6 := Lib.hid (K5.out.keep B6.out)
  have R6 := Lib.hid (R5.out.keep B6.out)
  go_upto_region 5 with fail
  rw [← hw6, ← hg]
  clear hw6 hg x4 x5 x6 x7 x8 x9 x10 x11 x12 Q5 K5 R5
  obtain ⟨ab, off, rfl, _, hbytes⟩ := R6.out.2 HNB.out.2
  by_cases hnl : upN l < l.length
  · have h10 := hbytes _ _ (upN_10 hnl)
    obtain ⟨q, hqq⟩ : ∃ q, q = upN l := ⟨_, rfl⟩
    rw [← hqq] at h10
    have hNq : N = q + 1 := by rw [HNN.out, hqq]; unfold feedN; rw [if_pos hnl]
    have hqn : q < n := by rw [HN.out, hqq]; exact hnl
    subst hNq
    have HNL : Hid (nlB l = true) := Lib.hid (decide_eq_true hnl)
    have hqi : (q : Int) < (n : Int) := by omega
    have hq0 : (0 : Int) ≤ (q : Int) := by omega
    have hqM : (q : Int) ≤ 1048576 := by have := HNB.out.1; omega
    replace h10 : w6.cell? ⟨ab, off + q, none⟩ = some (.int .u8 10) := h10
    have hN0 : (((q : Int) + 1) == 0) = false := by rw [beq_eq_false_iff_ne]; omega
    have hN1 : IntKind.i64.wrap ((q : Int) + 1 - 1) = (q : Int) := by rw [IntWalk.i64_in _ (by omega)]; omega
    clear hbytes hnl hqq
    go_upto_region 7 with fail
    clear h10 hqi hN0 hN1
    have x7 : w6.cell? ⟨rb, 7, none⟩ = some (.int .i64 f.off) := Q6.out.1.cells.2.2.2.2.2.2.2.1
    have z7 := Q6.out.1.frozen 7
    have hat0 := HATB.out.1
    have hat1 := HATB.out.2
    obtain ⟨C6, hC6, hn6, _, hb6⟩ := Q6.out.1.only
    have HC6 := Lib.hid (And.intro (hn6 r _ _ K6.out (by decide) (by decide) (by decide)) (And.intro (hn6 g _ _ KG6.out (by decide) (by decide) (by decide)) hb6))
    have X6 := Lib.hid (GfQ.refl hC6)
    obtain ⟨w7, hw7⟩ : ∃ w7, w7 = w6.setCell ⟨rb, 7, none⟩ (.int .i64 (AT + ((q : Int) + 1))) := ⟨_, rfl⟩
    have X7 : Hid (GfQ w6 C6 c rb k (FwS.put { f with u := feedU f.u l, lc := feedL k.line f.lc f.u l } 3 (AT + ((q : Int) + 1))) w7) := Lib.hid (by rw [hw7]; exact X6.out.put (i := 3) (by decide) _)
    clear hC6 hn6 hb6 X6
    go_upto_region 8 with fail
    rw [← hw7]
    clear hw7 x7 z7 hat0 hat1 hq0 hqM
    have Q7 := Lib.hid (Q6.out.trans (HC6.out.2.2 _ _ X7.out))
    have K7 : Hid (Blk w7 r 170 zeroL) := Lib.hid (K6.out.chg X7.out.2 HC6.out.1)
    have KG7 : Hid (Blk w7 g 100 #[.int .i64 f.se, .int .i64 f.ino, .int .i64 f.ge, .int .i64 f.off, .int .i64 f.mi, .int .i64 f.go, .int .i64 f.cu, .int .i64 f.ta, .int .i64 f.lo]) := Lib.hid (KG6.out.chg X7.out.2 HC6.out.2.1)
    clear Q6 K6 KG6 X7 R6
    have HOFF : Hid (AT + ((q : Int) + 1) = f.off + ((f.u.length : Int) + (feedN l : Int))) := Lib.hid (by rw [← HNN.out, ← HL.out, HAT.out]; omega)
    cases wh
    case true =>
      have hWL : feedL k.line f.lc f.u l = f.lc := by
        have h1 := HWH.out.symm
        unfold feedW at h1
        unfold feedL
        simp only [Bool.and_eq_true, decide_eq_true_eq] at h1
        rw [if_neg (fun h => by omega)]
      have HRF : Hid (f.readF k.line l = FwS.put { f with u := feedU f.u l, lc := feedL k.line f.lc f.u l } 3 (AT + ((q : Int) + 1))) := Lib.hid (by
        unfold FwS.readF FwS.put
        rw [HNL.out, if_pos rfl, if_pos rfl, HOFF.out, hWL, Int.sub_self, upv_zero HF.out.lo]
        rfl)
      clear hWL
      have m0 : w7.cell? ⟨g, 0, none⟩ = some (.int .i64 f.se) := (KG7.out.cell 0).trans rfl
      have mg0 := KG7.out.frozen 0
      have m1 : w7.cell? ⟨g, 1, none⟩ = some (.int .i64 f.ino) := (KG7.out.cell 1).trans rfl
      have mg1 := KG7.out.frozen 1
      have m2 : w7.cell? ⟨g, 2, none⟩ = some (.int .i64 f.ge) := (KG7.out.cell 2).trans rfl
      have mg2 := KG7.out.frozen 2
      have m3 : w7.cell? ⟨g, 3, none⟩ = some (.int .i64 f.off) := (KG7.out.cell 3).trans rfl
      have mg3 := KG7.out.frozen 3
      have m4 : w7.cell? ⟨g, 4, none⟩ = some (.int .i64 f.mi) := (KG7.out.cell 4).trans rfl
      have mg4 := KG7.out.frozen 4
      have m5 : w7.cell? ⟨g, 5, none⟩ = some (.int .i64 f.go) := (KG7.out.cell 5).trans rfl
      have mg5 := KG7.out.frozen 5
      have m6 : w7.cell? ⟨g, 6, none⟩ = some (.int .i64 f.cu) := (KG7.out.cell 6).trans rfl
      have mg6 := KG7.out.frozen 6
      have m7 : w7.cell? ⟨g, 7, none⟩ = some (.int .i64 f.ta) := (KG7.out.cell 7).trans rfl
      have mg7 := KG7.out.frozen 7
      have m8 : w7.cell? ⟨g, 8, none⟩ = some (.int .i64 f.lo) := (KG7.out.cell 8).trans rfl
      have mg8 := KG7.out.frozen 8
      obtain ⟨z0, z1, z2, z3, z4, z5, z6, z7, z8, z9⟩ := K7.out.zc
      obtain ⟨zg0, zg1, zg2, zg3, zg4, zg5, zg6, zg7, zg8, zg9⟩ := K7.out.zf
      obtain ⟨wz, hwz⟩ : ∃ wz, wz = ((((((((((w7.setCell ⟨r, 0, none⟩ (.int .i64 f.se)).setCell ⟨r, 1, none⟩ (.int .i64 f.ino)).setCell ⟨r, 2, none⟩ (.int .i64 f.ge)).setCell ⟨r, 3, none⟩ (.int .i64 f.off)).setCell ⟨r, 4, none⟩ (.int .i64 f.mi)).setCell ⟨r, 5, none⟩ (.int .i64 f.go)).setCell ⟨r, 6, none⟩ (.int .i64 f.cu)).setCell ⟨r, 7, none⟩ (.int .i64 f.ta)).setCell ⟨r, 8, none⟩ (.int .i64 f.lo)).setCell ⟨r, 9, none⟩ (.string tx)) := ⟨_, rfl⟩
      have KZ : Hid (Blk wz r 170 (lineA f tx)) := Lib.hid (by rw [hwz]; exact (K7.out.line _ _ _ _ _ _ _ _ _ _).1)
      have BZ : Hid (Chg (fun b => b = r) w7 wz) := Lib.hid (by rw [hwz]; exact (K7.out.line _ _ _ _ _ _ _ _ _ _).2)
      have QZ : Hid (GfQ W C c rb k (f.readF k.line l) wz) := Lib.hid (by rw [HRF.out]; exact Q7.out.far HR.out K7.out BZ.out)
      go_wp2_with fail
      rw [← hwz]
      clear hwz
      refine bodyPost_ret (v := .tuple #[.agg (lineA f tx), .bool true]) (ret_line2 rfl rfl rfl KZ.out rfl) rfl ?_
      rw [HOO.out, if_pos HWH.out.symm]
      exact ⟨by rw [HTX.out]; rfl, QZ.out⟩
    case false =>
      have hWL : feedL k.line f.lc f.u l = f.lc + 1 := by
        have h1 := HWH.out.symm
        have h2 := HNL.out
        unfold feedW at h1
        unfold nlB at h2
        unfold feedL
        simp only [decide_eq_true_eq] at h2
        simp only [Bool.and_eq_false_iff, decide_eq_false_iff_not] at h1
        rw [if_pos (by omega)]
      have HRF : Hid (f.readF k.line l = (FwS.put { f with u := feedU f.u l, lc := feedL k.line f.lc f.u l } 3 (AT + ((q : Int) + 1))).put 8 (upv f.lo 1)) := Lib.hid (by
        unfold FwS.readF FwS.put
        rw [HNL.out, if_pos rfl, if_pos rfl, HOFF.out, hWL, show ((f.lc + 1 : Nat) : Int) - (f.lc : Int) = 1 by omega]
        rfl)
      clear hWL
      have CU := Lib.hid (gf_more rb 12 f.lo 1 w7 Q7.out.1.cells.2.2.2.2.2.2.2.2.2.2.2.2 (Q7.out.1.frozen 12) HF.out.lo.1 HF.out.lo.2 (by decide) (by decide))
      go_wp2_with fail
      refine CU.out.mono ?_
      rintro e w8 ⟨rfl, hw8⟩
      obtain ⟨C7, hC7, hn7, _, hb7⟩ := Q7.out.1.only
      have X8 : GfQ w7 C7 c rb k ((FwS.put { f with u := feedU f.u l, lc := feedL k.line f.lc f.u l } 3 (AT + ((q : Int) + 1))).put 8 (upv f.lo 1)) w8 := by rw [hw8]; exact (GfQ.refl hC7).put (i := 8) (by decide) _
      have Q8 : Hid (GfQ W C c rb k (f.readF k.line l) w8) := Lib.hid (by rw [HRF.out]; exact Q7.out.trans (hb7 _ _ X8))
      have K8 : Hid (Blk w8 r 170 zeroL) := Lib.hid (K7.out.chg X8.2 (hn7 r _ _ K7.out (by decide) (by decide) (by decide)))
      clear hC7 hn7 hb7 X8 hw8 CU Q7 K7 KG7
      go_upto_region 10 with fail
      obtain ⟨z0, z1, z2, z3, z4, z5, z6, z7, z8, z9⟩ := K8.out.zc
      obtain ⟨zg0, zg1, zg2, zg3, zg4, zg5, zg6, zg7, zg8, zg9⟩ := K8.out.zf
      obtain ⟨wz, hwz⟩ : ∃ wz, wz = setZ w8 r := ⟨_, rfl⟩
      have KZ : Hid (Blk wz r 170 zeroL) := Lib.hid (by rw [hwz]; exact (K8.out.line0).1)
      have BZ : Hid (Chg (fun b => b = r) w8 wz) := Lib.hid (by rw [hwz]; exact (K8.out.line0).2)
      have QZ : Hid (GfQ W C c rb k (f.readF k.line l) wz) := Lib.hid (Q8.out.far HR.out K8.out BZ.out)
      go_wp2_with fail
      unfold setZ at hwz
      rw [← hwz]
      clear hwz
      refine bodyPost_ret (v := .tuple #[.agg zeroL, .bool false]) (ret_line2 rfl rfl rfl KZ.out rfl) rfl ?_
      rw [HOO.out, if_neg (show ¬ feedW k.line f.u l = true by rw [← HWH.out]; decide)]
      exact ⟨rfl, QZ.out⟩
  · have hup : upN l = l.length := by have := upN_le l; omega
    have hNn : N = n := by rw [HNN.out, HN.out]; unfold feedN; rw [if_neg hnl]
    subst hNn
    obtain ⟨m, hm⟩ : ∃ m, N = m + 1 := ⟨N - 1, by have := HNB.out.2; omega⟩
    have hml : m < l.length := by have := HN.out; omega
    obtain ⟨x, hxx⟩ : ∃ x, x = l[m] := ⟨_, rfl⟩
    have hx := hbytes m _ (List.getElem?_eq_getElem hml)
    have hx10 : l[m] ≠ 10 := upN_no (j := m) (by rw [hup]; exact hml) (List.getElem?_eq_getElem hml)
    rw [← hxx] at hx hx10
    have hxi : ((x.toNat : Int) != 10) = true := by
      rw [bne_iff_ne]
      intro h
      exact hx10 (UInt8.toNat_inj.1 (by have : (10 : UInt8).toNat = 10 := rfl; omega))
    replace hx : w6.cell? ⟨ab, off + m, none⟩ = some (.int .u8 (x.toNat : Int)) := hx
    have HRF : Hid (f.readF k.line l = { f with u := feedU f.u l, lc := feedL k.line f.lc f.u l }) := Lib.hid (by
      unfold FwS.readF
      rw [show nlB l = false from decide_eq_false hnl]
      rfl)
    have HWF : Hid (feedW k.line f.u l = false) := Lib.hid (by unfold feedW; rw [decide_eq_false hnl]; rfl)
    have QR : Hid (GfQ W C c rb k (f.readF k.line l) w6) := Lib.hid (by rw [HRF.out]; exact Q6.out)
    have hN1 : IntKind.i64.wrap ((m : Int) + 1 - 1) = (m : Int) := by have := HNB.out.1; rw [IntWalk.i64_in _ (by omega)]; omega
    have hN0 : (((m : Int) + 1) == 0) = false := by rw [beq_eq_false_iff_ne]; omega
    subst hm
    have hmi : (m : Int) < (m : Int) + 1 := by omega
    have hm0 : (0 : Int) ≤ (m : Int) := by omega
    have hmM : (m : Int) ≤ 1048576 := by have := HNB.out.1; omega
    clear hup hbytes hml hx10 hxx hnl Q6
    go_upto_region 6 with fail
    clear hx hxi hN1 hN0 hmi hm0 hmM
    obtain ⟨z0, z1, z2, z3, z4, z5, z6, z7, z8, z9⟩ := K6.out.zc
    obtain ⟨zg0, zg1, zg2, zg3, zg4, zg5, zg6, zg7, zg8, zg9⟩ := K6.out.zf
    obtain ⟨wz, hwz⟩ : ∃ wz, wz = setZ w6 r := ⟨_, rfl⟩
    have KZ : Hid (Blk wz r 170 zeroL) := Lib.hid (by rw [hwz]; exact (K6.out.line0).1)
    have BZ : Hid (Chg (fun b => b = r) w6 wz) := Lib.hid (by rw [hwz]; exact (K6.out.line0).2)
    have QZ : Hid (GfQ W C c rb k (f.readF k.line l) wz) := Lib.hid (QR.out.far HR.out K6.out BZ.out)
    go_wp2_with fail
    unfold setZ at hwz
    rw [← hwz]
    clear hwz
    refine bodyPost_ret (v := .tuple #[.agg zeroL, .bool false]) (ret_line2 rfl rfl rfl KZ.out rfl) rfl ?_
    rw [HOO.out, if_neg (show ¬ feedW k.line f.u l = true by rw [HWF.out]; decide)]
    exact ⟨rfl, QZ.out⟩
end Go.Proofs.YtlojmmcagglpoaaGreat
namespace Go.Proofs.YtlojmmcagglpoaaGreat
open Go.RowKit Go.Maps
attribute [local go_sem ↓] Go.wp_at_zero Go.wp_at_succ
structure AskFit (S : List UInt8 → T5) (I : Int → T5) (R : Int → Int → Int → Int → List UInt8 × Int) : Prop where
  sz : ∀ i, 0 ≤ (I i).2.2.2.1 ∧ (I i).2.2.2.1 ≤ 1048576
  st : ∀ nm, (S nm).2.1 ≤ 4611686018427387900
  ge : ∀ i, (I i).2.2.1 ≤ 4611686018427387900
  rd : ∀ i g o s, 0 ≤ o → 1 ≤ s → (I i).2.2.2.2 = 0 → (I i).2.2.1 = g → (R i g o s).2 = 0 ∧ ((R i g o s).1 ≠ [] ↔ o < (I i).2.2.2.1)
theorem GfR.one {W : World} {C : Nat → Nat} {c rb : Nat} {k : FwK} {f : FwS} (h : GfR W C c rb k f) : W.cell? ⟨rb, 5, none⟩ = some (.int .i64 f.ino) := h.cells.2.2.2.2.2.1
set_option maxRecDepth 20000 in
set_option maxHeartbeats 8000000 in
theorem gf_step {W : World} {C : Nat → Nat} {c rb p : Nat} {k : FwK} {f : FwS} {D : World → Prop} {S : List UInt8 → T5} {I : Int → T5} {R : Int → Int → Int → Int → List UInt8 × Int} (h : GfR W C c rb k f) (ha : RAsks p D S I R) (hD : Stay W C c D) (ho : AskOk S I R) (hx : AskFit S I R) (hf : f.Ok) (hch : okInt k.ch) (hch1 : 1 ≤ k.ch) (hul : f.u.length ≤ 100000000) (hli : k.line ≤ 4096) (hlc : f.lc ≤ 1000000000) : Calls Tryz.prog 91 #[.pointer (some ⟨rb, 0, none⟩), .pointer (some ⟨p, 0, none⟩)] W (StpG W C c rb k f (stepF S I R k f)) := by
  obtain ⟨w1, hw1⟩ : ∃ w1, w1 = W.alloc (.cells zeroL 170) := ⟨_, rfl⟩
  obtain ⟨r, hr⟩ : ∃ r, r = W.heap.size := ⟨_, rfl⟩
  have B1 : Hid (Below W.heap.size W w1) := Lib.hid (by rw [hw1]; exact (Below.refl _ _).alloc (Nat.le_refl _) _)
  have K1 : Hid (Blk w1 r 170 zeroL) := Lib.hid (by rw [hw1]; exact Blk.new W _ _ hr)
  have HR : Hid (W.heap.size ≤ r) := Lib.hid (by omega)
  have Q1 : Hid (GfQ W C c rb k f w1) := Lib.hid ((GfQ.refl h).below B1.out)
  have HLI := Lib.hid (And.intro hli (And.intro hlc (And.intro hul (And.intro hch hch1))))
  have HA := Lib.hid ha
  have HD := Lib.hid hD
  have HF := Lib.hid hf
  have HO := Lib.hid ho
  have HX := Lib.hid hx
  obtain ⟨y, hy⟩ : ∃ y, y = stepF S I R k f := ⟨_, rfl⟩
  rw [← hy]
  have HY := Lib.hid hy
  obtain ⟨t, ht⟩ : ∃ t, t = S k.nm := ⟨_, rfl⟩
  have HT := Lib.hid ht
  have CS := Lib.hid (ha.stat w1 k.nm (hD w1 (Chg.of_below B1.out _)))
  have HTS : Hid (inM t.1 ∧ inM t.2.1 ∧ inM t.2.2.1 ∧ t.2.1 ≤ 4611686018427387900) := Lib.hid (by rw [ht]; exact ⟨(ho.s _).1, (ho.s _).2.1, (ho.s _).2.2, hx.st _⟩)
  rw [← ht] at CS
  obtain ⟨bb, hbb⟩ : ∃ bb, bb = nextB t f := ⟨_, rfl⟩
  have HBB := Lib.hid hbb
  obtain ⟨t0, t1, t2, t3, t4⟩ := t
  have y0 := Q1.out.1.cells.1
  clear h ha hD ho hf hx hch hch1 hul hli hlc ht hy hbb
  go_enter Tryz.func91, Tryz.ntmps91
  go_upto_region 1 with fail
  unfold zeroL at hw1
  rw [← hw1, ← hr]
  clear hw1 hr
  go_wp2_with fail
  refine CS.out.mono ?_
  rintro e w2 ⟨rfl, hb2⟩
  simp only
  obtain ⟨w3, hw3⟩ : ∃ w3, w3 = w2.alloc (.cells #[.int .i64 t0, .int .i64 t1, .int .i64 t2, .int .i64 t3] 119) := ⟨_, rfl⟩
  obtain ⟨g, hg⟩ : ∃ g, g = w2.heap.size := ⟨_, rfl⟩
  have B3 : Hid (Below w1.heap.size w1 w3) := Lib.hid (by rw [hw3]; exact hb2.alloc hb2.size _)
  have KG3 : Hid (Blk w3 g 119 #[.int .i64 t0, .int .i64 t1, .int .i64 t2, .int .i64 t3]) := Lib.hid (by rw [hw3]; exact Blk.new w2 _ _ hg)
  have K3 := Lib.hid (K1.out.keep B3.out)
  have HG : Hid (g ≠ r ∧ W.heap.size ≤ g) := Lib.hid (by have := K1.out.lt; have := HR.out; have := hb2.size; omega)
  have Q3 := Lib.hid (Q1.out.below B3.out)
  clear hb2 CS y0 Q1 K1
  go_upto_region 2 with fail
  rw [← hw3, ← hg]
  clear hw3 hg
  go_cut [8] (fun s wx => s = .bool bb ∧ Hid (Below w3.heap.size w3 wx))
  case first =>
    have hse : w3.cell? ⟨rb, 4, none⟩ = some (.int .i64 f.se) := Q3.out.1.cells.2.2.2.2.1
    have hs1 : w3.cell? ⟨g, 1, none⟩ = some (.int .i64 t1) := KG3.out.cell 1
    by_cases h4 : t4 = 0
    · subst h4
      have hv : Hid (bb = decide (f.se < t1)) := Lib.hid (by rw [HBB.out]; rfl)
      go_quiet (fail)
      go_wp2_with fail
      go_meet
      exact ⟨by rw [hv.out], Lib.hid (below_drewN (Below.refl _ _) _)⟩
    · have hne : (t4 == (0 : Int)) = false := beq_eq_false_iff_ne.2 h4
      have hv : Hid (bb = false) := Lib.hid (by rw [HBB.out]; unfold nextB; rw [decide_eq_false h4]; rfl)
      go_quiet (fail)
      go_wp2_with fail
      go_meet
      exact ⟨by rw [hv.out], Lib.hid (below_drewN (Below.refl _ _) _)⟩
  case rest =>
    obtain ⟨rfl, hcut⟩ := hcut
    have B4 := hcut
    have Q4 := Lib.hid (Q3.out.below B4.out)
    have KG4 := Lib.hid (KG3.out.keep B4.out)
    have K4 := Lib.hid (K3.out.keep B4.out)
    clear hcut Q3 KG3 K3
    have xi := Q4.out.1.one
    have x0 : wc.cell? ⟨g, 0, none⟩ = some (.int .i64 t0) := KG4.out.cell 0
    have x1 : wc.cell? ⟨g, 1, none⟩ = some (.int .i64 t1) := KG4.out.cell 1
    have x2 : wc.cell? ⟨g, 2, none⟩ = some (.int .i64 t2) := KG4.out.cell 2
    have x3 : wc.cell? ⟨g, 3, none⟩ = some (.int .i64 t3) := KG4.out.cell 3
    by_cases hi0 : f.ino = 0
    · rw [hi0] at xi
      have HI0 := Lib.hid hi0
      clear hi0
      cases bb
      case false =>
        have HV : Hid (y = (f, none)) := Lib.hid (by rw [HY.out]; unfold stepF; rw [if_pos HI0.out, ← HT.out, ← HBB.out]; rfl)
        go_upto_region 6 with fail
        clear xi x0 x1 x2 x3
        obtain ⟨z0, z1, z2, z3, z4, z5, z6, z7, z8, z9⟩ := K4.out.zc
        obtain ⟨zg0, zg1, zg2, zg3, zg4, zg5, zg6, zg7, zg8, zg9⟩ := K4.out.zf
        obtain ⟨wz, hwz⟩ : ∃ wz, wz = setZ wc r := ⟨_, rfl⟩
        have KZ : Hid (Blk wz r 170 zeroL) := Lib.hid (by rw [hwz]; exact (K4.out.line0).1)
        have BZ : Hid (Chg (fun b => b = r) wc wz) := Lib.hid (by rw [hwz]; exact (K4.out.line0).2)
        have QZ : Hid (GfQ W C c rb k f wz) := Lib.hid (Q4.out.far HR.out K4.out BZ.out)
        go_wp2_with fail
        unfold setZ at hwz
        rw [← hwz]
        clear hwz
        refine bodyPost_ret (v := .tuple #[.agg zeroL, .bool false]) (ret_line2 rfl rfl rfl KZ.out rfl) rfl ?_
        rw [HV.out]
        exact ⟨rfl, QZ.out⟩
      case true =>
        have hlt : f.se < t1 := by have := HBB.out.symm; unfold nextB at this; simp only [Bool.and_eq_true, decide_eq_true_eq] at this; exact this.2
        have HV : Hid (y = (f.takeUp (t0, t1, t2, t3, t4), none)) := Lib.hid (by rw [HY.out]; unfold stepF; rw [if_pos HI0.out, ← HT.out, ← HBB.out]; rfl)
        obtain ⟨C5, hC5, hn5, hs5, hb5⟩ := Q4.out.1.only
        have HCC5 := Lib.hid hC5
        have HB5 := Lib.hid hb5
        have HS5 : Hid (Stay wc C5 c D) := Lib.hid ((HD.out.next Q4.out.2).only hs5)
        have HN5r : Hid (C5 r ≠ c) := Lib.hid (hn5 r _ _ K4.out (by decide) (by decide) (by decide))
        clear hC5 hn5 hs5 hb5
        have CT := Lib.hid (gf_takeUp HCC5.out t0 t1 t2 t3 HF.out.mi HF.out.se hlt HTS.out.2.2.2)
        clear hlt
        go_wp2_with fail
        refine CT.out.mono ?_
        rintro e w5 ⟨rfl, hq5⟩
        have Q5 : Hid (GfQ W C c rb k (f.takeUp (t0, t1, t2, t3, t4)) w5) := Lib.hid (Q4.out.trans (HB5.out _ _ hq5))
        have K5 := Lib.hid (K4.out.chg hq5.2 HN5r.out)
        clear hq5 CT xi x0 x1 x2 x3
        go_upto_region 6 with fail
        obtain ⟨z0, z1, z2, z3, z4, z5, z6, z7, z8, z9⟩ := K5.out.zc
        obtain ⟨zg0, zg1, zg2, zg3, zg4, zg5, zg6, zg7, zg8, zg9⟩ := K5.out.zf
        obtain ⟨wz, hwz⟩ : ∃ wz, wz = setZ w5 r := ⟨_, rfl⟩
        have KZ : Hid (Blk wz r 170 zeroL) := Lib.hid (by rw [hwz]; exact (K5.out.line0).1)
        have BZ : Hid (Chg (fun b => b = r) w5 wz) := Lib.hid (by rw [hwz]; exact (K5.out.line0).2)
        have QZ : Hid (GfQ W C c rb k (f.takeUp (t0, t1, t2, t3, t4)) wz) := Lib.hid (Q5.out.far HR.out K5.out BZ.out)
        go_wp2_with fail
        unfold setZ at hwz
        rw [← hwz]
        clear hwz
        refine bodyPost_ret (v := .tuple #[.agg zeroL, .bool false]) (ret_line2 rfl rfl rfl KZ.out rfl) rfl ?_
        rw [HV.out]
        exact ⟨rfl, QZ.out⟩
    · have hn0 : (f.ino == (0 : Int)) = false := beq_eq_false_iff_ne.2 hi0
      have HI0 := Lib.hid hi0
      clear x0 x1 x2 x3
      have CI := Lib.hid (HA.out.inode wc f.ino (inM_ok HF.out.ino) ((HD.out.next Q4.out.2).now))
      have HIS : Hid (inM (I f.ino).2.2.1 ∧ (I f.ino).2.2.1 ≤ 4611686018427387900 ∧ 0 ≤ (I f.ino).2.2.2.1 ∧ (I f.ino).2.2.2.1 ≤ 1048576) := Lib.hid ⟨HO.out.i _, HX.out.ge _, HX.out.sz _⟩
      have HRD : Hid ((I f.ino).2.2.2.2 = 0 → (I f.ino).2.2.1 = f.ge → (R f.ino f.ge (f.off + (f.u.length : Int)) k.ch).2 = 0 ∧ ((R f.ino f.ge (f.off + (f.u.length : Int)) k.ch).1 ≠ [] ↔ f.off + (f.u.length : Int) < (I f.ino).2.2.2.1)) := Lib.hid (fun h1 h2 => HX.out.rd f.ino f.ge _ k.ch (by have := HF.out.off.1; omega) HLI.out.2.2.2.2 h1 h2)
      obtain ⟨tt, htt⟩ : ∃ tt, tt = I f.ino := ⟨_, rfl⟩
      have HTT := Lib.hid htt
      rw [← htt] at CI HIS HRD
      obtain ⟨i0, i1, i2, i3, i4⟩ := tt
      simp only at HIS HRD
      clear htt hi0
      go_wp2_with fail
      refine CI.out.mono ?_
      rintro e w5 ⟨rfl, hb5⟩
      simp only
      obtain ⟨w6, hw6⟩ : ∃ w6, w6 = w5.alloc (.cells #[.int .i64 i0, .int .i64 i1, .int .i64 i2, .int .i64 i3] 119) := ⟨_, rfl⟩
      obtain ⟨g9, hg9⟩ : ∃ g9, g9 = w5.heap.size := ⟨_, rfl⟩
      have B6 : Hid (Below wc.heap.size wc w6) := Lib.hid (by rw [hw6]; exact hb5.alloc hb5.size _)
      have KX6 : Hid (Blk w6 g9 119 #[.int .i64 i0, .int .i64 i1, .int .i64 i2, .int .i64 i3]) := Lib.hid (by rw [hw6]; exact Blk.new w5 _ _ hg9)
      have K6 := Lib.hid (K4.out.keep B6.out)
      have KG6 := Lib.hid (KG4.out.keep B6.out)
      have Q6 := Lib.hid (Q4.out.below B6.out)
      clear hb5 CI xi hn0 Q4 K4 KG4
      go_upto_region 8 with fail
      rw [← hw6, ← hg9]
      clear hw6 hg9
      by_cases h4 : i4 = 0
      · subst h4
        by_cases hge : i2 = f.ge
        · subst hge
          have x2 : w6.cell? ⟨g9, 2, none⟩ = some (.int .i64 f.ge) := KX6.out.cell 2
          have x6 : w6.cell? ⟨rb, 6, none⟩ = some (.int .i64 f.ge) := Q6.out.1.cells.2.2.2.2.2.2.1
          go_upto_region 12 with fail
          go_cut [72] (fun s wx => s = .bool false ∧ Hid (Below w6.heap.size w6 wx))
          case first =>
            go_quiet (fail)
            go_wp2_with fail
            go_meet
            exact ⟨rfl, Lib.hid (below_drewN (Below.refl _ _) _)⟩
          case rest =>
            obtain ⟨rfl, B7⟩ := hcut
            obtain ⟨w7, rfl⟩ : ∃ w7, w7 = wc := ⟨_, rfl⟩
            clear x2 x6
            have Q7 := Lib.hid (Q6.out.below B7.out)
            have K7 := Lib.hid (K6.out.keep B7.out)
            have KG7 := Lib.hid (KG6.out.keep B7.out)
            have KX7 := Lib.hid (KX6.out.keep B7.out)
            clear Q6 K6 KX6 KG6
            obtain ⟨L, hL⟩ : ∃ L, L = f.u.length := ⟨_, rfl⟩
            have HL := Lib.hid hL
            obtain ⟨mb, v, y13, hm, _⟩ := Q7.out.1.maker
            have CB := Lib.hid (rbegun_any mb v k.line _ _ w7 hm)
            rw [← hL] at CB HRD
            clear hm hL
            go_upto_region 19 with fail
            go_wp2_with fail
            refine CB.out.mono ?_
            rintro e w' ⟨rfl, rfl⟩
            clear CB y13
            obtain ⟨vv, hvv⟩ : ∃ vv, vv = decide (f.off + (L : Int) < i3) := ⟨_, rfl⟩
            have HVV := Lib.hid hvv
            clear hvv
            go_upto_region 20 with fail
            go_cut [135] (fun s wx => s = .bool vv ∧ Hid (Below w7.heap.size w7 wx))
            case first =>
              have x3 : w7.cell? ⟨g9, 3, none⟩ = some (.int .i64 i3) := KX7.out.cell 3
              have x7 : w7.cell? ⟨rb, 7, none⟩ = some (.int .i64 f.off) := Q7.out.1.cells.2.2.2.2.2.2.2.1
              have hw := IntWalk.i64_in (i3 - f.off) (by have := HF.out.off.1; have := HF.out.off.2; have := HIS.out.2.2.1; have := HIS.out.2.2.2; omega)
              by_cases h1 : f.off < i3
              · by_cases h2 : (L : Int) < i3 - f.off
                · have hv : Hid (vv = true) := Lib.hid (by rw [HVV.out]; exact decide_eq_true (by omega))
                  go_quiet (fail)
                  go_wp2_with fail
                  go_meet
                  exact ⟨by rw [hv.out], Lib.hid (below_drewN (Below.refl _ _) _)⟩
                · have hv : Hid (vv = false) := Lib.hid (by rw [HVV.out]; exact decide_eq_false (by omega))
                  go_quiet (fail)
                  go_wp2_with fail
                  go_meet
                  exact ⟨by rw [hv.out], Lib.hid (below_drewN (Below.refl _ _) _)⟩
              · have hv : Hid (vv = false) := Lib.hid (by rw [HVV.out]; exact decide_eq_false (by omega))
                go_quiet (fail)
                go_wp2_with fail
                go_meet
                exact ⟨by rw [hv.out], Lib.hid (below_drewN (Below.refl _ _) _)⟩
            case rest =>
              obtain ⟨rfl, B8⟩ := hcut
              obtain ⟨w8, rfl⟩ : ∃ w8, w8 = wc := ⟨_, rfl⟩
              have Q8 := Lib.hid (Q7.out.below B8.out)
              have K8 := Lib.hid (K7.out.keep B8.out)
              have KG8 := Lib.hid (KG7.out.keep B8.out)
              clear Q7 K7 KX7 KG7
              cases vv
              case true =>
                have hrd := HRD.out trivial trivial
                have hlt : f.off + (L : Int) < i3 := by have := HVV.out.symm; simpa using this
                have HRY := Lib.hid (And.intro hrd.1 (hrd.2.2 hlt))
                have HV : Hid (y = (f.readF k.line (R f.ino f.ge (f.off + (f.u.length : Int)) k.ch).1, if feedW k.line f.u (R f.ino f.ge (f.off + (f.u.length : Int)) k.ch).1 = true then some (feedS k.line f.u (R f.ino f.ge (f.off + (f.u.length : Int)) k.ch).1) else none)) := Lib.hid (by rw [HY.out]; unfold stepF; rw [if_neg HI0.out, ← HTT.out, if_neg (fun e => e rfl), if_neg (fun e => e rfl), if_pos ⟨by rw [← HL.out]; exact HRY.out.1, by rw [← HL.out]; exact HRY.out.2⟩])
                clear hrd hlt
                obtain ⟨C8, hC8, hn8, hs8, hb8⟩ := Q8.out.1.only
                have HCC8 := Lib.hid hC8
                have HB8 := Lib.hid hb8
                have HS8 : Hid (Stay w8 C8 c D) := Lib.hid ((HD.out.next Q8.out.2).only hs8)
                have HN8r : Hid (C8 r ≠ c) := Lib.hid (hn8 r _ _ K8.out (by decide) (by decide) (by decide))
                clear hC8 hn8 hs8 hb8
                have CR := Lib.hid (gf_read HCC8.out HA.out HS8.out HO.out HF.out HLI.out.2.2.2.1 HLI.out.2.2.1 HLI.out.1 HLI.out.2.1 (by rw [← HL.out]; exact HRY.out.2))
                rw [← HV.out] at CR
                obtain ⟨f2, oo⟩ := y
                rcases oo with _ | tl
                · have CT : Hid (Calls Tryz.prog 140 #[.pointer (some ⟨rb, 0, none⟩), .pointer (some ⟨p, 0, none⟩)] w8 fun e w' => e = .returned (.tuple #[.agg #[.int .i64 0, .int .i64 0, .int .i64 0, .int .i64 0, .int .i64 0, .int .i64 0, .int .i64 0, .int .i64 0, .int .i64 0, .string { data := #[] }], .bool false]) ∧ GfQ w8 C8 c rb k f2 w') := Lib.hid (CR.out.mono fun _ _ h => h)
                  clear CR
                  go_wp2_with fail
                  refine CT.out.mono ?_
                  rintro e w9 ⟨rfl, hq9⟩
                  simp only
                  have Q9 := Lib.hid (Q8.out.trans (HB8.out _ _ hq9))
                  have K9 := Lib.hid (K8.out.chg hq9.2 HN8r.out)
                  clear hq9 CT Q8 K8
                  obtain ⟨z0, z1, z2, z3, z4, z5, z6, z7, z8, z9⟩ := K9.out.zc
                  obtain ⟨zg0, zg1, zg2, zg3, zg4, zg5, zg6, zg7, zg8, zg9⟩ := K9.out.zf
                  obtain ⟨wz, hwz⟩ : ∃ wz, wz = setZ w9 r := ⟨_, rfl⟩
                  have KZ : Hid (Blk wz r 170 zeroL) := Lib.hid (by rw [hwz]; exact (K9.out.line0).1)
                  have BZ : Hid (Chg (fun b => b = r) w9 wz) := Lib.hid (by rw [hwz]; exact (K9.out.line0).2)
                  have QZ : Hid (GfQ W C c rb k f2 wz) := Lib.hid (Q9.out.far HR.out K9.out BZ.out)
                  go_wp2_with fail
                  unfold setZ at hwz
                  rw [← hwz]
                  clear hwz
                  refine bodyPost_ret (v := .tuple #[.agg zeroL, .bool false]) (ret_line2 rfl rfl rfl KZ.out rfl) rfl ?_
                  exact ⟨rfl, QZ.out⟩
                · obtain ⟨tx, htx⟩ : ∃ tx, tx = strOf tl := ⟨_, rfl⟩
                  have HTX := Lib.hid htx
                  have CT : Hid (Calls Tryz.prog 140 #[.pointer (some ⟨rb, 0, none⟩), .pointer (some ⟨p, 0, none⟩)] w8 fun e w' => e = .returned (.tuple #[.agg #[.int .i64 f.se, .int .i64 f.ino, .int .i64 f.ge, .int .i64 f.off, .int .i64 f.mi, .int .i64 f.go, .int .i64 f.cu, .int .i64 f.ta, .int .i64 f.lo, .string tx], .bool true]) ∧ GfQ w8 C8 c rb k f2 w') := Lib.hid (by rw [htx]; exact CR.out.mono fun _ _ h => h)
                  clear CR htx
                  go_wp2_with fail
                  refine CT.out.mono ?_
                  rintro e w9 ⟨rfl, hq9⟩
                  simp only
                  have Q9 := Lib.hid (Q8.out.trans (HB8.out _ _ hq9))
                  have K9 := Lib.hid (K8.out.chg hq9.2 HN8r.out)
                  clear hq9 CT Q8 K8
                  obtain ⟨z0, z1, z2, z3, z4, z5, z6, z7, z8, z9⟩ := K9.out.zc
                  obtain ⟨zg0, zg1, zg2, zg3, zg4, zg5, zg6, zg7, zg8, zg9⟩ := K9.out.zf
                  obtain ⟨wz, hwz⟩ : ∃ wz, wz = ((((((((((w9.setCell ⟨r, 0, none⟩ (.int .i64 f.se)).setCell ⟨r, 1, none⟩ (.int .i64 f.ino)).setCell ⟨r, 2, none⟩ (.int .i64 f.ge)).setCell ⟨r, 3, none⟩ (.int .i64 f.off)).setCell ⟨r, 4, none⟩ (.int .i64 f.mi)).setCell ⟨r, 5, none⟩ (.int .i64 f.go)).setCell ⟨r, 6, none⟩ (.int .i64 f.cu)).setCell ⟨r, 7, none⟩ (.int .i64 f.ta)).setCell ⟨r, 8, none⟩ (.int .i64 f.lo)).setCell ⟨r, 9, none⟩ (.string tx)) := ⟨_, rfl⟩
                  have KZ : Hid (Blk wz r 170 (lineA f tx)) := Lib.hid (by rw [hwz]; exact (K9.out.line _ _ _ _ _ _ _ _ _ _).1)
                  have BZ : Hid (Chg (fun b => b = r) w9 wz) := Lib.hid (by rw [hwz]; exact (K9.out.line _ _ _ _ _ _ _ _ _ _).2)
                  have QZ : Hid (GfQ W C c rb k f2 wz) := Lib.hid (Q9.out.far HR.out K9.out BZ.out)
                  go_wp2_with fail
                  rw [← hwz]
                  clear hwz
                  refine bodyPost_ret (v := .tuple #[.agg (lineA f tx), .bool true]) (ret_line2 rfl rfl rfl KZ.out rfl) rfl ?_
                  exact ⟨by rw [HTX.out]; rfl, QZ.out⟩
              case false =>
                have hnR : ¬ ((R f.ino f.ge (f.off + (f.u.length : Int)) k.ch).2 = 0 ∧ (R f.ino f.ge (f.off + (f.u.length : Int)) k.ch).1 ≠ []) := fun h => by
                  rw [← HL.out] at h
                  have := (HRD.out trivial trivial).2.1 h.2
                  have h2 := HVV.out.symm
                  simp at h2; omega
                cases bb
                case false =>
                  have HV : Hid (y = (f, none)) := Lib.hid (by rw [HY.out]; unfold stepF; rw [if_neg HI0.out, ← HTT.out, if_neg (fun e => e rfl), if_neg (fun e => e rfl), if_neg hnR, ← HT.out, ← HBB.out]; rfl)
                  clear hnR
                  go_upto_region 27 with fail
                  obtain ⟨z0, z1, z2, z3, z4, z5, z6, z7, z8, z9⟩ := K8.out.zc
                  obtain ⟨zg0, zg1, zg2, zg3, zg4, zg5, zg6, zg7, zg8, zg9⟩ := K8.out.zf
                  obtain ⟨wz, hwz⟩ : ∃ wz, wz = setZ w8 r := ⟨_, rfl⟩
                  have KZ : Hid (Blk wz r 170 zeroL) := Lib.hid (by rw [hwz]; exact (K8.out.line0).1)
                  have BZ : Hid (Chg (fun b => b = r) w8 wz) := Lib.hid (by rw [hwz]; exact (K8.out.line0).2)
                  have QZ : Hid (GfQ W C c rb k f wz) := Lib.hid (Q8.out.far HR.out K8.out BZ.out)
                  go_wp2_with fail
                  unfold setZ at hwz
                  rw [← hwz]
                  clear hwz
                  refine bodyPost_ret (v := .tuple #[.agg zeroL, .bool false]) (ret_line2 rfl rfl rfl KZ.out rfl) rfl ?_
                  rw [HV.out]
                  exact ⟨rfl, QZ.out⟩
                case true =>
                  have hlt : f.se < t1 := by have := HBB.out.symm; unfold nextB at this; simp only [Bool.and_eq_true, decide_eq_true_eq] at this; exact this.2
                  have HLT := Lib.hid hlt
                  have HV : Hid (y = (f.turnsF (t0, t1, t2, t3, t4), none)) := Lib.hid (by rw [HY.out]; unfold stepF; rw [if_neg HI0.out, ← HTT.out, if_neg (fun e => e rfl), if_neg (fun e => e rfl), if_neg hnR, ← HT.out, ← HBB.out]; rfl)
                  clear hnR hlt
                  by_cases hl0 : 0 < L
                  · have hl1 : 0 < (L : Int) := by omega
                    have HL0 := Lib.hid hl0
                    clear hl0
                    obtain ⟨C8, hC8, hn8, hs8, hb8⟩ := Q8.out.1.only
                    have HCC8 := Lib.hid hC8
                    have HB8 := Lib.hid hb8
                    have HS8 : Hid (Stay w8 C8 c D) := Lib.hid ((HD.out.next Q8.out.2).only hs8)
                    have HN8r : Hid (C8 r ≠ c) := Lib.hid (hn8 r _ _ K8.out (by decide) (by decide) (by decide))
                    have HN8g : Hid (C8 g ≠ c) := Lib.hid (hn8 g _ _ KG8.out (by decide) (by decide) (by decide))
                    clear hC8 hn8 hs8 hb8
                    have CU := Lib.hid (gf_more rb 11 f.ta 1 w8 Q8.out.1.cells.2.2.2.2.2.2.2.2.2.2.2.1 (Q8.out.1.frozen 11) HF.out.ta.1 HF.out.ta.2 (by decide) (by decide))
                    go_wp2_with fail
                    refine CU.out.mono ?_
                    rintro e w9 ⟨rfl, hw9⟩
                    have X9 : GfQ w8 C8 c rb k (f.put 7 (upv f.ta 1)) w9 := by rw [hw9]; exact (GfQ.refl HCC8.out).put (i := 7) (by decide) _
                    have Q9 := Lib.hid (Q8.out.trans (HB8.out _ _ X9))
                    have K9 := Lib.hid (K8.out.chg X9.2 HN8r.out)
                    have KG9 := Lib.hid (KG8.out.chg X9.2 HN8g.out)
                    clear hw9 CU X9 Q8 K8 KG8 hl1
                    obtain ⟨C9, hC9, hn9, hs9, hb9⟩ := Q9.out.1.only
                    have HCC9 := Lib.hid hC9
                    have HB9 := Lib.hid hb9
                    have HS9 : Hid (Stay w9 C9 c D) := Lib.hid ((HD.out.next Q9.out.2).only hs9)
                    have HN9r : Hid (C9 r ≠ c) := Lib.hid (hn9 r _ _ K9.out (by decide) (by decide) (by decide))
                    have HN9g : Hid (C9 g ≠ c) := Lib.hid (hn9 g _ _ KG9.out (by decide) (by decide) (by decide))
                    clear hC9 hn9 hs9 hb9
                    have CL := Lib.hid (gf_letGo HCC9.out)
                    go_wp2_with fail
                    refine CL.out.mono ?_
                    rintro e w11 ⟨rfl, hq11⟩
                    have Q11 : Hid (GfQ W C c rb k (f.put 7 (upv f.ta 1)).letGo w11) := Lib.hid (Q9.out.trans (HB9.out _ _ hq11))
                    have K11 := Lib.hid (K9.out.chg hq11.2 HN9r.out)
                    have KG11 := Lib.hid (KG9.out.chg hq11.2 HN9g.out)
                    clear hq11 CL Q9 K9 KG9
                    have x0 : w11.cell? ⟨g, 0, none⟩ = some (.int .i64 t0) := KG11.out.cell 0
                    have x1 : w11.cell? ⟨g, 1, none⟩ = some (.int .i64 t1) := KG11.out.cell 1
                    have x2 : w11.cell? ⟨g, 2, none⟩ = some (.int .i64 t2) := KG11.out.cell 2
                    have x3 : w11.cell? ⟨g, 3, none⟩ = some (.int .i64 t3) := KG11.out.cell 3
                    obtain ⟨C11, hC11, hn11, hs11, hb11⟩ := Q11.out.1.only
                    have HCC11 := Lib.hid hC11
                    have HB11 := Lib.hid hb11
                    have HS11 : Hid (Stay w11 C11 c D) := Lib.hid ((HD.out.next Q11.out.2).only hs11)
                    have HN11r : Hid (C11 r ≠ c) := Lib.hid (hn11 r _ _ K11.out (by decide) (by decide) (by decide))
                    clear hC11 hn11 hs11 hb11
                    have CT := Lib.hid (gf_takeUp HCC11.out t0 t1 t2 t3 HF.out.mi HF.out.se HLT.out HTS.out.2.2.2)
                    go_wp2_with fail
                    refine CT.out.mono ?_
                    rintro e w12 ⟨rfl, hq12⟩
                    have Q12 : Hid (GfQ W C c rb k (f.turnsF (t0, t1, t2, t3, t4)) w12) := Lib.hid (by
                      have h1 := Q11.out.trans (HB11.out _ _ hq12)
                      unfold FwS.turnsF
                      rw [if_pos (by rw [← HL.out]; exact HL0.out)]
                      exact h1)
                    have K12 := Lib.hid (K11.out.chg hq12.2 HN11r.out)
                    clear hq12 CT x0 x1 x2 x3 Q11 K11 KG11
                    go_upto_region 27 with fail
                    obtain ⟨z0, z1, z2, z3, z4, z5, z6, z7, z8, z9⟩ := K12.out.zc
                    obtain ⟨zg0, zg1, zg2, zg3, zg4, zg5, zg6, zg7, zg8, zg9⟩ := K12.out.zf
                    obtain ⟨wz, hwz⟩ : ∃ wz, wz = setZ w12 r := ⟨_, rfl⟩
                    have KZ : Hid (Blk wz r 170 zeroL) := Lib.hid (by rw [hwz]; exact (K12.out.line0).1)
                    have BZ : Hid (Chg (fun b => b = r) w12 wz) := Lib.hid (by rw [hwz]; exact (K12.out.line0).2)
                    have QZ : Hid (GfQ W C c rb k (f.turnsF (t0, t1, t2, t3, t4)) wz) := Lib.hid (Q12.out.far HR.out K12.out BZ.out)
                    go_wp2_with fail
                    unfold setZ at hwz
                    rw [← hwz]
                    clear hwz
                    refine bodyPost_ret (v := .tuple #[.agg zeroL, .bool false]) (ret_line2 rfl rfl rfl KZ.out rfl) rfl ?_
                    rw [HV.out]
                    exact ⟨rfl, QZ.out⟩
                  · have hl1 : ¬ 0 < (L : Int) := by omega
                    have HL0 := Lib.hid hl0
                    clear hl0
                    obtain ⟨C8, hC8, hn8, hs8, hb8⟩ := Q8.out.1.only
                    have HCC8 := Lib.hid hC8
                    have HB8 := Lib.hid hb8
                    have HS8 : Hid (Stay w8 C8 c D) := Lib.hid ((HD.out.next Q8.out.2).only hs8)
                    have HN8r : Hid (C8 r ≠ c) := Lib.hid (hn8 r _ _ K8.out (by decide) (by decide) (by decide))
                    have HN8g : Hid (C8 g ≠ c) := Lib.hid (hn8 g _ _ KG8.out (by decide) (by decide) (by decide))
                    clear hC8 hn8 hs8 hb8
                    have CL := Lib.hid (gf_letGo HCC8.out)
                    go_wp2_with fail
                    refine CL.out.mono ?_
                    rintro e w11 ⟨rfl, hq11⟩
                    have Q11 : Hid (GfQ W C c rb k f.letGo w11) := Lib.hid (Q8.out.trans (HB8.out _ _ hq11))
                    have K11 := Lib.hid (K8.out.chg hq11.2 HN8r.out)
                    have KG11 := Lib.hid (KG8.out.chg hq11.2 HN8g.out)
                    clear hq11 CL Q8 K8 KG8
                    have x0 : w11.cell? ⟨g, 0, none⟩ = some (.int .i64 t0) := KG11.out.cell 0
                    have x1 : w11.cell? ⟨g, 1, none⟩ = some (.int .i64 t1) := KG11.out.cell 1
                    have x2 : w11.cell? ⟨g, 2, none⟩ = some (.int .i64 t2) := KG11.out.cell 2
                    have x3 : w11.cell? ⟨g, 3, none⟩ = some (.int .i64 t3) := KG11.out.cell 3
                    obtain ⟨C11, hC11, hn11, hs11, hb11⟩ := Q11.out.1.only
                    have HCC11 := Lib.hid hC11
                    have HB11 := Lib.hid hb11
                    have HS11 : Hid (Stay w11 C11 c D) := Lib.hid ((HD.out.next Q11.out.2).only hs11)
                    have HN11r : Hid (C11 r ≠ c) := Lib.hid (hn11 r _ _ K11.out (by decide) (by decide) (by decide))
                    clear hC11 hn11 hs11 hb11
                    have CT := Lib.hid (gf_takeUp HCC11.out t0 t1 t2 t3 HF.out.mi HF.out.se HLT.out HTS.out.2.2.2)
                    go_wp2_with fail
                    refine CT.out.mono ?_
                    rintro e w12 ⟨rfl, hq12⟩
                    have Q12 : Hid (GfQ W C c rb k (f.turnsF (t0, t1, t2, t3, t4)) w12) := Lib.hid (by
                      have h1 := Q11.out.trans (HB11.out _ _ hq12)
                      unfold FwS.turnsF
                      rw [if_neg (by rw [← HL.out]; exact HL0.out)]
                      exact h1)
                    have K12 := Lib.hid (K11.out.chg hq12.2 HN11r.out)
                    clear hq12 CT x0 x1 x2 x3 Q11 K11 KG11
                    go_upto_region 27 with fail
                    obtain ⟨z0, z1, z2, z3, z4, z5, z6, z7, z8, z9⟩ := K12.out.zc
                    obtain ⟨zg0, zg1, zg2, zg3, zg4, zg5, zg6, zg7, zg8, zg9⟩ := K12.out.zf
                    obtain ⟨wz, hwz⟩ : ∃ wz, wz = setZ w12 r := ⟨_, rfl⟩
                    have KZ : Hid (Blk wz r 170 zeroL) := Lib.hid (by rw [hwz]; exact (K12.out.line0).1)
                    have BZ : Hid (Chg (fun b => b = r) w12 wz) := Lib.hid (by rw [hwz]; exact (K12.out.line0).2)
                    have QZ : Hid (GfQ W C c rb k (f.turnsF (t0, t1, t2, t3, t4)) wz) := Lib.hid (Q12.out.far HR.out K12.out BZ.out)
                    go_wp2_with fail
                    unfold setZ at hwz
                    rw [← hwz]
                    clear hwz
                    refine bodyPost_ret (v := .tuple #[.agg zeroL, .bool false]) (ret_line2 rfl rfl rfl KZ.out rfl) rfl ?_
                    rw [HV.out]
                    exact ⟨rfl, QZ.out⟩
        · have HV : Hid (y = (f.cutF i2, none)) := Lib.hid (by rw [HY.out]; unfold stepF; rw [if_neg HI0.out, ← HTT.out, if_neg (fun e => e rfl), if_pos hge])
          have hgn : (i2 != f.ge) = true := by rw [bne_iff_ne]; exact hge
          have x2 : w6.cell? ⟨g9, 2, none⟩ = some (.int .i64 i2) := KX6.out.cell 2
          have x6 : w6.cell? ⟨rb, 6, none⟩ = some (.int .i64 f.ge) := Q6.out.1.cells.2.2.2.2.2.2.1
          have HGE := Lib.hid hge
          clear hge
          go_upto_region 12 with fail
          go_cut [72] (fun s wx => s = .bool true ∧ Hid (Below w6.heap.size w6 wx))
          case first =>
            go_quiet (fail)
            go_wp2_with fail
            go_meet
            exact ⟨rfl, Lib.hid (below_drewN (Below.refl _ _) _)⟩
          case rest =>
            obtain ⟨rfl, B7⟩ := hcut
            obtain ⟨w7, rfl⟩ : ∃ w7, w7 = wc := ⟨_, rfl⟩
            clear hgn x2 x6
            have Q7 := Lib.hid (Q6.out.below B7.out)
            have K7 := Lib.hid (K6.out.keep B7.out)
            have KX7 := Lib.hid (KX6.out.keep B7.out)
            have x2 : w7.cell? ⟨g9, 2, none⟩ = some (.int .i64 i2) := KX7.out.cell 2
            have x6 : w7.cell? ⟨rb, 6, none⟩ = some (.int .i64 f.ge) := Q7.out.1.cells.2.2.2.2.2.2.1
            clear Q6 K6 KX6 KG6
            by_cases hgt : f.ge < i2
            · have hw := IntWalk.i64_in (i2 - f.ge) (by have := HF.out.ge.1; have := HIS.out.1.2; have := HIS.out.1.1; have := HF.out.ge.2; omega)
              have HGT := Lib.hid hgt
              go_upto_region 13 with fail
              go_quiet (fail)
              obtain ⟨w8, hw8⟩ : ∃ w8, w8 = w7.drewN nq := ⟨_, rfl⟩
              have B8 : Hid (Below w7.heap.size w7 w8) := Lib.hid (by rw [hw8]; exact below_drewN (Below.refl _ _) _)
              rw [← hw8]
              clear hw8 x2 x6
              go_upto_region 14 with fail
              clear hgt
              refine wp_region_any (by kernel_rfl) ?_
              change wpAny _ _ _ _ _ _ _ (World.drew _)
              refine wpAny_of_held (S := fun w' => w'.cell? ⟨rb, 6, none⟩ = some (.int .i64 f.ge) ∧ w'.cell? ⟨g9, 2, none⟩ = some (.int .i64 i2)) _ _ _ _ ?_
              obtain ⟨w9, hw9⟩ : ∃ w9, w9 = w8.drew := ⟨_, rfl⟩
              have B9 : Hid (Below w7.heap.size w7 w9) := Lib.hid (by rw [hw9]; exact B8.out.drew)
              have Q9 := Lib.hid (Q7.out.below B9.out)
              have K9 := Lib.hid (K7.out.keep B9.out)
              have KX9 := Lib.hid (KX7.out.keep B9.out)
              rw [← hw9]
              clear hw9
              have hHeld : (fun w' => w'.cell? ⟨rb, 6, none⟩ = some (.int .i64 f.ge) ∧ w'.cell? ⟨g9, 2, none⟩ = some (.int .i64 i2)) w9 := ⟨Q9.out.1.cells.2.2.2.2.2.2.1, KX9.out.cell 2⟩
              have CU := Lib.hid (gf_more rb 10 f.cu (i2 - f.ge) w9 Q9.out.1.cells.2.2.2.2.2.2.2.2.2.2.1 (Q9.out.1.frozen 10) HF.out.cu.1 HF.out.cu.2 (by have := HGT.out; omega) (by have := HF.out.ge.1; have := HIS.out.2.1; omega))
              refine tkh 0 (v := ?_) rfl ?_ ?_; rotate_left
              · intro w hSw; (try dsimp only at hSw); go_simp <;> with_reducible rfl
              try simp only [Act.put, pz]
              refine tkh 1 (v := ?_) rfl ?_ ?_; rotate_left
              · intro w hSw; (try dsimp only at hSw); go_simp <;> with_reducible rfl
              try simp only [Act.put, pz]
              refine tkh 2 (v := ?_) rfl ?_ ?_; rotate_left
              · intro w hSw; (try dsimp only at hSw); go_simp <;> with_reducible rfl
              try simp only [Act.put, pz]
              refine tkh 3 (v := ?_) rfl ?_ ?_; rotate_left
              · intro w hSw; (try dsimp only at hSw); go_simp <;> with_reducible rfl
              try simp only [Act.put, pz]
              refine tkh 4 (v := ?_) rfl ?_ ?_; rotate_left
              · intro w hSw; (try dsimp only at hSw); go_simp <;> with_reducible rfl
              try simp only [Act.put, pz]
              refine tkh 5 (v := ?_) rfl ?_ ?_; rotate_left
              · intro w hSw; (try dsimp only at hSw); go_simp <;> with_reducible rfl
              try simp only [Act.put, pz]
              refine tkh 6 (v := ?_) rfl ?_ ?_; rotate_left
              · intro w hSw; obtain ⟨q0, q1⟩ := hSw; go_simp <;> with_reducible rfl
              try simp only [Act.put, pz]
              refine tkh 7 (v := ?_) rfl ?_ ?_; rotate_left
              · intro w hSw; (try dsimp only at hSw); go_simp <;> with_reducible rfl
              try simp only [Act.put, pz]
              refine tkh 8 (v := ?_) rfl ?_ ?_; rotate_left
              · intro w hSw; (try dsimp only at hSw); go_simp <;> with_reducible rfl
              try simp only [Act.put, pz]
              refine tkh 9 (v := ?_) rfl ?_ ?_; rotate_left
              · intro w hSw; (try dsimp only at hSw); go_simp <;> with_reducible rfl
              try simp only [Act.put, pz]
              refine tkh 10 (v := ?_) rfl ?_ ?_; rotate_left
              · intro w hSw; (try dsimp only at hSw); go_simp <;> with_reducible rfl
              try simp only [Act.put, pz]
              refine tkh 11 (v := ?_) rfl ?_ ?_; rotate_left
              · intro w hSw; obtain ⟨q0, q1⟩ := hSw; go_simp <;> with_reducible rfl
              try simp only [Act.put, pz]
              refine tkh 12 (v := ?_) rfl ?_ ?_; rotate_left
              · intro w hSw; (try dsimp only at hSw); go_simp <;> with_reducible rfl
              try simp only [Act.put, pz]
              obtain ⟨C9, hC9, hn9, hs9, hb9⟩ := Q9.out.1.only
              have HCC9 := Lib.hid hC9
              have HB9 := Lib.hid hb9
              have HS9 : Hid (Stay w9 C9 c D) := Lib.hid ((HD.out.next Q9.out.2).only hs9)
              have HN9r : Hid (C9 r ≠ c) := Lib.hid (hn9 r _ _ K9.out (by decide) (by decide) (by decide))
              have HN9g9 : Hid (C9 g9 ≠ c) := Lib.hid (hn9 g9 _ _ KX9.out (by decide) (by decide) (by decide))
              clear hC9 hn9 hs9 hb9
              refine wpAnyH_ready (rs := [13]) (by kernel_rfl) (by simp) (AllReadyH.cons rfl (fun K hK => ?_) AllReadyH.nil)
              have hPrev := hHeld
              clear hHeld
              go_simp
              clear hw
              refine CU.out.mono ?_
              rintro e w10 ⟨rfl, hw10⟩
              have X10 : GfQ w9 C9 c rb k (f.put 6 (upv f.cu (i2 - f.ge))) w10 := by rw [hw10]; exact (GfQ.refl HCC9.out).put (i := 6) (by decide) _
              have Q10 := Lib.hid (Q9.out.trans (HB9.out _ _ X10))
              have K10 := Lib.hid (K9.out.chg X10.2 HN9r.out)
              have KX10 := Lib.hid (KX9.out.chg X10.2 HN9g9.out)
              clear hw10 CU X10
              refine hK.out _ _ (⟨Q10.out.1.cells.2.2.2.2.2.2.1, KX10.out.cell 2⟩) (fun hHeld => ?_)
              clear hK K hPrev
              try simp only [Act.put, pz]
              refine wpAnyH_done (by kernel_rfl) ?_ _
              clear hHeld Q9 K9 KX9 Q7 K7 KX7
              obtain ⟨C10, hC10, hn10, hs10, hb10⟩ := Q10.out.1.only
              have HCC10 := Lib.hid hC10
              have HB10 := Lib.hid hb10
              have HS10 : Hid (Stay w10 C10 c D) := Lib.hid ((HD.out.next Q10.out.2).only hs10)
              have HN10r : Hid (C10 r ≠ c) := Lib.hid (hn10 r _ _ K10.out (by decide) (by decide) (by decide))
              clear hC10 hn10 hs10 hb10
              have x2 : w10.cell? ⟨g9, 2, none⟩ = some (.int .i64 i2) := KX10.out.cell 2
              have x6 : w10.cell? ⟨rb, 6, none⟩ = some (.int .i64 f.ge) := Q10.out.1.cells.2.2.2.2.2.2.1
              have x7 : w10.cell? ⟨rb, 7, none⟩ = some (.int .i64 f.off) := Q10.out.1.cells.2.2.2.2.2.2.2.1
              have z6 := Q10.out.1.frozen 6
              have z7 := Q10.out.1.frozen 7
              obtain ⟨w11, hw11⟩ : ∃ w11, w11 = (w10.setCell ⟨rb, 6, none⟩ (.int .i64 i2)).setCell ⟨rb, 7, none⟩ (.int .i64 0) := ⟨_, rfl⟩
              have X11 : Hid (GfQ w10 C10 c rb k (((f.put 6 (upv f.cu (i2 - f.ge))).put 2 i2).put 3 0) w11) := Lib.hid (by rw [hw11]; exact ((GfQ.refl HCC10.out).put (i := 2) (by decide) _).put (i := 3) (by decide) _)
              obtain ⟨mb, v, y13, hm, hK⟩ := X11.out.1.maker
              have CD := Lib.hid (rdrop_any mb v k.line _ _ w11 hm)
              have HK := Lib.hid hK
              clear hm hK
              go_upto_region 17 with fail
              rw [← hw11]
              clear hw11 x2 x6 x7 z6 z7
              go_wp2_with fail
              refine CD.out.mono ?_
              rintro e w12 ⟨rfl, hm2, hc2⟩
              have X12 := Lib.hid (X11.out.trans (HK.out _ _ _ _ hm2 hc2 (Fresh.nil _ _)))
              have Q12 : Hid (GfQ W C c rb k (f.cutF i2) w12) := Lib.hid (by
                have h1 := Q10.out.trans (HB10.out _ _ X12.out)
                have e : max 0 (i2 - f.ge) = i2 - f.ge := by have := HGT.out; omega
                unfold FwS.cutF
                rw [e]
                exact h1)
              have K12 := Lib.hid (K10.out.chg X12.out.2 HN10r.out)
              clear hm2 hc2 HK X11 X12 CD Q10 K10 KX10 y13
              go_upto_region 18 with fail
              obtain ⟨z0, z1, z2, z3, z4, z5, z6, z7, z8, z9⟩ := K12.out.zc
              obtain ⟨zg0, zg1, zg2, zg3, zg4, zg5, zg6, zg7, zg8, zg9⟩ := K12.out.zf
              obtain ⟨wz, hwz⟩ : ∃ wz, wz = setZ w12 r := ⟨_, rfl⟩
              have KZ : Hid (Blk wz r 170 zeroL) := Lib.hid (by rw [hwz]; exact (K12.out.line0).1)
              have BZ : Hid (Chg (fun b => b = r) w12 wz) := Lib.hid (by rw [hwz]; exact (K12.out.line0).2)
              have QZ : Hid (GfQ W C c rb k (f.cutF i2) wz) := Lib.hid (Q12.out.far HR.out K12.out BZ.out)
              go_wp2_with fail
              unfold setZ at hwz
              rw [← hwz]
              clear hwz
              refine bodyPost_ret (v := .tuple #[.agg zeroL, .bool false]) (ret_line2 rfl rfl rfl KZ.out rfl) rfl ?_
              rw [HV.out]
              exact ⟨rfl, QZ.out⟩
            · have HGT := Lib.hid hgt
              have hgt2 : ¬ i2 > f.ge := hgt
              go_upto_region 13 with fail
              go_quiet (fail)
              obtain ⟨w8, hw8⟩ : ∃ w8, w8 = w7.drewN nq := ⟨_, rfl⟩
              have B8 : Hid (Below w7.heap.size w7 w8) := Lib.hid (by rw [hw8]; exact below_drewN (Below.refl _ _) _)
              have Q8 := Lib.hid (Q7.out.below B8.out)
              have K8 := Lib.hid (K7.out.keep B8.out)
              have KX8 := Lib.hid (KX7.out.keep B8.out)
              rw [← hw8]
              clear hw8 x2 x6
              go_upto_region 15 with fail
              clear hgt hgt2 Q7 K7 KX7
              obtain ⟨C8, hC8, hn8, hs8, hb8⟩ := Q8.out.1.only
              have HCC8 := Lib.hid hC8
              have HB8 := Lib.hid hb8
              have HS8 : Hid (Stay w8 C8 c D) := Lib.hid ((HD.out.next Q8.out.2).only hs8)
              have HN8r : Hid (C8 r ≠ c) := Lib.hid (hn8 r _ _ K8.out (by decide) (by decide) (by decide))
              clear hC8 hn8 hs8 hb8
              have x2 : w8.cell? ⟨g9, 2, none⟩ = some (.int .i64 i2) := KX8.out.cell 2
              have x6 : w8.cell? ⟨rb, 6, none⟩ = some (.int .i64 f.ge) := Q8.out.1.cells.2.2.2.2.2.2.1
              have x7 : w8.cell? ⟨rb, 7, none⟩ = some (.int .i64 f.off) := Q8.out.1.cells.2.2.2.2.2.2.2.1
              have z6 := Q8.out.1.frozen 6
              have z7 := Q8.out.1.frozen 7
              obtain ⟨w11, hw11⟩ : ∃ w11, w11 = (w8.setCell ⟨rb, 6, none⟩ (.int .i64 i2)).setCell ⟨rb, 7, none⟩ (.int .i64 0) := ⟨_, rfl⟩
              have X11 : Hid (GfQ w8 C8 c rb k ((f.put 2 i2).put 3 0) w11) := Lib.hid (by rw [hw11]; exact ((GfQ.refl HCC8.out).put (i := 2) (by decide) _).put (i := 3) (by decide) _)
              obtain ⟨mb, v, y13, hm, hK⟩ := X11.out.1.maker
              have CD := Lib.hid (rdrop_any mb v k.line _ _ w11 hm)
              have HK := Lib.hid hK
              clear hm hK
              go_upto_region 17 with fail
              rw [← hw11]
              clear hw11 x2 x6 x7 z6 z7
              go_wp2_with fail
              refine CD.out.mono ?_
              rintro e w12 ⟨rfl, hm2, hc2⟩
              have X12 := Lib.hid (X11.out.trans (HK.out _ _ _ _ hm2 hc2 (Fresh.nil _ _)))
              have Q12 : Hid (GfQ W C c rb k (f.cutF i2) w12) := Lib.hid (by
                have h1 := Q8.out.trans (HB8.out _ _ X12.out)
                have e : max 0 (i2 - f.ge) = 0 := by have := HGT.out; omega
                unfold FwS.cutF
                rw [e, upv_zero HF.out.cu]
                exact h1)
              have K12 := Lib.hid (K8.out.chg X12.out.2 HN8r.out)
              clear hm2 hc2 HK X11 X12 CD Q8 K8 KX8 y13
              go_upto_region 18 with fail
              obtain ⟨z0, z1, z2, z3, z4, z5, z6, z7, z8, z9⟩ := K12.out.zc
              obtain ⟨zg0, zg1, zg2, zg3, zg4, zg5, zg6, zg7, zg8, zg9⟩ := K12.out.zf
              obtain ⟨wz, hwz⟩ : ∃ wz, wz = setZ w12 r := ⟨_, rfl⟩
              have KZ : Hid (Blk wz r 170 zeroL) := Lib.hid (by rw [hwz]; exact (K12.out.line0).1)
              have BZ : Hid (Chg (fun b => b = r) w12 wz) := Lib.hid (by rw [hwz]; exact (K12.out.line0).2)
              have QZ : Hid (GfQ W C c rb k (f.cutF i2) wz) := Lib.hid (Q12.out.far HR.out K12.out BZ.out)
              go_wp2_with fail
              unfold setZ at hwz
              rw [← hwz]
              clear hwz
              refine bodyPost_ret (v := .tuple #[.agg zeroL, .bool false]) (ret_line2 rfl rfl rfl KZ.out rfl) rfl ?_
              rw [HV.out]
              exact ⟨rfl, QZ.out⟩
      · have hne : (i4 != (0 : Int)) = true := by rw [bne_iff_ne]; exact h4
        have HV : Hid (y = (f.gone, none)) := Lib.hid (by rw [HY.out]; unfold stepF; rw [if_neg HI0.out, ← HTT.out, if_pos h4])
        clear h4
        obtain ⟨C7, hC7, hn7, hs7, hb7⟩ := Q6.out.1.only
        have HCC7 := Lib.hid hC7
        have HB7 := Lib.hid hb7
        have HS7 : Hid (Stay w6 C7 c D) := Lib.hid ((HD.out.next Q6.out.2).only hs7)
        have HN7r : Hid (C7 r ≠ c) := Lib.hid (hn7 r _ _ K6.out (by decide) (by decide) (by decide))
        clear hC7 hn7 hs7 hb7
        have CL := Lib.hid (gf_letGo HCC7.out)
        go_wp2_with fail
        refine CL.out.mono ?_
        rintro e w7 ⟨rfl, hq7⟩
        have Q7 : Hid (GfQ W C c rb k f.letGo w7) := Lib.hid (Q6.out.trans (HB7.out _ _ hq7))
        have K7 := Lib.hid (K6.out.chg hq7.2 HN7r.out)
        clear hq7 CL Q6 K6 KX6 KG6
        obtain ⟨C8, hC8, hn8, hs8, hb8⟩ := Q7.out.1.only
        have HCC8 := Lib.hid hC8
        have HB8 := Lib.hid hb8
        have HS8 : Hid (Stay w7 C8 c D) := Lib.hid ((HD.out.next Q7.out.2).only hs8)
        have HN8r : Hid (C8 r ≠ c) := Lib.hid (hn8 r _ _ K7.out (by decide) (by decide) (by decide))
        clear hC8 hn8 hs8 hb8
        have CU := Lib.hid (gf_more rb 9 f.go 1 w7 Q7.out.1.cells.2.2.2.2.2.2.2.2.2.1 (Q7.out.1.frozen 9) HF.out.go.1 HF.out.go.2 (by decide) (by decide))
        go_wp2_with fail
        refine CU.out.mono ?_
        rintro e w8 ⟨rfl, hw8⟩
        have X8 : GfQ w7 C8 c rb k (f.letGo.put 5 (upv f.go 1)) w8 := by rw [hw8]; exact (GfQ.refl HCC8.out).put (i := 5) (by decide) _
        have Q8 : Hid (GfQ W C c rb k f.gone w8) := Lib.hid (Q7.out.trans (HB8.out _ _ X8))
        have K8 := Lib.hid (K7.out.chg X8.2 HN8r.out)
        clear hw8 CU X8 Q7 K7 hne
        go_upto_region 11 with fail
        obtain ⟨z0, z1, z2, z3, z4, z5, z6, z7, z8, z9⟩ := K8.out.zc
        obtain ⟨zg0, zg1, zg2, zg3, zg4, zg5, zg6, zg7, zg8, zg9⟩ := K8.out.zf
        obtain ⟨wz, hwz⟩ : ∃ wz, wz = setZ w8 r := ⟨_, rfl⟩
        have KZ : Hid (Blk wz r 170 zeroL) := Lib.hid (by rw [hwz]; exact (K8.out.line0).1)
        have BZ : Hid (Chg (fun b => b = r) w8 wz) := Lib.hid (by rw [hwz]; exact (K8.out.line0).2)
        have QZ : Hid (GfQ W C c rb k f.gone wz) := Lib.hid (Q8.out.far HR.out K8.out BZ.out)
        go_wp2_with fail
        unfold setZ at hwz
        rw [← hwz]
        clear hwz
        refine bodyPost_ret (v := .tuple #[.agg zeroL, .bool false]) (ret_line2 rfl rfl rfl KZ.out rfl) rfl ?_
        rw [HV.out]
        exact ⟨rfl, QZ.out⟩
end Go.Proofs.YtlojmmcagglpoaaGreat
