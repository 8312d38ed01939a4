/- THE WALKS of package follow: Step (printed by a program of ours). -/
import Derived.Test.YtlojmmcagglpoaaGreatUTk
import Derived.Test.YtlojmmcagglpoaaGreatUFwRead
namespace Go.Proofs.YtlojmmcagglpoaaGreat
open Go.RowKit Go.Maps
attribute [local go_sem ↓] Go.wp_at_zero Go.wp_at_succ
noncomputable def stepF (S : List UInt8 → T5) (I : Int → T5) (R : Int → Int → Int → Int → List UInt8 × Int) (k : FwK) (f : FwS) : FwS × Option (List UInt8) :=
  if f.ino = 0 then (if nextB (S k.nm) f = true then f.takeUp (S k.nm) else f, none)
  else if (I f.ino).2.2.2.2 ≠ 0 then (f.gone, none)
  else if (I f.ino).2.2.1 ≠ f.ge then (f.cutF (I f.ino).2.2.1, none)
  else if (R f.ino f.ge (f.off + (f.u.length : Int)) k.ch).2 = 0 ∧ (R f.ino f.ge (f.off + (f.u.length : Int)) k.ch).1 ≠ [] then
    (f.readF k.line (R f.ino f.ge (f.off + (f.u.length : Int)) k.ch).1, if feedW k.line f.u (R f.ino f.ge (f.off + (f.u.length : Int)) k.ch).1 = true then some (feedS k.line f.u (R f.ino f.ge (f.off + (f.u.length : Int)) k.ch).1) else none)
  else if nextB (S k.nm) f = true then (f.turnsF (S k.nm), none)
  else (f, none)
def lineO (f : FwS) : Option (List UInt8) → Array Value
  | some tx => lineA f (strOf tx)
  | none => zeroL
def StpF (W : World) (C : Nat → Nat) (c rb : Nat) (k : FwK) (f : FwS) (y : FwS × Option (List UInt8)) (e : Ending) (w' : World) : Prop := e = .returned (.tuple #[.agg (lineO f y.2), .bool y.2.isSome]) ∧ FwQ W C c rb k y.1 w'
def NotYet (S : List UInt8 → T5) (I : Int → T5) (R : Int → Int → Int → Int → List UInt8 × Int) (k : FwK) (f : FwS) (j : Nat) : Prop :=
  (1 ≤ j → f.ino ≠ 0) ∧ (2 ≤ j → (I f.ino).2.2.2.2 = 0) ∧ (3 ≤ j → (I f.ino).2.2.1 = f.ge) ∧ (4 ≤ j → ¬ ((R f.ino f.ge (f.off + (f.u.length : Int)) k.ch).2 = 0 ∧ (R f.ino f.ge (f.off + (f.u.length : Int)) k.ch).1 ≠ [])) ∧ (5 ≤ j → nextB (S k.nm) f = false)
def LoopF (W : World) (C : Nat → Nat) (c rb r q : Nat) (k : FwK) (f : FwS) (S : List UInt8 → T5) (I : Int → T5) (R : Int → Int → Int → Int → List UInt8 × Int) (j : Nat) (w : World) : Prop :=
  FwQ W C c rb k f w ∧ Blk w r 170 zeroL ∧ Blk w q 224 #[.func (.func 125) #[.pointer (some ⟨rb, 0, none⟩)] #[], .func (.func 126) #[.pointer (some ⟨rb, 0, none⟩)] #[], .func (.func 127) #[.pointer (some ⟨rb, 0, none⟩)] #[], .func (.func 128) #[.pointer (some ⟨rb, 0, none⟩)] #[], .func (.func 129) #[.pointer (some ⟨rb, 0, none⟩)] #[]] ∧ NotYet S I R k f j
set_option maxRecDepth 20000 in
set_option maxHeartbeats 8000000 in
theorem fw_step {W : World} {C : Nat → Nat} {c rb p : Nat} {k : FwK} {f : FwS} {D : World → Prop} {S : List UInt8 → T5} {I : Int → T5} {R : Int → Int → Int → Int → List UInt8 × Int} {fl : Nat} (h : FwR W C c rb k f) (ha : Asks p D S I R) (hD : Stay W C c D) (hfl : Blk W fl 221 #[.pointer (some ⟨rb, 0, none⟩)]) (ho : AskOk S I R) (hf : f.Ok) (hch : okInt k.ch) (hul : f.u.length ≤ 100000000) (hli : k.line ≤ 4096) (hlc : f.lc ≤ 1000000000) : Calls Tryz.prog 87 #[.pointer (some ⟨fl, 0, none⟩), .pointer (some ⟨p, 0, none⟩)] W (StpF W C c rb k f (stepF S I R k f)) := by
  obtain ⟨w1, hw1⟩ : ∃ w1, w1 = W.alloc (.cells zeroL 170) := ⟨_, rfl⟩
  obtain ⟨r, hr⟩ : ∃ r, r = W.heap.size := ⟨_, rfl⟩
  have B1 : Hid (Below W.heap.size W w1) := Lib.hid (by rw [hw1]; exact (Below.refl _ _).alloc (Nat.le_refl _) _)
  have K1 : Hid (Blk w1 r 170 zeroL) := Lib.hid (by rw [hw1]; exact Blk.new W _ _ hr)
  have HR : Hid (W.heap.size ≤ r) := Lib.hid (by omega)
  have Q1 : Hid (FwQ W C c rb k f w1) := Lib.hid ((FwQ.refl h).below B1.out)
  have HA := Lib.hid ha
  have HD := Lib.hid hD
  have HO := Lib.hid ho
  have HF := Lib.hid hf
  have HP := Lib.hid (And.intro hch (And.intro hul (And.intro hli hlc)))
  have HFL := Lib.hid (hfl.keep B1.out)
  clear h ha hD ho hf hch hul hli hlc hfl
  go_enter Tryz.func87, Tryz.ntmps87
  go_upto_region 1 with fail
  unfold zeroL at hw1
  rw [← hw1, ← hr]
  clear hw1 hr
  refine wp_region_any (by kernel_rfl) ?_
  change wpAny _ _ _ _ _ _ _ (World.drew _)
  refine wpAny_of_held (S := fun w' => w'.cell? ⟨fl, 0, none⟩ = some (.pointer (some ⟨rb, 0, none⟩))) _ _ _ _ ?_
  obtain ⟨w2, hw2⟩ : ∃ w2, w2 = w1.drew := ⟨_, rfl⟩
  have B2 : Hid (Below w1.heap.size w1 w2) := Lib.hid (by rw [hw2]; exact (Below.refl _ _).drew)
  rw [← hw2]
  clear hw2
  have hHeld : (fun w' => w'.cell? ⟨fl, 0, none⟩ = some (.pointer (some ⟨rb, 0, none⟩))) w2 := (HFL.out.keep B2.out).cell 0
  refine tkh 0 (v := ?_) rfl ?_ ?_; rotate_left
  · intro w hSw; (try dsimp only at hSw); go_simp <;> with_reducible rfl
  try simp only [Act.put, pz]
  refine tkh 1 (v := ?_) rfl ?_ ?_; rotate_left
  · intro w hSw; (try dsimp only at hSw); go_simp <;> with_reducible rfl
  try simp only [Act.put, pz]
  refine tkh 2 (v := ?_) rfl ?_ ?_; rotate_left
  · intro w hSw; (try dsimp only at hSw); go_simp <;> with_reducible rfl
  try simp only [Act.put, pz]
  refine tkh 3 (v := ?_) rfl ?_ ?_; rotate_left
  · intro w hSw; have q0 := hSw; go_simp <;> with_reducible rfl
  try simp only [Act.put, pz]
  refine tkh 4 (v := ?_) rfl ?_ ?_; rotate_left
  · intro w hSw; (try dsimp only at hSw); go_simp <;> with_reducible rfl
  try simp only [Act.put, pz]
  refine tkh 5 (v := ?_) rfl ?_ ?_; rotate_left
  · intro w hSw; (try dsimp only at hSw); go_simp <;> with_reducible rfl
  try simp only [Act.put, pz]
  refine tkh 6 (v := ?_) rfl ?_ ?_; rotate_left
  · intro w hSw; (try dsimp only at hSw); go_simp <;> with_reducible rfl
  try simp only [Act.put, pz]
  refine tkh 7 (v := ?_) rfl ?_ ?_; rotate_left
  · intro w hSw; (try dsimp only at hSw); go_simp <;> with_reducible rfl
  try simp only [Act.put, pz]
  refine tkh 8 (v := ?_) rfl ?_ ?_; rotate_left
  · intro w hSw; have q0 := hSw; go_simp <;> with_reducible rfl
  try simp only [Act.put, pz]
  refine tkh 9 (v := ?_) rfl ?_ ?_; rotate_left
  · intro w hSw; (try dsimp only at hSw); go_simp <;> with_reducible rfl
  try simp only [Act.put, pz]
  refine tkh 10 (v := ?_) rfl ?_ ?_; rotate_left
  · intro w hSw; (try dsimp only at hSw); go_simp <;> with_reducible rfl
  try simp only [Act.put, pz]
  refine tkh 11 (v := ?_) rfl ?_ ?_; rotate_left
  · intro w hSw; (try dsimp only at hSw); go_simp <;> with_reducible rfl
  try simp only [Act.put, pz]
  refine tkh 12 (v := ?_) rfl ?_ ?_; rotate_left
  · intro w hSw; (try dsimp only at hSw); go_simp <;> with_reducible rfl
  try simp only [Act.put, pz]
  refine tkh 13 (v := ?_) rfl ?_ ?_; rotate_left
  · intro w hSw; have q0 := hSw; go_simp <;> with_reducible rfl
  try simp only [Act.put, pz]
  refine tkh 14 (v := ?_) rfl ?_ ?_; rotate_left
  · intro w hSw; (try dsimp only at hSw); go_simp <;> with_reducible rfl
  try simp only [Act.put, pz]
  refine tkh 15 (v := ?_) rfl ?_ ?_; rotate_left
  · intro w hSw; (try dsimp only at hSw); go_simp <;> with_reducible rfl
  try simp only [Act.put, pz]
  refine tkh 16 (v := ?_) rfl ?_ ?_; rotate_left
  · intro w hSw; (try dsimp only at hSw); go_simp <;> with_reducible rfl
  try simp only [Act.put, pz]
  refine tkh 17 (v := ?_) rfl ?_ ?_; rotate_left
  · intro w hSw; (try dsimp only at hSw); go_simp <;> with_reducible rfl
  try simp only [Act.put, pz]
  refine tkh 18 (v := ?_) rfl ?_ ?_; rotate_left
  · intro w hSw; have q0 := hSw; go_simp <;> with_reducible rfl
  try simp only [Act.put, pz]
  refine tkh 19 (v := ?_) rfl ?_ ?_; rotate_left
  · intro w hSw; (try dsimp only at hSw); go_simp <;> with_reducible rfl
  try simp only [Act.put, pz]
  refine tkh 20 (v := ?_) rfl ?_ ?_; rotate_left
  · intro w hSw; (try dsimp only at hSw); go_simp <;> with_reducible rfl
  try simp only [Act.put, pz]
  refine tkh 21 (v := ?_) rfl ?_ ?_; rotate_left
  · intro w hSw; (try dsimp only at hSw); go_simp <;> with_reducible rfl
  try simp only [Act.put, pz]
  refine tkh 22 (v := ?_) rfl ?_ ?_; rotate_left
  · intro w hSw; (try dsimp only at hSw); go_simp <;> with_reducible rfl
  try simp only [Act.put, pz]
  refine tkh 23 (v := ?_) rfl ?_ ?_; rotate_left
  · intro w hSw; have q0 := hSw; go_simp <;> with_reducible rfl
  try simp only [Act.put, pz]
  refine tkh 24 (v := ?_) rfl ?_ ?_; rotate_left
  · intro w hSw; (try dsimp only at hSw); go_simp <;> with_reducible rfl
  try simp only [Act.put, pz]
  refine tkh 27 (v := ?_) rfl ?_ ?_; rotate_left
  · intro w hSw; (try dsimp only at hSw); go_simp <;> with_reducible rfl
  try simp only [Act.put, pz]
  refine wpAnyH_ready (rs := [25]) (by kernel_rfl) (by simp) (AllReadyH.cons rfl (fun K hK => ?_) AllReadyH.nil)
  have hPrev := hHeld
  clear hHeld
  go_simp
  obtain ⟨w3, hw3⟩ : ∃ w3, w3 = w2.alloc (.cells #[.func (.func 125) #[.pointer (some ⟨rb, 0, none⟩)] #[], .func (.func 126) #[.pointer (some ⟨rb, 0, none⟩)] #[], .func (.func 127) #[.pointer (some ⟨rb, 0, none⟩)] #[], .func (.func 128) #[.pointer (some ⟨rb, 0, none⟩)] #[], .func (.func 129) #[.pointer (some ⟨rb, 0, none⟩)] #[]] 224) := ⟨_, rfl⟩
  obtain ⟨q, hq⟩ : ∃ q, q = w2.heap.size := ⟨_, rfl⟩
  have B3 : Hid (Below w1.heap.size w1 w3) := Lib.hid (by rw [hw3]; exact B2.out.alloc B2.out.size _)
  have KQ : Hid (Blk w3 q 224 #[.func (.func 125) #[.pointer (some ⟨rb, 0, none⟩)] #[], .func (.func 126) #[.pointer (some ⟨rb, 0, none⟩)] #[], .func (.func 127) #[.pointer (some ⟨rb, 0, none⟩)] #[], .func (.func 128) #[.pointer (some ⟨rb, 0, none⟩)] #[], .func (.func 129) #[.pointer (some ⟨rb, 0, none⟩)] #[]]) := Lib.hid (by rw [hw3]; exact Blk.new w2 _ _ hq)
  rw [← hw3, ← hq]
  clear hw3 hq
  refine hK.out _ _ ((HFL.out.keep B3.out).cell 0) (fun hHeld => ?_)
  clear hK K hPrev
  try simp only [Act.put, pz]
  refine tkh 26 (v := ?_) rfl ?_ ?_; rotate_left
  · intro w hSw; (try dsimp only at hSw); go_simp <;> with_reducible rfl
  try simp only [Act.put, pz]
  refine wpAnyH_done (by kernel_rfl) ?_ _
  have L0 : Hid (LoopF W C c rb r q k f S I R 0 w3) := Lib.hid ⟨Q1.out.below B3.out, K1.out.keep B3.out, KQ.out, by unfold NotYet; exact ⟨fun h => by omega, fun h => by omega, fun h => by omega, fun h => by omega, fun h => by omega⟩⟩
  clear hHeld B2 B3 KQ HFL Q1 K1 B1
  go_wp2_with fail
  go_loopw [38] (fun jv w => ∃ j : Nat, j ≤ 5 ∧ jv = .int .i64 (j : Int) ∧ Hid (LoopF W C c rb r q k f S I R j w)) (fun jv _ => 5 - (intOf jv).toNat)
  case atStart => exact ⟨0, by omega, rfl, L0⟩
  case round =>
    clear L0
    obtain ⟨j, hj, rfl, LJ⟩ := hrel
    obtain ⟨C6, hC6, hn6, hs6, hb6⟩ := LJ.out.1.1.only
    have HC6 := Lib.hid (And.intro (hn6 r _ _ LJ.out.2.1 (by decide) (by decide) (by decide)) (And.intro (hn6 q _ _ LJ.out.2.2.1 (by decide) (by decide) (by decide)) hb6))
    have HD6 : Hid (Stay wr C6 c D) := Lib.hid ((HD.out.next LJ.out.1.2).only hs6)
    have HR6 := Lib.hid hC6
    have HNY := Lib.hid LJ.out.2.2.2
    clear hC6 hn6 hs6 hb6
    rcases (by omega : j = 0 ∨ j = 1 ∨ j = 2 ∨ j = 3 ∨ j = 4 ∨ j = 5) with rfl | rfl | rfl | rfl | rfl | rfl
    · by_cases hc : f.ino = 0
      · cases hn : nextB (S k.nm) f
        case false =>
          have hx := Lib.hid (And.intro hc hn)
          clear hc hn
          have CT := Lib.hid (fw_idle_none HR6.out HA.out HD6.out hx.out.1 hx.out.2)
          have c0 : wr.cell? ⟨q, 0, none⟩ = some (.func (.func 125) #[.pointer (some ⟨rb, 0, none⟩)] #[]) := LJ.out.2.2.1.cell 0
          go_wp2_with fail
          refine CT.out.mono ?_
          rintro e w5 ⟨rfl, hq5⟩
          have QW5 : Hid (FwQ W C c rb k (f) w5) := Lib.hid (LJ.out.1.trans (HC6.out.2.2 _ _ hq5))
          have KR5 : Hid (Blk w5 r 170 zeroL) := Lib.hid (LJ.out.2.1.chg hq5.2 HC6.out.1)
          have KQ5 : Hid (Blk w5 q 224 #[.func (.func 125) #[.pointer (some ⟨rb, 0, none⟩)] #[], .func (.func 126) #[.pointer (some ⟨rb, 0, none⟩)] #[], .func (.func 127) #[.pointer (some ⟨rb, 0, none⟩)] #[], .func (.func 128) #[.pointer (some ⟨rb, 0, none⟩)] #[], .func (.func 129) #[.pointer (some ⟨rb, 0, none⟩)] #[]]) := Lib.hid (LJ.out.2.2.1.chg hq5.2 HC6.out.2.1)
          clear hq5 CT c0
          simp only
          obtain ⟨w6, hw6⟩ : ∃ w6, w6 = w5.alloc (.cells zeroL 170) := ⟨_, rfl⟩
          obtain ⟨g, hg⟩ : ∃ g, g = w5.heap.size := ⟨_, rfl⟩
          have KG : Hid (Blk w6 g 170 zeroL) := Lib.hid (by rw [hw6]; exact Blk.new w5 _ _ hg)
          have QW : Hid (FwQ W C c rb k (f) w6) := Lib.hid (by rw [hw6]; exact QW5.out.below ((Below.refl _ _).alloc (Nat.le_refl _) _))
          have KR : Hid (Blk w6 r 170 zeroL) := Lib.hid (by rw [hw6]; exact KR5.out.alloc _)
          have KQ : Hid (Blk w6 q 224 #[.func (.func 125) #[.pointer (some ⟨rb, 0, none⟩)] #[], .func (.func 126) #[.pointer (some ⟨rb, 0, none⟩)] #[], .func (.func 127) #[.pointer (some ⟨rb, 0, none⟩)] #[], .func (.func 128) #[.pointer (some ⟨rb, 0, none⟩)] #[], .func (.func 129) #[.pointer (some ⟨rb, 0, none⟩)] #[]]) := Lib.hid (by rw [hw6]; exact KQ5.out.alloc _)
          have HGR : Hid (g ≠ r) := Lib.hid (by have := KR5.out.lt; omega)
          unfold zeroL at hw6 ⊢
          go_upto_region 5 with fail
          rw [← hw6, ← hg]
          clear hw6 hg QW5 KR5 KQ5
          go_upto_region 9 with fail
          obtain ⟨z0, z1, z2, z3, z4, z5, z6, z7, z8, z9⟩ := KR.out.zc
          obtain ⟨zg0, zg1, zg2, zg3, zg4, zg5, zg6, zg7, zg8, zg9⟩ := KR.out.zf
          obtain ⟨wz, hwz⟩ : ∃ wz, wz = setZ w6 r := ⟨_, rfl⟩
          have KZ : Hid (Blk wz r 170 zeroL) := Lib.hid (by rw [hwz]; exact (KR.out.line0).1)
          have BZ : Hid (Chg (fun b => b = r) w6 wz) := Lib.hid (by rw [hwz]; exact (KR.out.line0).2)
          have QZ : Hid (FwQ W C c rb k (f) wz) := Lib.hid (QW.out.far HR.out KR.out BZ.out)
          go_wp2_with fail
          unfold setZ at hwz
          rw [← hwz]
          clear hwz
          refine bodyPost_ret (v := .tuple #[.agg zeroL, .bool false]) (ret_line2 rfl rfl rfl KZ.out rfl) rfl ?_
          have HV : stepF S I R k f = (f, none) := by
            have hny := HNY.out
            unfold NotYet at hny
            unfold stepF
            rw [if_pos hx.out.1, if_neg (by rw [hx.out.2]; decide)]
          rw [HV]
          exact ⟨rfl, QZ.out⟩
        case true =>
          have hx := Lib.hid (And.intro hc hn)
          clear hc hn
          have CT := Lib.hid (fw_idle_next HR6.out HA.out HD6.out HO.out HF.out hx.out.1 hx.out.2)
          have c0 : wr.cell? ⟨q, 0, none⟩ = some (.func (.func 125) #[.pointer (some ⟨rb, 0, none⟩)] #[]) := LJ.out.2.2.1.cell 0
          go_wp2_with fail
          refine CT.out.mono ?_
          rintro e w5 ⟨rfl, hq5⟩
          have QW5 : Hid (FwQ W C c rb k (f.takeUp (S k.nm)) w5) := Lib.hid (LJ.out.1.trans (HC6.out.2.2 _ _ hq5))
          have KR5 : Hid (Blk w5 r 170 zeroL) := Lib.hid (LJ.out.2.1.chg hq5.2 HC6.out.1)
          have KQ5 : Hid (Blk w5 q 224 #[.func (.func 125) #[.pointer (some ⟨rb, 0, none⟩)] #[], .func (.func 126) #[.pointer (some ⟨rb, 0, none⟩)] #[], .func (.func 127) #[.pointer (some ⟨rb, 0, none⟩)] #[], .func (.func 128) #[.pointer (some ⟨rb, 0, none⟩)] #[], .func (.func 129) #[.pointer (some ⟨rb, 0, none⟩)] #[]]) := Lib.hid (LJ.out.2.2.1.chg hq5.2 HC6.out.2.1)
          clear hq5 CT c0
          simp only
          obtain ⟨w6, hw6⟩ : ∃ w6, w6 = w5.alloc (.cells zeroL 170) := ⟨_, rfl⟩
          obtain ⟨g, hg⟩ : ∃ g, g = w5.heap.size := ⟨_, rfl⟩
          have KG : Hid (Blk w6 g 170 zeroL) := Lib.hid (by rw [hw6]; exact Blk.new w5 _ _ hg)
          have QW : Hid (FwQ W C c rb k (f.takeUp (S k.nm)) w6) := Lib.hid (by rw [hw6]; exact QW5.out.below ((Below.refl _ _).alloc (Nat.le_refl _) _))
          have KR : Hid (Blk w6 r 170 zeroL) := Lib.hid (by rw [hw6]; exact KR5.out.alloc _)
          have KQ : Hid (Blk w6 q 224 #[.func (.func 125) #[.pointer (some ⟨rb, 0, none⟩)] #[], .func (.func 126) #[.pointer (some ⟨rb, 0, none⟩)] #[], .func (.func 127) #[.pointer (some ⟨rb, 0, none⟩)] #[], .func (.func 128) #[.pointer (some ⟨rb, 0, none⟩)] #[], .func (.func 129) #[.pointer (some ⟨rb, 0, none⟩)] #[]]) := Lib.hid (by rw [hw6]; exact KQ5.out.alloc _)
          have HGR : Hid (g ≠ r) := Lib.hid (by have := KR5.out.lt; omega)
          unfold zeroL at hw6 ⊢
          go_upto_region 5 with fail
          rw [← hw6, ← hg]
          clear hw6 hg QW5 KR5 KQ5
          go_upto_region 9 with fail
          obtain ⟨z0, z1, z2, z3, z4, z5, z6, z7, z8, z9⟩ := KR.out.zc
          obtain ⟨zg0, zg1, zg2, zg3, zg4, zg5, zg6, zg7, zg8, zg9⟩ := KR.out.zf
          obtain ⟨wz, hwz⟩ : ∃ wz, wz = setZ w6 r := ⟨_, rfl⟩
          have KZ : Hid (Blk wz r 170 zeroL) := Lib.hid (by rw [hwz]; exact (KR.out.line0).1)
          have BZ : Hid (Chg (fun b => b = r) w6 wz) := Lib.hid (by rw [hwz]; exact (KR.out.line0).2)
          have QZ : Hid (FwQ W C c rb k (f.takeUp (S k.nm)) wz) := Lib.hid (QW.out.far HR.out KR.out BZ.out)
          go_wp2_with fail
          unfold setZ at hwz
          rw [← hwz]
          clear hwz
          refine bodyPost_ret (v := .tuple #[.agg zeroL, .bool false]) (ret_line2 rfl rfl rfl KZ.out rfl) rfl ?_
          have HV : stepF S I R k f = (f.takeUp (S k.nm), none) := by
            have hny := HNY.out
            unfold NotYet at hny
            unfold stepF
            rw [if_pos hx.out.1, if_pos hx.out.2]
          rw [HV]
          exact ⟨rfl, QZ.out⟩
      · have hx := Lib.hid hc
        clear hc
        have CT := Lib.hid (fw_idle_no HR6.out HA.out HD6.out hx.out)
        have c0 : wr.cell? ⟨q, 0, none⟩ = some (.func (.func 125) #[.pointer (some ⟨rb, 0, none⟩)] #[]) := LJ.out.2.2.1.cell 0
        go_wp2_with fail
        refine CT.out.mono ?_
        rintro e w5 ⟨rfl, hq5⟩
        have QW5 : Hid (FwQ W C c rb k (f) w5) := Lib.hid (LJ.out.1.trans (HC6.out.2.2 _ _ hq5))
        have KR5 : Hid (Blk w5 r 170 zeroL) := Lib.hid (LJ.out.2.1.chg hq5.2 HC6.out.1)
        have KQ5 : Hid (Blk w5 q 224 #[.func (.func 125) #[.pointer (some ⟨rb, 0, none⟩)] #[], .func (.func 126) #[.pointer (some ⟨rb, 0, none⟩)] #[], .func (.func 127) #[.pointer (some ⟨rb, 0, none⟩)] #[], .func (.func 128) #[.pointer (some ⟨rb, 0, none⟩)] #[], .func (.func 129) #[.pointer (some ⟨rb, 0, none⟩)] #[]]) := Lib.hid (LJ.out.2.2.1.chg hq5.2 HC6.out.2.1)
        clear hq5 CT c0
        simp only
        obtain ⟨w6, hw6⟩ : ∃ w6, w6 = w5.alloc (.cells zeroL 170) := ⟨_, rfl⟩
        obtain ⟨g, hg⟩ : ∃ g, g = w5.heap.size := ⟨_, rfl⟩
        have KG : Hid (Blk w6 g 170 zeroL) := Lib.hid (by rw [hw6]; exact Blk.new w5 _ _ hg)
        have QW : Hid (FwQ W C c rb k (f) w6) := Lib.hid (by rw [hw6]; exact QW5.out.below ((Below.refl _ _).alloc (Nat.le_refl _) _))
        have KR : Hid (Blk w6 r 170 zeroL) := Lib.hid (by rw [hw6]; exact KR5.out.alloc _)
        have KQ : Hid (Blk w6 q 224 #[.func (.func 125) #[.pointer (some ⟨rb, 0, none⟩)] #[], .func (.func 126) #[.pointer (some ⟨rb, 0, none⟩)] #[], .func (.func 127) #[.pointer (some ⟨rb, 0, none⟩)] #[], .func (.func 128) #[.pointer (some ⟨rb, 0, none⟩)] #[], .func (.func 129) #[.pointer (some ⟨rb, 0, none⟩)] #[]]) := Lib.hid (by rw [hw6]; exact KQ5.out.alloc _)
        have HGR : Hid (g ≠ r) := Lib.hid (by have := KR5.out.lt; omega)
        unfold zeroL at hw6 ⊢
        go_upto_region 5 with fail
        rw [← hw6, ← hg]
        clear hw6 hg QW5 KR5 KQ5
        have LN1 : Hid (LoopF W C c rb r q k f S I R 1 w6) := Lib.hid ⟨QW.out, KR.out, KQ.out, by
          have hny := HNY.out
          unfold NotYet at hny ⊢
          exact ⟨fun h => by first | exact hny.1 (by omega) | exact hx.out, fun h => by first | exact hny.2.1 (by omega) | exact hx.out | omega, fun h => by first | exact hny.2.2.1 (by omega) | exact hx.out | omega, fun h => by first | exact hny.2.2.2.1 (by omega) | exact hx.out | omega, fun h => by first | exact hny.2.2.2.2 (by omega) | exact hx.out | omega⟩⟩
        go_wp2_with fail
        go_roundw
        case rel => exact ⟨1, by omega, by simp, LN1⟩
        case measure => simp [intOf]
    · by_cases hc : (I f.ino).2.2.2.2 = 0
      · have hx := Lib.hid hc
        clear hc
        have CT := Lib.hid (fw_ended_no HR6.out HA.out HD6.out HF.out hx.out)
        have c0 : wr.cell? ⟨q, 1, none⟩ = some (.func (.func 126) #[.pointer (some ⟨rb, 0, none⟩)] #[]) := LJ.out.2.2.1.cell 1
        go_wp2_with fail
        refine CT.out.mono ?_
        rintro e w5 ⟨rfl, hq5⟩
        have QW5 : Hid (FwQ W C c rb k (f) w5) := Lib.hid (LJ.out.1.trans (HC6.out.2.2 _ _ hq5))
        have KR5 : Hid (Blk w5 r 170 zeroL) := Lib.hid (LJ.out.2.1.chg hq5.2 HC6.out.1)
        have KQ5 : Hid (Blk w5 q 224 #[.func (.func 125) #[.pointer (some ⟨rb, 0, none⟩)] #[], .func (.func 126) #[.pointer (some ⟨rb, 0, none⟩)] #[], .func (.func 127) #[.pointer (some ⟨rb, 0, none⟩)] #[], .func (.func 128) #[.pointer (some ⟨rb, 0, none⟩)] #[], .func (.func 129) #[.pointer (some ⟨rb, 0, none⟩)] #[]]) := Lib.hid (LJ.out.2.2.1.chg hq5.2 HC6.out.2.1)
        clear hq5 CT c0
        simp only
        obtain ⟨w6, hw6⟩ : ∃ w6, w6 = w5.alloc (.cells zeroL 170) := ⟨_, rfl⟩
        obtain ⟨g, hg⟩ : ∃ g, g = w5.heap.size := ⟨_, rfl⟩
        have KG : Hid (Blk w6 g 170 zeroL) := Lib.hid (by rw [hw6]; exact Blk.new w5 _ _ hg)
        have QW : Hid (FwQ W C c rb k (f) w6) := Lib.hid (by rw [hw6]; exact QW5.out.below ((Below.refl _ _).alloc (Nat.le_refl _) _))
        have KR : Hid (Blk w6 r 170 zeroL) := Lib.hid (by rw [hw6]; exact KR5.out.alloc _)
        have KQ : Hid (Blk w6 q 224 #[.func (.func 125) #[.pointer (some ⟨rb, 0, none⟩)] #[], .func (.func 126) #[.pointer (some ⟨rb, 0, none⟩)] #[], .func (.func 127) #[.pointer (some ⟨rb, 0, none⟩)] #[], .func (.func 128) #[.pointer (some ⟨rb, 0, none⟩)] #[], .func (.func 129) #[.pointer (some ⟨rb, 0, none⟩)] #[]]) := Lib.hid (by rw [hw6]; exact KQ5.out.alloc _)
        have HGR : Hid (g ≠ r) := Lib.hid (by have := KR5.out.lt; omega)
        unfold zeroL at hw6 ⊢
        go_upto_region 5 with fail
        rw [← hw6, ← hg]
        clear hw6 hg QW5 KR5 KQ5
        have LN1 : Hid (LoopF W C c rb r q k f S I R 2 w6) := Lib.hid ⟨QW.out, KR.out, KQ.out, by
          have hny := HNY.out
          unfold NotYet at hny ⊢
          exact ⟨fun h => by first | exact hny.1 (by omega) | exact hx.out, fun h => by first | exact hny.2.1 (by omega) | exact hx.out | omega, fun h => by first | exact hny.2.2.1 (by omega) | exact hx.out | omega, fun h => by first | exact hny.2.2.2.1 (by omega) | exact hx.out | omega, fun h => by first | exact hny.2.2.2.2 (by omega) | exact hx.out | omega⟩⟩
        go_wp2_with fail
        go_roundw
        case rel => exact ⟨2, by omega, by simp, LN1⟩
        case measure => simp [intOf]
      · have hx := Lib.hid hc
        clear hc
        have CT := Lib.hid (fw_ended_yes HR6.out HA.out HD6.out HF.out hx.out)
        have c0 : wr.cell? ⟨q, 1, none⟩ = some (.func (.func 126) #[.pointer (some ⟨rb, 0, none⟩)] #[]) := LJ.out.2.2.1.cell 1
        go_wp2_with fail
        refine CT.out.mono ?_
        rintro e w5 ⟨rfl, hq5⟩
        have QW5 : Hid (FwQ W C c rb k (f.gone) w5) := Lib.hid (LJ.out.1.trans (HC6.out.2.2 _ _ hq5))
        have KR5 : Hid (Blk w5 r 170 zeroL) := Lib.hid (LJ.out.2.1.chg hq5.2 HC6.out.1)
        have KQ5 : Hid (Blk w5 q 224 #[.func (.func 125) #[.pointer (some ⟨rb, 0, none⟩)] #[], .func (.func 126) #[.pointer (some ⟨rb, 0, none⟩)] #[], .func (.func 127) #[.pointer (some ⟨rb, 0, none⟩)] #[], .func (.func 128) #[.pointer (some ⟨rb, 0, none⟩)] #[], .func (.func 129) #[.pointer (some ⟨rb, 0, none⟩)] #[]]) := Lib.hid (LJ.out.2.2.1.chg hq5.2 HC6.out.2.1)
        clear hq5 CT c0
        simp only
        obtain ⟨w6, hw6⟩ : ∃ w6, w6 = w5.alloc (.cells zeroL 170) := ⟨_, rfl⟩
        obtain ⟨g, hg⟩ : ∃ g, g = w5.heap.size := ⟨_, rfl⟩
        have KG : Hid (Blk w6 g 170 zeroL) := Lib.hid (by rw [hw6]; exact Blk.new w5 _ _ hg)
        have QW : Hid (FwQ W C c rb k (f.gone) w6) := Lib.hid (by rw [hw6]; exact QW5.out.below ((Below.refl _ _).alloc (Nat.le_refl _) _))
        have KR : Hid (Blk w6 r 170 zeroL) := Lib.hid (by rw [hw6]; exact KR5.out.alloc _)
        have KQ : Hid (Blk w6 q 224 #[.func (.func 125) #[.pointer (some ⟨rb, 0, none⟩)] #[], .func (.func 126) #[.pointer (some ⟨rb, 0, none⟩)] #[], .func (.func 127) #[.pointer (some ⟨rb, 0, none⟩)] #[], .func (.func 128) #[.pointer (some ⟨rb, 0, none⟩)] #[], .func (.func 129) #[.pointer (some ⟨rb, 0, none⟩)] #[]]) := Lib.hid (by rw [hw6]; exact KQ5.out.alloc _)
        have HGR : Hid (g ≠ r) := Lib.hid (by have := KR5.out.lt; omega)
        unfold zeroL at hw6 ⊢
        go_upto_region 5 with fail
        rw [← hw6, ← hg]
        clear hw6 hg QW5 KR5 KQ5
        go_upto_region 9 with fail
        obtain ⟨z0, z1, z2, z3, z4, z5, z6, z7, z8, z9⟩ := KR.out.zc
        obtain ⟨zg0, zg1, zg2, zg3, zg4, zg5, zg6, zg7, zg8, zg9⟩ := KR.out.zf
        obtain ⟨wz, hwz⟩ : ∃ wz, wz = setZ w6 r := ⟨_, rfl⟩
        have KZ : Hid (Blk wz r 170 zeroL) := Lib.hid (by rw [hwz]; exact (KR.out.line0).1)
        have BZ : Hid (Chg (fun b => b = r) w6 wz) := Lib.hid (by rw [hwz]; exact (KR.out.line0).2)
        have QZ : Hid (FwQ W C c rb k (f.gone) wz) := Lib.hid (QW.out.far HR.out KR.out BZ.out)
        go_wp2_with fail
        unfold setZ at hwz
        rw [← hwz]
        clear hwz
        refine bodyPost_ret (v := .tuple #[.agg zeroL, .bool false]) (ret_line2 rfl rfl rfl KZ.out rfl) rfl ?_
        have HV : stepF S I R k f = (f.gone, none) := by
          have hny := HNY.out
          unfold NotYet at hny
          unfold stepF
          rw [if_neg (hny.1 (by omega)), if_pos hx.out]
        rw [HV]
        exact ⟨rfl, QZ.out⟩
    · by_cases hc : (I f.ino).2.2.1 = f.ge
      · have hx := Lib.hid hc
        clear hc
        have CT := Lib.hid (fw_cut_no HR6.out HA.out HD6.out HF.out hx.out)
        have c0 : wr.cell? ⟨q, 2, none⟩ = some (.func (.func 127) #[.pointer (some ⟨rb, 0, none⟩)] #[]) := LJ.out.2.2.1.cell 2
        go_wp2_with fail
        refine CT.out.mono ?_
        rintro e w5 ⟨rfl, hq5⟩
        have QW5 : Hid (FwQ W C c rb k (f) w5) := Lib.hid (LJ.out.1.trans (HC6.out.2.2 _ _ hq5))
        have KR5 : Hid (Blk w5 r 170 zeroL) := Lib.hid (LJ.out.2.1.chg hq5.2 HC6.out.1)
        have KQ5 : Hid (Blk w5 q 224 #[.func (.func 125) #[.pointer (some ⟨rb, 0, none⟩)] #[], .func (.func 126) #[.pointer (some ⟨rb, 0, none⟩)] #[], .func (.func 127) #[.pointer (some ⟨rb, 0, none⟩)] #[], .func (.func 128) #[.pointer (some ⟨rb, 0, none⟩)] #[], .func (.func 129) #[.pointer (some ⟨rb, 0, none⟩)] #[]]) := Lib.hid (LJ.out.2.2.1.chg hq5.2 HC6.out.2.1)
        clear hq5 CT c0
        simp only
        obtain ⟨w6, hw6⟩ : ∃ w6, w6 = w5.alloc (.cells zeroL 170) := ⟨_, rfl⟩
        obtain ⟨g, hg⟩ : ∃ g, g = w5.heap.size := ⟨_, rfl⟩
        have KG : Hid (Blk w6 g 170 zeroL) := Lib.hid (by rw [hw6]; exact Blk.new w5 _ _ hg)
        have QW : Hid (FwQ W C c rb k (f) w6) := Lib.hid (by rw [hw6]; exact QW5.out.below ((Below.refl _ _).alloc (Nat.le_refl _) _))
        have KR : Hid (Blk w6 r 170 zeroL) := Lib.hid (by rw [hw6]; exact KR5.out.alloc _)
        have KQ : Hid (Blk w6 q 224 #[.func (.func 125) #[.pointer (some ⟨rb, 0, none⟩)] #[], .func (.func 126) #[.pointer (some ⟨rb, 0, none⟩)] #[], .func (.func 127) #[.pointer (some ⟨rb, 0, none⟩)] #[], .func (.func 128) #[.pointer (some ⟨rb, 0, none⟩)] #[], .func (.func 129) #[.pointer (some ⟨rb, 0, none⟩)] #[]]) := Lib.hid (by rw [hw6]; exact KQ5.out.alloc _)
        have HGR : Hid (g ≠ r) := Lib.hid (by have := KR5.out.lt; omega)
        unfold zeroL at hw6 ⊢
        go_upto_region 5 with fail
        rw [← hw6, ← hg]
        clear hw6 hg QW5 KR5 KQ5
        have LN1 : Hid (LoopF W C c rb r q k f S I R 3 w6) := Lib.hid ⟨QW.out, KR.out, KQ.out, by
          have hny := HNY.out
          unfold NotYet at hny ⊢
          exact ⟨fun h => by first | exact hny.1 (by omega) | exact hx.out, fun h => by first | exact hny.2.1 (by omega) | exact hx.out | omega, fun h => by first | exact hny.2.2.1 (by omega) | exact hx.out | omega, fun h => by first | exact hny.2.2.2.1 (by omega) | exact hx.out | omega, fun h => by first | exact hny.2.2.2.2 (by omega) | exact hx.out | omega⟩⟩
        go_wp2_with fail
        go_roundw
        case rel => exact ⟨3, by omega, by simp, LN1⟩
        case measure => simp [intOf]
      · have hx := Lib.hid hc
        clear hc
        have CT := Lib.hid (fw_cut_yes HR6.out HA.out HD6.out HO.out HF.out hx.out)
        have c0 : wr.cell? ⟨q, 2, none⟩ = some (.func (.func 127) #[.pointer (some ⟨rb, 0, none⟩)] #[]) := LJ.out.2.2.1.cell 2
        go_wp2_with fail
        refine CT.out.mono ?_
        rintro e w5 ⟨rfl, hq5⟩
        have QW5 : Hid (FwQ W C c rb k (f.cutF (I f.ino).2.2.1) w5) := Lib.hid (LJ.out.1.trans (HC6.out.2.2 _ _ hq5))
        have KR5 : Hid (Blk w5 r 170 zeroL) := Lib.hid (LJ.out.2.1.chg hq5.2 HC6.out.1)
        have KQ5 : Hid (Blk w5 q 224 #[.func (.func 125) #[.pointer (some ⟨rb, 0, none⟩)] #[], .func (.func 126) #[.pointer (some ⟨rb, 0, none⟩)] #[], .func (.func 127) #[.pointer (some ⟨rb, 0, none⟩)] #[], .func (.func 128) #[.pointer (some ⟨rb, 0, none⟩)] #[], .func (.func 129) #[.pointer (some ⟨rb, 0, none⟩)] #[]]) := Lib.hid (LJ.out.2.2.1.chg hq5.2 HC6.out.2.1)
        clear hq5 CT c0
        simp only
        obtain ⟨w6, hw6⟩ : ∃ w6, w6 = w5.alloc (.cells zeroL 170) := ⟨_, rfl⟩
        obtain ⟨g, hg⟩ : ∃ g, g = w5.heap.size := ⟨_, rfl⟩
        have KG : Hid (Blk w6 g 170 zeroL) := Lib.hid (by rw [hw6]; exact Blk.new w5 _ _ hg)
        have QW : Hid (FwQ W C c rb k (f.cutF (I f.ino).2.2.1) w6) := Lib.hid (by rw [hw6]; exact QW5.out.below ((Below.refl _ _).alloc (Nat.le_refl _) _))
        have KR : Hid (Blk w6 r 170 zeroL) := Lib.hid (by rw [hw6]; exact KR5.out.alloc _)
        have KQ : Hid (Blk w6 q 224 #[.func (.func 125) #[.pointer (some ⟨rb, 0, none⟩)] #[], .func (.func 126) #[.pointer (some ⟨rb, 0, none⟩)] #[], .func (.func 127) #[.pointer (some ⟨rb, 0, none⟩)] #[], .func (.func 128) #[.pointer (some ⟨rb, 0, none⟩)] #[], .func (.func 129) #[.pointer (some ⟨rb, 0, none⟩)] #[]]) := Lib.hid (by rw [hw6]; exact KQ5.out.alloc _)
        have HGR : Hid (g ≠ r) := Lib.hid (by have := KR5.out.lt; omega)
        unfold zeroL at hw6 ⊢
        go_upto_region 5 with fail
        rw [← hw6, ← hg]
        clear hw6 hg QW5 KR5 KQ5
        go_upto_region 9 with fail
        obtain ⟨z0, z1, z2, z3, z4, z5, z6, z7, z8, z9⟩ := KR.out.zc
        obtain ⟨zg0, zg1, zg2, zg3, zg4, zg5, zg6, zg7, zg8, zg9⟩ := KR.out.zf
        obtain ⟨wz, hwz⟩ : ∃ wz, wz = setZ w6 r := ⟨_, rfl⟩
        have KZ : Hid (Blk wz r 170 zeroL) := Lib.hid (by rw [hwz]; exact (KR.out.line0).1)
        have BZ : Hid (Chg (fun b => b = r) w6 wz) := Lib.hid (by rw [hwz]; exact (KR.out.line0).2)
        have QZ : Hid (FwQ W C c rb k (f.cutF (I f.ino).2.2.1) wz) := Lib.hid (QW.out.far HR.out KR.out BZ.out)
        go_wp2_with fail
        unfold setZ at hwz
        rw [← hwz]
        clear hwz
        refine bodyPost_ret (v := .tuple #[.agg zeroL, .bool false]) (ret_line2 rfl rfl rfl KZ.out rfl) rfl ?_
        have HV : stepF S I R k f = (f.cutF (I f.ino).2.2.1, none) := by
          have hny := HNY.out
          unfold NotYet at hny
          unfold stepF
          rw [if_neg (hny.1 (by omega)), if_neg (fun e => e (hny.2.1 (by omega))), if_pos hx.out]
        rw [HV]
        exact ⟨rfl, QZ.out⟩
    · by_cases hc : (R f.ino f.ge (f.off + (f.u.length : Int)) k.ch).2 = 0 ∧ (R f.ino f.ge (f.off + (f.u.length : Int)) k.ch).1 ≠ []
      · have hx := Lib.hid hc
        clear hc
        have CT0 := Lib.hid (fw_read_yes HR6.out HA.out HD6.out HO.out HF.out HP.out.1 HP.out.2.1 HP.out.2.2.1 HP.out.2.2.2 hx.out)
        obtain ⟨l, hl⟩ : ∃ l, l = (R f.ino f.ge (f.off + (f.u.length : Int)) k.ch).1 := ⟨_, rfl⟩
        rw [← hl] at CT0
        have HLL := Lib.hid hl
        clear hl
        cases hw : feedW k.line f.u l
        case false =>
          rw [hw] at CT0
          have HW := Lib.hid hw
          clear hw
          obtain ⟨tx, htx⟩ : ∃ tx, tx = strOf (feedS k.line f.u l) := ⟨_, rfl⟩
          rw [← htx] at CT0
          have HTX := Lib.hid htx
          clear htx
          have CT := Lib.hid (CT0.out)
          have c0 : wr.cell? ⟨q, 3, none⟩ = some (.func (.func 128) #[.pointer (some ⟨rb, 0, none⟩)] #[]) := LJ.out.2.2.1.cell 3
          go_wp2_with fail
          refine CT.out.mono ?_
          rintro e w5 ⟨rfl, hq5⟩
          have QW5 : Hid (FwQ W C c rb k (f.readF k.line l) w5) := Lib.hid (LJ.out.1.trans (HC6.out.2.2 _ _ hq5))
          have KR5 : Hid (Blk w5 r 170 zeroL) := Lib.hid (LJ.out.2.1.chg hq5.2 HC6.out.1)
          have KQ5 : Hid (Blk w5 q 224 #[.func (.func 125) #[.pointer (some ⟨rb, 0, none⟩)] #[], .func (.func 126) #[.pointer (some ⟨rb, 0, none⟩)] #[], .func (.func 127) #[.pointer (some ⟨rb, 0, none⟩)] #[], .func (.func 128) #[.pointer (some ⟨rb, 0, none⟩)] #[], .func (.func 129) #[.pointer (some ⟨rb, 0, none⟩)] #[]]) := Lib.hid (LJ.out.2.2.1.chg hq5.2 HC6.out.2.1)
          clear hq5 CT c0
          simp only
          obtain ⟨w6, hw6⟩ : ∃ w6, w6 = w5.alloc (.cells (lineA f tx) 170) := ⟨_, rfl⟩
          obtain ⟨g, hg⟩ : ∃ g, g = w5.heap.size := ⟨_, rfl⟩
          have KG : Hid (Blk w6 g 170 (lineA f tx)) := Lib.hid (by rw [hw6]; exact Blk.new w5 _ _ hg)
          have QW : Hid (FwQ W C c rb k (f.readF k.line l) w6) := Lib.hid (by rw [hw6]; exact QW5.out.below ((Below.refl _ _).alloc (Nat.le_refl _) _))
          have KR : Hid (Blk w6 r 170 zeroL) := Lib.hid (by rw [hw6]; exact KR5.out.alloc _)
          have KQ : Hid (Blk w6 q 224 #[.func (.func 125) #[.pointer (some ⟨rb, 0, none⟩)] #[], .func (.func 126) #[.pointer (some ⟨rb, 0, none⟩)] #[], .func (.func 127) #[.pointer (some ⟨rb, 0, none⟩)] #[], .func (.func 128) #[.pointer (some ⟨rb, 0, none⟩)] #[], .func (.func 129) #[.pointer (some ⟨rb, 0, none⟩)] #[]]) := Lib.hid (by rw [hw6]; exact KQ5.out.alloc _)
          have HGR : Hid (g ≠ r) := Lib.hid (by have := KR5.out.lt; omega)
          unfold lineA at hw6 ⊢
          go_upto_region 5 with fail
          rw [← hw6, ← hg]
          clear hw6 hg QW5 KR5 KQ5
          go_upto_region 9 with fail
          obtain ⟨z0, z1, z2, z3, z4, z5, z6, z7, z8, z9⟩ := KR.out.zc
          obtain ⟨zg0, zg1, zg2, zg3, zg4, zg5, zg6, zg7, zg8, zg9⟩ := KR.out.zf
          obtain ⟨wz, hwz⟩ : ∃ wz, wz = setZ w6 r := ⟨_, rfl⟩
          have KZ : Hid (Blk wz r 170 zeroL) := Lib.hid (by rw [hwz]; exact (KR.out.line0).1)
          have BZ : Hid (Chg (fun b => b = r) w6 wz) := Lib.hid (by rw [hwz]; exact (KR.out.line0).2)
          have QZ : Hid (FwQ W C c rb k (f.readF k.line l) wz) := Lib.hid (QW.out.far HR.out KR.out BZ.out)
          go_wp2_with fail
          unfold setZ at hwz
          rw [← hwz]
          clear hwz
          refine bodyPost_ret (v := .tuple #[.agg zeroL, .bool false]) (ret_line2 rfl rfl rfl KZ.out rfl) rfl ?_
          have HV : stepF S I R k f = (f.readF k.line l, none) := by
            have hny := HNY.out
            unfold NotYet at hny
            unfold stepF
            rw [if_neg (hny.1 (by omega)), if_neg (fun e => e (hny.2.1 (by omega))), if_neg (fun e => e (hny.2.2.1 (by omega))), if_pos hx.out, ← HLL.out, HW.out]; rfl
          rw [HV]
          exact ⟨rfl, QZ.out⟩
        case true =>
          rw [hw] at CT0
          have HW := Lib.hid hw
          clear hw
          obtain ⟨tx, htx⟩ : ∃ tx, tx = strOf (feedS k.line f.u l) := ⟨_, rfl⟩
          rw [← htx] at CT0
          have HTX := Lib.hid htx
          clear htx
          have CT := Lib.hid (CT0.out)
          have c0 : wr.cell? ⟨q, 3, none⟩ = some (.func (.func 128) #[.pointer (some ⟨rb, 0, none⟩)] #[]) := LJ.out.2.2.1.cell 3
          go_wp2_with fail
          refine CT.out.mono ?_
          rintro e w5 ⟨rfl, hq5⟩
          have QW5 : Hid (FwQ W C c rb k (f.readF k.line l) w5) := Lib.hid (LJ.out.1.trans (HC6.out.2.2 _ _ hq5))
          have KR5 : Hid (Blk w5 r 170 zeroL) := Lib.hid (LJ.out.2.1.chg hq5.2 HC6.out.1)
          have KQ5 : Hid (Blk w5 q 224 #[.func (.func 125) #[.pointer (some ⟨rb, 0, none⟩)] #[], .func (.func 126) #[.pointer (some ⟨rb, 0, none⟩)] #[], .func (.func 127) #[.pointer (some ⟨rb, 0, none⟩)] #[], .func (.func 128) #[.pointer (some ⟨rb, 0, none⟩)] #[], .func (.func 129) #[.pointer (some ⟨rb, 0, none⟩)] #[]]) := Lib.hid (LJ.out.2.2.1.chg hq5.2 HC6.out.2.1)
          clear hq5 CT c0
          simp only
          obtain ⟨w6, hw6⟩ : ∃ w6, w6 = w5.alloc (.cells (lineA f tx) 170) := ⟨_, rfl⟩
          obtain ⟨g, hg⟩ : ∃ g, g = w5.heap.size := ⟨_, rfl⟩
          have KG : Hid (Blk w6 g 170 (lineA f tx)) := Lib.hid (by rw [hw6]; exact Blk.new w5 _ _ hg)
          have QW : Hid (FwQ W C c rb k (f.readF k.line l) w6) := Lib.hid (by rw [hw6]; exact QW5.out.below ((Below.refl _ _).alloc (Nat.le_refl _) _))
          have KR : Hid (Blk w6 r 170 zeroL) := Lib.hid (by rw [hw6]; exact KR5.out.alloc _)
          have KQ : Hid (Blk w6 q 224 #[.func (.func 125) #[.pointer (some ⟨rb, 0, none⟩)] #[], .func (.func 126) #[.pointer (some ⟨rb, 0, none⟩)] #[], .func (.func 127) #[.pointer (some ⟨rb, 0, none⟩)] #[], .func (.func 128) #[.pointer (some ⟨rb, 0, none⟩)] #[], .func (.func 129) #[.pointer (some ⟨rb, 0, none⟩)] #[]]) := Lib.hid (by rw [hw6]; exact KQ5.out.alloc _)
          have HGR : Hid (g ≠ r) := Lib.hid (by have := KR5.out.lt; omega)
          unfold lineA at hw6 ⊢
          go_upto_region 5 with fail
          rw [← hw6, ← hg]
          clear hw6 hg QW5 KR5 KQ5
          go_upto_region 7 with fail
          have y0 : w6.cell? ⟨g, 0, none⟩ = some (.int .i64 f.se) := (KG.out.cell 0).trans rfl
          have yg0 := KG.out.frozen 0
          have y1 : w6.cell? ⟨g, 1, none⟩ = some (.int .i64 f.ino) := (KG.out.cell 1).trans rfl
          have yg1 := KG.out.frozen 1
          have y2 : w6.cell? ⟨g, 2, none⟩ = some (.int .i64 f.ge) := (KG.out.cell 2).trans rfl
          have yg2 := KG.out.frozen 2
          have y3 : w6.cell? ⟨g, 3, none⟩ = some (.int .i64 f.off) := (KG.out.cell 3).trans rfl
          have yg3 := KG.out.frozen 3
          have y4 : w6.cell? ⟨g, 4, none⟩ = some (.int .i64 f.mi) := (KG.out.cell 4).trans rfl
          have yg4 := KG.out.frozen 4
          have y5 : w6.cell? ⟨g, 5, none⟩ = some (.int .i64 f.go) := (KG.out.cell 5).trans rfl
          have yg5 := KG.out.frozen 5
          have y6 : w6.cell? ⟨g, 6, none⟩ = some (.int .i64 f.cu) := (KG.out.cell 6).trans rfl
          have yg6 := KG.out.frozen 6
          have y7 : w6.cell? ⟨g, 7, none⟩ = some (.int .i64 f.ta) := (KG.out.cell 7).trans rfl
          have yg7 := KG.out.frozen 7
          have y8 : w6.cell? ⟨g, 8, none⟩ = some (.int .i64 f.lo) := (KG.out.cell 8).trans rfl
          have yg8 := KG.out.frozen 8
          have y9 : w6.cell? ⟨g, 9, none⟩ = some (.string tx) := (KG.out.cell 9).trans rfl
          have yg9 := KG.out.frozen 9
          obtain ⟨z0, z1, z2, z3, z4, z5, z6, z7, z8, z9⟩ := KR.out.zc
          obtain ⟨zg0, zg1, zg2, zg3, zg4, zg5, zg6, zg7, zg8, zg9⟩ := KR.out.zf
          obtain ⟨wz, hwz⟩ : ∃ wz, wz = ((((((((((w6.setCell ⟨r, 0, none⟩ (.int .i64 f.se)).setCell ⟨r, 1, none⟩ (.int .i64 f.ino)).setCell ⟨r, 2, none⟩ (.int .i64 f.ge)).setCell ⟨r, 3, none⟩ (.int .i64 f.off)).setCell ⟨r, 4, none⟩ (.int .i64 f.mi)).setCell ⟨r, 5, none⟩ (.int .i64 f.go)).setCell ⟨r, 6, none⟩ (.int .i64 f.cu)).setCell ⟨r, 7, none⟩ (.int .i64 f.ta)).setCell ⟨r, 8, none⟩ (.int .i64 f.lo)).setCell ⟨r, 9, none⟩ (.string tx)) := ⟨_, rfl⟩
          have KZ : Hid (Blk wz r 170 (lineA f tx)) := Lib.hid (by rw [hwz]; exact (KR.out.line _ _ _ _ _ _ _ _ _ _).1)
          have BZ : Hid (Chg (fun b => b = r) w6 wz) := Lib.hid (by rw [hwz]; exact (KR.out.line _ _ _ _ _ _ _ _ _ _).2)
          have QZ : Hid (FwQ W C c rb k (f.readF k.line l) wz) := Lib.hid (QW.out.far HR.out KR.out BZ.out)
          go_wp2_with fail
          rw [← hwz]
          clear hwz
          refine bodyPost_ret (v := .tuple #[.agg (lineA f tx), .bool true]) (ret_line2 rfl rfl rfl KZ.out rfl) rfl ?_
          have HV : stepF S I R k f = (f.readF k.line l, some (feedS k.line f.u l)) := by
            have hny := HNY.out
            unfold NotYet at hny
            unfold stepF
            rw [if_neg (hny.1 (by omega)), if_neg (fun e => e (hny.2.1 (by omega))), if_neg (fun e => e (hny.2.2.1 (by omega))), if_pos hx.out, ← HLL.out, HW.out]; rfl
          rw [HV, HTX.out]
          exact ⟨rfl, QZ.out⟩
      · have hx := Lib.hid hc
        clear hc
        have CT := Lib.hid (fw_read_no HR6.out HA.out HD6.out HF.out HP.out.1 HP.out.2.1 (by by_cases he : (R f.ino f.ge (f.off + (f.u.length : Int)) k.ch).2 = 0; exact .inr ⟨he, by by_cases hl : (R f.ino f.ge (f.off + (f.u.length : Int)) k.ch).1 = []; exact hl; exact absurd ⟨he, hl⟩ hx.out⟩; exact .inl he))
        have c0 : wr.cell? ⟨q, 3, none⟩ = some (.func (.func 128) #[.pointer (some ⟨rb, 0, none⟩)] #[]) := LJ.out.2.2.1.cell 3
        go_wp2_with fail
        refine CT.out.mono ?_
        rintro e w5 ⟨rfl, hq5⟩
        have QW5 : Hid (FwQ W C c rb k (f) w5) := Lib.hid (LJ.out.1.trans (HC6.out.2.2 _ _ hq5))
        have KR5 : Hid (Blk w5 r 170 zeroL) := Lib.hid (LJ.out.2.1.chg hq5.2 HC6.out.1)
        have KQ5 : Hid (Blk w5 q 224 #[.func (.func 125) #[.pointer (some ⟨rb, 0, none⟩)] #[], .func (.func 126) #[.pointer (some ⟨rb, 0, none⟩)] #[], .func (.func 127) #[.pointer (some ⟨rb, 0, none⟩)] #[], .func (.func 128) #[.pointer (some ⟨rb, 0, none⟩)] #[], .func (.func 129) #[.pointer (some ⟨rb, 0, none⟩)] #[]]) := Lib.hid (LJ.out.2.2.1.chg hq5.2 HC6.out.2.1)
        clear hq5 CT c0
        simp only
        obtain ⟨w6, hw6⟩ : ∃ w6, w6 = w5.alloc (.cells zeroL 170) := ⟨_, rfl⟩
        obtain ⟨g, hg⟩ : ∃ g, g = w5.heap.size := ⟨_, rfl⟩
        have KG : Hid (Blk w6 g 170 zeroL) := Lib.hid (by rw [hw6]; exact Blk.new w5 _ _ hg)
        have QW : Hid (FwQ W C c rb k (f) w6) := Lib.hid (by rw [hw6]; exact QW5.out.below ((Below.refl _ _).alloc (Nat.le_refl _) _))
        have KR : Hid (Blk w6 r 170 zeroL) := Lib.hid (by rw [hw6]; exact KR5.out.alloc _)
        have KQ : Hid (Blk w6 q 224 #[.func (.func 125) #[.pointer (some ⟨rb, 0, none⟩)] #[], .func (.func 126) #[.pointer (some ⟨rb, 0, none⟩)] #[], .func (.func 127) #[.pointer (some ⟨rb, 0, none⟩)] #[], .func (.func 128) #[.pointer (some ⟨rb, 0, none⟩)] #[], .func (.func 129) #[.pointer (some ⟨rb, 0, none⟩)] #[]]) := Lib.hid (by rw [hw6]; exact KQ5.out.alloc _)
        have HGR : Hid (g ≠ r) := Lib.hid (by have := KR5.out.lt; omega)
        unfold zeroL at hw6 ⊢
        go_upto_region 5 with fail
        rw [← hw6, ← hg]
        clear hw6 hg QW5 KR5 KQ5
        have LN1 : Hid (LoopF W C c rb r q k f S I R 4 w6) := Lib.hid ⟨QW.out, KR.out, KQ.out, by
          have hny := HNY.out
          unfold NotYet at hny ⊢
          exact ⟨fun h => by first | exact hny.1 (by omega) | exact hx.out, fun h => by first | exact hny.2.1 (by omega) | exact hx.out | omega, fun h => by first | exact hny.2.2.1 (by omega) | exact hx.out | omega, fun h => by first | exact hny.2.2.2.1 (by omega) | exact hx.out | omega, fun h => by first | exact hny.2.2.2.2 (by omega) | exact hx.out | omega⟩⟩
        go_wp2_with fail
        go_roundw
        case rel => exact ⟨4, by omega, by simp, LN1⟩
        case measure => simp [intOf]
    · cases hn : nextB (S k.nm) f
      case false =>
        have hx := Lib.hid hn
        clear hn
        have CT := Lib.hid (fw_turns_no HR6.out HA.out HD6.out hx.out)
        have c0 : wr.cell? ⟨q, 4, none⟩ = some (.func (.func 129) #[.pointer (some ⟨rb, 0, none⟩)] #[]) := LJ.out.2.2.1.cell 4
        go_wp2_with fail
        refine CT.out.mono ?_
        rintro e w5 ⟨rfl, hq5⟩
        have QW5 : Hid (FwQ W C c rb k (f) w5) := Lib.hid (LJ.out.1.trans (HC6.out.2.2 _ _ hq5))
        have KR5 : Hid (Blk w5 r 170 zeroL) := Lib.hid (LJ.out.2.1.chg hq5.2 HC6.out.1)
        have KQ5 : Hid (Blk w5 q 224 #[.func (.func 125) #[.pointer (some ⟨rb, 0, none⟩)] #[], .func (.func 126) #[.pointer (some ⟨rb, 0, none⟩)] #[], .func (.func 127) #[.pointer (some ⟨rb, 0, none⟩)] #[], .func (.func 128) #[.pointer (some ⟨rb, 0, none⟩)] #[], .func (.func 129) #[.pointer (some ⟨rb, 0, none⟩)] #[]]) := Lib.hid (LJ.out.2.2.1.chg hq5.2 HC6.out.2.1)
        clear hq5 CT c0
        simp only
        obtain ⟨w6, hw6⟩ : ∃ w6, w6 = w5.alloc (.cells zeroL 170) := ⟨_, rfl⟩
        obtain ⟨g, hg⟩ : ∃ g, g = w5.heap.size := ⟨_, rfl⟩
        have KG : Hid (Blk w6 g 170 zeroL) := Lib.hid (by rw [hw6]; exact Blk.new w5 _ _ hg)
        have QW : Hid (FwQ W C c rb k (f) w6) := Lib.hid (by rw [hw6]; exact QW5.out.below ((Below.refl _ _).alloc (Nat.le_refl _) _))
        have KR : Hid (Blk w6 r 170 zeroL) := Lib.hid (by rw [hw6]; exact KR5.out.alloc _)
        have KQ : Hid (Blk w6 q 224 #[.func (.func 125) #[.pointer (some ⟨rb, 0, none⟩)] #[], .func (.func 126) #[.pointer (some ⟨rb, 0, none⟩)] #[], .func (.func 127) #[.pointer (some ⟨rb, 0, none⟩)] #[], .func (.func 128) #[.pointer (some ⟨rb, 0, none⟩)] #[], .func (.func 129) #[.pointer (some ⟨rb, 0, none⟩)] #[]]) := Lib.hid (by rw [hw6]; exact KQ5.out.alloc _)
        have HGR : Hid (g ≠ r) := Lib.hid (by have := KR5.out.lt; omega)
        unfold zeroL at hw6 ⊢
        go_upto_region 5 with fail
        rw [← hw6, ← hg]
        clear hw6 hg QW5 KR5 KQ5
        have LN1 : Hid (LoopF W C c rb r q k f S I R 5 w6) := Lib.hid ⟨QW.out, KR.out, KQ.out, by
          have hny := HNY.out
          unfold NotYet at hny ⊢
          exact ⟨fun h => by first | exact hny.1 (by omega) | exact hx.out, fun h => by first | exact hny.2.1 (by omega) | exact hx.out | omega, fun h => by first | exact hny.2.2.1 (by omega) | exact hx.out | omega, fun h => by first | exact hny.2.2.2.1 (by omega) | exact hx.out | omega, fun h => by first | exact hny.2.2.2.2 (by omega) | exact hx.out | omega⟩⟩
        go_wp2_with fail
        go_roundw
        case rel => exact ⟨5, by omega, by simp, LN1⟩
        case measure => simp [intOf]
      case true =>
        have hx := Lib.hid hn
        clear hn
        have CT := Lib.hid (fw_turns_yes HR6.out HA.out HD6.out HO.out HF.out (Nat.le_trans HP.out.2.1 (by decide)) hx.out)
        have c0 : wr.cell? ⟨q, 4, none⟩ = some (.func (.func 129) #[.pointer (some ⟨rb, 0, none⟩)] #[]) := LJ.out.2.2.1.cell 4
        go_wp2_with fail
        refine CT.out.mono ?_
        rintro e w5 ⟨rfl, hq5⟩
        have QW5 : Hid (FwQ W C c rb k (f.turnsF (S k.nm)) w5) := Lib.hid (LJ.out.1.trans (HC6.out.2.2 _ _ hq5))
        have KR5 : Hid (Blk w5 r 170 zeroL) := Lib.hid (LJ.out.2.1.chg hq5.2 HC6.out.1)
        have KQ5 : Hid (Blk w5 q 224 #[.func (.func 125) #[.pointer (some ⟨rb, 0, none⟩)] #[], .func (.func 126) #[.pointer (some ⟨rb, 0, none⟩)] #[], .func (.func 127) #[.pointer (some ⟨rb, 0, none⟩)] #[], .func (.func 128) #[.pointer (some ⟨rb, 0, none⟩)] #[], .func (.func 129) #[.pointer (some ⟨rb, 0, none⟩)] #[]]) := Lib.hid (LJ.out.2.2.1.chg hq5.2 HC6.out.2.1)
        clear hq5 CT c0
        simp only
        obtain ⟨w6, hw6⟩ : ∃ w6, w6 = w5.alloc (.cells zeroL 170) := ⟨_, rfl⟩
        obtain ⟨g, hg⟩ : ∃ g, g = w5.heap.size := ⟨_, rfl⟩
        have KG : Hid (Blk w6 g 170 zeroL) := Lib.hid (by rw [hw6]; exact Blk.new w5 _ _ hg)
        have QW : Hid (FwQ W C c rb k (f.turnsF (S k.nm)) w6) := Lib.hid (by rw [hw6]; exact QW5.out.below ((Below.refl _ _).alloc (Nat.le_refl _) _))
        have KR : Hid (Blk w6 r 170 zeroL) := Lib.hid (by rw [hw6]; exact KR5.out.alloc _)
        have KQ : Hid (Blk w6 q 224 #[.func (.func 125) #[.pointer (some ⟨rb, 0, none⟩)] #[], .func (.func 126) #[.pointer (some ⟨rb, 0, none⟩)] #[], .func (.func 127) #[.pointer (some ⟨rb, 0, none⟩)] #[], .func (.func 128) #[.pointer (some ⟨rb, 0, none⟩)] #[], .func (.func 129) #[.pointer (some ⟨rb, 0, none⟩)] #[]]) := Lib.hid (by rw [hw6]; exact KQ5.out.alloc _)
        have HGR : Hid (g ≠ r) := Lib.hid (by have := KR5.out.lt; omega)
        unfold zeroL at hw6 ⊢
        go_upto_region 5 with fail
        rw [← hw6, ← hg]
        clear hw6 hg QW5 KR5 KQ5
        go_upto_region 9 with fail
        obtain ⟨z0, z1, z2, z3, z4, z5, z6, z7, z8, z9⟩ := KR.out.zc
        obtain ⟨zg0, zg1, zg2, zg3, zg4, zg5, zg6, zg7, zg8, zg9⟩ := KR.out.zf
        obtain ⟨wz, hwz⟩ : ∃ wz, wz = setZ w6 r := ⟨_, rfl⟩
        have KZ : Hid (Blk wz r 170 zeroL) := Lib.hid (by rw [hwz]; exact (KR.out.line0).1)
        have BZ : Hid (Chg (fun b => b = r) w6 wz) := Lib.hid (by rw [hwz]; exact (KR.out.line0).2)
        have QZ : Hid (FwQ W C c rb k (f.turnsF (S k.nm)) wz) := Lib.hid (QW.out.far HR.out KR.out BZ.out)
        go_wp2_with fail
        unfold setZ at hwz
        rw [← hwz]
        clear hwz
        refine bodyPost_ret (v := .tuple #[.agg zeroL, .bool false]) (ret_line2 rfl rfl rfl KZ.out rfl) rfl ?_
        have HV : stepF S I R k f = (f.turnsF (S k.nm), none) := by
          have hny := HNY.out
          unfold NotYet at hny
          unfold stepF
          rw [if_neg (hny.1 (by omega)), if_neg (fun e => e (hny.2.1 (by omega))), if_neg (fun e => e (hny.2.2.1 (by omega))), if_neg (hny.2.2.2.1 (by omega)), if_pos hx.out]
        rw [HV]
        exact ⟨rfl, QZ.out⟩
    · have QW : Hid (FwQ W C c rb k f wr) := Lib.hid LJ.out.1
      have KR : Hid (Blk wr r 170 zeroL) := Lib.hid LJ.out.2.1
      go_upto_region 9 with fail
      obtain ⟨z0, z1, z2, z3, z4, z5, z6, z7, z8, z9⟩ := KR.out.zc
      obtain ⟨zg0, zg1, zg2, zg3, zg4, zg5, zg6, zg7, zg8, zg9⟩ := KR.out.zf
      obtain ⟨wz, hwz⟩ : ∃ wz, wz = setZ wr r := ⟨_, rfl⟩
      have KZ : Hid (Blk wz r 170 zeroL) := Lib.hid (by rw [hwz]; exact (KR.out.line0).1)
      have BZ : Hid (Chg (fun b => b = r) wr wz) := Lib.hid (by rw [hwz]; exact (KR.out.line0).2)
      have QZ : Hid (FwQ W C c rb k (f) wz) := Lib.hid (QW.out.far HR.out KR.out BZ.out)
      go_wp2_with fail
      unfold setZ at hwz
      rw [← hwz]
      clear hwz
      refine bodyPost_ret (v := .tuple #[.agg zeroL, .bool false]) (ret_line2 rfl rfl rfl KZ.out rfl) rfl ?_
      have HV : stepF S I R k f = (f, none) := by
        have hny := HNY.out
        unfold NotYet at hny
        unfold stepF
        rw [if_neg (hny.1 (by omega)), if_neg (fun e => e (hny.2.1 (by omega))), if_neg (fun e => e (hny.2.2.1 (by omega))), if_neg (hny.2.2.2.1 (by omega)), if_neg (by rw [hny.2.2.2.2 (by omega)]; decide)]
      rw [HV]
      exact ⟨rfl, QZ.out⟩
end Go.Proofs.YtlojmmcagglpoaaGreat
