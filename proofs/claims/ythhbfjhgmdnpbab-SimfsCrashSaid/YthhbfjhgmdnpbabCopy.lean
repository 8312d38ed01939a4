/- THE WALK of Copy (printed by a program of ours). -/
import Derived.Test.YthhbfjhgmdnpbabEachCopy
import Derived.Deep.RegionHeld
import Derived.Deep.DrawnRows
namespace Go.Proofs.Ythhbfjhgmdnpbab
open Go.RowKit Go.Maps
attribute [local go_sem ↓] Go.wp_at_zero Go.wp_at_succ
theorem clone_fm {W : World} {b n : Nat} {m : List UInt8 → Option Int} (h : FM Try.prog 9 sL iD (plainElem Try.prog 3) W b n m) : Calls Try.prog 24 #[.map (some b)] W fun e w' => e = .returned (.map (some W.heap.size)) ∧ FM Try.prog 9 sL iD (plainElem Try.prog 3) w' W.heap.size n m ∧ Below W.heap.size W w' := by
  obtain ⟨D, h1, h2, h3⟩ := h
  refine (AnyW.maps_Clone_owns cloneL 9 _ b n D W h1).mono ?_
  rintro e w' ⟨he, ho, _, hb⟩
  exact ⟨he, ⟨D, ho, h2, h3⟩, hb⟩
theorem ne_of {a b : Nat} {p : Prop} (h : p) (hp : p → a ≠ b) : a ≠ b := hp h
theorem DC.recol {W : World} {N : Nat} {C C' : Nat → Nat} {c p n : Nat} {d : Dk} (h : DC W N C c p n d) (hC : ∀ b, C b = c → C' b = c) : DC W N C' c p n d := by
  obtain ⟨h1, bf, bn, bs, fl, h2, h3⟩ := h
  exact ⟨h1, bf, bn, bs, fl, h2, fun b hb => hC b (h3 b hb)⟩
def CopyQ (W : World) (C : Nat → Nat) (c p n : Nat) (d : Dk) (N : Nat) (c2 : Nat) (e : Ending) (w' : World) : Prop :=
  ∃ p2, e = .returned (.pointer (some ⟨p2, 0, none⟩)) ∧ W.heap.size ≤ p2 ∧ DC w' N (paint C W.heap.size c2) c p n d ∧ DC w' W.heap.size (paint C W.heap.size c2) c2 p2 n d ∧ Below W.heap.size W w'
/-- what the drawn region leaves -/
structure CPS (W wL : World) (n : Nat) (d : Dk) (b4 b9 b14 g cc : Nat) : Prop where
  bel : Below W.heap.size W wL
  f4 : FM Try.prog 3 iL pD ptrE wL b4 0 (fun _ => none)
  f9 : FM Try.prog 9 sL iD (plainElem Try.prog 3) wL b9 n d.ns
  f14 : FM Try.prog 9 sL iD (plainElem Try.prog 3) wL b14 n d.se
  bd : Blk wL g 56 #[.map (some b4), .map (some b9), .map (some b14), .int .i64 (d.no : Int)]
  cc_ : Blk wL cc 25 #[.pointer (some ⟨g, 0, none⟩)]
  lo : W.heap.size ≤ g ∧ W.heap.size ≤ b4 ∧ W.heap.size ≤ b9 ∧ W.heap.size ≤ b14 ∧ b4 ≠ b9 ∧ b4 ≠ b14 ∧ b9 ≠ b14
theorem CPS.each {W wL : World} {N : Nat} {C : Nat → Nat} {c p n : Nat} {d : Dk} {b4 b9 b14 g cc : Nat} (h : DC W N C c p n d) (c2 : Nat) (hc2 : c2 ≠ c) (hs : CPS W wL n d b4 b9 b14 g cc) :
    Calls Try.prog 25 #[.pointer (some ⟨p, 0, none⟩), .func (.func 26) #[] #[.pointer (some ⟨cc, 0, none⟩)]] wL fun e w' => e = .returned (.tuple #[]) ∧ w'.cell? ⟨cc, 0, none⟩ = some (.pointer (some ⟨g, 0, none⟩)) ∧ CopyQ W C c p n d N c2 (.returned (.pointer (some ⟨g, 0, none⟩))) w' := by
  have hp : ∀ b, W.heap.size ≤ b → paint C W.heap.size c2 b ≠ c := fun b hb => by rw [paint_new C c2 hb]; exact hc2
  refine (each_copy (N2 := W.heap.size) (h.keep hs.bel (sam_paint C W.heap.size c2)) hs.cc_ ⟨hs.bd, hs.f4.mono (Nat.zero_le _), hs.f9, hs.f14, hs.lo, fun _ => rfl, fun i g x hi _ => (by cases hi), fun i j g hi _ => (by cases hi), fun i j g g' k hi _ _ _ => (by cases hi)⟩ hs.f4 (hp b4 hs.lo.2.1)).mono ?_
  rintro e w' ⟨he, hd, hcc, ⟨fl, hw⟩, hch⟩
  refine ⟨he, (hcc.cell 0).trans rfl, g, rfl, hs.lo.1, hd.recol (fun b hb => ?_), ⟨h.ok, b4, b9, b14, fl, hw, fun b hb => paint_new C c2 (hw.own_lo hb)⟩, hs.bel.trans (hch.below (fun k hk e => by have := hs.lo.2.1; omega) hs.bel.size)⟩
  by_cases e1 : b < wL.heap.size
  · rw [paint_old _ _ e1] at hb; exact hb
  · rw [paint_new _ _ (by omega)] at hb; omega
set_option maxRecDepth 20000 in
set_option maxHeartbeats 8000000 in
theorem copy_c {W : World} {N : Nat} {C : Nat → Nat} {c p n : Nat} {d : Dk} (h : DC W N C c p n d) (c2 : Nat) (hc2 : c2 ≠ c) :
    Calls Try.prog 9 #[.pointer (some ⟨p, 0, none⟩)] W (CopyQ W C c p n d N c2) := by
  have HE : Hid (∀ wL b4 b9 b14 g cc, CPS W wL n d b4 b9 b14 g cc → Calls Try.prog 25 #[.pointer (some ⟨p, 0, none⟩), .func (.func 26) #[] #[.pointer (some ⟨cc, 0, none⟩)]] wL fun e w' => e = .returned (.tuple #[]) ∧ w'.cell? ⟨cc, 0, none⟩ = some (.pointer (some ⟨g, 0, none⟩)) ∧ CopyQ W C c p n d N c2 (.returned (.pointer (some ⟨g, 0, none⟩))) w') := Lib.hid (fun wL b4 b9 b14 g cc hs => CPS.each h c2 hc2 hs)
  obtain ⟨bf0, bn0, bs0, fl0, hw, ho⟩ := h.dw
  obtain ⟨no, hno⟩ : ∃ no, no = d.no := ⟨_, rfl⟩
  have HNO := Lib.hid hno
  have HS : Hid (∀ w', Below W.heap.size W w' → w'.cell? ⟨p, 1, none⟩ = some (.map (some bn0)) ∧ w'.cell? ⟨p, 2, none⟩ = some (.map (some bs0)) ∧ w'.cell? ⟨p, 3, none⟩ = some (.int .i64 (no : Int))) := Lib.hid (fun w' hb => by
    have hbd := hw.bd.keep hb
    exact ⟨(hbd.cell 1).trans rfl, (hbd.cell 2).trans rfl, (hbd.cell 3).trans (by rw [hno]; rfl)⟩)
  have HC9 : Hid (∀ w', Below W.heap.size W w' → Calls Try.prog 24 #[.map (some bn0)] w' fun e w2 => e = .returned (.map (some w'.heap.size)) ∧ FM Try.prog 9 sL iD (plainElem Try.prog 3) w2 w'.heap.size n d.ns ∧ Below w'.heap.size w' w2) := Lib.hid (fun w' hb => clone_fm (hw.mn.keep hb))
  have HC14 : Hid (∀ w', Below W.heap.size W w' → Calls Try.prog 24 #[.map (some bs0)] w' fun e w2 => e = .returned (.map (some w'.heap.size)) ∧ FM Try.prog 9 sL iD (plainElem Try.prog 3) w2 w'.heap.size n d.se ∧ Below w'.heap.size w' w2) := Lib.hid (fun w' hb => clone_fm (hw.ms.keep hb))
  clear h hw ho hno
  go_enter Try.func9, Try.ntmps9
  go_upto_region 1 with fail
  have hmm := @run_makeMap Try.prog
  refine wp_region_any (by kernel_rfl) ?_
  change wpAny _ _ _ _ _ _ _ (World.drew _)
  refine wpAny_of_held (S := fun w' => w'.cell? ⟨p, 1, none⟩ = some (.map (some bn0)) ∧ w'.cell? ⟨p, 2, none⟩ = some (.map (some bs0)) ∧ w'.cell? ⟨p, 3, none⟩ = some (.int .i64 (no : Int))) _ _ _ _ ?_
  obtain ⟨w0, hw0⟩ : ∃ w0, w0 = W.drew := ⟨_, rfl⟩
  have BW0 : Hid (Below W.heap.size W w0) := Lib.hid (by rw [hw0]; exact (Below.refl _ _).drew)
  rw [← hw0]
  clear hw0
  have hHeld : (fun w' => w'.cell? ⟨p, 1, none⟩ = some (.map (some bn0)) ∧ w'.cell? ⟨p, 2, none⟩ = some (.map (some bs0)) ∧ w'.cell? ⟨p, 3, none⟩ = some (.int .i64 (no : Int))) w0 := HS.out _ BW0.out
  refine wpAnyH_take (i := 1) (v := ?_) rfl (by kernel_rfl) (by kernel_rfl) (by kernel_rfl) (fun _ _ _ h => h) (Or.inl ⟨by rfl, ?_⟩) (by assumption) ?_
  rotate_left 1
  · intro w hSw; (try dsimp only at hSw); go_simp <;> with_reducible rfl
  try simp only [Act.put, List.setIfInBounds_toArray, List.set_cons_zero, List.set_cons_succ, List.getElem_toArray, List.getElem_cons_zero, List.getElem_cons_succ]
  refine wpAnyH_take (i := 2) (v := ?_) rfl (by kernel_rfl) (by kernel_rfl) (by kernel_rfl) (fun _ _ _ h => h) (Or.inl ⟨by rfl, ?_⟩) (by assumption) ?_
  rotate_left 1
  · intro w hSw; (try dsimp only at hSw); go_simp <;> with_reducible rfl
  try simp only [Act.put, List.setIfInBounds_toArray, List.set_cons_zero, List.set_cons_succ, List.getElem_toArray, List.getElem_cons_zero, List.getElem_cons_succ]
  refine wpAnyH_take (i := 3) (v := ?_) rfl (by kernel_rfl) (by kernel_rfl) (by kernel_rfl) (fun _ _ _ h => h) (Or.inl ⟨by rfl, ?_⟩) (by assumption) ?_
  rotate_left 1
  · intro w hSw; (try dsimp only at hSw); go_simp <;> with_reducible rfl
  try simp only [Act.put, List.setIfInBounds_toArray, List.set_cons_zero, List.set_cons_succ, List.getElem_toArray, List.getElem_cons_zero, List.getElem_cons_succ]
  refine wpAnyH_take (i := 4) (v := ?_) rfl (by kernel_rfl) (by kernel_rfl) (by kernel_rfl) (fun _ _ _ h => h) (Or.inl ⟨by rfl, ?_⟩) (by assumption) ?_
  rotate_left 1
  · intro w hSw; obtain ⟨z1, z2, z3⟩ := hSw; (try dsimp only at hSw); go_simp <;> with_reducible rfl
  try simp only [Act.put, List.setIfInBounds_toArray, List.set_cons_zero, List.set_cons_succ, List.getElem_toArray, List.getElem_cons_zero, List.getElem_cons_succ]
  refine wpAnyH_take (i := 6) (v := ?_) rfl (by kernel_rfl) (by kernel_rfl) (by kernel_rfl) (fun _ _ _ h => h) (Or.inl ⟨by rfl, ?_⟩) (by assumption) ?_
  rotate_left 1
  · intro w hSw; (try dsimp only at hSw); go_simp <;> with_reducible rfl
  try simp only [Act.put, List.setIfInBounds_toArray, List.set_cons_zero, List.set_cons_succ, List.getElem_toArray, List.getElem_cons_zero, List.getElem_cons_succ]
  refine wpAnyH_take (i := 7) (v := ?_) rfl (by kernel_rfl) (by kernel_rfl) (by kernel_rfl) (fun _ _ _ h => h) (Or.inl ⟨by rfl, ?_⟩) (by assumption) ?_
  rotate_left 1
  · intro w hSw; (try dsimp only at hSw); go_simp <;> with_reducible rfl
  try simp only [Act.put, List.setIfInBounds_toArray, List.set_cons_zero, List.set_cons_succ, List.getElem_toArray, List.getElem_cons_zero, List.getElem_cons_succ]
  refine wpAnyH_take (i := 8) (v := ?_) rfl (by kernel_rfl) (by kernel_rfl) (by kernel_rfl) (fun _ _ _ h => h) (Or.inl ⟨by rfl, ?_⟩) (by assumption) ?_
  rotate_left 1
  · intro w hSw; (try dsimp only at hSw); go_simp <;> with_reducible rfl
  try simp only [Act.put, List.setIfInBounds_toArray, List.set_cons_zero, List.set_cons_succ, List.getElem_toArray, List.getElem_cons_zero, List.getElem_cons_succ]
  refine wpAnyH_take (i := 9) (v := ?_) rfl (by kernel_rfl) (by kernel_rfl) (by kernel_rfl) (fun _ _ _ h => h) (Or.inl ⟨by rfl, ?_⟩) (by assumption) ?_
  rotate_left 1
  · intro w hSw; obtain ⟨z1, z2, z3⟩ := hSw; (try dsimp only at hSw); go_simp <;> with_reducible rfl
  try simp only [Act.put, List.setIfInBounds_toArray, List.set_cons_zero, List.set_cons_succ, List.getElem_toArray, List.getElem_cons_zero, List.getElem_cons_succ]
  refine wpAnyH_take (i := 11) (v := ?_) rfl (by kernel_rfl) (by kernel_rfl) (by kernel_rfl) (fun _ _ _ h => h) (Or.inl ⟨by rfl, ?_⟩) (by assumption) ?_
  rotate_left 1
  · intro w hSw; (try dsimp only at hSw); go_simp <;> with_reducible rfl
  try simp only [Act.put, List.setIfInBounds_toArray, List.set_cons_zero, List.set_cons_succ, List.getElem_toArray, List.getElem_cons_zero, List.getElem_cons_succ]
  refine wpAnyH_take (i := 12) (v := ?_) rfl (by kernel_rfl) (by kernel_rfl) (by kernel_rfl) (fun _ _ _ h => h) (Or.inl ⟨by rfl, ?_⟩) (by assumption) ?_
  rotate_left 1
  · intro w hSw; (try dsimp only at hSw); go_simp <;> with_reducible rfl
  try simp only [Act.put, List.setIfInBounds_toArray, List.set_cons_zero, List.set_cons_succ, List.getElem_toArray, List.getElem_cons_zero, List.getElem_cons_succ]
  refine wpAnyH_take (i := 13) (v := ?_) rfl (by kernel_rfl) (by kernel_rfl) (by kernel_rfl) (fun _ _ _ h => h) (Or.inl ⟨by rfl, ?_⟩) (by assumption) ?_
  rotate_left 1
  · intro w hSw; (try dsimp only at hSw); go_simp <;> with_reducible rfl
  try simp only [Act.put, List.setIfInBounds_toArray, List.set_cons_zero, List.set_cons_succ, List.getElem_toArray, List.getElem_cons_zero, List.getElem_cons_succ]
  refine wpAnyH_take (i := 14) (v := ?_) rfl (by kernel_rfl) (by kernel_rfl) (by kernel_rfl) (fun _ _ _ h => h) (Or.inl ⟨by rfl, ?_⟩) (by assumption) ?_
  rotate_left 1
  · intro w hSw; obtain ⟨z1, z2, z3⟩ := hSw; (try dsimp only at hSw); go_simp <;> with_reducible rfl
  try simp only [Act.put, List.setIfInBounds_toArray, List.set_cons_zero, List.set_cons_succ, List.getElem_toArray, List.getElem_cons_zero, List.getElem_cons_succ]
  refine wpAnyH_ready (rs := [0, 5, 17]) (by kernel_rfl) (by simp) (AllReadyH.cons rfl (fun K hK => ?_) (AllReadyH.cons rfl (fun K hK => ?_) (AllReadyH.cons rfl (fun K hK => ?_) AllReadyH.nil)))
  ·
    clear hHeld
    go_simp
    obtain ⟨w1, hw2⟩ : ∃ w', w' = w0.alloc (.map #[] 0) := ⟨_, rfl⟩
    have hb : Below w0.heap.size w0 w1 := by rw [hw2]; exact (Below.refl _ _).alloc (Nat.le_refl _) _
    have hf : FM Try.prog 3 iL pD ptrE w1 w0.heap.size 0 (fun _ => none) := by rw [hw2]; exact FM.made _ _ _ _ _ _
    rw [← hw2]
    clear hw2
    obtain ⟨b4, hb4⟩ : ∃ q, q = w0.heap.size := ⟨_, rfl⟩
    rw [← hb4] at hf
    rw [← hb4]
    have BW1 : Hid (Below W.heap.size W w1) := Lib.hid (BW0.out.trans (hb.mono BW0.out.size))
    have LOb4 : Hid (W.heap.size ≤ b4) := Lib.hid (by rw [hb4]; exact BW0.out.size)
    have F0 : Hid (FM Try.prog 3 iL pD ptrE w1 b4 0 (fun _ => none)) := Lib.hid hf
    clear hf hb hb4
    refine hK.out _ _ (HS.out _ BW1.out) (fun hHeld => ?_)
    clear hK K BW0
    try simp only [Act.put, List.setIfInBounds_toArray, List.set_cons_zero, List.set_cons_succ, List.getElem_toArray, List.getElem_cons_zero, List.getElem_cons_succ]
    refine wpAnyH_ready (rs := [5, 17]) (by kernel_rfl) (by simp) (AllReadyH.cons rfl (fun K hK => ?_) (AllReadyH.cons rfl (fun K hK => ?_) AllReadyH.nil))
    ·
      clear hHeld
      go_simp
      refine (HC9.out w1 BW1.out).mono ?_
      rintro e w2 ⟨rfl, hf, hb⟩
      obtain ⟨b9, hb9⟩ : ∃ q, q = w1.heap.size := ⟨_, rfl⟩
      rw [← hb9] at hf
      rw [← hb9]
      have BW2 : Hid (Below W.heap.size W w2) := Lib.hid (BW1.out.trans (hb.mono BW1.out.size))
      have LOb9 : Hid (W.heap.size ≤ b9) := Lib.hid (by rw [hb9]; exact BW1.out.size)
      have NE0_5 : Hid (b4 ≠ b9) := Lib.hid (fun e => by have := F0.out.lt; omega)
      have F0' := Lib.hid (F0.out.keep hb); clear F0; have F0 := F0'; clear F0'
      have F5 : Hid (FM Try.prog 9 sL iD (plainElem Try.prog 3) w2 b9 n d.ns) := Lib.hid hf
      clear hf hb hb9
      refine hK.out _ _ (HS.out _ BW2.out) (fun hHeld => ?_)
      clear hK K BW1
      try simp only [Act.put, List.setIfInBounds_toArray, List.set_cons_zero, List.set_cons_succ, List.getElem_toArray, List.getElem_cons_zero, List.getElem_cons_succ]
      refine wpAnyH_ready (rs := [10, 17]) (by kernel_rfl) (by simp) (AllReadyH.cons rfl (fun K hK => ?_) (AllReadyH.cons rfl (fun K hK => ?_) AllReadyH.nil))
      ·
        clear hHeld
        go_simp
        refine (HC14.out w2 BW2.out).mono ?_
        rintro e w3 ⟨rfl, hf, hb⟩
        obtain ⟨b14, hb14⟩ : ∃ q, q = w2.heap.size := ⟨_, rfl⟩
        rw [← hb14] at hf
        rw [← hb14]
        have BW3 : Hid (Below W.heap.size W w3) := Lib.hid (BW2.out.trans (hb.mono BW2.out.size))
        have LOb14 : Hid (W.heap.size ≤ b14) := Lib.hid (by rw [hb14]; exact BW2.out.size)
        have NE0_10 : Hid (b4 ≠ b14) := Lib.hid (fun e => by have := F0.out.lt; omega)
        have F0' := Lib.hid (F0.out.keep hb); clear F0; have F0 := F0'; clear F0'
        have NE5_10 : Hid (b9 ≠ b14) := Lib.hid (fun e => by have := F5.out.lt; omega)
        have F5' := Lib.hid (F5.out.keep hb); clear F5; have F5 := F5'; clear F5'
        have F10 : Hid (FM Try.prog 9 sL iD (plainElem Try.prog 3) w3 b14 n d.se) := Lib.hid hf
        clear hf hb hb14
        refine hK.out _ _ (HS.out _ BW3.out) (fun hHeld => ?_)
        clear hK K BW2
        try simp only [Act.put, List.setIfInBounds_toArray, List.set_cons_zero, List.set_cons_succ, List.getElem_toArray, List.getElem_cons_zero, List.getElem_cons_succ]
        refine wpAnyH_take (i := 15) (v := ?_) rfl (by kernel_rfl) (by kernel_rfl) (by kernel_rfl) (fun _ _ _ h => h) (Or.inl ⟨by rfl, ?_⟩) (by assumption) ?_
        rotate_left 1
        · intro w hSw; (try dsimp only at hSw); go_simp <;> with_reducible rfl
        try simp only [Act.put, List.setIfInBounds_toArray, List.set_cons_zero, List.set_cons_succ, List.getElem_toArray, List.getElem_cons_zero, List.getElem_cons_succ]
        refine wpAnyH_ready (rs := [16, 17]) (by kernel_rfl) (by simp) (AllReadyH.cons rfl (fun K hK => ?_) (AllReadyH.cons rfl (fun K hK => ?_) AllReadyH.nil))
        ·
          clear hHeld
          go_simp
          obtain ⟨w4, hw2⟩ : ∃ w', w' = w3.alloc (.cells #[.map (some b4), .map (some b9), .map (some b14), .int .i64 (no : Int)] 56) := ⟨_, rfl⟩
          have hb : Below w3.heap.size w3 w4 := by rw [hw2]; exact (Below.refl _ _).alloc (Nat.le_refl _) _
          have hf : Blk w4 w3.heap.size 56 #[.map (some b4), .map (some b9), .map (some b14), .int .i64 (no : Int)] := by rw [hw2]; exact Blk.new _ _ _ rfl
          rw [← hw2]
          clear hw2
          obtain ⟨g, hg⟩ : ∃ q, q = w3.heap.size := ⟨_, rfl⟩
          rw [← hg] at hf
          rw [← hg]
          have BW4 : Hid (Below W.heap.size W w4) := Lib.hid (BW3.out.trans (hb.mono BW3.out.size))
          have LOg : Hid (W.heap.size ≤ g) := Lib.hid (by rw [hg]; exact BW3.out.size)
          have F0' := Lib.hid (F0.out.keep hb); clear F0; have F0 := F0'; clear F0'
          have F5' := Lib.hid (F5.out.keep hb); clear F5; have F5 := F5'; clear F5'
          have F10' := Lib.hid (F10.out.keep hb); clear F10; have F10 := F10'; clear F10'
          have F16 : Hid (Blk w4 g 56 #[.map (some b4), .map (some b9), .map (some b14), .int .i64 (no : Int)]) := Lib.hid hf
          clear hf hb hg
          refine hK.out _ _ (HS.out _ BW4.out) (fun hHeld => ?_)
          clear hK K BW3
          try simp only [Act.put, List.setIfInBounds_toArray, List.set_cons_zero, List.set_cons_succ, List.getElem_toArray, List.getElem_cons_zero, List.getElem_cons_succ]
          refine wpAnyH_ready (rs := [17]) (by kernel_rfl) (by simp) (AllReadyH.cons rfl (fun K hK => ?_) AllReadyH.nil)
          clear hHeld
          go_simp
          obtain ⟨w5, hw2⟩ : ∃ w', w' = w4.alloc (.cells #[.pointer none] 25) := ⟨_, rfl⟩
          have hb : Below w4.heap.size w4 w5 := by rw [hw2]; exact (Below.refl _ _).alloc (Nat.le_refl _) _
          have hf : Blk w5 w4.heap.size 25 #[.pointer none] := by rw [hw2]; exact Blk.new _ _ _ rfl
          rw [← hw2]
          clear hw2
          obtain ⟨cc, hcc⟩ : ∃ q, q = w4.heap.size := ⟨_, rfl⟩
          rw [← hcc] at hf
          rw [← hcc]
          have BW5 : Hid (Below W.heap.size W w5) := Lib.hid (BW4.out.trans (hb.mono BW4.out.size))
          have LOcc : Hid (W.heap.size ≤ cc) := Lib.hid (by rw [hcc]; exact BW4.out.size)
          have F0' := Lib.hid (F0.out.keep hb); clear F0; have F0 := F0'; clear F0'
          have F5' := Lib.hid (F5.out.keep hb); clear F5; have F5 := F5'; clear F5'
          have F10' := Lib.hid (F10.out.keep hb); clear F10; have F10 := F10'; clear F10'
          have F16' := Lib.hid (F16.out.keep hb); clear F16; have F16 := F16'; clear F16'
          have F17 : Hid (Blk w5 cc 25 #[.pointer none]) := Lib.hid hf
          clear hf hb hcc
          refine hK.out _ _ (HS.out _ BW5.out) (fun hHeld => ?_)
          clear hK K BW4
          try simp only [Act.put, List.setIfInBounds_toArray, List.set_cons_zero, List.set_cons_succ, List.getElem_toArray, List.getElem_cons_zero, List.getElem_cons_succ]
          have k0 : w5.cell? ⟨cc, 0, none⟩ = some (.pointer none) := (F17.out.cell 0).trans rfl
          have kf : w5.frozen? ⟨cc, 0, none⟩ = false := F17.out.frozen 0
          have CS : Chg (fun q => q = cc) w5 (w5.setCell ⟨cc, 0, none⟩ (.pointer (some ⟨g, 0, none⟩))) := Chg.setCell (S := fun q => q = cc) (p := ⟨cc, 0, none⟩) (Chg.refl _ _) (.inl rfl) _
          have hCP : CPS W (w5.setCell ⟨cc, 0, none⟩ (.pointer (some ⟨g, 0, none⟩))) n d b4 b9 b14 g cc := ⟨BW5.out.trans (CS.below (fun k hk e => by have := LOcc.out; omega) BW5.out.size), F0.out.chg CS (F0.out.ne_blk F17.out).symm, F5.out.chg CS (F5.out.ne_blk F17.out).symm, F10.out.chg CS (F10.out.ne_blk F17.out).symm, by rw [← HNO.out]; exact F16.out.chg CS (F16.out.ne_type F17.out (by decide)), F17.out.set_ 0 _, LOg.out, LOb4.out, LOb9.out, LOb14.out, (ne_of NE0_5.out (fun h e => by first | exact h e | exact h e.symm)), (ne_of NE0_10.out (fun h e => by first | exact h e | exact h e.symm)), (ne_of NE5_10.out (fun h e => by first | exact h e | exact h e.symm))⟩
          have CP := Lib.hid hCP
          refine wpAnyH_ready (rs := [18]) (by kernel_rfl) (by simp) (AllReadyH.cons rfl (fun K hK => ?_) AllReadyH.nil)
          clear hHeld
          go_simp
          refine hK.out _ _ (HS.out _ hCP.bel) (fun hHeld => ?_)
          clear hK K hCP
          try simp only [Act.put, List.setIfInBounds_toArray, List.set_cons_zero, List.set_cons_succ, List.getElem_toArray, List.getElem_cons_zero, List.getElem_cons_succ]
          refine wpAnyH_done (by kernel_rfl) ?_ _
          obtain ⟨wL, hwL⟩ : ∃ wL, wL = w5.setCell ⟨cc, 0, none⟩ (.pointer (some ⟨g, 0, none⟩)) := ⟨_, rfl⟩
          rw [← hwL] at CP ⊢
          have CC := Lib.hid (HE.out _ _ _ _ _ _ CP.out)
          clear hHeld hwL k0 kf CS F0 F5 F10 F16 F17
          go_wp2_with fail
          refine CC.out.mono ?_
          rintro e wM ⟨rfl, kc, hq⟩
          have HF := Lib.hid hq
          clear hq CC
          go_wp2_with fail
          go_ret
          exact HF.out
        ·
          clear hHeld
          go_simp
          obtain ⟨w4, hw2⟩ : ∃ w', w' = w3.alloc (.cells #[.pointer none] 25) := ⟨_, rfl⟩
          have hb : Below w3.heap.size w3 w4 := by rw [hw2]; exact (Below.refl _ _).alloc (Nat.le_refl _) _
          have hf : Blk w4 w3.heap.size 25 #[.pointer none] := by rw [hw2]; exact Blk.new _ _ _ rfl
          rw [← hw2]
          clear hw2
          obtain ⟨cc, hcc⟩ : ∃ q, q = w3.heap.size := ⟨_, rfl⟩
          rw [← hcc] at hf
          rw [← hcc]
          have BW4 : Hid (Below W.heap.size W w4) := Lib.hid (BW3.out.trans (hb.mono BW3.out.size))
          have LOcc : Hid (W.heap.size ≤ cc) := Lib.hid (by rw [hcc]; exact BW3.out.size)
          have F0' := Lib.hid (F0.out.keep hb); clear F0; have F0 := F0'; clear F0'
          have F5' := Lib.hid (F5.out.keep hb); clear F5; have F5 := F5'; clear F5'
          have F10' := Lib.hid (F10.out.keep hb); clear F10; have F10 := F10'; clear F10'
          have F17 : Hid (Blk w4 cc 25 #[.pointer none]) := Lib.hid hf
          clear hf hb hcc
          refine hK.out _ _ (HS.out _ BW4.out) (fun hHeld => ?_)
          clear hK K BW3
          try simp only [Act.put, List.setIfInBounds_toArray, List.set_cons_zero, List.set_cons_succ, List.getElem_toArray, List.getElem_cons_zero, List.getElem_cons_succ]
          refine wpAnyH_ready (rs := [16]) (by kernel_rfl) (by simp) (AllReadyH.cons rfl (fun K hK => ?_) AllReadyH.nil)
          clear hHeld
          go_simp
          obtain ⟨w5, hw2⟩ : ∃ w', w' = w4.alloc (.cells #[.map (some b4), .map (some b9), .map (some b14), .int .i64 (no : Int)] 56) := ⟨_, rfl⟩
          have hb : Below w4.heap.size w4 w5 := by rw [hw2]; exact (Below.refl _ _).alloc (Nat.le_refl _) _
          have hf : Blk w5 w4.heap.size 56 #[.map (some b4), .map (some b9), .map (some b14), .int .i64 (no : Int)] := by rw [hw2]; exact Blk.new _ _ _ rfl
          rw [← hw2]
          clear hw2
          obtain ⟨g, hg⟩ : ∃ q, q = w4.heap.size := ⟨_, rfl⟩
          rw [← hg] at hf
          rw [← hg]
          have BW5 : Hid (Below W.heap.size W w5) := Lib.hid (BW4.out.trans (hb.mono BW4.out.size))
          have LOg : Hid (W.heap.size ≤ g) := Lib.hid (by rw [hg]; exact BW4.out.size)
          have F0' := Lib.hid (F0.out.keep hb); clear F0; have F0 := F0'; clear F0'
          have F5' := Lib.hid (F5.out.keep hb); clear F5; have F5 := F5'; clear F5'
          have F10' := Lib.hid (F10.out.keep hb); clear F10; have F10 := F10'; clear F10'
          have F17' := Lib.hid (F17.out.keep hb); clear F17; have F17 := F17'; clear F17'
          have F16 : Hid (Blk w5 g 56 #[.map (some b4), .map (some b9), .map (some b14), .int .i64 (no : Int)]) := Lib.hid hf
          clear hf hb hg
          refine hK.out _ _ (HS.out _ BW5.out) (fun hHeld => ?_)
          clear hK K BW4
          try simp only [Act.put, List.setIfInBounds_toArray, List.set_cons_zero, List.set_cons_succ, List.getElem_toArray, List.getElem_cons_zero, List.getElem_cons_succ]
          have k0 : w5.cell? ⟨cc, 0, none⟩ = some (.pointer none) := (F17.out.cell 0).trans rfl
          have kf : w5.frozen? ⟨cc, 0, none⟩ = false := F17.out.frozen 0
          have CS : Chg (fun q => q = cc) w5 (w5.setCell ⟨cc, 0, none⟩ (.pointer (some ⟨g, 0, none⟩))) := Chg.setCell (S := fun q => q = cc) (p := ⟨cc, 0, none⟩) (Chg.refl _ _) (.inl rfl) _
          have hCP : CPS W (w5.setCell ⟨cc, 0, none⟩ (.pointer (some ⟨g, 0, none⟩))) n d b4 b9 b14 g cc := ⟨BW5.out.trans (CS.below (fun k hk e => by have := LOcc.out; omega) BW5.out.size), F0.out.chg CS (F0.out.ne_blk F17.out).symm, F5.out.chg CS (F5.out.ne_blk F17.out).symm, F10.out.chg CS (F10.out.ne_blk F17.out).symm, by rw [← HNO.out]; exact F16.out.chg CS (F16.out.ne_type F17.out (by decide)), F17.out.set_ 0 _, LOg.out, LOb4.out, LOb9.out, LOb14.out, (ne_of NE0_5.out (fun h e => by first | exact h e | exact h e.symm)), (ne_of NE0_10.out (fun h e => by first | exact h e | exact h e.symm)), (ne_of NE5_10.out (fun h e => by first | exact h e | exact h e.symm))⟩
          have CP := Lib.hid hCP
          refine wpAnyH_ready (rs := [18]) (by kernel_rfl) (by simp) (AllReadyH.cons rfl (fun K hK => ?_) AllReadyH.nil)
          clear hHeld
          go_simp
          refine hK.out _ _ (HS.out _ hCP.bel) (fun hHeld => ?_)
          clear hK K hCP
          try simp only [Act.put, List.setIfInBounds_toArray, List.set_cons_zero, List.set_cons_succ, List.getElem_toArray, List.getElem_cons_zero, List.getElem_cons_succ]
          refine wpAnyH_done (by kernel_rfl) ?_ _
          obtain ⟨wL, hwL⟩ : ∃ wL, wL = w5.setCell ⟨cc, 0, none⟩ (.pointer (some ⟨g, 0, none⟩)) := ⟨_, rfl⟩
          rw [← hwL] at CP ⊢
          have CC := Lib.hid (HE.out _ _ _ _ _ _ CP.out)
          clear hHeld hwL k0 kf CS F0 F5 F10 F16 F17
          go_wp2_with fail
          refine CC.out.mono ?_
          rintro e wM ⟨rfl, kc, hq⟩
          have HF := Lib.hid hq
          clear hq CC
          go_wp2_with fail
          go_ret
          exact HF.out
      ·
        clear hHeld
        go_simp
        obtain ⟨w3, hw2⟩ : ∃ w', w' = w2.alloc (.cells #[.pointer none] 25) := ⟨_, rfl⟩
        have hb : Below w2.heap.size w2 w3 := by rw [hw2]; exact (Below.refl _ _).alloc (Nat.le_refl _) _
        have hf : Blk w3 w2.heap.size 25 #[.pointer none] := by rw [hw2]; exact Blk.new _ _ _ rfl
        rw [← hw2]
        clear hw2
        obtain ⟨cc, hcc⟩ : ∃ q, q = w2.heap.size := ⟨_, rfl⟩
        rw [← hcc] at hf
        rw [← hcc]
        have BW3 : Hid (Below W.heap.size W w3) := Lib.hid (BW2.out.trans (hb.mono BW2.out.size))
        have LOcc : Hid (W.heap.size ≤ cc) := Lib.hid (by rw [hcc]; exact BW2.out.size)
        have F0' := Lib.hid (F0.out.keep hb); clear F0; have F0 := F0'; clear F0'
        have F5' := Lib.hid (F5.out.keep hb); clear F5; have F5 := F5'; clear F5'
        have F17 : Hid (Blk w3 cc 25 #[.pointer none]) := Lib.hid hf
        clear hf hb hcc
        refine hK.out _ _ (HS.out _ BW3.out) (fun hHeld => ?_)
        clear hK K BW2
        try simp only [Act.put, List.setIfInBounds_toArray, List.set_cons_zero, List.set_cons_succ, List.getElem_toArray, List.getElem_cons_zero, List.getElem_cons_succ]
        refine wpAnyH_ready (rs := [10]) (by kernel_rfl) (by simp) (AllReadyH.cons rfl (fun K hK => ?_) AllReadyH.nil)
        clear hHeld
        go_simp
        refine (HC14.out w3 BW3.out).mono ?_
        rintro e w4 ⟨rfl, hf, hb⟩
        obtain ⟨b14, hb14⟩ : ∃ q, q = w3.heap.size := ⟨_, rfl⟩
        rw [← hb14] at hf
        rw [← hb14]
        have BW4 : Hid (Below W.heap.size W w4) := Lib.hid (BW3.out.trans (hb.mono BW3.out.size))
        have LOb14 : Hid (W.heap.size ≤ b14) := Lib.hid (by rw [hb14]; exact BW3.out.size)
        have NE0_10 : Hid (b4 ≠ b14) := Lib.hid (fun e => by have := F0.out.lt; omega)
        have F0' := Lib.hid (F0.out.keep hb); clear F0; have F0 := F0'; clear F0'
        have NE5_10 : Hid (b9 ≠ b14) := Lib.hid (fun e => by have := F5.out.lt; omega)
        have F5' := Lib.hid (F5.out.keep hb); clear F5; have F5 := F5'; clear F5'
        have F17' := Lib.hid (F17.out.keep hb); clear F17; have F17 := F17'; clear F17'
        have F10 : Hid (FM Try.prog 9 sL iD (plainElem Try.prog 3) w4 b14 n d.se) := Lib.hid hf
        clear hf hb hb14
        refine hK.out _ _ (HS.out _ BW4.out) (fun hHeld => ?_)
        clear hK K BW3
        try simp only [Act.put, List.setIfInBounds_toArray, List.set_cons_zero, List.set_cons_succ, List.getElem_toArray, List.getElem_cons_zero, List.getElem_cons_succ]
        refine wpAnyH_take (i := 15) (v := ?_) rfl (by kernel_rfl) (by kernel_rfl) (by kernel_rfl) (fun _ _ _ h => h) (Or.inl ⟨by rfl, ?_⟩) (by assumption) ?_
        rotate_left 1
        · intro w hSw; (try dsimp only at hSw); go_simp <;> with_reducible rfl
        try simp only [Act.put, List.setIfInBounds_toArray, List.set_cons_zero, List.set_cons_succ, List.getElem_toArray, List.getElem_cons_zero, List.getElem_cons_succ]
        refine wpAnyH_ready (rs := [16]) (by kernel_rfl) (by simp) (AllReadyH.cons rfl (fun K hK => ?_) AllReadyH.nil)
        clear hHeld
        go_simp
        obtain ⟨w5, hw2⟩ : ∃ w', w' = w4.alloc (.cells #[.map (some b4), .map (some b9), .map (some b14), .int .i64 (no : Int)] 56) := ⟨_, rfl⟩
        have hb : Below w4.heap.size w4 w5 := by rw [hw2]; exact (Below.refl _ _).alloc (Nat.le_refl _) _
        have hf : Blk w5 w4.heap.size 56 #[.map (some b4), .map (some b9), .map (some b14), .int .i64 (no : Int)] := by rw [hw2]; exact Blk.new _ _ _ rfl
        rw [← hw2]
        clear hw2
        obtain ⟨g, hg⟩ : ∃ q, q = w4.heap.size := ⟨_, rfl⟩
        rw [← hg] at hf
        rw [← hg]
        have BW5 : Hid (Below W.heap.size W w5) := Lib.hid (BW4.out.trans (hb.mono BW4.out.size))
        have LOg : Hid (W.heap.size ≤ g) := Lib.hid (by rw [hg]; exact BW4.out.size)
        have F0' := Lib.hid (F0.out.keep hb); clear F0; have F0 := F0'; clear F0'
        have F5' := Lib.hid (F5.out.keep hb); clear F5; have F5 := F5'; clear F5'
        have F10' := Lib.hid (F10.out.keep hb); clear F10; have F10 := F10'; clear F10'
        have F17' := Lib.hid (F17.out.keep hb); clear F17; have F17 := F17'; clear F17'
        have F16 : Hid (Blk w5 g 56 #[.map (some b4), .map (some b9), .map (some b14), .int .i64 (no : Int)]) := Lib.hid hf
        clear hf hb hg
        refine hK.out _ _ (HS.out _ BW5.out) (fun hHeld => ?_)
        clear hK K BW4
        try simp only [Act.put, List.setIfInBounds_toArray, List.set_cons_zero, List.set_cons_succ, List.getElem_toArray, List.getElem_cons_zero, List.getElem_cons_succ]
        have k0 : w5.cell? ⟨cc, 0, none⟩ = some (.pointer none) := (F17.out.cell 0).trans rfl
        have kf : w5.frozen? ⟨cc, 0, none⟩ = false := F17.out.frozen 0
        have CS : Chg (fun q => q = cc) w5 (w5.setCell ⟨cc, 0, none⟩ (.pointer (some ⟨g, 0, none⟩))) := Chg.setCell (S := fun q => q = cc) (p := ⟨cc, 0, none⟩) (Chg.refl _ _) (.inl rfl) _
        have hCP : CPS W (w5.setCell ⟨cc, 0, none⟩ (.pointer (some ⟨g, 0, none⟩))) n d b4 b9 b14 g cc := ⟨BW5.out.trans (CS.below (fun k hk e => by have := LOcc.out; omega) BW5.out.size), F0.out.chg CS (F0.out.ne_blk F17.out).symm, F5.out.chg CS (F5.out.ne_blk F17.out).symm, F10.out.chg CS (F10.out.ne_blk F17.out).symm, by rw [← HNO.out]; exact F16.out.chg CS (F16.out.ne_type F17.out (by decide)), F17.out.set_ 0 _, LOg.out, LOb4.out, LOb9.out, LOb14.out, (ne_of NE0_5.out (fun h e => by first | exact h e | exact h e.symm)), (ne_of NE0_10.out (fun h e => by first | exact h e | exact h e.symm)), (ne_of NE5_10.out (fun h e => by first | exact h e | exact h e.symm))⟩
        have CP := Lib.hid hCP
        refine wpAnyH_ready (rs := [18]) (by kernel_rfl) (by simp) (AllReadyH.cons rfl (fun K hK => ?_) AllReadyH.nil)
        clear hHeld
        go_simp
        refine hK.out _ _ (HS.out _ hCP.bel) (fun hHeld => ?_)
        clear hK K hCP
        try simp only [Act.put, List.setIfInBounds_toArray, List.set_cons_zero, List.set_cons_succ, List.getElem_toArray, List.getElem_cons_zero, List.getElem_cons_succ]
        refine wpAnyH_done (by kernel_rfl) ?_ _
        obtain ⟨wL, hwL⟩ : ∃ wL, wL = w5.setCell ⟨cc, 0, none⟩ (.pointer (some ⟨g, 0, none⟩)) := ⟨_, rfl⟩
        rw [← hwL] at CP ⊢
        have CC := Lib.hid (HE.out _ _ _ _ _ _ CP.out)
        clear hHeld hwL k0 kf CS F0 F5 F10 F16 F17
        go_wp2_with fail
        refine CC.out.mono ?_
        rintro e wM ⟨rfl, kc, hq⟩
        have HF := Lib.hid hq
        clear hq CC
        go_wp2_with fail
        go_ret
        exact HF.out
    ·
      clear hHeld
      go_simp
      obtain ⟨w2, hw2⟩ : ∃ w', w' = w1.alloc (.cells #[.pointer none] 25) := ⟨_, rfl⟩
      have hb : Below w1.heap.size w1 w2 := by rw [hw2]; exact (Below.refl _ _).alloc (Nat.le_refl _) _
      have hf : Blk w2 w1.heap.size 25 #[.pointer none] := by rw [hw2]; exact Blk.new _ _ _ rfl
      rw [← hw2]
      clear hw2
      obtain ⟨cc, hcc⟩ : ∃ q, q = w1.heap.size := ⟨_, rfl⟩
      rw [← hcc] at hf
      rw [← hcc]
      have BW2 : Hid (Below W.heap.size W w2) := Lib.hid (BW1.out.trans (hb.mono BW1.out.size))
      have LOcc : Hid (W.heap.size ≤ cc) := Lib.hid (by rw [hcc]; exact BW1.out.size)
      have F0' := Lib.hid (F0.out.keep hb); clear F0; have F0 := F0'; clear F0'
      have F17 : Hid (Blk w2 cc 25 #[.pointer none]) := Lib.hid hf
      clear hf hb hcc
      refine hK.out _ _ (HS.out _ BW2.out) (fun hHeld => ?_)
      clear hK K BW1
      try simp only [Act.put, List.setIfInBounds_toArray, List.set_cons_zero, List.set_cons_succ, List.getElem_toArray, List.getElem_cons_zero, List.getElem_cons_succ]
      refine wpAnyH_ready (rs := [5]) (by kernel_rfl) (by simp) (AllReadyH.cons rfl (fun K hK => ?_) AllReadyH.nil)
      clear hHeld
      go_simp
      refine (HC9.out w2 BW2.out).mono ?_
      rintro e w3 ⟨rfl, hf, hb⟩
      obtain ⟨b9, hb9⟩ : ∃ q, q = w2.heap.size := ⟨_, rfl⟩
      rw [← hb9] at hf
      rw [← hb9]
      have BW3 : Hid (Below W.heap.size W w3) := Lib.hid (BW2.out.trans (hb.mono BW2.out.size))
      have LOb9 : Hid (W.heap.size ≤ b9) := Lib.hid (by rw [hb9]; exact BW2.out.size)
      have NE0_5 : Hid (b4 ≠ b9) := Lib.hid (fun e => by have := F0.out.lt; omega)
      have F0' := Lib.hid (F0.out.keep hb); clear F0; have F0 := F0'; clear F0'
      have F17' := Lib.hid (F17.out.keep hb); clear F17; have F17 := F17'; clear F17'
      have F5 : Hid (FM Try.prog 9 sL iD (plainElem Try.prog 3) w3 b9 n d.ns) := Lib.hid hf
      clear hf hb hb9
      refine hK.out _ _ (HS.out _ BW3.out) (fun hHeld => ?_)
      clear hK K BW2
      try simp only [Act.put, List.setIfInBounds_toArray, List.set_cons_zero, List.set_cons_succ, List.getElem_toArray, List.getElem_cons_zero, List.getElem_cons_succ]
      refine wpAnyH_ready (rs := [10]) (by kernel_rfl) (by simp) (AllReadyH.cons rfl (fun K hK => ?_) AllReadyH.nil)
      clear hHeld
      go_simp
      refine (HC14.out w3 BW3.out).mono ?_
      rintro e w4 ⟨rfl, hf, hb⟩
      obtain ⟨b14, hb14⟩ : ∃ q, q = w3.heap.size := ⟨_, rfl⟩
      rw [← hb14] at hf
      rw [← hb14]
      have BW4 : Hid (Below W.heap.size W w4) := Lib.hid (BW3.out.trans (hb.mono BW3.out.size))
      have LOb14 : Hid (W.heap.size ≤ b14) := Lib.hid (by rw [hb14]; exact BW3.out.size)
      have NE0_10 : Hid (b4 ≠ b14) := Lib.hid (fun e => by have := F0.out.lt; omega)
      have F0' := Lib.hid (F0.out.keep hb); clear F0; have F0 := F0'; clear F0'
      have NE5_10 : Hid (b9 ≠ b14) := Lib.hid (fun e => by have := F5.out.lt; omega)
      have F5' := Lib.hid (F5.out.keep hb); clear F5; have F5 := F5'; clear F5'
      have F17' := Lib.hid (F17.out.keep hb); clear F17; have F17 := F17'; clear F17'
      have F10 : Hid (FM Try.prog 9 sL iD (plainElem Try.prog 3) w4 b14 n d.se) := Lib.hid hf
      clear hf hb hb14
      refine hK.out _ _ (HS.out _ BW4.out) (fun hHeld => ?_)
      clear hK K BW3
      try simp only [Act.put, List.setIfInBounds_toArray, List.set_cons_zero, List.set_cons_succ, List.getElem_toArray, List.getElem_cons_zero, List.getElem_cons_succ]
      refine wpAnyH_take (i := 15) (v := ?_) rfl (by kernel_rfl) (by kernel_rfl) (by kernel_rfl) (fun _ _ _ h => h) (Or.inl ⟨by rfl, ?_⟩) (by assumption) ?_
      rotate_left 1
      · intro w hSw; (try dsimp only at hSw); go_simp <;> with_reducible rfl
      try simp only [Act.put, List.setIfInBounds_toArray, List.set_cons_zero, List.set_cons_succ, List.getElem_toArray, List.getElem_cons_zero, List.getElem_cons_succ]
      refine wpAnyH_ready (rs := [16]) (by kernel_rfl) (by simp) (AllReadyH.cons rfl (fun K hK => ?_) AllReadyH.nil)
      clear hHeld
      go_simp
      obtain ⟨w5, hw2⟩ : ∃ w', w' = w4.alloc (.cells #[.map (some b4), .map (some b9), .map (some b14), .int .i64 (no : Int)] 56) := ⟨_, rfl⟩
      have hb : Below w4.heap.size w4 w5 := by rw [hw2]; exact (Below.refl _ _).alloc (Nat.le_refl _) _
      have hf : Blk w5 w4.heap.size 56 #[.map (some b4), .map (some b9), .map (some b14), .int .i64 (no : Int)] := by rw [hw2]; exact Blk.new _ _ _ rfl
      rw [← hw2]
      clear hw2
      obtain ⟨g, hg⟩ : ∃ q, q = w4.heap.size := ⟨_, rfl⟩
      rw [← hg] at hf
      rw [← hg]
      have BW5 : Hid (Below W.heap.size W w5) := Lib.hid (BW4.out.trans (hb.mono BW4.out.size))
      have LOg : Hid (W.heap.size ≤ g) := Lib.hid (by rw [hg]; exact BW4.out.size)
      have F0' := Lib.hid (F0.out.keep hb); clear F0; have F0 := F0'; clear F0'
      have F5' := Lib.hid (F5.out.keep hb); clear F5; have F5 := F5'; clear F5'
      have F10' := Lib.hid (F10.out.keep hb); clear F10; have F10 := F10'; clear F10'
      have F17' := Lib.hid (F17.out.keep hb); clear F17; have F17 := F17'; clear F17'
      have F16 : Hid (Blk w5 g 56 #[.map (some b4), .map (some b9), .map (some b14), .int .i64 (no : Int)]) := Lib.hid hf
      clear hf hb hg
      refine hK.out _ _ (HS.out _ BW5.out) (fun hHeld => ?_)
      clear hK K BW4
      try simp only [Act.put, List.setIfInBounds_toArray, List.set_cons_zero, List.set_cons_succ, List.getElem_toArray, List.getElem_cons_zero, List.getElem_cons_succ]
      have k0 : w5.cell? ⟨cc, 0, none⟩ = some (.pointer none) := (F17.out.cell 0).trans rfl
      have kf : w5.frozen? ⟨cc, 0, none⟩ = false := F17.out.frozen 0
      have CS : Chg (fun q => q = cc) w5 (w5.setCell ⟨cc, 0, none⟩ (.pointer (some ⟨g, 0, none⟩))) := Chg.setCell (S := fun q => q = cc) (p := ⟨cc, 0, none⟩) (Chg.refl _ _) (.inl rfl) _
      have hCP : CPS W (w5.setCell ⟨cc, 0, none⟩ (.pointer (some ⟨g, 0, none⟩))) n d b4 b9 b14 g cc := ⟨BW5.out.trans (CS.below (fun k hk e => by have := LOcc.out; omega) BW5.out.size), F0.out.chg CS (F0.out.ne_blk F17.out).symm, F5.out.chg CS (F5.out.ne_blk F17.out).symm, F10.out.chg CS (F10.out.ne_blk F17.out).symm, by rw [← HNO.out]; exact F16.out.chg CS (F16.out.ne_type F17.out (by decide)), F17.out.set_ 0 _, LOg.out, LOb4.out, LOb9.out, LOb14.out, (ne_of NE0_5.out (fun h e => by first | exact h e | exact h e.symm)), (ne_of NE0_10.out (fun h e => by first | exact h e | exact h e.symm)), (ne_of NE5_10.out (fun h e => by first | exact h e | exact h e.symm))⟩
      have CP := Lib.hid hCP
      refine wpAnyH_ready (rs := [18]) (by kernel_rfl) (by simp) (AllReadyH.cons rfl (fun K hK => ?_) AllReadyH.nil)
      clear hHeld
      go_simp
      refine hK.out _ _ (HS.out _ hCP.bel) (fun hHeld => ?_)
      clear hK K hCP
      try simp only [Act.put, List.setIfInBounds_toArray, List.set_cons_zero, List.set_cons_succ, List.getElem_toArray, List.getElem_cons_zero, List.getElem_cons_succ]
      refine wpAnyH_done (by kernel_rfl) ?_ _
      obtain ⟨wL, hwL⟩ : ∃ wL, wL = w5.setCell ⟨cc, 0, none⟩ (.pointer (some ⟨g, 0, none⟩)) := ⟨_, rfl⟩
      rw [← hwL] at CP ⊢
      have CC := Lib.hid (HE.out _ _ _ _ _ _ CP.out)
      clear hHeld hwL k0 kf CS F0 F5 F10 F16 F17
      go_wp2_with fail
      refine CC.out.mono ?_
      rintro e wM ⟨rfl, kc, hq⟩
      have HF := Lib.hid hq
      clear hq CC
      go_wp2_with fail
      go_ret
      exact HF.out
  ·
    clear hHeld
    go_simp
    refine (HC9.out w0 BW0.out).mono ?_
    rintro e w1 ⟨rfl, hf, hb⟩
    obtain ⟨b9, hb9⟩ : ∃ q, q = w0.heap.size := ⟨_, rfl⟩
    rw [← hb9] at hf
    rw [← hb9]
    have BW1 : Hid (Below W.heap.size W w1) := Lib.hid (BW0.out.trans (hb.mono BW0.out.size))
    have LOb9 : Hid (W.heap.size ≤ b9) := Lib.hid (by rw [hb9]; exact BW0.out.size)
    have F5 : Hid (FM Try.prog 9 sL iD (plainElem Try.prog 3) w1 b9 n d.ns) := Lib.hid hf
    clear hf hb hb9
    refine hK.out _ _ (HS.out _ BW1.out) (fun hHeld => ?_)
    clear hK K BW0
    try simp only [Act.put, List.setIfInBounds_toArray, List.set_cons_zero, List.set_cons_succ, List.getElem_toArray, List.getElem_cons_zero, List.getElem_cons_succ]
    refine wpAnyH_ready (rs := [0, 10, 17]) (by kernel_rfl) (by simp) (AllReadyH.cons rfl (fun K hK => ?_) (AllReadyH.cons rfl (fun K hK => ?_) (AllReadyH.cons rfl (fun K hK => ?_) AllReadyH.nil)))
    ·
      clear hHeld
      go_simp
      obtain ⟨w2, hw2⟩ : ∃ w', w' = w1.alloc (.map #[] 0) := ⟨_, rfl⟩
      have hb : Below w1.heap.size w1 w2 := by rw [hw2]; exact (Below.refl _ _).alloc (Nat.le_refl _) _
      have hf : FM Try.prog 3 iL pD ptrE w2 w1.heap.size 0 (fun _ => none) := by rw [hw2]; exact FM.made _ _ _ _ _ _
      rw [← hw2]
      clear hw2
      obtain ⟨b4, hb4⟩ : ∃ q, q = w1.heap.size := ⟨_, rfl⟩
      rw [← hb4] at hf
      rw [← hb4]
      have BW2 : Hid (Below W.heap.size W w2) := Lib.hid (BW1.out.trans (hb.mono BW1.out.size))
      have LOb4 : Hid (W.heap.size ≤ b4) := Lib.hid (by rw [hb4]; exact BW1.out.size)
      have NE0_5 : Hid (b9 ≠ b4) := Lib.hid (fun e => by have := F5.out.lt; omega)
      have F5' := Lib.hid (F5.out.keep hb); clear F5; have F5 := F5'; clear F5'
      have F0 : Hid (FM Try.prog 3 iL pD ptrE w2 b4 0 (fun _ => none)) := Lib.hid hf
      clear hf hb hb4
      refine hK.out _ _ (HS.out _ BW2.out) (fun hHeld => ?_)
      clear hK K BW1
      try simp only [Act.put, List.setIfInBounds_toArray, List.set_cons_zero, List.set_cons_succ, List.getElem_toArray, List.getElem_cons_zero, List.getElem_cons_succ]
      refine wpAnyH_ready (rs := [10, 17]) (by kernel_rfl) (by simp) (AllReadyH.cons rfl (fun K hK => ?_) (AllReadyH.cons rfl (fun K hK => ?_) AllReadyH.nil))
      ·
        clear hHeld
        go_simp
        refine (HC14.out w2 BW2.out).mono ?_
        rintro e w3 ⟨rfl, hf, hb⟩
        obtain ⟨b14, hb14⟩ : ∃ q, q = w2.heap.size := ⟨_, rfl⟩
        rw [← hb14] at hf
        rw [← hb14]
        have BW3 : Hid (Below W.heap.size W w3) := Lib.hid (BW2.out.trans (hb.mono BW2.out.size))
        have LOb14 : Hid (W.heap.size ≤ b14) := Lib.hid (by rw [hb14]; exact BW2.out.size)
        have NE0_10 : Hid (b4 ≠ b14) := Lib.hid (fun e => by have := F0.out.lt; omega)
        have F0' := Lib.hid (F0.out.keep hb); clear F0; have F0 := F0'; clear F0'
        have NE5_10 : Hid (b9 ≠ b14) := Lib.hid (fun e => by have := F5.out.lt; omega)
        have F5' := Lib.hid (F5.out.keep hb); clear F5; have F5 := F5'; clear F5'
        have F10 : Hid (FM Try.prog 9 sL iD (plainElem Try.prog 3) w3 b14 n d.se) := Lib.hid hf
        clear hf hb hb14
        refine hK.out _ _ (HS.out _ BW3.out) (fun hHeld => ?_)
        clear hK K BW2
        try simp only [Act.put, List.setIfInBounds_toArray, List.set_cons_zero, List.set_cons_succ, List.getElem_toArray, List.getElem_cons_zero, List.getElem_cons_succ]
        refine wpAnyH_take (i := 15) (v := ?_) rfl (by kernel_rfl) (by kernel_rfl) (by kernel_rfl) (fun _ _ _ h => h) (Or.inl ⟨by rfl, ?_⟩) (by assumption) ?_
        rotate_left 1
        · intro w hSw; (try dsimp only at hSw); go_simp <;> with_reducible rfl
        try simp only [Act.put, List.setIfInBounds_toArray, List.set_cons_zero, List.set_cons_succ, List.getElem_toArray, List.getElem_cons_zero, List.getElem_cons_succ]
        refine wpAnyH_ready (rs := [16, 17]) (by kernel_rfl) (by simp) (AllReadyH.cons rfl (fun K hK => ?_) (AllReadyH.cons rfl (fun K hK => ?_) AllReadyH.nil))
        ·
          clear hHeld
          go_simp
          obtain ⟨w4, hw2⟩ : ∃ w', w' = w3.alloc (.cells #[.map (some b4), .map (some b9), .map (some b14), .int .i64 (no : Int)] 56) := ⟨_, rfl⟩
          have hb : Below w3.heap.size w3 w4 := by rw [hw2]; exact (Below.refl _ _).alloc (Nat.le_refl _) _
          have hf : Blk w4 w3.heap.size 56 #[.map (some b4), .map (some b9), .map (some b14), .int .i64 (no : Int)] := by rw [hw2]; exact Blk.new _ _ _ rfl
          rw [← hw2]
          clear hw2
          obtain ⟨g, hg⟩ : ∃ q, q = w3.heap.size := ⟨_, rfl⟩
          rw [← hg] at hf
          rw [← hg]
          have BW4 : Hid (Below W.heap.size W w4) := Lib.hid (BW3.out.trans (hb.mono BW3.out.size))
          have LOg : Hid (W.heap.size ≤ g) := Lib.hid (by rw [hg]; exact BW3.out.size)
          have F0' := Lib.hid (F0.out.keep hb); clear F0; have F0 := F0'; clear F0'
          have F5' := Lib.hid (F5.out.keep hb); clear F5; have F5 := F5'; clear F5'
          have F10' := Lib.hid (F10.out.keep hb); clear F10; have F10 := F10'; clear F10'
          have F16 : Hid (Blk w4 g 56 #[.map (some b4), .map (some b9), .map (some b14), .int .i64 (no : Int)]) := Lib.hid hf
          clear hf hb hg
          refine hK.out _ _ (HS.out _ BW4.out) (fun hHeld => ?_)
          clear hK K BW3
          try simp only [Act.put, List.setIfInBounds_toArray, List.set_cons_zero, List.set_cons_succ, List.getElem_toArray, List.getElem_cons_zero, List.getElem_cons_succ]
          refine wpAnyH_ready (rs := [17]) (by kernel_rfl) (by simp) (AllReadyH.cons rfl (fun K hK => ?_) AllReadyH.nil)
          clear hHeld
          go_simp
          obtain ⟨w5, hw2⟩ : ∃ w', w' = w4.alloc (.cells #[.pointer none] 25) := ⟨_, rfl⟩
          have hb : Below w4.heap.size w4 w5 := by rw [hw2]; exact (Below.refl _ _).alloc (Nat.le_refl _) _
          have hf : Blk w5 w4.heap.size 25 #[.pointer none] := by rw [hw2]; exact Blk.new _ _ _ rfl
          rw [← hw2]
          clear hw2
          obtain ⟨cc, hcc⟩ : ∃ q, q = w4.heap.size := ⟨_, rfl⟩
          rw [← hcc] at hf
          rw [← hcc]
          have BW5 : Hid (Below W.heap.size W w5) := Lib.hid (BW4.out.trans (hb.mono BW4.out.size))
          have LOcc : Hid (W.heap.size ≤ cc) := Lib.hid (by rw [hcc]; exact BW4.out.size)
          have F0' := Lib.hid (F0.out.keep hb); clear F0; have F0 := F0'; clear F0'
          have F5' := Lib.hid (F5.out.keep hb); clear F5; have F5 := F5'; clear F5'
          have F10' := Lib.hid (F10.out.keep hb); clear F10; have F10 := F10'; clear F10'
          have F16' := Lib.hid (F16.out.keep hb); clear F16; have F16 := F16'; clear F16'
          have F17 : Hid (Blk w5 cc 25 #[.pointer none]) := Lib.hid hf
          clear hf hb hcc
          refine hK.out _ _ (HS.out _ BW5.out) (fun hHeld => ?_)
          clear hK K BW4
          try simp only [Act.put, List.setIfInBounds_toArray, List.set_cons_zero, List.set_cons_succ, List.getElem_toArray, List.getElem_cons_zero, List.getElem_cons_succ]
          have k0 : w5.cell? ⟨cc, 0, none⟩ = some (.pointer none) := (F17.out.cell 0).trans rfl
          have kf : w5.frozen? ⟨cc, 0, none⟩ = false := F17.out.frozen 0
          have CS : Chg (fun q => q = cc) w5 (w5.setCell ⟨cc, 0, none⟩ (.pointer (some ⟨g, 0, none⟩))) := Chg.setCell (S := fun q => q = cc) (p := ⟨cc, 0, none⟩) (Chg.refl _ _) (.inl rfl) _
          have hCP : CPS W (w5.setCell ⟨cc, 0, none⟩ (.pointer (some ⟨g, 0, none⟩))) n d b4 b9 b14 g cc := ⟨BW5.out.trans (CS.below (fun k hk e => by have := LOcc.out; omega) BW5.out.size), F0.out.chg CS (F0.out.ne_blk F17.out).symm, F5.out.chg CS (F5.out.ne_blk F17.out).symm, F10.out.chg CS (F10.out.ne_blk F17.out).symm, by rw [← HNO.out]; exact F16.out.chg CS (F16.out.ne_type F17.out (by decide)), F17.out.set_ 0 _, LOg.out, LOb4.out, LOb9.out, LOb14.out, (ne_of NE0_5.out (fun h e => by first | exact h e | exact h e.symm)), (ne_of NE0_10.out (fun h e => by first | exact h e | exact h e.symm)), (ne_of NE5_10.out (fun h e => by first | exact h e | exact h e.symm))⟩
          have CP := Lib.hid hCP
          refine wpAnyH_ready (rs := [18]) (by kernel_rfl) (by simp) (AllReadyH.cons rfl (fun K hK => ?_) AllReadyH.nil)
          clear hHeld
          go_simp
          refine hK.out _ _ (HS.out _ hCP.bel) (fun hHeld => ?_)
          clear hK K hCP
          try simp only [Act.put, List.setIfInBounds_toArray, List.set_cons_zero, List.set_cons_succ, List.getElem_toArray, List.getElem_cons_zero, List.getElem_cons_succ]
          refine wpAnyH_done (by kernel_rfl) ?_ _
          obtain ⟨wL, hwL⟩ : ∃ wL, wL = w5.setCell ⟨cc, 0, none⟩ (.pointer (some ⟨g, 0, none⟩)) := ⟨_, rfl⟩
          rw [← hwL] at CP ⊢
          have CC := Lib.hid (HE.out _ _ _ _ _ _ CP.out)
          clear hHeld hwL k0 kf CS F0 F5 F10 F16 F17
          go_wp2_with fail
          refine CC.out.mono ?_
          rintro e wM ⟨rfl, kc, hq⟩
          have HF := Lib.hid hq
          clear hq CC
          go_wp2_with fail
          go_ret
          exact HF.out
        ·
          clear hHeld
          go_simp
          obtain ⟨w4, hw2⟩ : ∃ w', w' = w3.alloc (.cells #[.pointer none] 25) := ⟨_, rfl⟩
          have hb : Below w3.heap.size w3 w4 := by rw [hw2]; exact (Below.refl _ _).alloc (Nat.le_refl _) _
          have hf : Blk w4 w3.heap.size 25 #[.pointer none] := by rw [hw2]; exact Blk.new _ _ _ rfl
          rw [← hw2]
          clear hw2
          obtain ⟨cc, hcc⟩ : ∃ q, q = w3.heap.size := ⟨_, rfl⟩
          rw [← hcc] at hf
          rw [← hcc]
          have BW4 : Hid (Below W.heap.size W w4) := Lib.hid (BW3.out.trans (hb.mono BW3.out.size))
          have LOcc : Hid (W.heap.size ≤ cc) := Lib.hid (by rw [hcc]; exact BW3.out.size)
          have F0' := Lib.hid (F0.out.keep hb); clear F0; have F0 := F0'; clear F0'
          have F5' := Lib.hid (F5.out.keep hb); clear F5; have F5 := F5'; clear F5'
          have F10' := Lib.hid (F10.out.keep hb); clear F10; have F10 := F10'; clear F10'
          have F17 : Hid (Blk w4 cc 25 #[.pointer none]) := Lib.hid hf
          clear hf hb hcc
          refine hK.out _ _ (HS.out _ BW4.out) (fun hHeld => ?_)
          clear hK K BW3
          try simp only [Act.put, List.setIfInBounds_toArray, List.set_cons_zero, List.set_cons_succ, List.getElem_toArray, List.getElem_cons_zero, List.getElem_cons_succ]
          refine wpAnyH_ready (rs := [16]) (by kernel_rfl) (by simp) (AllReadyH.cons rfl (fun K hK => ?_) AllReadyH.nil)
          clear hHeld
          go_simp
          obtain ⟨w5, hw2⟩ : ∃ w', w' = w4.alloc (.cells #[.map (some b4), .map (some b9), .map (some b14), .int .i64 (no : Int)] 56) := ⟨_, rfl⟩
          have hb : Below w4.heap.size w4 w5 := by rw [hw2]; exact (Below.refl _ _).alloc (Nat.le_refl _) _
          have hf : Blk w5 w4.heap.size 56 #[.map (some b4), .map (some b9), .map (some b14), .int .i64 (no : Int)] := by rw [hw2]; exact Blk.new _ _ _ rfl
          rw [← hw2]
          clear hw2
          obtain ⟨g, hg⟩ : ∃ q, q = w4.heap.size := ⟨_, rfl⟩
          rw [← hg] at hf
          rw [← hg]
          have BW5 : Hid (Below W.heap.size W w5) := Lib.hid (BW4.out.trans (hb.mono BW4.out.size))
          have LOg : Hid (W.heap.size ≤ g) := Lib.hid (by rw [hg]; exact BW4.out.size)
          have F0' := Lib.hid (F0.out.keep hb); clear F0; have F0 := F0'; clear F0'
          have F5' := Lib.hid (F5.out.keep hb); clear F5; have F5 := F5'; clear F5'
          have F10' := Lib.hid (F10.out.keep hb); clear F10; have F10 := F10'; clear F10'
          have F17' := Lib.hid (F17.out.keep hb); clear F17; have F17 := F17'; clear F17'
          have F16 : Hid (Blk w5 g 56 #[.map (some b4), .map (some b9), .map (some b14), .int .i64 (no : Int)]) := Lib.hid hf
          clear hf hb hg
          refine hK.out _ _ (HS.out _ BW5.out) (fun hHeld => ?_)
          clear hK K BW4
          try simp only [Act.put, List.setIfInBounds_toArray, List.set_cons_zero, List.set_cons_succ, List.getElem_toArray, List.getElem_cons_zero, List.getElem_cons_succ]
          have k0 : w5.cell? ⟨cc, 0, none⟩ = some (.pointer none) := (F17.out.cell 0).trans rfl
          have kf : w5.frozen? ⟨cc, 0, none⟩ = false := F17.out.frozen 0
          have CS : Chg (fun q => q = cc) w5 (w5.setCell ⟨cc, 0, none⟩ (.pointer (some ⟨g, 0, none⟩))) := Chg.setCell (S := fun q => q = cc) (p := ⟨cc, 0, none⟩) (Chg.refl _ _) (.inl rfl) _
          have hCP : CPS W (w5.setCell ⟨cc, 0, none⟩ (.pointer (some ⟨g, 0, none⟩))) n d b4 b9 b14 g cc := ⟨BW5.out.trans (CS.below (fun k hk e => by have := LOcc.out; omega) BW5.out.size), F0.out.chg CS (F0.out.ne_blk F17.out).symm, F5.out.chg CS (F5.out.ne_blk F17.out).symm, F10.out.chg CS (F10.out.ne_blk F17.out).symm, by rw [← HNO.out]; exact F16.out.chg CS (F16.out.ne_type F17.out (by decide)), F17.out.set_ 0 _, LOg.out, LOb4.out, LOb9.out, LOb14.out, (ne_of NE0_5.out (fun h e => by first | exact h e | exact h e.symm)), (ne_of NE0_10.out (fun h e => by first | exact h e | exact h e.symm)), (ne_of NE5_10.out (fun h e => by first | exact h e | exact h e.symm))⟩
          have CP := Lib.hid hCP
          refine wpAnyH_ready (rs := [18]) (by kernel_rfl) (by simp) (AllReadyH.cons rfl (fun K hK => ?_) AllReadyH.nil)
          clear hHeld
          go_simp
          refine hK.out _ _ (HS.out _ hCP.bel) (fun hHeld => ?_)
          clear hK K hCP
          try simp only [Act.put, List.setIfInBounds_toArray, List.set_cons_zero, List.set_cons_succ, List.getElem_toArray, List.getElem_cons_zero, List.getElem_cons_succ]
          refine wpAnyH_done (by kernel_rfl) ?_ _
          obtain ⟨wL, hwL⟩ : ∃ wL, wL = w5.setCell ⟨cc, 0, none⟩ (.pointer (some ⟨g, 0, none⟩)) := ⟨_, rfl⟩
          rw [← hwL] at CP ⊢
          have CC := Lib.hid (HE.out _ _ _ _ _ _ CP.out)
          clear hHeld hwL k0 kf CS F0 F5 F10 F16 F17
          go_wp2_with fail
          refine CC.out.mono ?_
          rintro e wM ⟨rfl, kc, hq⟩
          have HF := Lib.hid hq
          clear hq CC
          go_wp2_with fail
          go_ret
          exact HF.out
      ·
        clear hHeld
        go_simp
        obtain ⟨w3, hw2⟩ : ∃ w', w' = w2.alloc (.cells #[.pointer none] 25) := ⟨_, rfl⟩
        have hb : Below w2.heap.size w2 w3 := by rw [hw2]; exact (Below.refl _ _).alloc (Nat.le_refl _) _
        have hf : Blk w3 w2.heap.size 25 #[.pointer none] := by rw [hw2]; exact Blk.new _ _ _ rfl
        rw [← hw2]
        clear hw2
        obtain ⟨cc, hcc⟩ : ∃ q, q = w2.heap.size := ⟨_, rfl⟩
        rw [← hcc] at hf
        rw [← hcc]
        have BW3 : Hid (Below W.heap.size W w3) := Lib.hid (BW2.out.trans (hb.mono BW2.out.size))
        have LOcc : Hid (W.heap.size ≤ cc) := Lib.hid (by rw [hcc]; exact BW2.out.size)
        have F0' := Lib.hid (F0.out.keep hb); clear F0; have F0 := F0'; clear F0'
        have F5' := Lib.hid (F5.out.keep hb); clear F5; have F5 := F5'; clear F5'
        have F17 : Hid (Blk w3 cc 25 #[.pointer none]) := Lib.hid hf
        clear hf hb hcc
        refine hK.out _ _ (HS.out _ BW3.out) (fun hHeld => ?_)
        clear hK K BW2
        try simp only [Act.put, List.setIfInBounds_toArray, List.set_cons_zero, List.set_cons_succ, List.getElem_toArray, List.getElem_cons_zero, List.getElem_cons_succ]
        refine wpAnyH_ready (rs := [10]) (by kernel_rfl) (by simp) (AllReadyH.cons rfl (fun K hK => ?_) AllReadyH.nil)
        clear hHeld
        go_simp
        refine (HC14.out w3 BW3.out).mono ?_
        rintro e w4 ⟨rfl, hf, hb⟩
        obtain ⟨b14, hb14⟩ : ∃ q, q = w3.heap.size := ⟨_, rfl⟩
        rw [← hb14] at hf
        rw [← hb14]
        have BW4 : Hid (Below W.heap.size W w4) := Lib.hid (BW3.out.trans (hb.mono BW3.out.size))
        have LOb14 : Hid (W.heap.size ≤ b14) := Lib.hid (by rw [hb14]; exact BW3.out.size)
        have NE0_10 : Hid (b4 ≠ b14) := Lib.hid (fun e => by have := F0.out.lt; omega)
        have F0' := Lib.hid (F0.out.keep hb); clear F0; have F0 := F0'; clear F0'
        have NE5_10 : Hid (b9 ≠ b14) := Lib.hid (fun e => by have := F5.out.lt; omega)
        have F5' := Lib.hid (F5.out.keep hb); clear F5; have F5 := F5'; clear F5'
        have F17' := Lib.hid (F17.out.keep hb); clear F17; have F17 := F17'; clear F17'
        have F10 : Hid (FM Try.prog 9 sL iD (plainElem Try.prog 3) w4 b14 n d.se) := Lib.hid hf
        clear hf hb hb14
        refine hK.out _ _ (HS.out _ BW4.out) (fun hHeld => ?_)
        clear hK K BW3
        try simp only [Act.put, List.setIfInBounds_toArray, List.set_cons_zero, List.set_cons_succ, List.getElem_toArray, List.getElem_cons_zero, List.getElem_cons_succ]
        refine wpAnyH_take (i := 15) (v := ?_) rfl (by kernel_rfl) (by kernel_rfl) (by kernel_rfl) (fun _ _ _ h => h) (Or.inl ⟨by rfl, ?_⟩) (by assumption) ?_
        rotate_left 1
        · intro w hSw; (try dsimp only at hSw); go_simp <;> with_reducible rfl
        try simp only [Act.put, List.setIfInBounds_toArray, List.set_cons_zero, List.set_cons_succ, List.getElem_toArray, List.getElem_cons_zero, List.getElem_cons_succ]
        refine wpAnyH_ready (rs := [16]) (by kernel_rfl) (by simp) (AllReadyH.cons rfl (fun K hK => ?_) AllReadyH.nil)
        clear hHeld
        go_simp
        obtain ⟨w5, hw2⟩ : ∃ w', w' = w4.alloc (.cells #[.map (some b4), .map (some b9), .map (some b14), .int .i64 (no : Int)] 56) := ⟨_, rfl⟩
        have hb : Below w4.heap.size w4 w5 := by rw [hw2]; exact (Below.refl _ _).alloc (Nat.le_refl _) _
        have hf : Blk w5 w4.heap.size 56 #[.map (some b4), .map (some b9), .map (some b14), .int .i64 (no : Int)] := by rw [hw2]; exact Blk.new _ _ _ rfl
        rw [← hw2]
        clear hw2
        obtain ⟨g, hg⟩ : ∃ q, q = w4.heap.size := ⟨_, rfl⟩
        rw [← hg] at hf
        rw [← hg]
        have BW5 : Hid (Below W.heap.size W w5) := Lib.hid (BW4.out.trans (hb.mono BW4.out.size))
        have LOg : Hid (W.heap.size ≤ g) := Lib.hid (by rw [hg]; exact BW4.out.size)
        have F0' := Lib.hid (F0.out.keep hb); clear F0; have F0 := F0'; clear F0'
        have F5' := Lib.hid (F5.out.keep hb); clear F5; have F5 := F5'; clear F5'
        have F10' := Lib.hid (F10.out.keep hb); clear F10; have F10 := F10'; clear F10'
        have F17' := Lib.hid (F17.out.keep hb); clear F17; have F17 := F17'; clear F17'
        have F16 : Hid (Blk w5 g 56 #[.map (some b4), .map (some b9), .map (some b14), .int .i64 (no : Int)]) := Lib.hid hf
        clear hf hb hg
        refine hK.out _ _ (HS.out _ BW5.out) (fun hHeld => ?_)
        clear hK K BW4
        try simp only [Act.put, List.setIfInBounds_toArray, List.set_cons_zero, List.set_cons_succ, List.getElem_toArray, List.getElem_cons_zero, List.getElem_cons_succ]
        have k0 : w5.cell? ⟨cc, 0, none⟩ = some (.pointer none) := (F17.out.cell 0).trans rfl
        have kf : w5.frozen? ⟨cc, 0, none⟩ = false := F17.out.frozen 0
        have CS : Chg (fun q => q = cc) w5 (w5.setCell ⟨cc, 0, none⟩ (.pointer (some ⟨g, 0, none⟩))) := Chg.setCell (S := fun q => q = cc) (p := ⟨cc, 0, none⟩) (Chg.refl _ _) (.inl rfl) _
        have hCP : CPS W (w5.setCell ⟨cc, 0, none⟩ (.pointer (some ⟨g, 0, none⟩))) n d b4 b9 b14 g cc := ⟨BW5.out.trans (CS.below (fun k hk e => by have := LOcc.out; omega) BW5.out.size), F0.out.chg CS (F0.out.ne_blk F17.out).symm, F5.out.chg CS (F5.out.ne_blk F17.out).symm, F10.out.chg CS (F10.out.ne_blk F17.out).symm, by rw [← HNO.out]; exact F16.out.chg CS (F16.out.ne_type F17.out (by decide)), F17.out.set_ 0 _, LOg.out, LOb4.out, LOb9.out, LOb14.out, (ne_of NE0_5.out (fun h e => by first | exact h e | exact h e.symm)), (ne_of NE0_10.out (fun h e => by first | exact h e | exact h e.symm)), (ne_of NE5_10.out (fun h e => by first | exact h e | exact h e.symm))⟩
        have CP := Lib.hid hCP
        refine wpAnyH_ready (rs := [18]) (by kernel_rfl) (by simp) (AllReadyH.cons rfl (fun K hK => ?_) AllReadyH.nil)
        clear hHeld
        go_simp
        refine hK.out _ _ (HS.out _ hCP.bel) (fun hHeld => ?_)
        clear hK K hCP
        try simp only [Act.put, List.setIfInBounds_toArray, List.set_cons_zero, List.set_cons_succ, List.getElem_toArray, List.getElem_cons_zero, List.getElem_cons_succ]
        refine wpAnyH_done (by kernel_rfl) ?_ _
        obtain ⟨wL, hwL⟩ : ∃ wL, wL = w5.setCell ⟨cc, 0, none⟩ (.pointer (some ⟨g, 0, none⟩)) := ⟨_, rfl⟩
        rw [← hwL] at CP ⊢
        have CC := Lib.hid (HE.out _ _ _ _ _ _ CP.out)
        clear hHeld hwL k0 kf CS F0 F5 F10 F16 F17
        go_wp2_with fail
        refine CC.out.mono ?_
        rintro e wM ⟨rfl, kc, hq⟩
        have HF := Lib.hid hq
        clear hq CC
        go_wp2_with fail
        go_ret
        exact HF.out
    ·
      clear hHeld
      go_simp
      refine (HC14.out w1 BW1.out).mono ?_
      rintro e w2 ⟨rfl, hf, hb⟩
      obtain ⟨b14, hb14⟩ : ∃ q, q = w1.heap.size := ⟨_, rfl⟩
      rw [← hb14] at hf
      rw [← hb14]
      have BW2 : Hid (Below W.heap.size W w2) := Lib.hid (BW1.out.trans (hb.mono BW1.out.size))
      have LOb14 : Hid (W.heap.size ≤ b14) := Lib.hid (by rw [hb14]; exact BW1.out.size)
      have NE5_10 : Hid (b9 ≠ b14) := Lib.hid (fun e => by have := F5.out.lt; omega)
      have F5' := Lib.hid (F5.out.keep hb); clear F5; have F5 := F5'; clear F5'
      have F10 : Hid (FM Try.prog 9 sL iD (plainElem Try.prog 3) w2 b14 n d.se) := Lib.hid hf
      clear hf hb hb14
      refine hK.out _ _ (HS.out _ BW2.out) (fun hHeld => ?_)
      clear hK K BW1
      try simp only [Act.put, List.setIfInBounds_toArray, List.set_cons_zero, List.set_cons_succ, List.getElem_toArray, List.getElem_cons_zero, List.getElem_cons_succ]
      refine wpAnyH_ready (rs := [0, 17]) (by kernel_rfl) (by simp) (AllReadyH.cons rfl (fun K hK => ?_) (AllReadyH.cons rfl (fun K hK => ?_) AllReadyH.nil))
      ·
        clear hHeld
        go_simp
        obtain ⟨w3, hw2⟩ : ∃ w', w' = w2.alloc (.map #[] 0) := ⟨_, rfl⟩
        have hb : Below w2.heap.size w2 w3 := by rw [hw2]; exact (Below.refl _ _).alloc (Nat.le_refl _) _
        have hf : FM Try.prog 3 iL pD ptrE w3 w2.heap.size 0 (fun _ => none) := by rw [hw2]; exact FM.made _ _ _ _ _ _
        rw [← hw2]
        clear hw2
        obtain ⟨b4, hb4⟩ : ∃ q, q = w2.heap.size := ⟨_, rfl⟩
        rw [← hb4] at hf
        rw [← hb4]
        have BW3 : Hid (Below W.heap.size W w3) := Lib.hid (BW2.out.trans (hb.mono BW2.out.size))
        have LOb4 : Hid (W.heap.size ≤ b4) := Lib.hid (by rw [hb4]; exact BW2.out.size)
        have NE0_5 : Hid (b9 ≠ b4) := Lib.hid (fun e => by have := F5.out.lt; omega)
        have F5' := Lib.hid (F5.out.keep hb); clear F5; have F5 := F5'; clear F5'
        have NE0_10 : Hid (b14 ≠ b4) := Lib.hid (fun e => by have := F10.out.lt; omega)
        have F10' := Lib.hid (F10.out.keep hb); clear F10; have F10 := F10'; clear F10'
        have F0 : Hid (FM Try.prog 3 iL pD ptrE w3 b4 0 (fun _ => none)) := Lib.hid hf
        clear hf hb hb4
        refine hK.out _ _ (HS.out _ BW3.out) (fun hHeld => ?_)
        clear hK K BW2
        try simp only [Act.put, List.setIfInBounds_toArray, List.set_cons_zero, List.set_cons_succ, List.getElem_toArray, List.getElem_cons_zero, List.getElem_cons_succ]
        refine wpAnyH_take (i := 15) (v := ?_) rfl (by kernel_rfl) (by kernel_rfl) (by kernel_rfl) (fun _ _ _ h => h) (Or.inl ⟨by rfl, ?_⟩) (by assumption) ?_
        rotate_left 1
        · intro w hSw; (try dsimp only at hSw); go_simp <;> with_reducible rfl
        try simp only [Act.put, List.setIfInBounds_toArray, List.set_cons_zero, List.set_cons_succ, List.getElem_toArray, List.getElem_cons_zero, List.getElem_cons_succ]
        refine wpAnyH_ready (rs := [16, 17]) (by kernel_rfl) (by simp) (AllReadyH.cons rfl (fun K hK => ?_) (AllReadyH.cons rfl (fun K hK => ?_) AllReadyH.nil))
        ·
          clear hHeld
          go_simp
          obtain ⟨w4, hw2⟩ : ∃ w', w' = w3.alloc (.cells #[.map (some b4), .map (some b9), .map (some b14), .int .i64 (no : Int)] 56) := ⟨_, rfl⟩
          have hb : Below w3.heap.size w3 w4 := by rw [hw2]; exact (Below.refl _ _).alloc (Nat.le_refl _) _
          have hf : Blk w4 w3.heap.size 56 #[.map (some b4), .map (some b9), .map (some b14), .int .i64 (no : Int)] := by rw [hw2]; exact Blk.new _ _ _ rfl
          rw [← hw2]
          clear hw2
          obtain ⟨g, hg⟩ : ∃ q, q = w3.heap.size := ⟨_, rfl⟩
          rw [← hg] at hf
          rw [← hg]
          have BW4 : Hid (Below W.heap.size W w4) := Lib.hid (BW3.out.trans (hb.mono BW3.out.size))
          have LOg : Hid (W.heap.size ≤ g) := Lib.hid (by rw [hg]; exact BW3.out.size)
          have F0' := Lib.hid (F0.out.keep hb); clear F0; have F0 := F0'; clear F0'
          have F5' := Lib.hid (F5.out.keep hb); clear F5; have F5 := F5'; clear F5'
          have F10' := Lib.hid (F10.out.keep hb); clear F10; have F10 := F10'; clear F10'
          have F16 : Hid (Blk w4 g 56 #[.map (some b4), .map (some b9), .map (some b14), .int .i64 (no : Int)]) := Lib.hid hf
          clear hf hb hg
          refine hK.out _ _ (HS.out _ BW4.out) (fun hHeld => ?_)
          clear hK K BW3
          try simp only [Act.put, List.setIfInBounds_toArray, List.set_cons_zero, List.set_cons_succ, List.getElem_toArray, List.getElem_cons_zero, List.getElem_cons_succ]
          refine wpAnyH_ready (rs := [17]) (by kernel_rfl) (by simp) (AllReadyH.cons rfl (fun K hK => ?_) AllReadyH.nil)
          clear hHeld
          go_simp
          obtain ⟨w5, hw2⟩ : ∃ w', w' = w4.alloc (.cells #[.pointer none] 25) := ⟨_, rfl⟩
          have hb : Below w4.heap.size w4 w5 := by rw [hw2]; exact (Below.refl _ _).alloc (Nat.le_refl _) _
          have hf : Blk w5 w4.heap.size 25 #[.pointer none] := by rw [hw2]; exact Blk.new _ _ _ rfl
          rw [← hw2]
          clear hw2
          obtain ⟨cc, hcc⟩ : ∃ q, q = w4.heap.size := ⟨_, rfl⟩
          rw [← hcc] at hf
          rw [← hcc]
          have BW5 : Hid (Below W.heap.size W w5) := Lib.hid (BW4.out.trans (hb.mono BW4.out.size))
          have LOcc : Hid (W.heap.size ≤ cc) := Lib.hid (by rw [hcc]; exact BW4.out.size)
          have F0' := Lib.hid (F0.out.keep hb); clear F0; have F0 := F0'; clear F0'
          have F5' := Lib.hid (F5.out.keep hb); clear F5; have F5 := F5'; clear F5'
          have F10' := Lib.hid (F10.out.keep hb); clear F10; have F10 := F10'; clear F10'
          have F16' := Lib.hid (F16.out.keep hb); clear F16; have F16 := F16'; clear F16'
          have F17 : Hid (Blk w5 cc 25 #[.pointer none]) := Lib.hid hf
          clear hf hb hcc
          refine hK.out _ _ (HS.out _ BW5.out) (fun hHeld => ?_)
          clear hK K BW4
          try simp only [Act.put, List.setIfInBounds_toArray, List.set_cons_zero, List.set_cons_succ, List.getElem_toArray, List.getElem_cons_zero, List.getElem_cons_succ]
          have k0 : w5.cell? ⟨cc, 0, none⟩ = some (.pointer none) := (F17.out.cell 0).trans rfl
          have kf : w5.frozen? ⟨cc, 0, none⟩ = false := F17.out.frozen 0
          have CS : Chg (fun q => q = cc) w5 (w5.setCell ⟨cc, 0, none⟩ (.pointer (some ⟨g, 0, none⟩))) := Chg.setCell (S := fun q => q = cc) (p := ⟨cc, 0, none⟩) (Chg.refl _ _) (.inl rfl) _
          have hCP : CPS W (w5.setCell ⟨cc, 0, none⟩ (.pointer (some ⟨g, 0, none⟩))) n d b4 b9 b14 g cc := ⟨BW5.out.trans (CS.below (fun k hk e => by have := LOcc.out; omega) BW5.out.size), F0.out.chg CS (F0.out.ne_blk F17.out).symm, F5.out.chg CS (F5.out.ne_blk F17.out).symm, F10.out.chg CS (F10.out.ne_blk F17.out).symm, by rw [← HNO.out]; exact F16.out.chg CS (F16.out.ne_type F17.out (by decide)), F17.out.set_ 0 _, LOg.out, LOb4.out, LOb9.out, LOb14.out, (ne_of NE0_5.out (fun h e => by first | exact h e | exact h e.symm)), (ne_of NE0_10.out (fun h e => by first | exact h e | exact h e.symm)), (ne_of NE5_10.out (fun h e => by first | exact h e | exact h e.symm))⟩
          have CP := Lib.hid hCP
          refine wpAnyH_ready (rs := [18]) (by kernel_rfl) (by simp) (AllReadyH.cons rfl (fun K hK => ?_) AllReadyH.nil)
          clear hHeld
          go_simp
          refine hK.out _ _ (HS.out _ hCP.bel) (fun hHeld => ?_)
          clear hK K hCP
          try simp only [Act.put, List.setIfInBounds_toArray, List.set_cons_zero, List.set_cons_succ, List.getElem_toArray, List.getElem_cons_zero, List.getElem_cons_succ]
          refine wpAnyH_done (by kernel_rfl) ?_ _
          obtain ⟨wL, hwL⟩ : ∃ wL, wL = w5.setCell ⟨cc, 0, none⟩ (.pointer (some ⟨g, 0, none⟩)) := ⟨_, rfl⟩
          rw [← hwL] at CP ⊢
          have CC := Lib.hid (HE.out _ _ _ _ _ _ CP.out)
          clear hHeld hwL k0 kf CS F0 F5 F10 F16 F17
          go_wp2_with fail
          refine CC.out.mono ?_
          rintro e wM ⟨rfl, kc, hq⟩
          have HF := Lib.hid hq
          clear hq CC
          go_wp2_with fail
          go_ret
          exact HF.out
        ·
          clear hHeld
          go_simp
          obtain ⟨w4, hw2⟩ : ∃ w', w' = w3.alloc (.cells #[.pointer none] 25) := ⟨_, rfl⟩
          have hb : Below w3.heap.size w3 w4 := by rw [hw2]; exact (Below.refl _ _).alloc (Nat.le_refl _) _
          have hf : Blk w4 w3.heap.size 25 #[.pointer none] := by rw [hw2]; exact Blk.new _ _ _ rfl
          rw [← hw2]
          clear hw2
          obtain ⟨cc, hcc⟩ : ∃ q, q = w3.heap.size := ⟨_, rfl⟩
          rw [← hcc] at hf
          rw [← hcc]
          have BW4 : Hid (Below W.heap.size W w4) := Lib.hid (BW3.out.trans (hb.mono BW3.out.size))
          have LOcc : Hid (W.heap.size ≤ cc) := Lib.hid (by rw [hcc]; exact BW3.out.size)
          have F0' := Lib.hid (F0.out.keep hb); clear F0; have F0 := F0'; clear F0'
          have F5' := Lib.hid (F5.out.keep hb); clear F5; have F5 := F5'; clear F5'
          have F10' := Lib.hid (F10.out.keep hb); clear F10; have F10 := F10'; clear F10'
          have F17 : Hid (Blk w4 cc 25 #[.pointer none]) := Lib.hid hf
          clear hf hb hcc
          refine hK.out _ _ (HS.out _ BW4.out) (fun hHeld => ?_)
          clear hK K BW3
          try simp only [Act.put, List.setIfInBounds_toArray, List.set_cons_zero, List.set_cons_succ, List.getElem_toArray, List.getElem_cons_zero, List.getElem_cons_succ]
          refine wpAnyH_ready (rs := [16]) (by kernel_rfl) (by simp) (AllReadyH.cons rfl (fun K hK => ?_) AllReadyH.nil)
          clear hHeld
          go_simp
          obtain ⟨w5, hw2⟩ : ∃ w', w' = w4.alloc (.cells #[.map (some b4), .map (some b9), .map (some b14), .int .i64 (no : Int)] 56) := ⟨_, rfl⟩
          have hb : Below w4.heap.size w4 w5 := by rw [hw2]; exact (Below.refl _ _).alloc (Nat.le_refl _) _
          have hf : Blk w5 w4.heap.size 56 #[.map (some b4), .map (some b9), .map (some b14), .int .i64 (no : Int)] := by rw [hw2]; exact Blk.new _ _ _ rfl
          rw [← hw2]
          clear hw2
          obtain ⟨g, hg⟩ : ∃ q, q = w4.heap.size := ⟨_, rfl⟩
          rw [← hg] at hf
          rw [← hg]
          have BW5 : Hid (Below W.heap.size W w5) := Lib.hid (BW4.out.trans (hb.mono BW4.out.size))
          have LOg : Hid (W.heap.size ≤ g) := Lib.hid (by rw [hg]; exact BW4.out.size)
          have F0' := Lib.hid (F0.out.keep hb); clear F0; have F0 := F0'; clear F0'
          have F5' := Lib.hid (F5.out.keep hb); clear F5; have F5 := F5'; clear F5'
          have F10' := Lib.hid (F10.out.keep hb); clear F10; have F10 := F10'; clear F10'
          have F17' := Lib.hid (F17.out.keep hb); clear F17; have F17 := F17'; clear F17'
          have F16 : Hid (Blk w5 g 56 #[.map (some b4), .map (some b9), .map (some b14), .int .i64 (no : Int)]) := Lib.hid hf
          clear hf hb hg
          refine hK.out _ _ (HS.out _ BW5.out) (fun hHeld => ?_)
          clear hK K BW4
          try simp only [Act.put, List.setIfInBounds_toArray, List.set_cons_zero, List.set_cons_succ, List.getElem_toArray, List.getElem_cons_zero, List.getElem_cons_succ]
          have k0 : w5.cell? ⟨cc, 0, none⟩ = some (.pointer none) := (F17.out.cell 0).trans rfl
          have kf : w5.frozen? ⟨cc, 0, none⟩ = false := F17.out.frozen 0
          have CS : Chg (fun q => q = cc) w5 (w5.setCell ⟨cc, 0, none⟩ (.pointer (some ⟨g, 0, none⟩))) := Chg.setCell (S := fun q => q = cc) (p := ⟨cc, 0, none⟩) (Chg.refl _ _) (.inl rfl) _
          have hCP : CPS W (w5.setCell ⟨cc, 0, none⟩ (.pointer (some ⟨g, 0, none⟩))) n d b4 b9 b14 g cc := ⟨BW5.out.trans (CS.below (fun k hk e => by have := LOcc.out; omega) BW5.out.size), F0.out.chg CS (F0.out.ne_blk F17.out).symm, F5.out.chg CS (F5.out.ne_blk F17.out).symm, F10.out.chg CS (F10.out.ne_blk F17.out).symm, by rw [← HNO.out]; exact F16.out.chg CS (F16.out.ne_type F17.out (by decide)), F17.out.set_ 0 _, LOg.out, LOb4.out, LOb9.out, LOb14.out, (ne_of NE0_5.out (fun h e => by first | exact h e | exact h e.symm)), (ne_of NE0_10.out (fun h e => by first | exact h e | exact h e.symm)), (ne_of NE5_10.out (fun h e => by first | exact h e | exact h e.symm))⟩
          have CP := Lib.hid hCP
          refine wpAnyH_ready (rs := [18]) (by kernel_rfl) (by simp) (AllReadyH.cons rfl (fun K hK => ?_) AllReadyH.nil)
          clear hHeld
          go_simp
          refine hK.out _ _ (HS.out _ hCP.bel) (fun hHeld => ?_)
          clear hK K hCP
          try simp only [Act.put, List.setIfInBounds_toArray, List.set_cons_zero, List.set_cons_succ, List.getElem_toArray, List.getElem_cons_zero, List.getElem_cons_succ]
          refine wpAnyH_done (by kernel_rfl) ?_ _
          obtain ⟨wL, hwL⟩ : ∃ wL, wL = w5.setCell ⟨cc, 0, none⟩ (.pointer (some ⟨g, 0, none⟩)) := ⟨_, rfl⟩
          rw [← hwL] at CP ⊢
          have CC := Lib.hid (HE.out _ _ _ _ _ _ CP.out)
          clear hHeld hwL k0 kf CS F0 F5 F10 F16 F17
          go_wp2_with fail
          refine CC.out.mono ?_
          rintro e wM ⟨rfl, kc, hq⟩
          have HF := Lib.hid hq
          clear hq CC
          go_wp2_with fail
          go_ret
          exact HF.out
      ·
        clear hHeld
        go_simp
        obtain ⟨w3, hw2⟩ : ∃ w', w' = w2.alloc (.cells #[.pointer none] 25) := ⟨_, rfl⟩
        have hb : Below w2.heap.size w2 w3 := by rw [hw2]; exact (Below.refl _ _).alloc (Nat.le_refl _) _
        have hf : Blk w3 w2.heap.size 25 #[.pointer none] := by rw [hw2]; exact Blk.new _ _ _ rfl
        rw [← hw2]
        clear hw2
        obtain ⟨cc, hcc⟩ : ∃ q, q = w2.heap.size := ⟨_, rfl⟩
        rw [← hcc] at hf
        rw [← hcc]
        have BW3 : Hid (Below W.heap.size W w3) := Lib.hid (BW2.out.trans (hb.mono BW2.out.size))
        have LOcc : Hid (W.heap.size ≤ cc) := Lib.hid (by rw [hcc]; exact BW2.out.size)
        have F5' := Lib.hid (F5.out.keep hb); clear F5; have F5 := F5'; clear F5'
        have F10' := Lib.hid (F10.out.keep hb); clear F10; have F10 := F10'; clear F10'
        have F17 : Hid (Blk w3 cc 25 #[.pointer none]) := Lib.hid hf
        clear hf hb hcc
        refine hK.out _ _ (HS.out _ BW3.out) (fun hHeld => ?_)
        clear hK K BW2
        try simp only [Act.put, List.setIfInBounds_toArray, List.set_cons_zero, List.set_cons_succ, List.getElem_toArray, List.getElem_cons_zero, List.getElem_cons_succ]
        refine wpAnyH_ready (rs := [0]) (by kernel_rfl) (by simp) (AllReadyH.cons rfl (fun K hK => ?_) AllReadyH.nil)
        clear hHeld
        go_simp
        obtain ⟨w4, hw2⟩ : ∃ w', w' = w3.alloc (.map #[] 0) := ⟨_, rfl⟩
        have hb : Below w3.heap.size w3 w4 := by rw [hw2]; exact (Below.refl _ _).alloc (Nat.le_refl _) _
        have hf : FM Try.prog 3 iL pD ptrE w4 w3.heap.size 0 (fun _ => none) := by rw [hw2]; exact FM.made _ _ _ _ _ _
        rw [← hw2]
        clear hw2
        obtain ⟨b4, hb4⟩ : ∃ q, q = w3.heap.size := ⟨_, rfl⟩
        rw [← hb4] at hf
        rw [← hb4]
        have BW4 : Hid (Below W.heap.size W w4) := Lib.hid (BW3.out.trans (hb.mono BW3.out.size))
        have LOb4 : Hid (W.heap.size ≤ b4) := Lib.hid (by rw [hb4]; exact BW3.out.size)
        have NE0_5 : Hid (b9 ≠ b4) := Lib.hid (fun e => by have := F5.out.lt; omega)
        have F5' := Lib.hid (F5.out.keep hb); clear F5; have F5 := F5'; clear F5'
        have NE0_10 : Hid (b14 ≠ b4) := Lib.hid (fun e => by have := F10.out.lt; omega)
        have F10' := Lib.hid (F10.out.keep hb); clear F10; have F10 := F10'; clear F10'
        have F17' := Lib.hid (F17.out.keep hb); clear F17; have F17 := F17'; clear F17'
        have F0 : Hid (FM Try.prog 3 iL pD ptrE w4 b4 0 (fun _ => none)) := Lib.hid hf
        clear hf hb hb4
        refine hK.out _ _ (HS.out _ BW4.out) (fun hHeld => ?_)
        clear hK K BW3
        try simp only [Act.put, List.setIfInBounds_toArray, List.set_cons_zero, List.set_cons_succ, List.getElem_toArray, List.getElem_cons_zero, List.getElem_cons_succ]
        refine wpAnyH_take (i := 15) (v := ?_) rfl (by kernel_rfl) (by kernel_rfl) (by kernel_rfl) (fun _ _ _ h => h) (Or.inl ⟨by rfl, ?_⟩) (by assumption) ?_
        rotate_left 1
        · intro w hSw; (try dsimp only at hSw); go_simp <;> with_reducible rfl
        try simp only [Act.put, List.setIfInBounds_toArray, List.set_cons_zero, List.set_cons_succ, List.getElem_toArray, List.getElem_cons_zero, List.getElem_cons_succ]
        refine wpAnyH_ready (rs := [16]) (by kernel_rfl) (by simp) (AllReadyH.cons rfl (fun K hK => ?_) AllReadyH.nil)
        clear hHeld
        go_simp
        obtain ⟨w5, hw2⟩ : ∃ w', w' = w4.alloc (.cells #[.map (some b4), .map (some b9), .map (some b14), .int .i64 (no : Int)] 56) := ⟨_, rfl⟩
        have hb : Below w4.heap.size w4 w5 := by rw [hw2]; exact (Below.refl _ _).alloc (Nat.le_refl _) _
        have hf : Blk w5 w4.heap.size 56 #[.map (some b4), .map (some b9), .map (some b14), .int .i64 (no : Int)] := by rw [hw2]; exact Blk.new _ _ _ rfl
        rw [← hw2]
        clear hw2
        obtain ⟨g, hg⟩ : ∃ q, q = w4.heap.size := ⟨_, rfl⟩
        rw [← hg] at hf
        rw [← hg]
        have BW5 : Hid (Below W.heap.size W w5) := Lib.hid (BW4.out.trans (hb.mono BW4.out.size))
        have LOg : Hid (W.heap.size ≤ g) := Lib.hid (by rw [hg]; exact BW4.out.size)
        have F0' := Lib.hid (F0.out.keep hb); clear F0; have F0 := F0'; clear F0'
        have F5' := Lib.hid (F5.out.keep hb); clear F5; have F5 := F5'; clear F5'
        have F10' := Lib.hid (F10.out.keep hb); clear F10; have F10 := F10'; clear F10'
        have F17' := Lib.hid (F17.out.keep hb); clear F17; have F17 := F17'; clear F17'
        have F16 : Hid (Blk w5 g 56 #[.map (some b4), .map (some b9), .map (some b14), .int .i64 (no : Int)]) := Lib.hid hf
        clear hf hb hg
        refine hK.out _ _ (HS.out _ BW5.out) (fun hHeld => ?_)
        clear hK K BW4
        try simp only [Act.put, List.setIfInBounds_toArray, List.set_cons_zero, List.set_cons_succ, List.getElem_toArray, List.getElem_cons_zero, List.getElem_cons_succ]
        have k0 : w5.cell? ⟨cc, 0, none⟩ = some (.pointer none) := (F17.out.cell 0).trans rfl
        have kf : w5.frozen? ⟨cc, 0, none⟩ = false := F17.out.frozen 0
        have CS : Chg (fun q => q = cc) w5 (w5.setCell ⟨cc, 0, none⟩ (.pointer (some ⟨g, 0, none⟩))) := Chg.setCell (S := fun q => q = cc) (p := ⟨cc, 0, none⟩) (Chg.refl _ _) (.inl rfl) _
        have hCP : CPS W (w5.setCell ⟨cc, 0, none⟩ (.pointer (some ⟨g, 0, none⟩))) n d b4 b9 b14 g cc := ⟨BW5.out.trans (CS.below (fun k hk e => by have := LOcc.out; omega) BW5.out.size), F0.out.chg CS (F0.out.ne_blk F17.out).symm, F5.out.chg CS (F5.out.ne_blk F17.out).symm, F10.out.chg CS (F10.out.ne_blk F17.out).symm, by rw [← HNO.out]; exact F16.out.chg CS (F16.out.ne_type F17.out (by decide)), F17.out.set_ 0 _, LOg.out, LOb4.out, LOb9.out, LOb14.out, (ne_of NE0_5.out (fun h e => by first | exact h e | exact h e.symm)), (ne_of NE0_10.out (fun h e => by first | exact h e | exact h e.symm)), (ne_of NE5_10.out (fun h e => by first | exact h e | exact h e.symm))⟩
        have CP := Lib.hid hCP
        refine wpAnyH_ready (rs := [18]) (by kernel_rfl) (by simp) (AllReadyH.cons rfl (fun K hK => ?_) AllReadyH.nil)
        clear hHeld
        go_simp
        refine hK.out _ _ (HS.out _ hCP.bel) (fun hHeld => ?_)
        clear hK K hCP
        try simp only [Act.put, List.setIfInBounds_toArray, List.set_cons_zero, List.set_cons_succ, List.getElem_toArray, List.getElem_cons_zero, List.getElem_cons_succ]
        refine wpAnyH_done (by kernel_rfl) ?_ _
        obtain ⟨wL, hwL⟩ : ∃ wL, wL = w5.setCell ⟨cc, 0, none⟩ (.pointer (some ⟨g, 0, none⟩)) := ⟨_, rfl⟩
        rw [← hwL] at CP ⊢
        have CC := Lib.hid (HE.out _ _ _ _ _ _ CP.out)
        clear hHeld hwL k0 kf CS F0 F5 F10 F16 F17
        go_wp2_with fail
        refine CC.out.mono ?_
        rintro e wM ⟨rfl, kc, hq⟩
        have HF := Lib.hid hq
        clear hq CC
        go_wp2_with fail
        go_ret
        exact HF.out
    ·
      clear hHeld
      go_simp
      obtain ⟨w2, hw2⟩ : ∃ w', w' = w1.alloc (.cells #[.pointer none] 25) := ⟨_, rfl⟩
      have hb : Below w1.heap.size w1 w2 := by rw [hw2]; exact (Below.refl _ _).alloc (Nat.le_refl _) _
      have hf : Blk w2 w1.heap.size 25 #[.pointer none] := by rw [hw2]; exact Blk.new _ _ _ rfl
      rw [← hw2]
      clear hw2
      obtain ⟨cc, hcc⟩ : ∃ q, q = w1.heap.size := ⟨_, rfl⟩
      rw [← hcc] at hf
      rw [← hcc]
      have BW2 : Hid (Below W.heap.size W w2) := Lib.hid (BW1.out.trans (hb.mono BW1.out.size))
      have LOcc : Hid (W.heap.size ≤ cc) := Lib.hid (by rw [hcc]; exact BW1.out.size)
      have F5' := Lib.hid (F5.out.keep hb); clear F5; have F5 := F5'; clear F5'
      have F17 : Hid (Blk w2 cc 25 #[.pointer none]) := Lib.hid hf
      clear hf hb hcc
      refine hK.out _ _ (HS.out _ BW2.out) (fun hHeld => ?_)
      clear hK K BW1
      try simp only [Act.put, List.setIfInBounds_toArray, List.set_cons_zero, List.set_cons_succ, List.getElem_toArray, List.getElem_cons_zero, List.getElem_cons_succ]
      refine wpAnyH_ready (rs := [0, 10]) (by kernel_rfl) (by simp) (AllReadyH.cons rfl (fun K hK => ?_) (AllReadyH.cons rfl (fun K hK => ?_) AllReadyH.nil))
      ·
        clear hHeld
        go_simp
        obtain ⟨w3, hw2⟩ : ∃ w', w' = w2.alloc (.map #[] 0) := ⟨_, rfl⟩
        have hb : Below w2.heap.size w2 w3 := by rw [hw2]; exact (Below.refl _ _).alloc (Nat.le_refl _) _
        have hf : FM Try.prog 3 iL pD ptrE w3 w2.heap.size 0 (fun _ => none) := by rw [hw2]; exact FM.made _ _ _ _ _ _
        rw [← hw2]
        clear hw2
        obtain ⟨b4, hb4⟩ : ∃ q, q = w2.heap.size := ⟨_, rfl⟩
        rw [← hb4] at hf
        rw [← hb4]
        have BW3 : Hid (Below W.heap.size W w3) := Lib.hid (BW2.out.trans (hb.mono BW2.out.size))
        have LOb4 : Hid (W.heap.size ≤ b4) := Lib.hid (by rw [hb4]; exact BW2.out.size)
        have NE0_5 : Hid (b9 ≠ b4) := Lib.hid (fun e => by have := F5.out.lt; omega)
        have F5' := Lib.hid (F5.out.keep hb); clear F5; have F5 := F5'; clear F5'
        have F17' := Lib.hid (F17.out.keep hb); clear F17; have F17 := F17'; clear F17'
        have F0 : Hid (FM Try.prog 3 iL pD ptrE w3 b4 0 (fun _ => none)) := Lib.hid hf
        clear hf hb hb4
        refine hK.out _ _ (HS.out _ BW3.out) (fun hHeld => ?_)
        clear hK K BW2
        try simp only [Act.put, List.setIfInBounds_toArray, List.set_cons_zero, List.set_cons_succ, List.getElem_toArray, List.getElem_cons_zero, List.getElem_cons_succ]
        refine wpAnyH_ready (rs := [10]) (by kernel_rfl) (by simp) (AllReadyH.cons rfl (fun K hK => ?_) AllReadyH.nil)
        clear hHeld
        go_simp
        refine (HC14.out w3 BW3.out).mono ?_
        rintro e w4 ⟨rfl, hf, hb⟩
        obtain ⟨b14, hb14⟩ : ∃ q, q = w3.heap.size := ⟨_, rfl⟩
        rw [← hb14] at hf
        rw [← hb14]
        have BW4 : Hid (Below W.heap.size W w4) := Lib.hid (BW3.out.trans (hb.mono BW3.out.size))
        have LOb14 : Hid (W.heap.size ≤ b14) := Lib.hid (by rw [hb14]; exact BW3.out.size)
        have NE0_10 : Hid (b4 ≠ b14) := Lib.hid (fun e => by have := F0.out.lt; omega)
        have F0' := Lib.hid (F0.out.keep hb); clear F0; have F0 := F0'; clear F0'
        have NE5_10 : Hid (b9 ≠ b14) := Lib.hid (fun e => by have := F5.out.lt; omega)
        have F5' := Lib.hid (F5.out.keep hb); clear F5; have F5 := F5'; clear F5'
        have F17' := Lib.hid (F17.out.keep hb); clear F17; have F17 := F17'; clear F17'
        have F10 : Hid (FM Try.prog 9 sL iD (plainElem Try.prog 3) w4 b14 n d.se) := Lib.hid hf
        clear hf hb hb14
        refine hK.out _ _ (HS.out _ BW4.out) (fun hHeld => ?_)
        clear hK K BW3
        try simp only [Act.put, List.setIfInBounds_toArray, List.set_cons_zero, List.set_cons_succ, List.getElem_toArray, List.getElem_cons_zero, List.getElem_cons_succ]
        refine wpAnyH_take (i := 15) (v := ?_) rfl (by kernel_rfl) (by kernel_rfl) (by kernel_rfl) (fun _ _ _ h => h) (Or.inl ⟨by rfl, ?_⟩) (by assumption) ?_
        rotate_left 1
        · intro w hSw; (try dsimp only at hSw); go_simp <;> with_reducible rfl
        try simp only [Act.put, List.setIfInBounds_toArray, List.set_cons_zero, List.set_cons_succ, List.getElem_toArray, List.getElem_cons_zero, List.getElem_cons_succ]
        refine wpAnyH_ready (rs := [16]) (by kernel_rfl) (by simp) (AllReadyH.cons rfl (fun K hK => ?_) AllReadyH.nil)
        clear hHeld
        go_simp
        obtain ⟨w5, hw2⟩ : ∃ w', w' = w4.alloc (.cells #[.map (some b4), .map (some b9), .map (some b14), .int .i64 (no : Int)] 56) := ⟨_, rfl⟩
        have hb : Below w4.heap.size w4 w5 := by rw [hw2]; exact (Below.refl _ _).alloc (Nat.le_refl _) _
        have hf : Blk w5 w4.heap.size 56 #[.map (some b4), .map (some b9), .map (some b14), .int .i64 (no : Int)] := by rw [hw2]; exact Blk.new _ _ _ rfl
        rw [← hw2]
        clear hw2
        obtain ⟨g, hg⟩ : ∃ q, q = w4.heap.size := ⟨_, rfl⟩
        rw [← hg] at hf
        rw [← hg]
        have BW5 : Hid (Below W.heap.size W w5) := Lib.hid (BW4.out.trans (hb.mono BW4.out.size))
        have LOg : Hid (W.heap.size ≤ g) := Lib.hid (by rw [hg]; exact BW4.out.size)
        have F0' := Lib.hid (F0.out.keep hb); clear F0; have F0 := F0'; clear F0'
        have F5' := Lib.hid (F5.out.keep hb); clear F5; have F5 := F5'; clear F5'
        have F10' := Lib.hid (F10.out.keep hb); clear F10; have F10 := F10'; clear F10'
        have F17' := Lib.hid (F17.out.keep hb); clear F17; have F17 := F17'; clear F17'
        have F16 : Hid (Blk w5 g 56 #[.map (some b4), .map (some b9), .map (some b14), .int .i64 (no : Int)]) := Lib.hid hf
        clear hf hb hg
        refine hK.out _ _ (HS.out _ BW5.out) (fun hHeld => ?_)
        clear hK K BW4
        try simp only [Act.put, List.setIfInBounds_toArray, List.set_cons_zero, List.set_cons_succ, List.getElem_toArray, List.getElem_cons_zero, List.getElem_cons_succ]
        have k0 : w5.cell? ⟨cc, 0, none⟩ = some (.pointer none) := (F17.out.cell 0).trans rfl
        have kf : w5.frozen? ⟨cc, 0, none⟩ = false := F17.out.frozen 0
        have CS : Chg (fun q => q = cc) w5 (w5.setCell ⟨cc, 0, none⟩ (.pointer (some ⟨g, 0, none⟩))) := Chg.setCell (S := fun q => q = cc) (p := ⟨cc, 0, none⟩) (Chg.refl _ _) (.inl rfl) _
        have hCP : CPS W (w5.setCell ⟨cc, 0, none⟩ (.pointer (some ⟨g, 0, none⟩))) n d b4 b9 b14 g cc := ⟨BW5.out.trans (CS.below (fun k hk e => by have := LOcc.out; omega) BW5.out.size), F0.out.chg CS (F0.out.ne_blk F17.out).symm, F5.out.chg CS (F5.out.ne_blk F17.out).symm, F10.out.chg CS (F10.out.ne_blk F17.out).symm, by rw [← HNO.out]; exact F16.out.chg CS (F16.out.ne_type F17.out (by decide)), F17.out.set_ 0 _, LOg.out, LOb4.out, LOb9.out, LOb14.out, (ne_of NE0_5.out (fun h e => by first | exact h e | exact h e.symm)), (ne_of NE0_10.out (fun h e => by first | exact h e | exact h e.symm)), (ne_of NE5_10.out (fun h e => by first | exact h e | exact h e.symm))⟩
        have CP := Lib.hid hCP
        refine wpAnyH_ready (rs := [18]) (by kernel_rfl) (by simp) (AllReadyH.cons rfl (fun K hK => ?_) AllReadyH.nil)
        clear hHeld
        go_simp
        refine hK.out _ _ (HS.out _ hCP.bel) (fun hHeld => ?_)
        clear hK K hCP
        try simp only [Act.put, List.setIfInBounds_toArray, List.set_cons_zero, List.set_cons_succ, List.getElem_toArray, List.getElem_cons_zero, List.getElem_cons_succ]
        refine wpAnyH_done (by kernel_rfl) ?_ _
        obtain ⟨wL, hwL⟩ : ∃ wL, wL = w5.setCell ⟨cc, 0, none⟩ (.pointer (some ⟨g, 0, none⟩)) := ⟨_, rfl⟩
        rw [← hwL] at CP ⊢
        have CC := Lib.hid (HE.out _ _ _ _ _ _ CP.out)
        clear hHeld hwL k0 kf CS F0 F5 F10 F16 F17
        go_wp2_with fail
        refine CC.out.mono ?_
        rintro e wM ⟨rfl, kc, hq⟩
        have HF := Lib.hid hq
        clear hq CC
        go_wp2_with fail
        go_ret
        exact HF.out
      ·
        clear hHeld
        go_simp
        refine (HC14.out w2 BW2.out).mono ?_
        rintro e w3 ⟨rfl, hf, hb⟩
        obtain ⟨b14, hb14⟩ : ∃ q, q = w2.heap.size := ⟨_, rfl⟩
        rw [← hb14] at hf
        rw [← hb14]
        have BW3 : Hid (Below W.heap.size W w3) := Lib.hid (BW2.out.trans (hb.mono BW2.out.size))
        have LOb14 : Hid (W.heap.size ≤ b14) := Lib.hid (by rw [hb14]; exact BW2.out.size)
        have NE5_10 : Hid (b9 ≠ b14) := Lib.hid (fun e => by have := F5.out.lt; omega)
        have F5' := Lib.hid (F5.out.keep hb); clear F5; have F5 := F5'; clear F5'
        have F17' := Lib.hid (F17.out.keep hb); clear F17; have F17 := F17'; clear F17'
        have F10 : Hid (FM Try.prog 9 sL iD (plainElem Try.prog 3) w3 b14 n d.se) := Lib.hid hf
        clear hf hb hb14
        refine hK.out _ _ (HS.out _ BW3.out) (fun hHeld => ?_)
        clear hK K BW2
        try simp only [Act.put, List.setIfInBounds_toArray, List.set_cons_zero, List.set_cons_succ, List.getElem_toArray, List.getElem_cons_zero, List.getElem_cons_succ]
        refine wpAnyH_ready (rs := [0]) (by kernel_rfl) (by simp) (AllReadyH.cons rfl (fun K hK => ?_) AllReadyH.nil)
        clear hHeld
        go_simp
        obtain ⟨w4, hw2⟩ : ∃ w', w' = w3.alloc (.map #[] 0) := ⟨_, rfl⟩
        have hb : Below w3.heap.size w3 w4 := by rw [hw2]; exact (Below.refl _ _).alloc (Nat.le_refl _) _
        have hf : FM Try.prog 3 iL pD ptrE w4 w3.heap.size 0 (fun _ => none) := by rw [hw2]; exact FM.made _ _ _ _ _ _
        rw [← hw2]
        clear hw2
        obtain ⟨b4, hb4⟩ : ∃ q, q = w3.heap.size := ⟨_, rfl⟩
        rw [← hb4] at hf
        rw [← hb4]
        have BW4 : Hid (Below W.heap.size W w4) := Lib.hid (BW3.out.trans (hb.mono BW3.out.size))
        have LOb4 : Hid (W.heap.size ≤ b4) := Lib.hid (by rw [hb4]; exact BW3.out.size)
        have NE0_5 : Hid (b9 ≠ b4) := Lib.hid (fun e => by have := F5.out.lt; omega)
        have F5' := Lib.hid (F5.out.keep hb); clear F5; have F5 := F5'; clear F5'
        have NE0_10 : Hid (b14 ≠ b4) := Lib.hid (fun e => by have := F10.out.lt; omega)
        have F10' := Lib.hid (F10.out.keep hb); clear F10; have F10 := F10'; clear F10'
        have F17' := Lib.hid (F17.out.keep hb); clear F17; have F17 := F17'; clear F17'
        have F0 : Hid (FM Try.prog 3 iL pD ptrE w4 b4 0 (fun _ => none)) := Lib.hid hf
        clear hf hb hb4
        refine hK.out _ _ (HS.out _ BW4.out) (fun hHeld => ?_)
        clear hK K BW3
        try simp only [Act.put, List.setIfInBounds_toArray, List.set_cons_zero, List.set_cons_succ, List.getElem_toArray, List.getElem_cons_zero, List.getElem_cons_succ]
        refine wpAnyH_take (i := 15) (v := ?_) rfl (by kernel_rfl) (by kernel_rfl) (by kernel_rfl) (fun _ _ _ h => h) (Or.inl ⟨by rfl, ?_⟩) (by assumption) ?_
        rotate_left 1
        · intro w hSw; (try dsimp only at hSw); go_simp <;> with_reducible rfl
        try simp only [Act.put, List.setIfInBounds_toArray, List.set_cons_zero, List.set_cons_succ, List.getElem_toArray, List.getElem_cons_zero, List.getElem_cons_succ]
        refine wpAnyH_ready (rs := [16]) (by kernel_rfl) (by simp) (AllReadyH.cons rfl (fun K hK => ?_) AllReadyH.nil)
        clear hHeld
        go_simp
        obtain ⟨w5, hw2⟩ : ∃ w', w' = w4.alloc (.cells #[.map (some b4), .map (some b9), .map (some b14), .int .i64 (no : Int)] 56) := ⟨_, rfl⟩
        have hb : Below w4.heap.size w4 w5 := by rw [hw2]; exact (Below.refl _ _).alloc (Nat.le_refl _) _
        have hf : Blk w5 w4.heap.size 56 #[.map (some b4), .map (some b9), .map (some b14), .int .i64 (no : Int)] := by rw [hw2]; exact Blk.new _ _ _ rfl
        rw [← hw2]
        clear hw2
        obtain ⟨g, hg⟩ : ∃ q, q = w4.heap.size := ⟨_, rfl⟩
        rw [← hg] at hf
        rw [← hg]
        have BW5 : Hid (Below W.heap.size W w5) := Lib.hid (BW4.out.trans (hb.mono BW4.out.size))
        have LOg : Hid (W.heap.size ≤ g) := Lib.hid (by rw [hg]; exact BW4.out.size)
        have F0' := Lib.hid (F0.out.keep hb); clear F0; have F0 := F0'; clear F0'
        have F5' := Lib.hid (F5.out.keep hb); clear F5; have F5 := F5'; clear F5'
        have F10' := Lib.hid (F10.out.keep hb); clear F10; have F10 := F10'; clear F10'
        have F17' := Lib.hid (F17.out.keep hb); clear F17; have F17 := F17'; clear F17'
        have F16 : Hid (Blk w5 g 56 #[.map (some b4), .map (some b9), .map (some b14), .int .i64 (no : Int)]) := Lib.hid hf
        clear hf hb hg
        refine hK.out _ _ (HS.out _ BW5.out) (fun hHeld => ?_)
        clear hK K BW4
        try simp only [Act.put, List.setIfInBounds_toArray, List.set_cons_zero, List.set_cons_succ, List.getElem_toArray, List.getElem_cons_zero, List.getElem_cons_succ]
        have k0 : w5.cell? ⟨cc, 0, none⟩ = some (.pointer none) := (F17.out.cell 0).trans rfl
        have kf : w5.frozen? ⟨cc, 0, none⟩ = false := F17.out.frozen 0
        have CS : Chg (fun q => q = cc) w5 (w5.setCell ⟨cc, 0, none⟩ (.pointer (some ⟨g, 0, none⟩))) := Chg.setCell (S := fun q => q = cc) (p := ⟨cc, 0, none⟩) (Chg.refl _ _) (.inl rfl) _
        have hCP : CPS W (w5.setCell ⟨cc, 0, none⟩ (.pointer (some ⟨g, 0, none⟩))) n d b4 b9 b14 g cc := ⟨BW5.out.trans (CS.below (fun k hk e => by have := LOcc.out; omega) BW5.out.size), F0.out.chg CS (F0.out.ne_blk F17.out).symm, F5.out.chg CS (F5.out.ne_blk F17.out).symm, F10.out.chg CS (F10.out.ne_blk F17.out).symm, by rw [← HNO.out]; exact F16.out.chg CS (F16.out.ne_type F17.out (by decide)), F17.out.set_ 0 _, LOg.out, LOb4.out, LOb9.out, LOb14.out, (ne_of NE0_5.out (fun h e => by first | exact h e | exact h e.symm)), (ne_of NE0_10.out (fun h e => by first | exact h e | exact h e.symm)), (ne_of NE5_10.out (fun h e => by first | exact h e | exact h e.symm))⟩
        have CP := Lib.hid hCP
        refine wpAnyH_ready (rs := [18]) (by kernel_rfl) (by simp) (AllReadyH.cons rfl (fun K hK => ?_) AllReadyH.nil)
        clear hHeld
        go_simp
        refine hK.out _ _ (HS.out _ hCP.bel) (fun hHeld => ?_)
        clear hK K hCP
        try simp only [Act.put, List.setIfInBounds_toArray, List.set_cons_zero, List.set_cons_succ, List.getElem_toArray, List.getElem_cons_zero, List.getElem_cons_succ]
        refine wpAnyH_done (by kernel_rfl) ?_ _
        obtain ⟨wL, hwL⟩ : ∃ wL, wL = w5.setCell ⟨cc, 0, none⟩ (.pointer (some ⟨g, 0, none⟩)) := ⟨_, rfl⟩
        rw [← hwL] at CP ⊢
        have CC := Lib.hid (HE.out _ _ _ _ _ _ CP.out)
        clear hHeld hwL k0 kf CS F0 F5 F10 F16 F17
        go_wp2_with fail
        refine CC.out.mono ?_
        rintro e wM ⟨rfl, kc, hq⟩
        have HF := Lib.hid hq
        clear hq CC
        go_wp2_with fail
        go_ret
        exact HF.out
  ·
    clear hHeld
    go_simp
    obtain ⟨w1, hw2⟩ : ∃ w', w' = w0.alloc (.cells #[.pointer none] 25) := ⟨_, rfl⟩
    have hb : Below w0.heap.size w0 w1 := by rw [hw2]; exact (Below.refl _ _).alloc (Nat.le_refl _) _
    have hf : Blk w1 w0.heap.size 25 #[.pointer none] := by rw [hw2]; exact Blk.new _ _ _ rfl
    rw [← hw2]
    clear hw2
    obtain ⟨cc, hcc⟩ : ∃ q, q = w0.heap.size := ⟨_, rfl⟩
    rw [← hcc] at hf
    rw [← hcc]
    have BW1 : Hid (Below W.heap.size W w1) := Lib.hid (BW0.out.trans (hb.mono BW0.out.size))
    have LOcc : Hid (W.heap.size ≤ cc) := Lib.hid (by rw [hcc]; exact BW0.out.size)
    have F17 : Hid (Blk w1 cc 25 #[.pointer none]) := Lib.hid hf
    clear hf hb hcc
    refine hK.out _ _ (HS.out _ BW1.out) (fun hHeld => ?_)
    clear hK K BW0
    try simp only [Act.put, List.setIfInBounds_toArray, List.set_cons_zero, List.set_cons_succ, List.getElem_toArray, List.getElem_cons_zero, List.getElem_cons_succ]
    refine wpAnyH_ready (rs := [0, 5]) (by kernel_rfl) (by simp) (AllReadyH.cons rfl (fun K hK => ?_) (AllReadyH.cons rfl (fun K hK => ?_) AllReadyH.nil))
    ·
      clear hHeld
      go_simp
      obtain ⟨w2, hw2⟩ : ∃ w', w' = w1.alloc (.map #[] 0) := ⟨_, rfl⟩
      have hb : Below w1.heap.size w1 w2 := by rw [hw2]; exact (Below.refl _ _).alloc (Nat.le_refl _) _
      have hf : FM Try.prog 3 iL pD ptrE w2 w1.heap.size 0 (fun _ => none) := by rw [hw2]; exact FM.made _ _ _ _ _ _
      rw [← hw2]
      clear hw2
      obtain ⟨b4, hb4⟩ : ∃ q, q = w1.heap.size := ⟨_, rfl⟩
      rw [← hb4] at hf
      rw [← hb4]
      have BW2 : Hid (Below W.heap.size W w2) := Lib.hid (BW1.out.trans (hb.mono BW1.out.size))
      have LOb4 : Hid (W.heap.size ≤ b4) := Lib.hid (by rw [hb4]; exact BW1.out.size)
      have F17' := Lib.hid (F17.out.keep hb); clear F17; have F17 := F17'; clear F17'
      have F0 : Hid (FM Try.prog 3 iL pD ptrE w2 b4 0 (fun _ => none)) := Lib.hid hf
      clear hf hb hb4
      refine hK.out _ _ (HS.out _ BW2.out) (fun hHeld => ?_)
      clear hK K BW1
      try simp only [Act.put, List.setIfInBounds_toArray, List.set_cons_zero, List.set_cons_succ, List.getElem_toArray, List.getElem_cons_zero, List.getElem_cons_succ]
      refine wpAnyH_ready (rs := [5]) (by kernel_rfl) (by simp) (AllReadyH.cons rfl (fun K hK => ?_) AllReadyH.nil)
      clear hHeld
      go_simp
      refine (HC9.out w2 BW2.out).mono ?_
      rintro e w3 ⟨rfl, hf, hb⟩
      obtain ⟨b9, hb9⟩ : ∃ q, q = w2.heap.size := ⟨_, rfl⟩
      rw [← hb9] at hf
      rw [← hb9]
      have BW3 : Hid (Below W.heap.size W w3) := Lib.hid (BW2.out.trans (hb.mono BW2.out.size))
      have LOb9 : Hid (W.heap.size ≤ b9) := Lib.hid (by rw [hb9]; exact BW2.out.size)
      have NE0_5 : Hid (b4 ≠ b9) := Lib.hid (fun e => by have := F0.out.lt; omega)
      have F0' := Lib.hid (F0.out.keep hb); clear F0; have F0 := F0'; clear F0'
      have F17' := Lib.hid (F17.out.keep hb); clear F17; have F17 := F17'; clear F17'
      have F5 : Hid (FM Try.prog 9 sL iD (plainElem Try.prog 3) w3 b9 n d.ns) := Lib.hid hf
      clear hf hb hb9
      refine hK.out _ _ (HS.out _ BW3.out) (fun hHeld => ?_)
      clear hK K BW2
      try simp only [Act.put, List.setIfInBounds_toArray, List.set_cons_zero, List.set_cons_succ, List.getElem_toArray, List.getElem_cons_zero, List.getElem_cons_succ]
      refine wpAnyH_ready (rs := [10]) (by kernel_rfl) (by simp) (AllReadyH.cons rfl (fun K hK => ?_) AllReadyH.nil)
      clear hHeld
      go_simp
      refine (HC14.out w3 BW3.out).mono ?_
      rintro e w4 ⟨rfl, hf, hb⟩
      obtain ⟨b14, hb14⟩ : ∃ q, q = w3.heap.size := ⟨_, rfl⟩
      rw [← hb14] at hf
      rw [← hb14]
      have BW4 : Hid (Below W.heap.size W w4) := Lib.hid (BW3.out.trans (hb.mono BW3.out.size))
      have LOb14 : Hid (W.heap.size ≤ b14) := Lib.hid (by rw [hb14]; exact BW3.out.size)
      have NE0_10 : Hid (b4 ≠ b14) := Lib.hid (fun e => by have := F0.out.lt; omega)
      have F0' := Lib.hid (F0.out.keep hb); clear F0; have F0 := F0'; clear F0'
      have NE5_10 : Hid (b9 ≠ b14) := Lib.hid (fun e => by have := F5.out.lt; omega)
      have F5' := Lib.hid (F5.out.keep hb); clear F5; have F5 := F5'; clear F5'
      have F17' := Lib.hid (F17.out.keep hb); clear F17; have F17 := F17'; clear F17'
      have F10 : Hid (FM Try.prog 9 sL iD (plainElem Try.prog 3) w4 b14 n d.se) := Lib.hid hf
      clear hf hb hb14
      refine hK.out _ _ (HS.out _ BW4.out) (fun hHeld => ?_)
      clear hK K BW3
      try simp only [Act.put, List.setIfInBounds_toArray, List.set_cons_zero, List.set_cons_succ, List.getElem_toArray, List.getElem_cons_zero, List.getElem_cons_succ]
      refine wpAnyH_take (i := 15) (v := ?_) rfl (by kernel_rfl) (by kernel_rfl) (by kernel_rfl) (fun _ _ _ h => h) (Or.inl ⟨by rfl, ?_⟩) (by assumption) ?_
      rotate_left 1
      · intro w hSw; (try dsimp only at hSw); go_simp <;> with_reducible rfl
      try simp only [Act.put, List.setIfInBounds_toArray, List.set_cons_zero, List.set_cons_succ, List.getElem_toArray, List.getElem_cons_zero, List.getElem_cons_succ]
      refine wpAnyH_ready (rs := [16]) (by kernel_rfl) (by simp) (AllReadyH.cons rfl (fun K hK => ?_) AllReadyH.nil)
      clear hHeld
      go_simp
      obtain ⟨w5, hw2⟩ : ∃ w', w' = w4.alloc (.cells #[.map (some b4), .map (some b9), .map (some b14), .int .i64 (no : Int)] 56) := ⟨_, rfl⟩
      have hb : Below w4.heap.size w4 w5 := by rw [hw2]; exact (Below.refl _ _).alloc (Nat.le_refl _) _
      have hf : Blk w5 w4.heap.size 56 #[.map (some b4), .map (some b9), .map (some b14), .int .i64 (no : Int)] := by rw [hw2]; exact Blk.new _ _ _ rfl
      rw [← hw2]
      clear hw2
      obtain ⟨g, hg⟩ : ∃ q, q = w4.heap.size := ⟨_, rfl⟩
      rw [← hg] at hf
      rw [← hg]
      have BW5 : Hid (Below W.heap.size W w5) := Lib.hid (BW4.out.trans (hb.mono BW4.out.size))
      have LOg : Hid (W.heap.size ≤ g) := Lib.hid (by rw [hg]; exact BW4.out.size)
      have F0' := Lib.hid (F0.out.keep hb); clear F0; have F0 := F0'; clear F0'
      have F5' := Lib.hid (F5.out.keep hb); clear F5; have F5 := F5'; clear F5'
      have F10' := Lib.hid (F10.out.keep hb); clear F10; have F10 := F10'; clear F10'
      have F17' := Lib.hid (F17.out.keep hb); clear F17; have F17 := F17'; clear F17'
      have F16 : Hid (Blk w5 g 56 #[.map (some b4), .map (some b9), .map (some b14), .int .i64 (no : Int)]) := Lib.hid hf
      clear hf hb hg
      refine hK.out _ _ (HS.out _ BW5.out) (fun hHeld => ?_)
      clear hK K BW4
      try simp only [Act.put, List.setIfInBounds_toArray, List.set_cons_zero, List.set_cons_succ, List.getElem_toArray, List.getElem_cons_zero, List.getElem_cons_succ]
      have k0 : w5.cell? ⟨cc, 0, none⟩ = some (.pointer none) := (F17.out.cell 0).trans rfl
      have kf : w5.frozen? ⟨cc, 0, none⟩ = false := F17.out.frozen 0
      have CS : Chg (fun q => q = cc) w5 (w5.setCell ⟨cc, 0, none⟩ (.pointer (some ⟨g, 0, none⟩))) := Chg.setCell (S := fun q => q = cc) (p := ⟨cc, 0, none⟩) (Chg.refl _ _) (.inl rfl) _
      have hCP : CPS W (w5.setCell ⟨cc, 0, none⟩ (.pointer (some ⟨g, 0, none⟩))) n d b4 b9 b14 g cc := ⟨BW5.out.trans (CS.below (fun k hk e => by have := LOcc.out; omega) BW5.out.size), F0.out.chg CS (F0.out.ne_blk F17.out).symm, F5.out.chg CS (F5.out.ne_blk F17.out).symm, F10.out.chg CS (F10.out.ne_blk F17.out).symm, by rw [← HNO.out]; exact F16.out.chg CS (F16.out.ne_type F17.out (by decide)), F17.out.set_ 0 _, LOg.out, LOb4.out, LOb9.out, LOb14.out, (ne_of NE0_5.out (fun h e => by first | exact h e | exact h e.symm)), (ne_of NE0_10.out (fun h e => by first | exact h e | exact h e.symm)), (ne_of NE5_10.out (fun h e => by first | exact h e | exact h e.symm))⟩
      have CP := Lib.hid hCP
      refine wpAnyH_ready (rs := [18]) (by kernel_rfl) (by simp) (AllReadyH.cons rfl (fun K hK => ?_) AllReadyH.nil)
      clear hHeld
      go_simp
      refine hK.out _ _ (HS.out _ hCP.bel) (fun hHeld => ?_)
      clear hK K hCP
      try simp only [Act.put, List.setIfInBounds_toArray, List.set_cons_zero, List.set_cons_succ, List.getElem_toArray, List.getElem_cons_zero, List.getElem_cons_succ]
      refine wpAnyH_done (by kernel_rfl) ?_ _
      obtain ⟨wL, hwL⟩ : ∃ wL, wL = w5.setCell ⟨cc, 0, none⟩ (.pointer (some ⟨g, 0, none⟩)) := ⟨_, rfl⟩
      rw [← hwL] at CP ⊢
      have CC := Lib.hid (HE.out _ _ _ _ _ _ CP.out)
      clear hHeld hwL k0 kf CS F0 F5 F10 F16 F17
      go_wp2_with fail
      refine CC.out.mono ?_
      rintro e wM ⟨rfl, kc, hq⟩
      have HF := Lib.hid hq
      clear hq CC
      go_wp2_with fail
      go_ret
      exact HF.out
    ·
      clear hHeld
      go_simp
      refine (HC9.out w1 BW1.out).mono ?_
      rintro e w2 ⟨rfl, hf, hb⟩
      obtain ⟨b9, hb9⟩ : ∃ q, q = w1.heap.size := ⟨_, rfl⟩
      rw [← hb9] at hf
      rw [← hb9]
      have BW2 : Hid (Below W.heap.size W w2) := Lib.hid (BW1.out.trans (hb.mono BW1.out.size))
      have LOb9 : Hid (W.heap.size ≤ b9) := Lib.hid (by rw [hb9]; exact BW1.out.size)
      have F17' := Lib.hid (F17.out.keep hb); clear F17; have F17 := F17'; clear F17'
      have F5 : Hid (FM Try.prog 9 sL iD (plainElem Try.prog 3) w2 b9 n d.ns) := Lib.hid hf
      clear hf hb hb9
      refine hK.out _ _ (HS.out _ BW2.out) (fun hHeld => ?_)
      clear hK K BW1
      try simp only [Act.put, List.setIfInBounds_toArray, List.set_cons_zero, List.set_cons_succ, List.getElem_toArray, List.getElem_cons_zero, List.getElem_cons_succ]
      refine wpAnyH_ready (rs := [0, 10]) (by kernel_rfl) (by simp) (AllReadyH.cons rfl (fun K hK => ?_) (AllReadyH.cons rfl (fun K hK => ?_) AllReadyH.nil))
      ·
        clear hHeld
        go_simp
        obtain ⟨w3, hw2⟩ : ∃ w', w' = w2.alloc (.map #[] 0) := ⟨_, rfl⟩
        have hb : Below w2.heap.size w2 w3 := by rw [hw2]; exact (Below.refl _ _).alloc (Nat.le_refl _) _
        have hf : FM Try.prog 3 iL pD ptrE w3 w2.heap.size 0 (fun _ => none) := by rw [hw2]; exact FM.made _ _ _ _ _ _
        rw [← hw2]
        clear hw2
        obtain ⟨b4, hb4⟩ : ∃ q, q = w2.heap.size := ⟨_, rfl⟩
        rw [← hb4] at hf
        rw [← hb4]
        have BW3 : Hid (Below W.heap.size W w3) := Lib.hid (BW2.out.trans (hb.mono BW2.out.size))
        have LOb4 : Hid (W.heap.size ≤ b4) := Lib.hid (by rw [hb4]; exact BW2.out.size)
        have NE0_5 : Hid (b9 ≠ b4) := Lib.hid (fun e => by have := F5.out.lt; omega)
        have F5' := Lib.hid (F5.out.keep hb); clear F5; have F5 := F5'; clear F5'
        have F17' := Lib.hid (F17.out.keep hb); clear F17; have F17 := F17'; clear F17'
        have F0 : Hid (FM Try.prog 3 iL pD ptrE w3 b4 0 (fun _ => none)) := Lib.hid hf
        clear hf hb hb4
        refine hK.out _ _ (HS.out _ BW3.out) (fun hHeld => ?_)
        clear hK K BW2
        try simp only [Act.put, List.setIfInBounds_toArray, List.set_cons_zero, List.set_cons_succ, List.getElem_toArray, List.getElem_cons_zero, List.getElem_cons_succ]
        refine wpAnyH_ready (rs := [10]) (by kernel_rfl) (by simp) (AllReadyH.cons rfl (fun K hK => ?_) AllReadyH.nil)
        clear hHeld
        go_simp
        refine (HC14.out w3 BW3.out).mono ?_
        rintro e w4 ⟨rfl, hf, hb⟩
        obtain ⟨b14, hb14⟩ : ∃ q, q = w3.heap.size := ⟨_, rfl⟩
        rw [← hb14] at hf
        rw [← hb14]
        have BW4 : Hid (Below W.heap.size W w4) := Lib.hid (BW3.out.trans (hb.mono BW3.out.size))
        have LOb14 : Hid (W.heap.size ≤ b14) := Lib.hid (by rw [hb14]; exact BW3.out.size)
        have NE0_10 : Hid (b4 ≠ b14) := Lib.hid (fun e => by have := F0.out.lt; omega)
        have F0' := Lib.hid (F0.out.keep hb); clear F0; have F0 := F0'; clear F0'
        have NE5_10 : Hid (b9 ≠ b14) := Lib.hid (fun e => by have := F5.out.lt; omega)
        have F5' := Lib.hid (F5.out.keep hb); clear F5; have F5 := F5'; clear F5'
        have F17' := Lib.hid (F17.out.keep hb); clear F17; have F17 := F17'; clear F17'
        have F10 : Hid (FM Try.prog 9 sL iD (plainElem Try.prog 3) w4 b14 n d.se) := Lib.hid hf
        clear hf hb hb14
        refine hK.out _ _ (HS.out _ BW4.out) (fun hHeld => ?_)
        clear hK K BW3
        try simp only [Act.put, List.setIfInBounds_toArray, List.set_cons_zero, List.set_cons_succ, List.getElem_toArray, List.getElem_cons_zero, List.getElem_cons_succ]
        refine wpAnyH_take (i := 15) (v := ?_) rfl (by kernel_rfl) (by kernel_rfl) (by kernel_rfl) (fun _ _ _ h => h) (Or.inl ⟨by rfl, ?_⟩) (by assumption) ?_
        rotate_left 1
        · intro w hSw; (try dsimp only at hSw); go_simp <;> with_reducible rfl
        try simp only [Act.put, List.setIfInBounds_toArray, List.set_cons_zero, List.set_cons_succ, List.getElem_toArray, List.getElem_cons_zero, List.getElem_cons_succ]
        refine wpAnyH_ready (rs := [16]) (by kernel_rfl) (by simp) (AllReadyH.cons rfl (fun K hK => ?_) AllReadyH.nil)
        clear hHeld
        go_simp
        obtain ⟨w5, hw2⟩ : ∃ w', w' = w4.alloc (.cells #[.map (some b4), .map (some b9), .map (some b14), .int .i64 (no : Int)] 56) := ⟨_, rfl⟩
        have hb : Below w4.heap.size w4 w5 := by rw [hw2]; exact (Below.refl _ _).alloc (Nat.le_refl _) _
        have hf : Blk w5 w4.heap.size 56 #[.map (some b4), .map (some b9), .map (some b14), .int .i64 (no : Int)] := by rw [hw2]; exact Blk.new _ _ _ rfl
        rw [← hw2]
        clear hw2
        obtain ⟨g, hg⟩ : ∃ q, q = w4.heap.size := ⟨_, rfl⟩
        rw [← hg] at hf
        rw [← hg]
        have BW5 : Hid (Below W.heap.size W w5) := Lib.hid (BW4.out.trans (hb.mono BW4.out.size))
        have LOg : Hid (W.heap.size ≤ g) := Lib.hid (by rw [hg]; exact BW4.out.size)
        have F0' := Lib.hid (F0.out.keep hb); clear F0; have F0 := F0'; clear F0'
        have F5' := Lib.hid (F5.out.keep hb); clear F5; have F5 := F5'; clear F5'
        have F10' := Lib.hid (F10.out.keep hb); clear F10; have F10 := F10'; clear F10'
        have F17' := Lib.hid (F17.out.keep hb); clear F17; have F17 := F17'; clear F17'
        have F16 : Hid (Blk w5 g 56 #[.map (some b4), .map (some b9), .map (some b14), .int .i64 (no : Int)]) := Lib.hid hf
        clear hf hb hg
        refine hK.out _ _ (HS.out _ BW5.out) (fun hHeld => ?_)
        clear hK K BW4
        try simp only [Act.put, List.setIfInBounds_toArray, List.set_cons_zero, List.set_cons_succ, List.getElem_toArray, List.getElem_cons_zero, List.getElem_cons_succ]
        have k0 : w5.cell? ⟨cc, 0, none⟩ = some (.pointer none) := (F17.out.cell 0).trans rfl
        have kf : w5.frozen? ⟨cc, 0, none⟩ = false := F17.out.frozen 0
        have CS : Chg (fun q => q = cc) w5 (w5.setCell ⟨cc, 0, none⟩ (.pointer (some ⟨g, 0, none⟩))) := Chg.setCell (S := fun q => q = cc) (p := ⟨cc, 0, none⟩) (Chg.refl _ _) (.inl rfl) _
        have hCP : CPS W (w5.setCell ⟨cc, 0, none⟩ (.pointer (some ⟨g, 0, none⟩))) n d b4 b9 b14 g cc := ⟨BW5.out.trans (CS.below (fun k hk e => by have := LOcc.out; omega) BW5.out.size), F0.out.chg CS (F0.out.ne_blk F17.out).symm, F5.out.chg CS (F5.out.ne_blk F17.out).symm, F10.out.chg CS (F10.out.ne_blk F17.out).symm, by rw [← HNO.out]; exact F16.out.chg CS (F16.out.ne_type F17.out (by decide)), F17.out.set_ 0 _, LOg.out, LOb4.out, LOb9.out, LOb14.out, (ne_of NE0_5.out (fun h e => by first | exact h e | exact h e.symm)), (ne_of NE0_10.out (fun h e => by first | exact h e | exact h e.symm)), (ne_of NE5_10.out (fun h e => by first | exact h e | exact h e.symm))⟩
        have CP := Lib.hid hCP
        refine wpAnyH_ready (rs := [18]) (by kernel_rfl) (by simp) (AllReadyH.cons rfl (fun K hK => ?_) AllReadyH.nil)
        clear hHeld
        go_simp
        refine hK.out _ _ (HS.out _ hCP.bel) (fun hHeld => ?_)
        clear hK K hCP
        try simp only [Act.put, List.setIfInBounds_toArray, List.set_cons_zero, List.set_cons_succ, List.getElem_toArray, List.getElem_cons_zero, List.getElem_cons_succ]
        refine wpAnyH_done (by kernel_rfl) ?_ _
        obtain ⟨wL, hwL⟩ : ∃ wL, wL = w5.setCell ⟨cc, 0, none⟩ (.pointer (some ⟨g, 0, none⟩)) := ⟨_, rfl⟩
        rw [← hwL] at CP ⊢
        have CC := Lib.hid (HE.out _ _ _ _ _ _ CP.out)
        clear hHeld hwL k0 kf CS F0 F5 F10 F16 F17
        go_wp2_with fail
        refine CC.out.mono ?_
        rintro e wM ⟨rfl, kc, hq⟩
        have HF := Lib.hid hq
        clear hq CC
        go_wp2_with fail
        go_ret
        exact HF.out
      ·
        clear hHeld
        go_simp
        refine (HC14.out w2 BW2.out).mono ?_
        rintro e w3 ⟨rfl, hf, hb⟩
        obtain ⟨b14, hb14⟩ : ∃ q, q = w2.heap.size := ⟨_, rfl⟩
        rw [← hb14] at hf
        rw [← hb14]
        have BW3 : Hid (Below W.heap.size W w3) := Lib.hid (BW2.out.trans (hb.mono BW2.out.size))
        have LOb14 : Hid (W.heap.size ≤ b14) := Lib.hid (by rw [hb14]; exact BW2.out.size)
        have NE5_10 : Hid (b9 ≠ b14) := Lib.hid (fun e => by have := F5.out.lt; omega)
        have F5' := Lib.hid (F5.out.keep hb); clear F5; have F5 := F5'; clear F5'
        have F17' := Lib.hid (F17.out.keep hb); clear F17; have F17 := F17'; clear F17'
        have F10 : Hid (FM Try.prog 9 sL iD (plainElem Try.prog 3) w3 b14 n d.se) := Lib.hid hf
        clear hf hb hb14
        refine hK.out _ _ (HS.out _ BW3.out) (fun hHeld => ?_)
        clear hK K BW2
        try simp only [Act.put, List.setIfInBounds_toArray, List.set_cons_zero, List.set_cons_succ, List.getElem_toArray, List.getElem_cons_zero, List.getElem_cons_succ]
        refine wpAnyH_ready (rs := [0]) (by kernel_rfl) (by simp) (AllReadyH.cons rfl (fun K hK => ?_) AllReadyH.nil)
        clear hHeld
        go_simp
        obtain ⟨w4, hw2⟩ : ∃ w', w' = w3.alloc (.map #[] 0) := ⟨_, rfl⟩
        have hb : Below w3.heap.size w3 w4 := by rw [hw2]; exact (Below.refl _ _).alloc (Nat.le_refl _) _
        have hf : FM Try.prog 3 iL pD ptrE w4 w3.heap.size 0 (fun _ => none) := by rw [hw2]; exact FM.made _ _ _ _ _ _
        rw [← hw2]
        clear hw2
        obtain ⟨b4, hb4⟩ : ∃ q, q = w3.heap.size := ⟨_, rfl⟩
        rw [← hb4] at hf
        rw [← hb4]
        have BW4 : Hid (Below W.heap.size W w4) := Lib.hid (BW3.out.trans (hb.mono BW3.out.size))
        have LOb4 : Hid (W.heap.size ≤ b4) := Lib.hid (by rw [hb4]; exact BW3.out.size)
        have NE0_5 : Hid (b9 ≠ b4) := Lib.hid (fun e => by have := F5.out.lt; omega)
        have F5' := Lib.hid (F5.out.keep hb); clear F5; have F5 := F5'; clear F5'
        have NE0_10 : Hid (b14 ≠ b4) := Lib.hid (fun e => by have := F10.out.lt; omega)
        have F10' := Lib.hid (F10.out.keep hb); clear F10; have F10 := F10'; clear F10'
        have F17' := Lib.hid (F17.out.keep hb); clear F17; have F17 := F17'; clear F17'
        have F0 : Hid (FM Try.prog 3 iL pD ptrE w4 b4 0 (fun _ => none)) := Lib.hid hf
        clear hf hb hb4
        refine hK.out _ _ (HS.out _ BW4.out) (fun hHeld => ?_)
        clear hK K BW3
        try simp only [Act.put, List.setIfInBounds_toArray, List.set_cons_zero, List.set_cons_succ, List.getElem_toArray, List.getElem_cons_zero, List.getElem_cons_succ]
        refine wpAnyH_take (i := 15) (v := ?_) rfl (by kernel_rfl) (by kernel_rfl) (by kernel_rfl) (fun _ _ _ h => h) (Or.inl ⟨by rfl, ?_⟩) (by assumption) ?_
        rotate_left 1
        · intro w hSw; (try dsimp only at hSw); go_simp <;> with_reducible rfl
        try simp only [Act.put, List.setIfInBounds_toArray, List.set_cons_zero, List.set_cons_succ, List.getElem_toArray, List.getElem_cons_zero, List.getElem_cons_succ]
        refine wpAnyH_ready (rs := [16]) (by kernel_rfl) (by simp) (AllReadyH.cons rfl (fun K hK => ?_) AllReadyH.nil)
        clear hHeld
        go_simp
        obtain ⟨w5, hw2⟩ : ∃ w', w' = w4.alloc (.cells #[.map (some b4), .map (some b9), .map (some b14), .int .i64 (no : Int)] 56) := ⟨_, rfl⟩
        have hb : Below w4.heap.size w4 w5 := by rw [hw2]; exact (Below.refl _ _).alloc (Nat.le_refl _) _
        have hf : Blk w5 w4.heap.size 56 #[.map (some b4), .map (some b9), .map (some b14), .int .i64 (no : Int)] := by rw [hw2]; exact Blk.new _ _ _ rfl
        rw [← hw2]
        clear hw2
        obtain ⟨g, hg⟩ : ∃ q, q = w4.heap.size := ⟨_, rfl⟩
        rw [← hg] at hf
        rw [← hg]
        have BW5 : Hid (Below W.heap.size W w5) := Lib.hid (BW4.out.trans (hb.mono BW4.out.size))
        have LOg : Hid (W.heap.size ≤ g) := Lib.hid (by rw [hg]; exact BW4.out.size)
        have F0' := Lib.hid (F0.out.keep hb); clear F0; have F0 := F0'; clear F0'
        have F5' := Lib.hid (F5.out.keep hb); clear F5; have F5 := F5'; clear F5'
        have F10' := Lib.hid (F10.out.keep hb); clear F10; have F10 := F10'; clear F10'
        have F17' := Lib.hid (F17.out.keep hb); clear F17; have F17 := F17'; clear F17'
        have F16 : Hid (Blk w5 g 56 #[.map (some b4), .map (some b9), .map (some b14), .int .i64 (no : Int)]) := Lib.hid hf
        clear hf hb hg
        refine hK.out _ _ (HS.out _ BW5.out) (fun hHeld => ?_)
        clear hK K BW4
        try simp only [Act.put, List.setIfInBounds_toArray, List.set_cons_zero, List.set_cons_succ, List.getElem_toArray, List.getElem_cons_zero, List.getElem_cons_succ]
        have k0 : w5.cell? ⟨cc, 0, none⟩ = some (.pointer none) := (F17.out.cell 0).trans rfl
        have kf : w5.frozen? ⟨cc, 0, none⟩ = false := F17.out.frozen 0
        have CS : Chg (fun q => q = cc) w5 (w5.setCell ⟨cc, 0, none⟩ (.pointer (some ⟨g, 0, none⟩))) := Chg.setCell (S := fun q => q = cc) (p := ⟨cc, 0, none⟩) (Chg.refl _ _) (.inl rfl) _
        have hCP : CPS W (w5.setCell ⟨cc, 0, none⟩ (.pointer (some ⟨g, 0, none⟩))) n d b4 b9 b14 g cc := ⟨BW5.out.trans (CS.below (fun k hk e => by have := LOcc.out; omega) BW5.out.size), F0.out.chg CS (F0.out.ne_blk F17.out).symm, F5.out.chg CS (F5.out.ne_blk F17.out).symm, F10.out.chg CS (F10.out.ne_blk F17.out).symm, by rw [← HNO.out]; exact F16.out.chg CS (F16.out.ne_type F17.out (by decide)), F17.out.set_ 0 _, LOg.out, LOb4.out, LOb9.out, LOb14.out, (ne_of NE0_5.out (fun h e => by first | exact h e | exact h e.symm)), (ne_of NE0_10.out (fun h e => by first | exact h e | exact h e.symm)), (ne_of NE5_10.out (fun h e => by first | exact h e | exact h e.symm))⟩
        have CP := Lib.hid hCP
        refine wpAnyH_ready (rs := [18]) (by kernel_rfl) (by simp) (AllReadyH.cons rfl (fun K hK => ?_) AllReadyH.nil)
        clear hHeld
        go_simp
        refine hK.out _ _ (HS.out _ hCP.bel) (fun hHeld => ?_)
        clear hK K hCP
        try simp only [Act.put, List.setIfInBounds_toArray, List.set_cons_zero, List.set_cons_succ, List.getElem_toArray, List.getElem_cons_zero, List.getElem_cons_succ]
        refine wpAnyH_done (by kernel_rfl) ?_ _
        obtain ⟨wL, hwL⟩ : ∃ wL, wL = w5.setCell ⟨cc, 0, none⟩ (.pointer (some ⟨g, 0, none⟩)) := ⟨_, rfl⟩
        rw [← hwL] at CP ⊢
        have CC := Lib.hid (HE.out _ _ _ _ _ _ CP.out)
        clear hHeld hwL k0 kf CS F0 F5 F10 F16 F17
        go_wp2_with fail
        refine CC.out.mono ?_
        rintro e wM ⟨rfl, kc, hq⟩
        have HF := Lib.hid hq
        clear hq CC
        go_wp2_with fail
        go_ret
        exact HF.out
end Go.Proofs.Ythhbfjhgmdnpbab
