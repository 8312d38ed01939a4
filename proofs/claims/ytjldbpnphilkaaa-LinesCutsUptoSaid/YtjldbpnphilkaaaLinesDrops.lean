/- THE WALK of heronlaw16.LinesDrops. -/
import Derived.Test.YtjldbpnphilkaaaLinesFed
import Derived.Deep.RegionHeld3
namespace Go.Proofs.Ytjldbpnphilkaaa
open Go.RowKit
theorem runL_shift (most : Nat) (b : List UInt8) (d : Nat) : ∀ s : RS, runL most ⟨s.ls, s.u, d + s.long⟩ b = ⟨(runL most s b).ls, (runL most s b).u, d + (runL most s b).long⟩ := by
  induction b with
  | nil => intro s; rfl
  | cons c b ih =>
    intro s
    show runL most (stepL most ⟨s.ls, s.u, d + s.long⟩ c) b = _
    have e : stepL most ⟨s.ls, s.u, d + s.long⟩ c = ⟨(stepL most s c).ls, (stepL most s c).u, d + (stepL most s c).long⟩ := by
      unfold stepL
      by_cases h : c = 10
      · simp only [if_pos h]
        by_cases h2 : s.u.length ≤ most
        · simp only [if_pos h2]
        · simp only [if_neg h2]; rfl
      · simp only [if_neg h]
    rw [e, ih]; rfl
theorem MS.other {w0 W W' : World} {g g' : Nat} {v v' : Value} {most most' long long' : Nat} {u u' : List UInt8} (h : MS w0 W g v most u long) (h' : MS w0 W g' v' most' u' long') (hne : g ≠ g') (hv : v.ownBlock = none ∨ v.ownBlock ≠ v'.ownBlock) (hc : Chg (ownF g' v') W W') : MS w0 W' g v most u long := by
  have hb : Below w0.heap.size W W' := hc.below (fun k hk hs => by
    rcases hs with hs | hs
    · have := h'.hg; omega
    · have := h'.hv k hs; omega) h.below.size
  refine ⟨h.ob.chg hc (fun hs => ?_) (fun k hk hs => ?_), h.below.trans hb, h.hg, h.hv⟩
  · rcases hs with hs | hs
    · exact hne hs
    · exact h.ob.blk.apart h'.ob.own (by decide) hs
  · rcases hs with hs | hs
    · exact h'.ob.blk.apart h.ob.own (by decide) (by rw [hk, hs])
    · rcases hv with hv | hv
      · rw [hv] at hk; cases hk
      · exact hv (hk.trans hs.symm)
theorem SR.form {w : World} {base : Nat} {v : Value} {ls : List (List UInt8)} (h : SR w base v ls) :
    ∃ A cap, v = .slice A ls.length cap ∧ ls.length ≤ cap ∧ (0 < ls.length → ∃ g, A = some ⟨g, 0, none⟩ ∧ ∀ j l, ls[j]? = some l → w.cell? ⟨g, j, none⟩ = some (.string (strOf l))) := by
  rcases h.2 with ⟨rfl, h0⟩ | ⟨g, cap, cur, rfl, hb, hh, h1, h2, h3, h4⟩
  · rw [h0]; exact ⟨none, 0, rfl, Nat.le_refl _, fun h => absurd h (by omega)⟩
  · refine ⟨some ⟨g, 0, none⟩, cap, rfl, h1, fun _ => ⟨g, rfl, fun j l hj => ?_⟩⟩
    have hjl := (List.getElem?_eq_some_iff.1 hj).1
    have := World.ownsRow.cellAt h j (by omega)
    rw [this, List.getElem?_map, hj]; rfl
theorem most_eq (x : Int) : ∃ M : Nat, M ≤ 4096 ∧ wrap64 ((IntKind.u64.wrap x).tmod 4097) = (M : Int) := by
  have h0 : 0 ≤ IntKind.u64.wrap x := by simp [IntKind.wrap, IntKind.bits, IntKind.signed]; omega
  generalize IntKind.u64.wrap x = y at *
  have e : y.tmod 4097 = y % 4097 := Int.tmod_eq_emod_of_nonneg h0
  refine ⟨(y % 4097).toNat, by omega, ?_⟩
  rw [e, IntWalk.wrap64_in _ (by omega)]
  omega
set_option maxRecDepth 100000 in
set_option maxHeartbeats 4000000 in
theorem drops_any (x : Int) (A C : Option Addr) (n cap m capm : Nat) (b c : List UInt8) (w : World) (hb : RB w A n b) (hc : RB w C m c) (hncap : n ≤ cap) (hmcap : m ≤ capm) (hn : n ≤ 1048576) (hm : m ≤ 1048576) :
    Calls Try.prog 5 #[.int .i64 x, .slice A n cap, .slice C m capm] w fun e w' => e = .returned (.bool true) ∧ Below w.heap.size w w' := by
  have HB := Lib.hid hb; have HC := Lib.hid hc
  clear hb hc
  go_enter Try.func5, Try.ntmps5
  go_wp2_with fail
  refine (known_any _).mono ?_
  rintro e w1 ⟨rfl, hb1⟩
  have B1 := Lib.hid hb1; clear hb1
  go_wp2_with fail
  obtain ⟨M, hM, hMe⟩ := most_eq x
  rw [hMe]
  clear hMe
  refine (new_ok M _ hM).mono ?_
  intro e w2 hpost
  obtain ⟨g, hg, rfl, hm2, hb2, hsz2⟩ := hpost
  have S2 : Hid (MS w w2 g (.slice none 0 0) M [] 0) := Lib.hid ⟨hm2, B1.out.trans (hb2.mono B1.out.size), by have := B1.out.size; omega, fun k h => by simp [Value.ownBlock] at h⟩
  have hgl : g < w2.heap.size := hm2.blk.lt
  clear hm2 hb2 hsz2 hg
  go_wp2_with fail
  refine (new_ok M _ hM).mono ?_
  intro e w3 hpost
  obtain ⟨g', hg', rfl, hm3, hb3, hsz3⟩ := hpost
  have hne : g ≠ g' := by omega
  have S3 := Lib.hid (S2.out.keep hb3)
  have T3 : Hid (MS w w3 g' (.slice none 0 0) M [] 0) := Lib.hid ⟨hm3, S3.out.below, by have := S2.out.size; omega, fun k h => by simp [Value.ownBlock] at h⟩
  clear hm3 hb3 hsz3 hg' S2 B1 hgl
  (go_wp2_with fail; refine (num_any _ _).mono ?_; rintro e w' ⟨rfl, rfl⟩)
  (go_wp2_with fail; refine (num_any _ _).mono ?_; rintro e w' ⟨rfl, rfl⟩)
  go_wp2_with fail
  have bd1 := runL_bound M b ⟨[], [], 0⟩
  have HBN := Lib.hid HB.out.1
  refine (fed_any g (.slice none 0 0) M ⟨[], [], 0⟩ (runL M ⟨[], [], 0⟩ b) A none n cap 0 0 b [] _ S3.out HB.out hncap hM (by omega) ⟨rfl, fun h => absurd h (by omega)⟩ (fun h => absurd h (by omega)) (Nat.le_refl _) (by omega) (by simp) (by simp) rfl rfl).mono ?_
  intro e w4 hpost
  obtain ⟨vl, v4, rfl, hm4, hc4, hf4, hl4⟩ := hpost
  obtain ⟨E1, hE1⟩ : ∃ E1, E1 = runL M ⟨[], [], 0⟩ b := ⟨_, rfl⟩
  rw [← hE1] at hm4 hl4 bd1
  have T4 := Lib.hid (T3.out.other S3.out (fun h => hne h.symm) (.inl rfl) hc4)
  have S4 := Lib.hid hm4
  have bdl : E1.long ≤ 1048576 := by have := bd1.2.2; have := HBN.out; simp at *; omega
  clear hm4 hc4 hf4 hl4 bd1 S3 T3
  have HE1 := Lib.hid hE1; clear hE1
  obtain ⟨d, hd⟩ : ∃ d, d = E1.long := ⟨_, rfl⟩
  rw [← hd] at S4 bdl
  have HD := Lib.hid hd; clear hd
  go_wp2_with fail
  refine (long_any g v4 M d _ _ S4.out.ob).mono ?_
  rintro e w' ⟨rfl, rfl⟩
  go_wp2_with fail
  refine (drop_any g v4 M d _ _ S4.out.ob).mono ?_
  rintro e w5 ⟨rfl, hm5, hc5⟩
  have S5 := Lib.hid (S4.out.step hm5 hc5 (Fresh.nil _ _))
  have T5 := Lib.hid (T4.out.other S4.out (fun h => hne h.symm) (.inl rfl) hc5)
  clear hm5 hc5 S4 T4
  go_wp2_with fail
  refine (held_any g _ M d [] _ S5.out.ob).mono ?_
  rintro e w' ⟨rfl, rfl⟩
  rw [show (heldOf M []).length = 0 from by unfold heldOf; split <;> rfl]
  go_wp2_with fail
  refine (begun_any g _ M d [] _ S5.out.ob).mono ?_
  rintro e w' ⟨rfl, rfl⟩
  rw [show ([] : List UInt8).length = 0 from rfl]
  go_wp2_with fail
  refine (long_any g _ M d [] _ S5.out.ob).mono ?_
  rintro e w' ⟨rfl, rfl⟩
  go_wp2_with fail
  obtain ⟨E2, hE2⟩ : ∃ E2, E2 = runL M ⟨[], [], 0⟩ c := ⟨_, rfl⟩
  have HCN := Lib.hid HC.out.1
  have bd2 := runL_bound M c ⟨[], [], 0⟩
  rw [← hE2] at bd2
  have hshift : runL M ⟨[], [], d⟩ c = ⟨E2.ls, E2.u, d + E2.long⟩ := by rw [hE2]; exact runL_shift M c d ⟨[], [], 0⟩
  have bd3 : E2.long ≤ 1048576 := by have := bd2.2.2; have := HCN.out; simp at *; omega
  have HE2 := Lib.hid hE2; have HSH := Lib.hid hshift; clear hE2 hshift bd2
  refine (fed_any g _ M ⟨[], [], d⟩ ⟨E2.ls, E2.u, d + E2.long⟩ C none m capm 0 0 c [] _ S5.out HC.out hmcap hM (by omega) ⟨rfl, fun h => absurd h (by omega)⟩ (fun h => absurd h (by omega)) (Nat.le_refl _) (by omega) (by simp) (by show d ≤ _; omega) rfl HSH.out).mono ?_
  intro e w6 hpost
  obtain ⟨vx, v6, rfl, hm6, hc6, hf6, hl6⟩ := hpost
  have S6 := Lib.hid hm6
  have T6 := Lib.hid (T5.out.other S5.out (fun h => hne h.symm) (.inl rfl) hc6)
  have L6 := Lib.hid hl6
  clear hm6 hc6 hf6 hl6 S5 T5
  go_wp2_with fail
  refine (fed_any g' _ M ⟨[], [], 0⟩ E2 C none m capm 0 0 c [] _ T6.out HC.out hmcap hM (by omega) ⟨rfl, fun h => absurd h (by omega)⟩ (fun h => absurd h (by omega)) (Nat.le_refl _) (by omega) (by simp) (by simp) rfl HE2.out.symm).mono ?_
  intro e w7 hpost
  obtain ⟨vy, v7, rfl, hm7, hc7, hf7, hl7⟩ := hpost
  have T7 := Lib.hid hm7
  have S7 := Lib.hid (S6.out.other T6.out hne (by
    cases h : v6.ownBlock with
    | none => exact .inl rfl
    | some k => exact .inr (by simp [Value.ownBlock])) hc7)
  have L7 := Lib.hid (L6.out.chg T6.out hc7)
  have K7 := Lib.hid hl7
  clear hm7 hc7 hf7 hl7 S6 T6 L6
  obtain ⟨X, cx, rfl, hcx, hX⟩ := L7.out.form
  obtain ⟨Y, cy, rfl, hcy, hY⟩ := K7.out.form
  have HX := Lib.hid hX; have HY := Lib.hid hY
  clear hX hY
  obtain ⟨ll, hll⟩ : ∃ ll, ll = E2.ls.length := ⟨_, rfl⟩
  obtain ⟨lg, hlg⟩ : ∃ lg, lg = E2.long := ⟨_, rfl⟩
  obtain ⟨hd, hhd⟩ : ∃ x, x = (heldOf M E2.u).length := ⟨_, rfl⟩
  obtain ⟨ul, hul⟩ : ∃ x, x = E2.u.length := ⟨_, rfl⟩
  rw [← hlg] at S7 T7 bd3
  rw [← hll] at hcx hcy ⊢
  have hll1 : ll ≤ 1048576 := by
    have h1 := (runL_bound M c ⟨[], [], 0⟩).1
    rw [← HE2.out, ← hll] at h1
    have := HCN.out
    simp at h1; omega
  have LLH := Lib.hid hll
  clear hll hlg L7 K7
  have G1 := fun k => held_any g v6 M (d + lg) E2.u (w7.drewN k) (S7.out.drewN k).ob
  have G2 := fun k => held_any g' v7 M lg E2.u (w7.drewN k) (T7.out.drewN k).ob
  have G3 := fun k => begun_any g v6 M (d + lg) E2.u (w7.drewN k) (S7.out.drewN k).ob
  have G4 := fun k => begun_any g' v7 M lg E2.u (w7.drewN k) (T7.out.drewN k).ob
  have G5 := fun k => long_any g v6 M (d + lg) E2.u (w7.drewN k) (S7.out.drewN k).ob
  have G6 := fun k => long_any g' v7 M lg E2.u (w7.drewN k) (T7.out.drewN k).ob
  rw [← hhd] at G1 G2
  rw [← hul] at G3 G4
  have H1 := Lib.hid G1; have H2 := Lib.hid G2; have H3 := Lib.hid G3; have H4 := Lib.hid G4; have H5 := Lib.hid G5; have H6 := Lib.hid G6
  clear G1 G2 G3 G4 G5 G6 hhd hul
  have q1 : IntKind.i64.wrap ((d : Int) + (lg : Int)) = (d : Int) + (lg : Int) := IntWalk.i64_in _ (by omega)
  go_upto_region 15 with fail
  go_quiet ((first | (with_reducible exact quiet (H1.out _)) | (with_reducible exact quiet (H2.out _)) | (with_reducible exact quiet (H3.out _)) | (with_reducible exact quiet (H4.out _)) | (with_reducible exact quiet (H5.out _)) | (with_reducible exact quiet (H6.out _))))
  clear q1
  have Z7 := Lib.hid S7.out.below
  go_wp2_with fail
  go_loopw [137] (fun iv W => ∃ j : Nat, j ≤ ll ∧ iv = .int .i64 (j : Int) ∧ ∃ k, W = w7.drewN k) (fun iv _ => ll - (intOf iv).toNat)
  case atStart => exact ⟨0, Nat.zero_le _, rfl, nq, rfl⟩
  case round =>
    obtain ⟨j, hj, rfl, k, rfl⟩ := hrel
    by_cases hlt : j < ll
    · have hlj : j < E2.ls.length := by have := LLH.out; omega
      have hel : E2.ls[j]? = some (E2.ls[j]) := List.getElem?_eq_getElem hlj
      obtain ⟨gX, rfl, hx⟩ := HX.out (by omega)
      obtain ⟨gY, rfl, hy⟩ := HY.out (by omega)
      have c1 : w7.cell? ⟨gX, j, none⟩ = some (.string (strOf (E2.ls[j]))) := hx j _ hel
      have c2 : w7.cell? ⟨gY, j, none⟩ = some (.string (strOf (E2.ls[j]))) := hy j _ hel
      generalize strOf (E2.ls[j]) = st at *
      clear hx hy hel hlj
      go_wp2_with fail
      go_quiet (fail)
      go_wp2_with fail
      go_roundw
      case rel => exact ⟨j + 1, by omega, by go_num, _, rfl⟩
      case measure => simp [intOf]; omega
    · obtain rfl : j = ll := by omega
      go_wp2_with fail
      go_ret
      exact ⟨rfl, below_drewN Z7.out k⟩
end Go.Proofs.Ytjldbpnphilkaaa
