/- THE WALK of a pair's plays: one call. -/
import Derived.Test.YtckhmdeeddjkhaaPlayTurn
namespace Go.Proofs.Ytckhmdeeddjkhaa
open Go.RowKit
set_option maxRecDepth 100000 in
set_option maxHeartbeats 4000000 in
theorem plays_any {C : Nat → Nat × Nat} {i K M : Nat} (kind x : Int) (two : Bool) (w : World) (h : PS w C i K M) (hM : M ≤ 10000000) :
    Calls Try.prog 8 #[.pointer (some ⟨K, 0, none⟩), .agg #[.int .i64 kind, .bool two, .int .i64 x]] w (PlayP C i K (M + 2) w) := by
  obtain ⟨g, p, n, f, xs, q, r, A, m, c, v, v', vs, vs', ls, h, hls⟩ := h
  have hal : Below w.heap.size w (w.alloc (.cells #[.int .i64 kind, .bool two, .int .i64 x] 37)) := (Below.refl _ _).alloc (Nat.le_refl _) _
  have H0 := Lib.hid (h.step (Chg.of_below hal (fun _ => False)) (Sam.refl _ C) (fun _ h => h.elim))
  have HB : Hid (Blk (w.alloc (.cells #[.int .i64 kind, .bool two, .int .i64 x] 37)) w.heap.size 37 #[.int .i64 kind, .bool two, .int .i64 x]) := Lib.hid (Blk.new _ _ _ rfl)
  have HAL := Lib.hid hal
  have HBX : Hid (g < w.heap.size ∧ p < w.heap.size ∧ r < w.heap.size ∧ K < w.heap.size) := Lib.hid ⟨h.ring.blk.lt, h.ring.arr.lt, h.ref.blk.lt, h.blk.lt⟩
  have hqn := h.ring.hq
  have hn64 := h.ring.hn
  have hqm := h.ref.lst.1
  rw [hqm] at hqn
  have HQM := Lib.hid hqm
  have HLS := Lib.hid hls
  clear h hal hqm hls
  go_enter Try.func8, Try.ntmps8
  go_upto_region 1 with fail
  obtain ⟨w1, hw1⟩ : ∃ w1, w1 = w.alloc (.cells #[.int .i64 kind, .bool two, .int .i64 x] 37) := ⟨_, rfl⟩
  obtain ⟨bx, hbx⟩ : ∃ bx, bx = w.heap.size := ⟨_, rfl⟩
  rw [← hw1] at H0 HB HAL ⊢
  rw [← hbx] at HB HBX ⊢
  have HE := Lib.hid hbx
  clear hw1 hbx
  have b0 : w1.cell? ⟨bx, 0, none⟩ = some (.int .i64 kind) := HB.out.cell 0
  have b2 : w1.cell? ⟨bx, 2, none⟩ = some (.int .i64 x) := HB.out.cell 2
  have c0 : w1.cell? ⟨K, 0, none⟩ = some (.pointer (some ⟨g, 0, none⟩)) := H0.out.blk.cell 0
  have c1 : w1.cell? ⟨K, 1, none⟩ = some (.pointer (some ⟨r, 0, none⟩)) := H0.out.blk.cell 1
  -- what remains of a way that ends in w2 with a pair
  have FIN : Hid (∀ (w2 : World), (∃ C', PS w2 C' i K (M + 2) ∧ Chg (fun b => (C b).1 = i) w1 w2 ∧ Sam w1.heap.size C C') → PlayP C i K (M + 2) w (.returned (.bool true)) w2) := Lib.hid (fun w2 ⟨C', h1, h2, h3⟩ => ⟨rfl, C', h1, (Chg.of_below HAL.out _).trans h2 (fun _ _ h => h), h3.mono HAL.out.size⟩)
  -- a way that only draws
  have QUI : Hid (∀ k : Nat, PlayP C i K (M + 2) w (.returned (.bool true)) (w1.drewN k)) := Lib.hid (fun k => FIN.out _ ⟨C, ⟨g, p, n, f, xs, q, r, A, m, c, v, v', vs, vs', ls, H0.out.step ((Chg.refl (fun _ => False) w1).drewN k) (Sam.refl _ _) (fun _ h => h.elim), by have := HLS.out; omega⟩, (Chg.refl _ w1).drewN k, Sam.refl _ _⟩)
  by_cases k1 : kind = 1
  · subst k1
    by_cases hfull : m = n
    · have hp1 : ∀ t : Nat, Calls Try.prog 20 #[.pointer (some ⟨g, 0, none⟩), .int .i64 x] (w1.drewN t) fun e w' => e = .returned (.int .i64 180) ∧ ∃ s, w' = (w1.drewN t).drewN s := fun t => push_full g p n f xs q x _ (H0.out.ring.drewN t) (by rw [HQM.out]; exact hfull)
      have hp2 : ∀ t : Nat, Calls Try.prog 24 #[.pointer (some ⟨r, 0, none⟩), .int .i64 x] (w1.drewN t) fun e w' => e = .returned (.int .i64 180) ∧ ∃ s, w' = (w1.drewN t).drewN s := fun t => rpush_full r n A m c q x _ (H0.out.ref.chg ((Chg.refl (fun _ => False) w1).drewN t) id (fun _ _ => id)) (by rw [HQM.out]; exact hfull)
      have P1 := Lib.hid hp1; have P2 := Lib.hid hp2
      clear hp1 hp2
      go_upto_region 3 with fail
      go_quiet ((first | (with_reducible exact quietB (P1.out _)) | (with_reducible exact quietB (P2.out _))))
      go_wp2_with fail
      go_ret
      exact QUI.out _
    · have hlt : m < n := by omega
      have HR1 : Hid (∀ t : Nat, Calls Try.prog 20 #[.pointer (some ⟨g, 0, none⟩), .int .i64 x] (w1.drewN t) fun e w' => e = .returned (.int .i64 0) ∧ ∃ xs', RG w' g p n f xs' (q ++ [x]) ∧ Chg (ringF g p) w1 w') := Lib.hid (fun t =>
        (push_ok g p n f xs q x (w1.drewN t) (H0.out.ring.drewN t) (by rw [HQM.out]; exact hlt)).mono (fun e w' ⟨h1, xs', h2, h3⟩ => ⟨h1, xs', h2, ((Chg.refl _ w1).drewN t).trans h3 (fun _ _ h => h)⟩))
      have hbx := HBX.out
      have hne : K ≠ g ∧ K ≠ p ∧ K ≠ r ∧ r ≠ g ∧ r ≠ p := ⟨col_ne H0.out.cK H0.out.cg (by simp), col_ne H0.out.cK H0.out.cp (by simp), col_ne H0.out.cK H0.out.cr (by simp), col_ne H0.out.cr H0.out.cg (by simp), col_ne H0.out.cr H0.out.cp (by simp)⟩
      have HNE := Lib.hid hne
      have hsz := HAL.out.size
      have hE := HE.out
      have KP : Hid (∀ (S : Nat → Prop) (w' : World), Chg S w1 w' → ¬ S K → ¬ S bx → w'.cell? ⟨K, 0, none⟩ = some (.pointer (some ⟨g, 0, none⟩)) ∧ w'.cell? ⟨K, 1, none⟩ = some (.pointer (some ⟨r, 0, none⟩)) ∧ w'.cell? ⟨bx, 2, none⟩ = some (.int .i64 x)) := Lib.hid (fun S w' hc hK hb =>
        ⟨(H0.out.blk.chg hc hK).cell 0, (H0.out.blk.chg hc hK).cell 1, (HB.out.chg hc hb).cell 2⟩)
      have HBK : Hid (bx ≠ g ∧ bx ≠ p ∧ bx ≠ r) := Lib.hid (by omega)
      have hN64 := hn64
      clear hne hsz hE hbx
      go_upto_region 3 with fail
      go_region_held3 (fun w' => w'.cell? ⟨K, 0, none⟩ = some (.pointer (some ⟨g, 0, none⟩)) ∧ w'.cell? ⟨K, 1, none⟩ = some (.pointer (some ⟨r, 0, none⟩)) ∧ w'.cell? ⟨bx, 2, none⟩ = some (.int .i64 x)) (first | go_keep | exact ⟨d0, d1, d2⟩)
        (first
          | (go_at_call 20; refine (HR1.out _).mono ?_; rintro e wa ⟨rfl, xsa, hra, hca⟩
             obtain ⟨d0, d1, d2⟩ := KP.out _ _ hca (fun h => by rcases h with h | h; exact HNE.out.1 h; exact HNE.out.2.1 h) (fun h => by rcases h with h | h; exact HBK.out.1 h; exact HBK.out.2.1 h)
             have RA := Lib.hid hra; have CA := Lib.hid hca; have FA := Lib.hid (fun t : Nat => (H0.out.ref.chg (hca.drewN t) (fun h => by rcases h with h | h; exact HNE.out.2.2.2.1 h; exact HNE.out.2.2.2.2 h) (fun k hk h => by have hk2 := H0.out.cA k hk; rcases h with h | h; exact col_ne hk2 H0.out.cg (by simp) h; exact col_ne hk2 H0.out.cp (by simp) h))); clear hra hca)
          | (go_at_call 24; refine (rpush_ok r n A m c q x _ (by first | exact FA.out 0 | exact FA.out _) (by rw [HQM.out]; exact hlt) hN64).mono ?_; rintro e wb ⟨rfl, A2, cc2, hrb, hcb, hib⟩; obtain ⟨d0, d1, d2⟩ := KP.out (fun k => (k = g ∨ k = p) ∨ k = r) _ ((CA.out.mono (fun k _ h => .inl h)).trans hcb (fun k _ h => .inr h)) (fun h => by rcases h with (h | h) | h; exact HNE.out.1 h; exact HNE.out.2.1 h; exact HNE.out.2.2.1 h) (fun h => by rcases h with (h | h) | h; exact HBK.out.1 h; exact HBK.out.2.1 h; exact HBK.out.2.2 h)))
      have hgr := HNE.out
      obtain ⟨t1, t2⟩ := H0.out.turn (RA.out.chg hcb (fun e => hgr.2.2.2.1 e.symm) (fun e => hgr.2.2.2.2 e.symm)) hrb ((CA.out.mono (fun k _ h => by rcases h with h | h; exact .inl h; exact .inr (.inl h))).trans hcb (fun k _ h => .inr (.inr h))) (sam_paint C w1.heap.size (i, 2)) (fun k hk => paint_new C _ (Nat.le_trans CA.out.size (hib k hk)))
      have HF := Lib.hid (FIN.out wb ⟨_, ⟨_, _, _, _, _, _, _, _, _, _, _, _, _, _, _, t1, by have := HLS.out; omega⟩, t2, sam_paint _ _ _⟩)
      clear t1 t2 hrb hcb hib hgr RA CA FA
      go_wp2_with fail
      go_ret
      exact HF.out
  · by_cases k2 : kind = 2
    · subst k2
      have hsz := HAL.out.size
      cases q with
      | nil =>
        have hm0 : m = 0 := by have := HQM.out; simp at this; omega
        subst hm0
        have P1 := Lib.hid (pop_nil g p n f xs w1 H0.out.ring)
        have P2 : Hid (∀ t : Nat, Calls Try.prog 25 #[.pointer (some ⟨r, 0, none⟩)] (w1.drewN t) fun e w' => e = .returned (.tuple #[.int .i64 0, .bool false]) ∧ ∃ m, w' = (w1.drewN t).drewN m) := Lib.hid (fun t => rpop_nil r n A c _ (H0.out.ref.chg ((Chg.refl (fun _ => False) w1).drewN t) id (fun _ _ => id)))
        go_wp2_with fail
        refine P1.out.mono ?_
        rintro e w2 ⟨rfl, t1, rfl⟩
        go_wp2_with fail
        refine (P2.out _).mono ?_
        rintro e w3 ⟨rfl, t2, rfl⟩
        go_wp2_with fail
        go_ret
        exact QUI.out _
      | cons y q =>
        obtain ⟨m, rfl⟩ : ∃ m', m = m' + 1 := ⟨m - 1, by have := HQM.out; simp at this; omega⟩
        have P1 := Lib.hid (pop_cons g p n f xs q y w1 H0.out.ring)
        go_wp2_with fail
        refine P1.out.mono ?_
        rintro e wa ⟨rfl, fa, xsa, hra, hca⟩
        have hgr : K ≠ g ∧ K ≠ p ∧ r ≠ g ∧ r ≠ p := ⟨col_ne H0.out.cK H0.out.cg (by simp), col_ne H0.out.cK H0.out.cp (by simp), col_ne H0.out.cr H0.out.cg (by simp), col_ne H0.out.cr H0.out.cp (by simp)⟩
        have HG := Lib.hid hgr
        have FA := Lib.hid (H0.out.ref.chg hca (fun h => by rcases h with h | h; exact HG.out.2.2.1 h; exact HG.out.2.2.2 h) (fun k hk h => by have hk2 := H0.out.cA k hk; rcases h with h | h; exact col_ne hk2 H0.out.cg (by simp) h; exact col_ne hk2 H0.out.cp (by simp) h))
        have d1 : wa.cell? ⟨K, 1, none⟩ = some (.pointer (some ⟨r, 0, none⟩)) := (H0.out.blk.chg hca (fun h => by rcases h with h | h; exact HG.out.1 h; exact HG.out.2.1 h)).cell 1
        have RA := Lib.hid hra; have CA := Lib.hid hca
        have P2 := Lib.hid (rpop_cons r n A m c y q wa FA.out)
        clear hra hca hgr P1
        go_wp2_with fail
        refine P2.out.mono ?_
        rintro e wb ⟨rfl, A2, cc2, hrb, hcb, hib⟩
        have hgr := HG.out
        obtain ⟨t1, t2⟩ := H0.out.turn (RA.out.chg hcb (fun e => hgr.2.2.1 e.symm) (fun e => hgr.2.2.2 e.symm)) hrb ((CA.out.mono (fun k _ h => by rcases h with h | h; exact .inl h; exact .inr (.inl h))).trans hcb (fun k _ h => .inr (.inr h))) (Sam.refl _ C) (fun k hk => H0.out.cA k (hib k hk))
        have HF := Lib.hid (FIN.out wb ⟨_, ⟨_, _, _, _, _, _, _, _, _, _, _, _, _, _, _, t1, by have := HLS.out; omega⟩, t2, Sam.refl _ _⟩)
        clear t1 t2 hrb hcb hib hgr RA CA FA d1 P2
        go_wp2_with fail
        go_ret
        exact HF.out
    · by_cases k3 : kind = 3
      · subst k3
        cases q with
        | nil =>
          have hm0 : m = 0 := by have := HQM.out; simp at this; omega
          subst hm0
          have P1 := Lib.hid (front_nil g p n f xs w1 H0.out.ring)
          have P2 : Hid (∀ t : Nat, Calls Try.prog 27 #[.pointer (some ⟨r, 0, none⟩)] (w1.drewN t) fun e w' => e = .returned (.tuple #[.int .i64 0, .bool false]) ∧ ∃ m, w' = (w1.drewN t).drewN m) := Lib.hid (fun t => rfront_nil r n A c _ (H0.out.ref.chg ((Chg.refl (fun _ => False) w1).drewN t) id (fun _ _ => id)))
          go_wp2_with fail
          refine P1.out.mono ?_
          rintro e w2 ⟨rfl, t1, rfl⟩
          go_wp2_with fail
          refine (P2.out _).mono ?_
          rintro e w3 ⟨rfl, t2, rfl⟩
          go_wp2_with fail
          go_ret
          exact QUI.out _
        | cons y q =>
          have P1 := Lib.hid (front_cons g p n f xs q y w1 H0.out.ring)
          have P2 : Hid (∀ t : Nat, Calls Try.prog 27 #[.pointer (some ⟨r, 0, none⟩)] (w1.drewN t) fun e w' => e = .returned (.tuple #[.int .i64 y, .bool true]) ∧ ∃ m, w' = (w1.drewN t).drewN m) := Lib.hid (fun t => rfront_cons r n A m c y q _ (H0.out.ref.chg ((Chg.refl (fun _ => False) w1).drewN t) id (fun _ _ => id)))
          go_wp2_with fail
          refine P1.out.mono ?_
          rintro e w2 ⟨rfl, t1, rfl⟩
          go_wp2_with fail
          refine (P2.out _).mono ?_
          rintro e w3 ⟨rfl, t2, rfl⟩
          go_wp2_with fail
          go_ret
          exact QUI.out _
      · by_cases k4 : kind = 4
        · subst k4
          have P1 := Lib.hid (asks_any w1 H0.out)
          go_wp2_with fail
          refine P1.out.mono ?_
          rintro e w2 ⟨rfl, t1, rfl⟩
          go_wp2_with fail
          go_ret
          exact QUI.out _
        · by_cases k5 : kind = 5
          · subst k5
            have P1 := Lib.hid (pall_any w1 H0.out (by have := HLS.out; omega))
            go_wp2_with fail
            refine P1.out.mono ?_
            rintro e w2 ⟨rfl, C', v2, v2', vs2, vs2', z, hpr, hch, hsm⟩
            have HF := Lib.hid (FIN.out w2 ⟨C', ⟨_, _, _, _, _, _, _, _, _, _, _, _, _, _, _, hpr, by have := HLS.out; simp; omega⟩, hch, hsm⟩)
            clear hpr hch hsm P1
            go_wp2_with fail
            go_ret
            exact HF.out
          · by_cases k6 : kind = 6
            · subst k6
              by_cases hbad : x < 1 ∨ 64 < x
              · have P1 := Lib.hid (new_bad x w1 hbad)
                have P2 := Lib.hid (rnew_bad x w1 hbad)
                clear hbad
                go_wp2_with fail
                refine P1.out.mono ?_
                rintro e w2 ⟨rfl, rfl⟩
                go_wp2_with fail
                refine P2.out.mono ?_
                rintro e w3 ⟨rfl, rfl⟩
                go_wp2_with fail
                go_ret
                exact QUI.out 0
              · obtain ⟨n2, rfl⟩ := Int.eq_ofNat_of_zero_le (show 0 ≤ x by omega)
                have hn1 : 1 ≤ n2 := by omega
                have hn2 : n2 ≤ 64 := by omega
                clear hbad
                have P1 := Lib.hid (new_ok n2 w1 hn1 hn2)
                go_wp2_with fail
                refine P1.out.mono ?_
                rintro e w2 ⟨g2, p2, xs2, rfl, hg2, hp2, hr2, hb2⟩
                have P2 := Lib.hid (rnew_ok n2 w2 hn1 hn2)
                have d2 : w2.cell? ⟨bx, 2, none⟩ = some (.int .i64 n2) := (HB.out.keep hb2).cell 2
                have HR2 := Lib.hid hr2; have HB2 := Lib.hid hb2; have HG2 := Lib.hid (And.intro hg2 hp2)
                clear hg2 hp2 hr2 hb2 P1
                go_wp2_with fail
                refine P2.out.mono ?_
                rintro e w3 ⟨r3, rfl, hr3, hf3, hb3⟩
                have hbb := HB2.out.trans (hb3.mono HB2.out.size)
                have hg3 : g2 < w2.heap.size := HR2.out.blk.lt
                have hp3 : p2 < w2.heap.size := HR2.out.arr.lt
                have hg := HG2.out
                have hw12 := HB2.out.size
                obtain ⟨C', hC'⟩ : ∃ C' : Nat → Nat × Nat, C' = fun b => if b < w1.heap.size then C b else if b < w2.heap.size then (i, 1) else (i, 2) := ⟨_, rfl⟩
                have hs : Sam w1.heap.size C C' := fun b hb => by rw [hC']; exact if_pos hb
                have hg1 : C' g2 = (i, 1) := by rw [hC']; show (if g2 < w1.heap.size then C g2 else if g2 < w2.heap.size then (i, 1) else (i, 2)) = _; rw [if_neg (by omega), if_pos hg3]
                have hp1 : C' p2 = (i, 1) := by rw [hC']; show (if p2 < w1.heap.size then C p2 else if p2 < w2.heap.size then (i, 1) else (i, 2)) = _; rw [if_neg (by omega), if_pos hp3]
                have hr1 : C' r3 = (i, 2) := by rw [hC']; show (if r3 < w1.heap.size then C r3 else if r3 < w2.heap.size then (i, 1) else (i, 2)) = _; rw [if_neg (by omega), if_neg (by omega)]
                obtain ⟨t1, t2⟩ := H0.out.renew (HR2.out.chg (Chg.of_below hb3 (fun _ => False)) id id) hf3 hbb hs (fun k hk => absurd hk.1 (by omega)) hg1 hp1 hr1
                have f0 : w3.frozen? ⟨K, 0, none⟩ = false := (H0.out.blk.keep hbb).frozen 0
                have f1 : w3.frozen? ⟨K, 1, none⟩ = false := (H0.out.blk.keep hbb).frozen 1
                have d0 : w3.cell? ⟨K, 0, none⟩ = some (.pointer (some ⟨g, 0, none⟩)) := (H0.out.blk.keep hbb).cell 0
                have d1 : w3.cell? ⟨K, 1, none⟩ = some (.pointer (some ⟨r, 0, none⟩)) := (H0.out.blk.keep hbb).cell 1
                have HF := Lib.hid (FIN.out _ ⟨_, ⟨_, _, _, _, _, _, _, _, _, _, _, _, _, _, _, t1, by have := HLS.out; omega⟩, t2, hs⟩)
                clear t1 t2 hs hg1 hp1 hr1 hC' hg hw12 hg3 hp3 hbb hf3 hr3 hb3 P2 d2
                go_wp2_with fail
                go_ret
                exact HF.out
            · go_wp2_with fail
              go_ret
              exact QUI.out 0
end Go.Proofs.Ytckhmdeeddjkhaa
