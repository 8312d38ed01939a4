/- THE WALK of a pair's all: asked twice, the one left, the other written over. -/
import Derived.Test.YtckhmdeeddjkhaaPlayMore
namespace Go.Proofs.Ytckhmdeeddjkhaa
open Go.RowKit
def AllP (C : Nat → Nat × Nat) (i K g p n f : Nat) (xs q : List Int) (r : Nat) (A : Option Addr) (m c : Nat) (ls : List (List Int)) (w : World) (e : Ending) (w' : World) : Prop :=
  e = .returned (.bool true) ∧ ∃ C' v v' vs vs' z, PR w' C' i K g p n f xs q r A m c v v' vs vs' (ls ++ [q, z]) (ls ++ [q, z]) ∧ Chg (fun b => (C b).1 = i) w w' ∧ Sam w.heap.size C C'
theorem ri_of_blk {w : World} {a : Nat} {q : List Int} {m : Nat} (h : Blk w a 3 (q.map intV).toArray) (hm : q.length = m) : RI w (some ⟨a, 0, none⟩) m q :=
  ⟨hm, fun _ => ⟨a, 0, rfl, h.lt, fun j x hj => by rw [h.cell]; simp [hj, intV]⟩⟩
theorem oi_of_blk {w : World} {a base : Nat} {q : List Int} {m : Nat} (h : Blk w a 3 (q.map intV).toArray) (hm : q.length = m) (hb : base ≤ a) (h64 : m ≤ 64) : OI w base (.slice (some ⟨a, 0, none⟩) m m) q :=
  ⟨by simp, .inr ⟨a, m, _, by rw [hm], hb, h, by omega, by simp only [maxLen]; omega, by simp [hm], by simp only [Nat.mul_one]; rw [List.take_of_length_le (by simp)]⟩⟩
theorem mark_set (z : Int) (q : List Int) (k : Nat) (hk : k < q.length) : (List.replicate k z ++ q.drop k).set k z = List.replicate (k + 1) z ++ q.drop (k + 1) := by
  rw [List.set_append_right _ _ (by simp), List.length_replicate, Nat.sub_self, List.drop_eq_getElem_cons hk, List.set_cons_zero, List.replicate_succ', List.append_assoc]
  rfl
set_option maxRecDepth 100000 in
set_option maxHeartbeats 4000000 in
theorem pall_any {C : Nat → Nat × Nat} {i K g p n f r m c : Nat} {xs q : List Int} {A : Option Addr} {v v' : Value} {vs vs' : List Value} {ls : List (List Int)} (w : World)
    (h : PR w C i K g p n f xs q r A m c v v' vs vs' ls ls) (hn : ls.length ≤ 100000000) :
    Calls Try.prog 10 #[.pointer (some ⟨K, 0, none⟩)] w (AllP C i K g p n f xs q r A m c ls w) := by
  have c0 : w.cell? ⟨K, 0, none⟩ = some (.pointer (some ⟨g, 0, none⟩)) := h.blk.cell 0
  have CA := Lib.hid (all_any g p n f xs q w h.ring)
  have hm := h.ref.lst.1
  have hm64 : m ≤ 64 := by have := h.ring.hq; have := h.ring.hn; omega
  obtain ⟨Av, capv, hv, hv1, hv2, _⟩ := h.l.form
  obtain ⟨Aw, capw, hw, hw1, hw2, _⟩ := h.wt.form
  subst hv hw
  have H := Lib.hid h; have HM := Lib.hid hm
  have HN : Hid (ls.length ≤ 100000000) := Lib.hid hn
  obtain ⟨N, hN⟩ : ∃ N, N = ls.length := ⟨_, rfl⟩
  have HNE := Lib.hid hN
  rw [← hN] at hv1 hw1 hn H
  have hz : IntKind.i64.wrap (-5 - (N : Int)) = -5 - (N : Int) := IntWalk.i64_in _ (by omega)
  obtain ⟨z, hzz⟩ : ∃ z, z = -5 - (N : Int) := ⟨_, rfl⟩
  rw [← hzz] at hz
  have HZ := Lib.hid hzz
  clear h hm hN hzz
  go_enter Try.func10, Try.ntmps10
  go_wp2_with fail
  refine CA.out.mono ?_
  intro e w1 hpost
  obtain ⟨a, rfl, ha, hab, hb1⟩ := hpost
  rw [HM.out]
  have P1 := Lib.hid (H.out.step (Chg.of_below hb1 (fun _ => False)) (Sam.refl _ C) (fun _ h => h.elim))
  have A1 := Lib.hid hab; have B1 := Lib.hid hb1
  have HA := Lib.hid ha
  clear hab hb1 CA c0 ha
  have c0 : w1.cell? ⟨K, 0, none⟩ = some (.pointer (some ⟨g, 0, none⟩)) := P1.out.blk.cell 0
  have CA := Lib.hid (all_any g p n f xs q w1 P1.out.ring)
  go_wp2_with fail
  refine CA.out.mono ?_
  intro e w2 hpost
  obtain ⟨bb, rfl, hbb, hbbk, hb2⟩ := hpost
  rw [HM.out]
  have HAB : Hid (w.heap.size ≤ bb ∧ w.heap.size ≤ a ∧ a ≠ bb) := Lib.hid (by
    have := B1.out.size
    have := A1.out.lt
    have := HA.out
    omega)
  have P2 := Lib.hid (P1.out.step (Chg.of_below hb2 (fun _ => False)) (Sam.refl _ C) (fun _ h => h.elim))
  have A2 := Lib.hid (A1.out.keep hb2); have BB2 := Lib.hid hbbk; have B2 := Lib.hid (B1.out.trans (hb2.mono B1.out.size))
  clear hbbk hb2 CA c0 hbb P1 A1 B1 HA
  have c1 : w2.cell? ⟨K, 1, none⟩ = some (.pointer (some ⟨r, 0, none⟩)) := P2.out.blk.cell 1
  have d1 : w2.cell? ⟨r, 1, none⟩ = some (.slice A m c) := P2.out.ref.blk.cell 1
  have hs1 : ∀ k : Nat, Calls Try.prog 28 #[.slice (some ⟨a, 0, none⟩) m m, .slice A m c] (w2.drewN k) fun e w' => e = .returned (.bool true) ∧ ∃ j, w' = (w2.drewN k).drewN j := fun k =>
    same_ints _ _ m m c q (w2.drewN k) ((ri_of_blk A2.out HM.out).chg ((Chg.refl (fun _ => False) w2).drewN k) (fun _ _ _ => id)) (P2.out.ref.lst.chg ((Chg.refl (fun _ => False) w2).drewN k) (fun _ _ _ => id)) (by omega) (Nat.le_refl _) P2.out.ref.mc
  have hs2 : ∀ k : Nat, Calls Try.prog 28 #[.slice (some ⟨bb, 0, none⟩) m m, .slice A m c] (w2.drewN k) fun e w' => e = .returned (.bool true) ∧ ∃ j, w' = (w2.drewN k).drewN j := fun k =>
    same_ints _ _ m m c q (w2.drewN k) ((ri_of_blk BB2.out HM.out).chg ((Chg.refl (fun _ => False) w2).drewN k) (fun _ _ _ => id)) (P2.out.ref.lst.chg ((Chg.refl (fun _ => False) w2).drewN k) (fun _ _ _ => id)) (by omega) (Nat.le_refl _) P2.out.ref.mc
  have HS1 := Lib.hid hs1; have HS2 := Lib.hid hs2
  clear hs1 hs2
  go_wp2_with fail
  refine (HS1.out 0).mono ?_
  rintro e w' ⟨rfl, k1, rfl⟩
  simp only [World.drewN_drewN]
  go_wp2_with fail
  refine (HS2.out _).mono ?_
  rintro e w3 ⟨rfl, k2, hw3⟩
  rw [World.drewN_drewN] at hw3
  have P3 : Hid (PR w3 C i K g p n f xs q r A m c (.slice Av N capv) (.slice Aw N capw) vs vs' ls ls) := Lib.hid (by rw [hw3]; exact P2.out.step ((Chg.refl (fun _ => False) w2).drewN _) (Sam.refl _ C) (fun _ h => h.elim))
  have A3 : Hid (Blk w3 a 3 (q.map intV).toArray) := Lib.hid (by rw [hw3]; exact A2.out.drewN _)
  have BB3 : Hid (Blk w3 bb 3 (q.map intV).toArray) := Lib.hid (by rw [hw3]; exact BB2.out.drewN _)
  have B3 : Hid (Below w.heap.size w w3) := Lib.hid (by rw [hw3]; exact below_drewN B2.out _)
  clear hw3 HS1 HS2 c1 d1 P2 A2 BB2 B2
  have R3 := Lib.hid (ri_of_blk A3.out HM.out)
  go_wp2_with ((at_builtin; go_must (refine append_ints rfl (.tmp 40) (.tmp 41) rfl w3.heap.size (.slice none 0 0) [] rfl (OI.nil _ _) (some ⟨a, 0, none⟩) m m q rfl R3.out (by simp; omega) (Nat.le_refl _) ?_); intro u4 w4 ho4 hg4 ha4; refine halt ?_))
  refine unhalt ?_
  rw [List.nil_append] at ho4
  have hch4 : Below w3.heap.size w3 w4 := ((Chg.refl (fun _ => False) w3).grown hg4 (fun k e => by cases e)).below (fun _ _ h => h) (Nat.le_refl _)
  have P4 := Lib.hid (P3.out.step (Chg.of_below hch4 (fun _ => False)) (Sam.refl _ C) (fun _ h => h.elim))
  have A4 : Hid (OI w4 0 (.slice (some ⟨a, 0, none⟩) m m) q) := Lib.hid (oi_of_blk (A3.out.keep hch4) HM.out (Nat.zero_le _) (by omega))
  have BB4 : Hid (OI w4 0 (.slice (some ⟨bb, 0, none⟩) m m) q) := Lib.hid (oi_of_blk (BB3.out.keep hch4) HM.out (Nat.zero_le _) (by omega))
  have O4 := Lib.hid ho4
  have B4 := Lib.hid (B3.out.trans (hch4.mono B3.out.size))
  have H34 : Hid (w.heap.size ≤ w3.heap.size ∧ a < w3.heap.size ∧ bb < w3.heap.size ∧ w3.heap.size ≤ w4.heap.size) := Lib.hid ⟨B3.out.size, A3.out.lt, BB3.out.lt, hch4.size⟩
  clear ho4 hg4 ha4 hch4 P3 A3 BB3 B3 R3
  go_wp2_with fail
  go_loopw [6, 45] (fun s6 iv W => ∃ (k : Nat) (u : Value), k ≤ m ∧ iv = .int .i64 (k : Int) ∧ u = s6 ∧ Hid (OI W w4.heap.size u (List.replicate k z)) ∧ Hid (OI W 0 (.slice (some ⟨bb, 0, none⟩) m m) (List.replicate k z ++ q.drop k)) ∧ Hid (Chg (fun x => x = bb) w4 W)) (fun _ iv _ => m - (intOf iv).toNat)
  case atStart => exact ⟨0, _, Nat.zero_le _, rfl, rfl, Lib.hid (OI.nil _ _), Lib.hid (by simpa using BB4.out), Lib.hid (Chg.refl _ _)⟩
  case round =>
    obtain ⟨k, u, hk, rfl, rfl, U5, O5, C5⟩ := hrel
    have hab := HAB.out
    have h34 := H34.out
    have B5 : Hid (Below w.heap.size w wr) := Lib.hid (B4.out.trans (C5.out.below (B := w.heap.size) (fun x hx e => by omega) B4.out.size))
    have P5 := Lib.hid (H.out.step (Chg.of_below B5.out (fun _ => False)) (Sam.refl _ C) (fun _ h => h.elim))
    clear P4
    have c2 : wr.cell? ⟨K, 2, none⟩ = some (.slice Av N capv) := P5.out.blk.cell 2
    by_cases hlt : k < m
    · have fb : wr.frozen? ⟨bb, k, none⟩ = false := O5.out.frozenAt k
      have hkq : k < q.length := by have := HM.out; omega
      have cb : wr.cell? ⟨bb, k, none⟩ = some (.int .i64 q[k]) := O5.out.cellAt (by
        rw [List.getElem?_append_right (by simp), List.length_replicate, Nat.sub_self, List.getElem?_drop, Nat.add_zero, List.getElem?_eq_getElem hkq])
      obtain ⟨old, hold⟩ : ∃ o, o = q[k] := ⟨_, rfl⟩
      rw [← hold] at cb
      have hst := (O5.out.stored k z)
      rw [mark_set z q k hkq] at hst
      have CS : Hid (Chg (fun x => x = bb) wr (wr.setCell ⟨bb, k, none⟩ (.int .i64 z))) := Lib.hid (Chg.setCell (S := fun x => x = bb) (p := ⟨bb, k, none⟩) (Chg.refl _ wr) (.inl rfl) _)
      have hub : ∀ j, u.ownBlock = some j → ¬ j = bb := fun j e h => by have := (U5.out.lt j e).1; have := B4.out.size; have := O4.out; have h44 : bb < w4.heap.size := (BB4.out.lt bb rfl).2; omega
      have O6 := Lib.hid hst.1
      have U6 := Lib.hid (U5.out.chg CS.out hub)
      have C6 : Hid (Chg (fun x => x = bb) w4 (wr.setCell ⟨bb, k, none⟩ (.int .i64 z))) := Lib.hid (C5.out.trans CS.out (fun _ _ h => h))
      clear hst hold hkq hub
      go_upto_region 12 with fail
      obtain ⟨w6, hw6⟩ : ∃ w6, w6 = wr.setCell ⟨bb, k, none⟩ (.int .i64 (-5 - (N : Int))) := ⟨_, rfl⟩
      rw [← hw6]
      rw [← HZ.out] at hw6
      rw [← hw6] at O6 U6 C6
      clear hw6 CS fb cb c2 P5 B5 U5 O5 C5
      have cb : w6.cell? ⟨bb, k, none⟩ = some (.int .i64 z) := O6.out.cellAt (by rw [List.getElem?_append_left (by simp), List.getElem?_replicate, if_pos (by omega)])
      have hal : Below w6.heap.size w6 (w6.alloc (.cells #[.int .i64 z] 3)) := (Below.refl _ _).alloc (Nat.le_refl _) _
      have O7 := Lib.hid (O6.out.keep hal)
      have U7 := Lib.hid (U6.out.keep hal)
      have C7 := Lib.hid (C6.out.alloc (.cells #[.int .i64 z] 3))
      have N7 : Hid (RI (w6.alloc (.cells #[.int .i64 z] 3)) (some ⟨w6.heap.size, 0, none⟩) 1 [z]) := Lib.hid (ri_of_blk (Blk.new w6 3 #[.int .i64 z] rfl) rfl)
      have hsz := C7.out.size
      obtain ⟨w7, hw7⟩ : ∃ w7, w7 = w6.alloc (.cells #[.int .i64 z] 3) := ⟨_, rfl⟩
      obtain ⟨b7, hb7⟩ : ∃ b7, b7 = w6.heap.size := ⟨_, rfl⟩
      rw [← hw7] at O7 U7 C7 N7 hsz
      rw [← hb7] at N7
      have HW7 := Lib.hid hw7; have HB7 := Lib.hid hb7
      clear hw7 hb7 hal O6 U6 C6
      go_wp2_with ((at_builtin; rw [← HW7.out, ← HB7.out]; go_must (refine append_ints rfl (.tmp 57) (.tmp 62) rfl w4.heap.size u (List.replicate k z) rfl U7.out (some ⟨b7, 0, none⟩) 1 1 [z] rfl N7.out (by simp; omega) hsz ?_); intro u8 w8 hu8 hg8 ha8; refine halt ?_))
      refine unhalt ?_
      rw [← List.replicate_succ'] at hu8
      have hub : ∀ j, u.ownBlock = some j → ¬ j = bb := fun j e h => by have := (U7.out.lt j e).1; have h44 : bb < w4.heap.size := (BB4.out.lt bb rfl).2; omega
      have C8 : Hid (Chg (fun x => x = bb) w4 w8) := Lib.hid (C7.out.grown hg8 (fun j e hj => by have := (U7.out.lt j e).1; omega))
      have O8 : Hid (OI w8 0 (.slice (some ⟨bb, 0, none⟩) m m) (List.replicate (k + 1) z ++ q.drop (k + 1))) := Lib.hid (O7.out.chg ((Chg.refl (fun x => u.ownBlock = some x) w7).grown hg8 (fun _ e _ => e)) (fun j e e2 => by
        have : bb = j := by simpa [Value.ownBlock] using e
        exact hub j e2 this.symm))
      have U8 := Lib.hid hu8
      clear hu8 hg8 ha8 hub O7 U7 C7 N7 HW7 HB7 hsz cb
      go_wp2_with fail
      go_roundw
      first
        | (case rel => exact ⟨k + 1, u8, by omega, by go_num, rfl, U8, O8, C8⟩)
        | (case rel => (repeat apply Exists.intro); exact ⟨⟨k + 1, u8, by omega, by go_num, rfl, U8, O8, C8⟩, rfl⟩)
      case measure => simp [intOf]; omega
    · obtain rfl : k = m := by omega
      have A6 : Hid (OI wr 0 (.slice (some ⟨a, 0, none⟩) k k) q) := Lib.hid (A4.out.chg C5.out (fun j e h => by
        have : a = j := by simpa [Value.ownBlock] using e
        exact hab.2.2 (this.trans h)))
      have W6 : Hid (OI wr w3.heap.size u4 q) := Lib.hid (O4.out.chg C5.out (fun j e h => by have := (O4.out.lt j e).1; omega))
      have hdr : List.replicate k z ++ q.drop k = List.replicate k z := by rw [List.drop_of_length_le (by rw [HM.out]; exact Nat.le_refl _), List.append_nil]
      rw [hdr] at O5
      obtain ⟨C6, hC6⟩ : ∃ C6 : Nat → Nat × Nat, C6 = fun x => if x < w.heap.size then C x else if x = a ∨ x = bb then (i, 3) else (i, 4) := ⟨_, rfl⟩
      have S6 : Hid (Sam w.heap.size C C6) := Lib.hid (fun x hx => by rw [hC6]; exact if_pos hx)
      have ca : C6 a = (i, 3) := by rw [hC6]; show (if a < w.heap.size then C a else if a = a ∨ a = bb then (i, 3) else (i, 4)) = _; rw [if_neg (by omega), if_pos (.inl rfl)]
      have cb : C6 bb = (i, 3) := by rw [hC6]; show (if bb < w.heap.size then C bb else if bb = a ∨ bb = bb then (i, 3) else (i, 4)) = _; rw [if_neg (by omega), if_pos (.inr rfl)]
      have cw : ∀ x, w3.heap.size ≤ x → C6 x = (i, 4) := fun x hx => by rw [hC6]; show (if x < w.heap.size then C x else if x = a ∨ x = bb then (i, 3) else (i, 4)) = _; rw [if_neg (by omega), if_neg (by omega)]
      have P6 := Lib.hid (H.out.step (Chg.of_below B5.out (fun _ => False)) S6.out (fun _ h => h.elim))
      have U6 : Hid (OI wr w3.heap.size u (List.replicate k z)) := Lib.hid (U5.out.less h34.2.2.2)
      have HUW : Hid (∀ b, u4.ownBlock = some b → u.ownBlock ≠ some b) := Lib.hid (fun b e e2 => by
        have := (O4.out.lt b e).2
        have := (U5.out.lt b e2).1
        omega)
      have CAB := Lib.hid (And.intro ca cb); have CW := Lib.hid cw
      have OL : Hid (∀ (j : Nat) (x : Value) (b : Nat), vs[j]? = some x → x.ownBlock = some b → b < w.heap.size) := Lib.hid (fun j x b hj hb => H.out.l.lt hj hb)
      have OW : Hid (∀ (j : Nat) (x : Value) (b : Nat), vs'[j]? = some x → x.ownBlock = some b → b < w.heap.size) := Lib.hid (fun j x b hj hb => H.out.wt.lt hj hb)
      clear ca cb cw hC6 hdr P5 U5 O4 A4 BB4 B4 C5
      obtain ⟨u0, hu0⟩ : ∃ u0 : Value, u0 = .slice (some ⟨a, 0, none⟩) k k := ⟨_, rfl⟩
      obtain ⟨u1, hu1⟩ : ∃ u1 : Value, u1 = .slice (some ⟨bb, 0, none⟩) k k := ⟨_, rfl⟩
      have hal : Below wr.heap.size wr (wr.alloc (.cells #[u0, u1] 25)) := (Below.refl _ _).alloc (Nat.le_refl _) _
      have P7 := Lib.hid (P6.out.step (Chg.of_below hal (fun _ => False)) (Sam.refl _ _) (fun _ h => h.elim))
      have A7 := Lib.hid (A6.out.keep hal)
      have BB7 := Lib.hid (O5.out.keep hal)
      have W7 := Lib.hid (W6.out.keep hal)
      have U7 := Lib.hid (U6.out.keep hal)
      have B7 := Lib.hid (B5.out.trans (hal.mono B5.out.size))
      have N7 : Hid (Blk (wr.alloc (.cells #[u0, u1] 25)) wr.heap.size 25 #[u0, u1]) := Lib.hid (Blk.new _ _ _ rfl)
      rw [hu0, hu1] at P7 A7 BB7 W7 U7 B7 N7
      clear hu0 hu1 hal P6 A6 O5 W6 U6 B5
      go_upto_region 14 with fail
      obtain ⟨w7, hw7⟩ : ∃ w7, w7 = wr.alloc (.cells #[.slice (some ⟨a, 0, none⟩) k k, .slice (some ⟨bb, 0, none⟩) k k] 25) := ⟨_, rfl⟩
      obtain ⟨b7, hb7⟩ : ∃ b7, b7 = wr.heap.size := ⟨_, rfl⟩
      rw [← hw7] at P7 A7 BB7 W7 U7 B7 N7
      rw [← hb7] at N7
      have HW7 := Lib.hid hw7; have HB7 := Lib.hid hb7
      clear hw7 hb7
      go_wp2_with ((at_builtin; rw [← HW7.out, ← HB7.out]; go_must (refine append_lists rfl (.tmp 69) (.tmp 72) rfl (.slice Av N capv) vs rfl P7.out.l.own b7 2 _ _ rfl N7.out rfl rfl (by rw [P7.out.l.len]; have := HN.out; omega) ?_); intro v8 w8 hv8 hg8 ha8; refine halt ?_))
      refine unhalt ?_
      obtain ⟨P9, C9⟩ := P7.out.moreL A7.out BB7.out (fun x e => by
          have e : a = x := by simpa [Value.ownBlock] using e
          subst e
          exact ⟨CAB.out.1, fun j y hy e2 => by have := OL.out j y _ hy e2; omega⟩) (fun x e => by
          have e : bb = x := by simpa [Value.ownBlock] using e
          subst e
          exact ⟨CAB.out.2, fun j y hy e2 => by have := OL.out j y _ hy e2; omega⟩) (fun x e e2 => by
          have e : a = x := by simpa [Value.ownBlock] using e
          have e2 : bb = x := by simpa [Value.ownBlock] using e2
          omega) (by rw [HM.out]; exact hm64) (by simpa using hm64) hv8 hg8 ha8
      have hKv : some K ≠ (Value.slice Av N capv).ownBlock := fun e => by
        have h1 := P7.out.l.memv K e.symm
        rw [P7.out.cK] at h1
        exact absurd h1 (by simp)
      have B8 := P7.out.blk.grown hg8 (fun e => hKv e.symm)
      have e1 := B8.frozen 2
      have e2 : w8.cell? ⟨K, 2, none⟩ = some (.slice Av N capv) := B8.cell 2
      have hch8 : Chg (fun x => (Value.slice Av N capv).ownBlock = some x) w7 w8 := (Chg.refl _ w7).grown hg8 (fun _ e _ => e)
      have hKs : Chg (fun x => x = K) w8 (w8.setCell ⟨K, 2, none⟩ v8) := Chg.setCell (S := fun x => x = K) (p := ⟨K, 2, none⟩) (Chg.refl _ w8) (.inl rfl) _
      have hKw : K < w.heap.size := H.out.blk.lt
      have hfar : ∀ (x : Nat), w3.heap.size ≤ x → ¬ (Value.slice Av N capv).ownBlock = some x ∧ ¬ x = K := fun x hx => ⟨fun e => by
        have h1 := P7.out.l.memv x e
        rw [CW.out x hx] at h1
        exact absurd h1 (by simp), by omega⟩
      have W9 := Lib.hid ((W7.out.chg hch8 (fun j e h => (hfar j (W7.out.lt j e).1).1 h)).chg hKs (fun j e h => (hfar j (W7.out.lt j e).1).2 h))
      have U9 := Lib.hid ((U7.out.chg hch8 (fun j e h => (hfar j (U7.out.lt j e).1).1 h)).chg hKs (fun j e h => (hfar j (U7.out.lt j e).1).2 h))
      have CT9 : Hid (Chg (fun b => (C b).1 = i) w (w8.setCell ⟨K, 2, none⟩ v8)) := Lib.hid ((Chg.of_below B7.out _).trans C9 (fun b hb h => by rw [S6.out b hb] at h; exact h))
      obtain ⟨C9', hC9'⟩ : ∃ C9', C9' = paint C6 w7.heap.size (i, 3) := ⟨_, rfl⟩
      have S9 : Hid (Sam w.heap.size C C9') := Lib.hid (by rw [hC9']; exact S6.out.trans (sam_paint C6 _ _) B7.out.size)
      have CW9 : Hid (∀ x, w3.heap.size ≤ x → x < w7.heap.size → C9' x = (i, 4)) := Lib.hid (fun x h1 h2 => by rw [hC9']; exact (sam_paint C6 _ _ x h2).trans (CW.out x h1))
      have WU : Hid (∀ b, (u4.ownBlock = some b ∨ u.ownBlock = some b) → w3.heap.size ≤ b ∧ b < w7.heap.size) := Lib.hid (fun b e => by
        rcases e with e | e
        · exact W7.out.lt b e
        · exact U7.out.lt b e)
      rw [← hC9'] at P9
      have PP9 := Lib.hid P9
      obtain ⟨A8, cap8, hv, hc8, _, _⟩ := P9.l.form
      generalize hN8 : (ls ++ [q, List.replicate k z]).length = N8 at hv hc8
      subst hv
      clear hN8 hC9' hch8 hKs hfar C9 P9 hKv B8 hv8 hg8 ha8 S6 CW A7 BB7 W7 U7 N7 HW7 HB7 B7 P7 CAB
      go_upto_region 15 with fail
      obtain ⟨w9, hw9⟩ : ∃ w9, w9 = w8.setCell ⟨K, 2, none⟩ (.slice A8 N8 cap8) := ⟨_, rfl⟩
      rw [← hw9] at W9 U9 CT9 PP9 ⊢
      clear hw9 e1 e2 hKw
      have c3 : w9.cell? ⟨K, 3, none⟩ = some (.slice Aw N capw) := PP9.out.blk.cell 3
      obtain ⟨A5, cap5, hu4, hc5, _, _⟩ := W9.out.form
      obtain ⟨A10, cap10, hu5, hc10, _, _⟩ := U9.out.form
      have hql : q.length = k := HM.out
      rw [hql] at hu4 hc5
      rw [List.length_replicate] at hu5 hc10
      subst hu4 hu5
      have hal : Below w9.heap.size w9 (w9.alloc (.cells #[.slice A5 k cap5, .slice A10 k cap10] 25)) := (Below.refl _ _).alloc (Nat.le_refl _) _
      have P10 := Lib.hid (PP9.out.step (Chg.of_below hal (fun _ => False)) (Sam.refl _ _) (fun _ h => h.elim))
      have W10 := Lib.hid (W9.out.keep hal)
      have U10 := Lib.hid (U9.out.keep hal)
      have CT10 := Lib.hid (CT9.out.alloc (.cells #[.slice A5 k cap5, .slice A10 k cap10] 25))
      have N10 : Hid (Blk (w9.alloc (.cells #[.slice A5 k cap5, .slice A10 k cap10] 25)) w9.heap.size 25 #[.slice A5 k cap5, .slice A10 k cap10]) := Lib.hid (Blk.new _ _ _ rfl)
      obtain ⟨w10, hw10⟩ : ∃ w10, w10 = w9.alloc (.cells #[.slice A5 k cap5, .slice A10 k cap10] 25) := ⟨_, rfl⟩
      obtain ⟨b10, hb10⟩ : ∃ b10, b10 = w9.heap.size := ⟨_, rfl⟩
      rw [← hw10] at P10 W10 U10 CT10 N10
      rw [← hb10] at N10
      have HW10 := Lib.hid hw10; have HB10 := Lib.hid hb10
      clear hw10 hb10 hal PP9 W9 U9 CT9
      go_wp2_with ((at_builtin; rw [← HW10.out, ← HB10.out]; go_must (refine append_lists rfl (.tmp 80) (.tmp 83) rfl (.slice Aw N capw) vs' rfl P10.out.wt.own b10 2 _ _ rfl N10.out rfl rfl (by rw [P10.out.wt.len]; have := HN.out; omega) ?_); intro v11 w11 hv11 hg11 ha11; refine halt ?_))
      refine unhalt ?_
      obtain ⟨P12, C12⟩ := P10.out.moreW (W10.out.less (Nat.zero_le _)) (U10.out.less (Nat.zero_le _)) (fun x e => ⟨by
          have := WU.out x (.inl e)
          exact CW9.out x this.1 this.2, fun j y hy e2 => by have := OW.out j y _ hy e2; have := (WU.out x (.inl e)).1; omega⟩) (fun x e => ⟨by
          have := WU.out x (.inr e)
          exact CW9.out x this.1 this.2, fun j y hy e2 => by have := OW.out j y _ hy e2; have := (WU.out x (.inr e)).1; omega⟩) HUW.out hv11 hg11 ha11
      have hKv : some K ≠ (Value.slice Aw N capw).ownBlock := fun e => by
        have h1 := P10.out.wt.memv K e.symm
        rw [P10.out.cK] at h1
        exact absurd h1 (by simp)
      have B11 := P10.out.blk.grown hg11 (fun e => hKv e.symm)
      have e1 := B11.frozen 3
      have e2 : w11.cell? ⟨K, 3, none⟩ = some (.slice Aw N capw) := B11.cell 3
      obtain ⟨A11, cap11, hv, hc11, _, _⟩ := P12.wt.form
      generalize hN11 : (ls ++ [q, List.replicate k z]).length = N11 at hv hc11
      subst hv
      have hF : AllP C i K g p n f xs q r A k c ls w (.returned (.bool true)) (w11.setCell ⟨K, 3, none⟩ (.slice A11 N11 cap11)) :=
        ⟨rfl, _, _, _, _, _, _, P12, CT10.out.trans C12 (fun b hb h => by rw [S9.out b hb] at h; exact h), S9.out.trans (sam_paint C9' _ _) CT10.out.size⟩
      have HF := Lib.hid hF
      clear hF hN11 hc11 B11 hKv P12 C12 hv11 hg11 ha11 P10 W10 U10 CT10 N10 HW10 HB10 WU CW9 S9 c3
      go_wp2_with fail
      go_ret
      exact HF.out
end Go.Proofs.Ytckhmdeeddjkhaa
