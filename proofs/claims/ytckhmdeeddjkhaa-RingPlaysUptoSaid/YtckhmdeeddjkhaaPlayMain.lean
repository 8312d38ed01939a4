/- THE WALK of the law RingPlays. -/
import Derived.Test.YtckhmdeeddjkhaaPlayPlays
namespace Go.Proofs.Ytckhmdeeddjkhaa
open Go.RowKit
/-- a call; a []Op that came in -/
structure POp where
  kind : Int
  two : Bool
  x : Int
def PSl (w : World) (A : Option Addr) (n : Nat) (l : List POp) : Prop :=
  l.length = n ∧ (0 < n → ∃ b off, A = some ⟨b, off, none⟩ ∧ b < w.heap.size ∧ ∀ (j : Nat) (o : POp), l[j]? = some o → w.cell? ⟨b, off + j * 3, none⟩ = some (.int .i64 o.kind) ∧ w.cell? ⟨b, off + j * 3 + 1, none⟩ = some (.bool o.two) ∧ w.cell? ⟨b, off + j * 3 + 2, none⟩ = some (.int .i64 o.x))
theorem PSl.keep {w w' : World} {A : Option Addr} {n : Nat} {l : List POp} (h : PSl w A n l) (hb : Below w.heap.size w w') : PSl w' A n l :=
  ⟨h.1, fun hn => by
    obtain ⟨b, off, e, hlt, hc⟩ := h.2 hn
    exact ⟨b, off, e, Nat.lt_of_lt_of_le hlt hb.size, fun j x hj => ⟨(hb.cell (p := ⟨b, _, none⟩) hlt).trans (hc j x hj).1, (hb.cell (p := ⟨b, _, none⟩) hlt).trans (hc j x hj).2.1, (hb.cell (p := ⟨b, _, none⟩) hlt).trans (hc j x hj).2.2⟩⟩⟩
/-- pairs lo .. hi - 1 -/
structure ST (w0 W : World) (C : Nat → Nat × Nat) (lo hi : Nat) (Kp : Nat → Nat) (M : Nat) : Prop where
  ps : ∀ i, lo ≤ i → i < hi → PS W C (i + 1) (Kp i) M
  b : Below w0.heap.size w0 W
  s : Sam w0.heap.size (fun _ => (0, 0)) C
theorem PS.le {W : World} {C : Nat → Nat × Nat} {i K M M' : Nat} (h : PS W C i K M) (hM : M ≤ M') : PS W C i K M' := by
  obtain ⟨g, p, n, f, xs, q, r, A, m, c, v, v', vs, vs', ls, h, hl⟩ := h
  exact ⟨g, p, n, f, xs, q, r, A, m, c, v, v', vs, vs', ls, h, by omega⟩
section
variable {w0 W W' : World} {C C' : Nat → Nat × Nat} {lo hi M M' i : Nat} {Kp : Nat → Nat}
theorem ST.le (h : ST w0 W C lo hi Kp M) (hM : M ≤ M') : ST w0 W C lo hi Kp M' := ⟨fun i h1 h2 => (h.ps i h1 h2).le hM, h.b, h.s⟩
theorem ST.later (h : ST w0 W C lo hi Kp M) (hb : Below W.heap.size W W') (hs : Sam W.heap.size C C') : ST w0 W' C' lo hi Kp M :=
  ⟨fun i h1 h2 => (h.ps i h1 h2).step (Chg.of_below hb (fun _ => False)) hs (fun _ h => h.elim), h.b.trans (hb.mono h.b.size), h.s.trans hs h.b.size⟩
theorem ST.below (h : ST w0 W C lo hi Kp M) (hc : Chg (fun b => (C b).1 = i + 1) W W') : Below w0.heap.size w0 W' :=
  h.b.trans (hc.below (B := w0.heap.size) (fun b hb e => by rw [h.s b hb] at e; simp at e) h.b.size)
theorem ST.turn (h : ST w0 W C lo hi Kp M) (hc : Chg (fun b => (C b).1 = i + 1) W W') (hs : Sam W.heap.size C C') (hp : PS W' C' (i + 1) (Kp i) M') (hM : M ≤ M') : ST w0 W' C' lo hi Kp M' :=
  ⟨fun j h1 h2 => by
    by_cases e : j = i
    · subst e; exact hp
    · exact ((h.ps j h1 h2).step hc hs (fun b hb e2 => by rw [hb] at e2; omega)).le hM, h.below hc, h.s.trans hs h.b.size⟩
theorem ST.drop (h : ST w0 W C i hi Kp M) (hc : Chg (fun b => (C b).1 = i + 1) W W') : ST w0 W' C (i + 1) hi Kp M :=
  ⟨fun j h1 h2 => (h.ps j (by omega) h2).step hc (Sam.refl _ _) (fun b hb e2 => by rw [hb] at e2; omega), h.below hc, h.s⟩
end
theorem asks_ps {C : Nat → Nat × Nat} {i K M : Nat} (w : World) (h : PS w C i K M) :
    Calls Try.prog 9 #[.pointer (some ⟨K, 0, none⟩)] w fun e w' => e = .returned (.bool true) ∧ ∃ k, w' = w.drewN k := by
  obtain ⟨g, p, n, f, xs, q, r, A, m, c, v, v', vs, vs', ls, h, hl⟩ := h
  exact asks_any w h
theorem all_ps {C : Nat → Nat × Nat} {i K M : Nat} (w : World) (h : PS w C i K M) (hM : M ≤ 10000000) :
    Calls Try.prog 10 #[.pointer (some ⟨K, 0, none⟩)] w (PlayP C i K (M + 2) w) := by
  obtain ⟨g, p, n, f, xs, q, r, A, m, c, v, v', vs, vs', ls, h, hl⟩ := h
  refine (pall_any w h (by omega)).mono ?_
  rintro e w' ⟨rfl, C', v2, v2', vs2, vs2', z, hp, hc, hs⟩
  exact ⟨rfl, C', ⟨_, _, _, _, _, _, _, _, _, _, _, _, _, _, _, hp, by simp; omega⟩, hc, hs⟩
theorem holds_ps {C : Nat → Nat × Nat} {i K M : Nat} (w : World) (h : PS w C i K M) (hM : M ≤ 10000000) :
    Calls Try.prog 11 #[.pointer (some ⟨K, 0, none⟩)] w fun e w' => e = .returned (.bool true) ∧ Chg (fun b => (C b).1 = i) w w' := by
  obtain ⟨g, p, n, f, xs, q, r, A, m, c, v, v', vs, vs', ls, h, hl⟩ := h
  exact holds_any w h (by omega)
/-- a pair made of two new rings -/
theorem PS.fresh {w w3 : World} {C : Nat → Nat × Nat} {i g p n f r : Nat} {xs : List Int} (hr : RG w3 g p n f xs []) (hf : RF w3 r n none 0 0 []) (hg : w.heap.size ≤ g) (hp : w.heap.size ≤ p) (hr0 : w.heap.size ≤ r) (hrg : r ≠ g) (hrp : r ≠ p) :
    ∃ C', Sam w.heap.size C C' ∧ PS (w3.alloc (.cells #[.pointer (some ⟨g, 0, none⟩), .pointer (some ⟨r, 0, none⟩), .slice none 0 0, .slice none 0 0] 35)) C' i w3.heap.size 0 := by
  have hgl := hr.blk.lt; have hpl := hr.arr.lt; have hrl := hf.blk.lt
  have hal : Chg (fun _ => False) w3 (w3.alloc (.cells #[.pointer (some ⟨g, 0, none⟩), .pointer (some ⟨r, 0, none⟩), .slice none 0 0, .slice none 0 0] 35)) := (Chg.refl _ w3).alloc _
  refine ⟨fun b => if b < w.heap.size then C b else if b = w3.heap.size then (i, 0) else if b = r then (i, 2) else (i, 1), fun b hb => if_pos hb, g, p, n, f, xs, [], r, none, 0, 0, .slice none 0 0, .slice none 0 0, [], [], [], ⟨Blk.new _ _ _ rfl, hr.chg hal id id, hf.chg hal id (fun _ _ => id), LL.nil _ _ _, LL.nil _ _ _, ?_, ?_, ?_, ?_, fun k hk => absurd hk.1 (by omega), fun l hl => by simp at hl⟩, Nat.le_refl _⟩
  · show (if w3.heap.size < w.heap.size then C w3.heap.size else if w3.heap.size = w3.heap.size then (i, 0) else if w3.heap.size = r then (i, 2) else (i, 1)) = _
    rw [if_neg (by omega), if_pos rfl]
  · show (if g < w.heap.size then C g else if g = w3.heap.size then (i, 0) else if g = r then (i, 2) else (i, 1)) = _
    rw [if_neg (by omega), if_neg (by omega), if_neg (by omega)]
  · show (if p < w.heap.size then C p else if p = w3.heap.size then (i, 0) else if p = r then (i, 2) else (i, 1)) = _
    rw [if_neg (by omega), if_neg (by omega), if_neg (by omega)]
  · show (if r < w.heap.size then C r else if r = w3.heap.size then (i, 0) else if r = r then (i, 2) else (i, 1)) = _
    rw [if_neg (by omega), if_neg (by omega), if_pos rfl]
theorem arr2 {W : World} {ar : Nat} {t : TypeId} {Kp : Nat → Nat} (h : Blk W ar t #[.pointer (some ⟨Kp 0, 0, none⟩), .pointer (some ⟨Kp 1, 0, none⟩)]) {i : Nat} (hi : i < 2) : W.cell? ⟨ar, i, none⟩ = some (.pointer (some ⟨Kp i, 0, none⟩)) := by
  rcases (show i = 0 ∨ i = 1 by omega) with rfl | rfl
  · exact h.cell 0
  · exact h.cell 1
def MainPost (w : World) (e : Ending) (w' : World) : Prop := e = .returned (.bool true) ∧ Below w.heap.size w w'
set_option maxRecDepth 100000 in
set_option maxHeartbeats 8000000 in
theorem main_any (x0 x1 : Int) (A1 : Option Addr) (n1 cap1 : Nat) (l1 : List POp) (w : World) (h1 : PSl w A1 n1 l1) (hc1 : n1 ≤ cap1) (hn1 : n1 ≤ 1048576) :
    Calls Try.prog 3 #[.int .i64 x0, .int .i64 x1, .slice A1 n1 cap1] w (MainPost w) := by
  have H1 := Lib.hid h1
  clear h1
  have HA : Hid (Blk ((w.alloc (.cells #[.pointer none, .pointer none] 24)).alloc (.cells #[.int .i64 x0, .int .i64 x1] 3)) w.heap.size 24 #[.pointer none, .pointer none]) := Lib.hid ((Blk.new _ _ _ rfl).alloc _)
  have HS : Hid (Blk ((w.alloc (.cells #[.pointer none, .pointer none] 24)).alloc (.cells #[.int .i64 x0, .int .i64 x1] 3)) (w.heap.size + 1) 3 #[.int .i64 x0, .int .i64 x1]) := Lib.hid (Blk.new _ _ _ (by simp))
  have HB : Hid (Below w.heap.size w ((w.alloc (.cells #[.pointer none, .pointer none] 24)).alloc (.cells #[.int .i64 x0, .int .i64 x1] 3))) := Lib.hid (((Below.refl _ _).alloc (Nat.le_refl _) _).alloc (by simp) _)
  go_enter Try.func3, Try.ntmps3
  go_wp2_with fail
  obtain ⟨w1, hw1⟩ : ∃ w1, w1 = (w.alloc (.cells #[.pointer none, .pointer none] 24)).alloc (.cells #[.int .i64 x0, .int .i64 x1] 3) := ⟨_, rfl⟩
  obtain ⟨ar, har⟩ : ∃ ar, ar = w.heap.size := ⟨_, rfl⟩
  rw [← hw1] at HA HS HB ⊢
  rw [← har] at HA HS HB ⊢
  have C1 : Hid (Sam w.heap.size (fun _ => (0, 0)) (paint (fun _ => (0, 0)) w.heap.size (0, 1)) ∧ paint (fun _ => (0, 0)) w.heap.size (0, 1) ar = (0, 1) ∧ paint (fun _ => (0, 0)) w.heap.size (0, 1) (ar + 1) = (0, 1)) := Lib.hid ⟨sam_paint _ _ _, paint_new _ _ (by omega), paint_new _ _ (by omega)⟩
  have HAR := Lib.hid har
  clear hw1 har
  go_loopw [23] (fun iv W => ∃ (j : Nat) (Kp : Nat → Nat) (C : Nat → Nat × Nat) (cs : Array Value), j ≤ 2 ∧ iv = .int .i64 (j : Int) ∧ Hid (Blk W ar 24 cs ∧ cs.size = 2 ∧ (∀ i, i < j → cs[i]? = some (.pointer (some ⟨Kp i, 0, none⟩))) ∧ C ar = (0, 1) ∧ C (ar + 1) = (0, 1)) ∧ Hid (Blk W (ar + 1) 3 #[.int .i64 x0, .int .i64 x1]) ∧ Hid (ST w W C 0 j Kp 0)) (fun iv _ => 2 - (intOf iv).toNat)
  case atStart => exact ⟨0, fun _ => 0, _, _, Nat.zero_le _, rfl, Lib.hid ⟨HA.out, rfl, fun i h => absurd h (by omega), C1.out.2.1, C1.out.2.2⟩, HS, Lib.hid ⟨fun i _ h => absurd h (by omega), by rw [HAR.out] at HB; exact HB.out, C1.out.1⟩⟩
  case round =>
    obtain ⟨j, Kp, C, cs, hj, rfl, A2, S2, T2⟩ := hrel
    clear HA HS HB C1
    by_cases hlt : j < 2
    · obtain ⟨x, cx⟩ : ∃ x : Int, wr.cell? ⟨ar + 1, j, none⟩ = some (.int .i64 x) := by
        rcases (show j = 0 ∨ j = 1 by omega) with rfl | rfl
        · exact ⟨x0, S2.out.cell 0⟩
        · exact ⟨x1, S2.out.cell 1⟩
      have FINR : Hid (∀ (g p n f r : Nat) (xs : List Int) (w3 : World), RG w3 g p n f xs [] → RF w3 r n none 0 0 [] → wr.heap.size ≤ g → wr.heap.size ≤ p → wr.heap.size ≤ r → r ≠ g → r ≠ p → Below wr.heap.size wr w3 →
          ∃ w4, w4 = w3.alloc (.cells #[.pointer (some ⟨g, 0, none⟩), .pointer (some ⟨r, 0, none⟩), .slice none 0 0, .slice none 0 0] 35) ∧ (∃ o, w4.cell? ⟨ar, j, none⟩ = some o) ∧ w4.frozen? ⟨ar, j, none⟩ = false ∧
            ∃ (Kp' : Nat → Nat) (C' : Nat → Nat × Nat) (cs' : Array Value), Hid (Blk (w4.setCell ⟨ar, j, none⟩ (.pointer (some ⟨w3.heap.size, 0, none⟩))) ar 24 cs' ∧ cs'.size = 2 ∧ (∀ i, i < j + 1 → cs'[i]? = some (.pointer (some ⟨Kp' i, 0, none⟩))) ∧ C' ar = (0, 1) ∧ C' (ar + 1) = (0, 1)) ∧
              Hid (Blk (w4.setCell ⟨ar, j, none⟩ (.pointer (some ⟨w3.heap.size, 0, none⟩))) (ar + 1) 3 #[.int .i64 x0, .int .i64 x1]) ∧ Hid (ST w (w4.setCell ⟨ar, j, none⟩ (.pointer (some ⟨w3.heap.size, 0, none⟩))) C' 0 (j + 1) Kp' 0)) := Lib.hid (by
        intro g p n f r xs w3 hr hf hg hp hr0 hrg hrp hb3
        obtain ⟨C', hs, hps⟩ := PS.fresh (C := C) (i := j + 1) hr hf hg hp hr0 hrg hrp
        obtain ⟨hA, hsz, hget, hca, hcb⟩ := A2.out
        have hb4 : Below wr.heap.size wr (w3.alloc (.cells #[.pointer (some ⟨g, 0, none⟩), .pointer (some ⟨r, 0, none⟩), .slice none 0 0, .slice none 0 0] 35)) := hb3.alloc hb3.size _
        have hA4 := hA.keep hb4
        have hS4 := S2.out.keep hb4
        have hT4 := T2.out.later hb4 hs
        have hst : Chg (fun b => b = ar) (w3.alloc (.cells #[.pointer (some ⟨g, 0, none⟩), .pointer (some ⟨r, 0, none⟩), .slice none 0 0, .slice none 0 0] 35)) ((w3.alloc (.cells #[.pointer (some ⟨g, 0, none⟩), .pointer (some ⟨r, 0, none⟩), .slice none 0 0, .slice none 0 0] 35)).setCell ⟨ar, j, none⟩ (.pointer (some ⟨w3.heap.size, 0, none⟩))) :=
          Chg.setCell (S := fun b => b = ar) (p := ⟨ar, j, none⟩) (Chg.refl _ _) (.inl rfl) _
        have hca' : C' ar = (0, 1) := (hs ar hA.lt).trans hca
        have hcb' : C' (ar + 1) = (0, 1) := (hs _ S2.out.lt).trans hcb
        refine ⟨_, rfl, ⟨cs[j]'(by omega), by rw [hA4.cell]; exact Array.getElem?_eq_getElem _⟩, hA4.frozen j, fun i => if i = j then w3.heap.size else Kp i, C', cs.setIfInBounds j (.pointer (some ⟨w3.heap.size, 0, none⟩)), Lib.hid ⟨hA4.set_ j _, by simpa using hsz, fun i hi => ?_, hca', hcb'⟩, Lib.hid (hS4.chg hst (by omega)), Lib.hid ⟨fun i _ hi => ?_, ?_, hT4.s⟩⟩
        · show (cs.setIfInBounds j (.pointer (some ⟨w3.heap.size, 0, none⟩)))[i]? = some (.pointer (some ⟨if i = j then w3.heap.size else Kp i, 0, none⟩))
          by_cases e : i = j
          · subst e
            rw [if_pos rfl, Array.getElem?_setIfInBounds_self, if_pos (by omega)]
          · rw [if_neg e, Array.getElem?_setIfInBounds_ne (fun h => e h.symm)]
            exact hget i (by omega)
        · by_cases e : i = j
          · subst e
            simp only [if_pos]
            exact hps.step hst (Sam.refl _ _) (fun b hb e => by rw [hb, hca'] at e; simp at e)
          · simp only [if_neg e]
            exact (hT4.ps i (Nat.zero_le _) (by omega)).step hst (Sam.refl _ _) (fun b hb e => by rw [hb, hca'] at e; simp at e)
        · exact hT4.b.trans (hst.below (B := w.heap.size) (fun k hk e => by have := HAR.out; omega) hT4.b.size))
      clear A2 S2 T2
      have GO : Hid (∀ n : Nat, 1 ≤ n → n ≤ 64 → ∀ (w2 w3 : World) (g p r : Nat) (xs : List Int), wr.heap.size ≤ g → wr.heap.size ≤ p → RG w2 g p n 0 xs [] → Below wr.heap.size wr w2 → w2.heap.size ≤ r → RF w3 r n none 0 0 [] → Below w2.heap.size w2 w3 → RG w3 g p n 0 xs [] ∧ r ≠ g ∧ r ≠ p ∧ Below wr.heap.size wr w3 ∧ wr.heap.size ≤ r) := Lib.hid (fun n _ _ w2 w3 g p r xs hg hp hr hb hr0 hf hb3 =>
        ⟨hr.chg (Chg.of_below hb3 (fun _ => False)) id id, by have := hr.blk.lt; omega, by have := hr.arr.lt; omega, hb.trans (hb3.mono hb.size), by have := hb.size; omega⟩)
      by_cases hbad : x < 1 ∨ 64 < x
      · have P1 := Lib.hid (new_bad x wr hbad)
        have P2 := Lib.hid (rnew_bad x wr hbad)
        have P3 := Lib.hid (new_ok 3 wr (by omega) (by omega))
        clear hbad
        go_wp2_with fail
        refine P1.out.mono ?_
        rintro e w2 ⟨rfl, rfl⟩
        go_wp2_with fail
        refine P2.out.mono ?_
        rintro e w2 ⟨rfl, rfl⟩
        clear P1 P2
        go_wp2_with fail
        refine P3.out.mono ?_
        rintro e w2 ⟨g, p, xs, rfl, hg, hp, hr, hb⟩
        have P4 := Lib.hid (rnew_ok 3 w2 (by omega) (by omega))
        have HR := Lib.hid hr; have HB := Lib.hid hb; have HG := Lib.hid (And.intro hg hp)
        clear hg hp hr hb P3
        go_wp2_with fail
        refine P4.out.mono ?_
        rintro e w3 ⟨r, rfl, hr0, hf, hb3⟩
        obtain ⟨g1, g2, g3, g4, g5⟩ := GO.out 3 (by omega) (by omega) w2 w3 g p r xs HG.out.1 HG.out.2 HR.out HB.out hr0 hf hb3
        obtain ⟨w4, hw4, ⟨o, co⟩, fo, Kp', C', cs', A4, S4, T4⟩ := FINR.out g p 3 0 r xs w3 g1 hf HG.out.1 HG.out.2 g5 g2 g3 g4
        subst hw4
        clear g1 g2 g3 g4 g5 hr0 hf hb3 GO FINR HR HB HG P4
        go_wp2_with fail
        go_roundw
        first
          | (case rel => exact ⟨j + 1, Kp', C', cs', by omega, by go_num, A4, S4, T4⟩)
          | (case rel => (repeat apply Exists.intro); exact ⟨⟨j + 1, Kp', C', cs', by omega, by go_num, A4, S4, T4⟩, rfl⟩)
        case measure => simp [intOf]; omega
      · obtain ⟨n2, rfl⟩ := Int.eq_ofNat_of_zero_le (show 0 ≤ x by omega)
        have hn1 : 1 ≤ n2 := by omega
        have hn2 : n2 ≤ 64 := by omega
        have P3 := Lib.hid (new_ok n2 wr hn1 hn2)
        clear hbad
        go_wp2_with fail
        refine P3.out.mono ?_
        rintro e w2 ⟨g, p, xs, rfl, hg, hp, hr, hb⟩
        have P4 := Lib.hid (rnew_ok n2 w2 hn1 hn2)
        have HR := Lib.hid hr; have HB := Lib.hid hb; have HG := Lib.hid (And.intro hg hp)
        clear hg hp hr hb P3
        go_wp2_with fail
        refine P4.out.mono ?_
        rintro e w3 ⟨r, rfl, hr0, hf, hb3⟩
        obtain ⟨g1, g2, g3, g4, g5⟩ := GO.out n2 hn1 hn2 w2 w3 g p r xs HG.out.1 HG.out.2 HR.out HB.out hr0 hf hb3
        obtain ⟨w4, hw4, ⟨o, co⟩, fo, Kp', C', cs', A4, S4, T4⟩ := FINR.out g p n2 0 r xs w3 g1 hf HG.out.1 HG.out.2 g5 g2 g3 g4
        subst hw4
        clear g1 g2 g3 g4 g5 hr0 hf hb3 GO FINR HR HB HG P4
        go_wp2_with fail
        go_roundw
        first
          | (case rel => exact ⟨j + 1, Kp', C', cs', by omega, by go_num, A4, S4, T4⟩)
          | (case rel => (repeat apply Exists.intro); exact ⟨⟨j + 1, Kp', C', cs', by omega, by go_num, A4, S4, T4⟩, rfl⟩)
        case measure => simp [intOf]; omega
    · obtain rfl : j = 2 := by omega
      have hAr := A2.out.1
      have hC := A2.out.2.2.2.1
      have hcs : cs = #[.pointer (some ⟨Kp 0, 0, none⟩), .pointer (some ⟨Kp 1, 0, none⟩)] := by
        have h0 := A2.out.2.2.1 0 (by omega)
        have h1 := A2.out.2.2.1 1 (by omega)
        have hsz := A2.out.2.1
        apply Array.ext
        · simpa using hsz
        · intro i h1' h2'
          have hi : i = 0 ∨ i = 1 := by simp at h2'; omega
          rcases hi with rfl | rfl
          · have := Array.getElem?_eq_getElem h1'; rw [h0] at this; exact (Option.some.inj this).symm
          · have := Array.getElem?_eq_getElem h1'; rw [h1] at this; exact (Option.some.inj this).symm
      subst hcs
      have A3 := Lib.hid hAr; have HC := Lib.hid hC
      clear hAr hC A2 S2
      go_wp2_with fail
      go_loopw [78] (fun iv W => ∃ (k : Nat) (C : Nat → Nat × Nat), k ≤ n1 ∧ iv = .int .i64 (k : Int) ∧ Hid (Blk W ar 24 #[.pointer (some ⟨Kp 0, 0, none⟩), .pointer (some ⟨Kp 1, 0, none⟩)] ∧ C ar = (0, 1)) ∧ Hid (ST w W C 0 2 Kp (2 * k))) (fun iv _ => n1 - (intOf iv).toNat)
      case atStart => exact ⟨0, C, Nat.zero_le _, rfl, Lib.hid ⟨A3.out, HC.out⟩, T2⟩
      case round =>
        obtain ⟨k, C4, hk, rfl, A4, T4⟩ := hrel
        clear A3 HC T2
        by_cases hlt2 : k < n1
        · obtain ⟨o, ho⟩ : ∃ o, l1[k]? = some o := ⟨_, List.getElem?_eq_getElem (by have := H1.out.1; omega)⟩
          obtain ⟨bb, off, rfl, hbb, hcx⟩ := (H1.out.keep T4.out.b).2 (by omega)
          obtain ⟨d0, d1, d2⟩ := hcx k o ho
          obtain ⟨kind, two, x⟩ := o
          have hal : Below wr.heap.size wr (wr.alloc (.cells #[.int .i64 kind, .bool two, .int .i64 x] 37)) := (Below.refl _ _).alloc (Nat.le_refl _) _
          have A5 : Hid (Blk (wr.alloc (.cells #[.int .i64 kind, .bool two, .int .i64 x] 37)) ar 24 #[.pointer (some ⟨Kp 0, 0, none⟩), .pointer (some ⟨Kp 1, 0, none⟩)]) := Lib.hid (A4.out.1.keep hal)
          have X5 : Hid (Blk (wr.alloc (.cells #[.int .i64 kind, .bool two, .int .i64 x] 37)) wr.heap.size 37 #[.int .i64 kind, .bool two, .int .i64 x]) := Lib.hid (Blk.new _ _ _ rfl)
          have T5 : Hid (ST w (wr.alloc (.cells #[.int .i64 kind, .bool two, .int .i64 x] 37)) (paint C4 wr.heap.size (0, 1)) 0 2 Kp (2 * k)) := Lib.hid (T4.out.later hal (sam_paint _ _ _))
          have CX : Hid (paint C4 wr.heap.size (0, 1) wr.heap.size = (0, 1) ∧ paint C4 wr.heap.size (0, 1) ar = (0, 1)) := Lib.hid ⟨paint_new _ _ (Nat.le_refl _), (sam_paint C4 _ _ ar A4.out.1.lt).trans A4.out.2⟩
          clear hal hcx ho
          go_upto_region 20 with fail
          obtain ⟨w6, hw6⟩ : ∃ w6, w6 = wr.alloc (.cells #[.int .i64 kind, .bool two, .int .i64 x] 37) := ⟨_, rfl⟩
          obtain ⟨bx, hbx⟩ : ∃ bx, bx = wr.heap.size := ⟨_, rfl⟩
          rw [← hw6] at A5 X5 T5 ⊢
          rw [← hbx] at X5 T5 CX ⊢
          obtain ⟨C6, hC6⟩ : ∃ C6, C6 = paint C4 bx (0, 1) := ⟨_, rfl⟩
          rw [← hC6] at T5 CX
          clear hw6 hbx hC6 d0 d1 d2 hbb A4 T4
          have x0' : w6.cell? ⟨bx, 0, none⟩ = some (.int .i64 kind) := X5.out.cell 0
          have x1' : w6.cell? ⟨bx, 1, none⟩ = some (.bool two) := X5.out.cell 1
          have x2' : w6.cell? ⟨bx, 2, none⟩ = some (.int .i64 x) := X5.out.cell 2
          go_upto_if 83 with fail
          go_cut [16] (fun s wx => (∃ i : Nat, i < 2 ∧ s = .int .i64 (i : Int)) ∧ wx = w6)
          case first =>
            cases two with
            | true =>
              go_wp2_with fail
              go_meet
              exact ⟨⟨1, by omega, rfl⟩, rfl⟩
            | false =>
              go_wp2_with fail
              go_meet
              exact ⟨⟨0, by omega, rfl⟩, rfl⟩
          case rest =>
            obtain ⟨⟨i, hi, rfl⟩, hcut⟩ := hcut
            rw [hcut]
            clear hcut wc
            have hiI : (i : Int) < 2 := by omega
            have ai : w6.cell? ⟨ar, i, none⟩ = some (.pointer (some ⟨Kp i, 0, none⟩)) := by
              rcases (show i = 0 ∨ i = 1 by omega) with rfl | rfl
              · exact A5.out.cell 0
              · exact A5.out.cell 1
            have CP : Hid (∀ t : Nat, Calls Try.prog 8 #[.pointer (some ⟨Kp i, 0, none⟩), .agg #[.int .i64 kind, .bool two, .int .i64 x]] (w6.drewN t) (PlayP C6 (i + 1) (Kp i) (2 * k + 2) w6)) := Lib.hid (fun t =>
              (plays_any kind x two (w6.drewN t) ((T5.out.ps i (Nat.zero_le _) hi).step ((Chg.refl (fun _ => False) w6).drewN t) (Sam.refl _ _) (fun _ h => h.elim)) (by omega)).mono (fun e w' ⟨h1, C', h2, h3, h4⟩ => ⟨h1, C', h2, ((Chg.refl _ w6).drewN t).trans h3 (fun _ _ h => h), h4⟩))
            go_upto_region 22 with fail
            go_region_held3 (fun w' => w'.cell? ⟨ar, i, none⟩ = some (.pointer (some ⟨Kp i, 0, none⟩)) ∧ w'.cell? ⟨bx, 0, none⟩ = some (.int .i64 kind) ∧ w'.cell? ⟨bx, 1, none⟩ = some (.bool two) ∧ w'.cell? ⟨bx, 2, none⟩ = some (.int .i64 x)) (first | go_keep | exact ⟨e0, e1, e2, e3⟩)
              (first
                | (go_at_call 8; refine (CP.out _).mono ?_; rintro e w7 ⟨rfl, C7, hp7, hc7, hs7⟩
                   have A7 := Lib.hid (A5.out.chg hc7 (fun h => by rw [CX.out.2] at h; simp at h)); have X7 := Lib.hid (X5.out.chg hc7 (fun h => by rw [CX.out.1] at h; simp at h))
                   have e0 := arr2 A7.out hi; have e1 : w7.cell? ⟨bx, 0, none⟩ = some (.int .i64 kind) := X7.out.cell 0; have e2 : w7.cell? ⟨bx, 1, none⟩ = some (.bool two) := X7.out.cell 1; have e3 : w7.cell? ⟨bx, 2, none⟩ = some (.int .i64 x) := X7.out.cell 2
                   have T7 := Lib.hid (T5.out.turn hc7 hs7 hp7 (Nat.le_add_right _ 2)); have CA7 := Lib.hid (show C7 ar = (0, 1) from (hs7 ar A5.out.lt).trans CX.out.2); clear hp7 hc7 hs7))
            clear e0 e1 e2 e3 X7 CP ai x0' x1' x2' A5 X5 T5 CX
            go_wp2_with fail
            go_roundw
            first
              | (case rel => exact ⟨k + 1, C7, by omega, by go_num, Lib.hid ⟨A7.out, CA7.out⟩, T7⟩)
              | (case rel => (repeat apply Exists.intro); exact ⟨⟨k + 1, C7, by omega, by go_num, Lib.hid ⟨A7.out, CA7.out⟩, T7⟩, rfl⟩)
            case measure => simp [intOf]; omega
        · obtain rfl : k = n1 := by omega
          clear hlt2 hk hlt
          have a0 : wr.cell? ⟨ar, 0, none⟩ = some (.pointer (some ⟨Kp 0, 0, none⟩)) := A4.out.1.cell 0
          have a1 : wr.cell? ⟨ar, 1, none⟩ = some (.pointer (some ⟨Kp 1, 0, none⟩)) := A4.out.1.cell 1
          go_wp2_with fail
          clear a0 a1 A4
          go_loopw [92] (fun iv W => ∃ (i : Nat) (C : Nat → Nat × Nat), i ≤ 2 ∧ iv = .int .i64 (i : Int) ∧ Hid (ST w W C i 2 Kp (2 * k + 200 * i))) (fun iv _ => 2 - (intOf iv).toNat)
          case atStart => exact ⟨0, C4, Nat.zero_le _, rfl, T4⟩
          case round =>
            obtain ⟨i, C5, hi, rfl, T5⟩ := hrel
            clear T4
            by_cases hlt3 : i < 2
            · go_upto_region 27 with fail
              go_cut [18] (fun s wx => s = .pointer (some ⟨Kp i, 0, none⟩) ∧ wx = wr)
              case first =>
                have i0 : ∀ w : World, (Instr.index 24 (.agg #[.pointer (some ⟨Kp 0, 0, none⟩), .pointer (some ⟨Kp 1, 0, none⟩)]) (.int .i64 0)).run Try.prog w = .ok (.pointer (some ⟨Kp 0, 0, none⟩)) w := fun _ => by kernel_rfl
                have i1 : ∀ w : World, (Instr.index 24 (.agg #[.pointer (some ⟨Kp 0, 0, none⟩), .pointer (some ⟨Kp 1, 0, none⟩)]) (.int .i64 1)).run Try.prog w = .ok (.pointer (some ⟨Kp 1, 0, none⟩)) w := fun _ => by kernel_rfl
                rcases (show i = 0 ∨ i = 1 by omega) with rfl | rfl
                all_goals
                  go_wp2_with fail
                  go_meet
                  exact ⟨rfl, rfl⟩
              case rest =>
                obtain ⟨rfl, hcut⟩ := hcut
                rw [hcut]
                clear hcut wc
                have P1 := Lib.hid (asks_ps wr (T5.out.ps i (Nat.le_refl _) hlt3))
                go_wp2_with fail
                refine P1.out.mono ?_
                rintro e w1 ⟨rfl, t1, hw1⟩
                have T6 : Hid (ST w w1 C5 i 2 Kp (2 * k + 200 * i)) := Lib.hid (by rw [hw1]; exact T5.out.later (below_drewN (Below.refl _ _) _) (Sam.refl _ _))
                clear hw1 T5 P1
                have P2 := Lib.hid (all_ps w1 (T6.out.ps i (Nat.le_refl _) hlt3) (by omega))
                go_wp2_with fail
                refine P2.out.mono ?_
                rintro e w2 ⟨rfl, C7, hp7, hc7, hs7⟩
                have T7 := Lib.hid (T6.out.turn hc7 hs7 hp7 (Nat.le_add_right _ 2))
                clear hp7 hc7 hs7 T6 P2
                go_wp2_with fail
                go_loopw [103] (fun iv W => ∃ (t : Nat) (C : Nat → Nat × Nat), t ≤ 65 ∧ iv = .int .i64 (t : Int) ∧ Hid (ST w W C i 2 Kp (2 * k + 200 * i + 2 + 2 * t))) (fun iv _ => 65 - (intOf iv).toNat)
                case atStart => exact ⟨0, C7, Nat.zero_le _, rfl, T7⟩
                case round =>
                  obtain ⟨t, C8, ht, rfl, T8⟩ := hrel
                  clear T7
                  by_cases hlt4 : t < 65
                  · have P3 := Lib.hid (plays_any 2 0 false wr (T8.out.ps i (Nat.le_refl _) hlt3) (by omega))
                    go_wp2_with fail
                    refine P3.out.mono ?_
                    rintro e w3 ⟨rfl, C9, hp9, hc9, hs9⟩
                    have T9 := Lib.hid (T8.out.turn hc9 hs9 hp9 (Nat.le_add_right _ 2))
                    clear hp9 hc9 hs9 T8 P3
                    go_wp2_with fail
                    go_roundw
                    first
                      | (case rel => exact ⟨t + 1, C9, by omega, by go_num, T9⟩)
                      | (case rel => (repeat apply Exists.intro); exact ⟨⟨t + 1, C9, by omega, by go_num, T9⟩, rfl⟩)
                    case measure => simp [intOf]; omega
                  · obtain rfl : t = 65 := by omega
                    have P1 := Lib.hid (asks_ps wr (T8.out.ps i (Nat.le_refl _) hlt3))
                    go_wp2_with fail
                    refine P1.out.mono ?_
                    rintro e w1 ⟨rfl, t1, hw1⟩
                    have T9 : Hid (ST w w1 C8 i 2 Kp (2 * k + 200 * i + 2 + 2 * 65)) := Lib.hid (by rw [hw1]; exact T8.out.later (below_drewN (Below.refl _ _) _) (Sam.refl _ _))
                    clear hw1 T8 P1
                    have P2 := Lib.hid (holds_ps w1 (T9.out.ps i (Nat.le_refl _) hlt3) (by omega))
                    go_wp2_with fail
                    refine P2.out.mono ?_
                    rintro e w2 ⟨rfl, hc7⟩
                    have T10 := Lib.hid ((T9.out.drop hc7).le (show _ ≤ 2 * k + 200 * (i + 1) by omega))
                    clear hc7 T9 P2
                    go_wp2_with fail
                    go_roundw
                    first
                      | (case rel => exact ⟨i + 1, C8, by omega, by go_num, T10⟩)
                      | (case rel => (repeat apply Exists.intro); exact ⟨⟨i + 1, C8, by omega, by go_num, T10⟩, rfl⟩)
                    case measure => simp [intOf]; omega
            · obtain rfl : i = 2 := by omega
              have HF : Hid (MainPost w (.returned (.bool true)) wr) := Lib.hid ⟨rfl, T5.out.b⟩
              clear T5
              go_wp2_with fail
              go_ret
              exact HF.out
end Go.Proofs.Ytckhmdeeddjkhaa
