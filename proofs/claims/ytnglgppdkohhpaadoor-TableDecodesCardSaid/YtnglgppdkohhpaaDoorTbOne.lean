/- The first example's table: one. -/
import Derived.Test.YtnglgppdkohhpaaDoorTbEq
namespace Go.Proofs.YtnglgppdkohhpaaDoor
open Go.RowKit
def oneT : Tb := ⟨zcls, [[0]], [1], [1]⟩
theorem one_sound : Sound oneT := ⟨zlen, ⟨fun x hx => by
  have : x = 1 := by simpa [oneT] using hx
  omega, fun x hx => by
  have : x = 1 := by simpa [oneT] using hx
  omega⟩⟩
theorem one_fits : Fits oneT := by
  refine ⟨by decide, by decide, rfl, rfl, by decide, by decide, fun j x hj => ?_, fun s l hl => ?_⟩
  · have h0 : x = 0 := by
      have := List.mem_of_getElem? hj
      exact (List.mem_replicate.1 this).2
    subst h0
    exact ⟨by omega, by decide⟩
  · match s, hl with
    | 0, hl =>
      have : [0] = l := by simpa [oneT] using hl
      subst this
      refine ⟨rfl, by decide, fun k x hk => ?_⟩
      match k, hk with
      | 0, hk =>
        have : (0 : Int) = x := by simpa using hk
        subst this
        decide
      | k + 1, hk => simp at hk
    | s + 1, hl => simp [oneT] at hl
def OneQ (t : Tb) (w : World) (e : Ending) (w' : World) : Prop := ∃ cs, e = .returned (.agg cs) ∧ TB w' cs t ∧ Below w.heap.size w w'
theorem one_len : ∀ l ∈ oneT.nx, l.length ≤ 9223372036854775807 := fun l hl => by
  have : l = [0] := by simpa [oneT] using hl
  subst this; decide
theorem one_tb {w : World} {g1 g2 g3 g4 : Nat} (h1 : Blk w g1 3 #[.int .i64 0]) (h2 : Blk w g2 35 #[.slice (some ⟨g1, 0, none⟩) 1 1]) (h3 : Blk w g3 34 #[.int .u32 1]) (h4 : Blk w g4 34 #[.int .u32 1]) :
    TB w (dcells zcls (.slice (some ⟨g2, 0, none⟩) 1 1) (.slice (some ⟨g3, 0, none⟩) 1 1) (.slice (some ⟨g4, 0, none⟩) 1 1)) oneT := by
  refine ⟨⟨some ⟨g2, 0, none⟩, 1, some ⟨g3, 0, none⟩, 1, some ⟨g4, 0, none⟩, 1, rfl, Nat.le_refl _, Nat.le_refl _, Nat.le_refl _, ⟨rfl, fun _ => ⟨g2, 0, rfl, h2.lt, fun j l hj => ?_⟩⟩, RG.blk h3 rfl, RG.blk h4 rfl⟩, one_sound.hc, one_sound.hu, ⟨by decide, by decide, by decide, one_len⟩⟩
  · match j, hj with
    | 0, hj =>
      have : [0] = l := by simpa [oneT] using hj
      subst this
      exact ⟨some ⟨g1, 0, none⟩, 1, Nat.le_refl _, (h2.cell 0).trans rfl, RG.blk h1 rfl⟩
    | j + 1, hj => simp [oneT] at hj
/-- one, with its lists in new memory -/
def OneR (w : World) (e : Ending) (w' : World) : Prop := ∃ cs, e = .returned (.agg cs) ∧ Below w.heap.size w w' ∧ ∀ (S : Nat → Prop) (W' : World), Chg S w' W' → (∀ k, S k → k < w.heap.size) → TB W' cs oneT
set_option maxRecDepth 100000 in
set_option maxHeartbeats 2000000 in
theorem one_any2 (w : World) : Calls Tryd.prog 18 #[] w (OneR w) := by
  have hz := zero_run
  have hsz := zsize
  have hd : ∀ a b c : Value, (((dcells zcls nilV nilV nilV).setIfInBounds 256 a).setIfInBounds 257 b).setIfInBounds 258 c = dcells zcls a b c := fun a b c => dcells_set zlen a b c
  obtain ⟨zc, hzc⟩ : ∃ zc, zc = dcells zcls nilV nilV nilV := ⟨_, rfl⟩
  have HZC := Lib.hid hzc
  rw [← hzc] at hz hsz hd
  clear hzc
  obtain ⟨dc, hdc⟩ : ∃ dc, dc = dcells zcls (.slice (some ⟨w.heap.size + 1 + 1, 0, none⟩) 1 1) (.slice (some ⟨w.heap.size + 1 + 1 + 1, 0, none⟩) 1 1) (.slice (some ⟨w.heap.size + 1 + 1 + 1 + 1, 0, none⟩) 1 1) := ⟨_, rfl⟩
  have hd2 := hd (.slice (some ⟨w.heap.size + 1 + 1, 0, none⟩) 1 1) (.slice (some ⟨w.heap.size + 1 + 1 + 1, 0, none⟩) 1 1) (.slice (some ⟨w.heap.size + 1 + 1 + 1 + 1, 0, none⟩) 1 1)
  rw [← hdc] at hd2
  have HDC := Lib.hid hdc
  have ds : Hid (dc.size = 259 ∧ dc.all (·.oneCell') = true) := Lib.hid ⟨by rw [hdc]; exact dcells_size zlen, by rw [hdc]; exact dcells_one rfl rfl rfl⟩
  have di : Hid ((Tryd.prog.info? 26).map (·.size) = some dc.size) := Lib.hid (by rw [size259, ds.out.1])
  obtain ⟨w5, hw5⟩ : ∃ w5, w5 = ((((w.alloc (.cells zc 26)).alloc (.cells #[.int .i64 0] 3)).alloc (.cells #[.slice (some ⟨w.heap.size + 1, 0, none⟩) 1 1] 35)).alloc (.cells #[.int .u32 1] 34)).alloc (.cells #[.int .u32 1] 34) := ⟨_, rfl⟩
  have Z0 : Hid (Blk w5 w.heap.size 26 zc) := Lib.hid (by rw [hw5]; exact ((((Blk.new w _ _ rfl).alloc _).alloc _).alloc _).alloc _)
  have B5 : Hid (Below w.heap.size w w5) := Lib.hid (by
    rw [hw5]
    exact (((((Below.refl _ _).alloc (Nat.le_refl _) _).alloc (by simp) _).alloc (by simp; omega) _).alloc (by simp; omega) _).alloc (by simp; omega) _)
  have T5 : Hid (Blk w5 (w.heap.size + 1) 3 #[.int .i64 0] ∧ Blk w5 (w.heap.size + 1 + 1) 35 #[.slice (some ⟨w.heap.size + 1, 0, none⟩) 1 1] ∧ Blk w5 (w.heap.size + 1 + 1 + 1) 34 #[.int .u32 1] ∧ Blk w5 (w.heap.size + 1 + 1 + 1 + 1) 34 #[.int .u32 1]) := Lib.hid (by
    refine ⟨?_, ?_, ?_, ?_⟩
    · rw [hw5]; exact (((Blk.new _ _ _ (by simp)).alloc _).alloc _).alloc _
    · rw [hw5]; exact ((Blk.new _ _ _ (by simp)).alloc _).alloc _
    · rw [hw5]; exact (Blk.new _ _ _ (by simp)).alloc _
    · rw [hw5]; exact Blk.new _ _ _ (by simp))
  have HW := Lib.hid hw5
  clear hdc hw5 hd
  go_enter Tryd.func18, Tryd.ntmps18
  go_wp2_with ((rw [← HW.out]); (with_reducible refine wpList_store_mid rfl _ _ _ rfl w.heap.size 0 dc rfl (by first | (simp [Act.eval]; done) | simp [Act.eval]) (there_blk Z0.out _ (by rw [ds.out.1, HZC.out, zsize]; exact Nat.le_refl _)) di.out ds.out.2 ?_))
  have hb5 : Blk (w5.setCells w.heap.size 0 dc.toList) w.heap.size 26 dc := Blk.setAll Z0.out dc (by rw [ds.out.1, HZC.out, zsize])
  have hc5 : Chg (fun b => b = w.heap.size) w5 (w5.setCells w.heap.size 0 dc.toList) := Chg.setCells (S := fun b => b = w.heap.size) _ _ (Chg.refl _ w5) rfl
  refine bodyPost_ret (v := .agg dc) (results_cell_row rfl _ _ w.heap.size _ dc (0, 0) _ rfl hb5 Tryd.underlying26 rfl di.out) rfl ?_
  obtain ⟨k1, k2, k3, k4⟩ := T5.out
  refine ⟨dc, rfl, B5.out.trans (hc5.below (fun b hb e => by omega) B5.out.size), fun S W' hc hS => ?_⟩
  have := one_tb ((k1.chg hc5 (by omega)).chg hc (fun e => by have := hS _ e; omega)) ((k2.chg hc5 (by omega)).chg hc (fun e => by have := hS _ e; omega)) ((k3.chg hc5 (by omega)).chg hc (fun e => by have := hS _ e; omega)) ((k4.chg hc5 (by omega)).chg hc (fun e => by have := hS _ e; omega))
  rw [← HDC.out] at this
  exact this
theorem one_any (w : World) : Calls Tryd.prog 18 #[] w (OneQ oneT w) := by
  refine (one_any2 w).mono ?_
  rintro e w' ⟨cs, rfl, h1, h2⟩
  exact ⟨cs, rfl, h2 (fun _ => False) w' (Chg.refl _ _) (fun _ h => h.elim), h1⟩
end Go.Proofs.YtnglgppdkohhpaaDoor
