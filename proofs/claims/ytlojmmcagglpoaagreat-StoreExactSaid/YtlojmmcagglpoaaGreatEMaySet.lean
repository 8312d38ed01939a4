/- THE WALKS of strings.makeASCIISet at a NUL and a newline, and of contains. -/
import Derived.Test.YtlojmmcagglpoaaGreatEFrame
import Derived.Test.YtlojmmcagglpoaaGreatEMayRune
import Derived.Deep.MidRow
import Derived.Lib.AsciiSet
import Derived.Lib.IndexBytes
import Derived.Laws.ResultCell
import Derived.Deep.WholeRow
import Derived.Deep.DeepMust
namespace Go.Proofs.YtlojmmcagglpoaaGreat
open Go.RowKit
theorem Chg.setCells {S : Nat → Prop} {b : Nat} : ∀ (vs : List Value) (o : Nat) {w w' : World}, Chg S w w' → S b → Chg S w (w'.setCells b o vs)
  | [], _, _, _, h, _ => h
  | v :: vs, o, _, _, h, hb => Chg.setCells vs (o + 1) (h.setCell (p := ⟨b, o, none⟩) (.inl hb) v) hb
theorem Blk.setCells {b : Nat} {t : TypeId} : ∀ (vs : List Value) (o : Nat) {w : World} {C : Array Value}, Blk w b t C → o + vs.length ≤ C.size → ∃ C', Blk (w.setCells b o vs) b t C' ∧ C'.size = C.size ∧ ∀ j, C'[j]? = if o ≤ j ∧ j < o + vs.length then vs[j - o]? else C[j]?
  | [], _, _, C, h, _ => ⟨C, h, rfl, fun j => by rw [if_neg (by simp)]⟩
  | v :: vs, o, _, C, h, hl => by
    rw [List.length_cons] at hl
    obtain ⟨C', h1, h2, h3⟩ := Blk.setCells vs (o + 1) (h.set_ o v) (by simp; omega)
    refine ⟨C', h1, by simpa using h2, fun j => ?_⟩
    rw [h3 j]
    by_cases e : j = o
    · subst e
      rw [if_neg (by omega), if_pos (by simp), Array.getElem?_setIfInBounds_self, if_pos (by omega), Nat.sub_self]; rfl
    · rw [Array.getElem?_setIfInBounds_ne (fun h => e h.symm)]
      by_cases h4 : o + 1 ≤ j ∧ j < o + 1 + vs.length
      · rw [if_pos h4, if_pos (by simp; omega), show j - o = (j - (o + 1)) + 1 from by omega]; rfl
      · rw [if_neg h4, if_neg (by simp; omega)]
theorem Blk.setAll {w : World} {b : Nat} {t : TypeId} {C : Array Value} (h : Blk w b t C) (cs : Array Value) (hs : cs.size = C.size) : Blk (w.setCells b 0 cs.toList) b t cs := by
  obtain ⟨C', h1, h2, h3⟩ := Blk.setCells cs.toList 0 h (by simp; omega)
  have : C' = cs := by
    apply Array.ext_getElem?
    intro j
    rw [h3 j]
    by_cases hj : j < cs.size
    · rw [if_pos (by simpa using hj)]; simp
    · rw [if_neg (by simp; omega), Array.getElem?_eq_none (by omega), Array.getElem?_eq_none (by omega)]
  rw [this] at h1; exact h1
theorem there_blk {w : World} {b : Nat} {t : TypeId} {C : Array Value} (h : Blk w b t C) (n : Nat) (hn : n ≤ C.size) : w.there b 0 n := fun j hj => by
  rw [Nat.zero_add]
  exact ⟨by rw [h.cell, Array.getElem?_eq_getElem (by omega)]; rfl, h.frozen j⟩
theorem rangeAt_blk {w : World} {b : Nat} {t : TypeId} {cs : Array Value} (h : Blk w b t cs) : w.rangeAt b 0 cs.toList := fun j v hv => by
  rw [Nat.zero_add, h.cell]; simpa using hv
end Go.Proofs.YtlojmmcagglpoaaGreat
namespace Go.Proofs.YtlojmmcagglpoaaGreat
open Go.RowKit
theorem info_set : (Tryz.prog.info? 275).map (fun i => (i.zero, i.size)) = some (some (.agg (Array.replicate 256 (.bool false))), 256) := by kernel_rfl
theorem zero_set (w : World) : (zeroValue 275).run Tryz.prog w = .ok (.agg (Array.replicate 256 (.bool false))) w := (zero_of_info info_set).1 w
theorem size_set : (Tryz.prog.info? 275).map (·.size) = some 256 := (zero_of_info info_set).2
/-- the set's cells -/
def setC (k : Nat) : Array Value := Lib.setCells (two.data.toList.take k)
theorem setC_size (k : Nat) : (setC k).size = 256 := Lib.setCells_size _
theorem setC_zero : setC 0 = Array.replicate 256 (.bool false) := rfl
theorem setC_one : setC 1 = (setC 0).setIfInBounds 0 (.bool true) := Lib.setCells_snoc [] 0
theorem setC_two : setC 2 = (setC 1).setIfInBounds 10 (.bool true) := Lib.setCells_snoc [0] 10
theorem setC_all (k : Nat) : (setC k).all (·.oneCell') = true := Lib.setCells_one _
theorem setC_at (x : UInt8) : (setC 2)[x.toNat]? = some (.bool (x == 0 || x == 10)) := by
  have := Lib.setCells_at [0, 10] x
  have e : ([0, 10] : List UInt8).contains x = (x == 0 || x == 10) := by simp only [List.contains, List.elem]; cases x == 0 <;> cases x == 10 <;> rfl
  rw [e] at this
  exact this
theorem ret_set {w : World} {b : Nat} {dc : Array Value} {u : Tmp} {p : Tmp} {k : Bool} {fn : Func} {tmps : Array Value} (hf : fn.results = #[.cell p 275, .tmp u]) (hp : tmps.getD p undef = .pointer (some ⟨b, 0, none⟩)) (hu : tmps.getD u undef = .bool k) (h : Blk w b 275 dc) (hs : dc.size = 256) :
    (results fn tmps).run Tryz.prog w = .ok (.tuple #[.agg dc, .bool k]) w := by
  rw [results_cell_tmp hf, hp, hu]
  simp only [asAddr, Sem.run_pure, Result.andThen, run_loadVar_row w b 275 275 dc (0, 0) _ h Tryz.underlying275 rfl (by rw [size_set, hs])]
set_option maxHeartbeats 4000000 in
set_option maxRecDepth 1000000 in
theorem mkset_two (w : World) : Calls Tryz.prog 185 #[.string two] w fun e w' => e = .returned (.tuple #[.agg (setC 2), .bool true]) ∧ Below w.heap.size w w' := by
  have hz := zero_set
  rw [← setC_zero] at hz
  have hsz0 := setC_size 0
  have hsz1 := setC_size 1
  have ht2 : (two.size : Int) = 2 := rfl
  have e1 := setC_one
  have e2 := setC_two
  have g0 : two[0]'(by decide) = (0 : UInt8) := rfl
  have g1 : two[1]'(by decide) = (10 : UInt8) := rfl
  have HE := Lib.hid (And.intro e1 e2)
  clear e1 e2
  obtain ⟨c0, hc0⟩ : ∃ c0, c0 = setC 0 := ⟨_, rfl⟩
  rw [← hc0] at hz hsz0
  have HC0 := Lib.hid hc0
  clear hc0
  go_enter Tryz.func185, Tryz.ntmps185
  go_wp2_with fail
  refine wp_loop_rounds 3 ?_
  rw [rounds_succ]
  go_wp2_with fail
  obtain ⟨c1, hc1⟩ : ∃ c1, c1 = setC 1 := ⟨_, rfl⟩
  have E1 : c0.setIfInBounds 0 (.bool true) = c1 := by rw [HC0.out, hc1]; exact HE.out.1.symm
  rw [← hc1] at hsz1
  rw [E1]
  have HC1 := Lib.hid hc1
  clear E1 hc1
  rw [rounds_succ]
  go_wp2_with fail
  obtain ⟨c2, hc2⟩ : ∃ c2, c2 = setC 2 := ⟨_, rfl⟩
  have E2 : c1.setIfInBounds 10 (.bool true) = c2 := by rw [HC1.out, hc2]; exact HE.out.2.symm
  have hsz2 := setC_size 2
  have hone := setC_all 2
  rw [← hc2] at hsz2 hone
  rw [E2]
  have HC2 := Lib.hid hc2
  clear E2 hc2
  obtain ⟨w1, hw1⟩ : ∃ w1, w1 = w.alloc (.cells c2 275) := ⟨_, rfl⟩
  obtain ⟨b, hb⟩ : ∃ b, b = w.heap.size := ⟨_, rfl⟩
  have BK : Hid (Blk w1 b 275 c2) := Lib.hid (by rw [hw1]; exact Blk.new w _ _ hb)
  have B1 : Hid (Below w.heap.size w w1) := Lib.hid (by rw [hw1]; exact (Below.refl _ _).alloc (Nat.le_refl _) _)
  have HB := Lib.hid hb
  rw [← hw1, ← hb]
  have RG := Lib.hid (rangeAt_blk BK.out)
  have LI : Hid ((Tryz.prog.info? 275).map (·.size) = some c2.toList.length) := Lib.hid (by rw [Array.length_toList, hsz2]; exact size_set)
  have DI : Hid ((Tryz.prog.info? 275).map (·.size) = some c2.size) := Lib.hid (by rw [hsz2]; exact size_set)
  have ONE := Lib.hid hone
  have HS := Lib.hid hsz2
  clear hw1 hb hone hsz2
  rw [rounds_succ]
  go_wp2_with (with_reducible refine wpList_load_mid rfl _ _ rfl b 0 rfl c2.toList _ RG.out Tryz.underlying275 rfl LI.out ?_; refine wpList_store_mid rfl 275 (.tmp 2) (.tmp 20) rfl b 0 c2 rfl (by simp [Act.eval, Act.put]) (there_blk BK.out _ (Nat.le_refl _)) DI.out ONE.out ?_; refine halt ?_)
  refine unhalt ?_
  obtain ⟨w2, hw2⟩ : ∃ w2, w2 = w1.setCells b 0 c2.toList := ⟨_, rfl⟩
  have BK2 : Hid (Blk w2 b 275 c2) := Lib.hid (by rw [hw2]; exact BK.out.setAll c2 rfl)
  have B2 : Hid (Below w.heap.size w w2) := Lib.hid (by
    rw [hw2]
    have h1 : Chg (fun k => k = b) w1 (w1.setCells b 0 c2.toList) := Chg.setCells _ _ (Chg.refl _ _) rfl
    exact ((Chg.of_below B1.out (fun k => k = b)).trans h1 (fun _ _ e => e)).below (fun k hk e => by have := HB.out; omega) (Nat.le_refl _))
  rw [← hw2]
  clear hw2
  go_wp2_with fail
  refine bodyPost_ret (v := .tuple #[.agg c2, .bool true]) (ret_set rfl rfl rfl BK2.out HS.out) rfl ?_
  exact ⟨by rw [HC2.out], B2.out⟩
set_option maxHeartbeats 2000000 in
set_option maxRecDepth 1000000 in
theorem contains_any (b : Nat) (x : UInt8) (v : Bool) (w : World) (hc : w.cell? ⟨b, x.toNat, none⟩ = some (.bool v)) :
    Calls Tryz.prog 186 #[.pointer (some ⟨b, 0, none⟩), .int .u8 x.toNat] w fun e w' => e = .returned (.bool v) ∧ w = w' := by
  have hx256 : (x.toNat : Int) < 256 := by have := UInt8.toNat_lt x; omega
  go_enter Tryz.func186, Tryz.ntmps186
  go_wp2
  go_ret
  exact ⟨rfl, rfl⟩
end Go.Proofs.YtlojmmcagglpoaaGreat
