/- THE WALKS of strings.IndexAny and ContainsAny at a NUL and a newline, and of simfs.may: at EVERY text. -/
import Derived.Test.YtlojmmcagglpoaaZBase
import Derived.Test.YtlojmmcagglpoaaZDiskOf
import Derived.Test.YtlojmmcagglpoaaZFrame
import Derived.Test.YtlojmmcagglpoaaRows
import Derived.WalkKit
import Derived.WalkMore
import Derived.WalkSpells
import Derived.OwnWalk
import Derived.Lib.Hide
import Derived.Lib.Strings
import Derived.Lib.Slices
import Derived.Lib.Walk
import Derived.Lib.Bytealg
import Derived.Lib.IndexAny
import Derived.Lib.OthersKept
import Derived.Laws.RangeString
import Derived.Laws.Strings3
import Derived.Laws.Cover4
import Derived.Deep.LoopGhost
import Derived.RegionTactic
import Derived.BigQuiet
import Derived.Deep.QuietTactic
import Derived.Deep.MidRow
import Derived.Lib.AsciiSet
import Derived.Lib.IndexBytes
import Derived.Laws.ResultCell
import Derived.Deep.WholeRow
import Derived.Deep.DeepMust
namespace Go.Proofs.Ytlojmmcagglpoaa
open Go.RowKit
set_option maxHeartbeats 1000000 in
set_option maxRecDepth 100000 in
theorem sbyte_any (s : ByteArray) (c : Int) (w : World) : Calls Try.prog 115 #[.string s, .int .u8 c] w fun e w' => e = .returned (.int .i64 (Lib.indexByte s.data.toList c.toNat.toUInt8)) ∧ w = w' := by
  go_enter Try.func115, Try.ntmps115
  go_wp2
  rw [run_callFunc_extern Try.func125 (by kernel_rfl) (by kernel_rfl) (by kernel_rfl) (e := Extern.BytealgIndexByte.indexByte) (by kernel_rfl), Lib.run_indexByteString]
  simp only [Result.andThen]
  rw [Oper.upon_value]
  go_wp2
  go_ret
  exact ⟨rfl, rfl⟩
set_option maxHeartbeats 1000000 in
theorem ibyte_any (s : ByteArray) (c : Int) (w : World) : Calls Try.prog 108 #[.string s, .int .u8 c] w fun e w' => e = .returned (.int .i64 (Lib.indexByte s.data.toList c.toNat.toUInt8)) ∧ w = w' := by
  go_enter Try.func108, Try.ntmps108
  go_wp2_with (go_at_call 115; refine (sbyte_any _ _ _).mono ?_; rintro e w' ⟨rfl, rfl⟩)
  go_ret
  exact ⟨rfl, rfl⟩
/-- a NUL and a newline -/
def two : ByteArray := ⟨#[0, 10]⟩
def IruQ (r : Nat) (w : World) (e : Ending) (w' : World) : Prop := ∃ k : Int, e = .returned (.int .i64 k) ∧ (0 ≤ k ↔ r = 0 ∨ r = 10) ∧ Below w.heap.size w w'
set_option maxHeartbeats 1000000 in
set_option maxRecDepth 100000 in
theorem irune_ascii (r : Nat) (w : World) (h : r < 128) : Calls Try.prog 95 #[.string two, .int .i32 (r : Int)] w (IruQ r w) := by
  have h1 : (0 : Int) ≤ (r : Int) := by omega
  have h2 : (r : Int) < 128 := by omega
  have hw : IntKind.u8.wrap (r : Int) = (r : Int) := by simp [IntKind.wrap, IntKind.bits, IntKind.signed]; omega
  have HF : Hid (∀ w : World, IruQ r w (.returned (.int .i64 (Lib.indexByte two.data.toList (r : Int).toNat.toUInt8))) w) := Lib.hid (fun w => ⟨_, rfl, by
    show 0 ≤ Lib.indexByte [0, 10] _ ↔ _
    have e : ((r : Int)).toNat.toUInt8 = UInt8.ofNat r := rfl
    rw [e]
    refine Iff.trans (decide_eq_true_iff (p := 0 ≤ Lib.indexByte [0, 10] (UInt8.ofNat r))).symm ?_
    rw [← Lib.contains_iff_indexByte]
    have : r = (UInt8.ofNat r).toNat := by rw [UInt8.toNat_ofNat_of_lt' (by show r < 256; omega)]
    generalize UInt8.ofNat r = u at *
    subst this
    simp [← UInt8.toNat_inj], Below.refl _ _⟩)
  go_enter Try.func95, Try.ntmps95
  go_wp2_with (go_at_call 108; refine (ibyte_any _ _ _).mono ?_; rintro e w' ⟨rfl, rfl⟩)
  go_ret
  exact HF.out _
set_option maxHeartbeats 1000000 in
set_option maxRecDepth 100000 in
theorem irune_bad (w : World) : Calls Try.prog 95 #[.string two, .int .i32 65533] w (IruQ 65533 w) := by
  have n0 : ∀ ty, (Instr.next (.pointer (some ⟨w.heap.size, 0, none⟩)) true ty).run Try.prog (w.iter two 0) = .ok (.tuple #[.bool true, .int .i64 0, .int .i32 0]) (w.iter two 1) := fun ty => run_next_ascii (P := Try.prog) w two 0 ty (by decide) (by decide)
  have n1 : ∀ ty, (Instr.next (.pointer (some ⟨w.heap.size, 0, none⟩)) true ty).run Try.prog (w.iter two 1) = .ok (.tuple #[.bool true, .int .i64 1, .int .i32 10]) (w.iter two 2) := fun ty => run_next_ascii (P := Try.prog) w two 1 ty (by decide) (by decide)
  have n2 : ∀ ty, (Instr.next (.pointer (some ⟨w.heap.size, 0, none⟩)) true ty).run Try.prog (w.iter two 2) = .ok (.tuple #[.bool false]) (w.iter two 2) := fun ty => run_next_end (P := Try.prog) w two 2 ty (by decide)
  go_enter Try.func95, Try.ntmps95
  go_wp2
  refine wp_loop_rounds 3 ?_
  rw [rounds_succ]
  go_wp2
  rw [rounds_succ]
  go_wp2
  rw [rounds_succ]
  go_wp2
  go_ret
  exact ⟨_, rfl, by decide, (Below.refl _ _).alloc (Nat.le_refl _) _⟩
set_option maxHeartbeats 1000000 in
theorem vrune_any (r : Nat) (w : World) (hv : r < 55296 ∨ (57343 < r ∧ r ≤ 1114111)) : Calls Try.prog 109 #[.int .i32 (r : Int)] w fun e w' => e = .returned (.bool true) ∧ w = w' := by
  go_enter Try.func109, Try.ntmps109
  have h0 : (0 : Int) ≤ (r : Int) := by omega
  by_cases h : r < 55296
  · have h1 : (r : Int) < 55296 := by omega
    go_wp2
    go_ret
    exact ⟨rfl, rfl⟩
  · have h1 : ¬ (r : Int) < 55296 := by omega
    have h2 : (57343 : Int) < (r : Int) := by omega
    have h3 : (r : Int) ≤ 1114111 := by omega
    go_wp2
    go_ret
    exact ⟨rfl, rfl⟩
set_option maxHeartbeats 1000000 in
set_option maxRecDepth 100000 in
theorem irune_far (r : Nat) (w : World) (h : 128 ≤ r) (hne : r ≠ 65533) (hv : r < 55296 ∨ (57343 < r ∧ r ≤ 1114111)) : Calls Try.prog 95 #[.string two, .int .i32 (r : Int)] w (IruQ r w) := by
  have h1 : (0 : Int) ≤ (r : Int) := by omega
  have h2 : ¬ (r : Int) < 128 := by omega
  have h3 : ((r : Int) == 65533) = false := by rw [beq_eq_false_iff_ne]; omega
  have CV := Lib.hid (fun w => vrune_any r w hv)
  go_enter Try.func95, Try.ntmps95
  go_wp2_with fail
  refine (CV.out _).mono ?_
  rintro e w2 ⟨rfl, rfl⟩
  go_wp2_with fail
  obtain ⟨z, hz⟩ : ∃ z, z = Utf8.encode (r : Int) := ⟨_, rfl⟩
  have hcv : ∀ w : World, (convert 21 9 (.int .i32 (r : Int))).run Try.prog w = .ok (.string z) w := fun w => by rw [hz]; rfl
  have HZ := Lib.hid hz
  clear hz
  by_cases h2k : r < 2048
  · have hz2 : z.size = 2 ∧ ∀ h : 1 < z.size, 128 ≤ (z[1]'h).toNat := by
      have hval : Utf8.valid (r : Int) = true := by unfold Utf8.valid; simp; omega
      have e : z = ⟨#[UInt8.ofNat (0xC0 + r / 64), UInt8.ofNat (0x80 + r % 64)]⟩ := by
        rw [HZ.out]
        unfold Utf8.encode
        rw [hval]
        simp only [if_true, Int.toNat_natCast]
        rw [if_neg (by omega), if_pos (by omega)]
      subst e
      refine ⟨rfl, fun h => ?_⟩
      show 128 ≤ (UInt8.ofNat (0x80 + r % 64)).toNat
      rw [UInt8.toNat_ofNat_of_lt' (by show _ < 256; omega)]; omega
    obtain ⟨hz1, hv2⟩ := hz2
    have hlz : 1 < z.size := by omega
    obtain ⟨v, hv3⟩ : ∃ v, z[1]'hlz = v := ⟨_, rfl⟩
    have hv4 := hv2 hlz
    rw [hv3] at hv4
    have hzi : ((z.size : Int) - 1) = 1 := by omega
    have htw : (1 : Int) < (two.size : Int) := by decide
    clear hv2
    go_step3
    go_wp2_with fail
    refine wp_loop_rounds 1 ?_
    rw [rounds_succ]
    go_wp2_with fail
    have hlz2 : (1 : Int) < (z.size : Int) := by omega
    have hg2 : two[1]'(by decide) = (10 : UInt8) := rfl
    go_step3
    go_wp2_with fail
    go_quiet (fail)
    obtain ⟨w1, hw1⟩ : ∃ w1, w1 = w.drewN nq := ⟨_, rfl⟩
    have HW1 := Lib.hid hw1
    rw [← hw1]
    clear hw1
    go_wp2_with fail
    have HIB := Lib.hid (fun (s : ByteArray) (c : Int) (k : Nat) => ibyte_any s c (w1.drewN k))
    have hb0 : (0 : Int) ≤ 1 + 1 := by decide
    have hb1 : (1 + 1 : Int) ≤ (two.size : Int) := by decide
    have hiw : IntKind.i64.wrap (1 + 1) = 2 := by decide
    have hb2 : (2 : Int) ≤ (two.size : Int) := by decide
    have hlt : Lib.indexByte (List.take (two.size - 2) (List.drop 2 two.data.toList)) v < 0 := by show (-1 : Int) < 0; decide
    go_quiet ((with_reducible exact quiet (HIB.out _ _ _)))
    go_wp2_with fail
    rw [Exit.noGoto_ret]
    go_wp2_with fail
    rw [Exit.noGoto_ret]
    go_wp2_with fail
    go_ret
    refine ⟨_, rfl, ?_, below_drewN (by rw [HW1.out]; exact below_drewN (Below.refl _ _) _) _⟩
    omega
  · have hsz : 3 ≤ z.size := by
      rw [HZ.out]
      unfold Utf8.encode
      have hval : Utf8.valid (r : Int) = true := by unfold Utf8.valid; simp; omega
      rw [hval]
      simp only [if_true, Int.toNat_natCast]
      rw [if_neg (by omega), if_neg (by omega)]
      split <;> simp [ByteArray.size]
    have hsz3 : ¬ ((z.size : Int) - 1 < (two.size : Int)) := by have : two.size = 2 := rfl; omega
    have hsz2 : z.size ≤ 4 := by rw [HZ.out]; exact encode_size_le _
    go_step3
    go_wp2_with fail
    refine wp_loop_rounds 1 ?_
    rw [rounds_succ]
    go_wp2_with fail
    rw [Exit.noGoto_ret]
    go_ret
    exact ⟨_, rfl, by omega, Below.refl _ _⟩
end Go.Proofs.Ytlojmmcagglpoaa
namespace Go.Proofs.Ytlojmmcagglpoaa
open Go.RowKit
theorem Chg.setCells {S : Nat → Prop} {b : Nat} : ∀ (vs : List Value) (o : Nat) {w w' : World}, Chg S w w' → S b → Chg S w (w'.setCells b o vs)
  | [], _, _, _, h, _ => h
  | v :: vs, o, _, _, h, hb => Chg.setCells vs (o + 1) (h.setCell (p := ⟨b, o, none⟩) (.inl hb) v) hb
theorem Blk.setCells {b : Nat} {t : TypeId} : ∀ (vs : List Value) (o : Nat) {w : World} {C : Array Value}, Blk w b t C → o + vs.length ≤ C.size → ∃ C', Blk (w.setCells b o vs) b t C' ∧ C'.size = C.size ∧ ∀ j, C'[j]? = if o ≤ j ∧ j < o + vs.length then vs[j - o]? else C[j]?
  | [], _, _, C, h, _ => ⟨C, h, rfl, fun j => by rw [if_neg (by simp)]⟩
  | v :: vs, o, _, C, h, hl => by
    rw [List.length_cons] at hl
    obtain ⟨C', h1, h2, h3⟩ := Blk.setCells vs (o + 1) (h.set_ o v) (by simp; omega)
    refine ⟨C', h1, by simpa using h2, fun j => ?_⟩
    rw [h3 j]
    by_cases e : j = o
    · subst e
      rw [if_neg (by omega), if_pos (by simp), Array.getElem?_setIfInBounds_self, if_pos (by omega), Nat.sub_self]; rfl
    · rw [Array.getElem?_setIfInBounds_ne (fun h => e h.symm)]
      by_cases h4 : o + 1 ≤ j ∧ j < o + 1 + vs.length
      · rw [if_pos h4, if_pos (by simp; omega), show j - o = (j - (o + 1)) + 1 from by omega]; rfl
      · rw [if_neg h4, if_neg (by simp; omega)]
theorem Blk.setAll {w : World} {b : Nat} {t : TypeId} {C : Array Value} (h : Blk w b t C) (cs : Array Value) (hs : cs.size = C.size) : Blk (w.setCells b 0 cs.toList) b t cs := by
  obtain ⟨C', h1, h2, h3⟩ := Blk.setCells cs.toList 0 h (by simp; omega)
  have : C' = cs := by
    apply Array.ext_getElem?
    intro j
    rw [h3 j]
    by_cases hj : j < cs.size
    · rw [if_pos (by simpa using hj)]; simp
    · rw [if_neg (by simp; omega), Array.getElem?_eq_none (by omega), Array.getElem?_eq_none (by omega)]
  rw [this] at h1; exact h1
theorem there_blk {w : World} {b : Nat} {t : TypeId} {C : Array Value} (h : Blk w b t C) (n : Nat) (hn : n ≤ C.size) : w.there b 0 n := fun j hj => by
  rw [Nat.zero_add]
  exact ⟨by rw [h.cell, Array.getElem?_eq_getElem (by omega)]; rfl, h.frozen j⟩
theorem rangeAt_blk {w : World} {b : Nat} {t : TypeId} {cs : Array Value} (h : Blk w b t cs) : w.rangeAt b 0 cs.toList := fun j v hv => by
  rw [Nat.zero_add, h.cell]; simpa using hv
end Go.Proofs.Ytlojmmcagglpoaa
namespace Go.Proofs.Ytlojmmcagglpoaa
open Go.RowKit
theorem info_set : (Try.prog.info? 194).map (fun i => (i.zero, i.size)) = some (some (.agg (Array.replicate 256 (.bool false))), 256) := by kernel_rfl
theorem zero_set (w : World) : (zeroValue 194).run Try.prog w = .ok (.agg (Array.replicate 256 (.bool false))) w := (zero_of_info info_set).1 w
theorem size_set : (Try.prog.info? 194).map (·.size) = some 256 := (zero_of_info info_set).2
/-- the set's cells -/
def setC (k : Nat) : Array Value := Lib.setCells (two.data.toList.take k)
theorem setC_size (k : Nat) : (setC k).size = 256 := Lib.setCells_size _
theorem setC_zero : setC 0 = Array.replicate 256 (.bool false) := rfl
theorem setC_one : setC 1 = (setC 0).setIfInBounds 0 (.bool true) := Lib.setCells_snoc [] 0
theorem setC_two : setC 2 = (setC 1).setIfInBounds 10 (.bool true) := Lib.setCells_snoc [0] 10
theorem setC_all (k : Nat) : (setC k).all (·.oneCell') = true := Lib.setCells_one _
theorem setC_at (x : UInt8) : (setC 2)[x.toNat]? = some (.bool (x == 0 || x == 10)) := by
  have := Lib.setCells_at [0, 10] x
  have e : ([0, 10] : List UInt8).contains x = (x == 0 || x == 10) := by simp only [List.contains, List.elem]; cases x == 0 <;> cases x == 10 <;> rfl
  rw [e] at this
  exact this
theorem ret_set {w : World} {b : Nat} {dc : Array Value} {u : Tmp} {p : Tmp} {k : Bool} {fn : Func} {tmps : Array Value} (hf : fn.results = #[.cell p 194, .tmp u]) (hp : tmps.getD p undef = .pointer (some ⟨b, 0, none⟩)) (hu : tmps.getD u undef = .bool k) (h : Blk w b 194 dc) (hs : dc.size = 256) :
    (results fn tmps).run Try.prog w = .ok (.tuple #[.agg dc, .bool k]) w := by
  rw [results_cell_tmp hf, hp, hu]
  simp only [asAddr, Sem.run_pure, Result.andThen, run_loadVar_row w b 194 194 dc (0, 0) _ h Try.underlying194 rfl (by rw [size_set, hs])]
set_option maxHeartbeats 4000000 in
set_option maxRecDepth 1000000 in
theorem mkset_two (w : World) : Calls Try.prog 97 #[.string two] w fun e w' => e = .returned (.tuple #[.agg (setC 2), .bool true]) ∧ Below w.heap.size w w' := by
  have hz := zero_set
  rw [← setC_zero] at hz
  have hsz0 := setC_size 0
  have hsz1 := setC_size 1
  have ht2 : (two.size : Int) = 2 := rfl
  have e1 := setC_one
  have e2 := setC_two
  have g0 : two[0]'(by decide) = (0 : UInt8) := rfl
  have g1 : two[1]'(by decide) = (10 : UInt8) := rfl
  have HE := Lib.hid (And.intro e1 e2)
  clear e1 e2
  obtain ⟨c0, hc0⟩ : ∃ c0, c0 = setC 0 := ⟨_, rfl⟩
  rw [← hc0] at hz hsz0
  have HC0 := Lib.hid hc0
  clear hc0
  go_enter Try.func97, Try.ntmps97
  go_wp2_with fail
  refine wp_loop_rounds 3 ?_
  rw [rounds_succ]
  go_wp2_with fail
  obtain ⟨c1, hc1⟩ : ∃ c1, c1 = setC 1 := ⟨_, rfl⟩
  have E1 : c0.setIfInBounds 0 (.bool true) = c1 := by rw [HC0.out, hc1]; exact HE.out.1.symm
  rw [← hc1] at hsz1
  rw [E1]
  have HC1 := Lib.hid hc1
  clear E1 hc1
  rw [rounds_succ]
  go_wp2_with fail
  obtain ⟨c2, hc2⟩ : ∃ c2, c2 = setC 2 := ⟨_, rfl⟩
  have E2 : c1.setIfInBounds 10 (.bool true) = c2 := by rw [HC1.out, hc2]; exact HE.out.2.symm
  have hsz2 := setC_size 2
  have hone := setC_all 2
  rw [← hc2] at hsz2 hone
  rw [E2]
  have HC2 := Lib.hid hc2
  clear E2 hc2
  obtain ⟨w1, hw1⟩ : ∃ w1, w1 = w.alloc (.cells c2 194) := ⟨_, rfl⟩
  obtain ⟨b, hb⟩ : ∃ b, b = w.heap.size := ⟨_, rfl⟩
  have BK : Hid (Blk w1 b 194 c2) := Lib.hid (by rw [hw1]; exact Blk.new w _ _ hb)
  have B1 : Hid (Below w.heap.size w w1) := Lib.hid (by rw [hw1]; exact (Below.refl _ _).alloc (Nat.le_refl _) _)
  have HB := Lib.hid hb
  rw [← hw1, ← hb]
  have RG := Lib.hid (rangeAt_blk BK.out)
  have LI : Hid ((Try.prog.info? 194).map (·.size) = some c2.toList.length) := Lib.hid (by rw [Array.length_toList, hsz2]; exact size_set)
  have DI : Hid ((Try.prog.info? 194).map (·.size) = some c2.size) := Lib.hid (by rw [hsz2]; exact size_set)
  have ONE := Lib.hid hone
  have HS := Lib.hid hsz2
  clear hw1 hb hone hsz2
  rw [rounds_succ]
  go_wp2_with (with_reducible refine wpList_load_mid rfl _ _ rfl b 0 rfl c2.toList _ RG.out Try.underlying194 rfl LI.out ?_; refine wpList_store_mid rfl 194 (.tmp 2) (.tmp 20) rfl b 0 c2 rfl (by simp [Act.eval, Act.put]) (there_blk BK.out _ (Nat.le_refl _)) DI.out ONE.out ?_; refine halt ?_)
  refine unhalt ?_
  obtain ⟨w2, hw2⟩ : ∃ w2, w2 = w1.setCells b 0 c2.toList := ⟨_, rfl⟩
  have BK2 : Hid (Blk w2 b 194 c2) := Lib.hid (by rw [hw2]; exact BK.out.setAll c2 rfl)
  have B2 : Hid (Below w.heap.size w w2) := Lib.hid (by
    rw [hw2]
    have h1 : Chg (fun k => k = b) w1 (w1.setCells b 0 c2.toList) := Chg.setCells _ _ (Chg.refl _ _) rfl
    exact ((Chg.of_below B1.out (fun k => k = b)).trans h1 (fun _ _ e => e)).below (fun k hk e => by have := HB.out; omega) (Nat.le_refl _))
  rw [← hw2]
  clear hw2
  go_wp2_with fail
  refine bodyPost_ret (v := .tuple #[.agg c2, .bool true]) (ret_set rfl rfl rfl BK2.out HS.out) rfl ?_
  exact ⟨by rw [HC2.out], B2.out⟩
set_option maxHeartbeats 2000000 in
set_option maxRecDepth 1000000 in
theorem contains_any (b : Nat) (x : UInt8) (v : Bool) (w : World) (hc : w.cell? ⟨b, x.toNat, none⟩ = some (.bool v)) :
    Calls Try.prog 98 #[.pointer (some ⟨b, 0, none⟩), .int .u8 x.toNat] w fun e w' => e = .returned (.bool v) ∧ w = w' := by
  have hx256 : (x.toNat : Int) < 256 := by have := UInt8.toNat_lt x; omega
  go_enter Try.func98, Try.ntmps98
  go_wp2
  go_ret
  exact ⟨rfl, rfl⟩
end Go.Proofs.Ytlojmmcagglpoaa
namespace Go.Proofs.Ytlojmmcagglpoaa
open Go.RowKit Go.Maps
/-- a NUL or a newline -/
def badC (c : UInt8) : Prop := c = 0 ∨ c = 10
theorem get_at (s : ByteArray) (i : Nat) (h : i < s.size) : s.get! i = s[i]'h := by
  simp [ByteArray.get!, getElem!_pos, h]; rfl
/-- what the model's decoding gives: a byte below 128 as it is, or a rune that no such byte has, of bytes that are none such -/
theorem dec_cases (s : ByteArray) (i : Nat) (h : i < s.size) : ∃ r wd : Nat, Utf8.decode s i = (r, wd) ∧ ((r < 128 ∧ wd = 1 ∧ (s[i]'h).toNat = r) ∨ (128 ≤ r ∧ 1 ≤ wd ∧ (r = 65533 ∨ (r < 55296 ∨ (57343 < r ∧ r ≤ 1114111))) ∧ ∀ j (hj : j < s.size), i ≤ j → j < i + wd → 128 ≤ (s[j]'hj).toNat)) := by
  have hc : ∀ k, (decide (i + k < s.size) && (s.get! (i + k)).toNat / 64 == 2) = true → ∃ hk : i + k < s.size, 128 ≤ (s[i + k]'hk).toNat := fun k hk => by
    rw [Bool.and_eq_true, decide_eq_true_iff, beq_iff_eq] at hk
    refine ⟨hk.1, ?_⟩
    have := hk.2
    rw [get_at s _ hk.1] at this
    omega
  have e0 : s.get! (i + 0) = s[i]'h := get_at s i h
  have bad : ¬ (s[i]'h).toNat < 128 → ∃ r wd : Nat, ((65533 : Nat), (1 : Nat)) = (r, wd) ∧ ((r < 128 ∧ wd = 1 ∧ (s[i]'h).toNat = r) ∨ (128 ≤ r ∧ 1 ≤ wd ∧ (r = 65533 ∨ (r < 55296 ∨ (57343 < r ∧ r ≤ 1114111))) ∧ ∀ j (hj : j < s.size), i ≤ j → j < i + wd → 128 ≤ (s[j]'hj).toNat)) := fun h0 =>
    ⟨65533, 1, rfl, .inr ⟨by decide, Nat.le_refl _, .inl rfl, fun j hj h1 h2 => by
      obtain rfl : j = i := by omega
      omega⟩⟩
  obtain ⟨b0, hb0⟩ : ∃ b0, b0 = (s[i]'h).toNat := ⟨_, rfl⟩
  have hlt := UInt8.toNat_lt (s[i]'h)
  rw [← hb0] at bad hlt
  unfold Utf8.decode Utf8.valid Utf8.runeError
  simp only [e0]
  rw [← hb0]
  by_cases h0 : b0 < 128
  · rw [if_pos h0]
    exact ⟨_, _, rfl, .inl ⟨h0, rfl, rfl⟩⟩
  · rw [if_neg h0]
    have cell : ∀ (n : Nat) (r : Nat), 128 ≤ r → (r < 55296 ∨ (57343 < r ∧ r ≤ 1114111)) → (∀ k, 1 ≤ k → k < n → ∃ hk : i + k < s.size, 128 ≤ (s[i + k]'hk).toNat) → 1 ≤ n → ∃ r' wd : Nat, (r, n) = (r', wd) ∧ ((r' < 128 ∧ wd = 1 ∧ b0 = r') ∨ (128 ≤ r' ∧ 1 ≤ wd ∧ (r' = 65533 ∨ (r' < 55296 ∨ (57343 < r' ∧ r' ≤ 1114111))) ∧ ∀ j (hj : j < s.size), i ≤ j → j < i + wd → 128 ≤ (s[j]'hj).toNat)) := fun n r h1 h2 h3 h4 =>
      ⟨r, n, rfl, .inr ⟨h1, h4, .inr h2, fun j hj hij hjn => by
        by_cases e : j = i
        · subst e; omega
        · obtain ⟨k, rfl⟩ := Nat.exists_eq_add_of_le hij
          obtain ⟨_, hk⟩ := h3 k (by omega) (by omega)
          exact hk⟩⟩
    split
    · rename_i hc1
      rw [Bool.and_eq_true] at hc1
      have g1 := hc 1 hc1.2
      have g0 : b0 / 32 = 6 := by simpa using hc1.1
      split
      · rename_i hge
        refine cell 2 _ hge (.inl ?_) (fun k h1 h2 => ?_) (by omega)
        · omega
        · obtain rfl : k = 1 := by omega
          exact g1
      · exact bad h0
    · split
      · rename_i hc1
        rw [Bool.and_eq_true, Bool.and_eq_true] at hc1
        have g1 := hc 1 hc1.1.2
        have g2 := hc 2 hc1.2
        split
        · rename_i hge
          rw [Bool.and_eq_true, Bool.or_eq_true, Bool.and_eq_true, Bool.and_eq_true] at hge
          simp only [decide_eq_true_iff] at hge
          refine cell 3 _ (by omega) (by omega) (fun k h1 h2 => ?_) (by omega)
          rcases (by omega : k = 1 ∨ k = 2) with rfl | rfl
          · exact g1
          · exact g2
        · exact bad h0
      · split
        · rename_i hc1
          rw [Bool.and_eq_true, Bool.and_eq_true, Bool.and_eq_true] at hc1
          have g1 := hc 1 hc1.1.1.2
          have g2 := hc 2 hc1.1.2
          have g3 := hc 3 hc1.2
          split
          · rename_i hge
            rw [Bool.and_eq_true, Bool.or_eq_true, Bool.and_eq_true, Bool.and_eq_true] at hge
            simp only [decide_eq_true_iff] at hge
            refine cell 4 _ (by omega) (by omega) (fun k h1 h2 => ?_) (by omega)
            rcases (by omega : k = 1 ∨ k = 2 ∨ k = 3) with rfl | rfl | rfl
            · exact g1
            · exact g2
            · exact g3
          · exact bad h0
        · exact bad h0
/-- none of the first i bytes is one of the two -/
def NoBad (s : ByteArray) (i : Nat) : Prop := ∀ j (hj : j < s.size), j < i → ¬ badC (s[j]'hj)
theorem irune_any (r : Nat) (w : World) (h : r < 128 ∨ (128 ≤ r ∧ (r = 65533 ∨ (r < 55296 ∨ (57343 < r ∧ r ≤ 1114111))))) : Calls Try.prog 95 #[.string two, .int .i32 (r : Int)] w (IruQ r w) := by
  rcases h with h | ⟨h1, h2⟩
  · exact irune_ascii r w h
  · by_cases e : r = 65533
    · subst e; exact irune_bad w
    · exact irune_far r w h1 e (h2.resolve_left e)
def IanQ (s : ByteArray) (w : World) (e : Ending) (w' : World) : Prop := ∃ k : Int, e = .returned (.int .i64 k) ∧ (k < 0 ↔ NoBad s s.size) ∧ Below w.heap.size w w'
theorem iterAt_below {B : Nat} {w w1 : World} (h : Below B w w1) {k : Nat} (hk : B ≤ k) (s : ByteArray) (pos : Nat) : Below B w (w1.iterAt k s pos) :=
  ⟨h.os, h.tape, h.output, by simpa [World.iterAt] using h.size, fun j hj => by
    rw [← h.block j hj]
    simp [World.iterAt, Array.getElem?_setIfInBounds]
    intro e; omega⟩
set_option maxHeartbeats 2000000 in
set_option maxRecDepth 1000000 in
theorem iany_short (s : ByteArray) (w : World) (h8 : s.size ≤ 8) : Calls Try.prog 78 #[.string s, .string two] w (IanQ s w) := by
  have h8z : ¬ ((8 : Int) < (s.size : Int)) := by omega
  have ht2 : (two.size : Int) = 2 := rfl
  have hemp : two.toList.isEmpty = false := by rw [ByteArray.toList_eq]; rfl
  obtain ⟨k, hk⟩ : ∃ k, k = w.heap.size := ⟨_, rfl⟩
  have HK := Lib.hid hk
  go_enter Try.func78, Try.ntmps78
  go_wp2_with (go_at_call 96; go_in)
  rw [← hk]
  clear hk
  obtain ⟨w0, hw0⟩ : ∃ w0, w0 = w.iter s 0 := ⟨_, rfl⟩
  have HI0 : Hid (w0.heap[k]? = some (.stringIter s 0)) := Lib.hid (by rw [hw0, HK.out]; exact World.iter_heap w s 0)
  have HB0 : Hid (Below w.heap.size w w0) := Lib.hid (by rw [hw0]; exact (Below.refl _ _).alloc (Nat.le_refl _) _)
  rw [← hw0]
  clear hw0
  go_loopg [9, 10] s.size (fun g _ _ wx => ∃ i : Nat, s.size ≤ i + g ∧ Hid (wx.heap[k]? = some (.stringIter s i)) ∧ Hid (Below w.heap.size w wx) ∧ Hid (NoBad s i))
  case atStart => exact ⟨0, by omega, HI0, HB0, Lib.hid (fun j _ h => absurd h (Nat.not_lt_zero _))⟩
  case round =>
    obtain ⟨i, hig, HI, HB, HN⟩ := hrel
    by_cases hi : i < s.size
    · obtain ⟨r, wd, hd, hr⟩ := dec_cases s i hi
      have hnx := fun ty => Lib.run_next_any_at (P := Try.prog) wr k s i ty HI.out hi
      rw [hd] at hnx
      simp only at hnx
      obtain ⟨w1, hw1⟩ : ∃ w1, w1 = wr.iterAt k s (i + wd) := ⟨_, rfl⟩
      have HI1 : Hid (w1.heap[k]? = some (.stringIter s (i + wd))) := Lib.hid (by rw [hw1]; exact Lib.iterAt_heap wr k s i (i + wd) HI.out)
      have HB1 : Hid (Below w.heap.size w w1) := Lib.hid (by rw [hw1]; exact iterAt_below HB.out (by rw [HK.out]; exact Nat.le_refl _) s _)
      rw [← hw1] at hnx
      have CR := Lib.hid (irune_any r w1 (hr.elim (fun h => .inl h.1) (fun h => .inr ⟨h.1, h.2.2.1⟩)))
      have hwd : 1 ≤ wd := hr.elim (fun h => by omega) (fun h => h.2.1)
      have HR := Lib.hid hr
      clear hr hd hw1
      cases gk with
      | zero => omega
      | succ g =>
      go_wp2_with fail
      refine CR.out.mono ?_
      rintro e w2 ⟨kk, rfl, hkk, hb2⟩
      have HI2 : Hid (w2.heap[k]? = some (.stringIter s (i + wd))) := Lib.hid ((hb2.block k (Array.getElem?_eq_some_iff.1 HI1.out).1).trans HI1.out)
      have HB2 : Hid (Below w.heap.size w w2) := Lib.hid (HB1.out.trans (hb2.mono HB1.out.size))
      have HKK := Lib.hid hkk
      clear hb2 hkk CR
      by_cases h0 : 0 ≤ kk
      · have HF : Hid (IanQ s w (.returned (.int .i64 (i : Int))) w2) := Lib.hid ⟨_, rfl, ⟨fun h => absurd h (by omega), fun h => by
          have := HKK.out.1 h0
          rcases HR.out with h1 | h1
          · exact absurd (show badC (s[i]'hi) from by
              rcases this with e | e
              · exact .inl (UInt8.toNat_inj.1 (by rw [h1.2.2, e]; rfl))
              · exact .inr (UInt8.toNat_inj.1 (by rw [h1.2.2, e]; rfl))) (h i hi hi)
          · omega⟩, HB2.out⟩
        go_wp2_with fail
        go_ret
        exact HF.out
      · have HN2 : Hid (NoBad s (i + wd)) := Lib.hid (fun j hj hlt => by
          by_cases e : j < i
          · exact HN.out j hj e
          · rcases HR.out with h1 | h1
            · obtain rfl : j = i := by omega
              rintro (h2 | h2)
              · exact h0 (HKK.out.2 (.inl (by rw [← h1.2.2, h2]; rfl)))
              · exact h0 (HKK.out.2 (.inr (by rw [← h1.2.2, h2]; rfl)))
            · have := h1.2.2.2 j hj (by omega) hlt
              rintro (h2 | h2) <;> rw [h2] at this <;> exact absurd this (by decide))
        go_wp2_with fail
        go_roundg g
        case measure => omega
        case rel => exact ⟨i + wd, by omega, HI2, HB2, HN2⟩
    · have hnx := fun ty => Lib.run_next_end_at (P := Try.prog) wr k s i ty HI.out hi
      have HF : Hid (IanQ s w (.returned (.int .i64 (-1))) wr) := Lib.hid ⟨_, rfl, ⟨fun _ j hj _ => HN.out j hj (by omega), fun _ => by decide⟩, HB.out⟩
      go_wp2_with fail
      go_ret
      exact HF.out
set_option maxHeartbeats 2000000 in
set_option maxRecDepth 1000000 in
theorem iany_long (s : ByteArray) (w : World) (h8 : 8 < s.size) (h32 : s.size ≤ 1000000) : Calls Try.prog 78 #[.string s, .string two] w (IanQ s w) := by
  have h8z : (8 : Int) < (s.size : Int) := by omega
  have ht2 : (two.size : Int) = 2 := rfl
  have hemp : two.toList.isEmpty = false := by rw [ByteArray.toList_eq]; rfl
  have HM := Lib.hid (mkset_two w)
  go_enter Try.func78, Try.ntmps78
  go_wp2_with (first | (go_at_call 96; go_in) | (go_at_call 97; refine HM.out.mono ?_; rintro e w1 ⟨rfl, hb1⟩))
  have hsc := run_storeCells_new (P := Try.prog) w1 194 Try.zeroCells194 (setC 2) (by rw [setC_size]; exact size_set) (by rw [setC_size]; kernel_rfl) (setC_all 2)
  simp only [Result.andThen, hsc]
  rw [Oper.upon_skip]
  clear hsc
  obtain ⟨w2, hw2⟩ : ∃ w2, w2 = w1.alloc (.cells (setC 2) 194) := ⟨_, rfl⟩
  obtain ⟨b, hb⟩ : ∃ b, b = w1.heap.size := ⟨_, rfl⟩
  have BK : Hid (Blk w2 b 194 (setC 2)) := Lib.hid (by rw [hw2]; exact Blk.new w1 _ _ hb)
  have B2 : Hid (Below w.heap.size w w2) := Lib.hid (by rw [hw2]; exact hb1.alloc hb1.size _)
  rw [← hw2, ← hb]
  clear hw2 hb hb1
  go_wp2_with fail
  go_loopg [8] s.size (fun g s8 wx => ∃ i : Nat, i + g = s.size ∧ s8 = .int .i64 (i : Int) ∧ wx = w2 ∧ Hid (NoBad s i))
  case atStart => exact ⟨0, by omega, rfl, rfl, Lib.hid (fun j _ h => absurd h (Nat.not_lt_zero _))⟩
  case round =>
    obtain ⟨i, hig, rfl, rfl, HN⟩ := hrel
    cases gk with
    | zero =>
      obtain rfl : i = s.size := by omega
      have hiz : ¬ ((s.size : Int) < (s.size : Int)) := by omega
      have HF : Hid (IanQ s w (.returned (.int .i64 (-1))) wr) := Lib.hid ⟨_, rfl, ⟨fun _ => HN.out, fun _ => by decide⟩, B2.out⟩
      go_wp2_with fail
      go_ret
      exact HF.out
    | succ g =>
      have hi : i < s.size := by omega
      have hiz : (i : Int) < (s.size : Int) := by omega
      obtain ⟨x, hx⟩ : ∃ x : UInt8, s[i]'hi = x := ⟨_, rfl⟩
      have hcell := (BK.out.cell x.toNat).trans (setC_at x)
      have Hx := Lib.hid hx
      have hr1 : i + 1 + g = s.size := by omega
      cases hin : (x == 0 || x == 10) <;> rw [hin] at hcell
      · have CC := Lib.hid (contains_any b x false wr hcell)
        have HN2 : Hid (NoBad s (i + 1)) := Lib.hid (fun j hj hlt => by
          by_cases e : j < i
          · exact HN.out j hj e
          · obtain rfl : j = i := by omega
            rw [Hx.out]
            rintro (h2 | h2) <;> subst h2 <;> exact absurd hin (by decide))
        clear hcell hin
        go_wp2_with fail
        refine CC.out.mono ?_
        rintro e w' ⟨rfl, rfl⟩
        go_wp2_with fail
        go_roundg g
        case measure => omega
        case rel => exact ⟨i + 1, hr1, by first | rfl | simp, rfl, HN2⟩
      · have CC := Lib.hid (contains_any b x true wr hcell)
        have HF : Hid (IanQ s w (.returned (.int .i64 (i : Int))) wr) := Lib.hid ⟨_, rfl, ⟨fun h => absurd h (by omega), fun h => absurd (show badC (s[i]'hi) from by
          rw [Hx.out]
          simpa [badC] using hin) (h i hi hi)⟩, B2.out⟩
        clear hcell hin
        go_wp2_with fail
        refine CC.out.mono ?_
        rintro e w' ⟨rfl, rfl⟩
        go_wp2_with fail
        go_ret
        exact HF.out
theorem iany_any (s : ByteArray) (w : World) (h32 : s.size ≤ 1000000) : Calls Try.prog 78 #[.string s, .string two] w (IanQ s w) := by
  by_cases h8 : s.size ≤ 8
  · exact iany_short s w h8
  · exact iany_long s w (by omega) h32
open Classical in
noncomputable def hasBad (s : ByteArray) : Bool := if NoBad s s.size then false else true
set_option maxHeartbeats 1000000 in
theorem cany_any (s : ByteArray) (w : World) (h32 : s.size ≤ 1000000) : Calls Try.prog 63 #[.string s, .string two] w fun e w' => e = .returned (.bool (hasBad s)) ∧ Below w.heap.size w w' := by
  have CI := Lib.hid (iany_any s w h32)
  go_enter Try.func63, Try.ntmps63
  go_wp2_with fail
  refine CI.out.mono ?_
  rintro e w1 ⟨k, rfl, hk, hb⟩
  have HB := Lib.hid hb
  by_cases h : 0 ≤ k
  · have hh : hasBad s = true := by unfold hasBad; rw [if_neg (by rw [← hk]; omega)]
    have HH := Lib.hid hh
    clear hk hb hh
    go_wp2_with fail
    go_ret
    exact ⟨by rw [HH.out]; rfl, HB.out⟩
  · have hh : hasBad s = false := by unfold hasBad; rw [if_pos (by rw [← hk]; omega)]
    have HH := Lib.hid hh
    clear hk hb hh
    go_wp2_with fail
    go_ret
    exact ⟨by rw [HH.out, ← show decide (0 ≤ k) = false from decide_eq_false (by omega)]; rfl, HB.out⟩
open Classical in
/-- may a name be? -/
noncomputable def mayB (l : List UInt8) : Bool := if 1 ≤ l.length ∧ l.length ≤ 32 ∧ ∀ c ∈ l, ¬ badC c then true else false
theorem nobad_iff (l : List UInt8) : NoBad (strB l) (strB l).size ↔ ∀ c ∈ l, ¬ badC c := by
  constructor
  · intro h c hc
    obtain ⟨i, hi, rfl⟩ := List.getElem_of_mem hc
    exact h i hi hi
  · intro h j hj _
    exact h _ (List.getElem_mem (by simpa [strB, ByteArray.size] using hj))
set_option maxHeartbeats 1000000 in
theorem may_any (l : List UInt8) : MayC l (mayB l) := by
  intro W
  have hsz : (strB l).size = l.length := rfl
  by_cases h0 : l = []
  · subst h0
    have hm : mayB [] = false := by unfold mayB; simp
    rw [hm]
    have he : (strB []).toList.isEmpty = true := by rw [ByteArray.toList_eq]; rfl
    go_enter Try.func39, Try.ntmps39
    go_wp2_with fail
    go_ret
    exact ⟨rfl, Below.refl _ _⟩
  · have he : (strB l).toList.isEmpty = false := by
      rw [ByteArray.toList_eq]
      show l.isEmpty = false
      cases l with
      | nil => exact absurd rfl h0
      | cons _ _ => rfl
    by_cases h32 : l.length ≤ 32
    · have hz : (l.length : Int) ≤ 32 := by omega
      have CC := Lib.hid (cany_any (strB l) W (by rw [hsz]; omega))
      have HM : Hid ((!hasBad (strB l)) = mayB l) := Lib.hid (by
        unfold hasBad mayB
        by_cases hb : NoBad (strB l) (strB l).size
        · rw [if_pos hb]
          have := (nobad_iff l).1 hb
          have hl : 1 ≤ l.length := by
            cases l with
            | nil => exact absurd rfl h0
            | cons _ _ => simp
          rw [if_pos ⟨hl, h32, this⟩]; rfl
        · rw [if_neg hb, if_neg (fun h => hb ((nobad_iff l).2 h.2.2))]; rfl)
      obtain ⟨bb, hbb⟩ : ∃ bb, bb = hasBad (strB l) := ⟨_, rfl⟩
      rw [← hbb] at HM CC
      clear hbb
      go_enter Try.func39, Try.ntmps39
      go_wp2_with fail
      refine CC.out.mono ?_
      rintro e w1 ⟨rfl, hb1⟩
      have HB := Lib.hid hb1
      clear hb1
      go_wp2_with fail
      go_ret
      exact ⟨by rw [← HM.out]; rfl, HB.out⟩
    · have hz : ¬ (l.length : Int) ≤ 32 := by omega
      have hm : mayB l = false := by unfold mayB; rw [if_neg (fun h => h32 h.2.1)]
      rw [hm]
      clear hm
      go_enter Try.func39, Try.ntmps39
      go_wp2_with fail
      go_ret
      exact ⟨rfl, Below.refl _ _⟩
end Go.Proofs.Ytlojmmcagglpoaa
