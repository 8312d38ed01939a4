/- THE WALKS of strings.IndexAny and ContainsAny at a NUL and a newline, and of simfs.may: at EVERY text. -/
import Derived.Test.YtlojmmcagglpoaaGreatEDiskOf
import Derived.Test.YtlojmmcagglpoaaGreatEMaySet
namespace Go.Proofs.YtlojmmcagglpoaaGreat
open Go.RowKit Go.Maps
/-- a NUL or a newline -/
def badC (c : UInt8) : Prop := c = 0 ∨ c = 10
theorem get_at (s : ByteArray) (i : Nat) (h : i < s.size) : s.get! i = s[i]'h := by
  simp [ByteArray.get!, getElem!_pos, h]; rfl
/-- what the model's decoding gives: a byte below 128 as it is, or a rune that no such byte has, of bytes that are none such -/
theorem dec_cases (s : ByteArray) (i : Nat) (h : i < s.size) : ∃ r wd : Nat, Utf8.decode s i = (r, wd) ∧ ((r < 128 ∧ wd = 1 ∧ (s[i]'h).toNat = r) ∨ (128 ≤ r ∧ 1 ≤ wd ∧ (r = 65533 ∨ (r < 55296 ∨ (57343 < r ∧ r ≤ 1114111))) ∧ ∀ j (hj : j < s.size), i ≤ j → j < i + wd → 128 ≤ (s[j]'hj).toNat)) := by
  have hc : ∀ k, (decide (i + k < s.size) && (s.get! (i + k)).toNat / 64 == 2) = true → ∃ hk : i + k < s.size, 128 ≤ (s[i + k]'hk).toNat := fun k hk => by
    rw [Bool.and_eq_true, decide_eq_true_iff, beq_iff_eq] at hk
    refine ⟨hk.1, ?_⟩
    have := hk.2
    rw [get_at s _ hk.1] at this
    omega
  have e0 : s.get! (i + 0) = s[i]'h := get_at s i h
  have bad : ¬ (s[i]'h).toNat < 128 → ∃ r wd : Nat, ((65533 : Nat), (1 : Nat)) = (r, wd) ∧ ((r < 128 ∧ wd = 1 ∧ (s[i]'h).toNat = r) ∨ (128 ≤ r ∧ 1 ≤ wd ∧ (r = 65533 ∨ (r < 55296 ∨ (57343 < r ∧ r ≤ 1114111))) ∧ ∀ j (hj : j < s.size), i ≤ j → j < i + wd → 128 ≤ (s[j]'hj).toNat)) := fun h0 =>
    ⟨65533, 1, rfl, .inr ⟨by decide, Nat.le_refl _, .inl rfl, fun j hj h1 h2 => by
      obtain rfl : j = i := by omega
      omega⟩⟩
  obtain ⟨b0, hb0⟩ : ∃ b0, b0 = (s[i]'h).toNat := ⟨_, rfl⟩
  have hlt := UInt8.toNat_lt (s[i]'h)
  rw [← hb0] at bad hlt
  unfold Utf8.decode Utf8.valid Utf8.runeError
  simp only [e0]
  rw [← hb0]
  by_cases h0 : b0 < 128
  · rw [if_pos h0]
    exact ⟨_, _, rfl, .inl ⟨h0, rfl, rfl⟩⟩
  · rw [if_neg h0]
    have cell : ∀ (n : Nat) (r : Nat), 128 ≤ r → (r < 55296 ∨ (57343 < r ∧ r ≤ 1114111)) → (∀ k, 1 ≤ k → k < n → ∃ hk : i + k < s.size, 128 ≤ (s[i + k]'hk).toNat) → 1 ≤ n → ∃ r' wd : Nat, (r, n) = (r', wd) ∧ ((r' < 128 ∧ wd = 1 ∧ b0 = r') ∨ (128 ≤ r' ∧ 1 ≤ wd ∧ (r' = 65533 ∨ (r' < 55296 ∨ (57343 < r' ∧ r' ≤ 1114111))) ∧ ∀ j (hj : j < s.size), i ≤ j → j < i + wd → 128 ≤ (s[j]'hj).toNat)) := fun n r h1 h2 h3 h4 =>
      ⟨r, n, rfl, .inr ⟨h1, h4, .inr h2, fun j hj hij hjn => by
        by_cases e : j = i
        · subst e; omega
        · obtain ⟨k, rfl⟩ := Nat.exists_eq_add_of_le hij
          obtain ⟨_, hk⟩ := h3 k (by omega) (by omega)
          exact hk⟩⟩
    split
    · rename_i hc1
      rw [Bool.and_eq_true] at hc1
      have g1 := hc 1 hc1.2
      have g0 : b0 / 32 = 6 := by simpa using hc1.1
      split
      · rename_i hge
        refine cell 2 _ hge (.inl ?_) (fun k h1 h2 => ?_) (by omega)
        · omega
        · obtain rfl : k = 1 := by omega
          exact g1
      · exact bad h0
    · split
      · rename_i hc1
        rw [Bool.and_eq_true, Bool.and_eq_true] at hc1
        have g1 := hc 1 hc1.1.2
        have g2 := hc 2 hc1.2
        split
        · rename_i hge
          rw [Bool.and_eq_true, Bool.or_eq_true, Bool.and_eq_true, Bool.and_eq_true] at hge
          simp only [decide_eq_true_iff] at hge
          refine cell 3 _ (by omega) (by omega) (fun k h1 h2 => ?_) (by omega)
          rcases (by omega : k = 1 ∨ k = 2) with rfl | rfl
          · exact g1
          · exact g2
        · exact bad h0
      · split
        · rename_i hc1
          rw [Bool.and_eq_true, Bool.and_eq_true, Bool.and_eq_true] at hc1
          have g1 := hc 1 hc1.1.1.2
          have g2 := hc 2 hc1.1.2
          have g3 := hc 3 hc1.2
          split
          · rename_i hge
            rw [Bool.and_eq_true, Bool.or_eq_true, Bool.and_eq_true, Bool.and_eq_true] at hge
            simp only [decide_eq_true_iff] at hge
            refine cell 4 _ (by omega) (by omega) (fun k h1 h2 => ?_) (by omega)
            rcases (by omega : k = 1 ∨ k = 2 ∨ k = 3) with rfl | rfl | rfl
            · exact g1
            · exact g2
            · exact g3
          · exact bad h0
        · exact bad h0
/-- none of the first i bytes is one of the two -/
def NoBad (s : ByteArray) (i : Nat) : Prop := ∀ j (hj : j < s.size), j < i → ¬ badC (s[j]'hj)
theorem irune_any (r : Nat) (w : World) (h : r < 128 ∨ (128 ≤ r ∧ (r = 65533 ∨ (r < 55296 ∨ (57343 < r ∧ r ≤ 1114111))))) : Calls Tryz.prog 183 #[.string two, .int .i32 (r : Int)] w (IruQ r w) := by
  rcases h with h | ⟨h1, h2⟩
  · exact irune_ascii r w h
  · by_cases e : r = 65533
    · subst e; exact irune_bad w
    · exact irune_far r w h1 e (h2.resolve_left e)
def IanQ (s : ByteArray) (w : World) (e : Ending) (w' : World) : Prop := ∃ k : Int, e = .returned (.int .i64 k) ∧ (k < 0 ↔ NoBad s s.size) ∧ Below w.heap.size w w'
theorem iterAt_below {B : Nat} {w w1 : World} (h : Below B w w1) {k : Nat} (hk : B ≤ k) (s : ByteArray) (pos : Nat) : Below B w (w1.iterAt k s pos) :=
  ⟨h.os, h.tape, h.output, by simpa [World.iterAt] using h.size, fun j hj => by
    rw [← h.block j hj]
    simp [World.iterAt, Array.getElem?_setIfInBounds]
    intro e; omega⟩
set_option maxHeartbeats 2000000 in
set_option maxRecDepth 1000000 in
theorem iany_short (s : ByteArray) (w : World) (h8 : s.size ≤ 8) : Calls Tryz.prog 172 #[.string s, .string two] w (IanQ s w) := by
  have h8z : ¬ ((8 : Int) < (s.size : Int)) := by omega
  have ht2 : (two.size : Int) = 2 := rfl
  have hemp : two.toList.isEmpty = false := by rw [ByteArray.toList_eq]; rfl
  obtain ⟨k, hk⟩ : ∃ k, k = w.heap.size := ⟨_, rfl⟩
  have HK := Lib.hid hk
  go_enter Tryz.func172, Tryz.ntmps172
  go_wp2_with (go_at_call 184; go_in)
  rw [← hk]
  clear hk
  obtain ⟨w0, hw0⟩ : ∃ w0, w0 = w.iter s 0 := ⟨_, rfl⟩
  have HI0 : Hid (w0.heap[k]? = some (.stringIter s 0)) := Lib.hid (by rw [hw0, HK.out]; exact World.iter_heap w s 0)
  have HB0 : Hid (Below w.heap.size w w0) := Lib.hid (by rw [hw0]; exact (Below.refl _ _).alloc (Nat.le_refl _) _)
  rw [← hw0]
  clear hw0
  go_loopg [9, 10] s.size (fun g _ _ wx => ∃ i : Nat, s.size ≤ i + g ∧ Hid (wx.heap[k]? = some (.stringIter s i)) ∧ Hid (Below w.heap.size w wx) ∧ Hid (NoBad s i))
  case atStart => exact ⟨0, by omega, HI0, HB0, Lib.hid (fun j _ h => absurd h (Nat.not_lt_zero _))⟩
  case round =>
    obtain ⟨i, hig, HI, HB, HN⟩ := hrel
    by_cases hi : i < s.size
    · obtain ⟨r, wd, hd, hr⟩ := dec_cases s i hi
      have hnx := fun ty => Lib.run_next_any_at (P := Tryz.prog) wr k s i ty HI.out hi
      rw [hd] at hnx
      simp only at hnx
      obtain ⟨w1, hw1⟩ : ∃ w1, w1 = wr.iterAt k s (i + wd) := ⟨_, rfl⟩
      have HI1 : Hid (w1.heap[k]? = some (.stringIter s (i + wd))) := Lib.hid (by rw [hw1]; exact Lib.iterAt_heap wr k s i (i + wd) HI.out)
      have HB1 : Hid (Below w.heap.size w w1) := Lib.hid (by rw [hw1]; exact iterAt_below HB.out (by rw [HK.out]; exact Nat.le_refl _) s _)
      rw [← hw1] at hnx
      have CR := Lib.hid (irune_any r w1 (hr.elim (fun h => .inl h.1) (fun h => .inr ⟨h.1, h.2.2.1⟩)))
      have hwd : 1 ≤ wd := hr.elim (fun h => by omega) (fun h => h.2.1)
      have HR := Lib.hid hr
      clear hr hd hw1
      cases gk with
      | zero => omega
      | succ g =>
      go_wp2_with fail
      refine CR.out.mono ?_
      rintro e w2 ⟨kk, rfl, hkk, hb2⟩
      have HI2 : Hid (w2.heap[k]? = some (.stringIter s (i + wd))) := Lib.hid ((hb2.block k (Array.getElem?_eq_some_iff.1 HI1.out).1).trans HI1.out)
      have HB2 : Hid (Below w.heap.size w w2) := Lib.hid (HB1.out.trans (hb2.mono HB1.out.size))
      have HKK := Lib.hid hkk
      clear hb2 hkk CR
      by_cases h0 : 0 ≤ kk
      · have HF : Hid (IanQ s w (.returned (.int .i64 (i : Int))) w2) := Lib.hid ⟨_, rfl, ⟨fun h => absurd h (by omega), fun h => by
          have := HKK.out.1 h0
          rcases HR.out with h1 | h1
          · exact absurd (show badC (s[i]'hi) from by
              rcases this with e | e
              · exact .inl (UInt8.toNat_inj.1 (by rw [h1.2.2, e]; rfl))
              · exact .inr (UInt8.toNat_inj.1 (by rw [h1.2.2, e]; rfl))) (h i hi hi)
          · omega⟩, HB2.out⟩
        go_wp2_with fail
        go_ret
        exact HF.out
      · have HN2 : Hid (NoBad s (i + wd)) := Lib.hid (fun j hj hlt => by
          by_cases e : j < i
          · exact HN.out j hj e
          · rcases HR.out with h1 | h1
            · obtain rfl : j = i := by omega
              rintro (h2 | h2)
              · exact h0 (HKK.out.2 (.inl (by rw [← h1.2.2, h2]; rfl)))
              · exact h0 (HKK.out.2 (.inr (by rw [← h1.2.2, h2]; rfl)))
            · have := h1.2.2.2 j hj (by omega) hlt
              rintro (h2 | h2) <;> rw [h2] at this <;> exact absurd this (by decide))
        go_wp2_with fail
        go_roundg g
        case measure => omega
        case rel => exact ⟨i + wd, by omega, HI2, HB2, HN2⟩
    · have hnx := fun ty => Lib.run_next_end_at (P := Tryz.prog) wr k s i ty HI.out hi
      have HF : Hid (IanQ s w (.returned (.int .i64 (-1))) wr) := Lib.hid ⟨_, rfl, ⟨fun _ j hj _ => HN.out j hj (by omega), fun _ => by decide⟩, HB.out⟩
      go_wp2_with fail
      go_ret
      exact HF.out
set_option maxHeartbeats 2000000 in
set_option maxRecDepth 1000000 in
theorem iany_long (s : ByteArray) (w : World) (h8 : 8 < s.size) (h32 : s.size ≤ 1000000) : Calls Tryz.prog 172 #[.string s, .string two] w (IanQ s w) := by
  have h8z : (8 : Int) < (s.size : Int) := by omega
  have ht2 : (two.size : Int) = 2 := rfl
  have hemp : two.toList.isEmpty = false := by rw [ByteArray.toList_eq]; rfl
  have HM := Lib.hid (mkset_two w)
  go_enter Tryz.func172, Tryz.ntmps172
  go_wp2_with (first | (go_at_call 184; go_in) | (go_at_call 185; refine HM.out.mono ?_; rintro e w1 ⟨rfl, hb1⟩))
  have hsc := run_storeCells_new (P := Tryz.prog) w1 275 Tryz.zeroCells275 (setC 2) (by rw [setC_size]; exact size_set) (by rw [setC_size]; kernel_rfl) (setC_all 2)
  simp only [Result.andThen, hsc]
  rw [Oper.upon_skip]
  clear hsc
  obtain ⟨w2, hw2⟩ : ∃ w2, w2 = w1.alloc (.cells (setC 2) 275) := ⟨_, rfl⟩
  obtain ⟨b, hb⟩ : ∃ b, b = w1.heap.size := ⟨_, rfl⟩
  have BK : Hid (Blk w2 b 275 (setC 2)) := Lib.hid (by rw [hw2]; exact Blk.new w1 _ _ hb)
  have B2 : Hid (Below w.heap.size w w2) := Lib.hid (by rw [hw2]; exact hb1.alloc hb1.size _)
  rw [← hw2, ← hb]
  clear hw2 hb hb1
  go_wp2_with fail
  go_loopg [8] s.size (fun g s8 wx => ∃ i : Nat, i + g = s.size ∧ s8 = .int .i64 (i : Int) ∧ wx = w2 ∧ Hid (NoBad s i))
  case atStart => exact ⟨0, by omega, rfl, rfl, Lib.hid (fun j _ h => absurd h (Nat.not_lt_zero _))⟩
  case round =>
    obtain ⟨i, hig, rfl, rfl, HN⟩ := hrel
    cases gk with
    | zero =>
      obtain rfl : i = s.size := by omega
      have hiz : ¬ ((s.size : Int) < (s.size : Int)) := by omega
      have HF : Hid (IanQ s w (.returned (.int .i64 (-1))) wr) := Lib.hid ⟨_, rfl, ⟨fun _ => HN.out, fun _ => by decide⟩, B2.out⟩
      go_wp2_with fail
      go_ret
      exact HF.out
    | succ g =>
      have hi : i < s.size := by omega
      have hiz : (i : Int) < (s.size : Int) := by omega
      obtain ⟨x, hx⟩ : ∃ x : UInt8, s[i]'hi = x := ⟨_, rfl⟩
      have hcell := (BK.out.cell x.toNat).trans (setC_at x)
      have Hx := Lib.hid hx
      have hr1 : i + 1 + g = s.size := by omega
      cases hin : (x == 0 || x == 10) <;> rw [hin] at hcell
      · have CC := Lib.hid (contains_any b x false wr hcell)
        have HN2 : Hid (NoBad s (i + 1)) := Lib.hid (fun j hj hlt => by
          by_cases e : j < i
          · exact HN.out j hj e
          · obtain rfl : j = i := by omega
            rw [Hx.out]
            rintro (h2 | h2) <;> subst h2 <;> exact absurd hin (by decide))
        clear hcell hin
        go_wp2_with fail
        refine CC.out.mono ?_
        rintro e w' ⟨rfl, rfl⟩
        go_wp2_with fail
        go_roundg g
        case measure => omega
        case rel => exact ⟨i + 1, hr1, by first | rfl | simp, rfl, HN2⟩
      · have CC := Lib.hid (contains_any b x true wr hcell)
        have HF : Hid (IanQ s w (.returned (.int .i64 (i : Int))) wr) := Lib.hid ⟨_, rfl, ⟨fun h => absurd h (by omega), fun h => absurd (show badC (s[i]'hi) from by
          rw [Hx.out]
          simpa [badC] using hin) (h i hi hi)⟩, B2.out⟩
        clear hcell hin
        go_wp2_with fail
        refine CC.out.mono ?_
        rintro e w' ⟨rfl, rfl⟩
        go_wp2_with fail
        go_ret
        exact HF.out
theorem iany_any (s : ByteArray) (w : World) (h32 : s.size ≤ 1000000) : Calls Tryz.prog 172 #[.string s, .string two] w (IanQ s w) := by
  by_cases h8 : s.size ≤ 8
  · exact iany_short s w h8
  · exact iany_long s w (by omega) h32
open Classical in
noncomputable def hasBad (s : ByteArray) : Bool := if NoBad s s.size then false else true
set_option maxHeartbeats 1000000 in
theorem cany_any (s : ByteArray) (w : World) (h32 : s.size ≤ 1000000) : Calls Tryz.prog 147 #[.string s, .string two] w fun e w' => e = .returned (.bool (hasBad s)) ∧ Below w.heap.size w w' := by
  have CI := Lib.hid (iany_any s w h32)
  go_enter Tryz.func147, Tryz.ntmps147
  go_wp2_with fail
  refine CI.out.mono ?_
  rintro e w1 ⟨k, rfl, hk, hb⟩
  have HB := Lib.hid hb
  by_cases h : 0 ≤ k
  · have hh : hasBad s = true := by unfold hasBad; rw [if_neg (by rw [← hk]; omega)]
    have HH := Lib.hid hh
    clear hk hb hh
    go_wp2_with fail
    go_ret
    exact ⟨by rw [HH.out]; rfl, HB.out⟩
  · have hh : hasBad s = false := by unfold hasBad; rw [if_pos (by rw [← hk]; omega)]
    have HH := Lib.hid hh
    clear hk hb hh
    go_wp2_with fail
    go_ret
    exact ⟨by rw [HH.out, ← show decide (0 ≤ k) = false from decide_eq_false (by omega)]; rfl, HB.out⟩
open Classical in
/-- may a name be? -/
noncomputable def mayB (l : List UInt8) : Bool := if 1 ≤ l.length ∧ l.length ≤ 32 ∧ ∀ c ∈ l, ¬ badC c then true else false
theorem nobad_iff (l : List UInt8) : NoBad (strB l) (strB l).size ↔ ∀ c ∈ l, ¬ badC c := by
  constructor
  · intro h c hc
    obtain ⟨i, hi, rfl⟩ := List.getElem_of_mem hc
    exact h i hi hi
  · intro h j hj _
    exact h _ (List.getElem_mem (by simpa [strB, ByteArray.size] using hj))
set_option maxHeartbeats 1000000 in
theorem may_any (l : List UInt8) : MayC l (mayB l) := by
  intro W
  have hsz : (strB l).size = l.length := rfl
  by_cases h0 : l = []
  · subst h0
    have hm : mayB [] = false := by unfold mayB; simp
    rw [hm]
    have he : (strB []).toList.isEmpty = true := by rw [ByteArray.toList_eq]; rfl
    go_enter Tryz.func101, Tryz.ntmps101
    go_wp2_with fail
    go_ret
    exact ⟨rfl, Below.refl _ _⟩
  · have he : (strB l).toList.isEmpty = false := by
      rw [ByteArray.toList_eq]
      show l.isEmpty = false
      cases l with
      | nil => exact absurd rfl h0
      | cons _ _ => rfl
    by_cases h32 : l.length ≤ 32
    · have hz : (l.length : Int) ≤ 32 := by omega
      have CC := Lib.hid (cany_any (strB l) W (by rw [hsz]; omega))
      have HM : Hid ((!hasBad (strB l)) = mayB l) := Lib.hid (by
        unfold hasBad mayB
        by_cases hb : NoBad (strB l) (strB l).size
        · rw [if_pos hb]
          have := (nobad_iff l).1 hb
          have hl : 1 ≤ l.length := by
            cases l with
            | nil => exact absurd rfl h0
            | cons _ _ => simp
          rw [if_pos ⟨hl, h32, this⟩]; rfl
        · rw [if_neg hb, if_neg (fun h => hb ((nobad_iff l).2 h.2.2))]; rfl)
      obtain ⟨bb, hbb⟩ : ∃ bb, bb = hasBad (strB l) := ⟨_, rfl⟩
      rw [← hbb] at HM CC
      clear hbb
      go_enter Tryz.func101, Tryz.ntmps101
      go_wp2_with fail
      refine CC.out.mono ?_
      rintro e w1 ⟨rfl, hb1⟩
      have HB := Lib.hid hb1
      clear hb1
      go_wp2_with fail
      go_ret
      exact ⟨by rw [← HM.out]; rfl, HB.out⟩
    · have hz : ¬ (l.length : Int) ≤ 32 := by omega
      have hm : mayB l = false := by unfold mayB; rw [if_neg (fun h => h32 h.2.1)]
      rw [hm]
      clear hm
      go_enter Tryz.func101, Tryz.ntmps101
      go_wp2_with fail
      go_ret
      exact ⟨rfl, Below.refl _ _⟩
end Go.Proofs.YtlojmmcagglpoaaGreat
