/- THE WALKS of slices.Clone at bytes and of the disk's Read (printed by a program of ours). -/
import Derived.Test.YthhbfjhgmdnpbabDiskRemove
namespace Go.Proofs.Ythhbfjhgmdnpbab
open Go.RowKit Go.Maps
attribute [local go_sem ↓] Go.wp_at_zero Go.wp_at_succ
def CloneQ (l : List UInt8) (W : World) (e : Ending) (w' : World) : Prop := ∃ v, e = .returned v ∧ OB w' W.heap.size v l ∧ Below W.heap.size W w'
set_option maxRecDepth 20000 in
theorem clone_any (W : World) (A : Option Addr) (n c : Nat) (l : List UInt8) (hr : RB W A n l) (hn : n ≤ 1000000000) : Calls Try.prog 27 #[.slice A n c] W (CloneQ l W) := by
  have HR := Lib.hid hr
  cases A with
  | none =>
    have h0 : n = 0 := by
      rcases Nat.eq_zero_or_pos n with h | h
      · exact h
      · obtain ⟨b, off, e, _⟩ := hr.2 h; cases e
    subst h0
    obtain rfl : l = [] := List.eq_nil_of_length_eq_zero hr.1
    clear hr
    have he : ∀ w : World, (binOp .eql 46 (.slice none 0 c) (.slice none 0 0)).run Try.prog w = .ok (.bool true) w := fun _ => rfl
    go_enter Try.func27, Try.ntmps27
    go_wp2_with fail
    go_ret
    exact ⟨_, rfl, OB.nil _ _, Below.refl _ _⟩
  | some a =>
    clear hr
    have he : ∀ w : World, (binOp .eql 46 (.slice (some a) n c) (.slice none 0 0)).run Try.prog w = .ok (.bool false) w := fun _ => rfl
    go_enter Try.func27, Try.ntmps27
    have O1 := Lib.hid (OB.fresh (w := W) (base := W.heap.size) (g := W.heap.size) rfl (Nat.le_refl _))
    have R1 := Lib.hid (HR.out.alloc (.cells #[] 5))
    have HS : Hid (W.heap.size ≤ (W.alloc (.cells #[] 5)).heap.size) := Lib.hid (by simp)
    go_wp2_with ((at_builtin; go_must (refine append_bytes rfl (.tmp 5) (.tmp 6) rfl W.heap.size (.slice (some ⟨W.heap.size, 0, none⟩) 0 0) [] rfl O1.out (some a) n c l rfl R1.out (by simp; omega) HS.out ?_); intro v3 w3 ho3 hg3 ha3; refine halt ?_))
    refine unhalt ?_
    have HF : Hid (CloneQ l W (.returned v3) w3) := Lib.hid ⟨v3, rfl, ho3, (Below.alloc (Below.refl _ _) (Nat.le_refl _) _).grown hg3 HS.out (fun k hk => (O1.out.lt k hk).1)⟩
    clear ho3 hg3 ha3
    go_wp2_with fail
    go_ret
    exact HF.out
/-- what Read gives -/
def ReadQ (W : World) (d : Dk) (i gen off size : Int) (e : Ending) (w' : World) : Prop :=
  Below W.heap.size W w' ∧ (((off < 0 ∨ size < 0) ∧ e = .returned (.tuple #[.slice none 0 0, .int .i64 1])) ∨ (0 ≤ off ∧ 0 ≤ size ∧ d.fs i = none ∧ e = .returned (.tuple #[.slice none 0 0, .int .i64 143])) ∨
    ∃ x, 0 ≤ off ∧ 0 ≤ size ∧ d.fs i = some x ∧ (((x.ge : Int) ≠ gen ∧ e = .returned (.tuple #[.slice none 0 0, .int .i64 144])) ∨ ((x.ge : Int) = gen ∧ ∃ v, e = .returned (.tuple #[v, .int .i64 0]) ∧ OB w' W.heap.size v ((x.by_.drop off.toNat).take size.toNat))))
set_option maxRecDepth 20000 in
set_option maxHeartbeats 1000000 in
theorem read_any {W : World} {N p q qq : Nat} {d : Dk} {bf bn bs : Nat} {fl : Int → Option Nat} (h : DW W N p q d bf bn bs fl) (hd : d.Ok qq) (i gen off size : Int) (hi : okInt i) (hoff : okInt off) (hsize : okInt size) :
    Calls Try.prog 17 #[.pointer (some ⟨p, 0, none⟩), .int .i64 i, .int .i64 gen, .int .i64 off, .int .i64 size] W (ReadQ W d i gen off size) := by
  have H := Lib.hid h; have HD := Lib.hid hd
  clear h hd
  go_enter Try.func17, Try.ntmps17
  by_cases ho : off < 0
  · have HF : Hid (ReadQ W d i gen off size (.returned (.tuple #[.slice none 0 0, .int .i64 1])) W) := Lib.hid ⟨Below.refl _ _, .inl ⟨.inl ho, rfl⟩⟩
    go_wp2_with fail
    go_ret2
    exact HF.out
  by_cases hs : size < 0
  · have HF : Hid (ReadQ W d i gen off size (.returned (.tuple #[.slice none 0 0, .int .i64 1])) W) := Lib.hid ⟨Below.refl _ _, .inl ⟨.inr hs, rfl⟩⟩
    go_wp2_with fail
    go_ret2
    exact HF.out
  have HO : Hid (0 ≤ off ∧ 0 ≤ size) := Lib.hid ⟨by omega, by omega⟩
  have c0 : W.cell? ⟨p, 0, none⟩ = some (.map (some bf)) := (H.out.bd.cell 0).trans rfl
  have l0 := H.out.mf.look_ok mrFiles intK Try.underlying53 (zero_fptr W) hi
  unfold iV' at l0
  cases hx : d.fs i with
  | none =>
    have hg : fl i = none := by
      have := H.out.hf i
      rw [hx] at this
      exact Option.isNone_iff_eq_none.1 (by simpa using this)
    rw [hg] at l0
    unfold lookV at l0
    have HF : Hid (ReadQ W d i gen off size (.returned (.tuple #[.slice none 0 0, .int .i64 143])) W) := Lib.hid ⟨Below.refl _ _, .inr (.inl ⟨HO.out.1, HO.out.2, hx, rfl⟩)⟩
    clear hx hg
    go_wp2_with fail
    go_ret2
    exact HF.out
  | some x =>
    obtain ⟨g, hg⟩ : ∃ g, fl i = some g := by
      have := H.out.hf i
      rw [hx] at this
      exact Option.isSome_iff_exists.1 this
    rw [hg] at l0
    unfold lookV pV at l0
    obtain ⟨hNg, v, hbk, ho2⟩ := H.out.fw i g x hg hx
    obtain ⟨Av, cv, rfl, hcap, hcap2, hrb⟩ := OB.form ho2
    have hlen := HD.out.len i x hx
    obtain ⟨m, hm⟩ : ∃ m, m = x.by_.length := ⟨_, rfl⟩
    have g1 : W.cell? ⟨g, 1, none⟩ = some (.slice Av m cv) := (hbk.cell 1).trans (by rw [hm]; rfl)
    have g3 : W.cell? ⟨g, 3, none⟩ = some (.int .i64 (x.ge : Int)) := (hbk.cell 3).trans rfl
    have HX := Lib.hid hx
    rw [← hm] at hcap hlen hrb
    have HM := Lib.hid hm
    have HRB := Lib.hid hrb
    clear hx hg hbk ho2 hm hrb hNg
    by_cases hge : (x.ge : Int) = gen
    · have hne : ((x.ge : Int) != gen) = false := by simp [hge]
      by_cases hom : (m : Int) ≤ off
      · have HF : Hid (ReadQ W d i gen off size (.returned (.tuple #[.slice none 0 0, .int .i64 0])) W) := Lib.hid ⟨Below.refl _ _, .inr (.inr ⟨x, HO.out.1, HO.out.2, HX.out, .inr ⟨hge, _, rfl, by
          rw [List.drop_of_length_le (by rw [← HM.out]; have := HO.out.1; omega), List.take_nil]
          exact OB.nil _ _⟩⟩)⟩
        clear hge
        go_wp2_with fail
        go_ret2
        exact HF.out
      · obtain ⟨o, rfl⟩ := Int.eq_ofNat_of_zero_le HO.out.1
        obtain ⟨s, rfl⟩ := Int.eq_ofNat_of_zero_le HO.out.2
        have hom2 : (o : Int) < (m : Int) := by omega
        have HGE := Lib.hid hge
        clear hge
        go_upto_region 10 with fail
        obtain ⟨r, hr⟩ : ∃ r, r = m - o := ⟨_, rfl⟩
        obtain ⟨k, hk⟩ : ∃ k, k = min s r := ⟨_, rfl⟩
        obtain ⟨t, ht⟩ : ∃ t, t = o + k := ⟨_, rfl⟩
        have hw1 : IntKind.i64.wrap ((m : Int) - (o : Int)) = (r : Int) := by
          rw [show ((m : Int) - (o : Int)) = (r : Int) from by omega]
          rw [IntKind.wrap_i64]; omega
        have hmin : ∀ w : World, (Builtin.min_ #[3, 3] 3 #[.int .i64 (s : Int), .int .i64 (r : Int)]).run Try.prog w = .ok (.int .i64 (k : Int)) w := by
          intro w; rw [run_min_int2]; congr 2; omega
        have hw2 : IntKind.i64.wrap ((o : Int) + (k : Int)) = (t : Int) := by
          rw [show ((o : Int) + (k : Int)) = (t : Int) from by omega]
          rw [IntKind.wrap_i64]; omega
        have hs0 : (0 : Int) ≤ (o : Int) := by omega
        have hs1 : (o : Int) ≤ (t : Int) := by omega
        have hs2 : (t : Int) ≤ (cv : Int) := by omega
        have HRK : Hid (r = m - o ∧ k = min s r ∧ t = o + k) := Lib.hid ⟨hr, hk, ht⟩
        clear hr hk ht
        refine wp_region_any (by kernel_rfl) ?_
        change wpAny _ _ _ _ _ _ _ (World.drew _)
        refine wpAny_of_held (S := fun w' => w'.cell? ⟨g, 1, none⟩ = some (.slice Av m cv)) _ _ _ _ ?_
        have hHeld : (fun w' => w'.cell? ⟨g, 1, none⟩ = some (.slice Av m cv)) W.drew := g1
        refine wpAnyH_take (i := 0) (v := ?_) rfl (by kernel_rfl) (by kernel_rfl) (by kernel_rfl) (fun _ _ _ h => h) (Or.inl ⟨by rfl, ?_⟩) (by assumption) ?_
        rotate_left 1
        · intro w hSw; (try dsimp only at hSw); go_simp <;> with_reducible rfl
        try simp only [Act.put, List.setIfInBounds_toArray, List.set_cons_zero, List.set_cons_succ, List.getElem_toArray, List.getElem_cons_zero]
        refine wpAnyH_take (i := 1) (v := ?_) rfl (by kernel_rfl) (by kernel_rfl) (by kernel_rfl) (fun _ _ _ h => h) (Or.inl ⟨by rfl, ?_⟩) (by assumption) ?_
        rotate_left 1
        · intro w hSw; (try dsimp only at hSw); go_simp <;> with_reducible rfl
        try simp only [Act.put, List.setIfInBounds_toArray, List.set_cons_zero, List.set_cons_succ, List.getElem_toArray, List.getElem_cons_zero, List.getElem_cons_succ]
        refine wpAnyH_take (i := 2) (v := ?_) rfl (by kernel_rfl) (by kernel_rfl) (by kernel_rfl) (fun _ _ _ h => h) (Or.inl ⟨by rfl, ?_⟩) (by assumption) ?_
        rotate_left 1
        · intro w hSw; (try dsimp only at hSw); go_simp <;> with_reducible rfl
        try simp only [Act.put, List.setIfInBounds_toArray, List.set_cons_zero, List.set_cons_succ, List.getElem_toArray, List.getElem_cons_zero, List.getElem_cons_succ]
        refine wpAnyH_take (i := 3) (v := ?_) rfl (by kernel_rfl) (by kernel_rfl) (by kernel_rfl) (fun _ _ _ h => h) (Or.inl ⟨by rfl, ?_⟩) (by assumption) ?_
        rotate_left 1
        · intro w hSw; (try dsimp only at hSw); go_simp <;> with_reducible rfl
        try simp only [Act.put, List.setIfInBounds_toArray, List.set_cons_zero, List.set_cons_succ, List.getElem_toArray, List.getElem_cons_zero, List.getElem_cons_succ]
        refine wpAnyH_take (i := 4) (v := ?_) rfl (by kernel_rfl) (by kernel_rfl) (by kernel_rfl) (fun _ _ _ h => h) (Or.inl ⟨by rfl, ?_⟩) (by assumption) ?_
        rotate_left 1
        · intro w hSw; (try dsimp only at hSw); go_simp <;> with_reducible rfl
        try simp only [Act.put, List.setIfInBounds_toArray, List.set_cons_zero, List.set_cons_succ, List.getElem_toArray, List.getElem_cons_zero, List.getElem_cons_succ]
        refine wpAnyH_take (i := 5) (v := ?_) rfl (by kernel_rfl) (by kernel_rfl) (by kernel_rfl) (fun _ _ _ h => h) (Or.inl ⟨by rfl, ?_⟩) (by assumption) ?_
        rotate_left 1
        · intro w hSw; (try dsimp only at hSw); go_simp <;> with_reducible rfl
        try simp only [Act.put, List.setIfInBounds_toArray, List.set_cons_zero, List.set_cons_succ, List.getElem_toArray, List.getElem_cons_zero, List.getElem_cons_succ]
        refine wpAnyH_take (i := 6) (v := ?_) rfl (by kernel_rfl) (by kernel_rfl) (by kernel_rfl) (fun _ _ _ h => h) (Or.inl ⟨by rfl, ?_⟩) (by assumption) ?_
        rotate_left 1
        · intro w hSw; (try dsimp only at hSw); go_simp <;> with_reducible rfl
        try simp only [Act.put, List.setIfInBounds_toArray, List.set_cons_zero, List.set_cons_succ, List.getElem_toArray, List.getElem_cons_zero, List.getElem_cons_succ]
        refine wpAnyH_take (i := 7) (v := ?_) rfl (by kernel_rfl) (by kernel_rfl) (by kernel_rfl) (fun _ _ _ h => h) (Or.inl ⟨by rfl, ?_⟩) (by assumption) ?_
        rotate_left 1
        · intro w hSw; (try dsimp only at hSw); go_simp <;> with_reducible rfl
        try simp only [Act.put, List.setIfInBounds_toArray, List.set_cons_zero, List.set_cons_succ, List.getElem_toArray, List.getElem_cons_zero, List.getElem_cons_succ]
        refine wpAnyH_take (i := 8) (v := ?_) rfl (by kernel_rfl) (by kernel_rfl) (by kernel_rfl) (fun _ _ _ h => h) (Or.inl ⟨by rfl, ?_⟩) (by assumption) ?_
        rotate_left 1
        · intro w hSw; (try dsimp only at hSw); go_simp <;> with_reducible rfl
        try simp only [Act.put, List.setIfInBounds_toArray, List.set_cons_zero, List.set_cons_succ, List.getElem_toArray, List.getElem_cons_zero, List.getElem_cons_succ]
        refine wpAnyH_take (i := 9) (v := ?_) rfl (by kernel_rfl) (by kernel_rfl) (by kernel_rfl) (fun _ _ _ h => h) (Or.inl ⟨by rfl, ?_⟩) (by assumption) ?_
        rotate_left 1
        · intro w hSw; (try dsimp only at hSw); go_simp <;> with_reducible rfl
        try simp only [Act.put, List.setIfInBounds_toArray, List.set_cons_zero, List.set_cons_succ, List.getElem_toArray, List.getElem_cons_zero, List.getElem_cons_succ]
        refine wpAnyH_take (i := 10) (v := ?_) rfl (by kernel_rfl) (by kernel_rfl) (by kernel_rfl) (fun _ _ _ h => h) (Or.inl ⟨by rfl, ?_⟩) (by assumption) ?_
        rotate_left 1
        · intro w hSw; (try dsimp only at hSw); go_simp <;> with_reducible rfl
        try simp only [Act.put, List.setIfInBounds_toArray, List.set_cons_zero, List.set_cons_succ, List.getElem_toArray, List.getElem_cons_zero, List.getElem_cons_succ]
        refine wpAnyH_take (i := 11) (v := ?_) rfl (by kernel_rfl) (by kernel_rfl) (by kernel_rfl) (fun _ _ _ h => h) (Or.inl ⟨by rfl, ?_⟩) (by assumption) ?_
        rotate_left 1
        · intro w hSw; (try dsimp only at hSw); go_simp <;> with_reducible rfl
        try simp only [Act.put, List.setIfInBounds_toArray, List.set_cons_zero, List.set_cons_succ, List.getElem_toArray, List.getElem_cons_zero, List.getElem_cons_succ]
        refine wpAnyH_take (i := 12) (v := ?_) rfl (by kernel_rfl) (by kernel_rfl) (by kernel_rfl) (fun _ _ _ h => h) (Or.inl ⟨by rfl, ?_⟩) (by assumption) ?_
        rotate_left 1
        · intro w hSw; (try dsimp only at hSw); go_simp <;> with_reducible rfl
        try simp only [Act.put, List.setIfInBounds_toArray, List.set_cons_zero, List.set_cons_succ, List.getElem_toArray, List.getElem_cons_zero, List.getElem_cons_succ]
        refine wpAnyH_take (i := 13) (v := ?_) rfl (by kernel_rfl) (by kernel_rfl) (by kernel_rfl) (fun _ _ _ h => h) (Or.inl ⟨by rfl, ?_⟩) (by assumption) ?_
        rotate_left 1
        · intro w hSw; (try dsimp only at hSw); go_simp <;> with_reducible rfl
        try simp only [Act.put, List.setIfInBounds_toArray, List.set_cons_zero, List.set_cons_succ, List.getElem_toArray, List.getElem_cons_zero, List.getElem_cons_succ]
        refine wpAnyH_take (i := 14) (v := ?_) rfl (by kernel_rfl) (by kernel_rfl) (by kernel_rfl) (fun _ _ _ h => h) (Or.inl ⟨by rfl, ?_⟩) (by assumption) ?_
        rotate_left 1
        · intro w hSw; (try dsimp only at hSw); go_simp <;> with_reducible rfl
        try simp only [Act.put, List.setIfInBounds_toArray, List.set_cons_zero, List.set_cons_succ, List.getElem_toArray, List.getElem_cons_zero, List.getElem_cons_succ]
        refine wpAnyH_take (i := 15) (v := ?_) rfl (by kernel_rfl) (by kernel_rfl) (by kernel_rfl) (fun _ _ _ h => h) (Or.inl ⟨by rfl, ?_⟩) (by assumption) ?_
        rotate_left 1
        · intro w hSw; (try dsimp only at hSw); go_simp <;> with_reducible rfl
        try simp only [Act.put, List.setIfInBounds_toArray, List.set_cons_zero, List.set_cons_succ, List.getElem_toArray, List.getElem_cons_zero, List.getElem_cons_succ]
        refine wpAnyH_take (i := 16) (v := ?_) rfl (by kernel_rfl) (by kernel_rfl) (by kernel_rfl) (fun _ _ _ h => h) (Or.inl ⟨by rfl, ?_⟩) (by assumption) ?_
        rotate_left 1
        · intro w hSw; (try dsimp only at hSw); go_simp <;> with_reducible rfl
        try simp only [Act.put, List.setIfInBounds_toArray, List.set_cons_zero, List.set_cons_succ, List.getElem_toArray, List.getElem_cons_zero, List.getElem_cons_succ]
        refine wpAnyH_ready (rs := [17]) (by kernel_rfl) (by simp) (AllReadyH.cons rfl (fun K hK => ?_) AllReadyH.nil)
        have hPrev := hHeld
        clear hHeld
        go_simp
        go_at_call 27
        have CL := clone_any W.drew (if cv = o then Av else Av.map (·.add o)) (t - o) (cv - o) ((x.by_.drop o).take k) (by
          have h1 := (HRB.out.drop (k := o) (by omega) (by omega : m ≤ cv)).take (k := k) (by rw [HRK.out.2.1, HRK.out.1]; omega)
          have e : t - o = k := by rw [HRK.out.2.2]; omega
          rw [e]
          exact h1) (by rw [HRK.out.2.2, HRK.out.2.1, HRK.out.1]; omega)
        refine CL.mono ?_
        rintro e w2 ⟨v2, rfl, ho2, hb2⟩
        have hb2' : Below W.heap.size W w2 := ⟨hb2.os, hb2.tape, hb2.output, hb2.size, hb2.block⟩
        have g2 : w2.cell? ⟨g, 1, none⟩ = some (.slice Av m cv) := cell_later hb2' g1
        have HF : Hid (ReadQ W d i gen o s (.returned (.tuple #[v2, .int .i64 0])) w2) := Lib.hid ⟨hb2', .inr (.inr ⟨x, HO.out.1, HO.out.2, HX.out, .inr ⟨HGE.out, v2, rfl, by
          have e : ((o : Int)).toNat = o := by omega
          have e2 : ((s : Int)).toNat = s := by omega
          rw [e, e2]
          have e3 : (x.by_.drop o).take s = (x.by_.drop o).take k := by
            rw [HRK.out.2.1, HRK.out.1, HM.out]
            rcases Nat.le_total s (x.by_.length - o) with h | h
            · rw [Nat.min_eq_left h]
            · rw [Nat.min_eq_right h, List.take_of_length_le (by rw [List.length_drop]; exact h), List.take_of_length_le (by rw [List.length_drop]; exact Nat.le_refl _)]
          rw [e3]
          exact ho2⟩⟩)⟩
        clear ho2 hb2 hb2' CL
        go_wp2_with fail
        refine hK.out _ _ (g2) (fun hHeld => ?_)
        clear hK K hPrev
        try simp only [Act.put, List.setIfInBounds_toArray, List.set_cons_zero, List.set_cons_succ, List.getElem_toArray, List.getElem_cons_zero, List.getElem_cons_succ]
        refine wpAnyH_take (i := 18) (v := ?_) rfl (by kernel_rfl) (by kernel_rfl) (by kernel_rfl) (fun _ _ _ h => h) (Or.inl ⟨by rfl, ?_⟩) (by assumption) ?_
        rotate_left 1
        · intro w hSw; (try dsimp only at hSw); go_simp <;> with_reducible rfl
        try simp only [Act.put, List.setIfInBounds_toArray, List.set_cons_zero, List.set_cons_succ, List.getElem_toArray, List.getElem_cons_zero, List.getElem_cons_succ]
        refine wpAnyH_take (i := 19) (v := ?_) rfl (by kernel_rfl) (by kernel_rfl) (by kernel_rfl) (fun _ _ _ h => h) (Or.inl ⟨by rfl, ?_⟩) (by assumption) ?_
        rotate_left 1
        · intro w hSw; (try dsimp only at hSw); go_simp <;> with_reducible rfl
        try simp only [Act.put, List.setIfInBounds_toArray, List.set_cons_zero, List.set_cons_succ, List.getElem_toArray, List.getElem_cons_zero, List.getElem_cons_succ]
        refine wpAnyH_done (by kernel_rfl) ?_ _
        clear hHeld
        go_wp2_with fail
        go_ret2
        exact HF.out
    · have hne : ((x.ge : Int) != gen) = true := by simpa using hge
      have HF : Hid (ReadQ W d i gen off size (.returned (.tuple #[.slice none 0 0, .int .i64 144])) W) := Lib.hid ⟨Below.refl _ _, .inr (.inr ⟨x, HO.out.1, HO.out.2, HX.out, .inl ⟨hge, rfl⟩⟩)⟩
      clear hge
      go_wp2_with fail
      go_ret2
      exact HF.out
end Go.Proofs.Ythhbfjhgmdnpbab
