/- THE WALK of steps (FollowPlays; printed by a program of ours). -/
import Derived.Test.YtlojmmcagglpoaaGreatUTk
import Derived.Test.YtlojmmcagglpoaaGreatUDiskC
import Derived.Test.YtlojmmcagglpoaaGreatUFpBegin
import Derived.Laws.StructEq
import Derived.Deep.MidRow
namespace Go.Proofs.YtlojmmcagglpoaaGreat
open Go.RowKit Go.Maps
attribute [local go_sem ↓] Go.wp_at_zero Go.wp_at_succ
def lineX (b0 b1 b2 b3 b4 b5 b6 b7 b8 : Int) (tx : ByteArray) : Array Value := #[.int .i64 b0, .int .i64 b1, .int .i64 b2, .int .i64 b3, .int .i64 b4, .int .i64 b5, .int .i64 b6, .int .i64 b7, .int .i64 b8, .string tx]
theorem lineX_one (b0 b1 b2 b3 b4 b5 b6 b7 b8 : Int) (tx : ByteArray) : (lineX b0 b1 b2 b3 b4 b5 b6 b7 b8 tx).all (·.oneCell') = true := by
  unfold lineX; simp [Value.oneCell']
theorem chg_setCells (b : Nat) : ∀ (vs : List Value) (o : Nat) (w : World), Chg (fun q => q = b) w (w.setCells b o vs)
  | [], _, w => Chg.refl _ w
  | v :: vs, o, w => by
    refine ((Chg.refl (fun q => q = b) w).setCell (p := ⟨b, o, none⟩) (.inl rfl) v).trans (chg_setCells b vs (o + 1) _) (fun _ _ e => e)
theorem lineO_form (f : FwS) (oo : Option (List UInt8)) : ∃ (b0 b1 b2 b3 b4 b5 b6 b7 b8 : Int) (tx : ByteArray), lineO f oo = #[.int .i64 b0, .int .i64 b1, .int .i64 b2, .int .i64 b3, .int .i64 b4, .int .i64 b5, .int .i64 b6, .int .i64 b7, .int .i64 b8, .string tx] := by
  cases oo with
  | none => exact ⟨0, 0, 0, 0, 0, 0, 0, 0, 0, _, rfl⟩
  | some l => exact ⟨_, _, _, _, _, _, _, _, _, _, rfl⟩
theorem eql_mark0 (b0 b1 b2 b3 b4 b5 b6 b7 b8 : Int) (fu : Nat) (hfu : 10 ≤ fu) (w : World) : (Op.equalIn fu 100 (.agg #[.int .i64 b0, .int .i64 b1, .int .i64 b2, .int .i64 b3, .int .i64 b4, .int .i64 b5, .int .i64 b6, .int .i64 b7, .int .i64 b8]) (.agg #[.int .i64 b0, .int .i64 b1, .int .i64 b2, .int .i64 b3, .int .i64 b4, .int .i64 b5, .int .i64 b6, .int .i64 b7, .int .i64 b8])).run Tryz.prog w = .ok true w := by
  obtain ⟨f2, rfl⟩ : ∃ f2, fu = f2 + 1 + 1 + 1 := ⟨fu - 3, by omega⟩
  have u3 := Tryz.underlying3
  have hS : Tryz.prog.underlying 100 = some (.struct (Tryz.prog.fieldsOf 100)) := by kernel_rfl
  have hp : Tryz.prog.stoodInHeld 100 = false := by kernel_rfl
  have hS2 : Tryz.prog.underlying 98 = some (.struct (Tryz.prog.fieldsOf 98)) := by kernel_rfl
  have hp2 : Tryz.prog.stoodInHeld 98 = false := by kernel_rfl
  have hL := fun xs ys w => run_equalIn_agg (P := Tryz.prog) w (f2 + 1) 98 xs ys hS2 hp2
  rw [run_equalIn_agg w (f2 + 1 + 1) 100 _ _ hS hp]
  simp only [Program.fieldsOf, Tryz.underlying100, Tryz.underlying98] at hL ⊢
  clear hS hp hS2 hp2
  go_simp
theorem neq_mark0 (b0 b1 b2 b3 b4 b5 b6 b7 b8 : Int) (w : World) : (binOp .neq 100 (.agg #[.int .i64 b0, .int .i64 b1, .int .i64 b2, .int .i64 b3, .int .i64 b4, .int .i64 b5, .int .i64 b6, .int .i64 b7, .int .i64 b8]) (.agg #[.int .i64 b0, .int .i64 b1, .int .i64 b2, .int .i64 b3, .int .i64 b4, .int .i64 b5, .int .i64 b6, .int .i64 b7, .int .i64 b8])).run Tryz.prog w = .ok (.bool false) w := by
  rw [run_neq_struct, eql_mark0 _ _ _ _ _ _ _ _ _ _ (by decide)]; rfl
theorem eql_line0 (b0 b1 b2 b3 b4 b5 b6 b7 b8 : Int) (tx : ByteArray) (w : World) : (Op.equalIn 10000 170 (.agg #[.int .i64 b0, .int .i64 b1, .int .i64 b2, .int .i64 b3, .int .i64 b4, .int .i64 b5, .int .i64 b6, .int .i64 b7, .int .i64 b8, .string tx]) (.agg #[.int .i64 b0, .int .i64 b1, .int .i64 b2, .int .i64 b3, .int .i64 b4, .int .i64 b5, .int .i64 b6, .int .i64 b7, .int .i64 b8, .string tx])).run Tryz.prog w = .ok true w := by
  have uS := Tryz.underlying9
  have hS : Tryz.prog.underlying 170 = some (.struct (Tryz.prog.fieldsOf 170)) := by kernel_rfl
  have hp : Tryz.prog.stoodInHeld 170 = false := by kernel_rfl
  have hM := fun w => eql_mark0 b0 b1 b2 b3 b4 b5 b6 b7 b8 9999 (by decide) w
  rw [show (10000 : Nat) = 9999 + 1 from rfl, run_equalIn_agg w 9999 170 _ _ hS hp]
  simp only [Program.fieldsOf, Tryz.underlying170] at ⊢
  clear hS hp
  go_simp
theorem neq_line0 (b0 b1 b2 b3 b4 b5 b6 b7 b8 : Int) (tx : ByteArray) (w : World) : (binOp .neq 170 (.agg #[.int .i64 b0, .int .i64 b1, .int .i64 b2, .int .i64 b3, .int .i64 b4, .int .i64 b5, .int .i64 b6, .int .i64 b7, .int .i64 b8, .string tx]) (.agg #[.int .i64 b0, .int .i64 b1, .int .i64 b2, .int .i64 b3, .int .i64 b4, .int .i64 b5, .int .i64 b6, .int .i64 b7, .int .i64 b8, .string tx])).run Tryz.prog w = .ok (.bool false) w := by
  rw [run_neq_struct, eql_line0]; rfl
def StpsQ (w0 : World) (P : Nat) (li : Int) (k : FwK) (m : FwS) (p n : Nat) (d : Dk) (q : Nat) (r : Rd) (B : Nat) (e : Ending) (w' : World) : Prop := e = .returned (.bool true) ∧ ∃ C' x', GS w0 w' C' (LF w0 P li k m p n d q r (some x')) ∧ InvF li k (some x') B
set_option maxRecDepth 20000 in
set_option maxHeartbeats 8000000 in
theorem steps_any {w0 W : World} {C : Nat → Nat} {P p n q B : Nat} {li : Int} {k : FwK} {m : FwS} {d : Dk} {r : Rd} {x : Fo} (hG : GS w0 W C (LF w0 P li k m p n d q r (some x))) (al : Alike d r n) (hI : InvF li k (some x) B) (hB : B ≤ 100000000) (nn : Int) : Calls Tryz.prog 39 #[.pointer (some ⟨P, 0, none⟩), .int .i64 nn] W (StpsQ w0 P li k m p n d q r (B + 30)) := by
  have G0 : Hid (∃ C x, GS w0 W C (LF w0 P li k m p n d q r (some x)) ∧ InvF li k (some x) (B + 0)) := Lib.hid ⟨C, x, hG, hI⟩
  have HAL := Lib.hid al
  have HB := Lib.hid hB
  clear hG hI al hB
  go_enter Tryz.func39, Tryz.ntmps39
  go_upto_region 2 with fail
  go_loopw [5] (fun s5 W => ∃ i : Nat, s5 = .int .i64 (i : Int) ∧ i ≤ 30 ∧ Hid (∃ C x, GS w0 W C (LF w0 P li k m p n d q r (some x)) ∧ InvF li k (some x) (B + i))) (fun s5 _ => 30 - (intOf s5).toNat)
  case atStart => exact ⟨0, rfl, Nat.zero_le _, G0⟩
  case round =>
   as_aux_lemma =>
    obtain ⟨i, rfl, hi30, HR⟩ := hrel
    clear G0
    go_upto_region 2 with fail
    go_cut [16] (fun s wx => ∃ b : Bool, s = .bool b ∧ (b = true → i < 30) ∧ wx = wr)
    case first =>
      by_cases hlt : (i : Int) < nn
      · by_cases h80 : i < 30
        · go_wp2_with fail
          go_meet
          exact ⟨true, by rw [decide_eq_true (by omega)], fun _ => h80, rfl⟩
        · go_wp2_with fail
          go_meet
          exact ⟨false, by rw [decide_eq_false (by omega)], fun e => (by cases e), rfl⟩
      · go_wp2_with fail
        go_meet
        exact ⟨false, rfl, fun e => (by cases e), rfl⟩
    case rest =>
     as_aux_lemma =>
      obtain ⟨b, rfl, hb0, hcut⟩ := hcut
      rw [hcut]
      clear hcut wc
      cases b
      case false =>
        have HF : Hid (StpsQ w0 P li k m p n d q r (B + 30) (.returned (.bool true)) wr) := Lib.hid (by
          obtain ⟨C, x, h1, h2⟩ := HR.out
          exact ⟨rfl, C, x, h1, h2.more (by omega)⟩)
        go_wp2_with fail
        go_ret
        exact HF.out
      case true =>
       as_aux_lemma =>
        have h30 := hb0 rfl
        clear hb0
        obtain ⟨C, x, hG, hI⟩ := HR.out
        clear HR
        have GG := Lib.hid hG
        have HI := Lib.hid hI
        obtain ⟨hi1, hi2, hi3, hi4, hi5, hi6, hi7, hi8⟩ := hI x rfl
        have HN := Lib.hid (stepF_ok (k := k) (S := d.sti) (I := d.ini) (R := d.read) (GS.dok hG).asks hi6 hi7)
        have HH : Hid (1 ≤ k.ch ∧ k.ch ≤ 4096 ∧ x.f.u.length ≤ 1048576 ∧ k.line ≤ 4096 ∧ x.f.lc ≤ 1000000000 ∧ x.f.Ok) := Lib.hid ⟨hi4, hi5, hi7, hi3, by have := HB.out; omega, hi6⟩
        have HLK : Hid (li = (k.line : Int) ∧ 1 ≤ k.line ∧ x.f.lc ≤ B + i) := Lib.hid ⟨hi1, hi2, hi8⟩
        clear hG hI hi1 hi2 hi3 hi4 hi5 hi6 hi7 hi8
        obtain ⟨⟨y, oo⟩, hy⟩ : ∃ z, z = stepF d.sti d.ini d.read k x.f := ⟨_, rfl⟩
        have HY := Lib.hid hy
        obtain ⟨b0, b1, b2, b3, b4, b5, b6, b7, b8, tx, hlo⟩ := lineO_form x.f oo
        obtain ⟨wb, hwb⟩ : ∃ wb, wb = oo.isSome := ⟨_, rfl⟩
        have CG : Hid (∀ w C', GS w0 w C' (LF w0 P li k m p n d q r (some x)) → Calls Tryz.prog 91 #[.pointer (some ⟨x.gb, 0, none⟩), .pointer (some ⟨q, 0, none⟩)] w fun e w' => e = .returned (.tuple #[.agg #[.int .i64 b0, .int .i64 b1, .int .i64 b2, .int .i64 b3, .int .i64 b4, .int .i64 b5, .int .i64 b6, .int .i64 b7, .int .i64 b8, .string tx], .bool wb]) ∧ GPp k (some { x with f := y }) w' (paint C' w.heap.size 4) ∧ Chg (fun b => C' b = 4) w w') := Lib.hid (fun w C' h => by
          have h1 := GPp.stepC (h.at_ (k := 3) rfl : GPp k (some x) w C') HAL.out (GS.dok h) (h.at_ (k := 1) rfl : RC w w0.heap.size C' 2 q r) HH.out.2.2.2.2.2 HH.out.1 HH.out.2.1 HH.out.2.2.1 HH.out.2.2.2.1 HH.out.2.2.2.2.1
          rw [← hy] at h1
          simp only at h1
          rw [hlo, ← hwb] at h1
          exact h1)
        have CF : Hid (∀ w C', FPp k (some x) w C' → DC w w0.heap.size C' 1 p n d → Calls Tryz.prog 87 #[.pointer (some ⟨x.fl, 0, none⟩), .pointer (some ⟨p, 0, none⟩)] w fun e w' => e = .returned (.tuple #[.agg #[.int .i64 b0, .int .i64 b1, .int .i64 b2, .int .i64 b3, .int .i64 b4, .int .i64 b5, .int .i64 b6, .int .i64 b7, .int .i64 b8, .string tx], .bool wb]) ∧ FPp k (some { x with f := y }) w' (paint C' w.heap.size 3) ∧ Chg (fun b => C' b = 3) w w') := Lib.hid (fun w C' h1 h2 => by
          have h3 := FPp.stepC h1 h2 HH.out.2.2.2.2.2 HH.out.1 HH.out.2.1 HH.out.2.2.1 HH.out.2.2.2.1 HH.out.2.2.2.2.1
          rw [← hy] at h3
          simp only at h3
          rw [hlo, ← hwb] at h3
          exact h3)
        rw [← hy] at HN
        simp only at HN
        clear hy hlo hwb
        have HPA : Hid (∀ w C' (x' : Fo), x'.gb = x.gb → x'.fl = x.fl → PPp P li k m p q (some x') w C' → (fun w' => w'.cell? ⟨P, 16, none⟩ = some (.pointer (some ⟨x.gb, 0, none⟩)) ∧ w'.cell? ⟨P, 14, none⟩ = some (.pointer (some ⟨q, 0, none⟩))) w ∧ (fun w' => w'.cell? ⟨P, 15, none⟩ = some (.pointer (some ⟨x.fl, 0, none⟩)) ∧ w'.cell? ⟨P, 13, none⟩ = some (.pointer (some ⟨p, 0, none⟩))) w) := Lib.hid (fun w C' x' e1 e2 h => by
          have c13 := (h.1.cell 13).trans rfl
          have c14 := (h.1.cell 14).trans rfl
          have c15 : w.cell? ⟨P, 15, none⟩ = some (.pointer (some ⟨x'.fl, 0, none⟩)) := (h.1.cell 15).trans rfl
          have c16 : w.cell? ⟨P, 16, none⟩ = some (.pointer (some ⟨x'.gb, 0, none⟩)) := (h.1.cell 16).trans rfl
          rw [e2] at c15
          rw [e1] at c16
          exact ⟨⟨c16, c14⟩, ⟨c15, c13⟩⟩)
        go_upto_region 4 with fail
        go_cut [6, 7] (fun s6 s7 wx => ∃ g C', s6 = .pointer (some ⟨g, 0, none⟩) ∧ s7 = .bool wb ∧ Hid (GS w0 wx C' [DCp w0 1 p n d, RCp w0 2 q r, FPp k (some x), GPp k (some { x with f := y }), PPp P li k m p q (some x)]) ∧ Hid (Blk wx g 170 #[.int .i64 b0, .int .i64 b1, .int .i64 b2, .int .i64 b3, .int .i64 b4, .int .i64 b5, .int .i64 b6, .int .i64 b7, .int .i64 b8, .string tx]) ∧ Hid (C' g = 6))
        case first =>
         as_aux_lemma =>
          refine wp_region_any (by kernel_rfl) ?_
          change wpAny _ _ _ _ _ _ _ (World.drew _)
          refine wpAny_of_held (S := fun w' => w'.cell? ⟨P, 16, none⟩ = some (.pointer (some ⟨x.gb, 0, none⟩)) ∧ w'.cell? ⟨P, 14, none⟩ = some (.pointer (some ⟨q, 0, none⟩))) _ _ _ _ ?_
          obtain ⟨wd, hwd⟩ : ∃ wd, wd = wr.drew := ⟨_, rfl⟩
          have BD : Hid (Below wr.heap.size wr wd) := Lib.hid (by rw [hwd]; exact (Below.refl _ _).drew)
          rw [← hwd]
          clear hwd
          have Gd : Hid (GS w0 wd C [DCp w0 1 p n d, RCp w0 2 q r, FPp k (some x), GPp k (some x), PPp P li k m p q (some x)]) := Lib.hid (GG.out.keep BD.out)
          have hHeld : (fun w' => w'.cell? ⟨P, 16, none⟩ = some (.pointer (some ⟨x.gb, 0, none⟩)) ∧ w'.cell? ⟨P, 14, none⟩ = some (.pointer (some ⟨q, 0, none⟩))) wd := (HPA.out _ _ x rfl rfl (Gd.out.at_ (k := 4) rfl : PPp P li k m p q (some x) wd C)).1
          refine tkh 0 (v := ?_) rfl ?_ ?_; rotate_left
          · intro w hSw; (try dsimp only at hSw); go_simp <;> with_reducible rfl
          try simp only [Act.put, pz]
          refine tkh 1 (v := ?_) rfl ?_ ?_; rotate_left
          · intro w hSw; (try dsimp only at hSw); go_simp <;> with_reducible rfl
          try simp only [Act.put, pz]
          refine tkh 2 (v := ?_) rfl ?_ ?_; rotate_left
          · intro w hSw; (try dsimp only at hSw); go_simp <;> with_reducible rfl
          try simp only [Act.put, pz]
          refine tkh 3 (v := ?_) rfl ?_ ?_; rotate_left
          · intro w hSw; obtain ⟨q0, q1⟩ := hSw; go_simp <;> with_reducible rfl
          try simp only [Act.put, pz]
          refine tkh 4 (v := ?_) rfl ?_ ?_; rotate_left
          · intro w hSw; (try dsimp only at hSw); go_simp <;> with_reducible rfl
          try simp only [Act.put, pz]
          refine tkh 5 (v := ?_) rfl ?_ ?_; rotate_left
          · intro w hSw; (try dsimp only at hSw); go_simp <;> with_reducible rfl
          try simp only [Act.put, pz]
          refine tkh 6 (v := ?_) rfl ?_ ?_; rotate_left
          · intro w hSw; (try dsimp only at hSw); go_simp <;> with_reducible rfl
          try simp only [Act.put, pz]
          refine tkh 7 (v := ?_) rfl ?_ ?_; rotate_left
          · intro w hSw; obtain ⟨q0, q1⟩ := hSw; go_simp <;> with_reducible rfl
          try simp only [Act.put, pz]
          refine wpAnyH_ready (rs := [8, 12]) (by kernel_rfl) (by simp) (AllReadyH.cons rfl (fun K hK => ?_) (AllReadyH.cons rfl (fun K hK => ?_) AllReadyH.nil))
          ·
            have hPrev := hHeld
            clear hHeld
            have C1 := Lib.hid (CG.out _ _ Gd.out)
            go_simp
            refine C1.out.mono ?_
            rintro e w2 ⟨rfl, hg2, hc2⟩
            have G2 : Hid (GS w0 w2 (paint C wd.heap.size 4) [DCp w0 1 p n d, RCp w0 2 q r, FPp k (some x), GPp k (some { x with f := y }), PPp P li k m p q (some x)]) := Lib.hid (Gd.out.turn (k := 3) (by simp) hc2 hg2 (Stb.gpp _ _) rfl)
            obtain ⟨C2, hC2⟩ : ∃ C2, C2 = paint C wd.heap.size 4 := ⟨_, rfl⟩
            rw [← hC2] at G2
            clear hg2 hc2 C1 hC2
            refine hK.out _ _ ((HPA.out _ _ x rfl rfl (G2.out.at_ (k := 4) rfl : PPp P li k m p q (some x) w2 C2)).1) (fun hHeld => ?_)
            clear hK K hPrev
            try simp only [Act.put, pz]
            refine tkh 9 (v := ?_) rfl ?_ ?_; rotate_left
            · intro w hSw; (try dsimp only at hSw); go_simp <;> with_reducible rfl
            try simp only [Act.put, pz]
            refine tkh 10 (v := ?_) rfl ?_ ?_; rotate_left
            · intro w hSw; (try dsimp only at hSw); go_simp <;> with_reducible rfl
            try simp only [Act.put, pz]
            refine tkh 11 (v := ?_) rfl ?_ ?_; rotate_left
            · intro w hSw; (try dsimp only at hSw); go_simp <;> with_reducible rfl
            try simp only [Act.put, pz]
            refine wpAnyH_ready (rs := [12]) (by kernel_rfl) (by simp) (AllReadyH.cons rfl (fun K hK => ?_) AllReadyH.nil)
            have hPrev := hHeld
            clear hHeld
            obtain ⟨w2a, hw2a⟩ : ∃ w2a, w2a = w2.alloc (.cells #[.int .i64 0, .int .i64 0, .int .i64 0, .int .i64 0, .int .i64 0, .int .i64 0, .int .i64 0, .int .i64 0, .int .i64 0, .string { data := #[] }] 170) := ⟨_, rfl⟩
            obtain ⟨g, hg⟩ : ∃ g, g = w2.heap.size := ⟨_, rfl⟩
            have Bw2a : Hid (Below w2.heap.size w2 w2a) := Lib.hid (by rw [hw2a]; exact (Below.refl _ _).alloc (Nat.le_refl _) _)
            have Kw2a : Hid (Blk w2a g 170 zeroL) := Lib.hid (by rw [hw2a]; exact Blk.new w2 _ _ hg)
            have HGg : Hid (w2.heap.size ≤ g) := Lib.hid (by omega)
            have G2a : Hid (GS w0 w2a (paint C2 w2.heap.size 6) [DCp w0 1 p n d, RCp w0 2 q r, FPp k (some x), GPp k (some { x with f := y }), PPp P li k m p q (some x)]) := Lib.hid (G2.out.keep2 Bw2a.out (sam_paint _ _ _))
            obtain ⟨C2a, hC2a⟩ : ∃ C2a, C2a = paint C2 w2.heap.size 6 := ⟨_, rfl⟩
            have HCg : Hid (C2a g = 6) := Lib.hid (by rw [hC2a]; exact paint_new _ _ HGg.out)
            rw [← hC2a] at G2a
            go_simp
            rw [← hw2a, ← hg]
            clear hw2a hg hC2a
            refine hK.out _ _ ((HPA.out _ _ x rfl rfl (G2a.out.at_ (k := 4) rfl : PPp P li k m p q (some x) w2a C2a)).1) (fun hHeld => ?_)
            clear hK K hPrev Bw2a
            try simp only [Act.put, pz]
            refine wpAnyH_ready (rs := [13]) (by kernel_rfl) (by simp) (AllReadyH.cons rfl (fun K hK => ?_) AllReadyH.nil)
            have hPrev := hHeld
            clear hHeld
            obtain ⟨w3, hw3⟩ : ∃ w3, w3 = w2a.setCells g 0 (lineX b0 b1 b2 b3 b4 b5 b6 b7 b8 tx).toList := ⟨_, rfl⟩
            have Kw3 : Hid (Blk w3 g 170 #[.int .i64 b0, .int .i64 b1, .int .i64 b2, .int .i64 b3, .int .i64 b4, .int .i64 b5, .int .i64 b6, .int .i64 b7, .int .i64 b8, .string tx]) := Lib.hid (by rw [hw3]; exact Kw2a.out.setAll _ rfl)
            have BZw3 : Hid (Chg (fun b => b = g) w2a w3) := Lib.hid (by rw [hw3]; exact chg_setCells _ _ _ _)
            have G3 : Hid (GS w0 w3 C2a [DCp w0 1 p n d, RCp w0 2 q r, FPp k (some x), GPp k (some { x with f := y }), PPp P li k m p q (some x)]) := Lib.hid (G2a.out.other (c := 6) (by simp) (BZw3.out.mono (fun b _ e => by rw [show b = g from e]; exact HCg.out)) (Sam.refl _ _))
            refine wp_store_mid 170 (.tmp 6) (.tmp 29) rfl g 0 (lineX b0 b1 b2 b3 b4 b5 b6 b7 b8 tx) rfl rfl (there_blk Kw2a.out 10 (by decide)) (by kernel_rfl) (lineX_one _ _ _ _ _ _ _ _ _ _) ?_
            rw [← hw3]
            clear hw3
            refine hK.out _ _ ((HPA.out _ _ x rfl rfl (G3.out.at_ (k := 4) rfl : PPp P li k m p q (some x) w3 C2a)).1) (fun hHeld => ?_)
            clear hK K hPrev
            try simp only [Act.put, pz]
            refine tkh 14 (v := ?_) rfl ?_ ?_; rotate_left
            · intro w hSw; (try dsimp only at hSw); go_simp <;> with_reducible rfl
            try simp only [Act.put, pz]
            refine wpAnyH_done (by kernel_rfl) ?_ _
            clear hHeld
            go_wp2_with fail
            go_meet
            exact ⟨g, C2a, rfl, rfl, G3, Kw3, HCg⟩
          ·
            have hPrev := hHeld
            clear hHeld
            obtain ⟨wda, hwda⟩ : ∃ wda, wda = wd.alloc (.cells #[.int .i64 0, .int .i64 0, .int .i64 0, .int .i64 0, .int .i64 0, .int .i64 0, .int .i64 0, .int .i64 0, .int .i64 0, .string { data := #[] }] 170) := ⟨_, rfl⟩
            obtain ⟨g, hg⟩ : ∃ g, g = wd.heap.size := ⟨_, rfl⟩
            have Bwda : Hid (Below wd.heap.size wd wda) := Lib.hid (by rw [hwda]; exact (Below.refl _ _).alloc (Nat.le_refl _) _)
            have Kwda : Hid (Blk wda g 170 zeroL) := Lib.hid (by rw [hwda]; exact Blk.new wd _ _ hg)
            have HGg : Hid (wd.heap.size ≤ g) := Lib.hid (by omega)
            have Gda : Hid (GS w0 wda (paint C wd.heap.size 6) [DCp w0 1 p n d, RCp w0 2 q r, FPp k (some x), GPp k (some x), PPp P li k m p q (some x)]) := Lib.hid (Gd.out.keep2 Bwda.out (sam_paint _ _ _))
            obtain ⟨Ca, hCa⟩ : ∃ Ca, Ca = paint C wd.heap.size 6 := ⟨_, rfl⟩
            have HCg : Hid (Ca g = 6) := Lib.hid (by rw [hCa]; exact paint_new _ _ HGg.out)
            rw [← hCa] at Gda
            go_simp
            rw [← hwda, ← hg]
            clear hwda hg hCa
            refine hK.out _ _ ((HPA.out _ _ x rfl rfl (Gda.out.at_ (k := 4) rfl : PPp P li k m p q (some x) wda Ca)).1) (fun hHeld => ?_)
            clear hK K hPrev Bwda
            try simp only [Act.put, pz]
            refine wpAnyH_ready (rs := [8]) (by kernel_rfl) (by simp) (AllReadyH.cons rfl (fun K hK => ?_) AllReadyH.nil)
            have hPrev := hHeld
            clear hHeld
            have C1 := Lib.hid (CG.out _ _ Gda.out)
            go_simp
            refine C1.out.mono ?_
            rintro e w2 ⟨rfl, hg2, hc2⟩
            have G2 : Hid (GS w0 w2 (paint Ca wda.heap.size 4) [DCp w0 1 p n d, RCp w0 2 q r, FPp k (some x), GPp k (some { x with f := y }), PPp P li k m p q (some x)]) := Lib.hid (Gda.out.turn (k := 3) (by simp) hc2 hg2 (Stb.gpp _ _) rfl)
            obtain ⟨C2, hC2⟩ : ∃ C2, C2 = paint Ca wda.heap.size 4 := ⟨_, rfl⟩
            rw [← hC2] at G2
            have Kcg := Lib.hid (Kwda.out.chg hc2 (fun e => by rw [HCg.out] at e; cases e))
            have HCcg : Hid (C2 g = 6) := Lib.hid (by rw [hC2, paint_old _ _ Kwda.out.lt]; exact HCg.out)
            clear hg2 hc2 C1 hC2
            refine hK.out _ _ ((HPA.out _ _ x rfl rfl (G2.out.at_ (k := 4) rfl : PPp P li k m p q (some x) w2 C2)).1) (fun hHeld => ?_)
            clear hK K hPrev
            try simp only [Act.put, pz]
            refine tkh 9 (v := ?_) rfl ?_ ?_; rotate_left
            · intro w hSw; (try dsimp only at hSw); go_simp <;> with_reducible rfl
            try simp only [Act.put, pz]
            refine tkh 10 (v := ?_) rfl ?_ ?_; rotate_left
            · intro w hSw; (try dsimp only at hSw); go_simp <;> with_reducible rfl
            try simp only [Act.put, pz]
            refine tkh 11 (v := ?_) rfl ?_ ?_; rotate_left
            · intro w hSw; (try dsimp only at hSw); go_simp <;> with_reducible rfl
            try simp only [Act.put, pz]
            have HCg := HCcg
            refine wpAnyH_ready (rs := [13]) (by kernel_rfl) (by simp) (AllReadyH.cons rfl (fun K hK => ?_) AllReadyH.nil)
            have hPrev := hHeld
            clear hHeld
            obtain ⟨w3, hw3⟩ : ∃ w3, w3 = w2.setCells g 0 (lineX b0 b1 b2 b3 b4 b5 b6 b7 b8 tx).toList := ⟨_, rfl⟩
            have Kw3 : Hid (Blk w3 g 170 #[.int .i64 b0, .int .i64 b1, .int .i64 b2, .int .i64 b3, .int .i64 b4, .int .i64 b5, .int .i64 b6, .int .i64 b7, .int .i64 b8, .string tx]) := Lib.hid (by rw [hw3]; exact Kcg.out.setAll _ rfl)
            have BZw3 : Hid (Chg (fun b => b = g) w2 w3) := Lib.hid (by rw [hw3]; exact chg_setCells _ _ _ _)
            have G3 : Hid (GS w0 w3 C2 [DCp w0 1 p n d, RCp w0 2 q r, FPp k (some x), GPp k (some { x with f := y }), PPp P li k m p q (some x)]) := Lib.hid (G2.out.other (c := 6) (by simp) (BZw3.out.mono (fun b _ e => by rw [show b = g from e]; exact HCg.out)) (Sam.refl _ _))
            refine wp_store_mid 170 (.tmp 6) (.tmp 29) rfl g 0 (lineX b0 b1 b2 b3 b4 b5 b6 b7 b8 tx) rfl rfl (there_blk Kcg.out 10 (by decide)) (by kernel_rfl) (lineX_one _ _ _ _ _ _ _ _ _ _) ?_
            rw [← hw3]
            clear hw3
            refine hK.out _ _ ((HPA.out _ _ x rfl rfl (G3.out.at_ (k := 4) rfl : PPp P li k m p q (some x) w3 C2)).1) (fun hHeld => ?_)
            clear hK K hPrev
            try simp only [Act.put, pz]
            refine tkh 14 (v := ?_) rfl ?_ ?_; rotate_left
            · intro w hSw; (try dsimp only at hSw); go_simp <;> with_reducible rfl
            try simp only [Act.put, pz]
            refine wpAnyH_done (by kernel_rfl) ?_ _
            clear hHeld
            go_wp2_with fail
            go_meet
            exact ⟨g, C2, rfl, rfl, G3, Kw3, HCg⟩
        case rest =>
         as_aux_lemma =>
          obtain ⟨g, C3, rfl, rfl, G3, K3, HCg⟩ := hcut
          obtain ⟨w3, rfl⟩ : ∃ w3, w3 = wc := ⟨_, rfl⟩
          clear GG CG
          go_upto_region 5 with fail
          go_cut [8, 9] (fun s8 s9 wx => ∃ gq C', s8 = .pointer (some ⟨gq, 0, none⟩) ∧ s9 = .bool wb ∧ Hid (GS w0 wx C' [DCp w0 1 p n d, RCp w0 2 q r, FPp k (some { x with f := y }), GPp k (some { x with f := y }), PPp P li k m p q (some x)]) ∧ Hid (Blk wx gq 170 #[.int .i64 b0, .int .i64 b1, .int .i64 b2, .int .i64 b3, .int .i64 b4, .int .i64 b5, .int .i64 b6, .int .i64 b7, .int .i64 b8, .string tx]) ∧ Hid (Blk wx g 170 #[.int .i64 b0, .int .i64 b1, .int .i64 b2, .int .i64 b3, .int .i64 b4, .int .i64 b5, .int .i64 b6, .int .i64 b7, .int .i64 b8, .string tx]) ∧ Hid (C' gq = 6) ∧ Hid (C' g = 6))
          case first =>
           as_aux_lemma =>
            refine wp_region_any (by kernel_rfl) ?_
            change wpAny _ _ _ _ _ _ _ (World.drew _)
            refine wpAny_of_held (S := fun w' => w'.cell? ⟨P, 15, none⟩ = some (.pointer (some ⟨x.fl, 0, none⟩)) ∧ w'.cell? ⟨P, 13, none⟩ = some (.pointer (some ⟨p, 0, none⟩))) _ _ _ _ ?_
            obtain ⟨wd, hwd⟩ : ∃ wd, wd = w3.drew := ⟨_, rfl⟩
            have BD : Hid (Below w3.heap.size w3 wd) := Lib.hid (by rw [hwd]; exact (Below.refl _ _).drew)
            rw [← hwd]
            clear hwd
            have Gd : Hid (GS w0 wd C3 [DCp w0 1 p n d, RCp w0 2 q r, FPp k (some x), GPp k (some { x with f := y }), PPp P li k m p q (some x)]) := Lib.hid (G3.out.keep BD.out)
            have Kdg := Lib.hid (K3.out.keep BD.out)
            have hHeld : (fun w' => w'.cell? ⟨P, 15, none⟩ = some (.pointer (some ⟨x.fl, 0, none⟩)) ∧ w'.cell? ⟨P, 13, none⟩ = some (.pointer (some ⟨p, 0, none⟩))) wd := (HPA.out _ _ x rfl rfl (Gd.out.at_ (k := 4) rfl : PPp P li k m p q (some x) wd C3)).2
            refine tkh 0 (v := ?_) rfl ?_ ?_; rotate_left
            · intro w hSw; (try dsimp only at hSw); go_simp <;> with_reducible rfl
            try simp only [Act.put, pz]
            refine tkh 1 (v := ?_) rfl ?_ ?_; rotate_left
            · intro w hSw; (try dsimp only at hSw); go_simp <;> with_reducible rfl
            try simp only [Act.put, pz]
            refine tkh 2 (v := ?_) rfl ?_ ?_; rotate_left
            · intro w hSw; (try dsimp only at hSw); go_simp <;> with_reducible rfl
            try simp only [Act.put, pz]
            refine tkh 3 (v := ?_) rfl ?_ ?_; rotate_left
            · intro w hSw; obtain ⟨q0, q1⟩ := hSw; go_simp <;> with_reducible rfl
            try simp only [Act.put, pz]
            refine tkh 4 (v := ?_) rfl ?_ ?_; rotate_left
            · intro w hSw; (try dsimp only at hSw); go_simp <;> with_reducible rfl
            try simp only [Act.put, pz]
            refine tkh 5 (v := ?_) rfl ?_ ?_; rotate_left
            · intro w hSw; (try dsimp only at hSw); go_simp <;> with_reducible rfl
            try simp only [Act.put, pz]
            refine tkh 6 (v := ?_) rfl ?_ ?_; rotate_left
            · intro w hSw; (try dsimp only at hSw); go_simp <;> with_reducible rfl
            try simp only [Act.put, pz]
            refine tkh 7 (v := ?_) rfl ?_ ?_; rotate_left
            · intro w hSw; obtain ⟨q0, q1⟩ := hSw; go_simp <;> with_reducible rfl
            try simp only [Act.put, pz]
            refine wpAnyH_ready (rs := [8, 12]) (by kernel_rfl) (by simp) (AllReadyH.cons rfl (fun K hK => ?_) (AllReadyH.cons rfl (fun K hK => ?_) AllReadyH.nil))
            ·
              have hPrev := hHeld
              clear hHeld
              have C1 := Lib.hid (CF.out _ _ (Gd.out.at_ (k := 2) rfl : FPp k (some x) wd C3) (Gd.out.at_ (k := 0) rfl : DC wd w0.heap.size C3 1 p n d))
              go_simp
              refine C1.out.mono ?_
              rintro e w2 ⟨rfl, hg2, hc2⟩
              have G2 : Hid (GS w0 w2 (paint C3 wd.heap.size 3) [DCp w0 1 p n d, RCp w0 2 q r, FPp k (some { x with f := y }), GPp k (some { x with f := y }), PPp P li k m p q (some x)]) := Lib.hid (Gd.out.turn (k := 2) (by simp) hc2 hg2 (Stb.fpp _ _) rfl)
              obtain ⟨C2, hC2⟩ : ∃ C2, C2 = paint C3 wd.heap.size 3 := ⟨_, rfl⟩
              rw [← hC2] at G2
              have Kcg := Lib.hid (Kdg.out.chg hc2 (fun e => by rw [HCg.out] at e; cases e))
              have HCcg : Hid (C2 g = 6) := Lib.hid (by rw [hC2, paint_old _ _ Kdg.out.lt]; exact HCg.out)
              clear hg2 hc2 C1 hC2
              refine hK.out _ _ ((HPA.out _ _ x rfl rfl (G2.out.at_ (k := 4) rfl : PPp P li k m p q (some x) w2 C2)).2) (fun hHeld => ?_)
              clear hK K hPrev
              try simp only [Act.put, pz]
              refine tkh 9 (v := ?_) rfl ?_ ?_; rotate_left
              · intro w hSw; (try dsimp only at hSw); go_simp <;> with_reducible rfl
              try simp only [Act.put, pz]
              refine tkh 10 (v := ?_) rfl ?_ ?_; rotate_left
              · intro w hSw; (try dsimp only at hSw); go_simp <;> with_reducible rfl
              try simp only [Act.put, pz]
              refine tkh 11 (v := ?_) rfl ?_ ?_; rotate_left
              · intro w hSw; (try dsimp only at hSw); go_simp <;> with_reducible rfl
              try simp only [Act.put, pz]
              refine wpAnyH_ready (rs := [12]) (by kernel_rfl) (by simp) (AllReadyH.cons rfl (fun K hK => ?_) AllReadyH.nil)
              have HCg := HCcg
              have hPrev := hHeld
              clear hHeld
              obtain ⟨w2a, hw2a⟩ : ∃ w2a, w2a = w2.alloc (.cells #[.int .i64 0, .int .i64 0, .int .i64 0, .int .i64 0, .int .i64 0, .int .i64 0, .int .i64 0, .int .i64 0, .int .i64 0, .string { data := #[] }] 170) := ⟨_, rfl⟩
              obtain ⟨gq, hgq⟩ : ∃ gq, gq = w2.heap.size := ⟨_, rfl⟩
              have Bw2a : Hid (Below w2.heap.size w2 w2a) := Lib.hid (by rw [hw2a]; exact (Below.refl _ _).alloc (Nat.le_refl _) _)
              have Kw2a : Hid (Blk w2a gq 170 zeroL) := Lib.hid (by rw [hw2a]; exact Blk.new w2 _ _ hgq)
              have HGgq : Hid (w2.heap.size ≤ gq) := Lib.hid (by omega)
              have G2a : Hid (GS w0 w2a (paint C2 w2.heap.size 6) [DCp w0 1 p n d, RCp w0 2 q r, FPp k (some { x with f := y }), GPp k (some { x with f := y }), PPp P li k m p q (some x)]) := Lib.hid (G2.out.keep2 Bw2a.out (sam_paint _ _ _))
              obtain ⟨C2a, hC2a⟩ : ∃ C2a, C2a = paint C2 w2.heap.size 6 := ⟨_, rfl⟩
              have HCgq : Hid (C2a gq = 6) := Lib.hid (by rw [hC2a]; exact paint_new _ _ HGgq.out)
              have HCag : Hid (C2a g = 6) := Lib.hid (by rw [hC2a, paint_old _ _ Kcg.out.lt]; exact HCg.out)
              have HNag : Hid (g ≠ gq) := Lib.hid (by have := Kcg.out.lt; have := HGgq.out; omega)
              have Kag := Lib.hid (Kcg.out.keep Bw2a.out)
              rw [← hC2a] at G2a
              go_simp
              rw [← hw2a, ← hgq]
              clear hw2a hgq hC2a
              refine hK.out _ _ ((HPA.out _ _ x rfl rfl (G2a.out.at_ (k := 4) rfl : PPp P li k m p q (some x) w2a C2a)).2) (fun hHeld => ?_)
              clear hK K hPrev Bw2a
              try simp only [Act.put, pz]
              refine wpAnyH_ready (rs := [13]) (by kernel_rfl) (by simp) (AllReadyH.cons rfl (fun K hK => ?_) AllReadyH.nil)
              have hPrev := hHeld
              clear hHeld
              obtain ⟨w3, hw3⟩ : ∃ w3, w3 = w2a.setCells gq 0 (lineX b0 b1 b2 b3 b4 b5 b6 b7 b8 tx).toList := ⟨_, rfl⟩
              have Kw3 : Hid (Blk w3 gq 170 #[.int .i64 b0, .int .i64 b1, .int .i64 b2, .int .i64 b3, .int .i64 b4, .int .i64 b5, .int .i64 b6, .int .i64 b7, .int .i64 b8, .string tx]) := Lib.hid (by rw [hw3]; exact Kw2a.out.setAll _ rfl)
              have BZw3 : Hid (Chg (fun b => b = gq) w2a w3) := Lib.hid (by rw [hw3]; exact chg_setCells _ _ _ _)
              have G3 : Hid (GS w0 w3 C2a [DCp w0 1 p n d, RCp w0 2 q r, FPp k (some { x with f := y }), GPp k (some { x with f := y }), PPp P li k m p q (some x)]) := Lib.hid (G2a.out.other (c := 6) (by simp) (BZw3.out.mono (fun b _ e => by rw [show b = gq from e]; exact HCgq.out)) (Sam.refl _ _))
              have Kzg := Lib.hid (Kag.out.chg BZw3.out (fun e => HNag.out e))
              refine wp_store_mid 170 (.tmp 8) (.tmp 41) rfl gq 0 (lineX b0 b1 b2 b3 b4 b5 b6 b7 b8 tx) rfl rfl (there_blk Kw2a.out 10 (by decide)) (by kernel_rfl) (lineX_one _ _ _ _ _ _ _ _ _ _) ?_
              rw [← hw3]
              clear hw3
              refine hK.out _ _ ((HPA.out _ _ x rfl rfl (G3.out.at_ (k := 4) rfl : PPp P li k m p q (some x) w3 C2a)).2) (fun hHeld => ?_)
              clear hK K hPrev
              try simp only [Act.put, pz]
              refine tkh 14 (v := ?_) rfl ?_ ?_; rotate_left
              · intro w hSw; (try dsimp only at hSw); go_simp <;> with_reducible rfl
              try simp only [Act.put, pz]
              refine wpAnyH_done (by kernel_rfl) ?_ _
              clear hHeld
              go_wp2_with fail
              go_meet
              exact ⟨gq, C2a, rfl, rfl, G3, Kw3, Kzg, HCgq, HCag⟩
            ·
              have hPrev := hHeld
              clear hHeld
              obtain ⟨wda, hwda⟩ : ∃ wda, wda = wd.alloc (.cells #[.int .i64 0, .int .i64 0, .int .i64 0, .int .i64 0, .int .i64 0, .int .i64 0, .int .i64 0, .int .i64 0, .int .i64 0, .string { data := #[] }] 170) := ⟨_, rfl⟩
              obtain ⟨gq, hgq⟩ : ∃ gq, gq = wd.heap.size := ⟨_, rfl⟩
              have Bwda : Hid (Below wd.heap.size wd wda) := Lib.hid (by rw [hwda]; exact (Below.refl _ _).alloc (Nat.le_refl _) _)
              have Kwda : Hid (Blk wda gq 170 zeroL) := Lib.hid (by rw [hwda]; exact Blk.new wd _ _ hgq)
              have HGgq : Hid (wd.heap.size ≤ gq) := Lib.hid (by omega)
              have Gda : Hid (GS w0 wda (paint C3 wd.heap.size 6) [DCp w0 1 p n d, RCp w0 2 q r, FPp k (some x), GPp k (some { x with f := y }), PPp P li k m p q (some x)]) := Lib.hid (Gd.out.keep2 Bwda.out (sam_paint _ _ _))
              obtain ⟨C3a, hC3a⟩ : ∃ C3a, C3a = paint C3 wd.heap.size 6 := ⟨_, rfl⟩
              have HCgq : Hid (C3a gq = 6) := Lib.hid (by rw [hC3a]; exact paint_new _ _ HGgq.out)
              have HCag : Hid (C3a g = 6) := Lib.hid (by rw [hC3a, paint_old _ _ Kdg.out.lt]; exact HCg.out)
              have HNag : Hid (g ≠ gq) := Lib.hid (by have := Kdg.out.lt; have := HGgq.out; omega)
              have Kag := Lib.hid (Kdg.out.keep Bwda.out)
              rw [← hC3a] at Gda
              go_simp
              rw [← hwda, ← hgq]
              clear hwda hgq hC3a
              refine hK.out _ _ ((HPA.out _ _ x rfl rfl (Gda.out.at_ (k := 4) rfl : PPp P li k m p q (some x) wda C3a)).2) (fun hHeld => ?_)
              clear hK K hPrev Bwda
              try simp only [Act.put, pz]
              refine wpAnyH_ready (rs := [8]) (by kernel_rfl) (by simp) (AllReadyH.cons rfl (fun K hK => ?_) AllReadyH.nil)
              have hPrev := hHeld
              clear hHeld
              have C1 := Lib.hid (CF.out _ _ (Gda.out.at_ (k := 2) rfl : FPp k (some x) wda C3a) (Gda.out.at_ (k := 0) rfl : DC wda w0.heap.size C3a 1 p n d))
              go_simp
              refine C1.out.mono ?_
              rintro e w2 ⟨rfl, hg2, hc2⟩
              have G2 : Hid (GS w0 w2 (paint C3a wda.heap.size 3) [DCp w0 1 p n d, RCp w0 2 q r, FPp k (some { x with f := y }), GPp k (some { x with f := y }), PPp P li k m p q (some x)]) := Lib.hid (Gda.out.turn (k := 2) (by simp) hc2 hg2 (Stb.fpp _ _) rfl)
              obtain ⟨C2, hC2⟩ : ∃ C2, C2 = paint C3a wda.heap.size 3 := ⟨_, rfl⟩
              rw [← hC2] at G2
              have Kcgq := Lib.hid (Kwda.out.chg hc2 (fun e => by rw [HCgq.out] at e; cases e))
              have HCcgq : Hid (C2 gq = 6) := Lib.hid (by rw [hC2, paint_old _ _ Kwda.out.lt]; exact HCgq.out)
              have Kcg := Lib.hid (Kag.out.chg hc2 (fun e => by rw [HCag.out] at e; cases e))
              have HCcg : Hid (C2 g = 6) := Lib.hid (by rw [hC2, paint_old _ _ Kag.out.lt]; exact HCag.out)
              clear hg2 hc2 C1 hC2
              refine hK.out _ _ ((HPA.out _ _ x rfl rfl (G2.out.at_ (k := 4) rfl : PPp P li k m p q (some x) w2 C2)).2) (fun hHeld => ?_)
              clear hK K hPrev
              try simp only [Act.put, pz]
              refine tkh 9 (v := ?_) rfl ?_ ?_; rotate_left
              · intro w hSw; (try dsimp only at hSw); go_simp <;> with_reducible rfl
              try simp only [Act.put, pz]
              refine tkh 10 (v := ?_) rfl ?_ ?_; rotate_left
              · intro w hSw; (try dsimp only at hSw); go_simp <;> with_reducible rfl
              try simp only [Act.put, pz]
              refine tkh 11 (v := ?_) rfl ?_ ?_; rotate_left
              · intro w hSw; (try dsimp only at hSw); go_simp <;> with_reducible rfl
              try simp only [Act.put, pz]
              have HCgq := HCcgq
              refine wpAnyH_ready (rs := [13]) (by kernel_rfl) (by simp) (AllReadyH.cons rfl (fun K hK => ?_) AllReadyH.nil)
              have hPrev := hHeld
              clear hHeld
              obtain ⟨w3, hw3⟩ : ∃ w3, w3 = w2.setCells gq 0 (lineX b0 b1 b2 b3 b4 b5 b6 b7 b8 tx).toList := ⟨_, rfl⟩
              have Kw3 : Hid (Blk w3 gq 170 #[.int .i64 b0, .int .i64 b1, .int .i64 b2, .int .i64 b3, .int .i64 b4, .int .i64 b5, .int .i64 b6, .int .i64 b7, .int .i64 b8, .string tx]) := Lib.hid (by rw [hw3]; exact Kcgq.out.setAll _ rfl)
              have BZw3 : Hid (Chg (fun b => b = gq) w2 w3) := Lib.hid (by rw [hw3]; exact chg_setCells _ _ _ _)
              have G3 : Hid (GS w0 w3 C2 [DCp w0 1 p n d, RCp w0 2 q r, FPp k (some { x with f := y }), GPp k (some { x with f := y }), PPp P li k m p q (some x)]) := Lib.hid (G2.out.other (c := 6) (by simp) (BZw3.out.mono (fun b _ e => by rw [show b = gq from e]; exact HCgq.out)) (Sam.refl _ _))
              have Kzg := Lib.hid (Kcg.out.chg BZw3.out (fun e => HNag.out e))
              refine wp_store_mid 170 (.tmp 8) (.tmp 41) rfl gq 0 (lineX b0 b1 b2 b3 b4 b5 b6 b7 b8 tx) rfl rfl (there_blk Kcgq.out 10 (by decide)) (by kernel_rfl) (lineX_one _ _ _ _ _ _ _ _ _ _) ?_
              rw [← hw3]
              clear hw3
              refine hK.out _ _ ((HPA.out _ _ x rfl rfl (G3.out.at_ (k := 4) rfl : PPp P li k m p q (some x) w3 C2)).2) (fun hHeld => ?_)
              clear hK K hPrev
              try simp only [Act.put, pz]
              refine tkh 14 (v := ?_) rfl ?_ ?_; rotate_left
              · intro w hSw; (try dsimp only at hSw); go_simp <;> with_reducible rfl
              try simp only [Act.put, pz]
              refine wpAnyH_done (by kernel_rfl) ?_ _
              clear hHeld
              go_wp2_with fail
              go_meet
              exact ⟨gq, C2, rfl, rfl, G3, Kw3, Kzg, HCgq, HCcg⟩
          case rest =>
           as_aux_lemma =>
            obtain ⟨gq, C6, rfl, rfl, G6, Kw6, K6, HCgq, HCg6⟩ := hcut
            obtain ⟨w6, rfl⟩ : ∃ w6, w6 = wc := ⟨_, rfl⟩
            clear G3 K3 CF
            have HT6 : Hid (∀ w, Below w6.heap.size w6 w → (fun w' => w'.cell? ⟨P, 15, none⟩ = some (.pointer (some ⟨x.fl, 0, none⟩)) ∧ w'.cell? ⟨P, 16, none⟩ = some (.pointer (some ⟨x.gb, 0, none⟩)) ∧ w'.cell? ⟨g, 0, none⟩ = some (.int .i64 b0) ∧ w'.cell? ⟨g, 1, none⟩ = some (.int .i64 b1) ∧ w'.cell? ⟨g, 2, none⟩ = some (.int .i64 b2) ∧ w'.cell? ⟨g, 3, none⟩ = some (.int .i64 b3) ∧ w'.cell? ⟨g, 4, none⟩ = some (.int .i64 b4) ∧ w'.cell? ⟨g, 5, none⟩ = some (.int .i64 b5) ∧ w'.cell? ⟨g, 6, none⟩ = some (.int .i64 b6) ∧ w'.cell? ⟨g, 7, none⟩ = some (.int .i64 b7) ∧ w'.cell? ⟨g, 8, none⟩ = some (.int .i64 b8) ∧ w'.cell? ⟨g, 9, none⟩ = some (.string tx) ∧ w'.cell? ⟨gq, 0, none⟩ = some (.int .i64 b0) ∧ w'.cell? ⟨gq, 1, none⟩ = some (.int .i64 b1) ∧ w'.cell? ⟨gq, 2, none⟩ = some (.int .i64 b2) ∧ w'.cell? ⟨gq, 3, none⟩ = some (.int .i64 b3) ∧ w'.cell? ⟨gq, 4, none⟩ = some (.int .i64 b4) ∧ w'.cell? ⟨gq, 5, none⟩ = some (.int .i64 b5) ∧ w'.cell? ⟨gq, 6, none⟩ = some (.int .i64 b6) ∧ w'.cell? ⟨gq, 7, none⟩ = some (.int .i64 b7) ∧ w'.cell? ⟨gq, 8, none⟩ = some (.int .i64 b8) ∧ w'.cell? ⟨gq, 9, none⟩ = some (.string tx) ∧ w'.cell? ⟨x.gb, 4, none⟩ = some (.int .i64 y.se) ∧ w'.cell? ⟨x.gb, 5, none⟩ = some (.int .i64 y.ino) ∧ w'.cell? ⟨x.gb, 6, none⟩ = some (.int .i64 y.ge) ∧ w'.cell? ⟨x.gb, 7, none⟩ = some (.int .i64 y.off) ∧ w'.cell? ⟨x.gb, 8, none⟩ = some (.int .i64 y.mi) ∧ w'.cell? ⟨x.gb, 9, none⟩ = some (.int .i64 y.go) ∧ w'.cell? ⟨x.gb, 10, none⟩ = some (.int .i64 y.cu) ∧ w'.cell? ⟨x.gb, 11, none⟩ = some (.int .i64 y.ta) ∧ w'.cell? ⟨x.gb, 12, none⟩ = some (.int .i64 y.lo)) w) := Lib.hid (fun w hb => by
              have hg := G6.out.keep hb
              have h1 := HPA.out _ _ x rfl rfl (hg.at_ (k := 4) rfl : PPp P li k m p q (some x) w C6)
              have h2 := GfR.cells (hg.at_ (k := 3) rfl : GfR w C6 4 x.gb k y)
              have h3 := K6.out.keep hb
              have h4 := Kw6.out.keep hb
              exact ⟨h1.2.1, h1.1.1, (h3.cell 0).trans rfl, (h3.cell 1).trans rfl, (h3.cell 2).trans rfl, (h3.cell 3).trans rfl, (h3.cell 4).trans rfl, (h3.cell 5).trans rfl, (h3.cell 6).trans rfl, (h3.cell 7).trans rfl, (h3.cell 8).trans rfl, (h3.cell 9).trans rfl, (h4.cell 0).trans rfl, (h4.cell 1).trans rfl, (h4.cell 2).trans rfl, (h4.cell 3).trans rfl, (h4.cell 4).trans rfl, (h4.cell 5).trans rfl, (h4.cell 6).trans rfl, (h4.cell 7).trans rfl, (h4.cell 8).trans rfl, (h4.cell 9).trans rfl, h2.2.2.2.2.1, h2.2.2.2.2.2.1, h2.2.2.2.2.2.2.1, h2.2.2.2.2.2.2.2.1, h2.2.2.2.2.2.2.2.2.1, h2.2.2.2.2.2.2.2.2.2.1, h2.2.2.2.2.2.2.2.2.2.2.1, h2.2.2.2.2.2.2.2.2.2.2.2.1, h2.2.2.2.2.2.2.2.2.2.2.2.2⟩)
            have hn1 := neq_line0 b0 b1 b2 b3 b4 b5 b6 b7 b8 tx
            have hn2 := neq_mark0 y.se y.ino y.ge y.off y.mi y.go y.cu y.ta y.lo
            have hn3 : (wb != wb) = false := by simp
            obtain ⟨hq, hhq⟩ : ∃ hq : Int, hq = ((heldOf k.line y.u).length : Int) := ⟨_, rfl⟩
            have hn4 : (hq != hq) = false := by simp
            have CM : Hid (∀ w, Below w6.heap.size w6 w → Calls Tryz.prog 89 #[.pointer (some ⟨x.fl, 0, none⟩)] w fun e w' => e = .returned (.agg #[.int .i64 y.se, .int .i64 y.ino, .int .i64 y.ge, .int .i64 y.off, .int .i64 y.mi, .int .i64 y.go, .int .i64 y.cu, .int .i64 y.ta, .int .i64 y.lo]) ∧ Below w.heap.size w w') := Lib.hid (fun w hb => by
              have h := ((G6.out.keep hb).at_ (k := 2) rfl : FPp k (some { x with f := y }) w C6)
              exact fw_mark h.1 h.2.1)
            have CH : Hid (∀ w, Below w6.heap.size w6 w → Calls Tryz.prog 88 #[.pointer (some ⟨x.fl, 0, none⟩)] w fun e w' => e = .returned (.int .i64 hq) ∧ w = w') := Lib.hid (fun w hb => by
              have h := ((G6.out.keep hb).at_ (k := 2) rfl : FPp k (some { x with f := y }) w C6)
              rw [hhq]
              exact fw_held h.1 h.2.1)
            have CI : Hid (∀ w, Below w6.heap.size w6 w → Calls Tryz.prog 92 #[.pointer (some ⟨x.gb, 0, none⟩)] w fun e w' => e = .returned (.int .i64 hq) ∧ Below w.heap.size w w') := Lib.hid (fun w hb => by
              have h := ((G6.out.keep hb).at_ (k := 3) rfl : GfR w C6 4 x.gb k y)
              rw [hhq]
              exact gf_held h)
            clear hhq
            go_upto_region 6 with fail
            go_cut [78] (fun s wx => s = .bool false ∧ Hid (Below w6.heap.size w6 wx))
            case first =>
             as_aux_lemma =>
              refine wp_region_any (by kernel_rfl) ?_
              change wpAny _ _ _ _ _ _ _ (World.drew _)
              refine wpAny_of_held (S := fun w' => w'.cell? ⟨P, 15, none⟩ = some (.pointer (some ⟨x.fl, 0, none⟩)) ∧ w'.cell? ⟨P, 16, none⟩ = some (.pointer (some ⟨x.gb, 0, none⟩)) ∧ w'.cell? ⟨g, 0, none⟩ = some (.int .i64 b0) ∧ w'.cell? ⟨g, 1, none⟩ = some (.int .i64 b1) ∧ w'.cell? ⟨g, 2, none⟩ = some (.int .i64 b2) ∧ w'.cell? ⟨g, 3, none⟩ = some (.int .i64 b3) ∧ w'.cell? ⟨g, 4, none⟩ = some (.int .i64 b4) ∧ w'.cell? ⟨g, 5, none⟩ = some (.int .i64 b5) ∧ w'.cell? ⟨g, 6, none⟩ = some (.int .i64 b6) ∧ w'.cell? ⟨g, 7, none⟩ = some (.int .i64 b7) ∧ w'.cell? ⟨g, 8, none⟩ = some (.int .i64 b8) ∧ w'.cell? ⟨g, 9, none⟩ = some (.string tx) ∧ w'.cell? ⟨gq, 0, none⟩ = some (.int .i64 b0) ∧ w'.cell? ⟨gq, 1, none⟩ = some (.int .i64 b1) ∧ w'.cell? ⟨gq, 2, none⟩ = some (.int .i64 b2) ∧ w'.cell? ⟨gq, 3, none⟩ = some (.int .i64 b3) ∧ w'.cell? ⟨gq, 4, none⟩ = some (.int .i64 b4) ∧ w'.cell? ⟨gq, 5, none⟩ = some (.int .i64 b5) ∧ w'.cell? ⟨gq, 6, none⟩ = some (.int .i64 b6) ∧ w'.cell? ⟨gq, 7, none⟩ = some (.int .i64 b7) ∧ w'.cell? ⟨gq, 8, none⟩ = some (.int .i64 b8) ∧ w'.cell? ⟨gq, 9, none⟩ = some (.string tx) ∧ w'.cell? ⟨x.gb, 4, none⟩ = some (.int .i64 y.se) ∧ w'.cell? ⟨x.gb, 5, none⟩ = some (.int .i64 y.ino) ∧ w'.cell? ⟨x.gb, 6, none⟩ = some (.int .i64 y.ge) ∧ w'.cell? ⟨x.gb, 7, none⟩ = some (.int .i64 y.off) ∧ w'.cell? ⟨x.gb, 8, none⟩ = some (.int .i64 y.mi) ∧ w'.cell? ⟨x.gb, 9, none⟩ = some (.int .i64 y.go) ∧ w'.cell? ⟨x.gb, 10, none⟩ = some (.int .i64 y.cu) ∧ w'.cell? ⟨x.gb, 11, none⟩ = some (.int .i64 y.ta) ∧ w'.cell? ⟨x.gb, 12, none⟩ = some (.int .i64 y.lo)) _ _ _ _ ?_
              obtain ⟨w7, hw7⟩ : ∃ w7, w7 = w6.drew := ⟨_, rfl⟩
              have B7 : Hid (Below w6.heap.size w6 w7) := Lib.hid (by rw [hw7]; exact (Below.refl _ _).drew)
              rw [← hw7]
              clear hw7
              have hHeld : (fun w' => w'.cell? ⟨P, 15, none⟩ = some (.pointer (some ⟨x.fl, 0, none⟩)) ∧ w'.cell? ⟨P, 16, none⟩ = some (.pointer (some ⟨x.gb, 0, none⟩)) ∧ w'.cell? ⟨g, 0, none⟩ = some (.int .i64 b0) ∧ w'.cell? ⟨g, 1, none⟩ = some (.int .i64 b1) ∧ w'.cell? ⟨g, 2, none⟩ = some (.int .i64 b2) ∧ w'.cell? ⟨g, 3, none⟩ = some (.int .i64 b3) ∧ w'.cell? ⟨g, 4, none⟩ = some (.int .i64 b4) ∧ w'.cell? ⟨g, 5, none⟩ = some (.int .i64 b5) ∧ w'.cell? ⟨g, 6, none⟩ = some (.int .i64 b6) ∧ w'.cell? ⟨g, 7, none⟩ = some (.int .i64 b7) ∧ w'.cell? ⟨g, 8, none⟩ = some (.int .i64 b8) ∧ w'.cell? ⟨g, 9, none⟩ = some (.string tx) ∧ w'.cell? ⟨gq, 0, none⟩ = some (.int .i64 b0) ∧ w'.cell? ⟨gq, 1, none⟩ = some (.int .i64 b1) ∧ w'.cell? ⟨gq, 2, none⟩ = some (.int .i64 b2) ∧ w'.cell? ⟨gq, 3, none⟩ = some (.int .i64 b3) ∧ w'.cell? ⟨gq, 4, none⟩ = some (.int .i64 b4) ∧ w'.cell? ⟨gq, 5, none⟩ = some (.int .i64 b5) ∧ w'.cell? ⟨gq, 6, none⟩ = some (.int .i64 b6) ∧ w'.cell? ⟨gq, 7, none⟩ = some (.int .i64 b7) ∧ w'.cell? ⟨gq, 8, none⟩ = some (.int .i64 b8) ∧ w'.cell? ⟨gq, 9, none⟩ = some (.string tx) ∧ w'.cell? ⟨x.gb, 4, none⟩ = some (.int .i64 y.se) ∧ w'.cell? ⟨x.gb, 5, none⟩ = some (.int .i64 y.ino) ∧ w'.cell? ⟨x.gb, 6, none⟩ = some (.int .i64 y.ge) ∧ w'.cell? ⟨x.gb, 7, none⟩ = some (.int .i64 y.off) ∧ w'.cell? ⟨x.gb, 8, none⟩ = some (.int .i64 y.mi) ∧ w'.cell? ⟨x.gb, 9, none⟩ = some (.int .i64 y.go) ∧ w'.cell? ⟨x.gb, 10, none⟩ = some (.int .i64 y.cu) ∧ w'.cell? ⟨x.gb, 11, none⟩ = some (.int .i64 y.ta) ∧ w'.cell? ⟨x.gb, 12, none⟩ = some (.int .i64 y.lo)) w7 := HT6.out w7 B7.out
              refine tkh 0 (v := ?_) rfl ?_ ?_; rotate_left
              · intro w hSw; (try dsimp only at hSw); go_simp <;> with_reducible rfl
              try simp only [Act.put, pz]
              refine tkh 1 (v := ?_) rfl ?_ ?_; rotate_left
              · intro w hSw; (try dsimp only at hSw); go_simp <;> with_reducible rfl
              try simp only [Act.put, pz]
              refine tkh 2 (v := .bool false) rfl ?_ ?_
              · intro w hSw; clear hSw; go_simp <;> first | (with_reducible rfl) | simp
              try simp only [Act.put, pz]
              refine tkh 3 (v := ?_) rfl ?_ ?_; rotate_left
              · intro w hSw; (try dsimp only at hSw); go_simp <;> with_reducible rfl
              try simp only [Act.put, pz]
              refine tkh 4 (v := ?_) rfl ?_ ?_; rotate_left
              · intro w hSw; obtain ⟨q0, q1, a0, a1, a2, a3, a4, a5, a6, a7, a8, a9, c0, c1, c2, c3, c4, c5, c6, c7, c8, c9, m0, m1, m2, m3, m4, m5, m6, m7, m8⟩ := hSw; go_simp <;> with_reducible rfl
              try simp only [Act.put, pz]
              refine tkh 5 (v := ?_) rfl ?_ ?_; rotate_left
              · intro w hSw; obtain ⟨q0, q1, a0, a1, a2, a3, a4, a5, a6, a7, a8, a9, c0, c1, c2, c3, c4, c5, c6, c7, c8, c9, m0, m1, m2, m3, m4, m5, m6, m7, m8⟩ := hSw; go_simp <;> with_reducible rfl
              try simp only [Act.put, pz]
              refine tkh 6 (v := .bool false) rfl ?_ ?_
              · intro w hSw; clear hSw; go_simp <;> first | (with_reducible rfl) | simp
              try simp only [Act.put, pz]
              refine tkh 7 (v := ?_) rfl ?_ ?_; rotate_left
              · intro w hSw; (try dsimp only at hSw); go_simp <;> with_reducible rfl
              try simp only [Act.put, pz]
              refine tkh 8 (v := ?_) rfl ?_ ?_; rotate_left
              · intro w hSw; (try dsimp only at hSw); go_simp <;> with_reducible rfl
              try simp only [Act.put, pz]
              refine tkh 9 (v := ?_) rfl ?_ ?_; rotate_left
              · intro w hSw; (try dsimp only at hSw); go_simp <;> with_reducible rfl
              try simp only [Act.put, pz]
              refine tkh 10 (v := ?_) rfl ?_ ?_; rotate_left
              · intro w hSw; (try dsimp only at hSw); go_simp <;> with_reducible rfl
              try simp only [Act.put, pz]
              refine tkh 11 (v := ?_) rfl ?_ ?_; rotate_left
              · intro w hSw; (try dsimp only at hSw); go_simp <;> with_reducible rfl
              try simp only [Act.put, pz]
              refine tkh 12 (v := ?_) rfl ?_ ?_; rotate_left
              · intro w hSw; obtain ⟨q0, q1, a0, a1, a2, a3, a4, a5, a6, a7, a8, a9, c0, c1, c2, c3, c4, c5, c6, c7, c8, c9, m0, m1, m2, m3, m4, m5, m6, m7, m8⟩ := hSw; go_simp <;> with_reducible rfl
              try simp only [Act.put, pz]
              refine tkh 14 (v := ?_) rfl ?_ ?_; rotate_left
              · intro w hSw; (try dsimp only at hSw); go_simp <;> with_reducible rfl
              try simp only [Act.put, pz]
              refine tkh 15 (v := ?_) rfl ?_ ?_; rotate_left
              · intro w hSw; (try dsimp only at hSw); go_simp <;> with_reducible rfl
              try simp only [Act.put, pz]
              refine tkh 16 (v := ?_) rfl ?_ ?_; rotate_left
              · intro w hSw; (try dsimp only at hSw); go_simp <;> with_reducible rfl
              try simp only [Act.put, pz]
              refine tkh 17 (v := ?_) rfl ?_ ?_; rotate_left
              · intro w hSw; obtain ⟨q0, q1, a0, a1, a2, a3, a4, a5, a6, a7, a8, a9, c0, c1, c2, c3, c4, c5, c6, c7, c8, c9, m0, m1, m2, m3, m4, m5, m6, m7, m8⟩ := hSw; go_simp <;> with_reducible rfl
              try simp only [Act.put, pz]
              refine tkh 18 (v := ?_) rfl ?_ ?_; rotate_left
              · intro w hSw; (try dsimp only at hSw); go_simp <;> with_reducible rfl
              try simp only [Act.put, pz]
              refine tkh 19 (v := ?_) rfl ?_ ?_; rotate_left
              · intro w hSw; (try dsimp only at hSw); go_simp <;> with_reducible rfl
              try simp only [Act.put, pz]
              refine tkh 20 (v := ?_) rfl ?_ ?_; rotate_left
              · intro w hSw; obtain ⟨q0, q1, a0, a1, a2, a3, a4, a5, a6, a7, a8, a9, c0, c1, c2, c3, c4, c5, c6, c7, c8, c9, m0, m1, m2, m3, m4, m5, m6, m7, m8⟩ := hSw; go_simp <;> with_reducible rfl
              try simp only [Act.put, pz]
              refine wpAnyH_ready (rs := [13]) (by kernel_rfl) (by simp) (AllReadyH.cons rfl (fun K hK => ?_) AllReadyH.nil)
              have hPrev := hHeld
              clear hHeld
              go_simp
              refine (CM.out w7 B7.out).mono ?_
              rintro e w8 ⟨rfl, hb9⟩
              have B8 : Hid (Below w6.heap.size w6 w8) := Lib.hid (B7.out.trans (hb9.mono B7.out.size))
              clear hb9
              refine hK.out _ _ (HT6.out _ B8.out) (fun hHeld => ?_)
              clear hK K hPrev
              try simp only [Act.put, pz]
              refine tkh 21 (v := .bool false) rfl ?_ ?_
              · intro w hSw; clear hSw; go_simp <;> first | (with_reducible rfl) | simp
              try simp only [Act.put, pz]
              refine tkh 22 (v := ?_) rfl ?_ ?_; rotate_left
              · intro w hSw; (try dsimp only at hSw); go_simp <;> with_reducible rfl
              try simp only [Act.put, pz]
              refine tkh 23 (v := ?_) rfl ?_ ?_; rotate_left
              · intro w hSw; (try dsimp only at hSw); go_simp <;> with_reducible rfl
              try simp only [Act.put, pz]
              refine tkh 24 (v := ?_) rfl ?_ ?_; rotate_left
              · intro w hSw; (try dsimp only at hSw); go_simp <;> with_reducible rfl
              try simp only [Act.put, pz]
              refine tkh 25 (v := ?_) rfl ?_ ?_; rotate_left
              · intro w hSw; (try dsimp only at hSw); go_simp <;> with_reducible rfl
              try simp only [Act.put, pz]
              refine tkh 26 (v := ?_) rfl ?_ ?_; rotate_left
              · intro w hSw; (try dsimp only at hSw); go_simp <;> with_reducible rfl
              try simp only [Act.put, pz]
              refine tkh 27 (v := ?_) rfl ?_ ?_; rotate_left
              · intro w hSw; obtain ⟨q0, q1, a0, a1, a2, a3, a4, a5, a6, a7, a8, a9, c0, c1, c2, c3, c4, c5, c6, c7, c8, c9, m0, m1, m2, m3, m4, m5, m6, m7, m8⟩ := hSw; go_simp <;> with_reducible rfl
              try simp only [Act.put, pz]
              refine tkh 29 (v := ?_) rfl ?_ ?_; rotate_left
              · intro w hSw; (try dsimp only at hSw); go_simp <;> with_reducible rfl
              try simp only [Act.put, pz]
              refine tkh 30 (v := ?_) rfl ?_ ?_; rotate_left
              · intro w hSw; (try dsimp only at hSw); go_simp <;> with_reducible rfl
              try simp only [Act.put, pz]
              refine tkh 31 (v := ?_) rfl ?_ ?_; rotate_left
              · intro w hSw; (try dsimp only at hSw); go_simp <;> with_reducible rfl
              try simp only [Act.put, pz]
              refine tkh 32 (v := ?_) rfl ?_ ?_; rotate_left
              · intro w hSw; obtain ⟨q0, q1, a0, a1, a2, a3, a4, a5, a6, a7, a8, a9, c0, c1, c2, c3, c4, c5, c6, c7, c8, c9, m0, m1, m2, m3, m4, m5, m6, m7, m8⟩ := hSw; go_simp <;> with_reducible rfl
              try simp only [Act.put, pz]
              refine wpAnyH_ready (rs := [28]) (by kernel_rfl) (by simp) (AllReadyH.cons rfl (fun K hK => ?_) AllReadyH.nil)
              have hPrev := hHeld
              clear hHeld
              go_simp
              refine (CH.out w8 B8.out).mono ?_
              rintro e w8 ⟨rfl, rfl⟩
              have B8h := B8
              refine hK.out _ _ (HT6.out _ B8h.out) (fun hHeld => ?_)
              clear hK K hPrev
              try simp only [Act.put, pz]
              refine wpAnyH_ready (rs := [33]) (by kernel_rfl) (by simp) (AllReadyH.cons rfl (fun K hK => ?_) AllReadyH.nil)
              have hPrev := hHeld
              clear hHeld
              go_simp
              refine (CI.out w8 B8.out).mono ?_
              rintro e w9 ⟨rfl, hb9⟩
              have B9 : Hid (Below w6.heap.size w6 w9) := Lib.hid (B8.out.trans (hb9.mono B8.out.size))
              clear hb9
              refine hK.out _ _ (HT6.out _ B9.out) (fun hHeld => ?_)
              clear hK K hPrev
              try simp only [Act.put, pz]
              refine tkh 34 (v := .bool false) rfl ?_ ?_
              · intro w hSw; clear hSw; go_simp <;> first | (with_reducible rfl) | simp
              try simp only [Act.put, pz]
              refine tkh 35 (v := ?_) rfl ?_ ?_; rotate_left
              · intro w hSw; (try dsimp only at hSw); go_simp <;> with_reducible rfl
              try simp only [Act.put, pz]
              refine wpAnyH_done (by kernel_rfl) ?_ _
              clear hHeld hn1 hn2 hn3 hn4
              go_wp2_with fail
              go_meet
              exact ⟨rfl, B9⟩
            case rest =>
             as_aux_lemma =>
              obtain ⟨rfl, B9⟩ := hcut
              have GF : Hid (∃ C x, GS w0 wc C (LF w0 P li k m p n d q r (some x)) ∧ InvF li k (some x) (B + (i + 1))) := Lib.hid (by
                have h1 := G6.out.keep B9.out
                refine ⟨C6, { x with f := y }, h1, fun z hz => ?_⟩
                obtain rfl := Option.some.inj hz
                exact ⟨HLK.out.1, HLK.out.2.1, HH.out.2.2.2.1, HH.out.1, HH.out.2.1, HN.out.ok, HN.out.ul, by show y.lc ≤ _; have := HN.out.lc; have := HLK.out.2.2; omega⟩)
              clear hn1 hn2 hn3 hn4
              go_wp2_with fail
              go_roundw
              case rel => exact ⟨i + 1, by go_num, by omega, GF⟩
              case measure => simp [intOf]; omega
end Go.Proofs.YtlojmmcagglpoaaGreat
