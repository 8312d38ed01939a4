/- changes (package heronlaw14), whatever the op. -/
import Derived.Test.YtlojmmcagglpoaaGreatQChAppend
import Derived.Test.YtlojmmcagglpoaaGreatQChanges
import Derived.Test.YtlojmmcagglpoaaGreatQKeepRow
import Derived.Deep.DeepMust
namespace Go.Proofs.YtlojmmcagglpoaaGreat
open Go.RowKit Go.Maps
set_option maxRecDepth 20000 in
set_option maxHeartbeats 4000000 in
theorem changes_crash {w0 W : World} {C : Nat → Nat} {P : Nat} {h : Hd} {bs : List (List UInt8)} {ns : List (List (List UInt8))} {ds : List DE} {M : List PartT} {j : Nat} {x : DE} (hG : GS w0 W C (LP w0 P h bs ns ds ++ M)) (hx : ds[j]? = some x) (al : Alike x.d x.r x.n) (hn : x.n + 2 < 1000000) (c1 : Int) (nm ot : List UInt8) (sa : ByteArray) (tm c6 c7 c8 c9 : Int) (A : Option Addr) (m cp : Nat) {ks : List Int} (hr : RI w0 A m ks) (hm : m * 8 ≤ 140737488351232) : Calls Tryz.prog 59 #[.pointer (some ⟨P, 0, none⟩), .pointer (some ⟨x.p, 0, none⟩), .pointer (some ⟨x.q, 0, none⟩), .agg #[.int .i64 10, .int .i64 c1, .string (strB nm), .string (strB ot), .string sa, .int .i64 tm, .int .i64 c6, .int .i64 c7, .int .i64 c8, .int .i64 c9, .slice A m cp]] W (ChgQ w0 P h bs ns ds j x M) := by
  obtain ⟨w1, hw1⟩ : ∃ w1, w1 = W.alloc (.cells #[.int .i64 10, .int .i64 c1, .string (strB nm), .string (strB ot), .string sa, .int .i64 tm, .int .i64 c6, .int .i64 c7, .int .i64 c8, .int .i64 c9, .slice A m cp] 41) := ⟨_, rfl⟩
  obtain ⟨g, hg⟩ : ∃ g, g = W.heap.size := ⟨_, rfl⟩
  have hb : Below W.heap.size W w1 := by rw [hw1]; exact (Below.refl _ _).alloc (Nat.le_refl _) _
  have K1 : Hid (Blk w1 g 41 #[.int .i64 10, .int .i64 c1, .string (strB nm), .string (strB ot), .string sa, .int .i64 tm, .int .i64 c6, .int .i64 c7, .int .i64 c8, .int .i64 c9, .slice A m cp]) := Lib.hid (by rw [hw1, hg]; exact Blk.new W _ _ rfl)
  obtain ⟨cB, hcB⟩ : ∃ cB, cB = (LP w0 P h bs ns ds ++ M).length + 1 := ⟨_, rfl⟩
  obtain ⟨C1, hC1⟩ : ∃ C1, C1 = paint C W.heap.size cB := ⟨_, rfl⟩
  obtain ⟨BP, hBP⟩ : ∃ BP : PartT, BP = (fun W C => FrC W C cB (fun w => Blk w g 41 #[.int .i64 10, .int .i64 c1, .string (strB nm), .string (strB ot), .string sa, .int .i64 tm, .int .i64 c6, .int .i64 c7, .int .i64 c8, .int .i64 c9, .slice A m cp])) := ⟨_, rfl⟩
  have G1 : Hid (GS w0 w1 C1 (LP w0 P h bs ns ds ++ (M ++ [BP]))) := Lib.hid (by
    have h1 := hG.holdBlkA hb K1.out (by omega)
    rw [← hcB] at h1
    rw [hBP, hC1]; exact h1)
  have HBP : Hid (∀ w C, BP w C → w.cell? ⟨g, 10, none⟩ = some (.slice A m cp)) := Lib.hid (fun w C h => by rw [hBP] at h; exact (h.now.cell 10).trans rfl)
  have HR := Lib.hid hr; have HX := Lib.hid hx; have HAL := Lib.hid al; have HN := Lib.hid hn
  have q10 : w1.cell? ⟨g, 10, none⟩ = some (.slice A m cp) := (K1.out.cell 10).trans rfl
  clear hb hG al hn hBP hC1 hcB hr hx
  go_enter Tryz.func59, Tryz.ntmps59
  go_upto_region 29 with fail
  rw [← hw1, ← hg]
  clear hw1 hg
  have HB1 := Lib.hid (Below.refl w1.heap.size w1)
  have q10' : (w1.alloc (.cells #[] 3)).cell? ⟨g, 10, none⟩ = some (.slice A m cp) := cell_later ((Below.refl _ w1).alloc (Nat.le_refl _) _) q10
  have O2 : Hid ((w1.alloc (.cells #[] 3)).ownsRow w1.heap.size 3 1 (.slice (some ⟨w1.heap.size, 0, none⟩) 0 0) 0 []) := Lib.hid (World.ownsRow_made w1 #[] 0 HB1.out.size (Nat.zero_le _) rfl)
  have B2 := Lib.hid (HB1.out.alloc HB1.out.size (.cells #[] 3))
  have R2 := Lib.hid ((G1.out.came HR.out).1.keep B2.out)
  go_wp2_with ((at_builtin; go_must (refine append_row rfl (.tmp 150) (.tmp 152) 39 3 rfl Tryz.underlying39 infoI rfl (by decide) w1.heap.size (.slice (some ⟨w1.heap.size, 0, none⟩) 0 0) 0 [] rfl O2.out A m cp (ks.map iV') rfl (ri_news R2.out).1 (ri_news R2.out).2.1 (ri_news R2.out).2.2 (fun u hu => by obtain ⟨k, _, rfl⟩ := List.mem_map.1 hu; rfl) (by omega) (by unfold maxLen; omega) B2.out.size ?_); intro v5 w5 ho5 hg5 ha5; refine halt ?_))
  refine unhalt ?_
  have O5 : Hid (w5.ownsRow w1.heap.size 3 1 v5 m (ks.map iV')) := Lib.hid (by simpa using ho5)
  have B5 := Lib.hid (B2.out.grown hg5 B2.out.size (fun j hj => (World.ownsRow.lt O2.out j hj).1))
  clear ho5 hg5 ha5 O2 B2 q10 q10' K1
  have B6 := Lib.hid (B5.out.alloc B5.out.size (.cells #[.int .i64 7] 3))
  have O6 : Hid ((w5.alloc (.cells #[.int .i64 7] 3)).ownsRow w1.heap.size 3 1 v5 m (ks.map iV')) := Lib.hid (own_keep O5.out ((Below.refl _ _).alloc (Nat.le_refl _) _))
  have K6 : Hid (Blk (w5.alloc (.cells #[.int .i64 7] 3)) w5.heap.size 3 #[.int .i64 7]) := Lib.hid (Blk.new _ _ _ rfl)
  go_wp2_with ((at_builtin; go_must (refine append_row rfl (.tmp 153) (.tmp 154) 39 3 rfl Tryz.underlying39 infoI rfl (by decide) w1.heap.size v5 m (ks.map iV') rfl O6.out (some ⟨w5.heap.size, 0, none⟩) 1 1 [iV' 7] rfl rfl (fun e => by cases e) (news_at K6.out) (fun u hu => by rw [List.mem_singleton.1 hu]; rfl) (by omega) (by unfold maxLen; omega) B6.out.size ?_); intro v7 w7 ho7 hg7 ha7; refine halt ?_))
  refine unhalt ?_
  have B7 := Lib.hid (B6.out.grown hg7 B6.out.size (fun j hj => (World.ownsRow.lt O6.out j hj).1))
  have hl7 : (ks ++ [7]).length = m + 1 := by rw [List.length_append, R2.out.1]; rfl
  obtain ⟨A7, cp7, hv7, hcp7, _, hA7⟩ := own_form ho7
  obtain ⟨gk, rfl⟩ : ∃ gk, A7 = some ⟨gk, 0, none⟩ := by
    rcases hA7 with ⟨_, h0⟩ | ⟨gk, e, _⟩
    · omega
    · exact ⟨gk, e⟩
  obtain ⟨cK, hcK⟩ : ∃ cK, cK = (LP w0 P h bs ns ds ++ (M ++ [BP])).length + 1 := ⟨_, rfl⟩
  have hcK2 : 5 + 2 * ds.length < cK := by rw [hcK, List.length_append, LP.len]; omega
  obtain ⟨C7, G7⟩ : ∃ C7, Hid (GS w0 w7 C7 (LP w0 P h bs ns ds ++ (M ++ [BP] ++ [KPt w1.heap.size gk cp7 cK (ks ++ [7])]))) := ⟨_, Lib.hid (by
    have h1 := G1.out.addK (l := ks ++ [7]) (g := gk) (cp := cp7) B7.out (by rw [hv7, hl7]) (v := v7) (N := w1.heap.size) (by rw [hl7, List.map_append]; exact ho7) (Nat.le_refl _)
    rw [← hcK, List.append_assoc] at h1
    exact h1)⟩
  have q10 : w7.cell? ⟨g, 10, none⟩ = some (.slice A m cp) := HBP.out _ _ (GS.lastA (GS.frontA G7.out))
  subst hv7
  have HC := Lib.hid (crashJ (cp := cp7) HAL.out HN.out ks G7.out HX.out ((GS.lastA G7.out).ri R2.out.1 (fun j x hj => by rw [List.getElem?_append_left (List.getElem?_eq_some_iff.1 hj).1]; exact hj)) (by unfold maxLen; omega) (fun _ ad e => by obtain rfl := Option.some.inj e; rw [(GS.lastA G7.out).2 gk rfl]; exact hcK2))
  clear ho7 hg7 ha7 O6 O5 K6 B6 B5 B7 R2 HB1 hA7 G1
  go_wp2_with fail
  refine HC.out.mono ?_
  rintro e w8 ⟨d', C8, hal, rfl, hg8⟩
  have G8 := Lib.hid hg8
  have HAL8 := Lib.hid hal
  clear hg8 hal HC q10 G7
  have q10 : w8.cell? ⟨g, 10, none⟩ = some (.slice A m cp) := HBP.out _ _ (GS.lastA (GS.frontA G8.out))
  have HC := Lib.hid (rcrashJ (cp := cp) (x := { x with n := x.n + 2, d := d' }) HAL.out.rok ks G8.out (List.getElem?_set_self (List.getElem?_eq_some_iff.1 HX.out).1) (G8.out.came HR.out).1 (by unfold maxLen; omega) (G8.out.came HR.out).2)
  clear G8
  go_wp2_with fail
  refine HC.out.mono ?_
  rintro e w9 ⟨C9, rfl, hg9⟩
  rw [List.set_set] at hg9
  obtain ⟨D, hD⟩ : ∃ D, D = ds.set j { x with n := x.n + 2, d := d', r := x.r.crash ks } := ⟨_, rfl⟩
  have hDl : D.length = ds.length := by rw [hD, List.length_set]
  have G9 : Hid (GS w0 w9 C9 (LP w0 P h bs ns D ++ (M ++ [BP] ++ [KPt w1.heap.size gk cp7 cK (ks ++ [7])]))) := Lib.hid (by rw [hD]; exact hg9)
  have HCK : Hid (cK = (LP w0 P h bs ns D ++ (M ++ [BP])).length + 1) := Lib.hid (by rw [hcK]; simp only [List.length_append, LP.len, hDl])
  have HM : Hid (∀ W' C', GS w0 W' C' (LP w0 P h bs ns D ++ (M ++ [BP])) → ChgQ w0 P h bs ns ds j x M (.returned (.bool true)) W') := Lib.hid (fun W' C' hq => ⟨rfl, C', d', _, h.g, HAL8.out, by rw [← hD]; exact GS.frontA hq⟩)
  clear hg9 HC q10 hcK hcK2 hD hDl HAL8 HX HAL HN w8 C8
  go_wp2_with fail
  go_loopw [19] (fun iv W => ∃ k : Nat, k ≤ m ∧ iv = .int .i64 (k : Int) ∧ ∃ (l : List Int) (C' : Nat → Nat), Hid (l.length = m + 1 ∧ ∀ i, k ≤ i → l[i]? = (ks ++ [7])[i]?) ∧ Hid (GS w0 W C' (LP w0 P h bs ns D ++ (M ++ [BP] ++ [KPt w1.heap.size gk cp7 cK l])))) (fun iv _ => m - (intOf iv).toNat)
  case atStart => exact ⟨0, Nat.zero_le _, rfl, _, _, Lib.hid ⟨hl7, fun _ _ => rfl⟩, G9⟩
  case round =>
    clear G9
    obtain ⟨k, hk, rfl, l, Cr, HL, G⟩ := hrel
    have q10 : wr.cell? ⟨g, 10, none⟩ = some (.slice A m cp) := HBP.out _ _ (GS.lastA (GS.frontA G.out))
    by_cases hlt : k < m
    · obtain ⟨y, hy⟩ : ∃ y, ks[k]? = some y := ⟨_, List.getElem?_eq_getElem (by rw [← (G.out.came HR.out).1.1] at hlt; exact hlt)⟩
      obtain ⟨b, off, rfl, _, hcl⟩ := (G.out.came HR.out).1.2 (by omega)
      have c0 : wr.cell? ⟨b, off + k, none⟩ = some (.int .i64 y) := hcl k y hy
      have hly : l[k]? = some y := by rw [HL.out.2 k (Nat.le_refl _), List.getElem?_append_left (List.getElem?_eq_some_iff.1 hy).1]; exact hy
      have c1 : wr.cell? ⟨gk, k, none⟩ = some (.int .i64 y) := (GS.lastA G.out).at_ hly
      have f1 : ∀ q, (wr.drewN q).frozen? ⟨gk, k, none⟩ = false := fun q => (GS.lastA G.out).frozen k
      have d0 : ∀ q, (wr.drewN q).cell? ⟨gk, k, none⟩ = some (.int .i64 y) := fun q => c1
      clear hcl hly hy
      go_upto_region 36 with fail
      go_quiet (fail)
      go_wp2_with fail
      obtain ⟨Cq, HG2⟩ : ∃ Cq, Hid (GS w0 ((wr.drewN nq).setCell ⟨gk, k, none⟩ (.int .i64 99)) Cq (LP w0 P h bs ns D ++ (M ++ [BP] ++ [KPt w1.heap.size gk cp7 cK (l.set k 99)]))) := by
        have h1 := G.out.keep (below_drewN (Below.refl _ _) nq)
        rw [← List.append_assoc] at h1
        obtain ⟨Cq, h2⟩ := h1.putK HCK.out k 99
        rw [List.append_assoc] at h2
        exact ⟨Cq, Lib.hid h2⟩
      go_roundw
      case rel =>
        refine ⟨k + 1, by omega, by go_num, _, _, Lib.hid ⟨by rw [List.length_set]; exact HL.out.1, fun i hi => ?_⟩, HG2⟩
        rw [List.getElem?_set_ne (by omega)]; exact HL.out.2 i (by omega)
      case measure => simp [intOf]; omega
    · obtain rfl : k = m := by omega
      have c1 : wr.cell? ⟨gk, k, none⟩ = some (.int .i64 7) := (GS.lastA G.out).at_ (by
        rw [HL.out.2 k (Nat.le_refl _), List.getElem?_append_right (by rw [(G.out.came HR.out).1.1]; exact Nat.le_refl _), (G.out.came HR.out).1.1]; simp)
      have HF := Lib.hid (HM.out _ _ (GS.frontA G.out))
      go_wp2_with fail
      go_ret
      exact HF.out
end Go.Proofs.YtlojmmcagglpoaaGreat
namespace Go.Proofs.YtlojmmcagglpoaaGreat
open Go.RowKit Go.Maps
theorem LP.more {w0 W : World} {C : Nat → Nat} {P : Nat} {h : Hd} {bs : List (List UInt8)} {ns : List (List (List UInt8))} {ds : List DE} {M : List PartT} (hg : GS w0 W C (LP w0 P h bs ns ds ++ M)) {j : Nat} {x : DE} (hx : ds[j]? = some x) {n' : Nat} (h1 : x.n ≤ n') (h2 : n' < 1000000) : GS w0 W C (LP w0 P h bs ns (ds.set j { x with n := n' }) ++ M) := by
  have hk := LP.atD (w0 := w0) (P := P) (h := h) (bs := bs) (ns := ns) hx
  have hlt := (List.getElem?_eq_some_iff.1 hk).1
  refine hg.as (k := 5 + 2 * j) (T := DCp w0 (5 + 2 * j + 1) x.p x.n x.d) (T' := DCp w0 (5 + 2 * j + 1) x.p n' x.d) (by rw [List.getElem?_append_left hlt]; exact hk) ((LP.dk hg hx).more h1 h2) (Stb.dcp _ _ _ _ _) ?_
  rw [set_append _ _ _ _ hlt, LP.setD hx]
set_option maxRecDepth 20000 in
set_option maxHeartbeats 4000000 in
theorem changes_none {w0 W : World} {C : Nat → Nat} {P : Nat} {h : Hd} {bs : List (List UInt8)} {ns : List (List (List UInt8))} {ds : List DE} {M : List PartT} {j : Nat} {x : DE} (hG : GS w0 W C (LP w0 P h bs ns ds ++ M)) (hx : ds[j]? = some x) (al : Alike x.d x.r x.n) (hn : x.n + 2 < 1000000) (o : OpP) (hk : o.k ≠ 0 ∧ o.k ≠ 1 ∧ o.k ≠ 2 ∧ o.k ≠ 3 ∧ o.k ≠ 4 ∧ o.k ≠ 5 ∧ o.k ≠ 10) : Calls Tryz.prog 59 #[.pointer (some ⟨P, 0, none⟩), .pointer (some ⟨x.p, 0, none⟩), .pointer (some ⟨x.q, 0, none⟩), .agg (opC o)] W (ChgQ w0 P h bs ns ds j x M) := by
  obtain ⟨w1, hw1⟩ : ∃ w1, w1 = W.alloc (.cells (opC o) 41) := ⟨_, rfl⟩
  have hb : Below W.heap.size W w1 := by rw [hw1]; exact (Below.refl _ _).alloc (Nat.le_refl _) _
  have HF : Hid (ChgQ w0 P h bs ns ds j x M (.returned (.bool true)) w1) := Lib.hid ⟨rfl, C, x.d, x.r, h.g, al.more (by omega) (by omega), LP.more (hG.keep hb) hx (by omega) hn⟩
  have q0 : w1.cell? ⟨W.heap.size, 0, none⟩ = some (.int .i64 o.k) := by rw [hw1]; exact ((Blk.new W _ _ rfl).cell 0).trans rfl
  obtain ⟨k0, k1, k2, k3, k4, k5, k10⟩ := hk
  unfold opC at hw1 ⊢
  clear hb hG hx al
  have e0 : (o.k == 0) = false := beq_false_of_ne k0
  have e1 : (o.k == 1) = false := beq_false_of_ne k1
  have e2 : (o.k == 2) = false := beq_false_of_ne k2
  have e3 : (o.k == 3) = false := beq_false_of_ne k3
  have e4 : (o.k == 4) = false := beq_false_of_ne k4
  have e5 : (o.k == 5) = false := beq_false_of_ne k5
  have e10 : (o.k == 10) = false := beq_false_of_ne k10
  go_enter Tryz.func59, Tryz.ntmps59
  go_upto_region 1 with fail
  rw [← hw1]
  clear hw1
  go_wp2_with fail
  go_ret
  exact HF.out
theorem changes_any {w0 W : World} {C : Nat → Nat} {P : Nat} {h : Hd} {bs : List (List UInt8)} {ns : List (List (List UInt8))} {ds : List DE} {M : List PartT} {j : Nat} {x : DE} (hG : GS w0 W C (LP w0 P h bs ns ds ++ M)) (hx : ds[j]? = some x) (al : Alike x.d x.r x.n) (hn : x.n + 2 < 1000000) (o : OpP) (ho : o.In w0) : Calls Tryz.prog 59 #[.pointer (some ⟨P, 0, none⟩), .pointer (some ⟨x.p, 0, none⟩), .pointer (some ⟨x.q, 0, none⟩), .agg (opC o)] W (ChgQ w0 P h bs ns ds j x M) := by
  obtain ⟨k, dd, a, b, s, tm, nn, mm, off, size, A, m, cp, ks⟩ := o
  by_cases k0 : k = 0
  · subst k0; exact changes_create hG hx al hn dd a b s tm nn mm off size A m cp
  by_cases k1 : k = 1
  · subst k1
    cases hgv : h.g with
    | true => exact changes_append_true hG hx al hn hgv dd a b s tm nn mm off size A m cp ho.1
    | false => exact changes_append_false hG hx al hn hgv dd a b s tm nn mm off size A m cp ho.1
  by_cases k2 : k = 2
  · subst k2; exact changes_cut hG hx al hn dd a b s tm nn mm off size A m cp
  by_cases k3 : k = 3
  · subst k3; exact changes_rename hG hx al hn dd a b s tm nn mm off size A m cp
  by_cases k4 : k = 4
  · subst k4; exact changes_remove hG hx al hn dd a b s tm nn mm off size A m cp
  by_cases k5 : k = 5
  · subst k5; exact changes_sync hG hx al hn dd a b s tm nn mm off size A m cp
  by_cases k10 : k = 10
  · subst k10; exact changes_crash hG hx al hn dd a b s tm nn mm off size A m cp ho.2.1.1 ho.2.1.2
  · exact changes_none hG hx al hn _ ⟨k0, k1, k2, k3, k4, k5, k10⟩
end Go.Proofs.YtlojmmcagglpoaaGreat
