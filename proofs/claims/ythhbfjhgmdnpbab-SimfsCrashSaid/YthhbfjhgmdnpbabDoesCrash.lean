/- THE WALK of does at a crash (package heronlaw14). -/
import Derived.Test.YthhbfjhgmdnpbabDoes
import Derived.Test.YthhbfjhgmdnpbabRow
namespace Go.Proofs.Ythhbfjhgmdnpbab
open Go.RowKit Go.Maps
theorem infoI : (Try.prog.info? 3).map (fun i => (i.zero, i.size, i.bytes)) = some (some (.int .i64 0), 1, 8) := by kernel_rfl
theorem ri_of_row {w : World} {base : Nat} {A : Option Addr} {m cp : Nat} {ks : List Int} (hl : ks.length = m) (h : w.ownsRow base 3 1 (.slice A m cp) m (ks.map iV')) : RI w A m ks := by
  refine ⟨hl, fun hm => ?_⟩
  rcases h.2 with ⟨hv, hz⟩ | ⟨gb, cap', cur, hv, _, _⟩
  · omega
  · have hv' := hv
    injection hv with e1 _ _
    subst e1
    refine ⟨gb, 0, rfl, (h.lt gb rfl).2, fun j k hj => ?_⟩
    have h1 := World.ownsRow.cellAt h j (by have := (List.getElem?_eq_some_iff.1 hj).1; omega)
    rw [Nat.zero_add, h1, List.getElem?_map, hj]; rfl
set_option maxRecDepth 20000 in
theorem does_crash {W : World} {N : Nat} {C : Nat → Nat} {c p n : Nat} {d : Dk} (h : DC W N C c p n d) (hn : n + 2 < 1000000) (o : O14) (hk : o.k = 10) (hr : RI W o.A o.m o.ks) (hm : o.m * 8 ≤ 140737488355328) : Calls Try.prog 6 #[.pointer (some ⟨p, 0, none⟩), .agg (oC o)] W (DoesQ W N C c p n d o) := by
  obtain ⟨w1, hw1⟩ : ∃ w1, w1 = W.alloc (.cells (oC o) 31) := ⟨_, rfl⟩
  have hb : Below W.heap.size W w1 := by rw [hw1]; exact (Below.refl _ _).alloc (Nat.le_refl _) _
  have H := Lib.hid h
  have HB := Lib.hid hb
  have HK := Lib.hid hk
  have HR := Lib.hid (hr.keep hb)
  have K1 : Hid (Blk w1 W.heap.size 31 (oC o)) := Lib.hid (by rw [hw1]; exact Blk.new W _ _ rfl)
  have q10 : w1.cell? ⟨W.heap.size, 10, none⟩ = some (.slice o.A o.m o.cp) := (K1.out.cell 10).trans rfl
  unfold oC at hw1 ⊢
  rw [hk] at hw1 ⊢
  clear hb h hk hr
  go_enter Try.func6, Try.ntmps6
  go_upto_region 17 with fail
  rw [← hw1]
  clear hw1
  have q10' : (w1.alloc (.cells #[] 3)).cell? ⟨W.heap.size, 10, none⟩ = some (.slice o.A o.m o.cp) := cell_later ((Below.refl _ w1).alloc (Nat.le_refl _) _) q10
  have O2 : Hid ((w1.alloc (.cells #[] 3)).ownsRow W.heap.size 3 1 (.slice (some ⟨w1.heap.size, 0, none⟩) 0 0) 0 []) := Lib.hid (World.ownsRow_made w1 #[] 0 HB.out.size (Nat.zero_le _) rfl)
  have B2 := Lib.hid (HB.out.alloc HB.out.size (.cells #[] 3))
  have R2 := Lib.hid (HR.out.keep ((Below.refl _ _).alloc (Nat.le_refl _) (.cells #[] 3)))
  have HN : Hid ((o.ks.map iV').length = o.m * 1 ∧ (o.A = none → o.m = 0) ∧ ∀ ad, o.A = some ad → ∀ (j : Nat) (u : Value), (o.ks.map iV')[j]? = some u → (w1.alloc (.cells #[] 3)).cell? (ad.add j) = some u) := Lib.hid ⟨by rw [List.length_map, R2.out.1, Nat.mul_one], fun e => (by
    rcases Nat.eq_zero_or_pos o.m with h | h
    · exact h
    · obtain ⟨b, off, e', _⟩ := R2.out.2 h
      rw [e] at e'
      cases e'), fun ad e j u hj => by
    rw [List.getElem?_map] at hj
    obtain ⟨k, hk, rfl⟩ := Option.map_eq_some_iff.1 hj
    have hjl := (List.getElem?_eq_some_iff.1 hk).1
    obtain ⟨b, off, e', _, hc⟩ := R2.out.2 (by rw [R2.out.1] at hjl; omega)
    rw [e] at e'
    obtain rfl := Option.some.inj e'
    have : (⟨b, off, none⟩ : Addr).add j = ⟨b, off + j, none⟩ := by
      unfold Addr.add
      by_cases h : j = 0
      · subst h; simp
      · simp [h]
    rw [this]
    exact hc j k hk⟩
  go_wp2_with ((at_builtin; go_must (refine append_row rfl (.tmp 66) (.tmp 68) 23 3 rfl Try.underlying23 infoI rfl (by decide) W.heap.size (.slice (some ⟨w1.heap.size, 0, none⟩) 0 0) 0 [] rfl O2.out o.A o.m o.cp (o.ks.map iV') rfl HN.out.1 HN.out.2.1 HN.out.2.2 (fun u hu => by obtain ⟨k, _, rfl⟩ := List.mem_map.1 hu; rfl) (by omega) (by unfold maxLen; omega) B2.out.size ?_); intro v5 w5 ho5 hg5 ha5; refine halt ?_))
  refine unhalt ?_
  have O5 : Hid (w5.ownsRow W.heap.size 3 1 v5 o.m (o.ks.map iV')) := Lib.hid (by simpa using ho5)
  have B5 := Lib.hid (B2.out.grown hg5 B2.out.size (fun j hj => (World.ownsRow.lt O2.out j hj).1))
  obtain ⟨A5, cp5, hv5, _⟩ := own_form O5.out
  subst hv5
  have R5 := Lib.hid (ri_of_row R2.out.1 O5.out)
  have CX := Lib.hid (crash_c (cp := cp5) (H.out.keep B5.out (sam_paint C W.heap.size (c + 1))) (by omega) R5.out (by unfold maxLen; omega) (fun h0 ad e => by
    have h1 := (World.ownsRow.lt O5.out ad.block (by rw [e]; rfl)).1
    rw [paint_new C _ h1]; omega))
  clear ho5 hg5 ha5 HN R2 O2 B2 q10 q10' K1 HR
  go_wp2_with fail
  refine CX.out.mono ?_
  rintro e w6 ⟨ss, rfl, h1, h2, h3, h4⟩
  have HF : Hid (DoesQ W N C c p n d o (.returned (.tuple #[.int .i64 0, .bool false])) w6) := Lib.hid ⟨0, false, _, rfl, .inr (.inr (.inr (.inr (.inr (.inr (.inl ⟨HK.out, rfl, rfl, ss, h1, h2, rfl⟩)))))), (h3.repaint (C := C) (h0 := W.heap.size) (fun b hb => by rw [paint_old _ _ (Nat.lt_of_lt_of_le hb B5.out.size), paint_old _ _ hb])).more (by omega) hn, (Chg.of_below B5.out _).trans h4 (fun b hb e => by rw [paint_old C (c + 1) hb] at e; exact e)⟩
  clear h1 h2 h3 h4 CX
  go_wp2_with fail
  go_ret2
  exact HF.out
end Go.Proofs.Ythhbfjhgmdnpbab
