/- THE WALK of does (package heronlaw17; printed by a program of ours). -/
import Derived.Test.YtlojmmcagglpoaaZBigApp
import Derived.Test.YtlojmmcagglpoaaZFwAsk
import Derived.Test.YtlojmmcagglpoaaZRow
namespace Go.Proofs.Ytlojmmcagglpoaa
open Go.RowKit Go.Maps
/-- an operation -/
structure O17 where
  k : Int
  a : List UInt8
  b : List UInt8
  s : List UInt8
  A : Option Addr
  m : Nat
  cp : Nat
  ks : List Int
  n : Int
  mr : FwS
def oC17 (o : O17) : Array Value := #[.int .i64 o.k, .string (strB o.a), .string (strB o.b), .string (strB o.s), .slice o.A o.m o.cp, .int .i64 o.n, .int .i64 o.mr.se, .int .i64 o.mr.ino, .int .i64 o.mr.ge, .int .i64 o.mr.off, .int .i64 o.mr.mi, .int .i64 o.mr.go, .int .i64 o.mr.cu, .int .i64 o.mr.ta, .int .i64 o.mr.lo]
/-- what an operation's data must keep to -/
structure O17.In (W : World) (o : O17) : Prop where
  s : o.s.length ≤ 140737488351232
  r : RI W o.A o.m o.ks
  m : o.m * 8 ≤ 140737488355328
  n : okInt o.n
theorem O17.In.keep {W W' : World} {o : O17} (h : o.In W) (hb : Below W.heap.size W W') : o.In W' := ⟨h.s, h.r.keep hb, h.m, h.n⟩
def DoesQ (W : World) (N : Nat) (C : Nat → Nat) (c p n : Nat) (d : Dk) (e : Ending) (w' : World) : Prop :=
  ∃ d', e = .returned (.tuple #[]) ∧ Mv d d' ∧ DC w' N (paint C W.heap.size c) c p (n + 2) d' ∧ Chg (fun b => C b = c) W w'
theorem infoI : (Try.prog.info? 3).map (fun i => (i.zero, i.size, i.bytes)) = some (some (.int .i64 0), 1, 8) := by kernel_rfl
theorem ri_of_row {w : World} {base : Nat} {A : Option Addr} {m cp : Nat} {ks : List Int} (hl : ks.length = m) (h : w.ownsRow base 3 1 (.slice A m cp) m (ks.map iV')) : RI w A m ks := by
  refine ⟨hl, fun hm => ?_⟩
  rcases h.2 with ⟨hv, hz⟩ | ⟨gb, cap', cur, hv, _, _⟩
  · omega
  · have hv' := hv
    injection hv with e1 _ _
    subst e1
    refine ⟨gb, 0, rfl, (h.lt gb rfl).2, fun j k hj => ?_⟩
    have h1 := World.ownsRow.cellAt h j (by have := (List.getElem?_eq_some_iff.1 hj).1; omega)
    rw [Nat.zero_add, h1, List.getElem?_map, hj]; rfl
set_option maxRecDepth 20000 in
theorem does17_create {W : World} {N : Nat} {C : Nat → Nat} {c p n : Nat} {d : Dk} (h : DC W N C c p n d) (hn : n + 2 < 1000000) (o : O17) (hk : o.k = 0) : Calls Try.prog 30 #[.pointer (some ⟨p, 0, none⟩), .agg (oC17 o)] W (DoesQ W N C c p n d) := by
  obtain ⟨w1, hw1⟩ : ∃ w1, w1 = W.alloc (.cells (oC17 o) 85) := ⟨_, rfl⟩
  have hb : Below W.heap.size W w1 := by rw [hw1]; exact (Below.refl _ _).alloc (Nat.le_refl _) _
  have CC := Lib.hid (create_g (h.keep hb (sam_paint C W.heap.size c)) hn o.a)
  have HB := Lib.hid hb
  have HM := Lib.hid (Mv.create h.ok o.a)
  have q1 : w1.cell? ⟨W.heap.size, 1, none⟩ = some (.string (strB o.a)) := by
    rw [hw1]; exact ((Blk.new W _ _ rfl).cell 1).trans rfl
  unfold oC17 at hw1 ⊢
  rw [hk] at hw1 ⊢
  clear hb h hk
  go_enter Try.func30, Try.ntmps30
  go_upto_region 3 with fail
  rw [← hw1]
  clear hw1
  go_wp2_with fail
  refine CC.out.mono ?_
  rintro e w2 hq
  have he := hq.1
  have HF : Hid (DoesQ W N C c p n d (.returned (.tuple #[])) w2) := Lib.hid (by
    have h2 := StepQ.behind HB.out hq
    exact ⟨_, rfl, HM.out, h2.2.1, h2.2.2⟩)
  subst he
  clear hq CC
  go_wp2_with fail
  go_end0
  exact HF.out
set_option maxRecDepth 20000 in
theorem does17_cut {W : World} {N : Nat} {C : Nat → Nat} {c p n : Nat} {d : Dk} (h : DC W N C c p n d) (hn : n + 2 < 1000000) (o : O17) (hk : o.k = 2) : Calls Try.prog 30 #[.pointer (some ⟨p, 0, none⟩), .agg (oC17 o)] W (DoesQ W N C c p n d) := by
  obtain ⟨w1, hw1⟩ : ∃ w1, w1 = W.alloc (.cells (oC17 o) 85) := ⟨_, rfl⟩
  have hb : Below W.heap.size W w1 := by rw [hw1]; exact (Below.refl _ _).alloc (Nat.le_refl _) _
  have CC := Lib.hid (cut_g (h.keep hb (sam_paint C W.heap.size c)) hn o.a)
  have HB := Lib.hid hb
  have HM := Lib.hid (Mv.cut h.ok o.a)
  have q1 : w1.cell? ⟨W.heap.size, 1, none⟩ = some (.string (strB o.a)) := by
    rw [hw1]; exact ((Blk.new W _ _ rfl).cell 1).trans rfl
  unfold oC17 at hw1 ⊢
  rw [hk] at hw1 ⊢
  clear hb h hk
  go_enter Try.func30, Try.ntmps30
  go_upto_region 7 with fail
  rw [← hw1]
  clear hw1
  go_wp2_with fail
  refine CC.out.mono ?_
  rintro e w2 hq
  have he := hq.1
  have HF : Hid (DoesQ W N C c p n d (.returned (.tuple #[])) w2) := Lib.hid (by
    have h2 := StepQ.behind HB.out hq
    exact ⟨_, rfl, HM.out, h2.2.1, h2.2.2⟩)
  subst he
  clear hq CC
  go_wp2_with fail
  go_end0
  exact HF.out
set_option maxRecDepth 20000 in
theorem does17_rename {W : World} {N : Nat} {C : Nat → Nat} {c p n : Nat} {d : Dk} (h : DC W N C c p n d) (hn : n + 2 < 1000000) (o : O17) (hk : o.k = 3) : Calls Try.prog 30 #[.pointer (some ⟨p, 0, none⟩), .agg (oC17 o)] W (DoesQ W N C c p n d) := by
  obtain ⟨w1, hw1⟩ : ∃ w1, w1 = W.alloc (.cells (oC17 o) 85) := ⟨_, rfl⟩
  have hb : Below W.heap.size W w1 := by rw [hw1]; exact (Below.refl _ _).alloc (Nat.le_refl _) _
  have CC := Lib.hid (rename_g (h.keep hb (sam_paint C W.heap.size c)) hn o.a o.b)
  have HB := Lib.hid hb
  have HM := Lib.hid (Mv.rename h.ok o.a o.b)
  have q1 : w1.cell? ⟨W.heap.size, 1, none⟩ = some (.string (strB o.a)) := by
    rw [hw1]; exact ((Blk.new W _ _ rfl).cell 1).trans rfl
  have q2 : w1.cell? ⟨W.heap.size, 2, none⟩ = some (.string (strB o.b)) := by
    rw [hw1]; exact ((Blk.new W _ _ rfl).cell 2).trans rfl
  unfold oC17 at hw1 ⊢
  rw [hk] at hw1 ⊢
  clear hb h hk
  go_enter Try.func30, Try.ntmps30
  go_upto_region 9 with fail
  rw [← hw1]
  clear hw1
  go_wp2_with fail
  refine CC.out.mono ?_
  rintro e w2 hq
  have he := hq.1
  have HF : Hid (DoesQ W N C c p n d (.returned (.tuple #[])) w2) := Lib.hid (by
    have h2 := StepQ.behind HB.out hq
    exact ⟨_, rfl, HM.out, h2.2.1, h2.2.2⟩)
  subst he
  clear hq CC
  go_wp2_with fail
  go_end0
  exact HF.out
set_option maxRecDepth 20000 in
theorem does17_remove {W : World} {N : Nat} {C : Nat → Nat} {c p n : Nat} {d : Dk} (h : DC W N C c p n d) (hn : n + 2 < 1000000) (o : O17) (hk : o.k = 4) : Calls Try.prog 30 #[.pointer (some ⟨p, 0, none⟩), .agg (oC17 o)] W (DoesQ W N C c p n d) := by
  obtain ⟨w1, hw1⟩ : ∃ w1, w1 = W.alloc (.cells (oC17 o) 85) := ⟨_, rfl⟩
  have hb : Below W.heap.size W w1 := by rw [hw1]; exact (Below.refl _ _).alloc (Nat.le_refl _) _
  have CC := Lib.hid (remove_g (h.keep hb (sam_paint C W.heap.size c)) hn o.a)
  have HB := Lib.hid hb
  have HM := Lib.hid (Mv.remove h.ok o.a)
  have q1 : w1.cell? ⟨W.heap.size, 1, none⟩ = some (.string (strB o.a)) := by
    rw [hw1]; exact ((Blk.new W _ _ rfl).cell 1).trans rfl
  unfold oC17 at hw1 ⊢
  rw [hk] at hw1 ⊢
  clear hb h hk
  go_enter Try.func30, Try.ntmps30
  go_upto_region 11 with fail
  rw [← hw1]
  clear hw1
  go_wp2_with fail
  refine CC.out.mono ?_
  rintro e w2 hq
  have he := hq.1
  have HF : Hid (DoesQ W N C c p n d (.returned (.tuple #[])) w2) := Lib.hid (by
    have h2 := StepQ.behind HB.out hq
    exact ⟨_, rfl, HM.out, h2.2.1, h2.2.2⟩)
  subst he
  clear hq CC
  go_wp2_with fail
  go_end0
  exact HF.out
set_option maxRecDepth 20000 in
theorem does17_sync {W : World} {N : Nat} {C : Nat → Nat} {c p n : Nat} {d : Dk} (h : DC W N C c p n d) (hn : n + 2 < 1000000) (o : O17) (hk : o.k = 5) : Calls Try.prog 30 #[.pointer (some ⟨p, 0, none⟩), .agg (oC17 o)] W (DoesQ W N C c p n d) := by
  obtain ⟨w1, hw1⟩ : ∃ w1, w1 = W.alloc (.cells (oC17 o) 85) := ⟨_, rfl⟩
  have hb : Below W.heap.size W w1 := by rw [hw1]; exact (Below.refl _ _).alloc (Nat.le_refl _) _
  have CC := Lib.hid (sync_g (h.keep hb (sam_paint C W.heap.size c)) hn o.a)
  have HB := Lib.hid hb
  have HM := Lib.hid (Mv.sync h.ok o.a)
  have q1 : w1.cell? ⟨W.heap.size, 1, none⟩ = some (.string (strB o.a)) := by
    rw [hw1]; exact ((Blk.new W _ _ rfl).cell 1).trans rfl
  unfold oC17 at hw1 ⊢
  rw [hk] at hw1 ⊢
  clear hb h hk
  go_enter Try.func30, Try.ntmps30
  go_upto_region 13 with fail
  rw [← hw1]
  clear hw1
  go_wp2_with fail
  refine CC.out.mono ?_
  rintro e w2 hq
  have he := hq.1
  have HF : Hid (DoesQ W N C c p n d (.returned (.tuple #[])) w2) := Lib.hid (by
    have h2 := StepQ.behind HB.out hq
    exact ⟨_, rfl, HM.out, h2.2.1, h2.2.2⟩)
  subst he
  clear hq CC
  go_wp2_with fail
  go_end0
  exact HF.out
set_option maxRecDepth 20000 in
theorem does17_append {W : World} {N : Nat} {C : Nat → Nat} {c p n : Nat} {d : Dk} (h : DC W N C c p n d) (hn : n + 2 < 1000000) (o : O17) (hk : o.k = 1) (hs : o.s.length ≤ 140737488351232) : Calls Try.prog 30 #[.pointer (some ⟨p, 0, none⟩), .agg (oC17 o)] W (DoesQ W N C c p n d) := by
  obtain ⟨w1, hw1⟩ : ∃ w1, w1 = W.alloc (.cells (oC17 o) 85) := ⟨_, rfl⟩
  have hb : Below W.heap.size W w1 := by rw [hw1]; exact (Below.refl _ _).alloc (Nat.le_refl _) _
  obtain ⟨w2, sb, sc, hrun, hb2, hrb⟩ := conv_str w1 o.s
  have CC := Lib.hid (append_gb (cp := sc) (h.keep (hb.trans (hb2.mono hb.size)) (sam_paint C W.heap.size c)) hn o.a _ _ o.s hrb hs)
  have HB := Lib.hid (hb.trans (hb2.mono hb.size))
  have HM := Lib.hid (Mv.append h.ok o.a o.s)
  have K1 : Hid (Blk w1 W.heap.size 85 (oC17 o)) := Lib.hid (by rw [hw1]; exact Blk.new W _ _ rfl)
  have q1 : w1.cell? ⟨W.heap.size, 1, none⟩ = some (.string (strB o.a)) := (K1.out.cell 1).trans rfl
  have q3 : w1.cell? ⟨W.heap.size, 3, none⟩ = some (.string (strB o.s)) := (K1.out.cell 3).trans rfl
  unfold oC17 at hw1 ⊢
  rw [hk] at hw1 ⊢
  clear hb hb2 hrb h hk hs K1
  go_enter Try.func30, Try.ntmps30
  go_upto_region 5 with fail
  rw [← hw1]
  clear hw1
  go_wp2_with fail
  refine CC.out.mono ?_
  rintro e w3 hq
  have he := hq.1
  have HF : Hid (DoesQ W N C c p n d (.returned (.tuple #[])) w3) := Lib.hid (by
    have h2 := StepQ.behind HB.out hq
    exact ⟨_, rfl, HM.out, h2.2.1, h2.2.2⟩)
  subst he
  clear hq CC
  go_wp2_with fail
  go_end0
  exact HF.out
set_option maxRecDepth 20000 in
theorem does17_crash {W : World} {N : Nat} {C : Nat → Nat} {c p n : Nat} {d : Dk} (h : DC W N C c p n d) (hn : n + 2 < 1000000) (o : O17) (hk : o.k = 6) (hr : RI W o.A o.m o.ks) (hm : o.m * 8 ≤ 140737488355328) : Calls Try.prog 30 #[.pointer (some ⟨p, 0, none⟩), .agg (oC17 o)] W (DoesQ W N C c p n d) := by
  obtain ⟨w1, hw1⟩ : ∃ w1, w1 = W.alloc (.cells (oC17 o) 85) := ⟨_, rfl⟩
  have hb : Below W.heap.size W w1 := by rw [hw1]; exact (Below.refl _ _).alloc (Nat.le_refl _) _
  have H := Lib.hid h
  have HB := Lib.hid hb
  have HR := Lib.hid (hr.keep hb)
  have K1 : Hid (Blk w1 W.heap.size 85 (oC17 o)) := Lib.hid (by rw [hw1]; exact Blk.new W _ _ rfl)
  have q10 : w1.cell? ⟨W.heap.size, 4, none⟩ = some (.slice o.A o.m o.cp) := (K1.out.cell 4).trans rfl
  unfold oC17 at hw1 ⊢
  rw [hk] at hw1 ⊢
  clear hb h hk hr
  go_enter Try.func30, Try.ntmps30
  go_upto_region 15 with fail
  rw [← hw1]
  clear hw1
  have q10' : (w1.alloc (.cells #[] 3)).cell? ⟨W.heap.size, 4, none⟩ = some (.slice o.A o.m o.cp) := cell_later ((Below.refl _ w1).alloc (Nat.le_refl _) _) q10
  have O2 : Hid ((w1.alloc (.cells #[] 3)).ownsRow W.heap.size 3 1 (.slice (some ⟨w1.heap.size, 0, none⟩) 0 0) 0 []) := Lib.hid (World.ownsRow_made w1 #[] 0 HB.out.size (Nat.zero_le _) rfl)
  have B2 := Lib.hid (HB.out.alloc HB.out.size (.cells #[] 3))
  have R2 := Lib.hid (HR.out.keep ((Below.refl _ _).alloc (Nat.le_refl _) (.cells #[] 3)))
  have HN : Hid ((o.ks.map iV').length = o.m * 1 ∧ (o.A = none → o.m = 0) ∧ ∀ ad, o.A = some ad → ∀ (j : Nat) (u : Value), (o.ks.map iV')[j]? = some u → (w1.alloc (.cells #[] 3)).cell? (ad.add j) = some u) := Lib.hid ⟨by rw [List.length_map, R2.out.1, Nat.mul_one], fun e => (by
    rcases Nat.eq_zero_or_pos o.m with h | h
    · exact h
    · obtain ⟨b, off, e', _⟩ := R2.out.2 h
      rw [e] at e'
      cases e'), fun ad e j u hj => by
    rw [List.getElem?_map] at hj
    obtain ⟨k, hk, rfl⟩ := Option.map_eq_some_iff.1 hj
    have hjl := (List.getElem?_eq_some_iff.1 hk).1
    obtain ⟨b, off, e', _, hc⟩ := R2.out.2 (by rw [R2.out.1] at hjl; omega)
    rw [e] at e'
    obtain rfl := Option.some.inj e'
    have : (⟨b, off, none⟩ : Addr).add j = ⟨b, off + j, none⟩ := by
      unfold Addr.add
      by_cases h : j = 0
      · subst h; simp
      · simp [h]
    rw [this]
    exact hc j k hk⟩
  go_wp2_with ((at_builtin; go_must (refine append_row rfl (.tmp 50) (.tmp 52) 60 3 rfl Try.underlying60 infoI rfl (by decide) W.heap.size (.slice (some ⟨w1.heap.size, 0, none⟩) 0 0) 0 [] rfl O2.out o.A o.m o.cp (o.ks.map iV') rfl HN.out.1 HN.out.2.1 HN.out.2.2 (fun u hu => by obtain ⟨k, _, rfl⟩ := List.mem_map.1 hu; rfl) (by omega) (by unfold maxLen; omega) B2.out.size ?_); intro v5 w5 ho5 hg5 ha5; refine halt ?_))
  refine unhalt ?_
  have O5 : Hid (w5.ownsRow W.heap.size 3 1 v5 o.m (o.ks.map iV')) := Lib.hid (by simpa using ho5)
  have B5 := Lib.hid (B2.out.grown hg5 B2.out.size (fun j hj => (World.ownsRow.lt O2.out j hj).1))
  obtain ⟨A5, cp5, hv5, _⟩ := own_form O5.out
  subst hv5
  have R5 := Lib.hid (ri_of_row R2.out.1 O5.out)
  have CX := Lib.hid (crash_c (cp := cp5) (H.out.keep B5.out (sam_paint C W.heap.size (c + 1))) (by omega) R5.out (by unfold maxLen; omega) (fun h0 ad e => by
    have h1 := (World.ownsRow.lt O5.out ad.block (by rw [e]; rfl)).1
    rw [paint_new C _ h1]; omega))
  clear ho5 hg5 ha5 HN R2 O2 B2 q10 q10' K1 HR
  go_wp2_with fail
  refine CX.out.mono ?_
  rintro e w6 ⟨ss, rfl, h1, h2, h3, h4⟩
  have HF : Hid (DoesQ W N C c p n d (.returned (.tuple #[])) w6) := Lib.hid ⟨_, rfl, Mv.crash h1 h2, (h3.repaint (C := C) (h0 := W.heap.size) (fun b hb => by rw [paint_old _ _ (Nat.lt_of_lt_of_le hb B5.out.size), paint_old _ _ hb])).more (by omega) hn, (Chg.of_below B5.out _).trans h4 (fun b hb e => by rw [paint_old C (c + 1) hb] at e; exact e)⟩
  clear h1 h2 h3 h4 CX
  go_wp2_with fail
  go_end0
  exact HF.out
theorem does17_any {W : World} {N : Nat} {C : Nat → Nat} {c p n : Nat} {d : Dk} (h : DC W N C c p n d) (hn : n + 2 < 1000000) (o : O17) (ho : o.In W) (_hk : o.k < 7) : Calls Try.prog 30 #[.pointer (some ⟨p, 0, none⟩), .agg (oC17 o)] W (DoesQ W N C c p n d) := by
  by_cases k0 : o.k = 0
  · exact does17_create h hn o k0
  by_cases k1 : o.k = 1
  · exact does17_append h hn o k1 ho.s
  by_cases k2 : o.k = 2
  · exact does17_cut h hn o k2
  by_cases k3 : o.k = 3
  · exact does17_rename h hn o k3
  by_cases k4 : o.k = 4
  · exact does17_remove h hn o k4
  by_cases k5 : o.k = 5
  · exact does17_sync h hn o k5
  by_cases k6 : o.k = 6
  · exact does17_crash h hn o k6 ho.r ho.m
  have HF : Hid (DoesQ W N C c p n d (.returned (.tuple #[])) (W.alloc (.cells (oC17 o) 85))) := Lib.hid (by
    have hb : Below W.heap.size W (W.alloc (.cells (oC17 o) 85)) := (Below.refl _ _).alloc (Nat.le_refl _) _
    exact ⟨d, rfl, Mv.refl d, (h.keep hb (sam_paint _ _ _)).more (by omega) hn, Chg.of_below hb _⟩)
  obtain ⟨k, hkk⟩ : ∃ k, k = o.k := ⟨_, rfl⟩
  unfold oC17 at HF ⊢
  rw [← hkk] at k0 k1 k2 k3 k4 k5 k6 HF ⊢
  clear hkk h _hk ho
  go_enter Try.func30, Try.ntmps30
  go_wp2_with fail
  go_end0
  exact HF.out
end Go.Proofs.Ytlojmmcagglpoaa
