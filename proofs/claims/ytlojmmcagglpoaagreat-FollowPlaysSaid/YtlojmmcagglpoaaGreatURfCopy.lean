/- THE WALK of the document's Copy (heronref14). -/
import Derived.Test.YtlojmmcagglpoaaGreatUDS
import Derived.Test.YtlojmmcagglpoaaGreatURegL
import Derived.Test.YtlojmmcagglpoaaGreatURfAlike
import Derived.Test.YtlojmmcagglpoaaGreatURfOpsB
import Derived.Deep.DrawnRows
namespace Go.Proofs.YtlojmmcagglpoaaGreat
open Go.RowKit Go.Maps
theorem step_append_row {w : World} {ops : Array Oper} {o : Oper} {a : Act} {K : Act → World → Prop} {Q : Exit → Act → World → Prop} {E : Prop} (hgd : o.guard = none) (s x : Operand) (t e : TypeId) {z : Value} {size by_ : Nat}
    (ho : o.op = .call { callee := .builtin .append, args := #[s, x], argTypes := #[t, t] }) (ht : Tryz.prog.underlying t = some (.slice e)) (hinfo : (Tryz.prog.info? e).map (fun i => (i.zero, i.size, i.bytes)) = some (some z, size, by_)) (hz : z.cells.size = size) (hsz : 0 < size)
    (base : Nat) (v : Value) (n : Nat) (xs : List Value) (hs : a.eval s = v) (hown : w.ownsRow base e size v n xs)
    (A : Option Addr) (m c : Nat) (news : List Value) (hx : a.eval x = .slice A m c) (hl : news.length = m * size) (hA : A = none → m = 0) (hnews : ∀ ad, A = some ad → ∀ j u, news[j]? = some u → w.cell? (ad.add j) = some u) (h1 : ∀ u ∈ news, u.oneCell' = true)
    (hlen : (n + m) * by_ ≤ 140737488355328) (hmax : n + m ≤ maxLen) (hbase : base ≤ w.heap.size)
    (h : ∀ v' w', w'.ownsRow base e size v' (n + m) (xs ++ news) → w.grownBy w' v.ownBlock → (v'.ownBlock = v.ownBlock ∨ v'.ownBlock = some w.heap.size) → K (a.put o.dst v') w') :
    if Region.wanted o (yielded ops a.tmps) = true then Oper.wp Tryz.prog o a w K Q else E := by
  have hw : Region.wanted o (yielded ops a.tmps) = true := by simp [Region.wanted, hgd]
  rw [if_pos hw]
  obtain ⟨v', w', hrun, h2, h3, h4⟩ := run_append_row (P := Tryz.prog) w base t o.type e ht hinfo hz hsz v n xs hown A m c news hl hA hnews h1 hlen hmax hbase
  unfold Oper.wp execOp
  simp only [ho, resolve, invoke, builtin, Sem.run_bind, Sem.run_pure, Result.andThen_ok, List.map_toArray, List.map_cons, List.map_nil, hs, hx, hrun]
  exact h v' w' h2 h3 h4
section
variable {W W1 w5 : World} {N : Nat} {C : Nat → Nat} {c p : Nat} {us : List (Value × Ri)} {vi vn v5 : Value} {r : Rd}
theorem RW.app_x (h : RW W N C c p us vi vn r) (hb1 : Below W.heap.size W W1) {v : Value} {y : Ri} (hov : OB W1 N v y.b) (hnew : ∀ q, v.ownBlock = some q → W.heap.size ≤ q) (ho : w5.ownsRow N 186 4 v5 (us.length + 1) (us.flatMap riC ++ riC (v, y))) (hg : W1.grownBy w5 vi.ownBlock) (ha : v5.ownBlock = vi.ownBlock ∨ v5.ownBlock = some W1.heap.size) :
    RW (w5.setCell ⟨p, 0, none⟩ v5) N (paint C W.heap.size c) c p (us ++ [(v, y)]) v5 vn ⟨r.is ++ [y], r.ns⟩ ∧ Chg (fun b => C b = c) W (w5.setCell ⟨p, 0, none⟩ v5) := by
  have hc1 : Chg (fun b => vi.ownBlock = some b) W w5 := (Chg.of_below hb1 _).grown hg (fun k hk _ => hk)
  have hbd : Blk w5 p 47 #[vi, vn] := h.bd.chg hc1 (h.bd.apart h.ri (by decide))
  have hc2 : Chg (fun b => vi.ownBlock = some b ∨ b = p) W (w5.setCell ⟨p, 0, none⟩ v5) := (hc1.mono (fun _ _ e => .inl e)).setCell (p := ⟨p, 0, none⟩) (.inl (.inr rfl)) _
  have hsam := sam_paint C W.heap.size c
  have hpne : ∀ {base size n : Nat} {e : TypeId} {v : Value} {xs : List Value}, W.ownsRow base e size v n xs → e ≠ 47 → v.ownBlock ≠ some p := fun ho he => h.bd.apart ho he
  have hplt := h.bd.lt
  have hp5 : v5.ownBlock ≠ some p := by
    rcases ha with e | e
    · rw [e]; exact hpne h.ri (by decide)
    · rw [e]; intro e2
      have := hb1.size
      injection e2 with e2
      omega
  have hcp : Chg (fun b => b = p) w5 (w5.setCell ⟨p, 0, none⟩ v5) := Chg.setCell (S := fun b => b = p) (p := ⟨p, 0, none⟩) (Chg.refl _ w5) (.inl rfl) v5
  have key : ∀ (i : Nat) (u : Value × Ri), (us ++ [(v, y)])[i]? = some u → (us[i]? = some u ∧ i < us.length) ∨ (u = (v, y) ∧ i = us.length) := fun i u hi => by
    by_cases hs : i < us.length
    · rw [List.getElem?_append_left hs] at hi; exact .inl ⟨hi, hs⟩
    · rw [List.getElem?_append_right (by omega)] at hi
      have hs0 : i - us.length = 0 := by have := (List.getElem?_eq_some_iff.1 hi).1; simp at this; omega
      rw [hs0] at hi
      simp at hi
      exact .inr ⟨hi.symm, by omega⟩
  have hvw : OB (w5.setCell ⟨p, 0, none⟩ v5) N v y.b := by
    have h1 : OB w5 N v y.b := ((Chg.refl (fun b => vi.ownBlock = some b) W1).grown hg (fun q hq _ => hq)).own hov (fun q hq e => by
      have h2 := hnew q hq
      have h3 := (h.ri.lt q e).2
      omega)
    exact hcp.own h1 (fun q hq e => by have := hnew q hq; omega)
  refine ⟨⟨by rw [List.map_append, h.is]; rfl, hbd.set_ 0 v5, ?_, hc2.own h.rn (fun k hk e => ?_), fun k u hu => ?_, fun i j u u' g hi hj hgi hgj => ?_, h.lo, by rw [hsam p hplt]; exact h.cp, fun g hg' => ?_, fun g hg' => by rw [hsam g (h.rn.lt g hg').2]; exact h.cn g hg', fun k u g hu hg' => ?_⟩, hc2.mono (fun b _ e => ?_)⟩
  · have := hcp.own ho (fun k hk e => hp5 (by rw [hk, e]))
    rw [List.length_append, flat_snocR]
    exact this
  · rcases e with e | e
    · rcases own_apart h.rn h.ri (by decide) with h1 | h1
      · rw [h1] at hk; cases hk
      · rw [hk, e] at h1; exact h1 rfl
    · exact hpne h.rn (by decide) (by rw [hk, e])
  · rcases key k u hu with ⟨h0, _⟩ | ⟨rfl, _⟩
    · refine hc2.own (h.ob k u h0) (fun q hq e => ?_)
      rcases e with e | e
      · rcases own_apart (h.ob k u h0) h.ri (by decide) with h1 | h1
        · rw [h1] at hq; cases hq
        · rw [hq, e] at h1; exact h1 rfl
      · exact hpne (h.ob k u h0) (by decide) (by rw [hq, e])
    · exact hvw
  · rcases key i u hi with ⟨h0, q0⟩ | ⟨rfl, q0⟩ <;> rcases key j u' hj with ⟨h1, q1⟩ | ⟨rfl, q1⟩
    · exact h.ap i j u u' g h0 h1 hgi hgj
    · have h2 := hnew g hgj
      have h3 := ((h.ob i u h0).lt g hgi).2
      omega
    · have h2 := hnew g hgi
      have h3 := ((h.ob j u' h1).lt g hgj).2
      omega
    · omega
  · rcases ha with e | e
    · rw [e] at hg'
      rw [hsam g (h.ri.lt g hg').2]; exact h.ci g hg'
    · rw [e] at hg'
      injection hg' with hg'
      exact paint_new C c (by have := hb1.size; omega)
  · rcases key k u hu with ⟨h0, _⟩ | ⟨rfl, _⟩
    · rw [hsam g ((h.ob k u h0).lt g hg').2]; exact h.cu k u g h0 hg'
    · exact paint_new C c (hnew g hg')
  · rcases e with e | e
    · exact h.ci b e
    · rw [e]; exact h.cp
theorem RW.app_ns (h : RW W N C c p us vi (.slice none 0 0) ⟨r.is, []⟩) {l : List Rn} (hb1 : Below W.heap.size W W1) (ho : w5.ownsRow N 188 3 v5 l.length (l.flatMap rnC)) (hb5 : Below W1.heap.size W1 w5) (ha : ∀ q, v5.ownBlock = some q → W1.heap.size ≤ q) :
    RW (w5.setCell ⟨p, 1, none⟩ v5) N (paint C W.heap.size c) c p us vi v5 ⟨r.is, l⟩ := by
  have hb : Below W.heap.size W w5 := hb1.trans (hb5.mono hb1.size)
  have h5 := h.keep hb (sam_paint C W.heap.size c)
  have hplt := h.bd.lt
  have hcp : Chg (fun b => b = p) w5 (w5.setCell ⟨p, 1, none⟩ v5) := Chg.setCell (S := fun b => b = p) (p := ⟨p, 1, none⟩) (Chg.refl _ w5) (.inl rfl) v5
  have hz := hb1.size
  refine ⟨h5.is, h5.bd.set_ 1 v5, hcp.own h5.ri (fun k hk e => h5.bd.apart h5.ri (by decide) (by rw [hk, e])), hcp.own ho (fun k hk e => by have := ha k hk; omega), fun k u hu => hcp.own (h5.ob k u hu) (fun q hq e => h5.bd.apart (h5.ob k u hu) (by decide) (by rw [hq, e])), h5.ap, h5.lo, h5.cp, h5.ci, fun g hg => paint_new C c (by have := ha g hg; omega), h5.cu⟩
end
end Go.Proofs.YtlojmmcagglpoaaGreat
namespace Go.Proofs.YtlojmmcagglpoaaGreat
open Go.RowKit Go.Maps
attribute [local go_sem ↓] Go.wp_at_zero Go.wp_at_succ
def RCopyQ (W : World) (C : Nat → Nat) (c2 : Nat) (r : Rd) (e : Ending) (w' : World) : Prop := ∃ p2, e = .returned (.pointer (some ⟨p2, 0, none⟩)) ∧ W.heap.size ≤ p2 ∧ RC w' W.heap.size (paint C W.heap.size c2) c2 p2 r ∧ Below W.heap.size W w'
theorem RW.fresh (W : World) (C : Nat → Nat) (c2 : Nat) : RW (W.alloc (.cells #[.slice none 0 0, .slice none 0 0] 47)) W.heap.size (paint C W.heap.size c2) c2 W.heap.size [] (.slice none 0 0) (.slice none 0 0) ⟨[], []⟩ :=
  ⟨rfl, Blk.new W _ _ rfl, World.ownsRow_nil _ _ _ 4, World.ownsRow_nil _ _ _ 3, fun k u hu => (by simp at hu), fun i j u u' g hi => (by simp at hi), Nat.le_refl _, paint_new C c2 (Nat.le_refl _), fun g hg => (by cases hg), fun g hg => (by cases hg), fun k u g hu => (by simp at hu)⟩
theorem rn_one : ∀ (l : List Rn) (u : Value), u ∈ l.flatMap rnC → u.oneCell' = true := fun l u hu => by
  obtain ⟨x, _, hx⟩ := List.mem_flatMap.1 hu
  unfold rnC at hx
  simp only [List.mem_cons, List.not_mem_nil, or_false] at hx
  rcases hx with rfl | rfl | rfl <;> rfl
set_option maxRecDepth 20000 in
set_option maxHeartbeats 4000000 in
theorem rcopy_any {W : World} {N : Nat} {C : Nat → Nat} {c p n : Nat} {r : Rd} (h : RC W N C c p r) (hok : r.Ok n) (c2 : Nat) : Calls Tryz.prog 41 #[.pointer (some ⟨p, 0, none⟩)] W (RCopyQ W C c2 r) := by
  obtain ⟨us, vi, vn, hw⟩ := h
  obtain ⟨Ai, capi, rfl, hc1, hc2, hA⟩ := hw.fi
  obtain ⟨An, capn, rfl, hd1, hd2, hAn⟩ := hw.fn
  have HW := Lib.hid hw
  have HOK := Lib.hid hok
  obtain ⟨M, hM⟩ : ∃ M, M = r.ns.length := ⟨_, rfl⟩
  obtain ⟨L, hL⟩ : ∃ L, L = us.length := ⟨_, rfl⟩
  have hMb : M ≤ 1000000 := by rw [hM]; exact Nat.le_trans hok.nl hok.big
  have hLb : L ≤ 1000000 := by rw [hL, hw.len]; exact Nat.le_trans hok.il hok.big
  have HM := Lib.hid hM
  have HL : Hid (L = us.length ∧ us.length = r.is.length) := Lib.hid ⟨hL, hw.len⟩
  obtain ⟨w1, hw1⟩ : ∃ w1, w1 = W.alloc (.cells #[.slice none 0 0, .slice none 0 0] 47) := ⟨_, rfl⟩
  obtain ⟨pc, hpc⟩ : ∃ pc, pc = W.heap.size := ⟨_, rfl⟩
  obtain ⟨Cp, hCp⟩ : ∃ Cp, Cp = paint C W.heap.size c2 := ⟨_, rfl⟩
  have B1 : Hid (Below W.heap.size W w1) := Lib.hid (by rw [hw1]; exact (Below.refl _ _).alloc (Nat.le_refl _) _)
  have R1 : Hid (RW w1 W.heap.size Cp c2 pc [] (.slice none 0 0) (.slice none 0 0) ⟨[], []⟩) := Lib.hid (by rw [hw1, hpc, hCp]; exact RW.fresh W C c2)
  have H1 : Hid (RW w1 N C c p us (.slice Ai us.length capi) (.slice An r.ns.length capn) r) := Lib.hid (hw.keep B1.out (Sam.refl _ _))
  have q1 : w1.cell? ⟨p, 1, none⟩ = some (.slice An M capn) := (H1.out.bd.cell 1).trans (by rw [hM]; rfl)
  have p1 : w1.cell? ⟨pc, 1, none⟩ = some (.slice none 0 0) := (R1.out.bd.cell 1).trans rfl
  have HNEWS : Hid (∀ ad, An = some ad → ∀ j u, (r.ns.flatMap rnC)[j]? = some u → w1.drew.cell? (ad.add j) = some u) := Lib.hid (fun ad e j u hu => by
    have h1 := H1.out.rn
    obtain ⟨g, hg⟩ := hAn (by
      rcases Nat.eq_zero_or_pos r.ns.length with h0 | h0
      · rw [List.eq_nil_of_length_eq_zero h0] at hu; simp at hu
      · exact h0)
    rw [e] at hg
    obtain rfl := Option.some.inj hg
    subst e
    have hj := (List.getElem?_eq_some_iff.1 hu).1
    have h2 := World.ownsRow.cellAt h1 j (by rw [← h1.1]; exact hj)
    have ha : (⟨g, 0, none⟩ : Addr).add j = ⟨g, j, none⟩ := by
      unfold Addr.add
      by_cases h : j = 0
      · subst h; simp
      · simp [h]
    rw [ha]
    exact h2.trans hu)
  have HAN : Hid (An = none → M = 0) := Lib.hid (fun e => by
    rcases Nat.eq_zero_or_pos r.ns.length with h0 | h0
    · rw [hM, h0]
    · obtain ⟨g, hg⟩ := hAn h0
      rw [e] at hg; cases hg)
  have HLEN : Hid ((r.ns.flatMap rnC).length = M * 3) := Lib.hid (by rw [flat_len rnC_len, hM])
  have O1 : Hid (w1.drew.ownsRow W.heap.size 188 3 (.slice none 0 0) 0 []) := Lib.hid (World.ownsRow_nil _ _ _ 3)
  have FIN : Hid (∀ v5 w5, World.ownsRow w5 W.heap.size 188 3 v5 (0 + M) ([] ++ r.ns.flatMap rnC) → w1.drew.grownBy w5 (Value.slice none 0 0).ownBlock → (v5.ownBlock = (Value.slice none 0 0).ownBlock ∨ v5.ownBlock = some w1.drew.heap.size) → ∃ A5 cap5, v5 = .slice A5 M cap5 ∧ w5.cell? ⟨pc, 1, none⟩ = some (.slice none 0 0) ∧ w5.frozen? ⟨pc, 1, none⟩ = false ∧ Hid (RW (w5.setCell ⟨pc, 1, none⟩ (.slice A5 M cap5)) W.heap.size Cp c2 pc [] (.slice none 0 0) (.slice A5 M cap5) ⟨[], r.ns⟩ ∧ Below W.heap.size W (w5.setCell ⟨pc, 1, none⟩ (.slice A5 M cap5)))) := Lib.hid (fun v5 w5 ho hg ha => by
    rw [Nat.zero_add, List.nil_append] at ho
    have hb5 : Below w1.heap.size w1 w5 := ((Below.refl w1.heap.size w1).drew).grown hg (Nat.le_refl _) (fun j hj => by cases hj)
    have hbd := R1.out.bd.keep hb5
    obtain ⟨A5, cap5, hv5, _⟩ := own_form ho
    refine ⟨A5, cap5, hv5, (hbd.cell 1).trans rfl, hbd.frozen 1, Lib.hid ⟨?_, ?_⟩⟩
    · have h2 := R1.out.app_ns (r := ⟨[], r.ns⟩) (l := r.ns) (W1 := w1) (Below.refl _ _) (w5 := w5) (v5 := v5) (by rw [← HM.out]; exact ho) hb5 (fun q hq => by
        rcases ha with e | e
        · rw [e] at hq; cases hq
        · rw [e] at hq
          have := Option.some.inj hq
          have h3 : w1.drew.heap.size = w1.heap.size := rfl
          omega)
      rw [hv5] at h2
      have h4 : paint Cp w1.heap.size c2 = Cp := by rw [hCp]; exact paint_paint C c2 B1.out.size
      rw [h4] at h2
      exact h2
    · exact (B1.out.trans (hb5.mono B1.out.size)).setCell (by rw [hpc]; exact Nat.le_refl _) _)
  have HCP : Hid (Cp = paint C W.heap.size c2 ∧ pc = W.heap.size) := Lib.hid ⟨hCp, hpc⟩
  have hAL : 0 < L → ∃ g, Ai = some ⟨g, 0, none⟩ := fun h0 => hA (by omega)
  clear hw hok hM hL hc1 hc2 hd1 hd2 hAn hA hCp
  go_enter Tryz.func41, Tryz.ntmps41
  go_upto_region 2 with fail
  rw [← hw1, ← hpc]
  clear hw1 hpc
  go_cut [] (fun wx => ∃ vn2, Hid (RW wx W.heap.size Cp c2 pc [] (.slice none 0 0) vn2 ⟨[], r.ns⟩ ∧ Below W.heap.size W wx))
  case first =>
    go_region_law ((refine step_append_row rfl (.tmp 13) (.tmp 17) 45 188 rfl Tryz.underlying45 infoRn rfl (by decide) W.heap.size (.slice none 0 0) 0 [] rfl O1.out An M capn (r.ns.flatMap rnC) rfl HLEN.out HAN.out HNEWS.out (rn_one r.ns) (by omega) (by unfold maxLen; omega) B1.out.size ?_; intro v5 w5 ho5 hg5 ha5; obtain ⟨A5, cap5, rfl, d1, f1, F3⟩ := FIN.out v5 w5 ho5 hg5 ha5; clear ho5 hg5 ha5))
    all_goals
      go_wp2_with fail
      go_meet
      exact Exists.intro _ F3
  case rest =>
  obtain ⟨vn2, R2⟩ := hcut
  obtain ⟨w2, hw2⟩ : ∃ w2, w2 = wc := ⟨_, rfl⟩
  rw [← hw2] at R2 ⊢
  clear hw2 wc q1 p1 HNEWS HAN HLEN O1 FIN R1 H1
  go_wp2_with fail
  go_loopw [4] (fun s4 w => ∃ (j : Nat) (us2 : List (Value × Ri)) (vi2 : Value), s4 = .int .i64 (j : Int) ∧ j ≤ L ∧ Hid (RW w W.heap.size Cp c2 pc us2 vi2 vn2 ⟨r.is.take j, r.ns⟩ ∧ Below W.heap.size W w)) (fun s4 _ => L - (intOf s4).toNat)
  case atStart => exact ⟨0, [], _, rfl, Nat.zero_le _, R2⟩
  case round =>
    obtain ⟨j, us2, vi2, rfl, hj, RJ⟩ := hrel
    clear R2
    have HJ := Lib.hid (HW.out.keep RJ.out.2 (Sam.refl _ _))
    have q0 : wr.cell? ⟨p, 0, none⟩ = some (.slice Ai L capi) := (HJ.out.bd.cell 0).trans (by rw [HL.out.1]; rfl)
    by_cases hlt : j < L
    · have hji : (j : Int) < (L : Int) := by omega
      have hj0 : (0 : Int) ≤ (j : Int) := by omega
      have hj3 : (j : Int) ≤ 1000000 := by omega
      obtain ⟨g, rfl⟩ := hAL (by omega)
      obtain ⟨u, hu, hu2⟩ := HJ.out.inode (k := j) (by have := HL.out; omega)
      have hob := HJ.out.ob j u hu
      obtain ⟨-, c0, c1, c2', c3⟩ := HJ.out.ci_at hu
      obtain ⟨v, y⟩ := u
      simp only at c0 c1 c2' c3 hob hu2
      obtain ⟨Av, cv, hv, hv1, hv2, hrb⟩ := hob.form
      subst hv
      obtain ⟨b, hb⟩ : ∃ b, b = y.b.length := ⟨_, rfl⟩
      obtain ⟨la, hl2⟩ : ∃ la, la = y.la := ⟨_, rfl⟩
      obtain ⟨ge, hg2⟩ : ∃ ge, ge = y.ge := ⟨_, rfl⟩
      obtain ⟨out, ho2⟩ : ∃ out, out = y.out := ⟨_, rfl⟩
      have hbl := HOK.out.bl y (List.mem_of_getElem? hu2)
      rw [← hb] at c0 hrb hv1 hbl
      rw [← hl2] at c1
      rw [← hg2] at c2'
      rw [← ho2] at c3
      have HEQ : Hid (b = y.b.length ∧ la = y.la ∧ ge = y.ge ∧ out = y.out ∧ r.is[j]? = some y) := Lib.hid ⟨hb, hl2, hg2, ho2, hu2⟩
      have HRB := Lib.hid hrb
      clear hb hl2 hg2 ho2 hu2 hu hob hrb
      go_upto_region 7 with fail
      obtain ⟨w6, hw6⟩ : ∃ w6, w6 = wr.alloc (.cells #[.slice Av b cv, .int .i64 (la : Int), .int .i64 (ge : Int), .bool out] 186) := ⟨_, rfl⟩
      obtain ⟨xb, hxb⟩ : ∃ xb, xb = wr.heap.size := ⟨_, rfl⟩
      have B6 : Hid (Below wr.heap.size wr w6) := Lib.hid (by rw [hw6]; exact (Below.refl _ _).alloc (Nat.le_refl _) _)
      have K6 : Hid (Blk w6 xb 186 #[.slice Av b cv, .int .i64 (la : Int), .int .i64 (ge : Int), .bool out]) := Lib.hid (by rw [hw6]; exact Blk.new wr _ _ hxb)
      have R6 : Hid (RB w6 Av b y.b) := Lib.hid (HRB.out.keep B6.out)
      have HXB : Hid (wr.heap.size ≤ xb ∧ W.heap.size ≤ wr.heap.size) := Lib.hid ⟨by omega, RJ.out.2.size⟩
      rw [← hw6, ← hxb]
      clear hw6 hxb c0 c1 c2' c3 q0 HRB
      have k0 : w6.cell? ⟨xb, 0, none⟩ = some (.slice Av b cv) := (K6.out.cell 0).trans rfl
      have O6 : Hid (OB w6 w6.heap.size (.slice none 0 0) []) := Lib.hid (OB.nil _ _)
      go_wp2_with ((at_builtin; go_must (refine append_bytes rfl (.tmp 37) (.tmp 39) rfl w6.heap.size (.slice none 0 0) [] rfl O6.out Av b cv y.b rfl R6.out (by simp; omega) (Nat.le_refl _) ?_); intro v7 w7 ho7 hg7 ha7; refine halt ?_))
      refine unhalt ?_
      have B7 : Hid (Below w6.heap.size w6 w7) := Lib.hid ((Below.refl _ _).grown hg7 (Nat.le_refl _) (fun q hq => by cases hq))
      rw [List.nil_append] at ho7
      have K7 := Lib.hid (K6.out.keep B7.out)
      have OV : Hid (OB w7 w6.heap.size v7 y.b) := Lib.hid ho7
      obtain ⟨A7, cap7, hv7, _⟩ := OB.form ho7
      rw [← HEQ.out.1] at hv7
      subst hv7
      have k1 : w7.cell? ⟨xb, 0, none⟩ = some (.slice Av b cv) := (K7.out.cell 0).trans rfl
      have f1 : w7.frozen? ⟨xb, 0, none⟩ = false := K7.out.frozen 0
      clear ho7 hg7 ha7 k0 O6 R6
      go_upto_region 10 with fail
      obtain ⟨w8, hw8⟩ : ∃ w8, w8 = w7.setCell ⟨xb, 0, none⟩ (.slice A7 b cap7) := ⟨_, rfl⟩
      have K8 : Hid (Blk w8 xb 186 #[.slice A7 b cap7, .int .i64 (la : Int), .int .i64 (ge : Int), .bool out]) := Lib.hid (by rw [hw8]; exact K7.out.set_ 0 _)
      have B8 : Hid (Below wr.heap.size wr w8) := Lib.hid (by
        rw [hw8]
        exact (B6.out.trans (B7.out.mono B6.out.size)).setCell HXB.out.1 _)
      have O8 : Hid (OB w8 w6.heap.size (.slice A7 b cap7) y.b) := Lib.hid (by
        rw [hw8]
        have h1 : Chg (fun q => q = xb) w7 (w7.setCell ⟨xb, 0, none⟩ (.slice A7 b cap7)) := Chg.setCell (S := fun q => q = xb) (p := ⟨xb, 0, none⟩) (Chg.refl _ _) (.inl rfl) _
        exact h1.ob OV.out (fun q hq e => by
          have h2 := (OV.out.lt q hq).1
          have h3 := K6.out.lt
          omega))
      have H66 : Hid (wr.heap.size ≤ w6.heap.size) := Lib.hid B6.out.size
      rw [← hw8]
      clear hw8 k1 f1 K7 B7 OV K6 B6
      obtain ⟨w9, hw9⟩ : ∃ w9, w9 = w8.alloc (.cells #[.slice A7 b cap7, .int .i64 (la : Int), .int .i64 (ge : Int), .bool out] 186) := ⟨_, rfl⟩
      have B9 : Hid (Below wr.heap.size wr w9) := Lib.hid (by rw [hw9]; exact B8.out.alloc B8.out.size _)
      have RJ8 := Lib.hid (RJ.out.1.keep B8.out (Sam.refl _ _))
      have RJ9 := Lib.hid (RJ.out.1.keep B9.out (Sam.refl _ _))
      have g0 : w8.cell? ⟨pc, 0, none⟩ = some vi2 := (RJ8.out.bd.cell 0).trans rfl
      have g1 : (w8.alloc (.cells #[.slice A7 b cap7, .int .i64 (la : Int), .int .i64 (ge : Int), .bool out] 186)).cell? ⟨pc, 0, none⟩ = some vi2 := by rw [← hw9]; exact (RJ9.out.bd.cell 0).trans rfl
      have x0 : w8.cell? ⟨xb, 0, none⟩ = some (.slice A7 b cap7) := (K8.out.cell 0).trans rfl
      have x1 : w8.cell? ⟨xb, 1, none⟩ = some (.int .i64 (la : Int)) := (K8.out.cell 1).trans rfl
      have x2 : w8.cell? ⟨xb, 2, none⟩ = some (.int .i64 (ge : Int)) := (K8.out.cell 2).trans rfl
      have x3 : w8.cell? ⟨xb, 3, none⟩ = some (.bool out) := (K8.out.cell 3).trans rfl
      have hlen2 : us2.length = j := by
        rw [RJ.out.1.len]
        show (r.is.take j).length = j
        rw [List.length_take]; have := HL.out; omega
      have HL2 := Lib.hid hlen2
      have N9 : Hid (∀ ad, some (⟨w8.heap.size, 0, none⟩ : Addr) = some ad → ∀ (q : Nat) (u : Value), ([Value.slice A7 b cap7, .int .i64 (la : Int), .int .i64 (ge : Int), .bool out] : List Value)[q]? = some u → (w8.alloc (.cells #[.slice A7 b cap7, .int .i64 (la : Int), .int .i64 (ge : Int), .bool out] 186)).drew.cell? (ad.add q) = some u) := Lib.hid (fun ad e q u hu => news_at (Blk.new w8 186 #[.slice A7 b cap7, .int .i64 (la : Int), .int .i64 (ge : Int), .bool out] rfl) ad e q u hu)
      have O9 : Hid ((w8.alloc (.cells #[.slice A7 b cap7, .int .i64 (la : Int), .int .i64 (ge : Int), .bool out] 186)).drew.ownsRow W.heap.size 186 4 vi2 j (us2.flatMap riC)) := Lib.hid (by
        have h1 := RJ9.out.ri
        rw [hlen2, hw9] at h1
        exact h1)
      obtain ⟨Ai2, capi2, hvi2, _⟩ := RJ.out.1.fi
      rw [hlen2] at hvi2
      have FIN : Hid (∀ v5 w5, World.ownsRow w5 W.heap.size 186 4 v5 (j + 1) (us2.flatMap riC ++ [.slice A7 b cap7, .int .i64 (la : Int), .int .i64 (ge : Int), .bool out]) → (w8.alloc (.cells #[.slice A7 b cap7, .int .i64 (la : Int), .int .i64 (ge : Int), .bool out] 186)).drew.grownBy w5 vi2.ownBlock → (v5.ownBlock = vi2.ownBlock ∨ v5.ownBlock = some (w8.alloc (.cells #[.slice A7 b cap7, .int .i64 (la : Int), .int .i64 (ge : Int), .bool out] 186)).drew.heap.size) → ∃ A5 cap5, v5 = .slice A5 (j + 1) cap5 ∧ w5.cell? ⟨pc, 0, none⟩ = some vi2 ∧ w5.frozen? ⟨pc, 0, none⟩ = false ∧ Hid (∃ us3, RW (w5.setCell ⟨pc, 0, none⟩ (.slice A5 (j + 1) cap5)) W.heap.size Cp c2 pc us3 (.slice A5 (j + 1) cap5) vn2 ⟨r.is.take (j + 1), r.ns⟩ ∧ Below W.heap.size W (w5.setCell ⟨pc, 0, none⟩ (.slice A5 (j + 1) cap5)))) := Lib.hid (fun v5 w5 ho hg ha => by
        rw [← hw9] at hg ha
        obtain ⟨e1, e2, e3, e4, e5⟩ := HEQ.out
        obtain ⟨A5, cap5, hv5, _⟩ := own_form ho
        have h9 : OB w9.drew W.heap.size (.slice A7 b cap7) y.b := by
          rw [hw9]
          exact ((O8.out.keep ((Below.refl _ _).alloc (Nat.le_refl _) _)).less (by have := H66.out; have := HXB.out.2; omega)).drew
        have h6 : riC (.slice A7 b cap7, y) = [.slice A7 b cap7, .int .i64 (la : Int), .int .i64 (ge : Int), .bool out] := by unfold riC; rw [e2, e3, e4]
        have hx := RJ.out.1.app_x (W1 := w9.drew) (w5 := w5) (v5 := v5) (B9.out.drew) (v := .slice A7 b cap7) (y := y) h9 (fun q hq => by have := (O8.out.lt q hq).1; have := H66.out; omega) (by rw [HL2.out, h6]; exact ho) hg ha
        have hbd : Blk w5 pc 47 #[vi2, vn2] := (RJ9.out.bd.chg (((Chg.refl (fun q => vi2.ownBlock = some q) w9).drew).grown hg (fun q hq _ => hq)) (RJ9.out.bd.apart RJ9.out.ri (by decide)))
        refine ⟨A5, cap5, hv5, (hbd.cell 0).trans rfl, hbd.frozen 0, Lib.hid ⟨us2 ++ [(.slice A7 b cap7, y)], ?_, ?_⟩⟩
        · have h7 := hx.1
          have h8 : paint Cp wr.heap.size c2 = Cp := by rw [HCP.out.1]; exact paint_paint C c2 HXB.out.2
          have h10 : (r.is.take j) ++ [y] = r.is.take (j + 1) := (take_snoc e5).symm
          rw [h8, hv5] at h7
          simp only at h7
          rw [h10] at h7
          exact h7
        · have hw : Below W.heap.size W w9.drew := (RJ.out.2.trans (B9.out.mono RJ.out.2.size)).drew
          have hw5 : Below W.heap.size W w5 := hw.grown hg hw.size (fun q hq => (RJ9.out.ri.lt q hq).1)
          exact hw5.setCell (by rw [HCP.out.2]; exact Nat.le_refl _) _)
      have HS9 : Hid (W.heap.size ≤ (w8.alloc (.cells #[.slice A7 b cap7, .int .i64 (la : Int), .int .i64 (ge : Int), .bool out] 186)).drew.heap.size) := Lib.hid (by rw [← hw9]; have := B9.out.size; have := HXB.out.2; show _ ≤ w9.heap.size; omega)
      subst hvi2
      clear hw9 hlen2 K8 B8 O8 RJ8 B9 RJ9
      go_region_law ((refine step_append_row rfl (.tmp 47) (.tmp 49) 44 186 rfl Tryz.underlying44 infoRi rfl (by decide) W.heap.size (.slice Ai2 j capi2) j (us2.flatMap riC) rfl O9.out (some ⟨w8.heap.size, 0, none⟩) 1 1 [.slice A7 b cap7, .int .i64 (la : Int), .int .i64 (ge : Int), .bool out] rfl rfl (fun e => by cases e) N9.out (fun u hu => by simp only [List.mem_cons, List.not_mem_nil, or_false] at hu; rcases hu with rfl | rfl | rfl | rfl <;> rfl) (by omega) (by unfold maxLen; omega) HS9.out ?_; intro v5 w5 ho5 hg5 ha5; obtain ⟨A5, cap5, rfl, d1, f1, F3⟩ := FIN.out v5 w5 ho5 hg5 ha5; clear ho5 hg5 ha5))
      all_goals
        obtain ⟨us3, h3, h4⟩ := F3.out
        have RN := Lib.hid (And.intro h3 h4)
        clear h3 h4 F3 FIN
        go_wp2_with fail
        go_roundw
        first
          | (case rel => exact ⟨j + 1, us3, _, by go_num, by omega, RN⟩)
          | (case rel => (repeat apply Exists.intro); exact ⟨⟨j + 1, us3, _, by go_num, by omega, RN⟩, rfl⟩)
        case measure => simp [intOf]; omega
    · obtain rfl : j = L := by omega
      have HF : Hid (RCopyQ W C c2 r (.returned (.pointer (some ⟨pc, 0, none⟩))) wr) := Lib.hid (by
        have h1 := RJ.out.1
        rw [List.take_of_length_le (by have := HL.out; omega)] at h1
        rw [HCP.out.1] at h1
        exact ⟨pc, rfl, by rw [HCP.out.2]; exact Nat.le_refl _, ⟨_, _, _, h1⟩, RJ.out.2⟩)
      go_wp2_with fail
      go_ret
      exact HF.out
end Go.Proofs.YtlojmmcagglpoaaGreat
