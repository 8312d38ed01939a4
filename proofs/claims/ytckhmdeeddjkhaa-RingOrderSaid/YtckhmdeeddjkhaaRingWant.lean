/- A list that is appended to and cut at its front: where it lies, and its two ways of growing. -/
import Derived.Test.YtckhmdeeddjkhaaRingThAll
import Derived.ArgAppend
import Derived.Maps.AppendAt
namespace Go.Proofs.Ytckhmdeeddjkhaa
open Go.RowKit
/-- the slice (A, m, c) holds q, in a block of the call's own -/
def WT (w : World) (base : Nat) (A : Option Addr) (m c : Nat) (q : List Th) : Prop :=
  q.length = m ∧ m ≤ c ∧ c ≤ maxLen ∧ ((A = none ∧ c = 0) ∨ ∃ g off cur, A = some ⟨g, off, none⟩ ∧ base ≤ g ∧ Blk w g 47 cur ∧ off + c * 2 ≤ cur.size ∧ ∀ i u, (flatE Th.cells q)[i]? = some u → cur[off + i]? = some u)
def inB (A : Option Addr) : Nat → Prop := fun k => ∃ ad, A = some ad ∧ ad.block = k
theorem WT.nil (w : World) (base : Nat) : WT w base none 0 0 [] := ⟨rfl, Nat.le_refl _, Nat.zero_le _, .inl ⟨rfl, rfl⟩⟩
theorem WT.chg {S : Nat → Prop} {w w' : World} {base m c : Nat} {A : Option Addr} {q : List Th} (h : WT w base A m c q) (hc : Chg S w w') (hn : ∀ k, inB A k → ¬ S k) : WT w' base A m c q := by
  refine ⟨h.1, h.2.1, h.2.2.1, ?_⟩
  rcases h.2.2.2 with h1 | ⟨g, off, cur, rfl, hg, hB, hs, hc1⟩
  · exact .inl h1
  · exact .inr ⟨g, off, cur, rfl, hg, hB.chg hc (hn g ⟨_, rfl, rfl⟩), hs, hc1⟩
theorem WT.keep {w w' : World} {base m c : Nat} {A : Option Addr} {q : List Th} (h : WT w base A m c q) (hb : Below w.heap.size w w') : WT w' base A m c q := h.chg (Chg.of_below hb (fun _ => False)) (fun _ _ h => h)
theorem WT.lt {w : World} {base m c : Nat} {A : Option Addr} {q : List Th} (h : WT w base A m c q) : ∀ k, inB A k → base ≤ k ∧ k < w.heap.size := by
  rintro k ⟨ad, rfl, rfl⟩
  rcases h.2.2.2 with ⟨e, _⟩ | ⟨g, off, cur, e, hg, hB, _⟩
  · cases e
  · obtain rfl := Option.some.inj e
    exact ⟨hg, hB.lt⟩
theorem WT.at_ {w : World} {base m c : Nat} {A : Option Addr} {q : List Th} (h : WT w base A m c q) {j : Nat} {x : Th} (hj : q[j]? = some x) : ∃ g off, A = some ⟨g, off, none⟩ ∧ w.cell? ⟨g, off + j * 2, none⟩ = some (.string x.s) ∧ w.cell? ⟨g, off + j * 2 + 1, none⟩ = some (.int .i64 x.n) := by
  have hjl := (List.getElem?_eq_some_iff.1 hj).1
  rcases h.2.2.2 with ⟨_, e⟩ | ⟨g, off, cur, rfl, hg, hB, hs, hc⟩
  · have := h.1; have := h.2.1; omega
  · refine ⟨g, off, rfl, ?_, ?_⟩
    · rw [hB.cell]
      exact hc (j * 2 + 0) _ (flatE_at th_size q hj (i := 0) rfl)
    · rw [hB.cell, Nat.add_assoc]
      exact hc (j * 2 + 1) _ (flatE_at th_size q hj (i := 1) rfl)
/-- the list without its first -/
theorem WT.tail {w : World} {base m c : Nat} {A : Option Addr} {x : Th} {q : List Th} (h : WT w base A m c (x :: q)) : WT w base (if c = 1 then A else A.map (·.add 2)) (m - 1) (c - 1) q := by
  have h1 := h.1; have h2 := h.2.1; have h3 := h.2.2.1
  rw [List.length_cons] at h1
  refine ⟨by omega, by omega, by omega, ?_⟩
  rcases h.2.2.2 with ⟨_, e⟩ | ⟨g, off, cur, rfl, hg, hB, hs, hc⟩
  · omega
  · right
    by_cases hc1 : c = 1
    · rw [if_pos hc1]
      have hq : q = [] := List.eq_nil_of_length_eq_zero (by omega)
      subst hq
      exact ⟨g, off, cur, rfl, hg, hB, by omega, fun i u hu => by simp [flatE] at hu⟩
    · rw [if_neg hc1]
      refine ⟨g, off + 2, cur, by simp [Addr.add], hg, hB, by omega, fun i u hu => ?_⟩
      have := hc (2 + i) u (by
        rw [flatE_cons, List.getElem?_append_right (by show (2 : Nat) ≤ 2 + i; omega)]
        show (flatE Th.cells q)[2 + i - 2]? = some u
        rwa [Nat.add_sub_cancel_left])
      rwa [← Nat.add_assoc] at this
theorem th_one (q : List Th) : ∀ u ∈ flatE Th.cells q, u.oneCell' = true := by
  intro u hu
  unfold flatE at hu
  rw [List.mem_flatten] at hu
  obtain ⟨l, hl, hu⟩ := hu
  obtain ⟨x, _, rfl⟩ := List.mem_map.1 hl
  simp only [Th.cells, List.mem_cons, List.not_mem_nil, or_false] at hu
  rcases hu with rfl | rfl <;> rfl
theorem append_want {w : World} {ops : Array Oper} {rest : List Oper} {o : Oper} {a : Act} {Q : Exit → Act → World → Prop} (hgd : o.guard = none) (s x : Operand)
    (ho : o.op = .call { callee := .builtin .append, args := #[s, x], argTypes := #[41, 41] })
    (base : Nat) (A : Option Addr) (m c : Nat) (q : List Th) (hs : a.eval s = .slice A m c) (hw : WT w base A m c q) (hbase : base ≤ w.heap.size) (g0 c0 : Nat) (y : Th) (hx : a.eval x = .slice (some ⟨g0, 0, none⟩) 1 c0)
    (hy : Blk w g0 47 y.cells) (hm : m ≤ 1000)
    (h : ∀ A' c' w', WT w' base A' (m + 1) c' (q ++ [y]) → Chg (inB A) w w' → (∀ k, inB A' k → inB A k ∨ w.heap.size ≤ k) → wpList Try.prog ops Q rest (a.put o.dst (.slice A' (m + 1) c')) w') : wpList Try.prog ops Q (o :: rest) a w := by
  obtain ⟨i0, hi, hz⟩ := Option.map_eq_some_iff.1 infoT
  simp only [Prod.mk.injEq] at hz
  obtain ⟨hz0, hz1⟩ := hz
  obtain ⟨i1, hi1, hz2⟩ := Option.map_eq_some_iff.1 infoTb
  rw [hi] at hi1
  obtain rfl := Option.some.inj hi1
  have hnews : ∀ j u, y.cells.toList[j]? = some u → w.cell? ((⟨g0, 0, none⟩ : Addr).add j) = some u := fun j u hu => by
    have e : (⟨g0, 0, none⟩ : Addr).add j = ⟨g0, j, none⟩ := by unfold Addr.add; split <;> simp_all
    rw [e, hy.cell]
    simpa using hu
  have hone : ∀ u ∈ y.cells.toList, u.oneCell' = true := fun u hu => by
    simp only [Th.cells, List.mem_cons, List.not_mem_nil, or_false] at hu
    rcases hu with rfl | rfl <;> rfl
  by_cases hfit : m + 1 ≤ c
  · rcases hw.2.2.2 with ⟨_, e⟩ | ⟨g, off, cur, rfl, hg, hB, hsz, hc⟩
    · omega
    · have hrun := run_append_room_cells (P := Try.prog) w 41 o.type 47 i0 Try.underlying41 hi g off m c ⟨g0, 0, none⟩ 1 c0 y.cells.toList (by rw [hz1]; rfl) hnews hone hfit (fun j hj => by
          have hj2 : j < 2 := hj
          rw [hz1, hB.cell, Array.getElem?_eq_getElem (by omega)]; rfl) (fun j _ => hB.frozen _)
      rw [hz1] at hrun
      have hw' : w.setCells g (off + m * 2) y.cells.toList = (w.setCell ⟨g, off + m * 2, none⟩ (.string y.s)).setCell ⟨g, off + m * 2 + 1, none⟩ (.int .i64 y.n) := rfl
      rw [hw'] at hrun
      refine wpList_plain hgd fun K hK => ?_
      unfold Oper.wp execOp
      simp only [ho, resolve, invoke, builtin, Sem.run_bind, Sem.run_pure, Result.andThen_ok, List.map_toArray, List.map_cons, List.map_nil, hs, hx, hrun]
      refine hK _ _ (h _ _ _ ⟨by rw [List.length_append, hw.1]; rfl, hfit, hw.2.2.1, .inr ⟨g, off, _, rfl, hg, (hB.set_ _ _).set_ _ _, by simpa using hsz, fun i u hu => ?_⟩⟩ ?_ (fun k hk => .inl hk))
      · have hlen : (flatE Th.cells q).length = m * 2 := by rw [flatE_length th_size, hw.1]
        rw [flatE_append] at hu
        by_cases hi2 : i < m * 2
        · rw [List.getElem?_append_left (by omega)] at hu
          rw [Array.getElem?_setIfInBounds_ne (by omega), Array.getElem?_setIfInBounds_ne (by omega)]
          exact hc i u hu
        · rw [List.getElem?_append_right (by omega), hlen] at hu
          have hu2 : [Value.string y.s, .int .i64 y.n][i - m * 2]? = some u := by simpa [flatE, Th.cells] using hu
          have hlt : i - m * 2 < 2 := (List.getElem?_eq_some_iff.1 hu2).1
          by_cases hi0 : i = m * 2
          · subst hi0
            rw [Nat.sub_self] at hu2
            rw [Array.getElem?_setIfInBounds_ne (by omega), Array.getElem?_setIfInBounds_self, if_pos (by omega)]
            exact hu2
          · have hi1 : i = m * 2 + 1 := by omega
            subst hi1
            rw [Nat.add_sub_cancel_left] at hu2
            rw [← Nat.add_assoc, Array.getElem?_setIfInBounds_self, if_pos (by simp; omega)]
            exact hu2
      · exact ((Chg.refl _ w).setCell (p := ⟨g, off + m * 2, none⟩) (.inl ⟨_, rfl, rfl⟩) _).setCell (p := ⟨g, off + m * 2 + 1, none⟩) (.inl ⟨_, rfl, rfl⟩) _
  · have hmm := hw.2.1
    refine wpList_append_grows w hgd s x 41 ho 47 i0 _ 2 24 Try.underlying41 hi hz0 hz1 hz2 rfl (by omega) A m c (flatE Th.cells q) hs (fun e => ?_) (by rw [flatE_length th_size, hw.1]) (fun ad e j u hu => ?_) ⟨g0, 0, none⟩ 1 c0 y.cells.toList hx rfl hnews hone (by omega) (by simp only [maxLen]; omega) (by omega) ?_
    · rcases hw.2.2.2 with ⟨_, e2⟩ | ⟨g, off, cur, e2, _⟩
      · exact ⟨by omega, e2⟩
      · rw [e] at e2; cases e2
    · rcases hw.2.2.2 with ⟨e2, _⟩ | ⟨g, off, cur, e2, hg, hB, hsz, hc⟩
      · rw [e] at e2; cases e2
      · rw [e] at e2
        obtain rfl := Option.some.inj e2
        have e3 : (⟨g, off, none⟩ : Addr).add j = ⟨g, off + j, none⟩ := by unfold Addr.add; split <;> simp_all
        rw [e3, hB.cell]
        exact hc j u hu
    · intro v' w' h1 h2
      rcases h1.2 with ⟨_, h0⟩ | ⟨g, cap, cur, rfl, hg, hh, hc1, hc2, hc3, hc4⟩
      · omega
      · refine h _ _ _ ⟨by rw [List.length_append, hw.1]; rfl, hc1, hc2, .inr ⟨g, 0, cur, rfl, by omega, hh, by omega, fun i u hu => ?_⟩⟩ ?_ (fun k hk => ?_)
        · have e : flatE Th.cells (q ++ [y]) = flatE Th.cells q ++ y.cells.toList := by rw [flatE_append]; simp [flatE]
          rw [e, ← hc4, List.getElem?_take] at hu
          rw [Nat.zero_add]
          split at hu
          · simpa using hu
          · cases hu
        · exact (Chg.refl _ w).grown h2 (fun k hk => by cases hk)
        · obtain ⟨ad, e, rfl⟩ := hk
          obtain rfl := Option.some.inj e
          exact .inr hg
end Go.Proofs.Ytckhmdeeddjkhaa
