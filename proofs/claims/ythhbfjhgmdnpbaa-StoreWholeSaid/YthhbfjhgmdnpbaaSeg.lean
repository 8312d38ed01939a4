/- SEGMENTS of bytes: slices that own their cells, room behind them too. -/
import Derived.Test.YthhbfjhgmdnpbaaChg
import Derived.Test.YthhbfjhgmdnpbaaStr
import Derived.ArgAppend
import Derived.Lib.SmallJoins
namespace Go.Proofs.Ythhbfjhgmdnpbaa
open Go.RowKit
/-- the cell o of block b belongs to the slice u -/
def SegIn (u : Value) (b o : Nat) : Prop := ∃ off n c, u = .slice (some ⟨b, off, none⟩) n c ∧ off ≤ o ∧ o < off + c
def SG (w : World) (u : Value) (l : List UInt8) : Prop :=
  ∃ A n c, u = .slice A n c ∧ l.length = n ∧ n ≤ c ∧ c ≤ maxLen ∧ (c = 0 ∨ ∃ b off cur, A = some ⟨b, off, none⟩ ∧ Blk w b 5 cur ∧ off + c ≤ cur.size ∧ ∀ (j : Nat) (x : UInt8), l[j]? = some x → cur[off + j]? = some (byteV x))
theorem SG.rb {w : World} {A : Option Addr} {n c : Nat} {l : List UInt8} (h : SG w (.slice A n c) l) : RB w A n l := by
  obtain ⟨A', n', c', e, hl, hnc, _, h⟩ := h
  injection e with e1 e2 e3
  subst e1 e2 e3
  refine ⟨hl, fun hn => ?_⟩
  rcases h with h | ⟨b, off, cur, rfl, hb, _, hc⟩
  · omega
  · exact ⟨b, off, rfl, hb.lt, fun j x hj => by rw [hb.cell]; exact hc j x hj⟩
theorem SG.form {w : World} {u : Value} {l : List UInt8} (h : SG w u l) : ∃ A c, u = .slice A l.length c ∧ l.length ≤ c ∧ c ≤ maxLen := by
  obtain ⟨A, n, c, rfl, rfl, h1, h2, _⟩ := h
  exact ⟨A, c, rfl, h1, h2⟩
theorem SG.nil (w : World) (A : Option Addr) : SG w (.slice A 0 0) [] := ⟨A, 0, 0, rfl, rfl, Nat.le_refl _, Nat.zero_le _, .inl rfl⟩
theorem segIn_nil {A : Option Addr} {n b o : Nat} : ¬ SegIn (.slice A n 0) b o := fun ⟨off, n', c, e, h1, h2⟩ => by
  injection e with _ _ e3
  omega
theorem SG.lt {w : World} {u : Value} {l : List UInt8} (h : SG w u l) {b o : Nat} (hs : SegIn u b o) : b < w.heap.size := by
  obtain ⟨A, n, c, rfl, _, _, _, h⟩ := h
  obtain ⟨off, n', c', e, h1, h2⟩ := hs
  injection e with e1 _ e3
  rcases h with h | ⟨b', off', cur, e', hb, _⟩
  · omega
  · rw [e1] at e'
    obtain ⟨rfl, rfl⟩ : b = b' ∧ off = off' := by simpa using e'
    exact hb.lt
theorem SG.chg {S : Nat → Prop} {w w' : World} {u : Value} {l : List UInt8} (h : SG w u l) (hc : Chg S w w') (hn : ∀ b o, SegIn u b o → ¬ S b) : SG w' u l := by
  obtain ⟨A, n, c, rfl, hl, hnc, hcm, h⟩ := h
  refine ⟨A, n, c, rfl, hl, hnc, hcm, ?_⟩
  rcases h with h | ⟨b, off, cur, rfl, hb, hs, hcc⟩
  · exact .inl h
  · by_cases h0 : c = 0
    · exact .inl h0
    · exact .inr ⟨b, off, cur, rfl, hb.chg hc (hn b off ⟨off, n, c, rfl, Nat.le_refl _, by omega⟩), hs, hcc⟩
theorem SG.keep {w w' : World} {u : Value} {l : List UInt8} (h : SG w u l) (hb : Below w.heap.size w w') : SG w' u l := h.chg (Chg.of_below hb (fun _ => False)) (fun _ _ _ => id)
/-- a cell that is no one of the segment's is written -/
theorem SG.far {w : World} {u : Value} {l : List UInt8} (h : SG w u l) {b o : Nat} (hn : ¬ SegIn u b o) (x : Value) : SG (w.setCell ⟨b, o, none⟩ x) u l := by
  obtain ⟨A, n, c, rfl, hl, hnc, hcm, h⟩ := h
  refine ⟨A, n, c, rfl, hl, hnc, hcm, ?_⟩
  rcases h with h | ⟨b', off, cur, rfl, hb, hs, hcc⟩
  · exact .inl h
  · by_cases e : b' = b
    · subst e
      refine .inr ⟨b', off, _, rfl, hb.set_ o x, by simpa using hs, fun j y hj => ?_⟩
      rw [Array.getElem?_setIfInBounds_ne]
      · exact hcc j y hj
      · intro e
        have hjl := (List.getElem?_eq_some_iff.1 hj).1
        exact hn ⟨off, n, c, rfl, by omega, by omega⟩
    · exact .inr ⟨b', off, cur, rfl, hb.far (p := ⟨b, o, none⟩) e x, hs, hcc⟩
/-- one of its bytes is written -/
theorem SG.put {w : World} {b off n c : Nat} {l : List UInt8} (h : SG w (.slice (some ⟨b, off, none⟩) n c) l) (k : Nat) (x : UInt8) : SG (w.setCell ⟨b, off + k, none⟩ (byteV x)) (.slice (some ⟨b, off, none⟩) n c) (l.set k x) := by
  obtain ⟨A, n', c', e, hl, hnc, hcm, h⟩ := h
  injection e with e1 e2 e3
  subst e1 e2 e3
  refine ⟨_, n, c, rfl, by rw [List.length_set]; exact hl, hnc, hcm, ?_⟩
  rcases h with h | ⟨b', off', cur, e, hb, hs, hcc⟩
  · exact .inl h
  · obtain ⟨rfl, rfl⟩ : b = b' ∧ off = off' := by simpa using e
    refine .inr ⟨b, off, _, rfl, hb.set_ (off + k) (byteV x), by simpa using hs, fun j y hj => ?_⟩
    by_cases hk : k = j
    · subst hk
      rw [Array.getElem?_setIfInBounds_self]
      rw [List.getElem?_set_self' ] at hj
      cases hq : l[k]? with
      | none => rw [hq] at hj; cases hj
      | some z =>
        rw [hq] at hj
        obtain rfl := Option.some.inj hj
        have := (List.getElem?_eq_some_iff.1 hq).1
        rw [if_pos (by omega)]
        rfl
    · rw [List.getElem?_set_ne hk] at hj
      rw [Array.getElem?_setIfInBounds_ne (by omega)]
      exact hcc j y hj
/-- the byte behind its last is written: one byte more -/
theorem SG.push {w : World} {b off n c : Nat} {l : List UInt8} (h : SG w (.slice (some ⟨b, off, none⟩) n c) l) (hn : n < c) (x : UInt8) :
    SG (w.setCell ⟨b, off + n, none⟩ (byteV x)) (.slice (some ⟨b, off, none⟩) (n + 1) c) (l ++ [x]) ∧ SG (w.setCell ⟨b, off + n, none⟩ (byteV x)) (.slice (some ⟨b, off, none⟩) n c) l := by
  obtain ⟨A, n', c', e, hl, hnc, hcm, h⟩ := h
  injection e with e1 e2 e3
  subst e1 e2 e3
  rcases h with h | ⟨b', off', cur, e, hb, hs, hcc⟩
  · omega
  · obtain ⟨rfl, rfl⟩ : b = b' ∧ off = off' := by simpa using e
    have hb2 := hb.set_ (off + n) (byteV x)
    refine ⟨⟨_, n + 1, c, rfl, by simp [hl], by omega, hcm, .inr ⟨b, off, _, rfl, hb2, by simpa using hs, fun j y hj => ?_⟩⟩, ⟨_, n, c, rfl, hl, hnc, hcm, .inr ⟨b, off, _, rfl, hb2, by simpa using hs, fun j y hj => ?_⟩⟩⟩
    · rw [List.getElem?_append] at hj
      split at hj
      · rename_i hjl
        rw [Array.getElem?_setIfInBounds_ne (by omega)]
        exact hcc j y hj
      · rename_i hjl
        have h0 : j - l.length = 0 := by
          have := (List.getElem?_eq_some_iff.1 hj).1
          simp at this; omega
        rw [h0] at hj
        obtain rfl := Option.some.inj hj
        have : j = n := by omega
        subst this
        rw [Array.getElem?_setIfInBounds_self, if_pos (by omega)]
    · have hjl := (List.getElem?_eq_some_iff.1 hj).1
      rw [Array.getElem?_setIfInBounds_ne (by omega)]
      exact hcc j y hj
theorem SG.of_ob {w : World} {base : Nat} {v : Value} {l : List UInt8} (h : OB w base v l) : SG w v l ∧ ∀ b o, SegIn v b o → base ≤ b ∧ v.ownBlock = some b := by
  rcases h.2 with ⟨rfl, h0⟩ | ⟨g, cap, cur, rfl, hb, hh, h1, h2, h3, h4⟩
  · have : l = [] := List.eq_nil_of_length_eq_zero h0
    subst this
    exact ⟨SG.nil _ _, fun b o hs => absurd hs segIn_nil⟩
  · refine ⟨⟨_, _, cap, rfl, rfl, h1, h2, .inr ⟨g, 0, cur, rfl, hh, by omega, fun j x hj => ?_⟩⟩, fun b o ⟨off, n, c, e, _, _⟩ => ?_⟩
    · have hjl := (List.getElem?_eq_some_iff.1 hj).1
      have h5 : (List.take (l.length * 1) cur.toList)[j]? = (l.map byteV)[j]? := by rw [h4]
      rw [List.getElem?_take, if_pos (by omega), List.getElem?_map, hj] at h5
      rw [Nat.zero_add]
      simpa using h5
    · injection e with e _ _
      obtain ⟨rfl, _⟩ : g = b ∧ 0 = off := by simpa using e
      exact ⟨hb, rfl⟩
/-- a cell behind its last byte is written -/
theorem SG.room {w : World} {b off n c : Nat} {l : List UInt8} (h : SG w (.slice (some ⟨b, off, none⟩) n c) l) {j : Nat} (hj : n ≤ j) (x : Value) : SG (w.setCell ⟨b, off + j, none⟩ x) (.slice (some ⟨b, off, none⟩) n c) l := by
  obtain ⟨A, n', c', e, hl, hnc, hcm, h⟩ := h
  injection e with e1 e2 e3
  subst e1 e2 e3
  refine ⟨_, n, c, rfl, hl, hnc, hcm, ?_⟩
  rcases h with h | ⟨b', off', cur, e, hb, hs, hcc⟩
  · exact .inl h
  · obtain ⟨rfl, rfl⟩ : b = b' ∧ off = off' := by simpa using e
    refine .inr ⟨b, off, _, rfl, hb.set_ (off + j) x, by simpa using hs, fun i y hi => ?_⟩
    have hil := (List.getElem?_eq_some_iff.1 hi).1
    rw [Array.getElem?_setIfInBounds_ne (by omega)]
    exact hcc i y hi
/-- one byte more behind a segment: in its room, or in a block of the call's own -/
theorem append_seg {w : World} {ops : Array Oper} {rest : List Oper} {o : Oper} {a : Act} {Q : Exit → Act → World → Prop} (hgd : o.guard = none) (s x : Operand)
    (ho : o.op = .call { callee := .builtin .append, args := #[s, x], argTypes := #[29, 29] })
    (u : Value) (l : List UInt8) (hs : a.eval s = u) (hu : SG w u l) (g0 c0 : Nat) (m : UInt8) (hx : a.eval x = .slice (some ⟨g0, 0, none⟩) 1 c0) (hm : w.cell? ⟨g0, 0, none⟩ = some (byteV m)) (hlen : l.length ≤ 1000000000)
    (h : ∀ u' w', ((∃ b off c, u = .slice (some ⟨b, off, none⟩) l.length c ∧ l.length < c ∧ u' = .slice (some ⟨b, off, none⟩) (l.length + 1) c ∧ w' = w.setCell ⟨b, off + l.length, none⟩ (byteV m)) ∨ (OB w' w.heap.size u' (l ++ [m]) ∧ Below w.heap.size w w')) → wpList Try.prog ops Q rest (a.put o.dst u') w') : wpList Try.prog ops Q (o :: rest) a w := by
  obtain ⟨i0, hi, hz0, hz1, hz2⟩ := info_parts info8
  have hnews : ∀ j z, [byteV m][j]? = some z → w.cell? ((⟨g0, 0, none⟩ : Addr).add j) = some z := fun j z hj => by
    match j, hj with
    | 0, hj => obtain rfl := Option.some.inj hj; simpa [Addr.add] using hm
    | j + 1, hj => simp at hj
  have hone : ∀ z ∈ [byteV m], z.oneCell' = true := fun z hz => by simp at hz; subst hz; rfl
  obtain ⟨A, n, c, rfl, hl, hnc, hcm, hu'⟩ := hu
  subst hl
  by_cases hfit : l.length + 1 ≤ c
  · rcases hu' with h0 | ⟨b, off, cur, rfl, hb, hsz, hc⟩
    · omega
    · have hrun := run_append_room_cells (P := Try.prog) w 29 o.type 5 i0 Try.underlying29 hi b off l.length c ⟨g0, 0, none⟩ 1 c0 [byteV m] (by rw [hz1]; rfl) hnews hone hfit (fun j hj => by
          have hj0 : j = 0 := by simpa using hj
          subst hj0
          rw [hz1, hb.cell, Array.getElem?_eq_getElem (by omega)]; rfl) (fun j _ => hb.frozen _)
      rw [hz1, Nat.mul_one] at hrun
      have hw' : w.setCells b (off + l.length) [byteV m] = w.setCell ⟨b, off + l.length, none⟩ (byteV m) := rfl
      rw [hw'] at hrun
      refine wpList_plain hgd fun K hK => ?_
      unfold Oper.wp execOp
      simp only [ho, resolve, invoke, builtin, Sem.run_bind, Sem.run_pure, Result.andThen_ok, List.map_toArray, List.map_cons, List.map_nil, hs, hx, hrun]
      exact hK _ _ (h _ _ (.inl ⟨b, off, c, rfl, by omega, rfl, rfl⟩))
  · have hc1 : c = l.length := by omega
    subst hc1
    refine wpList_append_grows w hgd s x 29 ho 5 i0 _ 1 1 Try.underlying29 hi hz0 hz1 hz2 rfl (by omega) A l.length l.length (l.map byteV) hs (fun e => ?_) (by simp) (fun ad e j z hz => ?_) ⟨g0, 0, none⟩ 1 c0 [byteV m] hx rfl hnews hone (by omega) (by simp only [maxLen]; omega) (by omega) ?_
    · rcases hu' with h0 | ⟨b, off, cur, e2, _⟩
      · exact ⟨h0, h0⟩
      · rw [e] at e2; cases e2
    · have hjl := (List.getElem?_eq_some_iff.1 hz).1
      rw [List.length_map] at hjl
      rcases hu' with h0 | ⟨b, off, cur, e2, hb, hsz, hc⟩
      · omega
      · rw [e] at e2
        obtain rfl := Option.some.inj e2
        have e3 : (⟨b, off, none⟩ : Addr).add j = ⟨b, off + j, none⟩ := by unfold Addr.add; split <;> simp_all
        rw [e3, hb.cell]
        rw [List.getElem?_map] at hz
        cases hq : l[j]? with
        | none => rw [hq] at hz; cases hz
        | some y =>
          rw [hq] at hz
          obtain rfl := Option.some.inj hz
          exact hc j y hq
    · intro v' w' h1 h2
      refine h _ _ (.inr ⟨?_, ⟨h2.os, h2.tape, h2.output, h2.size, fun k hk => h2.block k hk (by simp)⟩⟩)
      unfold OB
      rw [List.length_append, List.map_append]
      simpa using h1
end Go.Proofs.Ythhbfjhgmdnpbaa
