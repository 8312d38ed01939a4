/- SEGMENTS of bytes: slices that own their cells, room behind them too; a list of them, no two of which meet. -/
import Derived.Test.YtngaohmfedoeeaaRecRefT
import Derived.ArgAppend
namespace Go.Proofs.Ytngaohmfedoeeaa
open Go.RowKit
/-- the cell o of block b belongs to the slice u -/
def SegIn (u : Value) (b o : Nat) : Prop := ∃ off n c, u = .slice (some ⟨b, off, none⟩) n c ∧ off ≤ o ∧ o < off + c
def SG (w : World) (u : Value) (l : List UInt8) : Prop :=
  ∃ A n c, u = .slice A n c ∧ l.length = n ∧ n ≤ c ∧ c ≤ maxLen ∧ (c = 0 ∨ ∃ b off cur, A = some ⟨b, off, none⟩ ∧ Blk w b 5 cur ∧ off + c ≤ cur.size ∧ ∀ (j : Nat) (x : UInt8), l[j]? = some x → cur[off + j]? = some (byteV x))
theorem SG.rb {w : World} {A : Option Addr} {n c : Nat} {l : List UInt8} (h : SG w (.slice A n c) l) : RB w A n l := by
  obtain ⟨A', n', c', e, hl, hnc, _, h⟩ := h
  injection e with e1 e2 e3
  subst e1 e2 e3
  refine ⟨hl, fun hn => ?_⟩
  rcases h with h | ⟨b, off, cur, rfl, hb, _, hc⟩
  · omega
  · exact ⟨b, off, rfl, hb.lt, fun j x hj => by rw [hb.cell]; exact hc j x hj⟩
theorem SG.form {w : World} {u : Value} {l : List UInt8} (h : SG w u l) : ∃ A c, u = .slice A l.length c ∧ l.length ≤ c ∧ c ≤ maxLen := by
  obtain ⟨A, n, c, rfl, rfl, h1, h2, _⟩ := h
  exact ⟨A, c, rfl, h1, h2⟩
theorem SG.nil (w : World) (A : Option Addr) : SG w (.slice A 0 0) [] := ⟨A, 0, 0, rfl, rfl, Nat.le_refl _, Nat.zero_le _, .inl rfl⟩
theorem segIn_nil {A : Option Addr} {n b o : Nat} : ¬ SegIn (.slice A n 0) b o := fun ⟨off, n', c, e, h1, h2⟩ => by
  injection e with _ _ e3
  omega
theorem SG.lt {w : World} {u : Value} {l : List UInt8} (h : SG w u l) {b o : Nat} (hs : SegIn u b o) : b < w.heap.size := by
  obtain ⟨A, n, c, rfl, _, _, _, h⟩ := h
  obtain ⟨off, n', c', e, h1, h2⟩ := hs
  injection e with e1 _ e3
  rcases h with h | ⟨b', off', cur, e', hb, _⟩
  · omega
  · rw [e1] at e'
    obtain ⟨rfl, rfl⟩ : b = b' ∧ off = off' := by simpa using e'
    exact hb.lt
theorem SG.chg {S : Nat → Prop} {w w' : World} {u : Value} {l : List UInt8} (h : SG w u l) (hc : Chg S w w') (hn : ∀ b o, SegIn u b o → ¬ S b) : SG w' u l := by
  obtain ⟨A, n, c, rfl, hl, hnc, hcm, h⟩ := h
  refine ⟨A, n, c, rfl, hl, hnc, hcm, ?_⟩
  rcases h with h | ⟨b, off, cur, rfl, hb, hs, hcc⟩
  · exact .inl h
  · by_cases h0 : c = 0
    · exact .inl h0
    · exact .inr ⟨b, off, cur, rfl, hb.chg hc (hn b off ⟨off, n, c, rfl, Nat.le_refl _, by omega⟩), hs, hcc⟩
theorem SG.keep {w w' : World} {u : Value} {l : List UInt8} (h : SG w u l) (hb : Below w.heap.size w w') : SG w' u l := h.chg (Chg.of_below hb (fun _ => False)) (fun _ _ _ => id)
/-- a cell that is no one of the segment's is written -/
theorem SG.far {w : World} {u : Value} {l : List UInt8} (h : SG w u l) {b o : Nat} (hn : ¬ SegIn u b o) (x : Value) : SG (w.setCell ⟨b, o, none⟩ x) u l := by
  obtain ⟨A, n, c, rfl, hl, hnc, hcm, h⟩ := h
  refine ⟨A, n, c, rfl, hl, hnc, hcm, ?_⟩
  rcases h with h | ⟨b', off, cur, rfl, hb, hs, hcc⟩
  · exact .inl h
  · by_cases e : b' = b
    · subst e
      refine .inr ⟨b', off, _, rfl, hb.set_ o x, by simpa using hs, fun j y hj => ?_⟩
      rw [Array.getElem?_setIfInBounds_ne]
      · exact hcc j y hj
      · intro e
        have hjl := (List.getElem?_eq_some_iff.1 hj).1
        exact hn ⟨off, n, c, rfl, by omega, by omega⟩
    · exact .inr ⟨b', off, cur, rfl, hb.far (p := ⟨b, o, none⟩) e x, hs, hcc⟩
/-- one of its bytes is written -/
theorem SG.put {w : World} {b off n c : Nat} {l : List UInt8} (h : SG w (.slice (some ⟨b, off, none⟩) n c) l) (k : Nat) (x : UInt8) : SG (w.setCell ⟨b, off + k, none⟩ (byteV x)) (.slice (some ⟨b, off, none⟩) n c) (l.set k x) := by
  obtain ⟨A, n', c', e, hl, hnc, hcm, h⟩ := h
  injection e with e1 e2 e3
  subst e1 e2 e3
  refine ⟨_, n, c, rfl, by rw [List.length_set]; exact hl, hnc, hcm, ?_⟩
  rcases h with h | ⟨b', off', cur, e, hb, hs, hcc⟩
  · exact .inl h
  · obtain ⟨rfl, rfl⟩ : b = b' ∧ off = off' := by simpa using e
    refine .inr ⟨b, off, _, rfl, hb.set_ (off + k) (byteV x), by simpa using hs, fun j y hj => ?_⟩
    by_cases hk : k = j
    · subst hk
      rw [Array.getElem?_setIfInBounds_self]
      rw [List.getElem?_set_self' ] at hj
      cases hq : l[k]? with
      | none => rw [hq] at hj; cases hj
      | some z =>
        rw [hq] at hj
        obtain rfl := Option.some.inj hj
        have := (List.getElem?_eq_some_iff.1 hq).1
        rw [if_pos (by omega)]
        rfl
    · rw [List.getElem?_set_ne hk] at hj
      rw [Array.getElem?_setIfInBounds_ne (by omega)]
      exact hcc j y hj
/-- the byte behind its last is written: one byte more -/
theorem SG.push {w : World} {b off n c : Nat} {l : List UInt8} (h : SG w (.slice (some ⟨b, off, none⟩) n c) l) (hn : n < c) (x : UInt8) :
    SG (w.setCell ⟨b, off + n, none⟩ (byteV x)) (.slice (some ⟨b, off, none⟩) (n + 1) c) (l ++ [x]) ∧ SG (w.setCell ⟨b, off + n, none⟩ (byteV x)) (.slice (some ⟨b, off, none⟩) n c) l := by
  obtain ⟨A, n', c', e, hl, hnc, hcm, h⟩ := h
  injection e with e1 e2 e3
  subst e1 e2 e3
  rcases h with h | ⟨b', off', cur, e, hb, hs, hcc⟩
  · omega
  · obtain ⟨rfl, rfl⟩ : b = b' ∧ off = off' := by simpa using e
    have hb2 := hb.set_ (off + n) (byteV x)
    refine ⟨⟨_, n + 1, c, rfl, by simp [hl], by omega, hcm, .inr ⟨b, off, _, rfl, hb2, by simpa using hs, fun j y hj => ?_⟩⟩, ⟨_, n, c, rfl, hl, hnc, hcm, .inr ⟨b, off, _, rfl, hb2, by simpa using hs, fun j y hj => ?_⟩⟩⟩
    · rw [List.getElem?_append] at hj
      split at hj
      · rename_i hjl
        rw [Array.getElem?_setIfInBounds_ne (by omega)]
        exact hcc j y hj
      · rename_i hjl
        have h0 : j - l.length = 0 := by
          have := (List.getElem?_eq_some_iff.1 hj).1
          simp at this; omega
        rw [h0] at hj
        obtain rfl := Option.some.inj hj
        have : j = n := by omega
        subst this
        rw [Array.getElem?_setIfInBounds_self, if_pos (by omega)]
    · have hjl := (List.getElem?_eq_some_iff.1 hj).1
      rw [Array.getElem?_setIfInBounds_ne (by omega)]
      exact hcc j y hj
theorem SG.of_ob {w : World} {base : Nat} {v : Value} {l : List UInt8} (h : OB w base v l) : SG w v l ∧ ∀ b o, SegIn v b o → base ≤ b ∧ v.ownBlock = some b := by
  rcases h.2 with ⟨rfl, h0⟩ | ⟨g, cap, cur, rfl, hb, hh, h1, h2, h3, h4⟩
  · have : l = [] := List.eq_nil_of_length_eq_zero h0
    subst this
    exact ⟨SG.nil _ _, fun b o hs => absurd hs segIn_nil⟩
  · refine ⟨⟨_, _, cap, rfl, rfl, h1, h2, .inr ⟨g, 0, cur, rfl, hh, by omega, fun j x hj => ?_⟩⟩, fun b o ⟨off, n, c, e, _, _⟩ => ?_⟩
    · have hjl := (List.getElem?_eq_some_iff.1 hj).1
      have h5 : (List.take (l.length * 1) cur.toList)[j]? = (l.map byteV)[j]? := by rw [h4]
      rw [List.getElem?_take, if_pos (by omega), List.getElem?_map, hj] at h5
      rw [Nat.zero_add]
      simpa using h5
    · injection e with e _ _
      obtain ⟨rfl, _⟩ : g = b ∧ 0 = off := by simpa using e
      exact ⟨hb, rfl⟩
/-- cut in two -/
theorem SG.cut {w : World} {A : Option Addr} {n c m : Nat} {l : List UInt8} (h : SG w (.slice A n c) l) (hm : m ≤ n) :
    SG w (.slice A m m) (l.take m) ∧ SG w (.slice (advA A c m) (n - m) (c - m)) (l.drop m) ∧ (∀ b o, SegIn (.slice A m m) b o → SegIn (.slice A n c) b o) ∧ (∀ b o, SegIn (.slice (advA A c m) (n - m) (c - m)) b o → SegIn (.slice A n c) b o) ∧
      (∀ b o, SegIn (.slice A m m) b o → ¬ SegIn (.slice (advA A c m) (n - m) (c - m)) b o) := by
  obtain ⟨A', n', c', e, hl, hnc, hcm, h⟩ := h
  injection e with e1 e2 e3
  subst e1 e2 e3
  have hadv : c ≠ m → ∀ b off, A = some ⟨b, off, none⟩ → advA A c m = some ⟨b, off + m, none⟩ := fun hcm' b off e => by
    unfold advA
    rw [if_neg hcm', e]
    simp only [Option.map_some, Addr.add]
    by_cases h0 : m = 0
    · subst h0; simp
    · simp [h0]
  have hA : c = 0 ∨ ∃ b off, A = some ⟨b, off, none⟩ := by
    rcases h with h | ⟨b, off, cur, e, _⟩
    · exact .inl h
    · exact .inr ⟨b, off, e⟩
  have hsub : ∀ b o, SegIn (.slice (advA A c m) (n - m) (c - m)) b o → ∃ off, A = some ⟨b, off, none⟩ ∧ off + m ≤ o ∧ o < off + c := fun b o ⟨off, n', c', e, h1, h2⟩ => by
    injection e with e1 e2 e3
    clear h
    rcases hA with h0 | ⟨b0, off0, h0⟩
    · omega
    · have hcm' : c ≠ m := by omega
      rw [hadv hcm' b0 off0 h0] at e1
      obtain ⟨rfl, rfl⟩ : b0 = b ∧ off0 + m = off := by simpa using e1
      exact ⟨off0, h0, h1, by omega⟩
  refine ⟨⟨A, m, m, rfl, by simp; omega, Nat.le_refl _, by omega, ?_⟩, ⟨_, _, _, rfl, by simp; omega, by omega, by omega, ?_⟩, fun b o ⟨off, n', c', e, h1, h2⟩ => ?_, fun b o hs => ?_, fun b o ⟨off, n', c', e, h1, h2⟩ hs => ?_⟩
  · rcases h with h | ⟨b, off, cur, rfl, hb, hs, hcc⟩
    · exact .inl (by omega)
    · exact .inr ⟨b, off, cur, rfl, hb, by omega, fun j x hj => by
        rw [List.getElem?_take] at hj
        split at hj
        · exact hcc j x hj
        · cases hj⟩
  · rcases h with h | ⟨b, off, cur, e, hb, hs, hcc⟩
    · exact .inl (by omega)
    · by_cases hcm' : c = m
      · exact .inl (by omega)
      · exact .inr ⟨b, off + m, cur, hadv hcm' b off e, hb, by omega, fun j x hj => by
          rw [List.getElem?_drop] at hj
          have := hcc _ _ hj
          rwa [← Nat.add_assoc] at this⟩
  · injection e with e1 e2 e3
    exact ⟨off, n, c, by rw [e1], h1, by omega⟩
  · obtain ⟨off, e, h1, h2⟩ := hsub b o hs
    exact ⟨off, n, c, by rw [e], by omega, h2⟩
  · obtain ⟨off', e', h1', _⟩ := hsub b o hs
    injection e with e1 e2 e3
    rw [e1] at e'
    obtain rfl : off = off' := by injection e' with e'; injection e'
    clear h
    omega
end Go.Proofs.Ytngaohmfedoeeaa
