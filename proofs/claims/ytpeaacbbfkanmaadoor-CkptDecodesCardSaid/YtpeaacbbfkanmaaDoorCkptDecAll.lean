/- Both Decodes as one contract; a row of marks written over, place by place. -/
import Derived.Test.YtpeaacbbfkanmaaDoorCkptFill
namespace Go.Proofs.YtpeaacbbfkanmaaDoor
open Go.RowKit
def decL (b : List UInt8) (many : Int) : List Mk := if 1 ≤ many ∧ many ≤ 8 ∧ decB b many.toNat = true then parse b many.toNat else []
def decE (b : List UInt8) (many : Int) : Int := if 1 ≤ many ∧ many ≤ 8 ∧ decB b many.toNat = true then 0 else 210
theorem decL_len (b : List UInt8) (many : Int) : (decL b many).length ≤ 8 := by
  unfold decL
  split
  · rename_i h; rw [parse_length]; omega
  · simp
def DAllPost (b : List UInt8) (many : Int) (w : World) (e : Ending) (w' : World) : Prop :=
  ∃ v, e = .returned (.tuple #[v, .int .i64 (decE b many)]) ∧ OM w' w.heap.size v (decL b many) ∧ Below w.heap.size w w'
theorem om_of_blk {w : World} {base g : Nat} {C : Array Value} {l : List Mk} (hB : Blk w g 31 C) (hs : C.size = 9 * l.length) (hm : MS w (some ⟨g, 0, none⟩) l.length l) (hb : base ≤ g) (hl : l.length ≤ 1048576) : OM w base (.slice (some ⟨g, 0, none⟩) l.length l.length) l := by
  refine ⟨cellsL_length l, .inr ⟨g, l.length, C, rfl, hb, hB, Nat.le_refl _, by simp only [maxLen]; omega, by omega, ?_⟩⟩
  rw [List.take_of_length_le (by rw [Array.length_toList]; omega)]
  refine List.ext_getElem? fun i => ?_
  by_cases hi : i < 9 * l.length
  · have hj : i / 9 < l.length := by omega
    have hcs : l[i / 9].cells.size = 9 := rfl
    have hk : i % 9 < l[i / 9].cells.size := by omega
    have q := cellsL_at l (List.getElem?_eq_getElem hj) (Array.getElem?_eq_getElem hk)
    rw [show i / 9 * 9 + i % 9 = i from by omega] at q
    obtain ⟨b, off, e, _, hc⟩ := hm.2 (by omega)
    have e1 := Option.some.inj e
    simp only [Addr.mk.injEq, and_true] at e1
    obtain ⟨rfl, rfl⟩ := e1
    have := hc (i / 9) _ (List.getElem?_eq_getElem hj) (i % 9) _ (Array.getElem?_eq_getElem hk)
    rw [show 0 + i / 9 * 9 + i % 9 = i from by omega, hB.cell] at this
    rw [Array.getElem?_toList, this, q]
  · rw [List.getElem?_eq_none (by rw [Array.length_toList]; omega), List.getElem?_eq_none (by rw [cellsL_length]; omega)]
theorem dec_all (A : Option Addr) (n cap : Nat) (b : List UInt8) (many : Int) (w : World) (hT : CrcTab w) (hr : RB w A n b) (hcap : n ≤ cap) (hn : n ≤ 140737488355328) :
    Calls Tryd.prog 13 #[.slice A n cap, .int .i64 many] w (DAllPost b many w) := by
  have hln := hr.1
  by_cases hm : 4 ≤ n ∧ 1 ≤ many ∧ many ≤ 8
  · obtain ⟨m, rfl⟩ := Int.eq_ofNat_of_zero_le (show 0 ≤ many by omega)
    refine (decode_any A n cap b m w hT hr hcap hm.1 (by omega) (by omega) hn).mono ?_
    intro e w' hpost
    cases hd : decB b m with
    | true =>
      obtain ⟨g, C, rfl, hg, hB, hs, hms, hb⟩ := hpost.1 hd
      have hc : 1 ≤ (m : Int) ∧ (m : Int) ≤ 8 ∧ decB b (m : Int).toNat = true := ⟨hm.2.1, hm.2.2, by rw [Int.toNat_natCast]; exact hd⟩
      refine ⟨_, by unfold decE; rw [if_pos hc], ?_, hb⟩
      unfold decL
      rw [if_pos hc, Int.toNat_natCast]
      exact om_of_blk hB hs hms hg (by rw [parse_length]; omega)
    | false =>
      obtain ⟨rfl, hb⟩ := hpost.2 hd
      have hc : ¬ (1 ≤ (m : Int) ∧ (m : Int) ≤ 8 ∧ decB b (m : Int).toNat = true) := fun h => by rw [Int.toNat_natCast, hd] at h; cases h.2.2
      exact ⟨_, by unfold decE; rw [if_neg hc], by unfold decL; rw [if_neg hc]; exact OM.nil _ _, hb⟩
  · refine (decode_args A n cap b many w hr (by omega)).mono ?_
    rintro e w' ⟨rfl, hb⟩
    have hc : ¬ (1 ≤ many ∧ many ≤ 8 ∧ decB b many.toNat = true) := fun h => by
      have := (decB_form h.2.2).2.2
      omega
    exact ⟨_, by unfold decE; rw [if_neg hc], by unfold decL; rw [if_neg hc]; exact OM.nil _ _, hb⟩
theorem refDec_all (A : Option Addr) (n cap : Nat) (b : List UInt8) (many : Int) (w : World) (hr : RB w A n b) (hcap : n ≤ cap) (hn : n ≤ 140737488355328) :
    Calls Tryd.prog 12 #[.slice A n cap, .int .i64 many] w (DAllPost b many w) := by
  by_cases hm : 1 ≤ many ∧ many ≤ 8
  · obtain ⟨m, rfl⟩ := Int.eq_ofNat_of_zero_le (show 0 ≤ many by omega)
    refine (refDec_any A n cap b m w hr hcap (by omega) (by omega) hn).mono ?_
    intro e w' hpost
    cases hd : decB b m with
    | true =>
      obtain ⟨v, rfl, ho, hb⟩ := hpost.1 hd
      have hc : 1 ≤ (m : Int) ∧ (m : Int) ≤ 8 ∧ decB b (m : Int).toNat = true := ⟨hm.1, hm.2, by rw [Int.toNat_natCast]; exact hd⟩
      refine ⟨v, by unfold decE; rw [if_pos hc], ?_, hb⟩
      unfold decL
      rw [if_pos hc, Int.toNat_natCast]
      exact ho
    | false =>
      obtain ⟨rfl, hb⟩ := hpost.2 hd
      have hc : ¬ (1 ≤ (m : Int) ∧ (m : Int) ≤ 8 ∧ decB b (m : Int).toNat = true) := fun h => by rw [Int.toNat_natCast, hd] at h; cases h.2.2
      exact ⟨_, by unfold decE; rw [if_neg hc], by unfold decL; rw [if_neg hc]; exact OM.nil _ _, hb⟩
  · refine (refDec_args A n cap many w (by omega)).mono ?_
    rintro e w' ⟨rfl, hb⟩
    have hc : ¬ (1 ≤ many ∧ many ≤ 8 ∧ decB b many.toNat = true) := fun h => hm ⟨h.1, h.2.1⟩
    exact ⟨_, by unfold decE; rw [if_neg hc], by unfold decL; rw [if_neg hc]; exact OM.nil _ _, hb⟩
theorem om_put {w : World} {base g c n : Nat} {la : List Mk} {k : Nat} {M : Mk} (h : OM w base (.slice (some ⟨g, 0, none⟩) n c) (la.set k M)) (hk : k < la.length) {j : Nat} (hj : j < 9) (x : Int) :
    OM (w.setCell ⟨g, k * 9 + j, none⟩ (.int .i64 x)) base (.slice (some ⟨g, 0, none⟩) n c) (la.set k (M.put j x)) := by
  have := h.stored (k := k) (by rw [List.getElem?_set_self hk]) hj x
  rwa [List.set_set] at this
/-- a whole mark written -/
def set9 (w : World) (g k : Nat) (x : Int) : World := ((((((((w.setCell ⟨g, k * 9, none⟩ (.int .i64 0)).setCell ⟨g, k * 9 + 1, none⟩ (.int .i64 0)).setCell ⟨g, k * 9 + 2, none⟩ (.int .i64 0)).setCell ⟨g, k * 9 + 3, none⟩ (.int .i64 x)).setCell ⟨g, k * 9 + 4, none⟩ (.int .i64 0)).setCell ⟨g, k * 9 + 5, none⟩ (.int .i64 0)).setCell ⟨g, k * 9 + 6, none⟩ (.int .i64 0)).setCell ⟨g, k * 9 + 7, none⟩ (.int .i64 0)).setCell ⟨g, k * 9 + 8, none⟩ (.int .i64 0)
theorem om_set9 {w : World} {base g c n : Nat} {l : List Mk} (h : OM w base (.slice (some ⟨g, 0, none⟩) n c) l) {k : Nat} (hk : k < l.length) (x : Int) : OM (set9 w g k x) base (.slice (some ⟨g, 0, none⟩) n c) (l.set k (offM x)) := by
  obtain ⟨m, hm⟩ : ∃ m, l[k]? = some m := ⟨_, List.getElem?_eq_getElem hk⟩
  have h0 := h.stored hm (j := 0) (by decide) 0
  have h1 := om_put h0 hk (j := 1) (by decide) 0
  have h2 := om_put h1 hk (j := 2) (by decide) 0
  have h3 := om_put h2 hk (j := 3) (by decide) x
  have h4 := om_put h3 hk (j := 4) (by decide) 0
  have h5 := om_put h4 hk (j := 5) (by decide) 0
  have h6 := om_put h5 hk (j := 6) (by decide) 0
  have h7 := om_put h6 hk (j := 7) (by decide) 0
  exact om_put h7 hk (j := 8) (by decide) 0
theorem chg_set9 {S : Nat → Prop} {w0 w : World} {g : Nat} (h : Chg S w0 w) (hS : S g) (k : Nat) (x : Int) : Chg S w0 (set9 w g k x) :=
  ((((((((h.setCell (.inl hS) _).setCell (.inl hS) _).setCell (.inl hS) _).setCell (.inl hS) _).setCell (.inl hS) _).setCell (.inl hS) _).setCell (.inl hS) _).setCell (.inl hS) _).setCell (.inl hS) _
theorem om_some {w : World} {base n c : Nat} {A : Option Addr} {l : List Mk} (h : OM w base (.slice A n c) l) (hn : 0 < n) : n = l.length ∧ ∃ g, A = some ⟨g, 0, none⟩ := by
  obtain ⟨A', c', e, _, _, h3⟩ := h.form
  injection e with e1 e2 e3
  subst e1; subst e2
  refine ⟨rfl, ?_⟩
  rcases h3 with ⟨_, h0⟩ | ⟨g, e, _⟩
  · omega
  · exact ⟨g, e⟩
theorem om_ms {w : World} {base n c : Nat} {A : Option Addr} {l : List Mk} (h : OM w base (.slice A n c) l) : MS w A n l := by
  obtain ⟨A', c', e, _, h2, _⟩ := h.form
  injection e with e1 e2 e3
  subst e1; subst e2
  exact h2
theorem fillM_step (E : List Mk) (x : Mk) {k : Nat} (hk : k < E.length) : (List.replicate k x ++ E.drop k).set k x = List.replicate (k + 1) x ++ E.drop (k + 1) := by
  rw [List.set_append_right _ _ (by simp), List.length_replicate, Nat.sub_self, List.drop_eq_getElem_cons hk, List.set_cons_zero, List.replicate_succ', List.append_assoc]
  rfl
theorem aptM_later {w w' : World} {base base' : Nat} {v v' : Value} {l l' : List Mk} (h : OM w base v l) (h' : OM w' base' v' l') (hb : w.heap.size ≤ base') : Apt v v' := fun k hk hk' => by
  have := (h.lt k hk).2
  have := (h'.lt k hk').1
  omega
/-- a byte turned -/
def turnC (c : UInt8) : UInt8 := UInt8.ofNat (c.toNat ^^^ 40)
theorem turnC_bits (c : UInt8) : bits .xor .u8 (c.toNat : Int) 40 = ((turnC c).toNat : Int) := by
  have h := u8_xor_nat c.toNat 40 c.toNat_lt (by omega)
  have hb : c.toNat ^^^ 40 < 256 := Nat.xor_lt_two_pow (n := 8) c.toNat_lt (by omega)
  unfold turnC
  rw [UInt8.toNat_ofNat_of_lt' hb, ← h]
  rfl
theorem turnB_step (l : List UInt8) {k : Nat} {c : UInt8} (hc : l[k]? = some c) : ((l.take k).map turnC ++ l.drop k)[k]? = some c ∧ ((l.take k).map turnC ++ l.drop k).set k (turnC c) = (l.take (k + 1)).map turnC ++ l.drop (k + 1) := by
  obtain ⟨hk, rfl⟩ := List.getElem?_eq_some_iff.1 hc
  have hl : ((l.take k).map turnC).length = k := by rw [List.length_map, List.length_take, Nat.min_eq_left (by omega)]
  constructor
  · rw [List.getElem?_append_right (by omega), hl, Nat.sub_self, List.drop_eq_getElem_cons hk]; rfl
  · rw [List.set_append_right _ _ (by omega), hl, Nat.sub_self, List.drop_eq_getElem_cons hk, List.set_cons_zero, take_snoc (List.getElem?_eq_getElem hk), List.map_append, List.append_assoc]
    rfl
end Go.Proofs.YtpeaacbbfkanmaaDoor
