/- Slices of marks that are the call's own; the image of marks that may be. -/
import Derived.Test.YtpeaacbbfkanmaaDoorCkptDec
import Derived.Test.YtpeaacbbfkanmaaDoorRow
namespace Go.Proofs.YtpeaacbbfkanmaaDoor
open Go.RowKit
def mz : Mk := ⟨0, 0, 0, 0, 0, 0, 0, 0, 0⟩
def cellsL (l : List Mk) : List Value := (l.map fun m => m.cells.toList).flatten
theorem cellsL_snoc (l : List Mk) (m : Mk) : cellsL (l ++ [m]) = cellsL l ++ m.cells.toList := by unfold cellsL; simp
theorem cellsL_append (l l' : List Mk) : cellsL (l ++ l') = cellsL l ++ cellsL l' := by unfold cellsL; simp
theorem cellsL_length (l : List Mk) : (cellsL l).length = l.length * 9 := by
  induction l with
  | nil => rfl
  | cons m l ih =>
    have h1 : m.cells.toList.length = 9 := rfl
    simp only [cellsL, List.map_cons, List.flatten_cons, List.length_append, List.length_cons, h1] at *; omega
theorem cellsL_at (l : List Mk) {j : Nat} {m : Mk} (h : l[j]? = some m) {k : Nat} {u : Value} (hu : m.cells[k]? = some u) : (cellsL l)[j * 9 + k]? = some u := by
  obtain ⟨hj, rfl⟩ := List.getElem?_eq_some_iff.1 h
  have hk : k < 9 := (Array.getElem?_eq_some_iff.1 hu).1
  have e : l = l.take j ++ (l[j] :: l.drop (j + 1)) := by rw [← List.drop_eq_getElem_cons hj, List.take_append_drop]
  have hlen : (cellsL (l.take j)).length = j * 9 := by rw [cellsL_length, List.length_take, Nat.min_eq_left (by omega)]
  rw [e, cellsL_append, List.getElem?_append_right (by omega), hlen, Nat.add_sub_cancel_left]
  unfold cellsL
  rw [List.map_cons, List.flatten_cons, List.getElem?_append_left (by show k < 9; exact hk)]
  simpa using hu
theorem cellsL_one (l : List Mk) : ∀ u ∈ cellsL l, u.oneCell' = true := by
  intro u hu
  unfold cellsL at hu
  rw [List.mem_flatten] at hu
  obtain ⟨q, hq, hu⟩ := hu
  obtain ⟨m, _, rfl⟩ := List.mem_map.1 hq
  simp only [Mk.cells, List.mem_cons, List.not_mem_nil, or_false] at hu
  rcases hu with rfl | rfl | rfl | rfl | rfl | rfl | rfl | rfl | rfl <;> rfl
/-- the slice value v owns the marks l -/
def OM (w : World) (base : Nat) (v : Value) (l : List Mk) : Prop := w.ownsRow base 31 9 v l.length (cellsL l)
theorem infoMk : ∃ z, (Tryd.prog.info? 31).map (fun i => (i.zero, i.size, i.bytes)) = some (some z, 9, 72) ∧ z.cells.size = 9 := by
  have hM : (Tryd.prog.info? 31).map (fun i => (i.zero.map (fun z => z.cells.size), i.size, i.bytes)) = some (some 9, 9, 72) := by kernel_rfl
  obtain ⟨i0, hi, hz⟩ := Option.map_eq_some_iff.1 hM
  simp only [Prod.mk.injEq] at hz
  obtain ⟨hz0, hz1, hz2⟩ := hz
  obtain ⟨z, hz0, hz3⟩ := Option.map_eq_some_iff.1 hz0
  exact ⟨z, by rw [hi]; simp [hz0, hz1, hz2], hz3⟩
theorem OM.nil (w : World) (base : Nat) : OM w base (.slice none 0 0) [] := World.ownsRow_nil w base _ 9
theorem OM.keep {w w' : World} {base : Nat} {v : Value} {l : List Mk} (h : OM w base v l) (hb : Below w.heap.size w w') : OM w' base v l := own_keep h hb
theorem OM.less {w : World} {base base' : Nat} {v : Value} {l : List Mk} (h : OM w base v l) (hb : base' ≤ base) : OM w base' v l := by
  refine ⟨h.1, ?_⟩
  rcases h.2 with h | ⟨g, cap, cur, e, hg, hr⟩
  · exact .inl h
  · exact .inr ⟨g, cap, cur, e, Nat.le_trans hb hg, hr⟩
theorem OM.lt {w : World} {base : Nat} {v : Value} {l : List Mk} (h : OM w base v l) : ∀ k, v.ownBlock = some k → base ≤ k ∧ k < w.heap.size := World.ownsRow.lt h
theorem OM.form {w : World} {base : Nat} {v : Value} {l : List Mk} (h : OM w base v l) : ∃ A cap, v = .slice A l.length cap ∧ l.length ≤ cap ∧ MS w A l.length l ∧ ((A = none ∧ l.length = 0) ∨ ∃ g, A = some ⟨g, 0, none⟩ ∧ base ≤ g ∧ g < w.heap.size) := by
  obtain ⟨A, cap, rfl, h1, _, h3⟩ := own_form h
  refine ⟨A, cap, rfl, h1, ⟨rfl, fun hp => ?_⟩, h3⟩
  rcases h3 with ⟨_, h0⟩ | ⟨g, rfl, hg, hlt⟩
  · omega
  · refine ⟨g, 0, rfl, hlt, fun j m hj k u hu => ?_⟩
    have hj' := (List.getElem?_eq_some_iff.1 hj).1
    have hk : k < 9 := (Array.getElem?_eq_some_iff.1 hu).1
    rw [Nat.zero_add]
    exact (World.ownsRow.cellAt h (j * 9 + k) (by omega)).trans (cellsL_at l hj hu)
theorem MS.src {w : World} {A : Option Addr} {n : Nat} {l : List Mk} (h : MS w A n l) : ∀ ad, A = some ad → ∀ j u, (cellsL l)[j]? = some u → w.cell? (ad.add j) = some u := by
  intro ad e j u hu
  have hj := (List.getElem?_eq_some_iff.1 hu).1
  rw [cellsL_length] at hj
  have hn : 0 < n := by have := h.1; omega
  obtain ⟨b, off, e', _, hc⟩ := h.2 hn
  rw [e] at e'
  obtain rfl := Option.some.inj e'
  have hjl : j / 9 < l.length := by omega
  have hcs : l[j / 9].cells.size = 9 := rfl
  have hk : j % 9 < l[j / 9].cells.size := by omega
  have q := cellsL_at l (List.getElem?_eq_getElem hjl) (Array.getElem?_eq_getElem hk)
  rw [show j / 9 * 9 + j % 9 = j from by omega, hu] at q
  have := hc (j / 9) _ (List.getElem?_eq_getElem hjl) (j % 9) u (by rw [Array.getElem?_eq_getElem hk]; exact q.symm)
  rw [show off + j / 9 * 9 + j % 9 = off + j from by omega] at this
  exact cell_add this
theorem append_marks {w : World} {ops : Array Oper} {rest : List Oper} {o : Oper} {a : Act} {Q : Exit → Act → World → Prop} (hgd : o.guard = none) (s x : Operand)
    (ho : o.op = .call { callee := .builtin .append, args := #[s, x], argTypes := #[22, 22] })
    (base : Nat) (v : Value) (l : List Mk) (hs : a.eval s = v) (hown : OM w base v l) (A : Option Addr) (n c : Nat) (l2 : List Mk) (hx : a.eval x = .slice A n c) (hr : MS w A n l2)
    (hlen : l.length + n ≤ 1048600) (hbase : base ≤ w.heap.size)
    (h : ∀ v' w', OM w' base v' (l ++ l2) → w.grownBy w' v.ownBlock → (v'.ownBlock = v.ownBlock ∨ v'.ownBlock = some w.heap.size) → wpList Tryd.prog ops Q rest (a.put o.dst v') w') : wpList Tryd.prog ops Q (o :: rest) a w := by
  obtain ⟨z, hz1, hz2⟩ := infoMk
  refine append_row hgd s x 22 31 ho Tryd.underlying22 hz1 hz2 (by omega) base v l.length (cellsL l) hs hown A n c (cellsL l2) hx (by rw [cellsL_length, hr.1]) (fun e => by
    rcases Nat.eq_zero_or_pos n with h0 | h0
    · exact h0
    · obtain ⟨b, off, e', _⟩ := hr.2 h0
      rw [e] at e'; cases e') hr.src (cellsL_one l2) (by omega) (by simp only [maxLen]; omega) hbase ?_
  intro v' w' h1 h2 h3
  refine h v' w' ?_ h2 h3
  unfold OM
  rw [List.length_append, cellsL_append, hr.1]
  exact h1
/-- a row of marks and where it lies -/
theorem MS.new (w : World) (m : Mk) {g : Nat} (hg : g = w.heap.size) : MS (w.alloc (.cells m.cells 31)) (some ⟨g, 0, none⟩) 1 [m] := by
  have hB := Blk.new w 31 m.cells hg
  refine ⟨rfl, fun _ => ⟨g, 0, rfl, hB.lt, fun j m' hj k u hu => ?_⟩⟩
  match j, hj with
  | 0, hj =>
    obtain rfl := Option.some.inj hj
    rw [hB.cell]
    simpa using hu
  | j + 1, hj => simp at hj
/-! ### images -/
theorem mkAt_enc (l : List Mk) {i : Nat} {m : Mk} (h : l[i]? = some m) (hm : mayM m = true) : mkAt (encB l) (9 + 72 * i) = m := by
  have hb : ∀ k x, m.list[k]? = some x → (numAt (encB l) (9 + 72 * i + 8 * k) : Int) = x := fun k x hx => by
    unfold mayM at hm
    simp only [Bool.and_eq_true] at hm
    have h2 := List.all_eq_true.1 hm.1 x (List.mem_of_getElem? hx)
    simp [bigB] at h2
    exact encB_num l h hx (by omega) (by omega)
  obtain ⟨a0, a1, a2, a3, a4, a5, a6, a7, a8⟩ := m
  unfold mkAt
  have q0 := hb 0 _ rfl; have q1 := hb 1 _ rfl; have q2 := hb 2 _ rfl; have q3 := hb 3 _ rfl; have q4 := hb 4 _ rfl; have q5 := hb 5 _ rfl; have q6 := hb 6 _ rfl; have q7 := hb 7 _ rfl; have q8 := hb 8 _ rfl
  simp only [Mk.mk.injEq]
  exact ⟨q0, q1, q2, q3, q4, q5, q6, q7, q8⟩
theorem mayB_parts {l : List Mk} (h : mayB l = true) : l.all mayM = true ∧ 1 ≤ l.length ∧ l.length ≤ 8 := by
  unfold mayB at h
  simp only [Bool.and_eq_true, decide_eq_true_eq] at h
  exact h
theorem parse_encB {l : List Mk} (h : mayB l = true) : parse (encB l) l.length = l := by
  obtain ⟨h1, _, _⟩ := mayB_parts h
  refine List.ext_getElem? fun i => ?_
  by_cases hi : i < l.length
  · rw [parse_at _ _ _ hi, mkAt_enc l (List.getElem?_eq_getElem hi) (List.all_eq_true.1 h1 _ (List.getElem_mem hi)), List.getElem?_eq_getElem hi]
  · rw [List.getElem?_eq_none (by rw [parse_length]; omega), List.getElem?_eq_none (by omega)]
theorem crcMore_bd (l : List UInt8) : crcMore 0 l < 256 ^ 4 := by
  have := crcMore_lt l (show (0 : Nat) < 4294967296 by omega)
  have e : (256 : Nat) ^ 4 = 4294967296 := by decide
  omega
theorem decB_enc {l : List Mk} (h : mayB l = true) : decB (encB l) l.length = true := by
  obtain ⟨_, _, h8⟩ := mayB_parts h
  unfold decB
  rw [decide_eq_true (encB_length l), decide_eq_true (encB_take8 l), decide_eq_true (encB_count l h8), parse_encB h, h, encB_sum, encB_body, leV_leB, Nat.mod_eq_of_lt (crcMore_bd _)]
  simp
theorem decB_form {b : List UInt8} {n : Nat} (h : decB b n = true) : encB (parse b n) = b ∧ mayB (parse b n) = true ∧ b.length = 13 + 72 * n := by
  unfold decB at h
  simp only [Bool.and_eq_true, decide_eq_true_eq] at h
  obtain ⟨h1, h2, h3, h4, h5⟩ := h
  exact ⟨parse_enc b n h1 h2 h3 h5, h4, h1⟩
theorem encB_inj {l l' : List Mk} (h : mayB l = true) (h' : mayB l' = true) (e : encB l = encB l') : l = l' := by
  have hl : l.length = l'.length := by
    have h1 := encB_length l
    have h2 := encB_length l'
    rw [e] at h1
    omega
  have h1 := parse_encB h
  have h2 := parse_encB h'
  rw [← h1, ← h2, e, hl]
end Go.Proofs.YtpeaacbbfkanmaaDoor
