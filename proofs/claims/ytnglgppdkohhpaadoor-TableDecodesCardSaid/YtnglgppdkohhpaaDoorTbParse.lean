/- What is laid is read again: the bytes of a table that fits. -/
import Derived.Test.YtnglgppdkohhpaaDoorTbReadB
namespace Go.Proofs.YtnglgppdkohhpaaDoor
open Go.RowKit
theorem numAt_mid (P Q : List UInt8) (x k : Nat) (hx : x < 256 ^ k) : numAt (P ++ leB x k ++ Q) P.length k = x := by
  unfold numAt
  rw [List.append_assoc, List.drop_left, List.take_append_of_le_length (by rw [leB_length]; exact Nat.le_refl _), List.take_of_length_le (by rw [leB_length]; exact Nat.le_refl _)]
  rw [leV_leB]; exact Nat.mod_eq_of_lt hx
theorem intsB_split {l : List Int} {j : Nat} {x : Int} (h : l[j]? = some x) (n : Nat) : intsB l n = intsB (l.take j) n ++ leB x.toNat n ++ intsB (l.drop (j + 1)) n := by
  have hj := (List.getElem?_eq_some_iff.1 h).1
  have e : l = l.take j ++ x :: l.drop (j + 1) := by
    have h2 := (List.getElem?_eq_some_iff.1 h).2
    rw [← h2, ← List.drop_eq_getElem_cons hj, List.take_append_drop]
  conv => lhs; rw [e]
  unfold intsB
  simp
theorem numAt_ints (P Q : List UInt8) {l : List Int} {j n : Nat} {x : Int} (h : l[j]? = some x) (hx : x.toNat < 256 ^ n) : numAt (P ++ intsB l n ++ Q) (P.length + n * j) n = x.toNat := by
  have hj := (List.getElem?_eq_some_iff.1 h).1
  have e : P ++ intsB l n ++ Q = (P ++ intsB (l.take j) n) ++ leB x.toNat n ++ (intsB (l.drop (j + 1)) n ++ Q) := by
    rw [intsB_split h n]; simp only [List.append_assoc]
  have hl : P.length + n * j = (P ++ intsB (l.take j) n).length := by
    rw [List.length_append, intsB_length, List.length_take, Nat.min_eq_left (by omega)]
  rw [e, hl]
  exact numAt_mid _ _ _ _ hx
theorem rowsB_split (t : Tb) (s : Nat) : ∀ k, s < k → ∃ R, rowsB t k = rowsB t s ++ rowB (t.nx.getD s []) (t.fo.getD s 0) (t.en.getD s 0) ++ R
  | 0, h => by omega
  | k + 1, h => by
    by_cases e : s = k
    · subst e; exact ⟨[], by rw [rowsB_snoc]; simp⟩
    · obtain ⟨R, hR⟩ := rowsB_split t s k (by omega)
      exact ⟨R ++ rowB (t.nx.getD k []) (t.fo.getD k 0) (t.en.getD k 0), by rw [rowsB_snoc, hR]; simp only [List.append_assoc]⟩
/-- what is asked of a table's own numbers -/
structure Sound (t : Tb) : Prop where
  hc : t.cls.length = 256
  hu : (∀ x ∈ t.fo, x < 4294967296) ∧ ∀ x ∈ t.en, x < 4294967296
theorem TB.sound {w : World} {cs : Array Value} {t : Tb} (h : TB w cs t) : Sound t := ⟨h.hc, h.hu⟩
theorem p256_1 : (256 : Nat) ^ 1 = 256 := by decide
theorem p256_2 : (256 : Nat) ^ 2 = 65536 := by decide
theorem p256_4 : (256 : Nat) ^ 4 = 4294967296 := by decide
section
variable {t : Tb}
theorem enc_nSt (h : Fits t) : nSt (encT t) = t.nx.length := by
  have e : encT t = magicT ++ leB t.nx.length 4 ++ (leB (many t) 2 ++ (intsB t.cls 1 ++ (rowsB t t.nx.length ++ leB (crcMore 0 (bodyT t)) 4))) := by
    unfold encT; generalize leB (crcMore 0 (bodyT t)) 4 = z; unfold bodyT headB frontB
    simp only [List.append_assoc]
  unfold nSt
  rw [e]
  exact numAt_mid magicT _ _ 4 (by rw [p256_4]; have := h.n2; omega)
theorem enc_nCl (h : Fits t) : nCl (encT t) = many t := by
  have e : encT t = (magicT ++ leB t.nx.length 4) ++ leB (many t) 2 ++ (intsB t.cls 1 ++ (rowsB t t.nx.length ++ leB (crcMore 0 (bodyT t)) 4)) := by
    unfold encT; generalize leB (crcMore 0 (bodyT t)) 4 = z; unfold bodyT headB frontB
    simp only [List.append_assoc]
  unfold nCl
  rw [e, show (12 : Nat) = (magicT ++ leB t.nx.length 4).length from by rw [List.length_append, leB_length]; rfl]
  exact numAt_mid _ _ _ 2 (by rw [p256_2]; have := h.m2; omega)
theorem enc_okLen (hs : Sound t) (h : Fits t) : okLen (encT t) := by
  unfold okLen
  rw [enc_nSt h, enc_nCl h, encT_length hs.hc h]
  exact ⟨h.n2, h.m2, rfl⟩
theorem enc_cls (hs : Sound t) (h : Fits t) : clsAt (encT t) = t.cls := by
  have e : encT t = frontB t ++ intsB t.cls 1 ++ (rowsB t t.nx.length ++ leB (crcMore 0 (bodyT t)) 4) := by
    unfold encT; generalize leB (crcMore 0 (bodyT t)) 4 = z; unfold bodyT headB
    simp only [List.append_assoc]
  unfold clsAt
  apply List.ext_getElem?
  intro j
  by_cases hj : j < 256
  · obtain ⟨x, hx⟩ : ∃ x, t.cls[j]? = some x := ⟨_, List.getElem?_eq_getElem (by rw [hs.hc]; exact hj)⟩
    have hb := h.c j x hx
    have hm := h.m2
    rw [List.getElem?_map, List.getElem?_range hj, hx, e]
    have := numAt_ints (frontB t) (rowsB t t.nx.length ++ leB (crcMore 0 (bodyT t)) 4) (n := 1) hx (by rw [p256_1]; omega)
    rw [frontB_length, Nat.one_mul] at this
    simp only [Option.map_some, this]
    rw [Int.toNat_of_nonneg hb.1]
  · rw [List.getElem?_eq_none (by simp; omega), List.getElem?_eq_none (by rw [hs.hc]; omega)]
theorem enc_at (hs : Sound t) (h : Fits t) {s : Nat} (hlt : s < t.nx.length) {row : List Int} {f e : Nat} (hr : t.nx[s]? = some row) (hf : t.fo[s]? = some f) (he : t.en[s]? = some e) :
    rowAt (encT t) (many t) (270 + s * (2 * many t + 8)) = row ∧ numAt (encT t) (270 + s * (2 * many t + 8) + 2 * many t) 4 = f ∧ numAt (encT t) (270 + s * (2 * many t + 8) + 2 * many t + 4) 4 = e := by
  obtain ⟨R, hR⟩ := rowsB_split t s t.nx.length hlt
  rw [List.getD_eq_getElem?_getD, hr, Option.getD_some, getD_some hf, getD_some he] at hR
  obtain ⟨h1, _, h3⟩ := h.r s row hr
  have hP : (headB t ++ rowsB t s).length = 270 + s * (2 * many t + 8) := by rw [List.length_append, headB_length hs.hc, rowsB_length (fun s l hl => (h.r s l hl).1) s (by omega)]
  have E1 : encT t = (headB t ++ rowsB t s) ++ intsB row 2 ++ (leB f 4 ++ (leB e 4 ++ (R ++ leB (crcMore 0 (bodyT t)) 4))) := by
    unfold encT; generalize leB (crcMore 0 (bodyT t)) 4 = z; unfold bodyT
    rw [hR]; unfold rowB; simp only [List.append_assoc]
  have E2 : encT t = (headB t ++ rowsB t s ++ intsB row 2) ++ leB f 4 ++ (leB e 4 ++ (R ++ leB (crcMore 0 (bodyT t)) 4)) := by rw [E1]; simp only [List.append_assoc]
  have E3 : encT t = (headB t ++ rowsB t s ++ intsB row 2 ++ leB f 4) ++ leB e 4 ++ (R ++ leB (crcMore 0 (bodyT t)) 4) := by rw [E1]; simp only [List.append_assoc]
  refine ⟨?_, ?_, ?_⟩
  · unfold rowAt
    apply List.ext_getElem?
    intro j
    by_cases hj : j < many t
    · obtain ⟨x, hx⟩ : ∃ x, row[j]? = some x := ⟨_, List.getElem?_eq_getElem (by rw [h1]; exact hj)⟩
      have hb := withinB_range (h3 j x hx)
      have hn := h.n2
      rw [List.getElem?_map, List.getElem?_range hj, hx, E1]
      have := numAt_ints (headB t ++ rowsB t s) (leB f 4 ++ (leB e 4 ++ (R ++ leB (crcMore 0 (bodyT t)) 4))) (n := 2) hx (by rw [p256_2]; omega)
      rw [hP] at this
      simp only [Option.map_some, this]
      rw [Int.toNat_of_nonneg hb.1]
    · rw [List.getElem?_eq_none (by simp; omega), List.getElem?_eq_none (by rw [h1]; omega)]
  · have hl : 270 + s * (2 * many t + 8) + 2 * many t = (headB t ++ rowsB t s ++ intsB row 2).length := by rw [List.length_append, hP, intsB_length, h1]
    rw [hl, E2]
    exact numAt_mid _ _ _ 4 (by rw [p256_4]; exact hs.hu.1 f (List.mem_of_getElem? hf))
  · have hl : 270 + s * (2 * many t + 8) + 2 * many t + 4 = (headB t ++ rowsB t s ++ intsB row 2 ++ leB f 4).length := by rw [List.length_append, List.length_append, hP, intsB_length, leB_length, h1]
    rw [hl, E3]
    exact numAt_mid _ _ _ 4 (by rw [p256_4]; exact hs.hu.2 e (List.mem_of_getElem? he))
/-- what is laid is read again -/
theorem enc_tab (hs : Sound t) (h : Fits t) : tabAt (encT t) (nCl (encT t)) (nSt (encT t)) = t := by
  rw [enc_nSt h, enc_nCl h]
  have key : ∀ s, s < t.nx.length → ∃ row f e, t.nx[s]? = some row ∧ t.fo[s]? = some f ∧ t.en[s]? = some e := fun s hlt =>
    ⟨_, _, _, List.getElem?_eq_getElem hlt, List.getElem?_eq_getElem (by rw [h.f]; exact hlt), List.getElem?_eq_getElem (by rw [h.e]; exact hlt)⟩
  unfold tabAt
  rw [enc_cls hs h]
  obtain ⟨cls, nx, fo, en⟩ := t
  congr 1
  all_goals
    apply List.ext_getElem?
    intro s
    by_cases hlt : s < nx.length
    · obtain ⟨row, f, e, h1, h2, h3⟩ := key s hlt
      obtain ⟨k1, k2, k3⟩ := enc_at hs h hlt h1 h2 h3
      rw [List.getElem?_map, List.getElem?_range hlt]
      simp only [Option.map_some]
      first
        | (rw [k1]; exact h1.symm)
        | (rw [k2]; exact h2.symm)
        | (rw [k3]; exact h3.symm)
    · rw [List.getElem?_eq_none (by simp; omega)]
      have hf := h.f; have he := h.e
      simp only at hf he
      rw [List.getElem?_eq_none (by omega)]
theorem enc_inj {t t' : Tb} (hs : Sound t) (h : Fits t) (hs' : Sound t') (h' : Fits t') (e : encT t = encT t') : t = t' := by
  rw [← enc_tab hs h, e, enc_tab hs' h']
end
end Go.Proofs.YtnglgppdkohhpaaDoor
