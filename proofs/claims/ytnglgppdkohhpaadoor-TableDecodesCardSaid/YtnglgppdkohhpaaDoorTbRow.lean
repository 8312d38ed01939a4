/- Tables of states, as they lie in memory: rows that are read; the 259 cells of a table; small laws for arrays by value. -/
import Derived.Test.YtnglgppdkohhpaaDoorFrame
import Derived.Test.YtnglgppdkohhpaaDoorRow
import Derived.Deep.MidRow
import Derived.Deep.WholeRow
import Derived.Laws.StructEq
namespace Go.Proofs.YtnglgppdkohhpaaDoor
open Go.RowKit
theorem below_alloc (W : World) (o : Obj) : Below W.heap.size W (W.alloc o) := (Below.refl _ _).alloc (Nat.le_refl _) _
def iV (x : Int) : Value := .int .i64 x
def uV (x : Nat) : Value := .int .u32 (x : Int)
section
variable {α : Type} {f : α → Value} {w w' : World} {A : Option Addr} {n : Nat} {l : List α}
/-- the slice (A, n) reads as the list l -/
def RG (f : α → Value) (w : World) (A : Option Addr) (n : Nat) (l : List α) : Prop :=
  l.length = n ∧ (0 < n → ∃ b off, A = some ⟨b, off, none⟩ ∧ b < w.heap.size ∧ ∀ (j : Nat) (x : α), l[j]? = some x → w.cell? ⟨b, off + j, none⟩ = some (f x))
theorem RG.keep (h : RG f w A n l) (hb : Below w.heap.size w w') : RG f w' A n l :=
  ⟨h.1, fun hn => by
    obtain ⟨b, off, e, hlt, hc⟩ := h.2 hn
    exact ⟨b, off, e, Nat.lt_of_lt_of_le hlt hb.size, fun j c hj => (hb.cell (p := ⟨b, off + j, none⟩) hlt).trans (hc j c hj)⟩⟩
theorem RG.at_ (h : RG f w A n l) {k : Nat} (hk : k < n) : ∃ b off, A = some ⟨b, off, none⟩ ∧ b < w.heap.size ∧ ∃ x, l[k]? = some x ∧ w.cell? ⟨b, off + k, none⟩ = some (f x) := by
  obtain ⟨b, off, e, hb, hc⟩ := h.2 (by omega)
  have hl : k < l.length := by have := h.1; omega
  exact ⟨b, off, e, hb, l[k], List.getElem?_eq_getElem hl, hc k _ (List.getElem?_eq_getElem hl)⟩
theorem RG.nil (f : α → Value) (w : World) (A : Option Addr) : RG f w A 0 [] := ⟨rfl, fun h => absurd h (by omega)⟩
theorem RG.chg {S : Nat → Prop} (h : RG f w A n l) (hc : Chg S w w') (hA : 0 < n → ∀ ad, A = some ad → ¬ S ad.block) : RG f w' A n l :=
  ⟨h.1, fun hn => by
    obtain ⟨b, off, e, hlt, hh⟩ := h.2 hn
    exact ⟨b, off, e, Nat.lt_of_lt_of_le hlt hc.size, fun j c hj => (hc.cell (p := ⟨b, off + j, none⟩) hlt (hA hn ⟨b, off, none⟩ e)).trans (hh j c hj)⟩⟩
theorem RG.blk {g : Nat} {t : TypeId} {cs : Array Value} (h : Blk w g t cs) (hl : cs.toList = l.map f) : RG f w (some ⟨g, 0, none⟩) l.length l :=
  ⟨rfl, fun _ => ⟨g, 0, rfl, h.lt, fun j x hj => by
    rw [h.cell, Nat.zero_add, ← Array.getElem?_toList, hl, List.getElem?_map, hj]; rfl⟩⟩
/-- the slice (A, n) reads as the rows ls -/
def RGR (w : World) (A : Option Addr) (n : Nat) (ls : List (List Int)) : Prop :=
  ls.length = n ∧ (0 < n → ∃ b off, A = some ⟨b, off, none⟩ ∧ b < w.heap.size ∧
    ∀ (j : Nat) (l : List Int), ls[j]? = some l → ∃ A' c', l.length ≤ c' ∧ w.cell? ⟨b, off + j, none⟩ = some (.slice A' l.length c') ∧ RG iV w A' l.length l)
variable {ls : List (List Int)}
theorem RGR.at_ (h : RGR w A n ls) {k : Nat} (hk : k < n) :
    ∃ b off, A = some ⟨b, off, none⟩ ∧ b < w.heap.size ∧ ∃ l A' c', ls[k]? = some l ∧ l.length ≤ c' ∧ w.cell? ⟨b, off + k, none⟩ = some (.slice A' l.length c') ∧ RG iV w A' l.length l := by
  obtain ⟨b, off, e, hb, hc⟩ := h.2 (by omega)
  have hl : k < ls.length := by have := h.1; omega
  obtain ⟨A', c', h0, h1, h2⟩ := hc k _ (List.getElem?_eq_getElem hl)
  exact ⟨b, off, e, hb, ls[k], A', c', List.getElem?_eq_getElem hl, h0, h1, h2⟩
theorem RGR.keep (h : RGR w A n ls) (hb : Below w.heap.size w w') : RGR w' A n ls :=
  ⟨h.1, fun hn => by
    obtain ⟨b, off, e, hlt, hc⟩ := h.2 hn
    refine ⟨b, off, e, Nat.lt_of_lt_of_le hlt hb.size, fun j p hj => ?_⟩
    obtain ⟨A', c', h0, h1, h2⟩ := hc j p hj
    exact ⟨A', c', h0, (hb.cell (p := ⟨b, off + j, none⟩) hlt).trans h1, h2.keep hb⟩⟩
theorem RGR.nil (w : World) (A : Option Addr) : RGR w A 0 [] := ⟨rfl, fun h => absurd h (by omega)⟩
end
/-- a table, without its memory -/
structure Tb where
  cls : List Int
  nx : List (List Int)
  fo : List Nat
  en : List Nat
/-- the cells of a table -/
def dcells (cl : List Int) (vn vf ve : Value) : Array Value := (cl.map iV ++ [vn, vf, ve]).toArray
section
variable {cl : List Int} {vn vf ve : Value}
theorem dcells_size (h : cl.length = 256) : (dcells cl vn vf ve).size = 259 := by unfold dcells; simp [h]
theorem dcells_cls (j : Nat) (x : Int) (hj : cl[j]? = some x) : (dcells cl vn vf ve)[j]? = some (iV x) := by
  have hl := (List.getElem?_eq_some_iff.1 hj).1
  unfold dcells
  rw [List.getElem?_toArray, List.getElem?_append_left (by simpa using hl), List.getElem?_map, hj]; rfl
theorem dcells_nx (h : cl.length = 256) : (dcells cl vn vf ve)[256]? = some vn := by
  unfold dcells
  rw [List.getElem?_toArray, List.getElem?_append_right (by simp [h])]; simp [h]
theorem dcells_fo (h : cl.length = 256) : (dcells cl vn vf ve)[257]? = some vf := by
  unfold dcells
  rw [List.getElem?_toArray, List.getElem?_append_right (by simp [h])]; simp [h]
theorem dcells_en (h : cl.length = 256) : (dcells cl vn vf ve)[258]? = some ve := by
  unfold dcells
  rw [List.getElem?_toArray, List.getElem?_append_right (by simp [h])]; simp [h]
theorem dcells_set (h : cl.length = 256) (vn' vf' ve' : Value) : (((dcells cl vn vf ve).setIfInBounds 256 vn').setIfInBounds 257 vf').setIfInBounds 258 ve' = dcells cl vn' vf' ve' := by
  unfold dcells
  apply Array.ext_getElem?
  intro j
  simp only [List.setIfInBounds_toArray, List.getElem?_toArray, List.getElem?_set, List.length_append, List.length_map, h, List.length_cons, List.length_nil, List.length_set]
  by_cases hj : j < 256
  · rw [if_neg (by omega), if_neg (by omega), if_neg (by omega), List.getElem?_append_left (by simp [h]; omega), List.getElem?_append_left (by simp [h]; omega)]
  · rw [List.getElem?_append_right (by simp [h]; omega), List.getElem?_append_right (by simp [h]; omega), List.length_map, h]
    by_cases e0 : j = 256
    · subst e0; rfl
    by_cases e1 : j = 257
    · subst e1; rfl
    by_cases e2 : j = 258
    · subst e2; rfl
    rw [if_neg (by omega), if_neg (by omega), if_neg (by omega), List.getElem?_eq_none (by simp; omega), List.getElem?_eq_none (by simp; omega)]
theorem dcells_cl {k : Nat} (hk : k < 256) (h : cl.length = 256) (x : Int) : (dcells cl vn vf ve).setIfInBounds k (iV x) = dcells (cl.set k x) vn vf ve := by
  unfold dcells
  rw [List.setIfInBounds_toArray, List.set_append_left _ _ (by simp [h]; omega), List.map_set]
theorem dcells_one (h1 : vn.oneCell' = true) (h2 : vf.oneCell' = true) (h3 : ve.oneCell' = true) : (dcells cl vn vf ve).all (·.oneCell') = true := by
  unfold dcells
  refine all_oneCell_toArray fun v hv => ?_
  rcases List.mem_append.1 hv with hv | hv
  · obtain ⟨x, _, rfl⟩ := List.mem_map.1 hv; rfl
  · simp only [List.mem_cons, List.not_mem_nil, or_false] at hv
    rcases hv with rfl | rfl | rfl <;> assumption
end
/-- the cells read as the table -/
structure TB (w : World) (cs : Array Value) (t : Tb) : Prop where
  ex : ∃ An cn Af cf Ae ce, cs = dcells t.cls (.slice An t.nx.length cn) (.slice Af t.fo.length cf) (.slice Ae t.en.length ce) ∧ t.nx.length ≤ cn ∧ t.fo.length ≤ cf ∧ t.en.length ≤ ce ∧ RGR w An t.nx.length t.nx ∧ RG uV w Af t.fo.length t.fo ∧ RG uV w Ae t.en.length t.en
  hc : t.cls.length = 256
  hu : (∀ x ∈ t.fo, x < 4294967296) ∧ ∀ x ∈ t.en, x < 4294967296
  hs : t.nx.length ≤ 9223372036854775807 ∧ t.fo.length ≤ 9223372036854775807 ∧ t.en.length ≤ 9223372036854775807 ∧ ∀ l ∈ t.nx, l.length ≤ 9223372036854775807
theorem TB.keep {w w' : World} {cs : Array Value} {t : Tb} (h : TB w cs t) (hb : Below w.heap.size w w') : TB w' cs t := by
  obtain ⟨⟨An, cn, Af, cf, Ae, ce, e, h1, h2, h3, h4, h5, h6⟩, hc, hu, hs⟩ := h
  exact ⟨⟨An, cn, Af, cf, Ae, ce, e, h1, h2, h3, h4.keep hb, h5.keep hb, h6.keep hb⟩, hc, hu, hs⟩
/-- a table in a block of its own -/
structure DX (w : World) (b : Nat) (cs : Array Value) (t : Tb) : Prop where
  blk : Blk w b 26 cs
  tb : TB w cs t
theorem DX.keep {w w' : World} {b : Nat} {cs : Array Value} {t : Tb} (h : DX w b cs t) (hb : Below w.heap.size w w') : DX w' b cs t := ⟨h.blk.keep hb, h.tb.keep hb⟩
theorem DX.new {w : World} {cs : Array Value} {t : Tb} (h : TB w cs t) : DX (w.alloc (.cells cs 26)) w.heap.size cs t := ⟨Blk.new _ _ _ rfl, h.keep ((Below.refl _ _).alloc (Nat.le_refl _) _)⟩
theorem DX.open_ {w : World} {b : Nat} {cs : Array Value} {t : Tb} (h : DX w b cs t) : ∃ An cn Af cf Ae ce, w.cell? ⟨b, 256, none⟩ = some (.slice An t.nx.length cn) ∧ w.cell? ⟨b, 257, none⟩ = some (.slice Af t.fo.length cf) ∧ w.cell? ⟨b, 258, none⟩ = some (.slice Ae t.en.length ce) ∧ t.nx.length ≤ cn ∧ t.fo.length ≤ cf ∧ t.en.length ≤ ce ∧ RGR w An t.nx.length t.nx ∧ RG uV w Af t.fo.length t.fo ∧ RG uV w Ae t.en.length t.en := by
  obtain ⟨An, cn, Af, cf, Ae, ce, e, h1, h2, h3, h4, h5, h6⟩ := h.tb.ex
  have hc := h.tb.hc
  subst e
  exact ⟨An, cn, Af, cf, Ae, ce, (h.blk.cell _).trans (dcells_nx hc), (h.blk.cell _).trans (dcells_fo hc), (h.blk.cell _).trans (dcells_en hc), h1, h2, h3, h4, h5, h6⟩
theorem DX.cls {w : World} {b : Nat} {cs : Array Value} {t : Tb} (h : DX w b cs t) {j : Nat} {x : Int} (hj : t.cls[j]? = some x) : w.cell? ⟨b, j, none⟩ = some (.int .i64 x) := by
  obtain ⟨An, cn, Af, cf, Ae, ce, e, h1, h2, h3, h4, h5, h6⟩ := h.tb.ex
  rw [h.blk.cell, e]
  exact dcells_cls j x hj
/-- an array by value, indexed -/
theorem run_index_array {P : Program} (t e : TypeId) (n : Nat) (cs : Array Value) (k : IntKind) (i : Nat) (v : Value) (h : P.underlying t = some (.array n e)) (he : P.underlying e = some (.int .i64)) (hz : (P.info? e).map (·.size) = some 1) (hi : i < n) (hv : cs[i]? = some v) (w : World) :
    (Instr.index t (.agg cs) (.int k (i : Int))).run P w = .ok v w := by
  have hn : 0 ≤ (i : Int) ∧ (i : Int) < (n : Int) := by omega
  cases hq : P.info? e with
  | none => simp [hq] at hz
  | some d =>
    have hd : d.size = 1 := by simpa [hq] using hz
    simp [Instr.index, run_underlying h, asIntOf, hn, sizeOf, typeInfo, hq, hd, isAgg, run_underlying he, hv, hi, go_sem]
end Go.Proofs.YtnglgppdkohhpaaDoor
