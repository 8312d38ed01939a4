/- A table that came in. -/
import Derived.Test.YtnglgppdkohhpaaDoorLaw
import Derived.Test.YtnglgppdkohhpaaDoorTbRow
import Derived.Deep.Matrix
import Derived.Deep.Slices
import Derived.ChangeMaps5
import Derived.OpenShut
namespace Go.Proofs.YtnglgppdkohhpaaDoor
open Go.ChangeShapes Go.WideShapes Go.ChangeAt Go.RowKit Go.Deep
section
variable {H : Type} {enc : TypeId × Value → H} {W : World} {base : Nat} {held : Bool}
theorem chooseLt {α : Type} [Inhabited α] {n : Nat} {p : Nat → α → Prop} (h : ∀ i, i < n → ∃ x, p i x) : ∃ F : Nat → α, ∀ i, i < n → p i (F i) := by
  classical
  exact ⟨fun i => if hi : i < n then (h i hi).choose else default, fun i hi => by simp only [hi, dif_pos]; exact (h i hi).choose_spec⟩
theorem trod4s {P : Program} {w : World} {spare : Nat → Bool} {t : TypeId} {f0 f1 f2 f3 : Field} {fuel : Nat} {cs : List Value} {x : DataW H × List MemPlace} (ht : P.underlying t = some (.struct #[f0, f1, f2, f3])) (h : DataW.trod enc P w base spare held fuel t cs = some x) :
    ∃ y0 y1 y2 y3 n, cs.length = P.cellsOf t ∧ DataW.trod enc P w base spare held n f0.type ((cs.drop f0.offset).take (P.cellsOf f0.type)) = some y0 ∧ DataW.trod enc P w base spare held n f1.type ((cs.drop f1.offset).take (P.cellsOf f1.type)) = some y1 ∧ DataW.trod enc P w base spare held n f2.type ((cs.drop f2.offset).take (P.cellsOf f2.type)) = some y2 ∧ DataW.trod enc P w base spare held n f3.type ((cs.drop f3.offset).take (P.cellsOf f3.type)) = some y3 := by
  obtain ⟨xs, n, _, rfl, hl, hlen, hf⟩ := DataW.trod_struct ht h
  match xs, hlen with
  | [y0, y1, y2, y3], _ => exact ⟨y0, y1, y2, y3, n, hl, by simpa using hf 0 f0 rfl, by simpa using hf 1 f1 rfl, by simpa using hf 2 f2 rfl, by simpa using hf 3 f3 rfl⟩
theorem open_words {fuel : Nat} {cs : List Value} {x : DataW H × List MemPlace} (hf : DataW.trod enc Tryd.prog W base (fun _ => true) held fuel 24 cs = some x) :
    ∃ A c l, cs = [.slice A l.length c] ∧ l.length ≤ c ∧ RG uV W A l.length l ∧ (∀ x ∈ l, x < 4294967296) ∧ l.length ≤ 9223372036854775807 := by
  rcases open_ints Tryd.underlying24 Tryd.underlying34 (by kernel_rfl) hf with ⟨rfl, _⟩ | ⟨a, len, cap, zs, rfl, _, hl, hm, hz, _, hcell, hwz⟩
  · exact ⟨none, 0, [], rfl, Nat.le_refl _, RG.nil _ _ _, fun x hx => absurd hx List.not_mem_nil, by simp⟩
  · simp only [if_true] at hz
    have hll : ((zs.take len).map Int.toNat).length = len := by simp; omega
    refine ⟨some a, cap, (zs.take len).map Int.toNat, by rw [hll], by omega, ?_, fun x hx => ?_, by rw [hll]; simp only [maxLen] at hm; omega⟩
    · rw [hll]
      refine ⟨hll, fun hn => ?_⟩
      obtain ⟨b, off, rfl, hc'⟩ := ints_at hcell (by omega)
      have hlt : b < W.heap.size := World.block_lt_of_cell? W _ (hc' 0 (by omega))
      refine ⟨b, off, rfl, hlt, fun j y hj => ?_⟩
      have hjl : j < len := by
        have := (List.getElem?_eq_some_iff.1 hj).1
        rw [hll] at this; exact this
      rw [hc' j (by omega)]
      rw [List.getElem?_map, List.getElem?_take_of_lt hjl, List.getElem?_eq_getElem (by omega)] at hj
      simp only [Option.map_some, Option.some.injEq] at hj
      have hg : zs.getD j 0 = zs[j]'(by omega) := by rw [List.getD_eq_getElem?_getD, List.getElem?_eq_getElem (by omega)]; rfl
      have hb := bounds_u32 (hwz (zs[j]'(by omega)) (List.getElem_mem _))
      rw [hg, uV, ← hj, Int.toNat_of_nonneg hb.1]
    · obtain ⟨z, hz1, rfl⟩ := List.mem_map.1 hx
      have hb := bounds_u32 (hwz z (List.mem_of_mem_take hz1))
      omega
theorem open_rows {fuel : Nat} {cs : List Value} {x : DataW H × List MemPlace} (hf : DataW.trod enc Tryd.prog W base (fun _ => true) held fuel 23 cs = some x) :
    ∃ A c ls, cs = [.slice A ls.length c] ∧ ls.length ≤ c ∧ RGR W A ls.length ls ∧ ls.length ≤ 9223372036854775807 ∧ ∀ l ∈ ls, l.length ≤ 9223372036854775807 := by
  rcases open_int_rows Tryd.underlying23 Tryd.underlying35 Tryd.underlying3 (by kernel_rfl) (by kernel_rfl) hf with ⟨rfl, _⟩ | ⟨a', len, cap, A, L, C, Z, rfl, _, hl, hm, _, hrow⟩
  · exact ⟨none, 0, [], rfl, Nat.le_refl _, RGR.nil _ _, by simp, fun l hl => absurd hl List.not_mem_nil⟩
  · simp only [maxLen] at hm
    have hll : ((List.range len).map fun j => (Z j).take (L j)).length = len := by simp
    have hlenp : ∀ j, j < len → ((Z j).take (L j)).length = L j := fun j hj => by
      obtain ⟨_, h1, _, h2, _⟩ := hrow j (by omega)
      simp; omega
    refine ⟨some a', cap, (List.range len).map fun j => (Z j).take (L j), by rw [hll], by omega, ?_, by rw [hll]; omega, fun l hl2 => ?_⟩
    · rw [hll]
      refine ⟨hll, fun hn => ?_⟩
      obtain ⟨b, off, spot⟩ := a'
      have h0 := (hrow 0 (by omega)).1
      have hspot : spot = none := by simpa [Addr.add] using World.cell?_spot h0
      subst hspot
      have hadd : ∀ j, (⟨b, off, none⟩ : Addr).add j = ⟨b, off + j, none⟩ := fun j => by
        unfold Addr.add
        by_cases h : j = 0
        · subst h; simp
        · simp [h]
      have hlt : b < W.heap.size := by
        have := World.block_lt_of_cell? W _ h0
        rwa [hadd] at this
      refine ⟨b, off, rfl, hlt, fun j p hj => ?_⟩
      have hjl : j < len := by
        have := (List.getElem?_eq_some_iff.1 hj).1
        rw [hll] at this; exact this
      rw [List.getElem?_map, List.getElem?_range hjl] at hj
      simp only [Option.map_some, Option.some.injEq] at hj
      subst hj
      obtain ⟨h1, h2, h3, h4, h5, h6, h7⟩ := hrow j (by omega)
      rw [hlenp j hjl]
      refine ⟨A j, C j, h2, by rw [← hadd]; exact h1, hlenp j hjl, fun hp => ?_⟩
      cases hA : A j with
      | none => have := h6 hA; omega
      | some a =>
        have hcell := (h7 a hA).2
        obtain ⟨b2, off2, rfl, hc'⟩ := ints_at (zs := Z j) (fun i hi => hcell i (by omega)) (by omega)
        have hlt2 : b2 < W.heap.size := World.block_lt_of_cell? W _ (hc' 0 (by omega))
        refine ⟨b2, off2, rfl, hlt2, fun q y hq => ?_⟩
        have hql : q < L j := by
          have := (List.getElem?_eq_some_iff.1 hq).1
          rw [hlenp j hjl] at this; exact this
        rw [hc' q (by omega)]
        rw [List.getElem?_take_of_lt hql, List.getElem?_eq_getElem (by omega)] at hq
        simp only [Option.some.injEq] at hq
        have hg : (Z j).getD q 0 = (Z j)[q]'(by omega) := by rw [List.getD_eq_getElem?_getD, List.getElem?_eq_getElem (by omega)]; rfl
        rw [hg, hq]; rfl
    · obtain ⟨j, hj, rfl⟩ := List.mem_map.1 hl2
      have hjl := List.mem_range.1 hj
      obtain ⟨h1, h2, h3, h4, _⟩ := hrow j (by omega)
      simp only [maxLen] at h3
      simp; omega
theorem open_cls {fuel : Nat} {cs : List Value} {x : DataW H × List MemPlace} (hf : DataW.trod enc Tryd.prog W base (fun _ => true) held fuel 22 cs = some x) : ∃ cl : List Int, cs = cl.map iV ∧ cl.length = 256 := by
  obtain ⟨xs, m, _, rfl, hl, hlen, hi⟩ := DataW.trod_array Tryd.underlying22 hf
  have c256 : Tryd.prog.cellsOf 22 = 256 := by kernel_rfl
  have c1 : Tryd.prog.cellsOf 3 = 1 := by kernel_rfl
  rw [c256] at hl
  have each : ∀ i, i < 256 → ∃ z : Int, cs[i]? = some (iV z) := fun i hlt => by
    have h1 := hi i hlt
    rw [c1, Nat.mul_one, List.getElem?_eq_getElem (by omega)] at h1
    obtain ⟨z, e0, _, _⟩ := DataW.trod_int Tryd.underlying3 h1
    refine ⟨z, ?_⟩
    have h2 : ((cs.drop i).take 1)[0]? = some (iV z) := by rw [e0]; rfl
    rw [List.getElem?_take_of_lt (by omega), List.getElem?_drop, Nat.add_zero] at h2
    exact h2
  obtain ⟨F, hF⟩ := chooseLt each
  refine ⟨(List.range 256).map F, ?_, by simp⟩
  apply List.ext_getElem?
  intro j
  by_cases hj : j < 256
  · rw [hF j hj, List.getElem?_map, List.getElem?_map, List.getElem?_range hj]; rfl
  · rw [List.getElem?_eq_none (by omega), List.getElem?_eq_none (by simp; omega)]
theorem open_table {r : Reach} {b0 : Nat} {v : Value} {d : DataW H} {ps : List MemPlace} (hval : Value.okWide Tryd.prog W r b0 26 v) (h : DataW.Trod enc Tryd.prog W base (fun _ => true) held 26 v d ps) :
    ∃ cs t, v = .agg cs ∧ TB W cs t := by
  obtain ⟨cs, rfl, hsz⟩ := okWide_struct Tryd.underlying26 hval
  obtain ⟨fuel, hf⟩ := h
  obtain ⟨y0, y1, y2, y3, n, hl, h0, h1, h2, h3⟩ := trod4s Tryd.underlying26 hf
  have c256 : Tryd.prog.cellsOf 22 = 256 := by kernel_rfl
  have cn : Tryd.prog.cellsOf 23 = 1 := by kernel_rfl
  have cu : Tryd.prog.cellsOf 24 = 1 := by kernel_rfl
  have cd : Tryd.prog.cellsOf 26 = 259 := by kernel_rfl
  rw [cd] at hsz
  simp only [Value.cells, c256, cn, cu] at h0 h1 h2 h3
  obtain ⟨cl, e0, hcl⟩ := open_cls h0
  obtain ⟨An, c1, ls, e1, l1, r1, s1, s4⟩ := open_rows h1
  obtain ⟨Af, c2, fo, e2, l2, r2, u2, s2⟩ := open_words h2
  obtain ⟨Ae, c3, en, e3, l3, r3, u3, s3⟩ := open_words h3
  refine ⟨cs, ⟨cl, ls, fo, en⟩, rfl, ⟨An, c1, Af, c2, Ae, c3, ?_, l1, l2, l3, r1, r2, r3⟩, hcl, ⟨u2, u3⟩, s1, s2, s3, s4⟩
  apply Array.ext_getElem?
  intro j
  have at1 : ∀ (o : Nat) (v : Value), (cs.toList.drop o).take 1 = [v] → cs[o]? = some v := fun o v e => by
    have h2 : ((cs.toList.drop o).take 1)[0]? = some v := by rw [e]; rfl
    rw [List.getElem?_take_of_lt (by omega), List.getElem?_drop, Nat.add_zero] at h2
    simpa using h2
  by_cases hj : j < 256
  · have h2 : ((cs.toList.drop 0).take 256)[j]? = cs[j]? := by rw [List.getElem?_take_of_lt hj]; simp
    rw [← h2, e0]
    obtain ⟨z, hz⟩ : ∃ z, cl[j]? = some z := ⟨_, List.getElem?_eq_getElem (by omega)⟩
    rw [dcells_cls j z hz, List.getElem?_map, hz]; rfl
  by_cases hj0 : j = 256
  · subst hj0; rw [at1 256 _ e1, dcells_nx hcl]
  by_cases hj1 : j = 257
  · subst hj1; rw [at1 257 _ e2, dcells_fo hcl]
  by_cases hj2 : j = 258
  · subst hj2; rw [at1 258 _ e3, dcells_en hcl]
  · rw [Array.getElem?_eq_none (by omega), Array.getElem?_eq_none (by rw [dcells_size hcl]; omega)]
end
end Go.Proofs.YtnglgppdkohhpaaDoor
