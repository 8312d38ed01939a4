/- What a step of the play leaves. -/
import Derived.Test.YtlojmmcagglpoaaGreatQPlays
namespace Go.Proofs.YtlojmmcagglpoaaGreat
open Go.RowKit
theorem mod_any (k : Int) (n : Nat) (hn : 0 < n) (hn2 : n ≤ 1000000) (w : World) : Calls Tryz.prog 55 #[.int .i64 k, .int .i64 (n : Int)] w fun e w' => ∃ j : Nat, j < n ∧ e = .returned (.int .i64 (j : Int)) ∧ w' = w := by
  have hz : ((n : Int) == 0) = false := by rw [beq_eq_false_iff_ne]; omega
  have h1 := Int.tmod_lt_of_pos k (b := (n : Int)) (by omega)
  have h2 : -(n : Int) < k.tmod (n : Int) := by
    have := Int.tmod_lt_of_pos (-k) (b := (n : Int)) (by omega)
    rw [Int.neg_tmod] at this; omega
  obtain ⟨r, hr⟩ : ∃ r, r = k.tmod (n : Int) := ⟨_, rfl⟩
  rw [← hr] at h1 h2
  go_enter Tryz.func55, Tryz.ntmps55
  go_upto_region 2 with fail
  rw [← hr]
  clear hr
  by_cases h : r < 0
  · have hF : ∃ j : Nat, j < n ∧ (j : Int) = r + (n : Int) := ⟨(r + (n : Int)).toNat, by omega, by omega⟩
    obtain ⟨j, hj, he⟩ := hF
    go_wp2_with fail
    go_ret
    exact ⟨j, hj, by rw [he]; rfl, rfl⟩
  · obtain ⟨j, hj⟩ : ∃ j : Nat, r = (j : Int) := ⟨r.toNat, by omega⟩
    subst hj
    go_wp2_with fail
    go_ret
    exact ⟨j, by omega, rfl, rfl⟩
end Go.Proofs.YtlojmmcagglpoaaGreat
namespace Go.Proofs.YtlojmmcagglpoaaGreat
open Go.RowKit Go.Maps
theorem read_len {r : Rd} {n : Nat} (hok : r.Ok n) (i gen off size : Int) : (r.read i gen off size).1.length ≤ 1048576 := by
  unfold Rd.read
  split
  · exact Nat.zero_le _
  split
  · exact Nat.zero_le _
  split
  · exact Nat.zero_le _
  split
  · rename_i y hy
    have h1 := hok.bl y (List.mem_of_getElem? hy)
    simp only [List.length_take, List.length_drop]; omega
  · exact Nat.zero_le _
structure InvP (i : Nat) (ds : List DE) (bs : List (List UInt8)) (ns : List (List (List UInt8))) : Prop where
  pos : 0 < ds.length
  eight : ds.length ≤ 8
  bl : bs.length ≤ 2 * i
  nl : ns.length ≤ 2 * i
  bb : ∀ l ∈ bs, l.length ≤ 1048576
  nb : ∀ l ∈ ns, l.length ≤ 1000000
  al : ∀ (j : Nat) (x : DE), ds[j]? = some x → Alike x.d x.r x.n ∧ x.n ≤ 2 * i + 2
def StpQ (w0 : World) (P i : Nat) (e : Ending) (w' : World) : Prop := e = .returned (.bool true) ∧ ∃ C' h' bs' ns' ds', InvP (i + 1) ds' bs' ns' ∧ GS w0 w' C' (LP w0 P h' bs' ns' ds')
theorem InvP.up {i : Nat} {ds : List DE} {bs : List (List UInt8)} {ns : List (List (List UInt8))} (h : InvP i ds bs ns) : InvP (i + 1) ds bs ns :=
  ⟨h.pos, h.eight, by have := h.bl; omega, by have := h.nl; omega, h.bb, h.nb, fun j x hx => ⟨(h.al j x hx).1, by have := (h.al j x hx).2; omega⟩⟩
section
variable {w0 W : World} {C : Nat → Nat} {P i : Nat} {h : Hd} {bs : List (List UInt8)} {ns : List (List (List UInt8))} {ds : List DE} {M : List PartT}
theorem StpQ.same (hI : InvP i ds bs ns) (hG : GS w0 W C (LP w0 P h bs ns ds)) : StpQ w0 P i (.returned (.bool true)) W := ⟨rfl, C, h, bs, ns, ds, hI.up, hG⟩
theorem StpQ.chg (hI : InvP i ds bs ns) {j : Nat} {x : DE} {d' : Dk} {r' : Rd} (hx : ds[j]? = some x) (al : Alike d' r' (x.n + 2)) (hG : GS w0 W C (LP w0 P h bs ns (ds.set j { x with n := x.n + 2, d := d', r := r' }))) : StpQ w0 P i (.returned (.bool true)) W := by
  refine ⟨rfl, C, h, bs, ns, _, ⟨by rw [List.length_set]; exact hI.pos, by rw [List.length_set]; exact hI.eight, by have := hI.bl; omega, by have := hI.nl; omega, hI.bb, hI.nb, fun k y hy => ?_⟩, hG⟩
  rcases get_set hy with ⟨rfl, rfl⟩ | ⟨_, hy⟩
  · exact ⟨al, by have := (hI.al k x hx).2; show x.n + 2 ≤ _; omega⟩
  · exact ⟨(hI.al k y hy).1, by have := (hI.al k y hy).2; omega⟩
/-- where the rows of pointers lie -/
theorem LP.rows (hG : GS w0 W C (LP w0 P h bs ns ds ++ M)) (hp : 0 < ds.length) : ∃ gd cd gr cr, h.d = .slice (some ⟨gd, 0, none⟩) ds.length cd ∧ h.r = .slice (some ⟨gr, 0, none⟩) ds.length cr ∧ ds.length ≤ cd ∧ ds.length ≤ cr := by
  have hq := LP.pp hG
  obtain ⟨A, cd, e, h1, _, h3⟩ := own_form hq.2.1.1
  obtain ⟨A', cr, e', h1', _, h3'⟩ := own_form hq.2.2.1
  rw [List.length_map] at e h1 h3 e' h1' h3'
  rcases h3 with ⟨_, h0⟩ | ⟨gd, rfl, _⟩
  · omega
  rcases h3' with ⟨_, h0⟩ | ⟨gr, rfl, _⟩
  · omega
  exact ⟨gd, cd, gr, cr, e, e', h1, h1'⟩
theorem LP.cells (hG : GS w0 W C (LP w0 P h bs ns ds ++ M)) {gd cd gr cr : Nat} (hd : h.d = .slice (some ⟨gd, 0, none⟩) ds.length cd) (hr : h.r = .slice (some ⟨gr, 0, none⟩) ds.length cr) {j : Nat} {x : DE} (hx : ds[j]? = some x) : W.cell? ⟨gd, j, none⟩ = some (.pointer (some ⟨x.p, 0, none⟩)) ∧ W.cell? ⟨gr, j, none⟩ = some (.pointer (some ⟨x.q, 0, none⟩)) := by
  have hq := LP.pp hG
  have h1 := hq.2.1.1
  have h2 := hq.2.2.1
  have hj := (List.getElem?_eq_some_iff.1 hx).1
  rw [hd] at h1
  rw [hr] at h2
  simp only [List.length_map] at h1 h2
  refine ⟨?_, ?_⟩
  · rw [World.ownsRow.cellAt h1 j (by omega), List.map_map, List.getElem?_map, hx]; rfl
  · rw [World.ownsRow.cellAt h2 j (by omega), List.map_map, List.getElem?_map, hx]; rfl
end
end Go.Proofs.YtlojmmcagglpoaaGreat
