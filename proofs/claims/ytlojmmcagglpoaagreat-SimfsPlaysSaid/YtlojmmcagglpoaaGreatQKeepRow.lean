/- A row of ints of the call's own as the last part of a great state; a crash of the j-th pair of disks. -/
import Derived.Test.YtlojmmcagglpoaaGreatQPlays
import Derived.Test.YtlojmmcagglpoaaGreatQRow
import Derived.Laws.MakeOwn
import Derived.Laws.OwnMore
namespace Go.Proofs.YtlojmmcagglpoaaGreat
open Go.RowKit Go.Maps
theorem infoI : (Tryz.prog.info? 3).map (fun i => (i.zero, i.size, i.bytes)) = some (some (.int .i64 0), 1, 8) := by kernel_rfl
def KPt (N g cp cK : Nat) (l : List Int) : PartT := fun W C => W.ownsRow N 3 1 (.slice (some ⟨g, 0, none⟩) l.length cp) l.length (l.map iV') ∧ ∀ k, (Value.slice (some ⟨g, 0, none⟩) l.length cp).ownBlock = some k → C k = cK
theorem Stb.kpt (N g cp cK : Nat) (l : List Int) : Stb cK (KPt N g cp cK l) := Stb.own cK N 1 _ _ _ _
section
variable {w0 W W' : World} {C : Nat → Nat} {L : List PartT} {N g cp cK : Nat} {l : List Int}
theorem KPt.at_ (h : KPt N g cp cK l W C) {j : Nat} {x : Int} (hj : l[j]? = some x) : W.cell? ⟨g, j, none⟩ = some (.int .i64 x) := by
  have hlt := (List.getElem?_eq_some_iff.1 hj).1
  rw [World.ownsRow.cellAt h.1 j (by rw [Nat.mul_one]; exact hlt), List.getElem?_map, hj]; rfl
theorem KPt.lt (h : KPt N g cp cK l W C) : g < W.heap.size := (h.1.lt g rfl).2
theorem KPt.frozen (h : KPt N g cp cK l W C) (j : Nat) : W.frozen? ⟨g, j, none⟩ = false := World.ownsRow.frozenAt h.1 j
theorem KPt.ri (h : KPt N g cp cK l W C) {m : Nat} {ks : List Int} (hm : ks.length = m) (hk : ∀ (j : Nat) (x : Int), ks[j]? = some x → l[j]? = some x) : RI W (some ⟨g, 0, none⟩) m ks :=
  ⟨hm, fun _ => ⟨g, 0, rfl, h.lt, fun j x hj => by rw [Nat.zero_add]; exact h.at_ (hk j x hj)⟩⟩
theorem GS.putK (h : GS w0 W C (L ++ [KPt N g cp cK l])) (hc : cK = L.length + 1) (j : Nat) (y : Int) : ∃ C', GS w0 (W.setCell ⟨g, j, none⟩ (.int .i64 y)) C' (L ++ [KPt N g cp cK (l.set j y)]) := by
  have hk := h.last
  have hg : C g = L.length + 1 := by rw [← hc]; exact hk.2 g rfl
  refine ⟨_, h.turn (k := L.length) (T' := KPt N g cp cK (l.set j y)) (by simp) (Chg.setCell (Chg.refl _ _) (.inl hg) _) ⟨?_, fun k e => ?_⟩ (by rw [← hc]; exact Stb.kpt _ _ _ _ _) (by simp)⟩
  · have := (World.ownsRow.stored hk.1 j (.int .i64 y)).1
    rw [List.length_set, List.map_set]; exact this
  · obtain rfl := Option.some.inj e
    rw [paint_old _ _ hk.lt, hg, hc]
theorem GS.addK (h : GS w0 W C L) (hb : Below W.heap.size W W') {v : Value} (hv : v = .slice (some ⟨g, 0, none⟩) l.length cp) (ho : W'.ownsRow N 3 1 v l.length (l.map iV')) (hN : W.heap.size ≤ N) : GS w0 W' (paint C W.heap.size (L.length + 1)) (L ++ [KPt N g cp (L.length + 1) l]) := by
  subst hv
  exact h.add hb ⟨ho, fun k e => paint_new C _ (Nat.le_trans hN (ho.lt k e).1)⟩ (Stb.kpt _ _ _ _ _)
/-- what append takes of a list that came in -/
theorem ri_news {w : World} {A : Option Addr} {m : Nat} {ks : List Int} (h : RI w A m ks) : (ks.map iV').length = m * 1 ∧ (A = none → m = 0) ∧ ∀ ad, A = some ad → ∀ (j : Nat) (u : Value), (ks.map iV')[j]? = some u → w.cell? (ad.add j) = some u :=
  ⟨by rw [List.length_map, h.1, Nat.mul_one], fun e => (by
    rcases Nat.eq_zero_or_pos m with h0 | h0
    · exact h0
    · obtain ⟨b, off, e', _⟩ := h.2 h0
      rw [e] at e'
      cases e'), fun ad e j u hj => by
    rw [List.getElem?_map] at hj
    obtain ⟨k, hk, rfl⟩ := Option.map_eq_some_iff.1 hj
    have hjl := (List.getElem?_eq_some_iff.1 hk).1
    obtain ⟨b, off, e', _, hc⟩ := h.2 (by rw [h.1] at hjl; omega)
    rw [e] at e'
    obtain rfl := Option.some.inj e'
    have : (⟨b, off, none⟩ : Addr).add j = ⟨b, off + j, none⟩ := by
      unfold Addr.add
      by_cases h : j = 0
      · subst h; simp
      · simp [h]
    rw [this]
    exact hc j k hk⟩
variable {P : Nat} {h : Hd} {bs : List (List UInt8)} {ns : List (List (List UInt8))} {ds : List DE} {M : List PartT} {j : Nat} {x : DE}
theorem LP.len : (LP w0 P h bs ns ds).length = 5 + 2 * ds.length := by
  unfold LP; simp only [List.length_cons, DLp.len]; omega
theorem crashJ (al : Alike x.d x.r x.n) (hn : x.n + 2 < 1000000) (keep : List Int) {m cp : Nat} {A : Option Addr} (hg : GS w0 W C (LP w0 P h bs ns ds ++ M)) (hx : ds[j]? = some x) (hr : RI W A m keep) (hm : m ≤ maxLen) (hra : 0 < m → ∀ ad, A = some ad → 5 + 2 * ds.length < C ad.block) :
    Calls Tryz.prog 49 #[.pointer (some ⟨x.p, 0, none⟩), .slice A m cp] W fun e w' => ∃ d' C', Alike d' (x.r.crash keep) (x.n + 2) ∧ GsQ w0 (.tuple #[]) C' (LP w0 P h bs ns (ds.set j { x with n := x.n + 2, d := d' }) ++ M) e w' := by
  have hj := (List.getElem?_eq_some_iff.1 hx).1
  have hk := LP.atD (w0 := w0) (P := P) (h := h) (bs := bs) (ns := ns) hx
  have hlt := (List.getElem?_eq_some_iff.1 hk).1
  refine (pair_crash al (by omega) keep (k := 5 + 2 * j) hg (by rw [List.getElem?_append_left hlt]; exact hk) hr hm (fun h0 ad e => by have := hra h0 ad e; omega)).mono ?_
  rintro e w' ⟨d', ha, he, h1⟩
  rw [set_append _ _ _ _ hlt, LP.setD hx] at h1
  refine ⟨d', paint C W.heap.size (5 + 2 * j + 1), ha.more (by omega) (by omega), he, ?_⟩
  have hx2 : (ds.set j { x with n := x.n + 1, d := d' })[j]? = some { x with n := x.n + 1, d := d' } := List.getElem?_set_self hj
  have hk2 := LP.atD (w0 := w0) (P := P) (h := h) (bs := bs) (ns := ns) hx2
  have hlt2 := (List.getElem?_eq_some_iff.1 hk2).1
  refine h1.as (k := 5 + 2 * j) (T := DCp w0 (5 + 2 * j + 1) x.p (x.n + 1) d') (T' := DCp w0 (5 + 2 * j + 1) x.p (x.n + 2) d') (by rw [List.getElem?_append_left hlt2]; exact hk2) ((show DC w' w0.heap.size (paint C W.heap.size (5 + 2 * j + 1)) (5 + 2 * j + 1) x.p (x.n + 1) d' from LP.dk h1 hx2).more (by omega) hn) (Stb.dcp _ _ _ _ _) ?_
  have := LP.setD (w0 := w0) (P := P) (h := h) (bs := bs) (ns := ns) hx2 (x.n + 2) d'
  rw [set_append _ _ _ _ hlt2]
  rw [List.set_set] at this
  rw [this]
theorem rcrashJ {n : Nat} (hok : x.r.Ok n) (keep : List Int) {m cp : Nat} {A : Option Addr} (hg : GS w0 W C (LP w0 P h bs ns ds ++ M)) (hx : ds[j]? = some x) (hr : RI W A m keep) (hm : m ≤ maxLen) (hra : 0 < m → ∀ ad, A = some ad → C ad.block = 0) :
    Calls Tryz.prog 69 #[.pointer (some ⟨x.q, 0, none⟩), .slice A m cp] W fun e w' => ∃ C', GsQ w0 (.tuple #[]) C' (LP w0 P h bs ns (ds.set j { x with r := x.r.crash keep }) ++ M) e w' := by
  have hk := LP.atR (w0 := w0) (P := P) (h := h) (bs := bs) (ns := ns) hx
  have hlt := (List.getElem?_eq_some_iff.1 hk).1
  refine (rcrash_g hok keep (k := 6 + 2 * j) hg (by rw [List.getElem?_append_left hlt]; exact hk) hr hm (fun h0 ad e => by rw [hra h0 ad e]; omega)).mono ?_
  rintro e w' ⟨he, h1⟩
  rw [set_append _ _ _ _ hlt, LP.setR hx] at h1
  exact ⟨_, he, h1⟩
end
end Go.Proofs.YtlojmmcagglpoaaGreat
