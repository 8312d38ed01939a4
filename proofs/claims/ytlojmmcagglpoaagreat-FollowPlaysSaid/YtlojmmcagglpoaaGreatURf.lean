/- The document's disk (heronref14): what it holds, and how it lies in memory, in a colour of its own. -/
import Derived.Test.YtlojmmcagglpoaaGreatUDiskC
import Derived.Test.YtlojmmcagglpoaaGreatURow
namespace Go.Proofs.YtlojmmcagglpoaaGreat
open Go.RowKit
section
variable {α : Type} {f : α → List Value} {s : Nat}
theorem flat_len (hf : ∀ x, (f x).length = s) : ∀ l : List α, (l.flatMap f).length = l.length * s
  | [] => by simp
  | x :: l => by rw [List.flatMap_cons, List.length_append, flat_len hf l, hf, List.length_cons, Nat.add_mul]; omega
theorem flat_at (hf : ∀ x, (f x).length = s) : ∀ (l : List α) (k : Nat) (x : α) (j : Nat), l[k]? = some x → j < s → (l.flatMap f)[k * s + j]? = (f x)[j]?
  | [], _, _, _, h, _ => by simp at h
  | y :: l, 0, x, j, h, hj => by
    obtain rfl := Option.some.inj h
    rw [List.flatMap_cons, Nat.zero_mul, Nat.zero_add, List.getElem?_append_left (by rw [hf]; exact hj)]
  | y :: l, k + 1, x, j, h, hj => by
    rw [List.flatMap_cons, List.getElem?_append_right (by rw [hf, Nat.add_mul]; omega), hf, show (k + 1) * s + j - s = k * s + j from by rw [Nat.add_mul]; omega]
    exact flat_at hf l k x j (by simpa using h) hj
theorem flat_set (hf : ∀ x, (f x).length = s) : ∀ (l : List α) (k : Nat) (x y : α) (j : Nat) (u : Value), l[k]? = some x → j < s → f y = (f x).set j u → (l.flatMap f).set (k * s + j) u = (l.set k y).flatMap f
  | [], _, _, _, _, _, h, _, _ => by simp at h
  | z :: l, 0, x, y, j, u, h, hj, hy => by
    obtain rfl := Option.some.inj h
    rw [List.flatMap_cons, Nat.zero_mul, Nat.zero_add, List.set_append_left _ _ (by rw [hf]; exact hj), List.set_cons_zero, List.flatMap_cons, hy]
  | z :: l, k + 1, x, y, j, u, h, hj, hy => by
    rw [List.flatMap_cons, List.set_append_right _ _ (by rw [hf, Nat.add_mul]; omega), hf, show (k + 1) * s + j - s = k * s + j from by rw [Nat.add_mul]; omega, List.set_cons_succ, List.flatMap_cons]
    rw [flat_set hf l k x y j u (by simpa using h) hj hy]
theorem flat_snocR (l : List α) (x : α) : (l ++ [x]).flatMap f = l.flatMap f ++ f x := by simp
theorem own_at {w : World} {base n c g : Nat} {e : TypeId} {l : List α} (hf : ∀ x, (f x).length = s) (h : w.ownsRow base e s (.slice (some ⟨g, 0, none⟩) n c) n (l.flatMap f)) {k : Nat} {x : α} (hk : l[k]? = some x) {j : Nat} {u : Value} (hu : (f x)[j]? = some u) : w.cell? ⟨g, k * s + j, none⟩ = some u := by
  have hj : j < s := by rw [← hf x]; exact (List.getElem?_eq_some_iff.1 hu).1
  have hn : l.length * s = n * s := by rw [← flat_len hf l]; exact h.1
  have hkl := (List.getElem?_eq_some_iff.1 hk).1
  have hlt : k * s + j < n * s := by
    rw [← hn]
    calc k * s + j < k * s + s := by omega
      _ = (k + 1) * s := by rw [Nat.add_mul]; omega
      _ ≤ l.length * s := Nat.mul_le_mul_right _ hkl
  rw [World.ownsRow.cellAt h (k * s + j) hlt, flat_at hf l k x j hk hj, hu]
theorem own_put {w : World} {base n c g : Nat} {e : TypeId} {l : List α} (hf : ∀ x, (f x).length = s) (h : w.ownsRow base e s (.slice (some ⟨g, 0, none⟩) n c) n (l.flatMap f)) {k : Nat} {x y : α} (hk : l[k]? = some x) {j : Nat} {u : Value} (hj : j < s) (hy : f y = (f x).set j u) :
    (w.setCell ⟨g, k * s + j, none⟩ u).ownsRow base e s (.slice (some ⟨g, 0, none⟩) n c) n ((l.set k y).flatMap f) := by
  rw [← flat_set hf l k x y j u hk hj hy]
  exact (World.ownsRow.stored h (k * s + j) u).1
end
theorem news_at {w : World} {b : Nat} {t : TypeId} {cs : Array Value} (h : Blk w b t cs) : ∀ ad, some (⟨b, 0, none⟩ : Addr) = some ad → ∀ (j : Nat) (u : Value), cs.toList[j]? = some u → w.cell? (ad.add j) = some u := by
  rintro ad e j u hj
  obtain rfl := Option.some.inj e
  have : (⟨b, 0, none⟩ : Addr).add j = ⟨b, j, none⟩ := by
    unfold Addr.add
    by_cases h : j = 0
    · subst h; simp
    · simp [h]
  rw [this, h.cell j, ← Array.getElem?_toList]; exact hj
end Go.Proofs.YtlojmmcagglpoaaGreat
namespace Go.Proofs.YtlojmmcagglpoaaGreat
open Go.RowKit Go.Maps
structure Ri where
  b : List UInt8
  la : Nat
  ge : Nat
  out : Bool
structure Rn where
  nm : List UInt8
  se : Nat
  ino : Nat
structure Rd where
  is : List Ri
  ns : List Rn
def riC (u : Value × Ri) : List Value := [u.1, .int .i64 (u.2.la : Int), .int .i64 (u.2.ge : Int), .bool u.2.out]
def rnC (x : Rn) : List Value := [.string (strB x.nm), .int .i64 (x.se : Int), .int .i64 (x.ino : Int)]
theorem riC_len (u : Value × Ri) : (riC u).length = 4 := rfl
theorem rnC_len (x : Rn) : (rnC x).length = 3 := rfl
theorem infoRi : (Tryz.prog.info? 186).map (fun i => (i.zero, i.size, i.bytes)) = some (some (.agg #[.slice none 0 0, .int .i64 0, .int .i64 0, .bool false]), 4, 48) := by kernel_rfl
theorem infoRn : (Tryz.prog.info? 188).map (fun i => (i.zero, i.size, i.bytes)) = some (some (.agg #[.string .empty, .int .i64 0, .int .i64 0]), 3, 32) := by kernel_rfl
structure RW (W : World) (N : Nat) (C : Nat → Nat) (c p : Nat) (us : List (Value × Ri)) (vi vn : Value) (r : Rd) : Prop where
  is : us.map Prod.snd = r.is
  bd : Blk W p 47 #[vi, vn]
  ri : W.ownsRow N 186 4 vi us.length (us.flatMap riC)
  rn : W.ownsRow N 188 3 vn r.ns.length (r.ns.flatMap rnC)
  ob : ∀ (k : Nat) (u : Value × Ri), us[k]? = some u → OB W N u.1 u.2.b
  ap : ∀ (i j : Nat) (u u' : Value × Ri) (g : Nat), us[i]? = some u → us[j]? = some u' → u.1.ownBlock = some g → u'.1.ownBlock = some g → i = j
  lo : N ≤ p
  cp : C p = c
  ci : ∀ g, vi.ownBlock = some g → C g = c
  cn : ∀ g, vn.ownBlock = some g → C g = c
  cu : ∀ (k : Nat) (u : Value × Ri) (g : Nat), us[k]? = some u → u.1.ownBlock = some g → C g = c
section
variable {W w' : World} {N : Nat} {C C' : Nat → Nat} {c p : Nat} {us : List (Value × Ri)} {vi vn : Value} {r : Rd}
theorem RW.step (h : RW W N C c p us vi vn r) {S : Nat → Prop} (hc : Chg S W w') (hs : Sam W.heap.size C C') (hS : ∀ b, S b → C b ≠ c) : RW w' N C' c p us vi vn r := by
  have hi := h.ri.lt; have hn := h.rn.lt
  refine ⟨h.is, h.bd.chg hc (fun e => hS p e h.cp), hc.own h.ri (fun k hk e => hS k e (h.ci k hk)), hc.own h.rn (fun k hk e => hS k e (h.cn k hk)), fun k u hu => hc.own (h.ob k u hu) (fun g hg e => hS g e (h.cu k u g hu hg)), h.ap, h.lo, by rw [hs p h.bd.lt]; exact h.cp, fun g hg => by rw [hs g (hi g hg).2]; exact h.ci g hg, fun g hg => by rw [hs g (hn g hg).2]; exact h.cn g hg, fun k u g hu hg => by rw [hs g ((h.ob k u hu).lt g hg).2]; exact h.cu k u g hu hg⟩
theorem RW.keep (h : RW W N C c p us vi vn r) (hb : Below W.heap.size W w') (hs : Sam W.heap.size C C') : RW w' N C' c p us vi vn r := h.step (Chg.of_below hb (fun _ => False)) hs (fun _ e => e.elim)
theorem RW.recol {h0 : Nat} (h : RW W N C' c p us vi vn r) (hs : Sam h0 C C') : RW W N (paint C h0 c) c p us vi vn r := by
  have key : ∀ b, C' b = c → paint C h0 c b = c := fun b hb => by
    by_cases e : b < h0
    · rw [paint_old C c e, ← hs b e]; exact hb
    · exact paint_new C c (by omega)
  exact ⟨h.is, h.bd, h.ri, h.rn, h.ob, h.ap, h.lo, key p h.cp, fun g hg => key g (h.ci g hg), fun g hg => key g (h.cn g hg), fun k u g hu hg => key g (h.cu k u g hu hg)⟩
theorem RW.len (h : RW W N C c p us vi vn r) : us.length = r.is.length := by rw [← h.is, List.length_map]
theorem RW.fi (h : RW W N C c p us vi vn r) : ∃ A cap, vi = .slice A us.length cap ∧ us.length ≤ cap ∧ cap ≤ maxLen ∧ (0 < us.length → ∃ g, A = some ⟨g, 0, none⟩) := by
  obtain ⟨A, cap, e, h1, h2, h3⟩ := own_form h.ri
  refine ⟨A, cap, e, h1, h2, fun h0 => ?_⟩
  rcases h3 with ⟨_, e0⟩ | ⟨g, e0, _⟩
  · omega
  · exact ⟨g, e0⟩
theorem RW.fn (h : RW W N C c p us vi vn r) : ∃ A cap, vn = .slice A r.ns.length cap ∧ r.ns.length ≤ cap ∧ cap ≤ maxLen ∧ (0 < r.ns.length → ∃ g, A = some ⟨g, 0, none⟩) := by
  obtain ⟨A, cap, e, h1, h2, h3⟩ := own_form h.rn
  refine ⟨A, cap, e, h1, h2, fun h0 => ?_⟩
  rcases h3 with ⟨_, e0⟩ | ⟨g, e0, _⟩
  · omega
  · exact ⟨g, e0⟩
theorem RW.cn_at {g n cap : Nat} (h : RW W N C c p us vi (.slice (some ⟨g, 0, none⟩) n cap) r) {k : Nat} {x : Rn} (hk : r.ns[k]? = some x) : n = r.ns.length ∧ W.cell? ⟨g, k * 3, none⟩ = some (.string (strB x.nm)) ∧ W.cell? ⟨g, k * 3 + 1, none⟩ = some (.int .i64 (x.se : Int)) ∧ W.cell? ⟨g, k * 3 + 2, none⟩ = some (.int .i64 (x.ino : Int)) := by
  have hn : n = r.ns.length := by
    obtain ⟨A, cap', e, _⟩ := h.fn
    injection e
  subst hn
  exact ⟨rfl, own_at (j := 0) rnC_len h.rn hk rfl, own_at (j := 1) rnC_len h.rn hk rfl, own_at (j := 2) rnC_len h.rn hk rfl⟩
theorem RW.ci_at {g n cap : Nat} (h : RW W N C c p us (.slice (some ⟨g, 0, none⟩) n cap) vn r) {k : Nat} {u : Value × Ri} (hk : us[k]? = some u) : n = us.length ∧ W.cell? ⟨g, k * 4, none⟩ = some u.1 ∧ W.cell? ⟨g, k * 4 + 1, none⟩ = some (.int .i64 (u.2.la : Int)) ∧ W.cell? ⟨g, k * 4 + 2, none⟩ = some (.int .i64 (u.2.ge : Int)) ∧ W.cell? ⟨g, k * 4 + 3, none⟩ = some (.bool u.2.out) := by
  have hn : n = us.length := by
    obtain ⟨A, cap', e, _⟩ := h.fi
    injection e
  subst hn
  exact ⟨rfl, own_at (j := 0) riC_len h.ri hk rfl, own_at (j := 1) riC_len h.ri hk rfl, own_at (j := 2) riC_len h.ri hk rfl, own_at (j := 3) riC_len h.ri hk rfl⟩
theorem RW.put_n {g n cap : Nat} (h : RW W N C c p us vi (.slice (some ⟨g, 0, none⟩) n cap) r) {k j : Nat} {x y : Rn} {v : Value} (hk : r.ns[k]? = some x) (hj : j < 3) (hy : rnC y = (rnC x).set j v) :
    RW (W.setCell ⟨g, k * 3 + j, none⟩ v) N C c p us vi (.slice (some ⟨g, 0, none⟩) n cap) ⟨r.is, r.ns.set k y⟩ ∧ Chg (fun b => C b = c) W (W.setCell ⟨g, k * 3 + j, none⟩ v) := by
  have hn : n = r.ns.length := by
    obtain ⟨A, cap', e, _⟩ := h.fn
    injection e
  subst hn
  have hg : C g = c := h.cn g rfl
  have hc : Chg (fun b => b = g) W (W.setCell ⟨g, k * 3 + j, none⟩ v) := Chg.setCell (S := fun b => b = g) (p := ⟨g, k * 3 + j, none⟩) (Chg.refl _ _) (.inl rfl) _
  have hne : p ≠ g := fun e => h.bd.apart h.rn (by decide) (by rw [e]; rfl)
  refine ⟨⟨h.is, h.bd.chg hc hne, hc.own h.ri (fun q hq e => ?_), ?_, fun i u hu => hc.own (h.ob i u hu) (fun q hq e => ?_), h.ap, h.lo, h.cp, h.ci, h.cn, h.cu⟩, hc.mono (fun b _ e => by rw [e]; exact hg)⟩
  · rcases own_apart h.ri h.rn (by decide) with h1 | h1
    · rw [h1] at hq; cases hq
    · rw [hq, e] at h1; exact h1 rfl
  · have := own_put rnC_len h.rn hk hj hy
    show World.ownsRow _ N _ 3 _ (r.ns.set k y).length _
    rw [List.length_set]
    exact this
  · rcases own_apart (h.ob i u hu) h.rn (by decide) with h1 | h1
    · rw [h1] at hq; cases hq
    · rw [hq, e] at h1; exact h1 rfl
theorem RW.put_i {g n cap : Nat} (h : RW W N C c p us (.slice (some ⟨g, 0, none⟩) n cap) vn r) {k j : Nat} {x : Value × Ri} {y : Ri} {v : Value} (hk : us[k]? = some x) (hj : j < 4) (hy : riC (x.1, y) = (riC x).set j v) (hb : y.b = x.2.b) :
    RW (W.setCell ⟨g, k * 4 + j, none⟩ v) N C c p (us.set k (x.1, y)) (.slice (some ⟨g, 0, none⟩) n cap) vn ⟨r.is.set k y, r.ns⟩ ∧ Chg (fun b => C b = c) W (W.setCell ⟨g, k * 4 + j, none⟩ v) := by
  have hn : n = us.length := by
    obtain ⟨A, cap', e, _⟩ := h.fi
    injection e
  subst hn
  have hg : C g = c := h.ci g rfl
  have hc : Chg (fun b => b = g) W (W.setCell ⟨g, k * 4 + j, none⟩ v) := Chg.setCell (S := fun b => b = g) (p := ⟨g, k * 4 + j, none⟩) (Chg.refl _ _) (.inl rfl) _
  have hne : p ≠ g := fun e => h.bd.apart h.ri (by decide) (by rw [e]; rfl)
  have key : ∀ (i : Nat) (u : Value × Ri), (us.set k (x.1, y))[i]? = some u → ∃ u0, us[i]? = some u0 ∧ u.1 = u0.1 ∧ u.2.b = u0.2.b := fun i u hu => by
    by_cases e : i = k
    · subst e
      rw [List.getElem?_set_self (List.getElem?_eq_some_iff.1 hk).1] at hu
      obtain rfl := Option.some.inj hu
      exact ⟨x, hk, rfl, hb⟩
    · rw [List.getElem?_set_ne (fun e2 => e e2.symm)] at hu
      exact ⟨u, hu, rfl, rfl⟩
  refine ⟨⟨by rw [List.map_set, h.is], h.bd.chg hc hne, ?_, hc.own h.rn (fun q hq e => ?_), fun i u hu => ?_, fun i i' u u' q hi hj hq hq' => ?_, h.lo, h.cp, h.ci, h.cn, fun i u q hu hq => ?_⟩, hc.mono (fun b _ e => by rw [e]; exact hg)⟩
  · have := own_put riC_len h.ri hk hj hy
    rw [List.length_set]
    exact this
  · rcases own_apart h.rn h.ri (by decide) with h1 | h1
    · rw [h1] at hq; cases hq
    · rw [hq, e] at h1; exact h1 rfl
  · obtain ⟨u0, h0, e1, e2⟩ := key i u hu
    rw [e1, e2]
    refine hc.own (h.ob i u0 h0) (fun q hq e => ?_)
    rcases own_apart (h.ob i u0 h0) h.ri (by decide) with h1 | h1
    · rw [h1] at hq; cases hq
    · rw [hq, e] at h1; exact h1 rfl
  · obtain ⟨u0, h0, e1, _⟩ := key i u hi
    obtain ⟨u1, h1, e2, _⟩ := key i' u' hj
    rw [e1] at hq
    rw [e2] at hq'
    exact h.ap i i' u0 u1 q h0 h1 hq hq'
  · obtain ⟨u0, h0, e1, _⟩ := key i u hu
    rw [e1] at hq
    exact h.cu i u0 q h0 hq
end
def RC (W : World) (N : Nat) (C : Nat → Nat) (c p : Nat) (r : Rd) : Prop := ∃ us vi vn, RW W N C c p us vi vn r
theorem RC.step {W w' : World} {N : Nat} {C C' : Nat → Nat} {c p : Nat} {r : Rd} (h : RC W N C c p r) {S : Nat → Prop} (hc : Chg S W w') (hs : Sam W.heap.size C C') (hS : ∀ b, S b → C b ≠ c) : RC w' N C' c p r := by
  obtain ⟨us, vi, vn, hw⟩ := h
  exact ⟨us, vi, vn, hw.step hc hs hS⟩
theorem RC.keep {W w' : World} {N : Nat} {C C' : Nat → Nat} {c p : Nat} {r : Rd} (h : RC W N C c p r) (hb : Below W.heap.size W w') (hs : Sam W.heap.size C C') : RC w' N C' c p r := h.step (Chg.of_below hb (fun _ => False)) hs (fun _ e => e.elim)
def RStepQ (W : World) (N : Nat) (C : Nat → Nat) (c p : Nat) (v : Value) (r : Rd) (e : Ending) (w' : World) : Prop :=
  e = .returned v ∧ RC w' N (paint C W.heap.size c) c p r ∧ Chg (fun b => C b = c) W w'
end Go.Proofs.YtlojmmcagglpoaaGreat
