/- THE WALK of Book.whole (package heronlaw14; printed by a program of ours). -/
import Derived.Test.YtlojmmcagglpoaaGreatQPlayBook
import Derived.Test.YtlojmmcagglpoaaGreatQPlays
import Derived.Test.YtlojmmcagglpoaaGreatQRegL
import Derived.Test.YtlojmmcagglpoaaGreatQRow
import Derived.Test.YtlojmmcagglpoaaGreatQStr
import Derived.ArgAppend
import Derived.Laws.OwnMore
import Derived.Deep.RegionHeld
import Derived.Deep.RegionHeld3
import Derived.Deep.DrawnRows
import Derived.Deep.DeepMust
namespace Go.Proofs.YtlojmmcagglpoaaGreat
open Go.RowKit
/-- append of one value to a row of the call's own: in its place, or in a new block, and then the elder one stays -/
theorem run_append_two {P : Program} (w : World) (base : Nat) (t ty e : TypeId) {z : Value} {by_ : Nat} (ht : P.underlying t = some (.slice e)) (hinfo : (P.info? e).map (fun i => (i.zero, i.size, i.bytes)) = some (some z, 1, by_)) (hz : z.cells.size = 1)
    (v : Value) (n : Nat) (xs : List Value) (hown : w.ownsRow base e 1 v n xs) (g c : Nat) (x : Value) (hx : w.cell? ⟨g, 0, none⟩ = some x) (h1 : x.oneCell' = true)
    (hlen : (n + 1) * by_ ≤ 140737488355328) (hmax : n + 1 ≤ maxLen) (hbase : base ≤ w.heap.size) :
    ∃ v' w', (Builtin.append_ #[t, t] ty #[v, .slice (some ⟨g, 0, none⟩) 1 c]).run P w = .ok v' w' ∧ w'.ownsRow base e 1 v' (n + 1) (xs ++ [x]) ∧ ((v'.ownBlock = v.ownBlock ∧ w.grownBy w' v.ownBlock) ∨ ((∀ b, v'.ownBlock = some b → w.heap.size ≤ b) ∧ w.grownBy w' none)) := by
  obtain ⟨i0, hi, hz0, hz1, hz2⟩ := info_parts hinfo
  have hnews : ∀ j u, [x][j]? = some u → w.cell? ((⟨g, 0, none⟩ : Addr).add j) = some u := fun j u hj => by
    match j, hj with
    | 0, hj => obtain rfl := Option.some.inj hj; simpa [Addr.add] using hx
    | j + 1, hj => simp at hj
  have hone : ∀ u ∈ [x], u.oneCell' = true := fun u hu => by simp at hu; subst hu; exact h1
  rcases hown.2 with ⟨hv, h0⟩ | ⟨g', cap, cur, hv, hg', hh, hnc, hcm, hcs, htk⟩
  · subst hv
    obtain ⟨v', w', h1', h2, h3, _, h5⟩ := run_append_own_at (P := P) w base t ty e i0 z 1 by_ ht hi hz0 hz1 hz2 hz (by omega) _ n xs hown ⟨g, 0, none⟩ 1 c [x] rfl hnews hone hmax hlen hbase
    exact ⟨v', w', h1', h2, .inr ⟨fun b hb => by
      rcases h5 with e | e
      · rw [e] at hb; cases hb
      · rw [e] at hb; have := Option.some.inj hb; omega, h3⟩⟩
  · subst hv
    by_cases hfit : n + 1 ≤ cap
    · obtain ⟨w', h2, h3, h4⟩ := run_append_fits (P := P) w base t ty e i0 1 ht hi hz1 g' n cap xs hown ⟨g, 0, none⟩ 1 c [x] rfl hnews hone hfit
      exact ⟨_, w', h2, h3, .inl ⟨rfl, h4⟩⟩
    · obtain ⟨v', w', h2, h3, h4⟩ := run_append_arg_grows (P := P) w t ty e i0 z 1 by_ ht hi hz0 hz1 hz2 hz (by omega) ⟨g', 0, none⟩ n cap xs hown.1 (fun j u hu => hown.cells rfl j u hu) ⟨g, 0, none⟩ 1 c [x] rfl hnews (by omega) hmax hlen
      refine ⟨v', w', h2, ?_, .inr ⟨fun b hb => (h3.lt b hb).1, h4⟩⟩
      refine ⟨h3.1, ?_⟩
      rcases h3.2 with h0 | ⟨q, cap2, cur2, hv2, hq, r⟩
      · exact .inl h0
      · exact .inr ⟨q, cap2, cur2, hv2, Nat.le_trans hbase hq, r⟩
theorem append_two {P : Program} {w : World} {ops : Array Oper} {rest : List Oper} {o : Oper} {a : Act} {Q : Exit → Act → World → Prop} (hgd : o.guard = none) (s x : Operand) (t e : TypeId) {z : Value} {by_ : Nat}
    (ho : o.op = .call { callee := .builtin .append, args := #[s, x], argTypes := #[t, t] }) (ht : P.underlying t = some (.slice e)) (hinfo : (P.info? e).map (fun i => (i.zero, i.size, i.bytes)) = some (some z, 1, by_)) (hz : z.cells.size = 1)
    (base : Nat) (v : Value) (n : Nat) (xs : List Value) (hs : a.eval s = v) (hown : w.ownsRow base e 1 v n xs) (g c : Nat) (u : Value) (hx : a.eval x = .slice (some ⟨g, 0, none⟩) 1 c) (hc : w.cell? ⟨g, 0, none⟩ = some u) (h1 : u.oneCell' = true)
    (hlen : (n + 1) * by_ ≤ 140737488355328) (hmax : n + 1 ≤ maxLen) (hbase : base ≤ w.heap.size)
    (h : ∀ v' w', w'.ownsRow base e 1 v' (n + 1) (xs ++ [u]) → ((v'.ownBlock = v.ownBlock ∧ w.grownBy w' v.ownBlock) ∨ ((∀ b, v'.ownBlock = some b → w.heap.size ≤ b) ∧ w.grownBy w' none)) → wpList P ops Q rest (a.put o.dst v') w') : wpList P ops Q (o :: rest) a w := by
  refine wpList_plain hgd fun K hK => ?_
  obtain ⟨v', w', hrun, h2, h3⟩ := run_append_two (P := P) w base t o.type e ht hinfo hz v n xs hown g c u hc h1 hlen hmax hbase
  unfold Oper.wp execOp
  simp only [ho, resolve, invoke, builtin, Sem.run_bind, Sem.run_pure, Result.andThen_ok, List.map_toArray, List.map_cons, List.map_nil, hs, hx, hrun]
  exact hK _ _ (h v' w' h2 h3)
theorem step_append_two {P : Program} {w : World} {ops : Array Oper} {o : Oper} {a : Act} {K : Act → World → Prop} {Q : Exit → Act → World → Prop} {E : Prop} (hgd : o.guard = none) (s x : Operand) (t e : TypeId) {z : Value} {by_ : Nat}
    (ho : o.op = .call { callee := .builtin .append, args := #[s, x], argTypes := #[t, t] }) (ht : P.underlying t = some (.slice e)) (hinfo : (P.info? e).map (fun i => (i.zero, i.size, i.bytes)) = some (some z, 1, by_)) (hz : z.cells.size = 1)
    (base : Nat) (v : Value) (n : Nat) (xs : List Value) (hs : a.eval s = v) (hown : w.ownsRow base e 1 v n xs) (g c : Nat) (u : Value) (hx : a.eval x = .slice (some ⟨g, 0, none⟩) 1 c) (hc : w.cell? ⟨g, 0, none⟩ = some u) (h1 : u.oneCell' = true)
    (hlen : (n + 1) * by_ ≤ 140737488355328) (hmax : n + 1 ≤ maxLen) (hbase : base ≤ w.heap.size)
    (h : ∀ v' w', w'.ownsRow base e 1 v' (n + 1) (xs ++ [u]) → ((v'.ownBlock = v.ownBlock ∧ w.grownBy w' v.ownBlock) ∨ ((∀ b, v'.ownBlock = some b → w.heap.size ≤ b) ∧ w.grownBy w' none)) → K (a.put o.dst v') w') :
    if Region.wanted o (yielded ops a.tmps) = true then Oper.wp P o a w K Q else E := by
  have hw : Region.wanted o (yielded ops a.tmps) = true := by simp [Region.wanted, hgd]
  rw [if_pos hw]
  obtain ⟨v', w', hrun, h2, h3⟩ := run_append_two (P := P) w base t o.type e ht hinfo hz v n xs hown g c u hc h1 hlen hmax hbase
  unfold Oper.wp execOp
  simp only [ho, resolve, invoke, builtin, Sem.run_bind, Sem.run_pure, Result.andThen_ok, List.map_toArray, List.map_cons, List.map_nil, hs, hx, hrun]
  exact h v' w' h2 h3
/-! ### lists written over -/
/-- all lists ahead of the i-th, and the first j of the i-th, bear their marks -/
structure Mk {α : Type} (N : Nat) (te ti : TypeId) (f : α → Value) (W : World) (C : Nat → Nat) (c : Nat) (v : Value) (us : List Value) (x : Nat → α) (n M i j : Nat) (ls : List (List α)) : Prop where
  ll : LL N te ti f W C c v us ls
  n : ls.length = n
  bd : ∀ l ∈ ls, l.length ≤ M
  mrk : ∀ (t : Nat) (l : List α), ls[t]? = some l → ∀ (u : Nat) (y : α), l[u]? = some y → (t < i ∨ (t = i ∧ u < j)) → y = x t
section
variable {α : Type} {N : Nat} {te ti : TypeId} {f : α → Value} {W W' : World} {C : Nat → Nat} {c : Nat} {v : Value} {us : List Value} {x : Nat → α} {n M i j : Nat} {ls : List (List α)}
theorem Mk.start (h : LL N te ti f W C c v us ls) (hn : ls.length = n) (hM : ∀ l ∈ ls, l.length ≤ M) : Mk N te ti f W C c v us x n M 0 0 ls := ⟨h, hn, hM, fun t l _ u y _ h => by omega⟩
theorem Mk.step {S : Nat → Prop} (h : Mk N te ti f W C c v us x n M i j ls) (hc : Chg S W W') (hS : ∀ b, S b → C b ≠ c) : Mk N te ti f W' C c v us x n M i j ls := ⟨h.ll.step hc (Sam.refl _ _) hS, h.n, h.bd, h.mrk⟩
theorem Mk.keep (h : Mk N te ti f W C c v us x n M i j ls) (hb : Below W.heap.size W W') : Mk N te ti f W' C c v us x n M i j ls := ⟨h.ll.keep hb, h.n, h.bd, h.mrk⟩
theorem Mk.put (h : Mk N te ti f W C c v us x n M i j ls) (hne : ti ≠ te) {g cap m : Nat} {l : List α} (hu : us[i]? = some (.slice (some ⟨g, 0, none⟩) m cap)) (hl : ls[i]? = some l) (_hj : j < l.length) :
    Mk N te ti f (W.setCell ⟨g, j, none⟩ (f (x i))) C c v us x n M i (j + 1) (ls.set i (l.set j (x i))) ∧ C g = c := by
  obtain ⟨h1, h2⟩ := h.ll.put hne (k := j) (x i) hu hl
  refine ⟨⟨h1, by rw [List.length_set]; exact h.n, fun q hq => ?_, fun t q hq u y hy ht => ?_⟩, h2⟩
  · rcases List.mem_or_eq_of_mem_set hq with hq | rfl
    · exact h.bd q hq
    · rw [List.length_set]; exact h.bd l (List.mem_of_getElem? hl)
  · rcases get_set hq with ⟨rfl, rfl⟩ | ⟨hne2, hq⟩
    · rcases get_set hy with ⟨_, rfl⟩ | ⟨hne3, hy⟩
      · rfl
      · exact h.mrk _ l hl u y hy (by omega)
    · exact h.mrk t q hq u y hy (by omega)
theorem Mk.next (h : Mk N te ti f W C c v us x n M i j ls) {l : List α} (hl : ls[i]? = some l) (hj : l.length ≤ j) : Mk N te ti f W C c v us x n M (i + 1) 0 ls :=
  ⟨h.ll, h.n, h.bd, fun t q hq u y hy ht => h.mrk t q hq u y hy (by
    by_cases e : t = i
    · subst e
      rw [hl] at hq
      obtain rfl := Option.some.inj hq
      have := (List.getElem?_eq_some_iff.1 hy).1
      exact .inr ⟨rfl, by omega⟩
    · exact .inl (by omega))⟩
theorem Mk.all (h : Mk N te ti f W C c v us x n M n 0 ls) {t : Nat} {l : List α} (hl : ls[t]? = some l) {u : Nat} {y : α} (hy : l[u]? = some y) : y = x t :=
  h.mrk t l hl u y hy (.inl (by have := (List.getElem?_eq_some_iff.1 hl).1; have := h.n; omega))
/-- the i-th list, where it lies -/
theorem Mk.at_ (h : Mk N te ti f W C c v us x n M i j ls) {t : Nat} (ht : t < n) : ∃ A cap l, us[t]? = some (.slice A l.length cap) ∧ ls[t]? = some l ∧ l.length ≤ cap ∧ l.length ≤ M ∧ (0 < l.length → ∃ g, A = some ⟨g, 0, none⟩ ∧ g < W.heap.size ∧ (∀ (j : Nat) (x : α), l[j]? = some x → W.cell? ⟨g, j, none⟩ = some (f x)) ∧ ∀ j, W.frozen? ⟨g, j, none⟩ = false) := by
  obtain ⟨u, l, hu, hl, ho⟩ := h.ll.at_ (j := t) (by rw [h.n]; exact ht)
  obtain ⟨A, cap, rfl, h1, h2⟩ := row_form ho
  exact ⟨A, cap, l, hu, hl, h1, h.bd l (List.mem_of_getElem? hl), h2⟩
end
/-! ### lists lengthened -/
/-- a slice of its list's length, whose cells read as the list's -/
def Reads {α : Type} (f : α → Value) (W : World) (u : Value) (l : List α) : Prop :=
  ∃ A cap, u = .slice A l.length cap ∧ l.length ≤ cap ∧ (0 < l.length → ∃ g, A = some ⟨g, 0, none⟩ ∧ g < W.heap.size ∧ ∀ (j : Nat) (y : α), l[j]? = some y → W.cell? ⟨g, j, none⟩ = some (f y))
theorem Reads.of_own {α : Type} {f : α → Value} {W : World} {base : Nat} {ti : TypeId} {u : Value} {l : List α} (h : W.ownsRow base ti 1 u (l.map f).length (l.map f)) : Reads f W u l := by
  obtain ⟨A, cap, e, h1, h2⟩ := row_form h
  exact ⟨A, cap, e, h1, fun hp => by obtain ⟨g, e, h3, h4, _⟩ := h2 hp; exact ⟨g, e, h3, h4⟩⟩
theorem Reads.chg {α : Type} {f : α → Value} {W W' : World} {u : Value} {l : List α} (h : Reads f W u l) {S : Nat → Prop} (hc : Chg S W W') (hS : ∀ b, u.ownBlock = some b → ¬ S b) : Reads f W' u l := by
  obtain ⟨A, cap, rfl, h1, h2⟩ := h
  refine ⟨A, cap, rfl, h1, fun hp => ?_⟩
  obtain ⟨g, rfl, h3, h4⟩ := h2 hp
  exact ⟨g, rfl, Nat.lt_of_lt_of_le h3 hc.size, fun j y hy => (hc.cell (p := ⟨g, j, none⟩) h3 (hS g rfl)).trans (h4 j y hy)⟩
/-- what was lengthened in its place reads as it did -/
theorem Reads.pre {α : Type} {f : α → Value} {W W' : World} {base : Nat} {ti : TypeId} {u u' : Value} {l : List α} {y : α} (h : Reads f W u l) (ho : W'.ownsRow base ti 1 u' ((l ++ [y]).map f).length ((l ++ [y]).map f)) (he : u'.ownBlock = u.ownBlock) : Reads f W' u l := by
  obtain ⟨A, cap, rfl, h1, h2⟩ := h
  refine ⟨A, cap, rfl, h1, fun hp => ?_⟩
  obtain ⟨g, rfl, h3, h4⟩ := h2 hp
  obtain ⟨A', cap', rfl, h5, h6⟩ := row_form ho
  obtain ⟨g', rfl, h7, h8, _⟩ := h6 (by simp)
  have : g' = g := by simpa [Value.ownBlock] using he
  subst this
  exact ⟨g', rfl, h7, fun j z hz => h8 j z (by rw [List.getElem?_append_left (List.getElem?_eq_some_iff.1 hz).1]; exact hz)⟩
/-- the first i lists, each longer by its mark, in a row of the call's own behind the world W1; the lists as they were -/
structure Mo {α : Type} (N : Nat) (te ti : TypeId) (f : α → Value) (W1 W : World) (v : Value) (us : List Value) (ls : List (List α)) (x : Nat → α) (mv : Value) (ms : List Value) (i : Nat) : Prop where
  chg : Chg (fun b => ∃ (j : Nat) (u : Value), us[j]? = some u ∧ u.ownBlock = some b) W1 W
  out : W.ownsRow N te 1 v us.length us
  len : us.length = ls.length
  oldv : ∀ b, v.ownBlock = some b → b < W1.heap.size
  oldu : ∀ (j : Nat) (u : Value) (b : Nat), us[j]? = some u → u.ownBlock = some b → b < W1.heap.size
  rd : ∀ (j : Nat) (u : Value) (l : List α), us[j]? = some u → ls[j]? = some l → Reads f W u l
  row : ∀ (j : Nat) (u : Value) (l : List α), i ≤ j → us[j]? = some u → ls[j]? = some l → W.ownsRow N ti 1 u (l.map f).length (l.map f)
  apart : ∀ (i j : Nat) (u u' : Value) (b : Nat), us[i]? = some u → us[j]? = some u' → u.ownBlock = some b → u'.ownBlock = some b → i = j
  far : ∀ (j : Nat) (u : Value) (b : Nat), us[j]? = some u → v.ownBlock = some b → u.ownBlock ≠ some b
  mown : W.ownsRow W1.heap.size te 1 mv ms.length ms
  mlen : ms.length = i
  mrow : ∀ (j : Nat) (m : Value) (l : List α), ms[j]? = some m → ls[j]? = some l → W.ownsRow N ti 1 m ((l ++ [x j]).map f).length ((l ++ [x j]).map f)
  mfar : ∀ (j : Nat) (m : Value) (b : Nat), ms[j]? = some m → m.ownBlock = some b → (W1.heap.size ≤ b ∨ ∃ u, us[j]? = some u ∧ u.ownBlock = some b)
section
variable {α : Type} {N : Nat} {te ti : TypeId} {f : α → Value} {W1 W W' : World} {C : Nat → Nat} {c : Nat} {v : Value} {us : List Value} {ls : List (List α)} {x : Nat → α} {mv : Value} {ms : List Value} {i : Nat}
theorem Mo.start (h : LL N te ti f W C c v us ls) (hne : ti ≠ te) : Mo N te ti f W W v us ls x (.slice none 0 0) [] 0 :=
  ⟨Chg.refl _ _, h.own, h.len, fun b hb => (World.ownsRow.lt h.own b hb).2, fun j u b hu hb => h.lt hu hb, fun j u l hu hl => Reads.of_own (h.row j u l hu hl), fun j u l _ hu hl => h.row j u l hu hl, h.apart, fun j u b hu hb => h.out hne hu hb, World.ownsRow_nil _ _ _ _, rfl, fun j m l hm _ => by simp at hm, fun j m b hm _ => by simp at hm⟩
theorem Mo.size (h : Mo N te ti f W1 W v us ls x mv ms i) : W1.heap.size ≤ W.heap.size := h.chg.size
theorem Mo.step {S : Nat → Prop} (h : Mo N te ti f W1 W v us ls x mv ms i) (hc : Chg S W W') (hlt : ∀ b, b < W.heap.size → S b → b < W1.heap.size) (hS : ∀ b, S b → v.ownBlock ≠ some b ∧ ∀ (j : Nat) (u : Value), us[j]? = some u → u.ownBlock ≠ some b) (h1 : Chg (fun b => ∃ (j : Nat) (u : Value), us[j]? = some u ∧ u.ownBlock = some b) W1 W') : Mo N te ti f W1 W' v us ls x mv ms i := by
  have hm : ∀ b, mv.ownBlock = some b → ¬ S b := fun b hb e => by
    have h2 := World.ownsRow.lt h.mown b hb
    have := hlt b h2.2 e
    omega
  exact ⟨h1, hc.own h.out (fun b hb e => (hS b e).1 hb), h.len, h.oldv, h.oldu, fun j u l hu hl => (h.rd j u l hu hl).chg hc (fun b hb e => (hS b e).2 j u hu hb), fun j u l hj hu hl => hc.own (h.row j u l hj hu hl) (fun b hb e => (hS b e).2 j u hu hb), h.apart, h.far,
    hc.own h.mown hm, h.mlen, fun j m l hj hl => hc.own (h.mrow j m l hj hl) (fun b hb e => by
      have h2 := (World.ownsRow.lt (h.mrow j m l hj hl) b hb).2
      rcases h.mfar j m b hj hb with h3 | ⟨u, hu, h3⟩
      · have := hlt b h2 e; omega
      · exact (hS b e).2 j u hu h3), h.mfar⟩
theorem Mo.keep (h : Mo N te ti f W1 W v us ls x mv ms i) (hb : Below W.heap.size W W') : Mo N te ti f W1 W' v us ls x mv ms i :=
  h.step (S := fun _ => False) (Chg.of_below hb _) (fun _ _ e => e.elim) (fun _ e => e.elim) (h.chg.trans (Chg.of_below hb _) (fun _ _ h => h))
/-- what other blocks than these turn, counted from W1 too -/
theorem Mo.step2 {S : Nat → Prop} (h : Mo N te ti f W1 W v us ls x mv ms i) (hc : Chg S W W') (hlt : ∀ b, b < W.heap.size → S b → b < W1.heap.size) (hS : ∀ b, S b → v.ownBlock ≠ some b ∧ ∀ (j : Nat) (u : Value), us[j]? = some u → u.ownBlock ≠ some b) :
    W'.ownsRow N te 1 v us.length us ∧ W'.ownsRow W1.heap.size te 1 mv ms.length ms ∧ (∀ (j : Nat) (u : Value) (l : List α), us[j]? = some u → ls[j]? = some l → Reads f W' u l) ∧ ∀ (j : Nat) (m : Value) (l : List α), ms[j]? = some m → ls[j]? = some l → W'.ownsRow N ti 1 m ((l ++ [x j]).map f).length ((l ++ [x j]).map f) := by
  refine ⟨hc.own h.out (fun b hb e => (hS b e).1 hb), hc.own h.mown (fun b hb e => ?_), fun j u l hu hl => (h.rd j u l hu hl).chg hc (fun b hb e => (hS b e).2 j u hu hb), fun j m l hj hl => hc.own (h.mrow j m l hj hl) (fun b hb e => ?_)⟩
  · have h2 := World.ownsRow.lt h.mown b hb
    have := hlt b h2.2 e
    omega
  · have h2 := (World.ownsRow.lt (h.mrow j m l hj hl) b hb).2
    rcases h.mfar j m b hj hb with h3 | ⟨u, hu, h3⟩
    · have := hlt b h2 e; omega
    · exact (hS b e).2 j u hu h3
/-- the row of the lists, where the i-th was lengthened -/
theorem Mo.outB {Wa Wb : World} (h : Mo N te ti f W1 W v us ls x mv ms i) {u u' : Value} (hu : us[i]? = some u) (b1 : Below W.heap.size W Wa)
    (hd : (u'.ownBlock = u.ownBlock ∧ Wa.grownBy Wb u.ownBlock) ∨ ((∀ b, u'.ownBlock = some b → Wa.heap.size ≤ b) ∧ Wa.grownBy Wb none)) : Wb.ownsRow N te 1 v us.length us ∧ Chg (fun b => ∃ (j : Nat) (u : Value), us[j]? = some u ∧ u.ownBlock = some b) W1 Wb := by
  have hcab : Chg (fun b => u.ownBlock = some b) Wa Wb := by
    rcases hd with ⟨_, hg⟩ | ⟨_, hg⟩
    · exact (Chg.refl _ _).grown hg (fun k e _ => e)
    · exact (Chg.refl _ _).grown hg (fun k e _ => by cases e)
  have hc : Chg (fun b => u.ownBlock = some b) W Wb := (Chg.of_below b1 _).trans hcab (fun _ _ h => h)
  exact ⟨hc.own h.out (fun b hb e => h.far i u b hu hb e), h.chg.trans hc (fun b _ e => ⟨i, u, hu, e⟩)⟩
/-- the i-th list lengthened, and laid behind the others -/
theorem Mo.grow {Wa Wb Wc : World} (h : Mo N te ti f W1 W v us ls x mv ms i) (hne : ti ≠ te) {u u' : Value} {l : List α} (hu : us[i]? = some u) (hl : ls[i]? = some l) (b1 : Below W.heap.size W Wa)
    (ho : Wb.ownsRow N ti 1 u' ((l ++ [x i]).map f).length ((l ++ [x i]).map f)) (hd : (u'.ownBlock = u.ownBlock ∧ Wa.grownBy Wb u.ownBlock) ∨ ((∀ b, u'.ownBlock = some b → Wa.heap.size ≤ b) ∧ Wa.grownBy Wb none)) (b3 : Below Wb.heap.size Wb Wc) :
    Wc.ownsRow W1.heap.size te 1 mv ms.length ms ∧ W1.heap.size ≤ Wc.heap.size ∧
    ∀ mv' Wd, Wd.ownsRow W1.heap.size te 1 mv' (ms.length + 1) (ms ++ [u']) → Wc.grownBy Wd mv.ownBlock → Mo N te ti f W1 Wd v us ls x mv' (ms ++ [u']) (i + 1) := by
  have hub : ∀ b, u.ownBlock = some b → b < W1.heap.size := fun b hb => h.oldu i u b hu hb
  have hsz := h.size
  have hcab : Chg (fun b => u.ownBlock = some b) Wa Wb := by
    rcases hd with ⟨_, hg⟩ | ⟨_, hg⟩
    · exact (Chg.refl _ _).grown hg (fun k e _ => e)
    · exact (Chg.refl _ _).grown hg (fun k e _ => by cases e)
  have hc : Chg (fun b => u.ownBlock = some b) W Wc := ((Chg.of_below b1 _).trans hcab (fun _ _ h => h)).trans (Chg.of_below b3 (fun b => u.ownBlock = some b)) (fun _ _ h => h)
  have hm1 : Wc.ownsRow W1.heap.size te 1 mv ms.length ms := hc.own h.mown (fun b hb e => by
    have h2 := (World.ownsRow.lt h.mown b hb).1
    have := hub b e
    omega)
  have hs1 : W1.heap.size ≤ Wc.heap.size := Nat.le_trans hsz hc.size
  refine ⟨hm1, hs1, fun mv' Wd k1 k2 => ?_⟩
  have hcd : Chg (fun b => mv.ownBlock = some b) Wc Wd := (Chg.refl _ _).grown k2 (fun k e _ => e)
  have hmv : ∀ b, mv.ownBlock = some b → W1.heap.size ≤ b := fun b hb => (World.ownsRow.lt h.mown b hb).1
  have hcc : Chg (fun b => ∃ (j : Nat) (u : Value), us[j]? = some u ∧ u.ownBlock = some b) W1 Wd := by
    refine ((h.chg.trans hc (fun b _ e => ⟨i, u, hu, e⟩)).trans hcd (fun b hb e => ?_))
    have := hmv b e
    omega
  have hul : ∀ (j : Nat) (w : Value), us[j]? = some w → ∃ q, ls[j]? = some q := fun j w hj => ⟨_, List.getElem?_eq_getElem (by rw [← h.len]; exact (List.getElem?_eq_some_iff.1 hj).1)⟩
  -- blocks of the lists are other ones than that of the longer ones' row
  have hnm : ∀ (j : Nat) (w : Value) (b : Nat), us[j]? = some w → w.ownBlock = some b → ¬ mv.ownBlock = some b := fun j w b hj hb e => by
    have := hmv b e
    have := h.oldu j w b hj hb
    omega
  have hou' : Wd.ownsRow N ti 1 u' ((l ++ [x i]).map f).length ((l ++ [x i]).map f) := hcd.own (own_keep ho b3) (fun b hb e => by
    rcases own_apart (own_keep ho b3) hm1 hne with h1 | h1
    · rw [h1] at hb; cases hb
    · exact h1 (hb.trans e.symm))
  refine ⟨hcc, ?_, h.len, h.oldv, h.oldu, fun j w q hj hq => ?_, fun j w q hij hj hq => ?_, h.apart, h.far, by rw [List.length_append]; exact k1, by simp [h.mlen], fun j m q hj hq => ?_, fun j m b hj hb => ?_⟩
  · refine hcd.own (hc.own h.out (fun b hb e => h.far i u b hu hb e)) (fun b hb e => ?_)
    have := hmv b e
    have := h.oldv b hb
    omega
  · refine Reads.chg ?_ hcd (fun b hb e => hnm j w b hj hb e)
    by_cases e : j = i
    · subst e
      rw [hu] at hj
      obtain rfl := Option.some.inj hj
      rw [hl] at hq
      obtain rfl := Option.some.inj hq
      rcases hd with ⟨he, _⟩ | ⟨hnew, hg⟩
      · exact ((h.rd j u l hu hl).pre ho he).chg (S := fun _ => False) (Chg.of_below b3 _) (fun _ _ e => e)
      · have hb2 : Chg (fun _ => False) Wa Wb := (Chg.refl _ _).grown hg (fun k e _ => by cases e)
        exact (((h.rd j u l hu hl).chg (S := fun _ => False) (Chg.of_below b1 _) (fun _ _ e => e)).chg hb2 (fun _ _ e => e)).chg (S := fun _ => False) (Chg.of_below b3 _) (fun _ _ e => e)
    · exact (h.rd j w q hj hq).chg hc (fun b hb e2 => e (h.apart j i w u b hj hu hb e2))
  · exact hcd.own (hc.own (h.row j w q (by omega) hj hq) (fun b hb e2 => by have := h.apart j i w u b hj hu hb e2; omega)) (fun b hb e => hnm j w b hj hb e)
  · by_cases e : j < ms.length
    · rw [List.getElem?_append_left e] at hj
      have h1 := h.mrow j m q hj hq
      have h2 : Wc.ownsRow N ti 1 m ((q ++ [x j]).map f).length ((q ++ [x j]).map f) := hc.own h1 (fun b hb e2 => by
        rcases h.mfar j m b hj hb with h3 | ⟨w, hw, h3⟩
        · have := hub b e2; omega
        · have := h.apart j i w u b hw hu h3 e2
          have := h.mlen
          omega)
      exact hcd.own h2 (fun b hb e => by
        rcases own_apart h2 hm1 hne with h3 | h3
        · rw [h3] at hb; cases hb
        · exact h3 (hb.trans e.symm))
    · have hj2 : j = ms.length := by
        have := (List.getElem?_eq_some_iff.1 hj).1
        simp at this; omega
      subst hj2
      rw [List.getElem?_append_right (Nat.le_refl _), Nat.sub_self] at hj
      obtain rfl := Option.some.inj hj
      rw [h.mlen] at hq ⊢
      rw [hl] at hq
      obtain rfl := Option.some.inj hq
      exact hou'
  · by_cases e : j < ms.length
    · rw [List.getElem?_append_left e] at hj
      exact h.mfar j m b hj hb
    · have hj2 : j = ms.length := by
        have := (List.getElem?_eq_some_iff.1 hj).1
        simp at this; omega
      subst hj2
      rw [List.getElem?_append_right (Nat.le_refl _), Nat.sub_self] at hj
      obtain rfl := Option.some.inj hj
      rcases hd with ⟨he, _⟩ | ⟨hnew, _⟩
      · exact .inr ⟨u, by rw [h.mlen]; exact hu, by rw [← he]; exact hb⟩
      · exact .inl (Nat.le_trans hsz (Nat.le_trans b1.size (hnew b hb)))
end
/-! ### what is read of them in the end -/
structure Rs {α : Type} (N N1 : Nat) (te ti : TypeId) (f : α → Value) (W : World) (v : Value) (us : List Value) (ls : List (List α)) (x : Nat → α) (mv : Value) (ms : List Value) (n M : Nat) : Prop where
  out : W.ownsRow N te 1 v n us
  mown : W.ownsRow N1 te 1 mv n ms
  rd : ∀ (j : Nat) (u : Value) (l : List α), us[j]? = some u → ls[j]? = some l → Reads f W u l
  mrow : ∀ (j : Nat) (m : Value) (l : List α), ms[j]? = some m → ls[j]? = some l → W.ownsRow N ti 1 m ((l ++ [x j]).map f).length ((l ++ [x j]).map f)
  len : ls.length = n
  mrk : ∀ (t : Nat) (l : List α), ls[t]? = some l → ∀ (u : Nat) (y : α), l[u]? = some y → y = x t
  bd : ∀ l ∈ ls, l.length ≤ M
section
variable {α : Type} {N N1 : Nat} {te ti : TypeId} {f : α → Value} {W1 W W' : World} {C : Nat → Nat} {c : Nat} {v : Value} {us : List Value} {ls : List (List α)} {x : Nat → α} {mv : Value} {ms : List Value} {i n M : Nat}
theorem Rs.chg {S : Nat → Prop} (h : Rs N N1 te ti f W v us ls x mv ms n M) (hc : Chg S W W') (h1 : ∀ b, v.ownBlock = some b → ¬ S b) (h2 : ∀ b, mv.ownBlock = some b → ¬ S b) (h3 : ∀ (j : Nat) (u : Value) (b : Nat), us[j]? = some u → u.ownBlock = some b → ¬ S b) (h4 : ∀ (j : Nat) (u : Value) (b : Nat), ms[j]? = some u → u.ownBlock = some b → b < W.heap.size → ¬ S b) : Rs N N1 te ti f W' v us ls x mv ms n M :=
  ⟨hc.own h.out h1, hc.own h.mown h2, fun j u l hu hl => (h.rd j u l hu hl).chg hc (fun b hb => h3 j u b hu hb), fun j m l hm hl => hc.own (h.mrow j m l hm hl) (fun b hb => h4 j m b hm hb ((h.mrow j m l hm hl).lt b hb).2), h.len, h.mrk, h.bd⟩
theorem Rs.keep (h : Rs N N1 te ti f W v us ls x mv ms n M) (hb : Below W.heap.size W W') : Rs N N1 te ti f W' v us ls x mv ms n M :=
  h.chg (S := fun _ => False) (Chg.of_below hb _) (fun _ _ e => e) (fun _ _ e => e) (fun _ _ _ _ _ e => e) (fun _ _ _ _ _ _ e => e)
theorem Mo.rs {W0 : World} (h : Mo N te ti f W1 W v us ls x mv ms n) (hm : Mk N te ti f W0 C c v us x n M n 0 ls) : Rs N W1.heap.size te ti f W v us ls x mv ms n M := by
  have h1 := h.out; have h2 := h.mown
  rw [h.len, hm.n] at h1
  rw [h.mlen] at h2
  exact ⟨h1, h2, h.rd, h.mrow, hm.n, fun t l hl u y hy => hm.all hl hy, hm.bd⟩
/-- blocks of its own lists: what else may turn leaves it -/
theorem Mo.rsS {S : Nat → Prop} {W0 : World} (h : Mo N te ti f W1 W v us ls x mv ms n) (hm : Mk N te ti f W0 C c v us x n M n 0 ls) (hc : Chg S W W') (hlt : ∀ b, S b → b < W1.heap.size) (hS : ∀ b, S b → v.ownBlock ≠ some b ∧ ∀ (j : Nat) (u : Value), us[j]? = some u → u.ownBlock ≠ some b) : Rs N W1.heap.size te ti f W' v us ls x mv ms n M := by
  refine (h.rs hm).chg hc (fun b hb e => (hS b e).1 hb) (fun b hb e => ?_) (fun j u b hu hb e => (hS b e).2 j u hu hb) (fun j u b hu hb _ e => ?_)
  · have := (World.ownsRow.lt h.mown b hb).1
    have := hlt b e
    omega
  · rcases h.mfar j u b hu hb with h3 | ⟨u', hu', h3⟩
    · have := hlt b e; omega
    · exact (hS b e).2 j u' hu' h3
theorem Rs.at_ (h : Rs N N1 te ti f W v us ls x mv ms n M) {t : Nat} (ht : t < n) : ∃ g cap A cp gm capm Am cm L, v = .slice (some ⟨g, 0, none⟩) n cap ∧ W.cell? ⟨g, t, none⟩ = some (.slice A L cp) ∧ mv = .slice (some ⟨gm, 0, none⟩) n capm ∧ W.cell? ⟨gm, t, none⟩ = some (.slice Am (L + 1) cm) ∧ L ≤ cp ∧ L + 1 ≤ cm ∧ L ≤ M ∧
    (∀ j, j < L → ∃ ga, A = some ⟨ga, 0, none⟩ ∧ W.cell? ⟨ga, j, none⟩ = some (f (x t))) ∧ ∃ gam, Am = some ⟨gam, 0, none⟩ ∧ ∀ j, j < L + 1 → W.cell? ⟨gam, j, none⟩ = some (f (x t)) := by
  have hl : ls[t]? = some (ls[t]'(by rw [h.len]; exact ht)) := List.getElem?_eq_getElem _
  generalize ls[t]'(by rw [h.len]; exact ht) = l at hl
  obtain ⟨A0, cap, e, _, _, h3⟩ := own_form h.out
  obtain ⟨A1, capm, e1, _, _, h4⟩ := own_form h.mown
  rcases h3 with ⟨_, h0⟩ | ⟨g, rfl, _, _⟩
  · omega
  rcases h4 with ⟨_, h0⟩ | ⟨gm, rfl, _, _⟩
  · omega
  have ho := h.out; have hmo := h.mown
  have hlo := ho.1; have hlm := hmo.1
  rw [e] at ho; rw [e1] at hmo
  have hu : us[t]? = some (us[t]'(by omega)) := List.getElem?_eq_getElem _
  have hm : ms[t]? = some (ms[t]'(by omega)) := List.getElem?_eq_getElem _
  have c1 := World.ownsRow.cellAt ho t (by omega)
  have c2 := World.ownsRow.cellAt hmo t (by omega)
  rw [hu] at c1; rw [hm] at c2
  obtain ⟨A, cp, e2, h5, h6⟩ := h.rd t _ l hu hl
  obtain ⟨Am, cm, e3, h7, h8⟩ := row_form (h.mrow t _ l hm hl)
  rw [e2] at c1; rw [e3] at c2
  rw [List.length_append, List.length_cons, List.length_nil] at h7 h8 c2
  obtain ⟨gam, h9, _, h10, _⟩ := h8 (by omega)
  refine ⟨g, cap, A, cp, gm, capm, Am, cm, l.length, e, c1, e1, c2, h5, h7, h.bd l (List.mem_of_getElem? hl), fun j hj => ?_, gam, h9, fun j hj => ?_⟩
  · obtain ⟨ga, e4, _, h11⟩ := h6 (by omega)
    have hy : l[j]? = some l[j] := List.getElem?_eq_getElem hj
    have := h11 j _ hy
    rw [h.mrk t l hl j _ hy] at this
    exact ⟨ga, e4, this⟩
  · by_cases hjl : j < l.length
    · have hy : l[j]? = some l[j] := List.getElem?_eq_getElem hjl
      have := h10 j l[j] (by rw [List.getElem?_append_left hjl]; exact hy)
      rw [h.mrk t l hl j _ hy] at this
      exact this
    · exact h10 j (x t) (by rw [List.getElem?_append_right (by omega), show j - l.length = 0 from by omega]; rfl)
end
end Go.Proofs.YtlojmmcagglpoaaGreat
namespace Go.Proofs.YtlojmmcagglpoaaGreat
open Go.RowKit Go.Maps
attribute [local go_sem ↓] Go.wp_at_zero Go.wp_at_succ
/-- the marks -/
def mkB (i : Nat) : UInt8 := UInt8.ofNat (i + 1)
def mkN (i : Nat) : List UInt8 := [UInt8.ofNat i, 0]
theorem mkN_cells (i : Nat) (hi : i ≤ 240) : (#[.int .u8 (i : Int), .int .u8 0] : Array Value).toList = (mkN i).map byteV := by
  have h : ((UInt8.ofNat i).toNat : Int) = (i : Int) := by rw [UInt8.toNat_ofNat']; omega
  simp only [mkN, List.map_cons, List.map_nil, byteV, h]; rfl
def WhQ (w0 : World) (e : Ending) (w' : World) : Prop := e = .returned (.bool true) ∧ Below w0.heap.size w0 w'
theorem RB.of_cells {w : World} {A : Option Addr} {l : List UInt8} (h : 0 < l.length → ∃ g, A = some ⟨g, 0, none⟩ ∧ g < w.heap.size ∧ ∀ (j : Nat) (x : UInt8), l[j]? = some x → w.cell? ⟨g, j, none⟩ = some (byteV x)) : RB w A l.length l :=
  ⟨rfl, fun hp => by
    obtain ⟨g, e, h1, h2⟩ := h hp
    exact ⟨g, 0, e, h1, fun j c hj => by rw [Nat.zero_add]; exact h2 j c hj⟩⟩
theorem Reads.cell {α : Type} {f : α → Value} {W : World} {u : Value} {l : List α} (h : Reads f W u l) : ∃ A cap, u = .slice A l.length cap ∧ l.length ≤ cap ∧ ∀ (j : Nat) (y : α), l[j]? = some y → ∃ g, A = some ⟨g, 0, none⟩ ∧ W.cell? ⟨g, j, none⟩ = some (f y) := by
  obtain ⟨A, cap, e, h1, h2⟩ := h
  exact ⟨A, cap, e, h1, fun j y hy => by
    obtain ⟨g, e, _, h4⟩ := h2 (by have := (List.getElem?_eq_some_iff.1 hy).1; omega)
    exact ⟨g, e, h4 j y hy⟩⟩
theorem quietW {P : Program} {f : FuncId} {args : Array Value} {w : World} {n : Nat} {v : Value} (h : Calls P f args (w.drewN n) fun e w' => e = .returned v ∧ ∃ m, w' = (w.drewN n).drewN m) :
    Calls P f args (w.drewN n) fun e w'' => e = .returned v ∧ ∃ m, w'' = w.drewN m := h.mono fun _ _ ⟨he, m, hm⟩ => ⟨he, n + m, hm.trans (by simp)⟩
theorem row_cell {w : World} {B n m c : Nat} {e : TypeId} {A : Option Addr} {vs : List Value} (h : w.ownsRow B e 1 (.slice A n c) m vs) {j : Nat} {u : Value} (hu : vs[j]? = some u) : ∃ g, A = some ⟨g, 0, none⟩ ∧ w.cell? ⟨g, j, none⟩ = some u := by
  have hl := h.1
  have hj := (List.getElem?_eq_some_iff.1 hu).1
  rcases h.2 with ⟨e, h0⟩ | ⟨g, cap, cur, e, _⟩
  · omega
  · injection e with e1 e2 e3
    subst e1
    refine ⟨g, rfl, ?_⟩
    have ho := h
    rw [show Value.slice (some ⟨g, 0, none⟩) n c = .slice (some ⟨g, 0, none⟩) m c from by rw [e2]] at ho
    rw [World.ownsRow.cellAt ho j (by omega)]
    exact hu
set_option maxRecDepth 100000 in
set_option maxHeartbeats 4000000 in
theorem whole14 {w0 W : World} {C : Nat → Nat} {P : Nat} {h : Hd} {bs : List (List UInt8)} {ns : List (List (List UInt8))} {ds : List DE} {i : Nat} (hG : GS w0 W C (LP w0 P h bs ns ds)) (hI : InvP i ds bs ns) (hi : i ≤ 120) : Calls Tryz.prog 12 #[.pointer (some ⟨P, 2, none⟩)] W (WhQ w0) := by
  have hbb := hI.bb; have hnb := hI.nb
  have hbl := hI.bl; have hnl := hI.nl
  obtain ⟨us, hLB⟩ : Bp w0 h.b bs W C := hG.at_ (k := 1) rfl
  have hSp : Sp w0 h.s bs W C := hG.at_ (k := 2) rfl
  obtain ⟨vs, hLN⟩ : Np w0 h.n ns W C := hG.at_ (k := 3) rfl
  obtain ⟨es, ⟨hE1, hE2⟩, hel, hE3⟩ : Ep w0 h.e ns W C := hG.at_ (k := 4) rfl
  have hPB : Blk W P 37 (hdC h) ∧ C P = 1 := (hG.at_ (k := 0) rfl : Pp w0 P h (ds.map DE.p) (ds.map DE.q) W C).1
  obtain ⟨n, hn⟩ : ∃ n, n = bs.length := ⟨_, rfl⟩
  obtain ⟨m, hm⟩ : ∃ m, m = ns.length := ⟨_, rfl⟩
  have hul : us.length = n := by rw [hn]; exact hLB.len
  have hvl : vs.length = m := by rw [hm]; exact hLN.len
  rw [← hm] at hel
  obtain ⟨Ab, cb, eb, hcb, _⟩ := own_form hLB.own
  obtain ⟨As, cs, es', hcs, _⟩ := own_form hSp.1
  obtain ⟨An, cn, en, hcn, _⟩ := own_form hLN.own
  obtain ⟨Ae, ce, ee, hce, _⟩ := own_form hE1
  rw [hul] at eb hcb; rw [← hn] at es' hcs; rw [hvl] at en hcn; rw [hel] at ee hce
  have hn2 : n ≤ 240 := by omega
  have hm2 : m ≤ 240 := by omega
  have HP : Hid (∀ w, Chg (fun b => C b = 2 ∨ C b = 4) W w → w.cell? ⟨P, 2, none⟩ = some (.slice Ab n cb) ∧ w.cell? ⟨P, 3, none⟩ = some (.slice As n cs) ∧ w.cell? ⟨P, 4, none⟩ = some (.slice An m cn) ∧ w.cell? ⟨P, 5, none⟩ = some (.slice Ae m ce)) := Lib.hid (fun w hc => by
    have hk := hPB.1.chg hc (fun e => by rw [hPB.2] at e; omega)
    refine ⟨?_, ?_, ?_, ?_⟩
    · rw [← eb]; exact (hk.cell 2).trans rfl
    · rw [← es']; exact (hk.cell 3).trans rfl
    · rw [← en]; exact (hk.cell 4).trans rfl
    · rw [← ee]; exact (hk.cell 5).trans rfl)
  have HB0 : Hid (Below w0.heap.size w0 W) := Lib.hid hG.bel
  have HC0 : Hid (∀ b, C b = 2 ∨ C b = 4 → w0.heap.size ≤ b) := Lib.hid (fun b hb => hG.far (by omega))
  have HLB : Hid (LL w0.heap.size 61 5 byteV W C 2 (.slice Ab n cb) us bs) := Lib.hid (by rw [← eb]; exact hLB)
  have HLN : Hid (LL w0.heap.size 32 9 sV W C 4 (.slice An m cn) vs ns) := Lib.hid (by rw [← en]; exact hLN)
  have HSP : Hid (W.ownsRow w0.heap.size 9 1 (.slice As n cs) n (bs.map sV)) := Lib.hid (by have h1 := hSp.1; rw [es', ← hn] at h1; exact h1)
  have HE1 : Hid (W.ownsRow w0.heap.size 32 1 (.slice Ae m ce) m es) := Lib.hid (by have h1 := hE1; rw [ee, hel] at h1; exact h1)
  have HE3 := Lib.hid hE3
  have HN : Hid (bs.length = n ∧ ns.length = m ∧ us.length = n ∧ vs.length = m ∧ es.length = m) := Lib.hid ⟨hn.symm, hm.symm, hul, hvl, hel⟩
  have HBB := Lib.hid hbb; have HNB := Lib.hid hnb
  have HC2 : Hid (∀ w, Chg (fun b => C b = 2) W w → Chg (fun b => C b = 2 ∨ C b = 4) W w) := Lib.hid (fun w hb => hb.mono (fun _ _ h => .inl h))
  have HBE : Hid (∀ w, Below W.heap.size W w → Chg (fun b => C b = 2 ∨ C b = 4) W w) := Lib.hid (fun w hb => Chg.of_below hb _)
  clear hG hI hi hbb hnb hbl hnl hLB hSp hLN hE1 hE2 hel hE3 hPB hn hm hul hvl eb es' en ee
  go_enter Tryz.func12, Tryz.ntmps12
  go_wp2_with fail
  go_loopw [3] (fun iv w => ∃ i : Nat, i ≤ n ∧ iv = .int .i64 (i : Int) ∧ Hid (Below W.heap.size W w)) (fun iv _ => n - (intOf iv).toNat)
  case atStart => exact ⟨0, Nat.zero_le _, rfl, Lib.hid (Below.refl _ _)⟩
  case round =>
    obtain ⟨i, hin, rfl, BR⟩ := hrel
    obtain ⟨c0, c1, c2, c3⟩ := HP.out wr (HBE.out wr BR.out)
    clear c2 c3
    by_cases hlt : i < n
    · obtain ⟨u, l, hu, hl, ho⟩ := (HLB.out.keep BR.out).at_ (j := i) (by rw [HN.out.1]; exact hlt)
      obtain ⟨g, rfl, d0⟩ := row_cell (own_keep HLB.out.own BR.out) hu
      obtain ⟨gs, rfl, d1⟩ := row_cell (u := .string (strOf l)) (own_keep HSP.out BR.out) (j := i) (by rw [List.getElem?_map, hl]; rfl)
      obtain ⟨A, cap, rfl, hlc, hrow⟩ := row_form ho
      have hll : l.length ≤ 1048576 := HBB.out l (List.mem_of_getElem? hl)
      have RBl : RB wr A l.length l := RB.of_cells (fun hp => by obtain ⟨g, e, h1, h2, _⟩ := hrow hp; exact ⟨g, e, h1, h2⟩)
      have v1 : ∀ q, (convert 61 9 (.slice A l.length cap)).run Tryz.prog (wr.drewN q) = .ok (.string (strOf l)) (wr.drewN q) := fun q => conv_bytes (wr.drewN q) A l.length cap l (RBl.keep (below_drewN (Below.refl _ _) q))
      have hiI : (i : Int) < (n : Int) := by omega
      have hi0 : (0 : Int) ≤ (i : Int) := by omega
      clear ho hu hl hrow RBl
      go_upto_region 4 with fail
      go_quiet (fail)
      have BQ : Hid (Below W.heap.size W (wr.drewN nq)) := Lib.hid (below_drewN BR.out _)
      go_wp2_with fail
      go_roundw
      case rel => exact ⟨i + 1, by omega, by simp, BQ⟩
      case measure => simp [intOf]; omega
    · obtain rfl : n = i := by omega
      clear hlt
      go_wp2_with fail
      clear c0 c1
      go_loopw [4] (fun iv w => ∃ i : Nat, i ≤ m ∧ iv = .int .i64 (i : Int) ∧ Hid (Below W.heap.size W w)) (fun iv _ => m - (intOf iv).toNat)
      case atStart => exact ⟨0, Nat.zero_le _, rfl, BR⟩
      case round =>
        clear BR
        obtain ⟨i, hin, rfl, BR⟩ := hrel
        obtain ⟨c0, c1, c2, c3⟩ := HP.out wr (HBE.out wr BR.out)
        clear c0 c1
        by_cases hlt : i < m
        · obtain ⟨u, l, hu, hl, ho⟩ := (HLN.out.keep BR.out).at_ (j := i) (by rw [HN.out.2.1]; exact hlt)
          obtain ⟨y, hy⟩ : ∃ y, es[i]? = some y := ⟨_, List.getElem?_eq_getElem (by rw [HN.out.2.2.2.2]; exact hlt)⟩
          obtain ⟨g, rfl, d0⟩ := row_cell (own_keep HLN.out.own BR.out) hu
          obtain ⟨gs, rfl, d1⟩ := row_cell (own_keep HE1.out BR.out) hy
          have hte := own_keep (HE3.out i y l hy hl).1 BR.out
          obtain ⟨A, cap, rfl, hlc, _⟩ := own_form ho
          obtain ⟨A', cap', rfl, hlc', _⟩ := own_form hte
          rw [List.length_map] at hlc ho d0
          have hll : l.length ≤ 1000000 := HNB.out l (List.mem_of_getElem? hl)
          have CT : Hid (∀ q, Calls Tryz.prog 58 #[.slice A l.length cap, .slice A' l.length cap'] (wr.drewN q) fun e w' => e = .returned (.bool true) ∧ ∃ m, w' = (wr.drewN q).drewN m) := Lib.hid (fun q => (texts_any A A' l.length l.length cap cap' l l (wr.drewN q) ((TX.of_own rfl ho).keep (below_drewN (Below.refl _ _) q)) ((TX.of_own rfl hte).keep (below_drewN (Below.refl _ _) q)) (by omega) (by omega) hlc hlc').mono (fun e w' hq => ⟨by rw [hq.1, decide_eq_true rfl], hq.2⟩))
          have hiI : (i : Int) < (m : Int) := by omega
          have hi0 : (0 : Int) ≤ (i : Int) := by omega
          obtain ⟨L, hL⟩ : ∃ L, L = l.length := ⟨_, rfl⟩
          rw [← hL] at CT d0 d1 hlc hlc' hll
          clear ho hte hu hl hy hL
          go_upto_region 9 with fail
          go_quiet ((with_reducible exact quietW (CT.out _)))
          have BQ : Hid (Below W.heap.size W (wr.drewN nq)) := Lib.hid (below_drewN BR.out _)
          go_wp2_with fail
          go_roundw
          case rel => exact ⟨i + 1, by omega, by simp, BQ⟩
          case measure => simp [intOf]; omega
        · obtain rfl : m = i := by omega
          clear hlt
          have M0 : Hid (Mk w0.heap.size 61 5 byteV wr C 2 (.slice Ab n cb) us mkB n 1048576 0 0 bs ∧ Chg (fun b => C b = 2) W wr) := Lib.hid ⟨Mk.start (HLB.out.keep BR.out) HN.out.1 HBB.out, Chg.of_below BR.out _⟩
          go_wp2_with fail
          clear c2 c3 BR HLB HSP HE1 HE3 HBB
          go_loopw [5] (fun iv w => ∃ i : Nat, i ≤ n ∧ iv = .int .i64 (i : Int) ∧ ∃ ls, Hid (Mk w0.heap.size 61 5 byteV w C 2 (.slice Ab n cb) us mkB n 1048576 i 0 ls ∧ Chg (fun b => C b = 2) W w)) (fun iv _ => n - (intOf iv).toNat)
          case atStart => exact ⟨0, Nat.zero_le _, rfl, bs, M0⟩
          case round =>
            clear M0
            obtain ⟨i, hin, rfl, ls1, M1⟩ := hrel
            obtain ⟨c0, c1, c2, c3⟩ := HP.out wr (HC2.out _ M1.out.2)
            clear c1 c2 c3
            by_cases hlt : i < n
            · obtain ⟨A, cap, l, hu, hl, hlc, hlM, _⟩ := M1.out.1.at_ hlt
              obtain ⟨g, rfl, d0⟩ := row_cell M1.out.1.ll.own hu
              obtain ⟨wo, hwo⟩ : ∃ wo : World, wo = wr := ⟨_, rfl⟩
              subst hwo
              obtain ⟨L, hL⟩ : ∃ L, L = l.length := ⟨_, rfl⟩
              have HU : Hid (us[i]? = some (.slice A L cap)) := Lib.hid (by rw [hL]; exact hu)
              have HL : Hid (ls1[i]? = some l ∧ l.length = L) := Lib.hid ⟨hl, hL.symm⟩
              rw [← hL] at hlc hlM d0
              have hiI : (i : Int) < (n : Int) := by omega
              have hi0 : (0 : Int) ≤ (i : Int) := by omega
              have hi240 : (i : Int) ≤ 240 := by omega
              clear hL hu hl
              go_wp2_with fail
              clear c0 d0
              go_loopw [6] (fun jv w => ∃ j : Nat, j ≤ L ∧ jv = .int .i64 (j : Int) ∧ ∃ ls2 l2, Hid (ls2[i]? = some l2 ∧ l2.length = L ∧ Mk w0.heap.size 61 5 byteV w C 2 (.slice (some ⟨g, 0, none⟩) n cb) us mkB n 1048576 i j ls2 ∧ Chg (fun b => C b = 2) W w)) (fun jv _ => L - (intOf jv).toNat)
              case atStart => exact ⟨0, Nat.zero_le _, rfl, ls1, l, Lib.hid ⟨HL.out.1, HL.out.2, M1.out.1, M1.out.2⟩⟩
              case round =>
                clear M1 HL
                obtain ⟨j, hjL, rfl, ls2, l2, M2⟩ := hrel
                have c0 := (HP.out wr (HC2.out _ M2.out.2.2.2)).1
                have d0 : wr.cell? ⟨g, i, none⟩ = some (.slice A L cap) := by
                  obtain ⟨g', e, d0⟩ := row_cell M2.out.2.2.1.ll.own HU.out
                  obtain rfl : g = g' := by cases e; rfl
                  exact d0
                by_cases hjlt : j < L
                · obtain ⟨A', cap', l', hu', hl', _, _, hrow⟩ := M2.out.2.2.1.at_ hlt
                  rw [HU.out] at hu'
                  have e1 := Option.some.inj hu'
                  injection e1 with e1 e2 e3
                  subst e1
                  rw [M2.out.1] at hl'
                  obtain rfl := Option.some.inj hl'
                  obtain ⟨ga, rfl, hga, hcell, hfr⟩ := hrow (by omega)
                  obtain ⟨y0, hy0⟩ : ∃ y0, l2[j]? = some y0 := ⟨_, List.getElem?_eq_getElem (by rw [M2.out.2.1]; exact hjlt)⟩
                  have k0 : wr.cell? ⟨ga, j, none⟩ = some (byteV y0) := hcell j y0 hy0
                  have k1 : wr.frozen? ⟨ga, j, none⟩ = false := hfr j
                  have MP := M2.out.2.2.1.put (by decide) HU.out M2.out.1 (by rw [M2.out.2.1]; exact hjlt)
                  have hvb : byteV (mkB i) = .int .u8 ((i : Int) + 1) := by unfold byteV mkB; rw [UInt8.toNat_ofNat']; congr 1; omega
                  obtain ⟨w3, hw3⟩ : ∃ w3, w3 = wr.setCell ⟨ga, j, none⟩ (.int .u8 ((i : Int) + 1)) := ⟨_, rfl⟩
                  have M3 : Hid ((ls2.set i (l2.set j (mkB i)))[i]? = some (l2.set j (mkB i)) ∧ (l2.set j (mkB i)).length = L ∧ Mk w0.heap.size 61 5 byteV w3 C 2 (.slice (some ⟨g, 0, none⟩) n cb) us mkB n 1048576 i (j + 1) (ls2.set i (l2.set j (mkB i))) ∧ Chg (fun b => C b = 2) W w3) := Lib.hid (by
                    refine ⟨List.getElem?_set_self (List.getElem?_eq_some_iff.1 M2.out.1).1, by rw [List.length_set]; exact M2.out.2.1, ?_, ?_⟩
                    · rw [hw3, ← hvb]; exact MP.1
                    · rw [hw3]; exact M2.out.2.2.2.setCell (p := ⟨ga, j, none⟩) (.inl MP.2) _)
                  have hjI : (j : Int) < (L : Int) := by omega
                  have hj0 : (0 : Int) ≤ (j : Int) := by omega
                  clear hy0 hcell hfr MP hvb hu' e2 e3
                  go_upto_region 16 with fail
                  rw [← hw3]
                  clear hw3 k0 k1 c0 d0
                  go_wp2_with fail
                  go_roundw
                  case rel => exact ⟨j + 1, by omega, by simp, _, _, M3⟩
                  case measure => simp [intOf]; omega
                · have M3 : Hid (Mk w0.heap.size 61 5 byteV wr C 2 (.slice (some ⟨g, 0, none⟩) n cb) us mkB n 1048576 (i + 1) 0 ls2 ∧ Chg (fun b => C b = 2) W wr) := Lib.hid ⟨M2.out.2.2.1.next M2.out.1 (by rw [M2.out.2.1]; omega), M2.out.2.2.2⟩
                  go_wp2_with fail
                  go_roundw
                  case rel => exact ⟨i + 1, by omega, by simp, ls2, M3⟩
                  case measure => simp [intOf]; omega
            · obtain rfl : n = i := by omega
              clear hlt
              go_wp2_with fail
              have ML : Hid (Mk w0.heap.size 32 9 sV wr C 4 (.slice An m cn) vs mkN m 1000000 0 0 ns ∧ Mk w0.heap.size 61 5 byteV wr C 2 (.slice Ab n cb) us mkB n 1048576 n 0 ls1 ∧ Chg (fun b => C b = 2 ∨ C b = 4) W wr) := Lib.hid ⟨Mk.start (HLN.out.step M1.out.2 (Sam.refl _ _) (fun b hb => by omega)) HN.out.2.1 HNB.out, M1.out.1, HC2.out _ M1.out.2⟩
              clear c0 M1 HLN HNB
              go_loopw [7] (fun iv w => ∃ i : Nat, i ≤ m ∧ iv = .int .i64 (i : Int) ∧ ∃ ls, Hid (Mk w0.heap.size 32 9 sV w C 4 (.slice An m cn) vs mkN m 1000000 i 0 ls ∧ Mk w0.heap.size 61 5 byteV w C 2 (.slice Ab n cb) us mkB n 1048576 n 0 ls1 ∧ Chg (fun b => C b = 2 ∨ C b = 4) W w)) (fun iv _ => m - (intOf iv).toNat)
              case atStart => exact ⟨0, Nat.zero_le _, rfl, ns, ML⟩
              case round =>
                clear ML
                obtain ⟨i, hin, rfl, ns1, M1⟩ := hrel
                obtain ⟨c0, c1, c2, c3⟩ := HP.out wr M1.out.2.2
                clear c0 c1 c3
                by_cases hlt : i < m
                · obtain ⟨A, cap, l, hu, hl, hlc, hlM, _⟩ := M1.out.1.at_ hlt
                  obtain ⟨gn, rfl, d0⟩ := row_cell M1.out.1.ll.own hu
                  obtain ⟨wo, hwo⟩ : ∃ wo : World, wo = wr := ⟨_, rfl⟩
                  subst hwo
                  obtain ⟨L, hL⟩ : ∃ L, L = l.length := ⟨_, rfl⟩
                  have HU : Hid (vs[i]? = some (.slice A L cap)) := Lib.hid (by rw [hL]; exact hu)
                  have HL : Hid (ns1[i]? = some l ∧ l.length = L) := Lib.hid ⟨hl, hL.symm⟩
                  rw [← hL] at hlc hlM d0
                  have hiI : (i : Int) < (m : Int) := by omega
                  have hi0 : (0 : Int) ≤ (i : Int) := by omega
                  have hi240 : (i : Int) ≤ 240 := by omega
                  clear hL hu hl
                  go_wp2_with fail
                  clear c2 d0
                  go_loopw [8] (fun jv w => ∃ j : Nat, j ≤ L ∧ jv = .int .i64 (j : Int) ∧ ∃ ls2 l2, Hid (ls2[i]? = some l2 ∧ l2.length = L ∧ Mk w0.heap.size 32 9 sV w C 4 (.slice (some ⟨gn, 0, none⟩) m cn) vs mkN m 1000000 i j ls2 ∧ Mk w0.heap.size 61 5 byteV w C 2 (.slice Ab n cb) us mkB n 1048576 n 0 ls1 ∧ Chg (fun b => C b = 2 ∨ C b = 4) W w)) (fun jv _ => L - (intOf jv).toNat)
                  case atStart => exact ⟨0, Nat.zero_le _, rfl, ns1, l, Lib.hid ⟨HL.out.1, HL.out.2, M1.out.1, M1.out.2⟩⟩
                  case round =>
                    clear M1 HL
                    obtain ⟨j, hjL, rfl, ls2, l2, M2⟩ := hrel
                    have c2 := (HP.out wr M2.out.2.2.2.2).2.2.1
                    have d0 : wr.cell? ⟨gn, i, none⟩ = some (.slice A L cap) := by
                      obtain ⟨g', e, d0⟩ := row_cell M2.out.2.2.1.ll.own HU.out
                      obtain rfl : gn = g' := by cases e; rfl
                      exact d0
                    by_cases hjlt : j < L
                    · obtain ⟨A', cap', l', hu', hl', _, _, hrow⟩ := M2.out.2.2.1.at_ hlt
                      rw [HU.out] at hu'
                      have e1 := Option.some.inj hu'
                      injection e1 with e1 e2 e3
                      subst e1
                      rw [M2.out.1] at hl'
                      obtain rfl := Option.some.inj hl'
                      obtain ⟨ga, rfl, hga, hcell, hfr⟩ := hrow (by omega)
                      have hjI : (j : Int) < (L : Int) := by omega
                      have hj0 : (0 : Int) ≤ (j : Int) := by omega
                      have HGA := Lib.hid hga
                      have HCELL : Hid (∃ y0, wr.cell? ⟨ga, j, none⟩ = some (sV y0) ∧ wr.frozen? ⟨ga, j, none⟩ = false) := Lib.hid ⟨l2[j]'(by rw [M2.out.2.1]; exact hjlt), hcell j _ (List.getElem?_eq_getElem _), hfr j⟩
                      have hw1 : IntKind.u8.wrap (i : Int) = (i : Int) := IntWalk.u8_in _ (by omega)
                      have hq : (i : Int) / 256 = 0 := by omega
                      have hz1 : IntKind.i64.wrap 0 = 0 := rfl
                      have hz2 : IntKind.u8.wrap 0 = 0 := rfl
                      clear hcell hfr hu' e2 e3 hga
                      go_upto_region 24 with fail
                      refine wp_region_any (by kernel_rfl) ?_
                      change wpAny _ _ _ _ _ _ _ (World.drew _)
                      refine any_of_L (S := SL 16 (fun w' => w'.cell? ⟨P, 4, none⟩ = some (.slice (some ⟨gn, 0, none⟩) m cn) ∧ w'.cell? ⟨gn, i, none⟩ = some (.slice (some ⟨ga, 0, none⟩) L cap))) _ _ _ _ ?_
                      have hT0 : (fun w' => w'.cell? ⟨P, 4, none⟩ = some (.slice (some ⟨gn, 0, none⟩) m cn) ∧ w'.cell? ⟨gn, i, none⟩ = some (.slice (some ⟨ga, 0, none⟩) L cap)) wr.drew := ⟨c2, d0⟩
                      refine anyC_take (i := 0) 16 [1, 2, 3, 5, 6, 15, 16] (v := ?_) (fun w' => w'.cell? ⟨P, 4, none⟩ = some (.slice (some ⟨gn, 0, none⟩) m cn) ∧ w'.cell? ⟨gn, i, none⟩ = some (.slice (some ⟨ga, 0, none⟩) L cap)) rfl (by kernel_rfl) (by kernel_rfl) (by kernel_rfl) (by kernel_rfl) (by kernel_rfl) (fun _ _ _ h => h) (fun _ _ h0 h => h h0) (SL.irr (i := 0) (by decide)).1 (SL.irr (i := 0) (by decide)).2 (Or.inl ⟨by rfl, ?_⟩) (SL.of hT0) ?_
                      rotate_left 1
                      · intro w hSw; (try dsimp only at hSw); go_simp <;> with_reducible rfl
                      try simp only [Act.put, List.setIfInBounds_toArray, List.set_cons_zero, List.set_cons_succ, List.getElem_toArray, List.getElem_cons_zero]
                      refine anyC_take (i := 1) 16 [2, 3, 5, 6, 15, 16] (v := ?_) (fun w' => w'.cell? ⟨P, 4, none⟩ = some (.slice (some ⟨gn, 0, none⟩) m cn) ∧ w'.cell? ⟨gn, i, none⟩ = some (.slice (some ⟨ga, 0, none⟩) L cap)) rfl (by kernel_rfl) (by kernel_rfl) (by kernel_rfl) (by kernel_rfl) (by kernel_rfl) (fun _ _ _ h => h) (fun _ _ h0 h => h h0) (SL.irr (i := 1) (by decide)).1 (SL.irr (i := 1) (by decide)).2 (Or.inl ⟨by rfl, ?_⟩) (SL.of hT0) ?_
                      rotate_left 1
                      · intro w hSw; (try dsimp only at hSw); go_simp <;> with_reducible rfl
                      try simp only [Act.put, List.setIfInBounds_toArray, List.set_cons_zero, List.set_cons_succ, List.getElem_toArray, List.getElem_cons_zero, List.getElem_cons_succ]
                      refine anyC_take (i := 2) 16 [3, 5, 6, 15, 16] (v := ?_) (fun w' => w'.cell? ⟨P, 4, none⟩ = some (.slice (some ⟨gn, 0, none⟩) m cn) ∧ w'.cell? ⟨gn, i, none⟩ = some (.slice (some ⟨ga, 0, none⟩) L cap)) rfl (by kernel_rfl) (by kernel_rfl) (by kernel_rfl) (by kernel_rfl) (by kernel_rfl) (fun _ _ _ h => h) (fun _ _ h0 h => h h0) (SL.irr (i := 2) (by decide)).1 (SL.irr (i := 2) (by decide)).2 (Or.inl ⟨by rfl, ?_⟩) (SL.of hT0) ?_
                      rotate_left 1
                      · intro w hSw; (try dsimp only at hSw); go_simp <;> with_reducible rfl
                      try simp only [Act.put, List.setIfInBounds_toArray, List.set_cons_zero, List.set_cons_succ, List.getElem_toArray, List.getElem_cons_zero, List.getElem_cons_succ]
                      refine anyC_take (i := 3) 16 [5, 6, 15, 16] (v := ?_) (fun w' => w'.cell? ⟨P, 4, none⟩ = some (.slice (some ⟨gn, 0, none⟩) m cn) ∧ w'.cell? ⟨gn, i, none⟩ = some (.slice (some ⟨ga, 0, none⟩) L cap)) rfl (by kernel_rfl) (by kernel_rfl) (by kernel_rfl) (by kernel_rfl) (by kernel_rfl) (fun _ _ _ h => h) (fun _ _ h0 h => h h0) (SL.irr (i := 3) (by decide)).1 (SL.irr (i := 3) (by decide)).2 (Or.inl ⟨by rfl, ?_⟩) (SL.of hT0) ?_
                      rotate_left 1
                      · intro w hSw; obtain ⟨q0, q1⟩ := hSw; (try dsimp only at hSw); go_simp <;> with_reducible rfl
                      try simp only [Act.put, List.setIfInBounds_toArray, List.set_cons_zero, List.set_cons_succ, List.getElem_toArray, List.getElem_cons_zero, List.getElem_cons_succ]
                      refine anyC_take (i := 4) 16 [5, 6, 15, 16] (v := ?_) (fun w' => w'.cell? ⟨P, 4, none⟩ = some (.slice (some ⟨gn, 0, none⟩) m cn) ∧ w'.cell? ⟨gn, i, none⟩ = some (.slice (some ⟨ga, 0, none⟩) L cap)) rfl (by kernel_rfl) (by kernel_rfl) (by kernel_rfl) (by kernel_rfl) (by kernel_rfl) (fun _ _ _ h => h) (fun _ _ h0 h => h h0) (SL.irr (i := 4) (by decide)).1 (SL.irr (i := 4) (by decide)).2 (Or.inl ⟨by rfl, ?_⟩) (SL.of hT0) ?_
                      rotate_left 1
                      · intro w hSw; (try dsimp only at hSw); go_simp <;> with_reducible rfl
                      try simp only [Act.put, List.setIfInBounds_toArray, List.set_cons_zero, List.set_cons_succ, List.getElem_toArray, List.getElem_cons_zero, List.getElem_cons_succ]
                      refine anyC_take (i := 5) 16 [6, 15, 16] (v := ?_) (fun w' => w'.cell? ⟨P, 4, none⟩ = some (.slice (some ⟨gn, 0, none⟩) m cn) ∧ w'.cell? ⟨gn, i, none⟩ = some (.slice (some ⟨ga, 0, none⟩) L cap)) rfl (by kernel_rfl) (by kernel_rfl) (by kernel_rfl) (by kernel_rfl) (by kernel_rfl) (fun _ _ _ h => h) (fun _ _ h0 h => h h0) (SL.irr (i := 5) (by decide)).1 (SL.irr (i := 5) (by decide)).2 (Or.inl ⟨by rfl, ?_⟩) (SL.of hT0) ?_
                      rotate_left 1
                      · intro w hSw; (try dsimp only at hSw); go_simp <;> with_reducible rfl
                      try simp only [Act.put, List.setIfInBounds_toArray, List.set_cons_zero, List.set_cons_succ, List.getElem_toArray, List.getElem_cons_zero, List.getElem_cons_succ]
                      refine anyC_take (i := 6) 16 [15, 16] (v := ?_) (fun w' => w'.cell? ⟨P, 4, none⟩ = some (.slice (some ⟨gn, 0, none⟩) m cn) ∧ w'.cell? ⟨gn, i, none⟩ = some (.slice (some ⟨ga, 0, none⟩) L cap)) rfl (by kernel_rfl) (by kernel_rfl) (by kernel_rfl) (by kernel_rfl) (by kernel_rfl) (fun _ _ _ h => h) (fun _ _ h0 h => h h0) (SL.irr (i := 6) (by decide)).1 (SL.irr (i := 6) (by decide)).2 (Or.inl ⟨by rfl, ?_⟩) (SL.of hT0) ?_
                      rotate_left 1
                      · intro w hSw; obtain ⟨q0, q1⟩ := hSw; (try dsimp only at hSw); go_simp <;> with_reducible rfl
                      try simp only [Act.put, List.setIfInBounds_toArray, List.set_cons_zero, List.set_cons_succ, List.getElem_toArray, List.getElem_cons_zero, List.getElem_cons_succ]
                      refine anyC_take (i := 7) 16 [15, 16] (v := ?_) (fun w' => w'.cell? ⟨P, 4, none⟩ = some (.slice (some ⟨gn, 0, none⟩) m cn) ∧ w'.cell? ⟨gn, i, none⟩ = some (.slice (some ⟨ga, 0, none⟩) L cap)) rfl (by kernel_rfl) (by kernel_rfl) (by kernel_rfl) (by kernel_rfl) (by kernel_rfl) (fun _ _ _ h => h) (fun _ _ h0 h => h h0) (SL.irr (i := 7) (by decide)).1 (SL.irr (i := 7) (by decide)).2 (Or.inl ⟨by rfl, ?_⟩) (SL.of hT0) ?_
                      rotate_left 1
                      · intro w hSw; (try dsimp only at hSw); go_simp <;> with_reducible rfl
                      try simp only [Act.put, List.setIfInBounds_toArray, List.set_cons_zero, List.set_cons_succ, List.getElem_toArray, List.getElem_cons_zero, List.getElem_cons_succ]
                      refine anyC_take (i := 8) 16 [9, 13, 14, 16] (v := ?_) (fun w' => w'.cell? ⟨P, 4, none⟩ = some (.slice (some ⟨gn, 0, none⟩) m cn) ∧ w'.cell? ⟨gn, i, none⟩ = some (.slice (some ⟨ga, 0, none⟩) L cap)) rfl (by kernel_rfl) (by kernel_rfl) (by kernel_rfl) (by kernel_rfl) (by kernel_rfl) (fun _ _ _ h => h) (fun _ _ h0 h => h h0) (SL.irr (i := 8) (by decide)).1 (SL.irr (i := 8) (by decide)).2 (Or.inl ⟨by rfl, ?_⟩) (SL.of hT0) ?_
                      rotate_left 1
                      · intro w hSw; (try dsimp only at hSw); go_simp <;> with_reducible rfl
                      try simp only [Act.put, List.setIfInBounds_toArray, List.set_cons_zero, List.set_cons_succ, List.getElem_toArray, List.getElem_cons_zero, List.getElem_cons_succ]
                      refine anyC_take (i := 9) 16 [13, 14, 16] (v := ?_) (fun w' => w'.cell? ⟨P, 4, none⟩ = some (.slice (some ⟨gn, 0, none⟩) m cn) ∧ w'.cell? ⟨gn, i, none⟩ = some (.slice (some ⟨ga, 0, none⟩) L cap)) rfl (by kernel_rfl) (by kernel_rfl) (by kernel_rfl) (by kernel_rfl) (by kernel_rfl) (fun _ _ _ h => h) (fun _ _ h0 h => h h0) (SL.irr (i := 9) (by decide)).1 (SL.irr (i := 9) (by decide)).2 (Or.inl ⟨by rfl, ?_⟩) (SL.of hT0) ?_
                      rotate_left 1
                      · intro w hSw; (try dsimp only at hSw); go_simp <;> with_reducible rfl
                      try simp only [Act.put, List.setIfInBounds_toArray, List.set_cons_zero, List.set_cons_succ, List.getElem_toArray, List.getElem_cons_zero, List.getElem_cons_succ]
                      refine anyC_take (i := 10) 16 [11, 12, 13, 14, 16] (v := ?_) (fun w' => w'.cell? ⟨P, 4, none⟩ = some (.slice (some ⟨gn, 0, none⟩) m cn) ∧ w'.cell? ⟨gn, i, none⟩ = some (.slice (some ⟨ga, 0, none⟩) L cap)) rfl (by kernel_rfl) (by kernel_rfl) (by kernel_rfl) (by kernel_rfl) (by kernel_rfl) (fun _ _ _ h => h) (fun _ _ h0 h => h h0) (SL.irr (i := 10) (by decide)).1 (SL.irr (i := 10) (by decide)).2 (Or.inl ⟨by rfl, ?_⟩) (SL.of hT0) ?_
                      rotate_left 1
                      · intro w hSw; (try dsimp only at hSw); go_simp <;> with_reducible rfl
                      try simp only [Act.put, List.setIfInBounds_toArray, List.set_cons_zero, List.set_cons_succ, List.getElem_toArray, List.getElem_cons_zero, List.getElem_cons_succ]
                      refine anyC_take (i := 11) 16 [12, 13, 14, 16] (v := ?_) (fun w' => w'.cell? ⟨P, 4, none⟩ = some (.slice (some ⟨gn, 0, none⟩) m cn) ∧ w'.cell? ⟨gn, i, none⟩ = some (.slice (some ⟨ga, 0, none⟩) L cap)) rfl (by kernel_rfl) (by kernel_rfl) (by kernel_rfl) (by kernel_rfl) (by kernel_rfl) (fun _ _ _ h => h) (fun _ _ h0 h => h h0) (SL.irr (i := 11) (by decide)).1 (SL.irr (i := 11) (by decide)).2 (Or.inl ⟨by rfl, ?_⟩) (SL.of hT0) ?_
                      rotate_left 1
                      · intro w hSw; (try dsimp only at hSw); go_simp <;> with_reducible rfl
                      try simp only [Act.put, List.setIfInBounds_toArray, List.set_cons_zero, List.set_cons_succ, List.getElem_toArray, List.getElem_cons_zero, List.getElem_cons_succ]
                      refine anyC_take (i := 12) 16 [13, 14, 16] (v := ?_) (fun w' => w'.cell? ⟨P, 4, none⟩ = some (.slice (some ⟨gn, 0, none⟩) m cn) ∧ w'.cell? ⟨gn, i, none⟩ = some (.slice (some ⟨ga, 0, none⟩) L cap)) rfl (by kernel_rfl) (by kernel_rfl) (by kernel_rfl) (by kernel_rfl) (by kernel_rfl) (fun _ _ _ h => h) (fun _ _ h0 h => h h0) (SL.irr (i := 12) (by decide)).1 (SL.irr (i := 12) (by decide)).2 (Or.inl ⟨by rfl, ?_⟩) (SL.of hT0) ?_
                      rotate_left 1
                      · intro w hSw; (try dsimp only at hSw); go_simp <;> with_reducible rfl
                      try simp only [Act.put, List.setIfInBounds_toArray, List.set_cons_zero, List.set_cons_succ, List.getElem_toArray, List.getElem_cons_zero, List.getElem_cons_succ]
                      refine anyL_ready (rs := [13]) (by kernel_rfl) (by simp) (AllL.cons rfl (fun K hK => ?_) AllL.nil)
                      go_simp
                      clear hw1 hq hz1 hz2
                      obtain ⟨w9, hw9⟩ : ∃ w9, w9 = (wr.alloc (.cells #[.int .u8 (i : Int), .int .u8 0] 5)).drew := ⟨_, rfl⟩
                      have B9 : Hid (Below wr.heap.size wr w9) := Lib.hid (by rw [hw9]; exact ((Below.refl wr.heap.size wr).alloc (Nat.le_refl _) _).drew)
                      have v9 := conv_bytes w9 (some ⟨wr.heap.size, 0, none⟩) 2 2 (mkN i) (by rw [hw9]; exact RB.new wr _ (0, 0) _ (mkN i) (mkN_cells i (by omega)) 2 rfl)
                      rw [← hw9]
                      have hT1 : (fun w' => w'.cell? ⟨P, 4, none⟩ = some (.slice (some ⟨gn, 0, none⟩) m cn) ∧ w'.cell? ⟨gn, i, none⟩ = some (.slice (some ⟨ga, 0, none⟩) L cap)) w9 := ⟨cell_later B9.out c2, cell_later B9.out d0⟩
                      obtain ⟨y0, hy0, hfr⟩ := HCELL.out
                      have k0 : w9.cell? ⟨ga, j, none⟩ = some (sV y0) := cell_later B9.out hy0
                      have k1 : w9.frozen? ⟨ga, j, none⟩ = false := (B9.out.frozen (p := ⟨ga, j, none⟩) HGA.out).trans hfr
                      refine hK.out _ _ (SL.of hT1) ?_
                      clear hK K hT0 hw9 hy0 hfr c2 d0
                      try simp only [Act.put, List.setIfInBounds_toArray, List.set_cons_zero, List.set_cons_succ, List.getElem_toArray, List.getElem_cons_zero, List.getElem_cons_succ]
                      refine anyL_ready (rs := [14]) (by kernel_rfl) (by simp) (AllL.cons rfl (fun K hK => ?_) AllL.nil)
                      go_simp
                      refine hK.out _ _ (SL.of hT1) ?_
                      clear hK K v9
                      try simp only [Act.put, List.setIfInBounds_toArray, List.set_cons_zero, List.set_cons_succ, List.getElem_toArray, List.getElem_cons_zero, List.getElem_cons_succ]
                      refine anyL_ready (rs := [15]) (by kernel_rfl) (by simp) (AllL.cons rfl (fun K hK => ?_) AllL.nil)
                      go_simp
                      refine hK.out _ _ (SL.of hT1) ?_
                      clear hK K
                      try simp only [Act.put, List.setIfInBounds_toArray, List.set_cons_zero, List.set_cons_succ, List.getElem_toArray, List.getElem_cons_zero, List.getElem_cons_succ]
                      have hT0 := hT1
                      refine anyL_ready (rs := [16]) (by kernel_rfl) (by simp) (AllL.cons rfl (fun K hK => ?_) AllL.nil)
                      go_simp
                      refine hK.out _ _ (SL.fin (by kernel_rfl)) ?_
                      clear hK K hT0
                      try simp only [Act.put, List.setIfInBounds_toArray, List.set_cons_zero, List.set_cons_succ, List.getElem_toArray, List.getElem_cons_zero, List.getElem_cons_succ]
                      refine anyL_done (by kernel_rfl) ?_ _
                      obtain ⟨w10, hw10⟩ : ∃ w10, w10 = w9.setCell ⟨ga, j, none⟩ (.string (strOf (mkN i))) := ⟨_, rfl⟩
                      have MP := (M2.out.2.2.1.keep B9.out).put (by decide) HU.out M2.out.1 (by rw [M2.out.2.1]; exact hjlt)
                      have M3 : Hid ((ls2.set i (l2.set j (mkN i)))[i]? = some (l2.set j (mkN i)) ∧ (l2.set j (mkN i)).length = L ∧ Mk w0.heap.size 32 9 sV w10 C 4 (.slice (some ⟨gn, 0, none⟩) m cn) vs mkN m 1000000 i (j + 1) (ls2.set i (l2.set j (mkN i))) ∧ Mk w0.heap.size 61 5 byteV w10 C 2 (.slice Ab n cb) us mkB n 1048576 n 0 ls1 ∧ Chg (fun b => C b = 2 ∨ C b = 4) W w10) := Lib.hid (by
                        have hch : Chg (fun b => C b = 4) w9 w10 := by rw [hw10]; exact Chg.setCell (S := fun b => C b = 4) (p := ⟨ga, j, none⟩) (Chg.refl _ w9) (.inl MP.2) _
                        refine ⟨List.getElem?_set_self (List.getElem?_eq_some_iff.1 M2.out.1).1, by rw [List.length_set]; exact M2.out.2.1, ?_, (M2.out.2.2.2.1.keep B9.out).step hch (fun b hb => by omega), ?_⟩
                        · rw [hw10]; exact MP.1
                        · exact (M2.out.2.2.2.2.trans (Chg.of_below B9.out (fun b => C b = 2 ∨ C b = 4)) (fun _ _ h => h)).trans hch (fun _ _ h => .inr h))
                      rw [← hw10]
                      clear hw10 MP k0 k1 hT1 B9
                      go_wp2_with fail
                      go_roundw
                      case rel => exact ⟨j + 1, by omega, by simp, _, _, M3⟩
                      case measure => simp [intOf]; omega

                    · have M3 : Hid (Mk w0.heap.size 32 9 sV wr C 4 (.slice (some ⟨gn, 0, none⟩) m cn) vs mkN m 1000000 (i + 1) 0 ls2 ∧ Mk w0.heap.size 61 5 byteV wr C 2 (.slice Ab n cb) us mkB n 1048576 n 0 ls1 ∧ Chg (fun b => C b = 2 ∨ C b = 4) W wr) := Lib.hid ⟨M2.out.2.2.1.next M2.out.1 (by rw [M2.out.2.1]; omega), M2.out.2.2.2⟩
                      go_wp2_with fail
                      go_roundw
                      case rel => exact ⟨i + 1, by omega, by simp, ls2, M3⟩
                      case measure => simp [intOf]; omega
                · obtain rfl : m = i := by omega
                  clear hlt
                  go_wp2_with fail
                  obtain ⟨W1, hW1⟩ : ∃ W1 : World, W1 = wr := ⟨_, rfl⟩
                  subst hW1
                  have HUC : Hid (∀ (w : World) (b : Nat), (∃ (j : Nat) (u : Value), us[j]? = some u ∧ u.ownBlock = some b) → C b = 2) := Lib.hid (fun _ b ⟨j, u, hu, hb⟩ => M1.out.2.1.ll.mem j u b hu hb)
                  have HL1 : Hid (ls1.length = n ∧ ∀ l ∈ ls1, l.length ≤ 1048576) := Lib.hid ⟨M1.out.2.1.n, M1.out.2.1.bd⟩
                  clear c2
                  go_loopw [9, 10] (fun mv iv w => ∃ i : Nat, i ≤ n ∧ iv = .int .i64 (i : Int) ∧ ∃ Am cm ms, mv = .slice Am i cm ∧ Hid (Mo w0.heap.size 61 5 byteV W1 w (.slice Ab n cb) us ls1 mkB (.slice Am i cm) ms i)) (fun _ iv _ => n - (intOf iv).toNat)
                  case atStart => exact ⟨0, Nat.zero_le _, rfl, none, 0, [], rfl, Lib.hid (Mo.start M1.out.2.1.ll (by decide))⟩
                  case round =>
                    obtain ⟨i, hin, rfl, Am, cm, ms, rfl, R⟩ := hrel
                    have HCW : Hid (Chg (fun b => C b = 2 ∨ C b = 4) W wr) := Lib.hid (M1.out.2.2.trans R.out.chg (fun b _ hb => .inl (HUC.out W1 b hb)))
                    obtain ⟨c0, c1, c2, c3⟩ := HP.out wr HCW.out
                    clear c1 c2 c3
                    by_cases hlt : i < n
                    · obtain ⟨u, hu⟩ : ∃ u, us[i]? = some u := ⟨_, List.getElem?_eq_getElem (by rw [HN.out.2.2.1]; exact hlt)⟩
                      obtain ⟨l, hl⟩ : ∃ l, ls1[i]? = some l := ⟨_, List.getElem?_eq_getElem (by rw [HL1.out.1]; exact hlt)⟩
                      have ho := R.out.row i u l (Nat.le_refl _) hu hl
                      obtain ⟨g, rfl, d0⟩ := row_cell R.out.out hu
                      obtain ⟨A, cap, rfl, hlc, _⟩ := row_form ho
                      have hll : l.length ≤ 1048576 := HL1.out.2 l (List.mem_of_getElem? hl)
                      obtain ⟨L, hL⟩ : ∃ L, L = l.length := ⟨_, rfl⟩
                      have HU : Hid (us[i]? = some (.slice A L cap)) := Lib.hid (by rw [hL]; exact hu)
                      have HL : Hid (ls1[i]? = some l ∧ l.length = L) := Lib.hid ⟨hl, hL.symm⟩
                      have hvb : byteV (mkB i) = .int .u8 ((i : Int) + 1) := by unfold byteV mkB; rw [UInt8.toNat_ofNat']; congr 1; omega
                      have B5 : Hid (Below wr.heap.size wr (wr.alloc (.cells #[.int .u8 ((i : Int) + 1)] 5))) := Lib.hid ((Below.refl _ _).alloc (Nat.le_refl _) _)
                      have HY5 : Hid ((wr.alloc (.cells #[.int .u8 ((i : Int) + 1)] 5)).cell? ⟨wr.heap.size, 0, none⟩ = some (byteV (mkB i))) := Lib.hid (by rw [hvb]; exact (Blk.new wr 5 #[.int .u8 ((i : Int) + 1)] rfl : Blk _ wr.heap.size _ _).cell 0)
                      have HO5 : Hid ((wr.alloc (.cells #[.int .u8 ((i : Int) + 1)] 5)).ownsRow w0.heap.size 5 1 (.slice A L cap) L (l.map byteV)) := Lib.hid (by
                        have h1 := own_keep ho B5.out
                        rw [List.length_map, ← hL] at h1; exact h1)
                      have HS5 : Hid (w0.heap.size ≤ (wr.alloc (.cells #[.int .u8 ((i : Int) + 1)] 5)).heap.size) := Lib.hid (Nat.le_trans (Nat.le_trans HB0.out.size HCW.out.size) B5.out.size)
                      have hLb : (L + 1) * 1 ≤ 140737488355328 := by omega
                      have hLm : L + 1 ≤ maxLen := by unfold maxLen; omega
                      rw [← hL] at hlc hll d0
                      have hiI : (i : Int) < (n : Int) := by omega
                      have hi0 : (0 : Int) ≤ (i : Int) := by omega
                      have hi240 : (i : Int) ≤ 240 := by omega
                      have hms : ms.length = i := R.out.mlen
                      have HMS := Lib.hid hms
                      clear ho hu hl hL hvb hms
                      go_upto_region 28 with ((first
                        | (at_builtin; refine append_two rfl (.tmp 154) (.tmp 158) 61 5 rfl Tryz.underlying61 info8 rfl w0.heap.size (.slice A L cap) L (l.map byteV) rfl HO5.out wr.heap.size 1 (byteV (mkB i)) rfl HY5.out rfl hLb hLm HS5.out ?_; intro v6 w6 e1 e2; have E1 := Lib.hid e1; have E2 := Lib.hid e2; clear e1 e2; obtain ⟨A6, cap6, hv6, hc6, _⟩ := own_form E1.out; subst hv6; have G6 := R.out.grow (Wc := w6.alloc (.cells #[.slice A6 (L + 1) cap6] 61)) (by decide) HU.out HL.out.1 B5.out (by rw [List.length_map, List.length_append, HL.out.2, List.map_append]; exact E1.out) E2.out ((Below.refl _ _).alloc (Nat.le_refl _) _); have O6 := Lib.hid G6.1; have S6 := Lib.hid G6.2.1; have G6' := Lib.hid G6.2.2; have K6 : Hid (Blk (w6.alloc (.cells #[.slice A6 (L + 1) cap6] 61)) w6.heap.size 61 #[.slice A6 (L + 1) cap6]) := Lib.hid (Blk.new w6 _ _ rfl); clear G6)
                        | (at_builtin; refine append_row rfl (.tmp 147) (.tmp 160) 31 61 rfl Tryz.underlying31 infoBL rfl (by decide) W1.heap.size (.slice Am i cm) ms.length ms rfl O6.out (some ⟨w6.heap.size, 0, none⟩) 1 1 [.slice A6 (L + 1) cap6] rfl rfl (fun e => by cases e) (news_at K6.out) (fun u hu => by simp only [List.mem_cons, List.not_mem_nil, or_false] at hu; subst hu; rfl) (by have := HMS.out; omega) (by have := HMS.out; unfold maxLen; omega) S6.out ?_; intro v7 w7 e1 e2 _; have R7 := Lib.hid (G6'.out v7 w7 e1 e2); obtain ⟨A7, cap7, hv7, _⟩ := own_form e1; clear e1 e2; rw [HMS.out] at hv7; subst hv7)))
                      clear E1 E2 O6 S6 G6' K6 HO5 HY5 B5 HS5 c0 d0
                      go_wp2_with fail
                      go_roundw
                      case rel => exact ⟨i + 1, by omega, by simp, A7, cap7, _, rfl, R7⟩
                      case measure => simp [intOf]; omega
                    · obtain rfl : n = i := by omega
                      clear hlt
                      go_wp2_with fail
                      obtain ⟨W2, hW2⟩ : ∃ W2 : World, W2 = wr := ⟨_, rfl⟩
                      subst hW2
                      have HCW2 : Hid (Chg (fun b => C b = 2 ∨ C b = 4) W W2) := Lib.hid HCW.out
                      have HLN2 : Hid (LL w0.heap.size 32 9 sV W2 C 4 (.slice An m cn) vs ns1) := Lib.hid (M1.out.1.ll.step R.out.chg (Sam.refl _ _) (fun b hb => by have := HUC.out W1 b hb; omega))
                      have HVC : Hid (∀ b, (∃ (j : Nat) (u : Value), vs[j]? = some u ∧ u.ownBlock = some b) → C b = 4) := Lib.hid (fun b ⟨j, u, hu, hb⟩ => HLN2.out.mem j u b hu hb)
                      have HL2 : Hid (ns1.length = m ∧ ∀ l ∈ ns1, l.length ≤ 1000000) := Lib.hid ⟨M1.out.1.n, M1.out.1.bd⟩
                      clear c0 HCW
                      go_loopw [11, 12] (fun mv iv w => ∃ i : Nat, i ≤ m ∧ iv = .int .i64 (i : Int) ∧ ∃ Am2 cm2 ms2, mv = .slice Am2 i cm2 ∧ Hid (Mo w0.heap.size 32 9 sV W2 w (.slice An m cn) vs ns1 mkN (.slice Am2 i cm2) ms2 i)) (fun _ iv _ => m - (intOf iv).toNat)
                      case atStart => exact ⟨0, Nat.zero_le _, rfl, none, 0, [], rfl, Lib.hid (Mo.start HLN2.out (by decide))⟩
                      case round =>
                        obtain ⟨i, hin, rfl, Am2, cm2, ms2, rfl, R2⟩ := hrel
                        have HCW : Hid (Chg (fun b => C b = 2 ∨ C b = 4) W wr) := Lib.hid (HCW2.out.trans R2.out.chg (fun b _ hb => .inr (HVC.out b hb)))
                        obtain ⟨c0, c1, c2, c3⟩ := HP.out wr HCW.out
                        clear c0 c1 c3
                        by_cases hlt : i < m
                        · obtain ⟨u, hu⟩ : ∃ u, vs[i]? = some u := ⟨_, List.getElem?_eq_getElem (by rw [HN.out.2.2.2.1]; exact hlt)⟩
                          obtain ⟨l, hl⟩ : ∃ l, ns1[i]? = some l := ⟨_, List.getElem?_eq_getElem (by rw [HL2.out.1]; exact hlt)⟩
                          have ho := R2.out.row i u l (Nat.le_refl _) hu hl
                          obtain ⟨gn, rfl, d0⟩ := row_cell R2.out.out hu
                          obtain ⟨A, cap, rfl, hlc, _⟩ := row_form ho
                          have hll : l.length ≤ 1000000 := HL2.out.2 l (List.mem_of_getElem? hl)
                          obtain ⟨L, hL⟩ : ∃ L, L = l.length := ⟨_, rfl⟩
                          have HU : Hid (vs[i]? = some (.slice A L cap)) := Lib.hid (by rw [hL]; exact hu)
                          have HL : Hid (ns1[i]? = some l ∧ l.length = L) := Lib.hid ⟨hl, hL.symm⟩
                          rw [← hL] at hlc hll d0 ho
                          have HO := Lib.hid ho
                          have hLb : (L + 1) * 16 ≤ 140737488355328 := by omega
                          have hLm : L + 1 ≤ maxLen := by unfold maxLen; omega
                          have HS0 : Hid (w0.heap.size ≤ wr.heap.size) := Lib.hid (Nat.le_trans HB0.out.size HCW.out.size)
                          have TT : Hid (∀ w, Chg (fun b => C b = 2 ∨ C b = 4) W w → w.ownsRow w0.heap.size 32 1 (.slice (some ⟨gn, 0, none⟩) m cn) vs.length vs → (fun w' => w'.cell? ⟨P, 4, none⟩ = some (.slice (some ⟨gn, 0, none⟩) m cn) ∧ w'.cell? ⟨gn, i, none⟩ = some (.slice A L cap)) w) := Lib.hid (fun w h1 h2 => ⟨(HP.out w h1).2.2.1, by
                            obtain ⟨g', e, h3⟩ := row_cell h2 HU.out
                            obtain rfl : gn = g' := by cases e; rfl
                            exact h3⟩)
                          have hiI : (i : Int) < (m : Int) := by omega
                          have hi0 : (0 : Int) ≤ (i : Int) := by omega
                          have hi240 : (i : Int) ≤ 240 := by omega
                          have hms : ms2.length = i := R2.out.mlen
                          have HMS := Lib.hid hms
                          have hw1 : IntKind.u8.wrap (i : Int) = (i : Int) := IntWalk.u8_in _ (by omega)
                          have hq : (i : Int) / 256 = 0 := by omega
                          have hz1 : IntKind.i64.wrap 0 = 0 := rfl
                          have hz2 : IntKind.u8.wrap 0 = 0 := rfl
                          clear ho hu hl hL hms
                          go_upto_region 34 with fail
                          refine wp_region_any (by kernel_rfl) ?_
                          change wpAny _ _ _ _ _ _ _ (World.drew _)
                          refine wpAny_of_held (S := fun w' => w'.cell? ⟨P, 4, none⟩ = some (.slice (some ⟨gn, 0, none⟩) m cn) ∧ w'.cell? ⟨gn, i, none⟩ = some (.slice A L cap)) _ _ _ _ ?_
                          obtain ⟨w3, hw3⟩ : ∃ w3, w3 = wr.drew := ⟨_, rfl⟩
                          have B3 : Hid (Below wr.heap.size wr w3) := Lib.hid (by rw [hw3]; exact (Below.refl _ _).drew)
                          rw [← hw3]
                          clear hw3
                          have hHeld : (fun w' => w'.cell? ⟨P, 4, none⟩ = some (.slice (some ⟨gn, 0, none⟩) m cn) ∧ w'.cell? ⟨gn, i, none⟩ = some (.slice A L cap)) w3 := ⟨cell_later B3.out c2, cell_later B3.out d0⟩
                          clear c2 d0
                          refine wpAnyH_take (i := 0) (v := ?_) rfl (by kernel_rfl) (by kernel_rfl) (by kernel_rfl) (fun _ _ _ h => h) (Or.inl ⟨by rfl, ?_⟩) (by assumption) ?_
                          rotate_left 1
                          · intro w hSw; (try dsimp only at hSw); go_simp <;> with_reducible rfl
                          try simp only [Act.put, List.setIfInBounds_toArray, List.set_cons_zero, List.set_cons_succ, List.getElem_toArray, List.getElem_cons_zero]
                          refine wpAnyH_take (i := 1) (v := ?_) rfl (by kernel_rfl) (by kernel_rfl) (by kernel_rfl) (fun _ _ _ h => h) (Or.inl ⟨by rfl, ?_⟩) (by assumption) ?_
                          rotate_left 1
                          · intro w hSw; (try dsimp only at hSw); go_simp <;> with_reducible rfl
                          try simp only [Act.put, List.setIfInBounds_toArray, List.set_cons_zero, List.set_cons_succ, List.getElem_toArray, List.getElem_cons_zero, List.getElem_cons_succ]
                          refine wpAnyH_take (i := 2) (v := ?_) rfl (by kernel_rfl) (by kernel_rfl) (by kernel_rfl) (fun _ _ _ h => h) (Or.inl ⟨by rfl, ?_⟩) (by assumption) ?_
                          rotate_left 1
                          · intro w hSw; (try dsimp only at hSw); go_simp <;> with_reducible rfl
                          try simp only [Act.put, List.setIfInBounds_toArray, List.set_cons_zero, List.set_cons_succ, List.getElem_toArray, List.getElem_cons_zero, List.getElem_cons_succ]
                          refine wpAnyH_take (i := 3) (v := ?_) rfl (by kernel_rfl) (by kernel_rfl) (by kernel_rfl) (fun _ _ _ h => h) (Or.inl ⟨by rfl, ?_⟩) (by assumption) ?_
                          rotate_left 1
                          · intro w hSw; (try dsimp only at hSw); go_simp <;> with_reducible rfl
                          try simp only [Act.put, List.setIfInBounds_toArray, List.set_cons_zero, List.set_cons_succ, List.getElem_toArray, List.getElem_cons_zero, List.getElem_cons_succ]
                          refine wpAnyH_take (i := 4) (v := ?_) rfl (by kernel_rfl) (by kernel_rfl) (by kernel_rfl) (fun _ _ _ h => h) (Or.inl ⟨by rfl, ?_⟩) (by assumption) ?_
                          rotate_left 1
                          · intro w hSw; obtain ⟨q0, q1⟩ := hSw; (try dsimp only at hSw); go_simp <;> with_reducible rfl
                          try simp only [Act.put, List.setIfInBounds_toArray, List.set_cons_zero, List.set_cons_succ, List.getElem_toArray, List.getElem_cons_zero, List.getElem_cons_succ]
                          refine wpAnyH_take (i := 5) (v := ?_) rfl (by kernel_rfl) (by kernel_rfl) (by kernel_rfl) (fun _ _ _ h => h) (Or.inl ⟨by rfl, ?_⟩) (by assumption) ?_
                          rotate_left 1
                          · intro w hSw; (try dsimp only at hSw); go_simp <;> with_reducible rfl
                          try simp only [Act.put, List.setIfInBounds_toArray, List.set_cons_zero, List.set_cons_succ, List.getElem_toArray, List.getElem_cons_zero, List.getElem_cons_succ]
                          refine wpAnyH_take (i := 6) (v := ?_) rfl (by kernel_rfl) (by kernel_rfl) (by kernel_rfl) (fun _ _ _ h => h) (Or.inl ⟨by rfl, ?_⟩) (by assumption) ?_
                          rotate_left 1
                          · intro w hSw; (try dsimp only at hSw); go_simp <;> with_reducible rfl
                          try simp only [Act.put, List.setIfInBounds_toArray, List.set_cons_zero, List.set_cons_succ, List.getElem_toArray, List.getElem_cons_zero, List.getElem_cons_succ]
                          refine wpAnyH_take (i := 7) (v := ?_) rfl (by kernel_rfl) (by kernel_rfl) (by kernel_rfl) (fun _ _ _ h => h) (Or.inl ⟨by rfl, ?_⟩) (by assumption) ?_
                          rotate_left 1
                          · intro w hSw; obtain ⟨q0, q1⟩ := hSw; (try dsimp only at hSw); go_simp <;> with_reducible rfl
                          try simp only [Act.put, List.setIfInBounds_toArray, List.set_cons_zero, List.set_cons_succ, List.getElem_toArray, List.getElem_cons_zero, List.getElem_cons_succ]
                          refine wpAnyH_take (i := 8) (v := ?_) rfl (by kernel_rfl) (by kernel_rfl) (by kernel_rfl) (fun _ _ _ h => h) (Or.inl ⟨by rfl, ?_⟩) (by assumption) ?_
                          rotate_left 1
                          · intro w hSw; (try dsimp only at hSw); go_simp <;> with_reducible rfl
                          try simp only [Act.put, List.setIfInBounds_toArray, List.set_cons_zero, List.set_cons_succ, List.getElem_toArray, List.getElem_cons_zero, List.getElem_cons_succ]
                          refine wpAnyH_take (i := 9) (v := ?_) rfl (by kernel_rfl) (by kernel_rfl) (by kernel_rfl) (fun _ _ _ h => h) (Or.inl ⟨by rfl, ?_⟩) (by assumption) ?_
                          rotate_left 1
                          · intro w hSw; (try dsimp only at hSw); go_simp <;> with_reducible rfl
                          try simp only [Act.put, List.setIfInBounds_toArray, List.set_cons_zero, List.set_cons_succ, List.getElem_toArray, List.getElem_cons_zero, List.getElem_cons_succ]
                          refine wpAnyH_take (i := 10) (v := ?_) rfl (by kernel_rfl) (by kernel_rfl) (by kernel_rfl) (fun _ _ _ h => h) (Or.inl ⟨by rfl, ?_⟩) (by assumption) ?_
                          rotate_left 1
                          · intro w hSw; (try dsimp only at hSw); go_simp <;> with_reducible rfl
                          try simp only [Act.put, List.setIfInBounds_toArray, List.set_cons_zero, List.set_cons_succ, List.getElem_toArray, List.getElem_cons_zero, List.getElem_cons_succ]
                          refine wpAnyH_take (i := 11) (v := ?_) rfl (by kernel_rfl) (by kernel_rfl) (by kernel_rfl) (fun _ _ _ h => h) (Or.inl ⟨by rfl, ?_⟩) (by assumption) ?_
                          rotate_left 1
                          · intro w hSw; (try dsimp only at hSw); go_simp <;> with_reducible rfl
                          try simp only [Act.put, List.setIfInBounds_toArray, List.set_cons_zero, List.set_cons_succ, List.getElem_toArray, List.getElem_cons_zero, List.getElem_cons_succ]
                          refine wpAnyH_take (i := 12) (v := ?_) rfl (by kernel_rfl) (by kernel_rfl) (by kernel_rfl) (fun _ _ _ h => h) (Or.inl ⟨by rfl, ?_⟩) (by assumption) ?_
                          rotate_left 1
                          · intro w hSw; (try dsimp only at hSw); go_simp <;> with_reducible rfl
                          try simp only [Act.put, List.setIfInBounds_toArray, List.set_cons_zero, List.set_cons_succ, List.getElem_toArray, List.getElem_cons_zero, List.getElem_cons_succ]
                          refine wpAnyH_ready (rs := [13]) (by kernel_rfl) (by simp) (AllReadyH.cons rfl (fun K hK => ?_) AllReadyH.nil)
                          have hPrev := hHeld
                          clear hHeld
                          go_simp
                          clear hw1 hq hz1 hz2
                          obtain ⟨w5, hw5⟩ : ∃ w5, w5 = w3.alloc (.cells #[.int .u8 (i : Int), .int .u8 0] 5) := ⟨_, rfl⟩
                          have B5 : Hid (Below wr.heap.size wr w5) := Lib.hid (by rw [hw5]; exact B3.out.alloc B3.out.size _)
                          have v5 := conv_bytes w5 (some ⟨w3.heap.size, 0, none⟩) 2 2 (mkN i) (by rw [hw5]; exact RB.new w3 _ (0, 0) _ (mkN i) (mkN_cells i (by omega)) 2 rfl)
                          rw [← hw5]
                          clear hw5
                          refine hK.out _ _ (TT.out _ (Chg.trans HCW.out (Chg.of_below B5.out _) (fun _ _ h => h)) (own_keep R2.out.out B5.out)) (fun hHeld => ?_)
                          clear hK K hPrev
                          try simp only [Act.put, List.setIfInBounds_toArray, List.set_cons_zero, List.set_cons_succ, List.getElem_toArray, List.getElem_cons_zero, List.getElem_cons_succ]
                          refine wpAnyH_ready (rs := [14]) (by kernel_rfl) (by simp) (AllReadyH.cons rfl (fun K hK => ?_) AllReadyH.nil)
                          have hPrev := hHeld
                          clear hHeld
                          go_simp
                          refine hK.out _ _ (TT.out _ (Chg.trans HCW.out (Chg.of_below B5.out _) (fun _ _ h => h)) (own_keep R2.out.out B5.out)) (fun hHeld => ?_)
                          clear hK K hPrev
                          try simp only [Act.put, List.setIfInBounds_toArray, List.set_cons_zero, List.set_cons_succ, List.getElem_toArray, List.getElem_cons_zero, List.getElem_cons_succ]
                          clear v5
                          refine wpAnyH_ready (rs := [15]) (by kernel_rfl) (by simp) (AllReadyH.cons rfl (fun K hK => ?_) AllReadyH.nil)
                          have hPrev := hHeld
                          clear hHeld
                          go_simp
                          obtain ⟨w6, hw6⟩ : ∃ w6, w6 = w5.alloc (.cells #[.string (strOf (mkN i))] 9) := ⟨_, rfl⟩
                          have B6 : Hid (Below wr.heap.size wr w6) := Lib.hid (by rw [hw6]; exact B5.out.alloc B5.out.size _)
                          have HY6 : Hid (w6.cell? ⟨w5.heap.size, 0, none⟩ = some (sV (mkN i))) := Lib.hid (by rw [hw6]; exact (Blk.new w5 9 #[.string (strOf (mkN i))] rfl : Blk _ w5.heap.size _ _).cell 0)
                          rw [← hw6]
                          clear hw6
                          refine hK.out _ _ (TT.out _ (Chg.trans HCW.out (Chg.of_below B6.out _) (fun _ _ h => h)) (own_keep R2.out.out B6.out)) (fun hHeld => ?_)
                          clear hK K hPrev
                          try simp only [Act.put, List.setIfInBounds_toArray, List.set_cons_zero, List.set_cons_succ, List.getElem_toArray, List.getElem_cons_zero, List.getElem_cons_succ]
                          refine wpAnyH_ready (rs := [16]) (by kernel_rfl) (by simp) (AllReadyH.cons rfl (fun K hK => ?_) AllReadyH.nil)
                          have hPrev := hHeld
                          clear hHeld
                          have HO6 : Hid (w6.ownsRow w0.heap.size 9 1 (.slice A L cap) L (l.map sV)) := Lib.hid (by
                            have h1 := own_keep HO.out B6.out
                            rw [List.length_map, HL.out.2] at h1; exact h1)
                          refine step_append_two rfl (.tmp 178) (.tmp 186) 32 9 rfl Tryz.underlying32 infoST rfl w0.heap.size (.slice A L cap) L (l.map sV) rfl HO6.out w5.heap.size 1 (sV (mkN i)) rfl HY6.out rfl hLb hLm (Nat.le_trans HS0.out B6.out.size) ?_
                          intro v7 w7 e1 e2
                          have E1 := Lib.hid e1; have E2 := Lib.hid e2
                          clear e1 e2
                          obtain ⟨A7, cap7, hv7, hc7, _⟩ := own_form E1.out
                          subst hv7
                          have OB7 := Lib.hid (R2.out.outB HU.out B6.out E2.out)
                          have HC7 : Hid (Chg (fun b => C b = 2 ∨ C b = 4) W w7) := Lib.hid (HCW2.out.trans OB7.out.2 (fun b _ hb => .inr (HVC.out b hb)))
                          have E1' : Hid (w7.ownsRow w0.heap.size 9 1 (.slice A7 (L + 1) cap7) ((l ++ [mkN i]).map sV).length ((l ++ [mkN i]).map sV)) := Lib.hid (by rw [List.length_map, List.length_append, HL.out.2, List.map_append]; exact E1.out)
                          refine hK.out _ _ (TT.out _ HC7.out OB7.out.1) (fun hHeld => ?_)
                          clear hK K hPrev
                          try simp only [Act.put, List.setIfInBounds_toArray, List.set_cons_zero, List.set_cons_succ, List.getElem_toArray, List.getElem_cons_zero, List.getElem_cons_succ]
                          refine wpAnyH_ready (rs := [17]) (by kernel_rfl) (by simp) (AllReadyH.cons rfl (fun K hK => ?_) AllReadyH.nil)
                          have hPrev := hHeld
                          clear hHeld
                          go_simp
                          obtain ⟨w8, hw8⟩ : ∃ w8, w8 = w7.alloc (.cells #[.slice A7 (L + 1) cap7] 32) := ⟨_, rfl⟩
                          have B8 : Hid (Below w7.heap.size w7 w8) := Lib.hid (by rw [hw8]; exact (Below.refl _ _).alloc (Nat.le_refl _) _)
                          have K8 : Hid (Blk w8 w7.heap.size 32 #[.slice A7 (L + 1) cap7]) := Lib.hid (by rw [hw8]; exact Blk.new w7 _ _ rfl)
                          rw [← hw8]
                          clear hw8
                          refine hK.out _ _ (TT.out _ (Chg.trans HC7.out (Chg.of_below B8.out _) (fun _ _ h => h)) (own_keep OB7.out.1 B8.out)) (fun hHeld => ?_)
                          clear hK K hPrev
                          try simp only [Act.put, List.setIfInBounds_toArray, List.set_cons_zero, List.set_cons_succ, List.getElem_toArray, List.getElem_cons_zero, List.getElem_cons_succ]
                          refine wpAnyH_ready (rs := [18]) (by kernel_rfl) (by simp) (AllReadyH.cons rfl (fun K hK => ?_) AllReadyH.nil)
                          have hPrev := hHeld
                          clear hHeld
                          have G8 := R2.out.grow (by decide) HU.out HL.out.1 B6.out E1'.out E2.out B8.out
                          have O8 := Lib.hid G8.1; have S8 := Lib.hid G8.2.1; have G8' := Lib.hid G8.2.2
                          clear G8
                          refine step_append_row rfl (.tmp 171) (.tmp 188) 33 32 rfl Tryz.underlying33 infoNL rfl (by decide) W2.heap.size (.slice Am2 i cm2) ms2.length ms2 rfl O8.out (some ⟨w7.heap.size, 0, none⟩) 1 1 [.slice A7 (L + 1) cap7] rfl rfl (fun e => by cases e) (news_at K8.out) (fun u hu => by simp only [List.mem_cons, List.not_mem_nil, or_false] at hu; subst hu; rfl) (by have := HMS.out; omega) (by have := HMS.out; unfold maxLen; omega) S8.out ?_
                          intro v9 w9 e1 e2 _
                          have R9 := Lib.hid (G8'.out v9 w9 e1 e2)
                          obtain ⟨A9, cap9, hv9, _⟩ := own_form e1
                          clear e1 e2
                          rw [HMS.out] at hv9
                          subst hv9
                          have HC9 : Hid (Chg (fun b => C b = 2 ∨ C b = 4) W w9) := Lib.hid (HCW2.out.trans R9.out.chg (fun b _ hb => .inr (HVC.out b hb)))
                          refine hK.out _ _ (TT.out _ HC9.out R9.out.out) (fun hHeld => ?_)
                          clear hK K hPrev
                          try simp only [Act.put, List.setIfInBounds_toArray, List.set_cons_zero, List.set_cons_succ, List.getElem_toArray, List.getElem_cons_zero, List.getElem_cons_succ]
                          refine wpAnyH_take (i := 19) (v := ?_) rfl (by kernel_rfl) (by kernel_rfl) (by kernel_rfl) (fun _ _ _ h => h) (Or.inl ⟨by rfl, ?_⟩) (by assumption) ?_
                          rotate_left 1
                          · intro w hSw; (try dsimp only at hSw); go_simp <;> with_reducible rfl
                          try simp only [Act.put, List.setIfInBounds_toArray, List.set_cons_zero, List.set_cons_succ, List.getElem_toArray, List.getElem_cons_zero, List.getElem_cons_succ]
                          refine wpAnyH_done (by kernel_rfl) ?_ _
                          clear hHeld HC9 HC7 OB7 E1 E2 E1' O8 S8 G8' K8 B8 HO6 HY6 B6 B5 B3
                          go_wp2_with fail
                          go_roundw
                          case rel => exact ⟨i + 1, by omega, by simp, A9, cap9, _, rfl, R9⟩
                          case measure => simp [intOf]; omega
                        · obtain rfl : m = i := by omega
                          clear hlt
                          go_wp2_with fail
                          have RB1 : Hid (Rs w0.heap.size W1.heap.size 61 5 byteV wr (.slice Ab n cb) us ls1 mkB (.slice Am n cm) ms n 1048576) := Lib.hid (R.out.rsS M1.out.2.1 R2.out.chg (fun b ⟨j, u, hu, hb⟩ => M1.out.1.ll.lt hu hb) (fun b hb => ⟨fun e => by have h1 := HVC.out b hb; have h2 := M1.out.2.1.ll.memv b e; omega, fun j u hu e => by have h1 := HVC.out b hb; have h2 := HUC.out W1 b ⟨j, u, hu, e⟩; omega⟩))
                          have RN1 : Hid (Rs w0.heap.size W2.heap.size 32 9 sV wr (.slice An m cn) vs ns1 mkN (.slice Am2 m cm2) ms2 m 1000000) := Lib.hid (R2.out.rs M1.out.1)
                          have BF : Hid (Below w0.heap.size w0 wr) := Lib.hid (HB0.out.trans (HCW.out.below (fun b hb e => by have := HC0.out b e; omega) HB0.out.size))
                          clear c2 R R2 M1 HLN2 HVC HUC HL1 HL2 HCW2
                          go_loop [13] (fun iv => ∃ i : Nat, i ≤ n ∧ iv = .int .i64 (i : Int)) (fun iv => n - (intOf iv).toNat)
                          case atStart => exact ⟨0, Nat.zero_le _, rfl⟩
                          case round =>
                            obtain ⟨i, hin, rfl⟩ := hrel
                            by_cases hlt : i < n
                            · obtain ⟨c0, c1, c2, c3⟩ := HP.out wr HCW.out
                              clear c1 c2 c3
                              obtain ⟨g, cap, A, cp, gm, capm, Ax, cx, L, e, d0, e1, d1, hLc, hLx, hLM, hA, gam, e2, hx⟩ := RB1.out.at_ hlt
                              cases e
                              cases e1
                              subst e2
                              have HA := Lib.hid hA
                              have HX := Lib.hid hx
                              have hvb : byteV (mkB i) = .int .u8 ((i : Int) + 1) := by unfold byteV mkB; rw [UInt8.toNat_ofNat']; congr 1; omega
                              have HVB := Lib.hid hvb
                              have hiI : (i : Int) < (n : Int) := by omega
                              have hi0 : (0 : Int) ≤ (i : Int) := by omega
                              have hi240 : (i : Int) ≤ 240 := by omega
                              clear hA hx hvb
                              go_wp2_with fail
                              go_loop [14] (fun jv => ∃ j : Nat, j ≤ L + 1 ∧ jv = .int .i64 (j : Int)) (fun jv => L + 1 - (intOf jv).toNat)
                              case atStart => exact ⟨0, Nat.zero_le _, rfl⟩
                              case round =>
                                obtain ⟨j, hjL, rfl⟩ := hrel
                                have hj0 : (0 : Int) ≤ (j : Int) := by omega
                                by_cases hj1 : j < L + 1
                                · have k0 : wr.cell? ⟨gam, j, none⟩ = some (.int .u8 ((i : Int) + 1)) := by rw [← HVB.out]; exact HX.out j hj1
                                  have hj1I : (j : Int) < (L : Int) + 1 := by omega
                                  by_cases hjl : j < L
                                  · obtain ⟨ga, rfl, k1⟩ := HA.out j hjl
                                    rw [HVB.out] at k1
                                    have hjI : (j : Int) < (L : Int) := by omega
                                    go_wp2_with fail
                                    go_round
                                    case rel => exact ⟨j + 1, by omega, by simp⟩
                                    case measure => simp [intOf]; omega
                                  · go_wp2_with fail
                                    go_round
                                    case rel => exact ⟨j + 1, by omega, by simp⟩
                                    case measure => simp [intOf]; omega
                                · go_wp2_with fail
                                  go_round
                                  case rel => exact ⟨i + 1, by omega, by simp⟩
                                  case measure => simp [intOf]; omega
                            · obtain rfl : n = i := by omega
                              clear hlt
                              go_wp2_with fail
                              obtain ⟨W3, hW3⟩ : ∃ W3 : World, W3 = wr := ⟨_, rfl⟩
                              subst hW3
                              go_loopw [15] (fun iv w => ∃ i : Nat, i ≤ m ∧ iv = .int .i64 (i : Int) ∧ Hid (Below W3.heap.size W3 w)) (fun iv _ => m - (intOf iv).toNat)
                              case atStart => exact ⟨0, Nat.zero_le _, rfl, Lib.hid (Below.refl _ _)⟩
                              case round =>
                                obtain ⟨i, hin, rfl, BR⟩ := hrel
                                by_cases hlt : i < m
                                · have hiI : (i : Int) < (m : Int) := by omega
                                  have hi0 : (0 : Int) ≤ (i : Int) := by omega
                                  have hi240 : (i : Int) ≤ 240 := by omega
                                  have hq : (i : Int) / 256 = 0 := by omega
                                  obtain ⟨w5, hw5⟩ : ∃ w5, w5 = wr.alloc (.cells #[.int .u8 (i : Int), .int .u8 0] 5) := ⟨_, rfl⟩
                                  have v5 := conv_bytes w5 (some ⟨wr.heap.size, 0, none⟩) 2 2 (mkN i) (by rw [hw5]; exact RB.new wr _ (0, 0) _ (mkN i) (mkN_cells i (by omega)) 2 rfl)
                                  have B5 : Hid (Below W3.heap.size W3 w5) := Lib.hid (by rw [hw5]; exact BR.out.alloc BR.out.size _)
                                  rw [hw5] at v5
                                  obtain ⟨c0, c1, c2, c3⟩ := HP.out w5 (HCW.out.trans (Chg.of_below B5.out _) (fun _ _ h => h))
                                  clear c0 c1 c3
                                  obtain ⟨g, cap, A, cp, gm, capm, Ax, cx, L, e, d0, e1, d1, hLc, hLx, hLM, hA, gam, e2, hx⟩ := (RN1.out.keep B5.out).at_ hlt
                                  cases e
                                  cases e1
                                  subst e2
                                  have HA := Lib.hid hA
                                  have HX := Lib.hid hx
                                  clear hA hx
                                  go_upto_region 47 with fail
                                  rw [← hw5]
                                  clear hw5 v5 hq
                                  go_wp2_with fail
                                  go_loop [17] (fun jv => ∃ j : Nat, j ≤ L + 1 ∧ jv = .int .i64 (j : Int)) (fun jv => L + 1 - (intOf jv).toNat)
                                  case atStart => exact ⟨0, Nat.zero_le _, rfl⟩
                                  case round =>
                                    obtain ⟨j, hjL, rfl⟩ := hrel
                                    have hj0 : (0 : Int) ≤ (j : Int) := by omega
                                    by_cases hj1 : j < L + 1
                                    · have k0 : w5.cell? ⟨gam, j, none⟩ = some (.string (strOf (mkN i))) := HX.out j hj1
                                      have hj1I : (j : Int) < (L : Int) + 1 := by omega
                                      by_cases hjl : j < L
                                      · obtain ⟨ga, rfl, k1⟩ := HA.out j hjl
                                        replace k1 : w5.cell? ⟨ga, j, none⟩ = some (.string (strOf (mkN i))) := k1
                                        have hjI : (j : Int) < (L : Int) := by omega
                                        go_wp2_with fail
                                        go_round
                                        case rel => exact ⟨j + 1, by omega, by simp⟩
                                        case measure => simp [intOf]; omega
                                      · go_wp2_with fail
                                        go_round
                                        case rel => exact ⟨j + 1, by omega, by simp⟩
                                        case measure => simp [intOf]; omega
                                    · go_wp2_with fail
                                      go_roundw
                                      case rel => exact ⟨i + 1, by omega, by simp, B5⟩
                                      case measure => simp [intOf]; omega
                                · obtain rfl : m = i := by omega
                                  clear hlt
                                  have HF : Hid (WhQ w0 (.returned (.bool true)) wr) := Lib.hid ⟨rfl, BF.out.trans (BR.out.mono BF.out.size)⟩
                                  go_wp2_with fail
                                  go_ret
                                  exact HF.out
end Go.Proofs.YtlojmmcagglpoaaGreat
