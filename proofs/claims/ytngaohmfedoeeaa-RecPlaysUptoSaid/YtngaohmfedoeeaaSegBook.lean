/- THE BOOK: bytes that were answered, with what they were; the walk of take. -/
import Derived.Test.YtngaohmfedoeeaaSegs
namespace Go.Proofs.Ytngaohmfedoeeaa
open Go.RowKit
def Sam (h : Nat) (C C' : Nat → Nat) : Prop := ∀ b, b < h → C' b = C b
theorem Sam.refl (h : Nat) (C : Nat → Nat) : Sam h C C := fun _ _ => rfl
theorem Sam.trans {h h' : Nat} {C C' C'' : Nat → Nat} (a : Sam h C C') (b : Sam h' C' C'') (hh : h ≤ h') : Sam h C C'' := fun k hk => (b k (by omega)).trans (a k hk)
theorem Sam.mono {h h' : Nat} {C C' : Nat → Nat} (a : Sam h C C') (hh : h' ≤ h) : Sam h' C C' := fun k hk => a k (by omega)
def paint (C : Nat → Nat) (h : Nat) (c : Nat) : Nat → Nat := fun b => if b < h then C b else c
theorem sam_paint (C : Nat → Nat) (h : Nat) (c : Nat) : Sam h C (paint C h c) := fun _ hb => if_pos hb
theorem paint_new (C : Nat → Nat) {h b : Nat} (c : Nat) (hb : h ≤ b) : paint C h c b = c := if_neg (by omega)
structure SL (w : World) (C : Nat → Nat) (v : Value) (us : List Value) (ls : List (List UInt8)) : Prop where
  own : w.ownsRow 0 22 1 v us.length us
  len : us.length = ls.length
  sg : ∀ (j : Nat) (u : Value) (l : List UInt8), us[j]? = some u → ls[j]? = some l → SG w u l
  apart : ∀ (i j : Nat) (u u' : Value) (b o : Nat), us[i]? = some u → us[j]? = some u' → SegIn u b o → SegIn u' b o → i = j
  memv : ∀ b, v.ownBlock = some b → C b = 7
  mem : ∀ (j : Nat) (u : Value) (b o : Nat), us[j]? = some u → SegIn u b o → C b = 9 ∨ C b = 3
structure WS (w : World) (C : Nat → Nat) (v : Value) (ss : List ByteArray) : Prop where
  own : w.ownsRow 0 9 1 v (ss.map Value.string).length (ss.map Value.string)
  memv : ∀ b, v.ownBlock = some b → C b = 8
section
variable {w w' : World} {C C' : Nat → Nat} {v : Value} {us : List Value} {ls : List (List UInt8)} {ss : List ByteArray}
theorem SL.nil (w : World) (C : Nat → Nat) : SL w C (.slice none 0 0) [] [] :=
  ⟨World.ownsRow_nil w 0 _ 1, rfl, fun j u l h => by simp at h, fun i j u u' b o h => by simp at h, fun b h => by simp [Value.ownBlock] at h, fun j u b o h => by simp at h⟩
theorem WS.nil (w : World) (C : Nat → Nat) : WS w C (.slice none 0 0) [] := ⟨World.ownsRow_nil w 0 _ 1, fun b h => by simp [Value.ownBlock] at h⟩
theorem SL.get (h : SL w C v us ls) {j : Nat} {u : Value} (hu : us[j]? = some u) : ∃ l, ls[j]? = some l ∧ SG w u l := by
  have hj := (List.getElem?_eq_some_iff.1 hu).1
  have hl : ls[j]? = some (ls[j]'(by rw [← h.len]; exact hj)) := List.getElem?_eq_getElem _
  exact ⟨_, hl, h.sg j u _ hu hl⟩
theorem SL.at_ (h : SL w C v us ls) {j : Nat} (hj : j < ls.length) : ∃ u l, us[j]? = some u ∧ ls[j]? = some l ∧ SG w u l := by
  have hl : j < us.length := by rw [h.len]; exact hj
  have hu : us[j]? = some us[j] := List.getElem?_eq_getElem hl
  obtain ⟨l, h1, h2⟩ := h.get hu
  exact ⟨_, l, hu, h1, h2⟩
theorem SL.lt (h : SL w C v us ls) {j b o : Nat} {u : Value} (hu : us[j]? = some u) (hb : SegIn u b o) : b < w.heap.size := by
  obtain ⟨l, _, ho⟩ := h.get hu
  exact ho.lt hb
theorem SL.step {S : Nat → Prop} (h : SL w C v us ls) (hc : Chg S w w') (hs : Sam w.heap.size C C') (hS : ∀ b, S b → C b ≠ 7 ∧ C b ≠ 9 ∧ C b ≠ 3) : SL w' C' v us ls :=
  ⟨hc.own h.own (fun k hk hs' => (hS k hs').1 (h.memv k hk)), h.len,
   fun j u l hu hl => (h.sg j u l hu hl).chg hc (fun b o hb hs' => by
     rcases h.mem j u b o hu hb with e | e
     · exact (hS b hs').2.1 e
     · exact (hS b hs').2.2 e), h.apart,
   fun b hb => (hs b (World.ownsRow.lt h.own b hb).2).trans (h.memv b hb),
   fun j u b o hu hb => by rw [hs b (h.lt hu hb)]; exact h.mem j u b o hu hb⟩
theorem WS.step {S : Nat → Prop} (h : WS w C v ss) (hc : Chg S w w') (hs : Sam w.heap.size C C') (hS : ∀ b, S b → C b ≠ 8) : WS w' C' v ss :=
  ⟨hc.own h.own (fun k hk hs' => hS k hs' (h.memv k hk)), fun b hb => (hs b (World.ownsRow.lt h.own b hb).2).trans (h.memv b hb)⟩
theorem SL.form (h : SL w C v us ls) : ∃ A cap, v = .slice A ls.length cap ∧ ls.length ≤ cap ∧ cap ≤ maxLen ∧ (0 < ls.length → ∃ g, A = some ⟨g, 0, none⟩ ∧ C g = 7 ∧ g < w.heap.size ∧ ∀ (j : Nat) (u : Value), us[j]? = some u → w.cell? ⟨g, j, none⟩ = some u) := by
  have hl := h.len
  rcases h.own.2 with ⟨e, h0⟩ | ⟨g, cap, cur, e, hb, hh, h1, h2, h3, h4⟩
  · exact ⟨none, 0, by rw [e, ← hl, h0], by omega, Nat.zero_le _, fun h => absurd h (by omega)⟩
  · refine ⟨some ⟨g, 0, none⟩, cap, by rw [e, hl], by omega, h2, fun _ => ⟨g, rfl, h.memv g (by rw [e]; rfl), (Array.getElem?_eq_some_iff.1 hh).1, fun j u hu => ?_⟩⟩
    have ho := h.own
    rw [e] at ho
    rw [World.ownsRow.cellAt ho j (by have := (List.getElem?_eq_some_iff.1 hu).1; omega)]
    exact hu
theorem WS.form (h : WS w C v ss) : ∃ A cap, v = .slice A ss.length cap ∧ ss.length ≤ cap ∧ cap ≤ maxLen ∧ (0 < ss.length → ∃ g, A = some ⟨g, 0, none⟩ ∧ g < w.heap.size ∧ ∀ (j : Nat) (s : ByteArray), ss[j]? = some s → w.cell? ⟨g, j, none⟩ = some (.string s)) := by
  have hl : (ss.map Value.string).length = ss.length := List.length_map _
  rcases h.own.2 with ⟨e, h0⟩ | ⟨g, cap, cur, e, hb, hh, h1, h2, h3, h4⟩
  · exact ⟨none, 0, by rw [e, ← hl, h0], by omega, Nat.zero_le _, fun h => absurd h (by omega)⟩
  · refine ⟨some ⟨g, 0, none⟩, cap, by rw [e, hl], by omega, h2, fun _ => ⟨g, rfl, (Array.getElem?_eq_some_iff.1 hh).1, fun j u hu => ?_⟩⟩
    have ho := h.own
    rw [e] at ho
    rw [World.ownsRow.cellAt ho j (by have := (List.getElem?_eq_some_iff.1 hu).1; omega), List.getElem?_map, hu]
    rfl
theorem get_snoc {α : Type} {l : List α} {a u : α} {j : Nat} (h : (l ++ [a])[j]? = some u) : (l[j]? = some u ∧ j < l.length) ∨ (j = l.length ∧ u = a) := by
  rw [List.getElem?_append] at h
  split at h
  · rename_i hj; exact .inl ⟨h, hj⟩
  · rename_i hj
    right
    have hlt := (List.getElem?_eq_some_iff.1 h).1
    simp only [List.length_cons, List.length_nil] at hlt
    have h0 : j = l.length := by omega
    subst h0
    rw [Nat.sub_self] at h
    exact ⟨rfl, (Option.some.inj h).symm⟩
theorem SL.more (h : SL w C v us ls) {u0 v' : Value} {l0 : List UInt8} (o0 : SG w u0 l0) (hc0 : ∀ b o, SegIn u0 b o → (C b = 9 ∨ C b = 3) ∧ ∀ (j : Nat) (u : Value), us[j]? = some u → ¬ SegIn u b o)
    (hown : w'.ownsRow 0 22 1 v' (us ++ [u0]).length (us ++ [u0])) (hg : w.grownBy w' v.ownBlock) (ha : v'.ownBlock = v.ownBlock ∨ v'.ownBlock = some w.heap.size) :
    SL w' (paint C w.heap.size 7) v' (us ++ [u0]) (ls ++ [l0]) := by
  have hch : Chg (fun k => v.ownBlock = some k) w w' := (Chg.refl _ w).grown hg (fun k e _ => e)
  have hsame : ∀ b, b < w.heap.size → paint C w.heap.size 7 b = C b := sam_paint C _ 7
  have hne : ∀ (u : Value), (∀ b o, SegIn u b o → C b = 9 ∨ C b = 3) → ∀ b o, SegIn u b o → ¬ v.ownBlock = some b := fun u hu b o hs e => by
    have h7 := h.memv b e
    rcases hu b o hs with h1 | h1 <;> omega
  refine ⟨hown, by simp [h.len], fun j u l hu hl => ?_, fun i j u u' b o hu hu' hb hb' => ?_, fun b hb => ?_, fun j u b o hu hb => ?_⟩
  · rcases get_snoc hu with ⟨g1, hj⟩ | ⟨e1, e2⟩
    · rw [List.getElem?_append_left (by rw [← h.len]; exact hj)] at hl
      exact (h.sg j u l g1 hl).chg hch (hne u (fun b o hs => h.mem j u b o g1 hs))
    · rw [e1, h.len, List.getElem?_append_right (Nat.le_refl _), Nat.sub_self] at hl
      obtain rfl := Option.some.inj hl
      rw [e2]
      exact o0.chg hch (hne u0 (fun b o hs => (hc0 b o hs).1))
  · rcases get_snoc hu with ⟨g1, hj⟩ | ⟨e1, e2⟩ <;> rcases get_snoc hu' with ⟨g2, hj'⟩ | ⟨e3, e4⟩
    · exact h.apart i j u u' b o g1 g2 hb hb'
    · rw [e4] at hb'; exact absurd hb ((hc0 b o hb').2 i u g1)
    · rw [e2] at hb; exact absurd hb' ((hc0 b o hb).2 j u' g2)
    · rw [e1, e3]
  · rcases ha with h1 | h1
    · rw [h1] at hb
      rw [hsame b (World.ownsRow.lt h.own b hb).2]
      exact h.memv b hb
    · rw [h1] at hb
      obtain rfl := Option.some.inj hb
      exact paint_new C 7 (Nat.le_refl _)
  · rcases get_snoc hu with ⟨g1, hj⟩ | ⟨e1, e2⟩
    · rw [hsame b (h.lt g1 hb)]; exact h.mem j u b o g1 hb
    · rw [e2] at hb
      rw [hsame b (o0.lt hb)]; exact (hc0 b o hb).1
theorem WS.more (h : WS w C v ss) {v' : Value} {s : ByteArray} (hown : w'.ownsRow 0 9 1 v' ((ss ++ [s]).map Value.string).length ((ss ++ [s]).map Value.string)) (ha : v'.ownBlock = v.ownBlock ∨ v'.ownBlock = some w.heap.size) :
    WS w' (paint C w.heap.size 8) v' (ss ++ [s]) :=
  ⟨hown, fun b hb => by
    rcases ha with h1 | h1
    · rw [h1] at hb
      rw [sam_paint C _ 8 b (World.ownsRow.lt h.own b hb).2]
      exact h.memv b hb
    · rw [h1] at hb
      obtain rfl := Option.some.inj hb
      exact paint_new C 8 (Nat.le_refl _)⟩
end
theorem infoB : (Try.prog.info? 22).map (fun i => (i.zero, i.size, i.bytes)) = some (some (.slice none 0 0), 1, 24) := by kernel_rfl
theorem infoS : (Try.prog.info? 9).map (fun i => (i.zero, i.size, i.bytes)) = some (some (.string ByteArray.empty), 1, 16) := by kernel_rfl
/-- one value more, as one step of a region that draws its order -/
theorem step_append_one {w : World} {ops : Array Oper} {o : Oper} {a : Act} {K : Act → World → Prop} {Q : Exit → Act → World → Prop} {E : Prop} (hgd : o.guard = none) (s x : Operand) (t e : TypeId) {z : Value} {by_ : Nat}
    (ho : o.op = .call { callee := .builtin .append, args := #[s, x], argTypes := #[t, t] }) (ht : Try.prog.underlying t = some (.slice e)) (hinfo : (Try.prog.info? e).map (fun i => (i.zero, i.size, i.bytes)) = some (some z, 1, by_)) (hz : z.cells.size = 1)
    (base : Nat) (v : Value) (xs : List Value) (hs : a.eval s = v) (hown : w.ownsRow base e 1 v xs.length xs) (g c : Nat) (u : Value) (hx : a.eval x = .slice (some ⟨g, 0, none⟩) 1 c) (hc : w.cell? ⟨g, 0, none⟩ = some u) (h1 : u.oneCell' = true)
    (hlen : (xs.length + 1) * by_ ≤ 140737488355328) (hmax : xs.length + 1 ≤ maxLen) (hbase : base ≤ w.heap.size)
    (h : ∀ v' w', w'.ownsRow base e 1 v' (xs ++ [u]).length (xs ++ [u]) → w.grownBy w' v.ownBlock → (v'.ownBlock = v.ownBlock ∨ v'.ownBlock = some w.heap.size) → K (a.put o.dst v') w') :
    if Region.wanted o (yielded ops a.tmps) = true then Oper.wp Try.prog o a w K Q else E := by
  have hw : Region.wanted o (yielded ops a.tmps) = true := by simp [Region.wanted, hgd]
  rw [if_pos hw]
  obtain ⟨i0, hi, hz0, hz1, hz2⟩ := info_parts hinfo
  obtain ⟨v', w', hrun, h2, h3, _, h4⟩ := run_append_own_at (P := Try.prog) w base t o.type e i0 z 1 by_ ht hi hz0 hz1 hz2 hz (by omega) v xs.length xs hown ⟨g, 0, none⟩ 1 c [u] rfl (fun j y hj => by
    match j, hj with
    | 0, hj => obtain rfl := Option.some.inj hj; simpa [Addr.add] using hc
    | j + 1, hj => simp at hj) (fun y hy => by simp at hy; subst hy; exact h1) hmax hlen hbase
  unfold Oper.wp execOp
  simp only [ho, resolve, invoke, builtin, Sem.run_bind, Sem.run_pure, Result.andThen_ok, List.map_toArray, List.map_cons, List.map_nil, hs, hx, hrun]
  exact h v' w' (by simpa using h2) h3 h4
end Go.Proofs.Ytngaohmfedoeeaa
