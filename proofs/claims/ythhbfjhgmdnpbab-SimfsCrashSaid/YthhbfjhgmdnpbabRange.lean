/- 'for k := range m' over a map of the call's own: which keys have come. -/
import Derived.Test.YthhbfjhgmdnpbabMapF
namespace Go.Proofs.Ythhbfjhgmdnpbab
open Go.RowKit Go.Maps Go.WideShapes
/-- the keys in L have come, each once -/
def RM {κ ε : Type} (P : Program) (k : TypeId) (kl : κ → Lit) (ed : ε → DataW Unit) (R : Value → Option (DataW Unit × List MemPlace)) (w : World) (b r n : Nat) (m : κ → Option ε) (L : List κ) : Prop :=
  ∃ (D : DataW Unit) (left : Lit → Bool) (cnt : Nat), w.ranges P k R b r n D left cnt ∧ (∀ x, Maps.has D (kl x) = (m x).isSome) ∧ (∀ x e, m x = some e → ∀ z, D.atKey (kl x) z = ed e) ∧ (∀ x, left (kl x) = true ↔ (m x).isSome = true ∧ x ∉ L) ∧ cnt + L.length ≤ n ∧ L.Nodup ∧ ∀ x ∈ L, (m x).isSome = true
section
variable {P : Program} {k : TypeId} {κ ε : Type} {kv : κ → Value} {kl : κ → Lit} {ev : ε → Value} {ed : ε → DataW Unit} {zv : Value} {zd : DataW Unit} {R : Value → Option (DataW Unit × List MemPlace)} {okK : κ → Prop} {okE : ε → Prop}
variable {w w' : World} {b r n : Nat} {m : κ → Option ε} {L : List κ}
theorem RM.fm (h : RM P k kl ed R w b r n m L) : FM P k kl ed R w b n m := by
  obtain ⟨D, left, cnt, h1, h2, h3, _⟩ := h
  exact ⟨D, h1.owns, h2, h3⟩
theorem RM.len (h : RM P k kl ed R w b r n m L) : L.length ≤ n := by
  obtain ⟨D, left, cnt, h1, h2, h3, h4, h5, _⟩ := h
  omega
theorem RM.nodup (h : RM P k kl ed R w b r n m L) : L.Nodup := by
  obtain ⟨D, left, cnt, h1, h2, h3, h4, h5, h6, h7⟩ := h
  exact h6
theorem RM.mem (h : RM P k kl ed R w b r n m L) {x : κ} (hx : x ∈ L) : (m x).isSome = true := by
  obtain ⟨D, left, cnt, h1, h2, h3, h4, h5, h6, h7⟩ := h
  exact h7 x hx
theorem RM.lt (h : RM P k kl ed R w b r n m L) : r < w.heap.size := by
  obtain ⟨D, left, cnt, h1, _⟩ := h
  exact h1.lt
theorem RM.grown {row : Option Nat} (h : RM P k kl ed R w b r n m L) (hg : w.grownBy w' row) (hb : some b ≠ row) (hr : some r ≠ row) : RM P k kl ed R w' b r n m L := by
  obtain ⟨D, left, cnt, h1, h2⟩ := h
  exact ⟨D, left, cnt, h1.kept hg hb hr, h2⟩
theorem RM.alloc (h : RM P k kl ed R w b r n m L) (o : Obj) : RM P k kl ed R (w.alloc o) b r n m L := h.grown (World.grownBy_alloc w o none) (by simp) (by simp)
theorem RM.keep (h : RM P k kl ed R w b r n m L) (hb : Below w.heap.size w w') : RM P k kl ed R w' b r n m L :=
  h.grown (row := none) ⟨hb.os, hb.tape, hb.output, hb.size, fun k hk _ => hb.block k hk⟩ (by simp) (by simp)
theorem RM.ne_own {base size nn : Nat} {t : TypeId} {v : Value} {xs : List Value} (h : RM P k kl ed R w b r n m L) (ho : w.ownsRow base t size v nn xs) : some r ≠ v.ownBlock ∧ some b ≠ v.ownBlock := by
  obtain ⟨D, left, cnt, h1, _⟩ := h
  obtain ⟨es, clock, since, seen, c0, hb, _, _, _, hr, _⟩ := h1
  rcases ho.2 with ⟨rfl, _⟩ | ⟨g, cap, cur, rfl, _, hh, _⟩
  · simp [Value.ownBlock]
  · refine ⟨fun e => ?_, fun e => ?_⟩
    · have : r = g := by simpa [Value.ownBlock] using e
      rw [this, hh] at hr; cases hr
    · have : b = g := by simpa [Value.ownBlock] using e
      rw [this, hh] at hb; cases hb
/-- how many are to come -/
theorem RM.left_le (h : RM P k kl ed R w b r n m L) : w.rangeLeft b r + L.length ≤ n := by
  obtain ⟨D, left, cnt, h1, h2, h3, h4, h5, _⟩ := h
  rw [h1.left_eq]; exact h5
/-- 'range m' at the operation -/
theorem range_fm {ops : Array Oper} {rest : List Oper} {o : Oper} {a : Act} {Q : Exit → Act → World → Prop} (hg : o.guard = none) (mo : Operand) (t : TypeId) (hop : o.op = Op.range t mo) (e : TypeId) (K : Keyed P k) (ht : P.underlying t = some (.map k e))
    (hm : a.eval mo = .map (some b)) (h : FM P k kl ed R w b n m)
    (hK : ∀ w', RM P k kl ed R w' b w.heap.size n m [] → Below w.heap.size w w' → wpList P ops Q rest (a.put o.dst (.pointer (some ⟨w.heap.size, 0, none⟩))) w') : wpList P ops Q (o :: rest) a w := by
  obtain ⟨D, h1, h2, h3⟩ := h
  refine wpList_range_own w hg mo t hop k e K ht R b n D hm h1 fun w' hr hgr hs => hK w' ⟨D, _, _, hr, h2, h3, fun x => ?_, by simpa using h1.size_le, List.nodup_nil, by simp⟩ ((Below.refl _ w).grown hgr (Nat.le_refl _) (by simp))
  rw [h2]; simp
/-- the step at the operation -/
theorem next_fm {ops : Array Oper} {rest : List Oper} {o : Oper} {a : Act} {Q : Exit → Act → World → Prop} (hg : o.guard = none) (it : Operand) (hop : o.op = Op.next it false) (K : Keyed P k) (M : MR P k kv kl ev ed zv zd R okK okE)
    (inv : ∀ key q, keyOf P k key = some q → ∃ x, key = kv x ∧ q = kl x) (hit : a.eval it = .pointer (some ⟨r, 0, none⟩)) (h : RM P k kl ed R w b r n m L)
    (hDone : (∀ x, (m x).isSome = true → x ∈ L) → wpList P ops Q rest (a.put o.dst (.tuple #[.bool false])) w)
    (hMore : ∀ (x : κ) (e : ε) (w' : World), m x = some e → x ∉ L → RM P k kl ed R w' b r n m (L ++ [x]) → w.grownBy w' (some r) → w'.heap.size = w.heap.size → (Instr.entry (.pointer (some ⟨r, 0, none⟩))).run P w' = .ok (.tuple #[kv x, ev e]) w' → wpList P ops Q rest (a.put o.dst (.tuple #[.bool true, kv x, ev e])) w') :
    wpList P ops Q (o :: rest) a w := by
  obtain ⟨D, left, cnt, h1, h2, h3, h4, h5, h6, h7⟩ := h
  refine wpList_next_ranges w hg it hop k K R (fun v : Value => v) (fun v : Value => v) (fun key _ _ => ⟨key, rfl⟩) (fun v _ _ => ⟨v, rfl⟩) b r n D left cnt hit h1 (fun _ hl => hDone fun x hx => ?_) ?_
  · by_cases hn : x ∈ L
    · exact hn
    · exact absurd ((h4 x).2 ⟨hx, hn⟩) (by rw [hl]; simp)
  · intro key v q y w1 cnt1 hkey hlq hv hat hrg hlt hgr hsz hen
    obtain ⟨x, rfl, rfl⟩ := inv key q hkey
    obtain ⟨hs, hn⟩ := (h4 x).1 hlq
    obtain ⟨e, he⟩ := Option.isSome_iff_exists.1 hs
    have hy : R v = some (D.atKey (kl x) zd, y.2) := by rw [hv, hat zd]
    have hve : v = ev e := by
      have := FM.at_ M h2 h3 x hy
      rw [he] at this; exact this
    subst hve
    refine hMore x e w1 he hn ⟨D, _, cnt1, hrg, h2, h3, fun z => ?_, by simp; omega, ?_, fun z hz => ?_⟩ hgr hsz hen
    · have hsk : (kl z).sameKey (kl x) = true ↔ z = x := ⟨fun e1 => M.inj _ _ (WideAt.sameKey_eq e1), fun e1 => by
        rw [e1]
        have hK := K.key hkey
        exact WideAt.sameKey_self hK⟩
      by_cases e1 : z = x
      · subst e1
        have : (kl z).sameKey (kl z) = true := hsk.2 rfl
        simp [this]
      · have : (kl z).sameKey (kl x) = false := by
          cases hc : (kl z).sameKey (kl x) with
          | false => rfl
          | true => exact absurd (hsk.1 hc) e1
        have := this
        simp only [this, Bool.not_false, Bool.and_true, h4, List.mem_append, List.mem_singleton, e1, or_false]
    · rw [List.nodup_append]
      exact ⟨h6, by simp, fun z hz z' hz' => by simp at hz'; intro e1; exact hn (by rw [← hz', ← e1]; exact hz)⟩
    · rcases List.mem_append.1 hz with h | h
      · exact h7 z h
      · simp at h; rw [h]; exact hs
end
end Go.Proofs.Ythhbfjhgmdnpbab
