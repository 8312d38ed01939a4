/- Lists of slices of bytes, each of a colour of its own, and what is made of them by appending. -/
import Derived.Test.YthhbfjhgmdnpbaaSeg
import Derived.Test.YthhbfjhgmdnpbaaDiskC
namespace Go.Proofs.Ythhbfjhgmdnpbaa
open Go.RowKit
/-- a list of slices: its row bears colour r, the blocks of its i-th slice colour 10 + i -/
structure LS (W : World) (N : Nat) (C : Nat → Nat) (r : Nat) (vL : Value) (us : List Value) (ls : List (List UInt8)) : Prop where
  own : W.ownsRow N 29 1 vL us.length us
  col : ∀ k, vL.ownBlock = some k → C k = r
  len : us.length = ls.length
  el : ∀ (i : Nat) (u : Value) (l : List UInt8), us[i]? = some u → ls[i]? = some l → SG W u l ∧ ∀ b o, SegIn u b o → N ≤ b ∧ C b = 10 + i
section
variable {W w' : World} {N r : Nat} {C C' : Nat → Nat} {vL : Value} {us : List Value} {ls : List (List UInt8)}
theorem LS.step (h : LS W N C r vL us ls) {S : Nat → Prop} (hc : Chg S W w') (hs : Sam W.heap.size C C') (hS : ∀ b, S b → C b ≠ r ∧ C b < 10) : LS w' N C' r vL us ls :=
  ⟨hc.own h.own (fun k hk e => (hS k e).1 (h.col k hk)), fun k hk => by rw [hs k (h.own.lt k hk).2]; exact h.col k hk, h.len, fun i u l hu hl => by
    obtain ⟨h1, h2⟩ := h.el i u l hu hl
    exact ⟨h1.chg hc (fun b o hb e => by have := (hS b e).2; have := (h2 b o hb).2; omega), fun b o hb => ⟨(h2 b o hb).1, by rw [hs b (h1.lt hb)]; exact (h2 b o hb).2⟩⟩⟩
theorem LS.keep (h : LS W N C r vL us ls) (hb : Below W.heap.size W w') (hs : Sam W.heap.size C C') : LS w' N C' r vL us ls := h.step (Chg.of_below hb (fun _ => False)) hs (fun _ h => h.elim)
theorem LS.nil (W : World) (N : Nat) (C : Nat → Nat) (r : Nat) : LS W N C r (.slice none 0 0) [] [] := ⟨World.ownsRow_nil W N _ 1, fun k hk => (by cases hk), rfl, fun i u l hu => (by simp at hu)⟩
theorem get_snoc {α : Type} {l : List α} {a u : α} {j : Nat} (h : (l ++ [a])[j]? = some u) : (l[j]? = some u ∧ j < l.length) ∨ (j = l.length ∧ u = a) := by
  by_cases hj : j < l.length
  · rw [List.getElem?_append_left hj] at h; exact .inl ⟨h, hj⟩
  · rw [List.getElem?_append_right (by omega)] at h
    have h0 : j - l.length = 0 := by
      have := (List.getElem?_eq_some_iff.1 h).1
      simp at this; omega
    rw [h0] at h
    simp at h
    exact .inr ⟨by omega, h.symm⟩
theorem LS.snoc (h : LS W N C r vL us ls) (hr : r < 10) {u : Value} {l : List UInt8} (hu : SG W u l) (hc : ∀ b o, SegIn u b o → N ≤ b ∧ C b = 10 + us.length) {v' : Value} (ho : w'.ownsRow N 29 1 v' (us ++ [u]).length (us ++ [u])) (hg : W.grownBy w' vL.ownBlock) (ha : v'.ownBlock = vL.ownBlock ∨ v'.ownBlock = some W.heap.size) :
    LS w' N (paint C W.heap.size r) r v' (us ++ [u]) (ls ++ [l]) := by
  have hchg : Chg (fun k => vL.ownBlock = some k) W w' := (Chg.refl _ W).grown hg (fun k hk _ => hk)
  have hne : ∀ (i : Nat) (b : Nat), C b = 10 + i → ¬ vL.ownBlock = some b := fun i b hb e => by have := h.col b e; omega
  refine ⟨ho, fun k hk => ?_, by simp [h.len], fun i x y hx hy => ?_⟩
  · rcases ha with e | e
    · rw [e] at hk
      rw [paint_old C r (h.own.lt k hk).2]; exact h.col k hk
    · rw [e] at hk
      obtain rfl := Option.some.inj hk
      exact paint_new C r (Nat.le_refl _)
  · rcases get_snoc hx with ⟨h1, h1l⟩ | ⟨h1, rfl⟩ <;> rcases get_snoc hy with ⟨h2, h2l⟩ | ⟨h2, rfl⟩
    · obtain ⟨h3, h4⟩ := h.el i x y h1 h2
      exact ⟨h3.chg hchg (fun b o hb => hne i b (h4 b o hb).2), fun b o hb => ⟨(h4 b o hb).1, by rw [paint_old C r (h3.lt hb)]; exact (h4 b o hb).2⟩⟩
    · have := h.len; omega
    · have := h.len; omega
    · rw [h1]
      exact ⟨hu.chg hchg (fun b o hb => hne us.length b (hc b o hb).2), fun b o hb => ⟨(hc b o hb).1, by rw [paint_old C r (hu.lt hb)]; exact (hc b o hb).2⟩⟩
theorem LS.put (h : LS W N C r vL us ls) (hr : r < 10) {i b off n c k : Nat} {l : List UInt8} (hu : us[i]? = some (.slice (some ⟨b, off, none⟩) n c)) (hl : ls[i]? = some l) (hk : k < c) (x : UInt8) : LS (W.setCell ⟨b, off + k, none⟩ (byteV x)) N C r vL us (ls.set i (l.set k x)) ∧ N ≤ b ∧ C b = 10 + i := by
  obtain ⟨h1, h2⟩ := h.el i _ l hu hl
  have hb := h2 b (off + k) ⟨off, n, c, rfl, by omega, by omega⟩
  have hc : Chg (fun q => q = b) W (W.setCell ⟨b, off + k, none⟩ (byteV x)) := Chg.setCell (S := fun q => q = b) (p := ⟨b, off + k, none⟩) (Chg.refl _ W) (.inl rfl) _
  refine ⟨⟨hc.own h.own (fun q hq e => by have := h.col q hq; rw [e] at this; omega), h.col, by rw [List.length_set]; exact h.len, fun j u y hj hy => ?_⟩, hb⟩
  by_cases e : j = i
  · subst e
    rw [hu] at hj
    obtain rfl := Option.some.inj hj
    rw [List.getElem?_set_self (by have := (List.getElem?_eq_some_iff.1 hl).1; exact this)] at hy
    obtain rfl := Option.some.inj hy
    exact ⟨h1.put k x, h2⟩
  · rw [List.getElem?_set_ne (fun h => e h.symm)] at hy
    obtain ⟨h3, h4⟩ := h.el j u y hj hy
    exact ⟨h3.chg hc (fun b' o hb' e2 => by have := (h4 b' o hb').2; rw [e2] at this; omega), h4⟩
/-- a block of colour 10 + i turns behind the bytes of the i-th -/
theorem LS.room (h : LS W N C r vL us ls) (hr : r < 10) {i b : Nat} (hb : C b = 10 + i) {p : Addr} (hp : p.block = b) (x : Value) (hi : ∀ u l, us[i]? = some u → ls[i]? = some l → SG (W.setCell p x) u l) : LS (W.setCell p x) N C r vL us ls := by
  have hc : Chg (fun q => q = b) W (W.setCell p x) := Chg.setCell (S := fun q => q = b) (p := p) (Chg.refl _ W) (.inl hp) _
  refine ⟨hc.own h.own (fun q hq e => by have := h.col q hq; rw [e] at this; omega), h.col, h.len, fun j u y hj hy => ?_⟩
  obtain ⟨h3, h4⟩ := h.el j u y hj hy
  by_cases e : j = i
  · subst e; exact ⟨hi u y hj hy, h4⟩
  · exact ⟨h3.chg hc (fun b' o hb' e2 => by have := (h4 b' o hb').2; rw [e2] at this; omega), h4⟩
theorem LS.at_ {g n cp : Nat} (h : LS W N C r (.slice (some ⟨g, 0, none⟩) n cp) us ls) {j : Nat} {u : Value} (hu : us[j]? = some u) : W.cell? ⟨g, j, none⟩ = some u := by
  have hn : n = us.length := by
    obtain ⟨A, cap, e, _⟩ := own_form h.own
    injection e
  subst hn
  rw [World.ownsRow.cellAt h.own j (by have := (List.getElem?_eq_some_iff.1 hu).1; omega)]
  exact hu
end
def mkC (i : Nat) : UInt8 := UInt8.ofNat (200 + i)
/-- the bytes ahead of (j, k) are their lists' marks -/
def mks (ls : List (List UInt8)) (j k : Nat) : Prop := ∀ (a b : Nat) (l : List UInt8) (x : UInt8), ls[a]? = some l → l[b]? = some x → (a < j ∨ (a = j ∧ b < k)) → x = mkC a
theorem mks.zero (ls : List (List UInt8)) : mks ls 0 0 := fun a b l x _ _ h => by omega
theorem mks.next {ls : List (List UInt8)} {j n : Nat} {l : List UInt8} (h : mks ls j n) (hl : ls[j]? = some l) (hn : l.length = n) : mks ls (j + 1) 0 := fun a b l' x ha hb hc => by
  rcases hc with hc | hc
  · by_cases e : a = j
    · subst e
      rw [hl] at ha
      obtain rfl := Option.some.inj ha
      exact h a b _ x hl hb (.inr ⟨rfl, by have := (List.getElem?_eq_some_iff.1 hb).1; omega⟩)
    · exact h a b l' x ha hb (.inl (by omega))
  · omega
theorem mks.set {ls : List (List UInt8)} {j k : Nat} {l : List UInt8} (h : mks ls j k) (hl : ls[j]? = some l) : mks (ls.set j (l.set k (mkC j))) j (k + 1) := fun a b l' x ha hb hc => by
  have hjl := (List.getElem?_eq_some_iff.1 hl).1
  by_cases e : a = j
  · subst e
    rw [List.getElem?_set_self hjl] at ha
    obtain rfl := Option.some.inj ha
    by_cases e2 : b = k
    · subst e2
      have := (List.getElem?_eq_some_iff.1 hb).1
      rw [List.length_set] at this
      rw [List.getElem?_set_self this] at hb
      exact (Option.some.inj hb).symm
    · rw [List.getElem?_set_ne (fun h => e2 h.symm)] at hb
      exact h a b l x hl hb (by omega)
  · rw [List.getElem?_set_ne (fun h => e h.symm)] at ha
    exact h a b l' x ha hb (by omega)
theorem mks.rep {ls : List (List UInt8)} {n j : Nat} {l : List UInt8} (h : mks ls n 0) (hj : j < n) (hl : ls[j]? = some l) : l = List.replicate l.length (mkC j) :=
  List.eq_replicate_iff.2 ⟨rfl, fun x hx => by
    obtain ⟨b, hb⟩ := List.getElem?_of_mem hx
    exact h j b l x hl hb (.inl hj)⟩
end Go.Proofs.Ythhbfjhgmdnpbaa
