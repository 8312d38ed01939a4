/- THE WALK of the book's whole: bytes looked at, written over, lengthened. -/
import Derived.Test.YtngaohmfedoeeaaSegTake
namespace Go.Proofs.Ytngaohmfedoeeaa
open Go.RowKit
def mkB (i : Nat) : UInt8 := UInt8.ofNat (i + 1)
theorem mkB_int (i : Nat) : ((i : Int) + 1) % 256 = ((mkB i).toNat : Int) := by
  unfold mkB
  rw [UInt8.toNat_ofNat']
  have : (((i + 1) % 2 ^ 8 : Nat) : Int) = ((i : Int) + 1) % 256 := by simp
  exact this.symm
theorem get_set {α : Type} {l : List α} {i j : Nat} {a u : α} (h : (l.set i a)[j]? = some u) : (j = i ∧ u = a) ∨ (j ≠ i ∧ l[j]? = some u) := by
  rw [List.getElem?_set] at h
  split at h
  · rename_i e
    split at h
    · exact .inl ⟨e.symm, (Option.some.inj h).symm⟩
    · cases h
  · rename_i e
    exact .inr ⟨fun h => e h.symm, h⟩
def mk (ls : List (List UInt8)) (j k : Nat) : Prop := ∀ (a b : Nat) (l : List UInt8) (x : UInt8), ls[a]? = some l → l[b]? = some x → (a < j ∨ (a = j ∧ b < k)) → x = mkB a
theorem mk_zero (ls : List (List UInt8)) : mk ls 0 0 := fun a b l x _ _ h => by omega
theorem mk_next {ls : List (List UInt8)} {j n : Nat} {l : List UInt8} (h : mk ls j n) (hl : ls[j]? = some l) (hn : l.length = n) : mk ls (j + 1) 0 := fun a b l' x ha hb hc => by
  refine h a b l' x ha hb ?_
  by_cases haj : a = j
  · subst haj
    rw [hl] at ha
    obtain rfl := Option.some.inj ha
    have := (List.getElem?_eq_some_iff.1 hb).1
    omega
  · omega
theorem mk_set {ls : List (List UInt8)} {j k : Nat} {l : List UInt8} (h : mk ls j k) (hl : ls[j]? = some l) : mk (ls.set j (l.set k (mkB j))) j (k + 1) := fun a b l' x ha hb hc => by
  rcases get_set ha with ⟨rfl, rfl⟩ | ⟨hne, ha⟩
  · rcases get_set hb with ⟨rfl, rfl⟩ | ⟨hne, hb⟩
    · rfl
    · exact h a b l x hl hb (by omega)
  · exact h a b l' x ha hb (by omega)
theorem mk_rep {ls : List (List UInt8)} {n j : Nat} {l : List UInt8} (h : mk ls n 0) (hj : j < n) (hl : ls[j]? = some l) : l = List.replicate l.length (mkB j) :=
  List.eq_replicate_iff.2 ⟨rfl, fun x hx => by
    obtain ⟨b, hb⟩ := List.mem_iff_getElem?.1 hx
    exact h j b l x hl hb (by omega)⟩
theorem small_set {ls : List (List UInt8)} {j n : Nat} {l : List UInt8} (h : ∀ l ∈ ls, l.length ≤ n) (hl : l.length ≤ n) : ∀ l' ∈ ls.set j l, l'.length ≤ n := fun l' h' => by
  rcases List.mem_or_eq_of_mem_set h' with h1 | rfl
  · exact h l' h1
  · exact hl
/-- the book, behind changes of its segments alone -/
structure SH (w0 W : World) (C : Nat → Nat) (kb : Nat) (vR vW : Value) (us : List Value) (ls : List (List UInt8)) (N B : Nat) : Prop where
  sl : SL W C vR us ls
  len : ls.length = N
  sm : ∀ l ∈ ls, l.length ≤ B
  c : Chg (fun b => C b = 9 ∨ C b = 3) w0 W
  k : Blk W kb 33 #[vR, vW]
  ck : C kb = 6
theorem SH.outer {w0 W : World} {C : Nat → Nat} {kb N B cap : Nat} {AR : Option Addr} {vW : Value} {us : List Value} {ls : List (List UInt8)} (h : SH w0 W C kb (.slice AR N cap) vW us ls N B) {j : Nat} (hj : j < N) :
    ∃ gv u l, AR = some ⟨gv, 0, none⟩ ∧ C gv = 7 ∧ us[j]? = some u ∧ ls[j]? = some l ∧ SG W u l ∧ W.cell? ⟨gv, j, none⟩ = some u ∧ N ≤ cap := by
  obtain ⟨A, cap', e, hc, _, hg⟩ := h.sl.form
  injection e with e1 _ e2
  have hl := h.len
  obtain ⟨gv, rfl, h1, h2, h3⟩ := hg (by omega)
  obtain ⟨u, l, hu, hul, ho⟩ := h.sl.at_ (j := j) (by omega)
  exact ⟨gv, u, l, e1, h1, hu, hul, ho, h3 j u hu, by rw [e2]; omega⟩
/-- a byte of a segment is written -/
theorem SH.put {w0 W : World} {C : Nat → Nat} {kb N B b off n c j k : Nat} {vR vW : Value} {us : List Value} {ls : List (List UInt8)} {l : List UInt8} (h : SH w0 W C kb vR vW us ls N B) (x : UInt8)
    (hu : us[j]? = some (.slice (some ⟨b, off, none⟩) n c)) (hl : ls[j]? = some l) (hk : k < n) (hnc : n ≤ c) : SH w0 (W.setCell ⟨b, off + k, none⟩ (byteV x)) C kb vR vW us (ls.set j (l.set k x)) N B := by
  have hin : SegIn (.slice (some ⟨b, off, none⟩) n c) b (off + k) := ⟨off, n, c, rfl, by omega, by omega⟩
  have hcol := h.sl.mem j _ b _ hu hin
  have hch : Chg (fun y => y = b) W (W.setCell ⟨b, off + k, none⟩ (byteV x)) := Chg.setCell (S := fun y => y = b) (p := ⟨b, off + k, none⟩) (Chg.refl _ W) (.inl rfl) _
  refine ⟨⟨hch.own h.sl.own (fun y hy e => ?_), by rw [List.length_set]; exact h.sl.len, fun i u l' hi hi' => ?_, h.sl.apart, h.sl.memv, h.sl.mem⟩, by rw [List.length_set]; exact h.len, small_set h.sm (by rw [List.length_set]; exact h.sm l (List.mem_of_getElem? hl)), h.c.trans hch (fun y _ e => by rw [e]; exact hcol), h.k.chg hch (fun e => ?_), h.ck⟩
  · have := h.sl.memv y hy
    rw [e] at this; omega
  · rcases get_set hi' with ⟨rfl, rfl⟩ | ⟨hne, hi'⟩
    · rw [hu] at hi
      obtain rfl := Option.some.inj hi
      exact (h.sl.sg i _ l hu hl).put k x
    · exact (h.sl.sg i u l' hi hi').far (fun hs => hne (h.sl.apart i j u _ b _ hi hu hs hin)) _
  · have := h.ck
    rw [e] at this; omega
theorem SH.keep {w0 W W' : World} {C : Nat → Nat} {kb N B : Nat} {vR vW : Value} {us : List Value} {ls : List (List UInt8)} (h : SH w0 W C kb vR vW us ls N B) (hb : Below W.heap.size W W') : SH w0 W' C kb vR vW us ls N B :=
  ⟨h.sl.step (Chg.of_below hb (fun _ => False)) (Sam.refl _ _) (fun _ h => h.elim), h.len, h.sm, h.c.trans (Chg.of_below hb (fun _ => False)) (fun _ _ h => h.elim), h.k.keep hb, h.ck⟩
/-- the byte behind a segment's last, where there is room -/
theorem SH.push {w0 W : World} {C : Nat → Nat} {kb N B b off n c j : Nat} {vR vW : Value} {us : List Value} {ls : List (List UInt8)} {l : List UInt8} (h : SH w0 W C kb vR vW us ls N B) (x : UInt8)
    (hu : us[j]? = some (.slice (some ⟨b, off, none⟩) n c)) (hl : ls[j]? = some l) (hnc : n < c) : SH w0 (W.setCell ⟨b, off + n, none⟩ (byteV x)) C kb vR vW us ls N B ∧ SG (W.setCell ⟨b, off + n, none⟩ (byteV x)) (.slice (some ⟨b, off, none⟩) (n + 1) c) (l ++ [x]) := by
  have hin : SegIn (.slice (some ⟨b, off, none⟩) n c) b (off + n) := ⟨off, n, c, rfl, by omega, by omega⟩
  have hcol := h.sl.mem j _ b _ hu hin
  have hch : Chg (fun y => y = b) W (W.setCell ⟨b, off + n, none⟩ (byteV x)) := Chg.setCell (S := fun y => y = b) (p := ⟨b, off + n, none⟩) (Chg.refl _ W) (.inl rfl) _
  obtain ⟨p1, p2⟩ := (h.sl.sg j _ l hu hl).push hnc x
  refine ⟨⟨⟨hch.own h.sl.own (fun y hy e => ?_), h.sl.len, fun i u l' hi hi' => ?_, h.sl.apart, h.sl.memv, h.sl.mem⟩, h.len, h.sm, h.c.trans hch (fun y _ e => by rw [e]; exact hcol), h.k.chg hch (fun e => ?_), h.ck⟩, p1⟩
  · have := h.sl.memv y hy
    rw [e] at this; omega
  · by_cases hij : i = j
    · subst hij
      rw [hu] at hi
      obtain rfl := Option.some.inj hi
      rw [hl] at hi'
      obtain rfl := Option.some.inj hi'
      exact p2
    · exact (h.sl.sg i u l' hi hi').far (fun hs => hij (h.sl.apart i j u _ b _ hi hu hs hin)) _
  · have := h.ck
    rw [e] at this; omega
/-- no segment lies in a row of slices -/
theorem SG.row {w : World} {u v : Value} {l : List UInt8} {base n : Nat} {xs : List Value} (h : SG w u l) (hv : w.ownsRow base 22 1 v n xs) {b o : Nat} (hs : SegIn u b o) : v.ownBlock ≠ some b := by
  obtain ⟨A, n', c, rfl, _, _, _, h⟩ := h
  obtain ⟨off, n'', c', e, h1, h2⟩ := hs
  injection e with e1 _ e3
  rcases h with h | ⟨b', off', cur, e', hb, _⟩
  · omega
  · rw [e1] at e'
    obtain ⟨rfl, rfl⟩ : b = b' ∧ off = off' := by simpa using e'
    exact Blk.apart hb hv (by decide)
/-- one byte more behind a segment: in its room, or in a block of the call's own -/
theorem append_seg {w : World} {ops : Array Oper} {rest : List Oper} {o : Oper} {a : Act} {Q : Exit → Act → World → Prop} (hgd : o.guard = none) (s x : Operand)
    (ho : o.op = .call { callee := .builtin .append, args := #[s, x], argTypes := #[22, 22] })
    (u : Value) (l : List UInt8) (hs : a.eval s = u) (hu : SG w u l) (g0 c0 : Nat) (m : UInt8) (hx : a.eval x = .slice (some ⟨g0, 0, none⟩) 1 c0) (hm : w.cell? ⟨g0, 0, none⟩ = some (byteV m)) (hlen : l.length ≤ 1000000000)
    (h : ∀ u' w', ((∃ b off c, u = .slice (some ⟨b, off, none⟩) l.length c ∧ l.length < c ∧ u' = .slice (some ⟨b, off, none⟩) (l.length + 1) c ∧ w' = w.setCell ⟨b, off + l.length, none⟩ (byteV m)) ∨ (OB w' w.heap.size u' (l ++ [m]) ∧ Below w.heap.size w w')) → wpList Try.prog ops Q rest (a.put o.dst u') w') : wpList Try.prog ops Q (o :: rest) a w := by
  obtain ⟨i0, hi, hz0, hz1, hz2⟩ := info_parts info8
  have hnews : ∀ j z, [byteV m][j]? = some z → w.cell? ((⟨g0, 0, none⟩ : Addr).add j) = some z := fun j z hj => by
    match j, hj with
    | 0, hj => obtain rfl := Option.some.inj hj; simpa [Addr.add] using hm
    | j + 1, hj => simp at hj
  have hone : ∀ z ∈ [byteV m], z.oneCell' = true := fun z hz => by simp at hz; subst hz; rfl
  obtain ⟨A, n, c, rfl, hl, hnc, hcm, hu'⟩ := hu
  subst hl
  by_cases hfit : l.length + 1 ≤ c
  · rcases hu' with h0 | ⟨b, off, cur, rfl, hb, hsz, hc⟩
    · omega
    · have hrun := run_append_room_cells (P := Try.prog) w 22 o.type 5 i0 Try.underlying22 hi b off l.length c ⟨g0, 0, none⟩ 1 c0 [byteV m] (by rw [hz1]; rfl) hnews hone hfit (fun j hj => by
          have hj0 : j = 0 := by simpa using hj
          subst hj0
          rw [hz1, hb.cell, Array.getElem?_eq_getElem (by omega)]; rfl) (fun j _ => hb.frozen _)
      rw [hz1, Nat.mul_one] at hrun
      have hw' : w.setCells b (off + l.length) [byteV m] = w.setCell ⟨b, off + l.length, none⟩ (byteV m) := rfl
      rw [hw'] at hrun
      refine wpList_plain hgd fun K hK => ?_
      unfold Oper.wp execOp
      simp only [ho, resolve, invoke, builtin, Sem.run_bind, Sem.run_pure, Result.andThen_ok, List.map_toArray, List.map_cons, List.map_nil, hs, hx, hrun]
      exact hK _ _ (h _ _ (.inl ⟨b, off, c, rfl, by omega, rfl, rfl⟩))
  · have hc1 : c = l.length := by omega
    subst hc1
    refine wpList_append_grows w hgd s x 22 ho 5 i0 _ 1 1 Try.underlying22 hi hz0 hz1 hz2 rfl (by omega) A l.length l.length (l.map byteV) hs (fun e => ?_) (by simp) (fun ad e j z hz => ?_) ⟨g0, 0, none⟩ 1 c0 [byteV m] hx rfl hnews hone (by omega) (by simp only [maxLen]; omega) (by omega) ?_
    · rcases hu' with h0 | ⟨b, off, cur, e2, _⟩
      · exact ⟨h0, h0⟩
      · rw [e] at e2; cases e2
    · have hjl := (List.getElem?_eq_some_iff.1 hz).1
      rw [List.length_map] at hjl
      rcases hu' with h0 | ⟨b, off, cur, e2, hb, hsz, hc⟩
      · omega
      · rw [e] at e2
        obtain rfl := Option.some.inj e2
        have e3 : (⟨b, off, none⟩ : Addr).add j = ⟨b, off + j, none⟩ := by unfold Addr.add; split <;> simp_all
        rw [e3, hb.cell]
        rw [List.getElem?_map] at hz
        cases hq : l[j]? with
        | none => rw [hq] at hz; cases hz
        | some y =>
          rw [hq] at hz
          obtain rfl := Option.some.inj hz
          exact hc j y hq
    · intro v' w' h1 h2
      refine h _ _ (.inr ⟨?_, ⟨h2.os, h2.tape, h2.output, h2.size, fun k hk => h2.block k hk (by simp)⟩⟩)
      unfold OB
      rw [List.length_append, List.map_append]
      simpa using h1
/-- what was made of segments lengthened by their marks -/
structure MO (W : World) (h4 : Nat) (us : List Value) (ls : List (List UInt8)) (vM : Value) (ms : List Value) : Prop where
  own : W.ownsRow h4 22 1 vM ms.length ms
  el : ∀ (j : Nat) (x : Value) (l : List UInt8), ms[j]? = some x → ls[j]? = some l → SG W x (l ++ [mkB j])
  loc : ∀ (j : Nat) (x u : Value) (b o : Nat), ms[j]? = some x → us[j]? = some u → SegIn x b o → SegIn u b o ∨ h4 ≤ b
theorem MO.nil (W : World) (h4 : Nat) (us : List Value) (ls : List (List UInt8)) : MO W h4 us ls (.slice none 0 0) [] :=
  ⟨World.ownsRow_nil W h4 _ 1, fun j x l h => by simp at h, fun j x u b o h => by simp at h⟩
theorem MO.keep {W W' : World} {h4 : Nat} {us : List Value} {ls : List (List UInt8)} {vM : Value} {ms : List Value} (h : MO W h4 us ls vM ms) (hb : Below W.heap.size W W') : MO W' h4 us ls vM ms :=
  ⟨(Chg.of_below hb (fun _ => False)).own h.own (fun _ _ => id), fun j x l hx hl => (h.el j x l hx hl).keep hb, h.loc⟩
theorem MO.put {W : World} {h4 b o : Nat} {us : List Value} {ls : List (List UInt8)} {vM u : Value} {ms : List Value} {l : List UInt8} {C : Nat → Nat} {vR : Value} (h : MO W h4 us ls vM ms) (hs : SL W C vR us ls) (hu : us[ms.length]? = some u) (hul : SG W u l) (hin : SegIn u b o) (hb4 : b < h4) (x : Value) : MO (W.setCell ⟨b, o, none⟩ x) h4 us ls vM ms := by
  have hch : Chg (fun y => y = b) W (W.setCell ⟨b, o, none⟩ x) := Chg.setCell (S := fun y => y = b) (p := ⟨b, o, none⟩) (Chg.refl _ W) (.inl rfl) _
  refine ⟨hch.own h.own (fun k hk e => hul.row h.own hin (by rw [← e]; exact hk)), fun j y l hy hl => (h.el j y l hy hl).far (fun hsy => ?_) _, h.loc⟩
  have hjl := (List.getElem?_eq_some_iff.1 hy).1
  obtain ⟨uj, _, huj, _⟩ := hs.at_ (j := j) (by have := (List.getElem?_eq_some_iff.1 hl).1; exact this)
  rcases h.loc j y uj b o hy huj hsy with h1 | h1
  · have := hs.apart j ms.length uj u b o huj hu h1 hin
    omega
  · omega
theorem MO.more {W W' : World} {h4 : Nat} {us : List Value} {ls : List (List UInt8)} {vM v' x u : Value} {ms : List Value} {l : List UInt8} (h : MO W h4 us ls vM ms) (hl : ls[ms.length]? = some l) (hx : SG W x (l ++ [mkB ms.length])) (hu : us[ms.length]? = some u) (hloc : ∀ b o, SegIn x b o → SegIn u b o ∨ h4 ≤ b)
    (hown : W'.ownsRow h4 22 1 v' (ms ++ [x]).length (ms ++ [x])) (hg : W.grownBy W' vM.ownBlock) : MO W' h4 us ls v' (ms ++ [x]) := by
  have hch : Chg (fun k => vM.ownBlock = some k) W W' := (Chg.refl _ W).grown hg (fun k e _ => e)
  refine ⟨hown, fun j y l' hy hl' => ?_, fun j y u' b o hy hu' hs => ?_⟩
  · rcases get_snoc hy with ⟨g1, hj⟩ | ⟨e1, e2⟩
    · exact (h.el j y l' g1 hl').chg hch (fun b o hs => (h.el j y l' g1 hl').row h.own hs)
    · subst e1 e2
      rw [hl] at hl'
      obtain rfl := Option.some.inj hl'
      exact hx.chg hch (fun b o hs => hx.row h.own hs)
  · rcases get_snoc hy with ⟨g1, hj⟩ | ⟨e1, e2⟩
    · exact h.loc j y u' b o g1 hu' hs
    · subst e1 e2
      rw [hu] at hu'
      obtain rfl := Option.some.inj hu'
      exact hloc b o hs
set_option maxRecDepth 100000 in
set_option maxHeartbeats 4000000 in
theorem whole_any (C : Nat → Nat) (kb : Nat) (vR vW : Value) (us : List Value) (ls : List (List UInt8)) (w : World) (hb : Blk w kb 33 #[vR, vW]) (hs : SL w C vR us ls) (hw : WS w C vW (ls.map strOf)) (hck : C kb = 6)
    (hn : ls.length ≤ 1000000) (hB : ∀ l ∈ ls, l.length ≤ 1000000000) :
    Calls Try.prog 22 #[.pointer (some ⟨kb, 0, none⟩)] w fun e w' => e = .returned (.bool true) ∧ Chg (fun b => C b = 9 ∨ C b = 3) w w' := by
  obtain ⟨AR, capR, rfl, hR1, _, _⟩ := hs.form
  obtain ⟨AW, capW, rfl, hW1, _, hWc⟩ := hw.form
  rw [List.length_map] at hb hw hW1 hWc
  obtain ⟨N, hN⟩ : ∃ N, N = ls.length := ⟨_, rfl⟩
  rw [← hN] at hs hR1 hb hw hW1 hWc hn
  have H0 : Hid (SH w w C kb (.slice AR N capR) (.slice AW N capW) us ls N 1000000000) := Lib.hid ⟨hs, hN.symm, hB, Chg.refl _ _, hb, hck⟩
  have c0 : w.cell? ⟨kb, 0, none⟩ = some (.slice AR N capR) := hb.cell 0
  have c1 : w.cell? ⟨kb, 1, none⟩ = some (.slice AW N capW) := hb.cell 1
  have HW : Hid (∀ j, j < N → ∃ gw l, AW = some ⟨gw, 0, none⟩ ∧ ls[j]? = some l ∧ w.cell? ⟨gw, j, none⟩ = some (.string (strOf l))) := Lib.hid (fun j hj => by
    obtain ⟨gw, rfl, _, h3⟩ := hWc (by omega)
    have hl : ls[j]? = some (ls[j]'(by omega)) := List.getElem?_eq_getElem _
    exact ⟨gw, _, rfl, hl, h3 j _ (by rw [List.getElem?_map, hl]; rfl)⟩)
  clear hs hw hWc hb hB hN
  go_enter Try.func22, Try.ntmps22
  go_wp2_with fail
  go_loopw [3] (fun iv W => ∃ j : Nat, j ≤ N ∧ iv = .int .i64 (j : Int) ∧ ∃ k, W = w.drewN k) (fun iv _ => N - (intOf iv).toNat)
  case atStart => exact ⟨0, Nat.zero_le _, rfl, 0, rfl⟩
  case round =>
    obtain ⟨j, hj, rfl, k, hwr⟩ := hrel
    have hdr : Below w.heap.size w wr := by rw [hwr]; exact below_drewN (Below.refl _ _) _
    have hcl : ∀ p : Addr, wr.cell? p = w.cell? p := fun p => by rw [hwr]; rfl
    have HWR := Lib.hid hwr
    clear hwr
    have c0' := c0
    rw [← hcl] at c0'
    by_cases hlt : j < N
    · obtain ⟨gv, u, l, rfl, _, hu, hul, ho, cu, _⟩ := H0.out.outer hlt
      obtain ⟨gw, l', rfl, hul', cu'⟩ := HW.out j hlt
      rw [hul] at hul'
      obtain rfl := Option.some.inj hul'
      obtain ⟨B1, cb1, rfl, hb1, _⟩ := ho.form
      have hrb := ho.rb.keep hdr
      rw [← hcl] at cu cu'
      have c1' := c1
      rw [← hcl] at c1'
      obtain ⟨st, hst⟩ : ∃ st, st = strOf l := ⟨_, rfl⟩
      have hcv : ∀ t, (convert 22 9 (.slice B1 l.length cb1)).run Try.prog (wr.drewN t) = .ok (.string st) (wr.drewN t) := fun t => by rw [hst]; exact conv_bytes _ _ _ _ _ (hrb.drewN t)
      rw [← hst] at cu'
      have hss : (st.toList == st.toList) = true := by simp
      generalize l.length = L at *
      clear hu hul ho hrb hul' hst hcl hdr
      go_wp2_with fail
      go_quiet (fail)
      go_wp2_with fail
      go_roundw
      first
        | (case rel => exact ⟨j + 1, by omega, by go_num, _, by rw [HWR.out, World.drewN_drewN]⟩)
        | (case rel => (repeat apply Exists.intro); exact ⟨⟨j + 1, by omega, by go_num, _, by rw [HWR.out, World.drewN_drewN]⟩, rfl⟩)
      case measure => simp [intOf]; omega
    · obtain rfl : N = j := by omega
      have L1 : Hid (SH w wr C kb (.slice AR N capR) (.slice AW N capW) us ls N 1000000000) := Lib.hid (H0.out.keep hdr)
      clear hcl hdr HWR H0 HW c0 c1 hlt hj
      obtain ⟨w1, hw1⟩ : ∃ w1, w1 = wr := ⟨_, rfl⟩
      subst hw1
      go_wp2_with fail
      go_loopw [4] (fun iv W => ∃ (j : Nat) (ls' : List (List UInt8)), j ≤ N ∧ iv = .int .i64 (j : Int) ∧ Hid (SH w W C kb (.slice AR N capR) (.slice AW N capW) us ls' N 1000000000) ∧ Hid (mk ls' j 0)) (fun iv _ => N - (intOf iv).toNat)
      case atStart => exact ⟨0, ls, Nat.zero_le _, rfl, L1, Lib.hid (mk_zero _)⟩
      case round =>
        obtain ⟨j, ls2, hj, rfl, L2, M2⟩ := hrel
        clear L1 c0'
        have c0 : wr.cell? ⟨kb, 0, none⟩ = some (.slice AR N capR) := L2.out.k.cell 0
        by_cases hlt : j < N
        · obtain ⟨gv, u, l, rfl, hgc, hu, hul, ho, cu, _⟩ := L2.out.outer hlt
          obtain ⟨B1, cb1, hue, hb1, _⟩ := ho.form
          have hl64 := L2.out.sm l (List.mem_of_getElem? hul)
          subst hue
          obtain ⟨n, hnl⟩ : ∃ n, n = l.length := ⟨_, rfl⟩
          rw [← hnl] at cu hb1 hl64 hu
          have HU := Lib.hid hu
          have HL3 : Hid (ls2[j]? = some l ∧ l.length = n) := Lib.hid ⟨hul, hnl.symm⟩
          clear hu hul ho hgc hnl cu
          go_wp2_with fail
          go_loopw [5] (fun iv W => ∃ (k : Nat) (ls' : List (List UInt8)) (l' : List UInt8), k ≤ n ∧ iv = .int .i64 (k : Int) ∧ Hid (SH w W C kb (.slice (some ⟨gv, 0, none⟩) N capR) (.slice AW N capW) us ls' N 1000000000) ∧ Hid (mk ls' j k) ∧ Hid (ls'[j]? = some l' ∧ l'.length = n)) (fun iv _ => n - (intOf iv).toNat)
          case atStart => exact ⟨0, ls2, l, Nat.zero_le _, rfl, L2, M2, HL3⟩
          case round =>
            obtain ⟨k, ls3, l3, hk, rfl, L3, M3, HL4⟩ := hrel
            clear c0 L2 M2 HL3
            have c0 : wr.cell? ⟨kb, 0, none⟩ = some (.slice (some ⟨gv, 0, none⟩) N capR) := L3.out.k.cell 0
            obtain ⟨gv', u, l4, hgv, _, hu, hul, ho, cu, _⟩ := L3.out.outer hlt
            injection hgv with hgv
            injection hgv with hgv _ _
            subst hgv
            rw [HU.out] at hu
            obtain rfl := Option.some.inj hu
            rw [HL4.out.1] at hul
            obtain rfl := Option.some.inj hul
            by_cases hlt2 : k < n
            · have hrb := ho.rb
              obtain ⟨b1, off, rfl, _, cc, hcc, cb⟩ := hrb.at_ hlt2
              have fb : wr.frozen? ⟨b1, off + k, none⟩ = false := by
                obtain ⟨A', n', c', e, _, _, _, h⟩ := ho
                injection e with e1 e2 e3
                rcases h with h | ⟨b', off', cur, e', hbb, _⟩
                · omega
                · rw [← e1] at e'
                  obtain ⟨rfl, rfl⟩ : b1 = b' ∧ off = off' := by simpa using e'
                  exact hbb.frozen _
              have L5 := Lib.hid (L3.out.put (k := k) (mkB j) HU.out HL4.out.1 hlt2 hb1)
              have M5 := Lib.hid (mk_set M3.out HL4.out.1)
              have HL5 : Hid ((ls3.set j (l3.set k (mkB j)))[j]? = some (l3.set k (mkB j)) ∧ (l3.set k (mkB j)).length = n) := Lib.hid ⟨by rw [List.getElem?_set_self (by have := (List.getElem?_eq_some_iff.1 HL4.out.1).1; exact this)], by rw [List.length_set]; exact HL4.out.2⟩
              have hq := mkB_int j
              unfold byteV at L5
              obtain ⟨mb, hmb⟩ : ∃ mb, mb = mkB j := ⟨_, rfl⟩
              rw [← hmb] at hq L5 M5 HL5
              obtain ⟨old, hold⟩ : ∃ o : Int, o = (cc.toNat : Int) := ⟨_, rfl⟩
              rw [← hold] at cb
              clear hrb hcc ho L3 M3 hmb hold
              go_wp2_with fail
              go_roundw
              first
                | (case rel => exact ⟨k + 1, _, _, by omega, by go_num, L5, M5, HL5⟩)
                | (case rel => (repeat apply Exists.intro); exact ⟨⟨k + 1, _, _, by omega, by go_num, L5, M5, HL5⟩, rfl⟩)
              case measure => simp [intOf]; omega
            · obtain rfl : n = k := by omega
              clear ho
              go_wp2_with fail
              go_roundw
              first
                | (case rel => exact ⟨j + 1, ls3, by omega, by go_num, L3, Lib.hid (mk_next M3.out HL4.out.1 HL4.out.2)⟩)
                | (case rel => (repeat apply Exists.intro); exact ⟨⟨j + 1, ls3, by omega, by go_num, L3, Lib.hid (mk_next M3.out HL4.out.1 HL4.out.2)⟩, rfl⟩)
              case measure => simp [intOf]; omega
        · obtain rfl : N = j := by omega
          clear hlt hj
          go_wp2_with fail
          have HLT : Hid (∀ (j : Nat) (u : Value) (b o : Nat), us[j]? = some u → SegIn u b o → b < wr.heap.size) := Lib.hid (fun j u b o hu hb => L2.out.sl.lt hu hb)
          obtain ⟨h4, hh4⟩ : ∃ h4, h4 = wr.heap.size := ⟨_, rfl⟩
          rw [← hh4] at HLT
          have H4 : Hid (h4 ≤ wr.heap.size) := Lib.hid (by omega)
          obtain ⟨C4, hC4⟩ : ∃ C4, C4 = paint C h4 0 := ⟨_, rfl⟩
          have HC4 : Hid ((∀ b, b < w.heap.size → C4 b = C b) ∧ ∀ b, h4 ≤ b → C4 b = 0) := Lib.hid ⟨fun b hb => by rw [hC4]; exact sam_paint C h4 0 b (by have := L2.out.c.size; omega), fun b hb => by rw [hC4]; exact paint_new C 0 hb⟩
          have L2' : Hid (SH w wr C4 kb (.slice AR N capR) (.slice AW N capW) us ls2 N 1000000000) := Lib.hid ⟨L2.out.sl.step (Chg.refl (fun _ => False) wr) (by rw [hC4, hh4]; exact sam_paint C _ 0) (fun _ h => h.elim), L2.out.len, L2.out.sm, L2.out.c.mono (fun b hb e => by rw [HC4.out.1 b hb]; exact e), L2.out.k, by rw [hC4]; exact (sam_paint C h4 0 kb (by have := L2.out.k.lt; omega)).trans L2.out.ck⟩
          have HH4 : Hid (w.heap.size ≤ h4) := Lib.hid (by have := L2.out.c.size; omega)
          clear hh4 hC4 L2
          go_loopw [6, 7] (fun s6 iv W => ∃ (k : Nat) (vM : Value) (ms : List Value), k ≤ N ∧ iv = .int .i64 (k : Int) ∧ vM = s6 ∧ Hid (ms.length = k) ∧ Hid (h4 ≤ W.heap.size) ∧ Hid (SH w W C4 kb (.slice AR N capR) (.slice AW N capW) us ls2 N 1000000000) ∧ Hid (MO W h4 us ls2 vM ms)) (fun _ iv _ => N - (intOf iv).toNat)
          case atStart => exact ⟨0, _, [], Nat.zero_le _, rfl, rfl, Lib.hid rfl, H4, L2', Lib.hid (MO.nil _ _ _ _)⟩
          case round =>
            obtain ⟨k, vM, ms, hk, rfl, rfl, HK, H5, L3, O3⟩ := hrel
            clear L2' c0 H4
            have c0 : wr.cell? ⟨kb, 0, none⟩ = some (.slice AR N capR) := L3.out.k.cell 0
            by_cases hlt : k < N
            · obtain ⟨gv, u, l, rfl, _, hu, hul, ho, cu, _⟩ := L3.out.outer hlt
              obtain ⟨B1, cb1, hue, hb1, _⟩ := ho.form
              have hl64 := L3.out.sm l (List.mem_of_getElem? hul)
              subst hue
              have hq := mkB_int k
              obtain ⟨mb, hmb⟩ : ∃ mb, mb = mkB k := ⟨_, rfl⟩
              rw [← hmb] at hq
              have HMB := Lib.hid hmb
              have hal : Below wr.heap.size wr (wr.alloc (.cells #[.int .u8 (mb.toNat : Int)] 5)) := (Below.refl _ _).alloc (Nat.le_refl _) _
              have L4 := Lib.hid (L3.out.keep hal)
              have O4 := Lib.hid (O3.out.keep hal)
              have U4 := Lib.hid (ho.keep hal)
              have N4 : Hid ((wr.alloc (.cells #[.int .u8 (mb.toNat : Int)] 5)).cell? ⟨wr.heap.size, 0, none⟩ = some (byteV mb)) := Lib.hid ((Blk.new wr 5 #[.int .u8 (mb.toNat : Int)] rfl).cell 0)
              have H6 : Hid (h4 ≤ (wr.alloc (.cells #[.int .u8 (mb.toNat : Int)] 5)).heap.size) := Lib.hid (Nat.le_trans H5.out hal.size)
              obtain ⟨w5, hw5⟩ : ∃ w5, w5 = wr.alloc (.cells #[.int .u8 (mb.toNat : Int)] 5) := ⟨_, rfl⟩
              obtain ⟨b5, hb5⟩ : ∃ b5, b5 = wr.heap.size := ⟨_, rfl⟩
              rw [← hw5] at L4 O4 U4 N4 H6
              rw [← hb5] at N4
              have HW5 := Lib.hid hw5; have HB5 := Lib.hid hb5
              have HU := Lib.hid hu; have HUL := Lib.hid hul
              clear hw5 hb5 hal L3 O3 ho hu hul hmb H5
              obtain ⟨L, hL⟩ : ∃ L, L = l.length := ⟨_, rfl⟩
              rw [← hL] at cu hb1 hl64 U4 HU
              have HL := Lib.hid hL
              clear hL
              go_wp2_with ((at_builtin; rw [← HW5.out, ← HB5.out]; go_must (refine append_seg rfl (.tmp 84) (.tmp 88) rfl (.slice B1 L cb1) l rfl U4.out b5 1 mb rfl N4.out (by rw [← HL.out]; omega) ?_); intro u6 w6 h6; refine halt ?_))
              refine unhalt ?_
              have ST6 : Hid (SH w w6 C4 kb (.slice (some ⟨gv, 0, none⟩) N capR) (.slice AW N capW) us ls2 N 1000000000 ∧ MO w6 h4 us ls2 vM ms ∧ SG w6 u6 (l ++ [mkB ms.length]) ∧ (∀ b o, SegIn u6 b o → SegIn (.slice B1 L cb1) b o ∨ h4 ≤ b) ∧ h4 ≤ w6.heap.size ∧ ∃ A6 c6, u6 = .slice A6 (L + 1) c6) := Lib.hid (by
                have hl := HL.out
                rw [HK.out, ← HMB.out]
                rcases h6 with ⟨b, off, c, e, h1, rfl, rfl⟩ | ⟨h1, h2⟩
                · injection e with e1 _ e3
                  subst e1 e3
                  rw [← hl] at h1 ⊢
                  obtain ⟨p1, p2⟩ := L4.out.push mb HU.out HUL.out h1
                  have hin : SegIn (.slice (some ⟨b, off, none⟩) L cb1) b (off + L) := ⟨off, L, cb1, rfl, by omega, by omega⟩
                  have hu' : us[ms.length]? = some (.slice (some ⟨b, off, none⟩) L cb1) := by rw [HK.out]; exact HU.out
                  refine ⟨p1, O4.out.put L4.out.sl hu' U4.out hin (HLT.out k _ b _ HU.out hin) _, p2, fun b' o' ⟨off', n', c', e, q1, q2⟩ => .inl ?_, by simpa [World.setCell] using H6.out, _, _, rfl⟩
                  injection e with e1 e2 e3
                  exact ⟨off', L, cb1, by rw [e1], q1, by omega⟩
                · obtain ⟨s1, s2⟩ := SG.of_ob h1
                  obtain ⟨A6, c6, hv6, _⟩ := s1.form
                  exact ⟨L4.out.keep h2, O4.out.keep h2, s1, fun b' o' hs => .inr (Nat.le_trans H6.out (s2 b' o' hs).1), Nat.le_trans H6.out h2.size, A6, c6, by rw [hv6, List.length_append, ← hl]; rfl⟩)
              obtain ⟨s1, s2, s3, s4, s5, A6, c6, rfl⟩ := ST6.out
              have hal : Below w6.heap.size w6 (w6.alloc (.cells #[.slice A6 (L + 1) c6] 22)) := (Below.refl _ _).alloc (Nat.le_refl _) _
              have L7 := Lib.hid (s1.keep hal)
              have O7 := Lib.hid (s2.keep hal)
              have U7 := Lib.hid (s3.keep hal)
              have LC7 := Lib.hid s4
              have N7 : Hid ((w6.alloc (.cells #[.slice A6 (L + 1) c6] 22)).cell? ⟨w6.heap.size, 0, none⟩ = some (.slice A6 (L + 1) c6)) := Lib.hid ((Blk.new w6 22 #[.slice A6 (L + 1) c6] rfl).cell 0)
              have H7 : Hid (h4 ≤ (w6.alloc (.cells #[.slice A6 (L + 1) c6] 22)).heap.size) := Lib.hid (Nat.le_trans s5 hal.size)
              obtain ⟨w7, hw7⟩ : ∃ w7, w7 = w6.alloc (.cells #[.slice A6 (L + 1) c6] 22) := ⟨_, rfl⟩
              obtain ⟨b7, hb7⟩ : ∃ b7, b7 = w6.heap.size := ⟨_, rfl⟩
              rw [← hw7] at L7 O7 U7 N7 H7
              rw [← hb7] at N7
              have HW7 := Lib.hid hw7; have HB7 := Lib.hid hb7
              clear hw7 hb7 hal s1 s2 s3 s4 s5 ST6 h6 L4 O4 U4 N4 H6 HW5 HB5
              go_wp2_with ((at_builtin; rw [← HW7.out, ← HB7.out]; go_must (refine append_one rfl (.tmp 77) (.tmp 90) 30 22 rfl Try.underlying30 infoB rfl h4 vM ms rfl O7.out.own b7 1 _ rfl N7.out rfl (by rw [HK.out]; omega) (by rw [HK.out]; simp only [maxLen]; omega) H7.out ?_); intro v8 w8 hv8 hg8 ha8; refine halt ?_))
              refine unhalt ?_
              have O8 := Lib.hid (O7.out.more (by rw [HK.out]; exact HUL.out) U7.out (by rw [HK.out]; exact HU.out) LC7.out hv8 hg8)
              have L8 : Hid (SH w w8 C4 kb (.slice (some ⟨gv, 0, none⟩) N capR) (.slice AW N capW) us ls2 N 1000000000) := Lib.hid (by
                have hch8 : Chg (fun y => h4 ≤ y) w7 w8 := (Chg.refl _ w7).grown hg8 (fun y e _ => (World.ownsRow.lt O7.out.own y e).1)
                have hck := L7.out.ck
                exact ⟨L7.out.sl.step hch8 (Sam.refl _ _) (fun y e => by rw [HC4.out.2 y e]; omega), L7.out.len, L7.out.sm, L7.out.c.trans hch8 (fun y hy e => by have := HC4.out.2 y e; have := L7.out.c.size; have := H7.out; exfalso; have h9 := HH4.out; omega), L7.out.k.chg hch8 (fun e => by rw [HC4.out.2 _ e] at hck; omega), hck⟩)
              have H8 : Hid (h4 ≤ w8.heap.size) := Lib.hid (Nat.le_trans H7.out hg8.size)
              have HK8 : Hid ((ms ++ [Value.slice A6 (L + 1) c6]).length = k + 1) := Lib.hid (by rw [List.length_append, HK.out]; rfl)
              clear hv8 hg8 ha8 L7 O7 U7 LC7 N7 H7 HW7 HB7 HU HUL cu
              go_wp2_with fail
              go_roundw
              first
                | (case rel => exact ⟨k + 1, v8, _, by omega, by go_num, rfl, HK8, H8, L8, O8⟩)
                | (case rel => (repeat apply Exists.intro); exact ⟨⟨k + 1, v8, _, by omega, by go_num, rfl, HK8, H8, L8, O8⟩, rfl⟩)
              case measure => simp [intOf]; omega
            · obtain rfl : N = k := by omega
              have HF : Hid (Chg (fun b => C b = 9 ∨ C b = 3) w wr) := Lib.hid (L3.out.c.mono (fun b hb e => by rw [HC4.out.1 b hb] at e; exact e))
              have HM : Hid (∀ i, i < N → ∃ (gm gv : Nat) (A : Option Addr) (c : Nat) (B1 : Option Addr) (cb1 n : Nat) (mb : UInt8), vM.ownBlock = some gm ∧ wr.cell? ⟨gm, i, none⟩ = some (.slice A (n + 1) c) ∧ n + 1 ≤ c ∧ n ≤ 1000000000 ∧ ((i : Int) + 1) % 256 = (mb.toNat : Int) ∧ (∀ j, j < n + 1 → ∃ b off, A = some ⟨b, off, none⟩ ∧ wr.cell? ⟨b, off + j, none⟩ = some (.int .u8 (mb.toNat : Int))) ∧
                  AR = some ⟨gv, 0, none⟩ ∧ wr.cell? ⟨gv, i, none⟩ = some (.slice B1 n cb1) ∧ n ≤ cb1 ∧ (∀ j, j < n → ∃ b off, B1 = some ⟨b, off, none⟩ ∧ wr.cell? ⟨b, off + j, none⟩ = some (.int .u8 (mb.toNat : Int)))) := Lib.hid (fun i hi => by
                obtain ⟨gv, u, l, hgv, _, hu, hul, ho, cu, _⟩ := L3.out.outer hi
                obtain ⟨B1, cb1, rfl, hb1, _⟩ := ho.form
                have hl64 := L3.out.sm l (List.mem_of_getElem? hul)
                have hrep := mk_rep M2.out hi hul
                have hmi : i < ms.length := by rw [HK.out]; exact hi
                obtain ⟨x, hx⟩ : ∃ x, ms[i]? = some x := ⟨_, List.getElem?_eq_getElem hmi⟩
                have hsx := O3.out.el i x l hx hul
                obtain ⟨A, c, hxe, hc1, _⟩ := hsx.form
                have hxl : (l ++ [mkB i]).length = l.length + 1 := by simp
                rw [hxl] at hxe hc1
                have hown := O3.out.own
                rcases hown.2 with ⟨_, h0⟩ | ⟨gm, cap, cur, hv, _⟩
                · omega
                · rw [hv] at hown
                  refine ⟨gm, gv, A, c, B1, cb1, l.length, mkB i, by rw [hv]; rfl, by rw [World.ownsRow.cellAt hown i (by omega), hx, hxe], hc1, hl64, mkB_int i, fun j hj => ?_, hgv, cu, hb1, fun j hj => ?_⟩
                  · rw [hxe] at hsx
                    have hrb := hsx.rb
                    obtain ⟨b, off, e, _, y, hy, hcy⟩ := hrb.at_ hj
                    have hym : y = mkB i := by
                      rcases List.mem_append.1 (List.mem_of_getElem? hy) with h1 | h1
                      · exact (List.eq_replicate_iff.1 hrep).2 y h1
                      · simpa using h1
                    rw [hym] at hcy
                    exact ⟨b, off, e, hcy⟩
                  · obtain ⟨b, off, e, _, y, hy, hcy⟩ := ho.rb.at_ hj
                    have hym : y = mkB i := (List.eq_replicate_iff.1 hrep).2 y (List.mem_of_getElem? hy)
                    rw [hym] at hcy
                    exact ⟨b, off, e, hcy⟩)
              obtain ⟨AM, capM, hvm, hvc, hgmm⟩ : ∃ AM capM, vM = .slice AM N capM ∧ N ≤ capM ∧ ∀ g, vM.ownBlock = some g → AM = some ⟨g, 0, none⟩ := by
                have hk := HK.out
                rcases O3.out.own.2 with ⟨e, h0⟩ | ⟨gm, cap, cur, e, _, _, h1, _⟩
                · exact ⟨none, 0, by rw [e, ← hk, h0], by omega, fun g hg => by rw [e] at hg; simp [Value.ownBlock] at hg⟩
                · refine ⟨some ⟨gm, 0, none⟩, cap, by rw [e, hk], by omega, fun g hg => ?_⟩
                  rw [e] at hg
                  have : gm = g := by simpa [Value.ownBlock] using hg
                  rw [this]
              have HGM := Lib.hid hgmm
              subst hvm
              clear hgmm L3 O3 HK HLT HC4 HH4 H5 M2 hlt hk
              go_wp2_with fail
              go_loop [8] (fun iv => ∃ i : Nat, i ≤ N ∧ iv = .int .i64 (i : Int)) (fun iv => N - (intOf iv).toNat)
              case atStart => exact ⟨0, Nat.zero_le _, rfl⟩
              case round =>
                obtain ⟨i, hi, rfl⟩ := hrel
                by_cases hlt : i < N
                · obtain ⟨gm, gv, A, c, B1, cb1, n, mb, hgm, cm, hnc, hn9, hq, hread, rfl, cu, hncb, hread2⟩ := HM.out i hlt
                  obtain rfl := HGM.out gm hgm
                  have HR := Lib.hid hread; have HR2 := Lib.hid hread2
                  clear hgm hread hread2
                  go_wp2_with fail
                  go_loop [9] (fun iv => ∃ j : Nat, j ≤ n + 1 ∧ iv = .int .i64 (j : Int)) (fun iv => n + 1 - (intOf iv).toNat)
                  case atStart => exact ⟨0, Nat.zero_le _, rfl⟩
                  case round =>
                    obtain ⟨j, hj, rfl⟩ := hrel
                    by_cases hlt2 : j < n + 1
                    · obtain ⟨b, off, rfl, cx⟩ := HR.out j hlt2
                      have hjI : (j : Int) < (n : Int) + 1 := by omega
                      by_cases hlt3 : j < n
                      · obtain ⟨b2, off2, rfl, cy⟩ := HR2.out j hlt3
                        go_wp2_with fail
                        go_round
                        case rel => exact ⟨j + 1, by omega, by go_num⟩
                        case measure => simp [intOf]; omega
                      · go_wp2_with fail
                        go_round
                        case rel => exact ⟨j + 1, by omega, by go_num⟩
                        case measure => simp [intOf]; omega
                    · obtain rfl : j = n + 1 := by omega
                      go_wp2_with fail
                      go_round
                      case rel => exact ⟨i + 1, by omega, by go_num⟩
                      case measure => simp [intOf]; omega
                · obtain rfl : i = N := by omega
                  go_wp2_with fail
                  go_ret
                  exact ⟨rfl, HF.out⟩
end Go.Proofs.Ytngaohmfedoeeaa
