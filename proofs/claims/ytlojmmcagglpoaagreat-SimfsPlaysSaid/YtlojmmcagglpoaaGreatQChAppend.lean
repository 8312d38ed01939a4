/- THE WALK of changes at an Append (package heronlaw14; printed by a program of ours). -/
import Derived.Test.YtlojmmcagglpoaaGreatQDisk
import Derived.Test.YtlojmmcagglpoaaGreatQDiskFile
import Derived.Test.YtlojmmcagglpoaaGreatQPair2
import Derived.Test.YtlojmmcagglpoaaGreatQPlays
import Derived.Test.YtlojmmcagglpoaaGreatQRf
import Derived.Test.YtlojmmcagglpoaaGreatQRow
import Derived.Test.YtlojmmcagglpoaaGreatQStr
import Derived.ArgAppend
import Derived.Lib.AppendStr
import Derived.Deep.DeepMust
namespace Go.Proofs.YtlojmmcagglpoaaGreat
open Go.RowKit Go.Maps
/-- the block b holds the n bytes of l, and has room for c -/
structure IN (w : World) (b n c : Nat) (l : List UInt8) : Prop where
  len : l.length = n
  nc : n ≤ c
  cm : c ≤ maxLen
  blk : ∃ cs mk, w.heap[b]? = some (.cells cs 5 mk) ∧ c ≤ cs.size ∧ (mk = (0, 0) ∨ c ≤ mk.1) ∧ ∀ (j : Nat) (x : UInt8), l[j]? = some x → cs[j]? = some (byteV x)
section
variable {w w' : World} {b n c : Nat} {l : List UInt8}
theorem IN.lt (h : IN w b n c l) : b < w.heap.size := by
  obtain ⟨cs, mk, h1, _⟩ := h.blk
  exact (Array.getElem?_eq_some_iff.1 h1).1
theorem cell_blk {cs : Array Value} {t : TypeId} {mk : Nat × Nat} (h : w.heap[b]? = some (.cells cs t mk)) (j : Nat) : w.cell? ⟨b, j, none⟩ = cs[j]? := by
  unfold World.cell?
  simp only [h]
  cases cs[j]? <;> rfl
theorem IN.cell (h : IN w b n c l) {j : Nat} {x : UInt8} (hj : l[j]? = some x) : w.cell? ⟨b, j, none⟩ = some (.int .u8 (x.toNat : Int)) := by
  obtain ⟨cs, mk, h1, _, _, h4⟩ := h.blk
  rw [cell_blk h1]; exact h4 j x hj
theorem IN.has (h : IN w b n c l) {j : Nat} (hj : j < c) : ∃ u, w.cell? ⟨b, j, none⟩ = some u := by
  obtain ⟨cs, mk, h1, h2, _, _⟩ := h.blk
  exact ⟨cs[j]'(by omega), by rw [cell_blk h1]; exact Array.getElem?_eq_getElem (by omega)⟩
theorem IN.frozen (h : IN w b n c l) {j : Nat} (hj : j < c) : w.frozen? ⟨b, j, none⟩ = false := by
  obtain ⟨cs, ⟨m1, m2⟩, h1, h2, h3, _⟩ := h.blk
  unfold World.frozen?
  simp only [h1]
  rcases h3 with h3 | h3
  · obtain ⟨rfl, rfl⟩ : m1 = 0 ∧ m2 = 0 := by simpa using h3
    simp
  · simp only at h3
    simp; omega
theorem IN.rb (h : IN w b n c l) : RB w (some ⟨b, 0, none⟩) n l := ⟨h.len, fun _ => ⟨b, 0, rfl, h.lt, fun j x hj => by rw [Nat.zero_add]; exact h.cell hj⟩⟩
theorem IN.chg (h : IN w b n c l) {S : Nat → Prop} (hc : Chg S w w') (hb : ¬ S b) : IN w' b n c l := by
  obtain ⟨h1, h2, h3, cs, mk, h4, h5⟩ := h
  exact ⟨h1, h2, h3, cs, mk, (hc.block b (Array.getElem?_eq_some_iff.1 h4).1 hb).trans h4, h5⟩
theorem IN.keep (h : IN w b n c l) (hb : Below w.heap.size w w') : IN w' b n c l := h.chg (Chg.of_below hb (fun _ => False)) id
theorem FrC.in_ {C : Nat → Nat} {k : Nat} (h : IN w b n c l) (hc : C b = k) : FrC w C k (fun w => IN w b n c l) :=
  ⟨h, fun w2 _ hk => by
    obtain ⟨h1, h2, h3, cs, mk, h4, h5⟩ := h
    exact ⟨h1, h2, h3, cs, mk, (hk b (Array.getElem?_eq_some_iff.1 h4).1 hc).trans h4, h5⟩⟩
theorem heap_setCell {cs : Array Value} {t : TypeId} {mk : Nat × Nat} (h : w.heap[b]? = some (.cells cs t mk)) (j : Nat) (u : Value) : (w.setCell ⟨b, j, none⟩ u).heap[b]? = some (.cells (cs.setIfInBounds j u) t mk) := by
  unfold World.setCell
  simp [Array.getElem?_modify, h]
/-- one of its bytes is written -/
theorem IN.put (h : IN w b n c l) (k : Nat) (x : UInt8) : IN (w.setCell ⟨b, k, none⟩ (.int .u8 (x.toNat : Int))) b n c (l.set k x) := by
  obtain ⟨h1, h2, h3, cs, mk, h4, h5, h6, h7⟩ := h
  refine ⟨by rw [List.length_set]; exact h1, h2, h3, _, mk, heap_setCell h4 k _, by simpa using h5, h6, fun j y hj => ?_⟩
  by_cases e : j = k
  · subst e
    have hl := (List.getElem?_eq_some_iff.1 hj).1
    rw [List.length_set] at hl
    rw [List.getElem?_set_self hl] at hj
    obtain rfl := Option.some.inj hj
    rw [Array.getElem?_setIfInBounds_self, if_pos (by omega)]; rfl
  · rw [List.getElem?_set_ne (fun e2 => e e2.symm)] at hj
    rw [Array.getElem?_setIfInBounds_ne (fun e2 => e e2.symm)]
    exact h7 j y hj
/-- one byte more, in its room -/
theorem IN.push (h : IN w b n c l) (hn : n < c) (x : UInt8) : IN (w.setCell ⟨b, n, none⟩ (.int .u8 (x.toNat : Int))) b (n + 1) c (l ++ [x]) := by
  obtain ⟨h1, h2, h3, cs, mk, h4, h5, h6, h7⟩ := h
  refine ⟨by rw [List.length_append, h1]; rfl, hn, h3, _, mk, heap_setCell h4 n _, by simpa using h5, h6, fun j y hj => ?_⟩
  by_cases e : j < l.length
  · rw [List.getElem?_append_left e] at hj
    rw [Array.getElem?_setIfInBounds_ne (by omega)]
    exact h7 j y hj
  · rw [List.getElem?_append_right (by omega)] at hj
    have h0 : j - l.length = 0 := by have := (List.getElem?_eq_some_iff.1 hj).1; simp at this; omega
    rw [h0] at hj
    obtain rfl := Option.some.inj hj
    have hjn : j = n := by omega
    subst hjn
    rw [Array.getElem?_setIfInBounds_self, if_pos (by omega)]; rfl
theorem IN.of_ob {base : Nat} (h : OB w base (.slice (some ⟨b, 0, none⟩) n c) l) : IN w b n c l ∧ base ≤ b := by
  have hn : l.length = n := h.len
  subst hn
  rcases h.2 with ⟨e, _⟩ | ⟨g, cap, cur, hv, hb, hh, h1, h2, h3, h4⟩
  · cases e
  · injection hv with e1 e2 e3
    injection e1 with e1
    injection e1 with e1
    subst e1 e3
    rw [Nat.mul_one] at h3 h4
    refine ⟨⟨rfl, h1, h2, cur, (0, 0), hh, by omega, .inl rfl, fun j x hj => ?_⟩, hb⟩
    have hjl := (List.getElem?_eq_some_iff.1 hj).1
    have h5 : (List.take l.length cur.toList)[j]? = (l.map byteV)[j]? := by rw [h4]
    rw [List.getElem?_take, if_pos hjl, List.getElem?_map, hj] at h5
    simpa using h5
theorem conv_in (w : World) (l : List UInt8) (hl : l.length ≤ 1000000000) : ∃ w' c, (convert 9 61 (.string (strB l))).run Tryz.prog w = .ok (.slice (some ⟨w.heap.size, 0, none⟩) l.length c) w' ∧ Below w.heap.size w w' ∧ IN w' w.heap.size l.length c l := by
  refine ⟨_, _, Lib.run_convert_string_bytes (P := Tryz.prog) w 9 61 5 (strB l) Tryz.underlying9 Tryz.underlying61 Tryz.underlying5, below_bytes _ _ _, ?_⟩
  have hs : (strB l).size = l.length := by simp [strB, ByteArray.size]
  have hg := grownCap_ge w (strB l).size 0 5
  refine ⟨rfl, by rw [← hs]; exact hg, grownCap_le_maxLen _ _ _ _ (by rw [hs]; unfold maxLen; omega), _, _, Lib.bytesWorld_at_new w 5 (strB l), ?_, .inr ?_, fun j x hj => ?_⟩
  · simp [Lib.bytesCells]; omega
  · simp [Lib.bytesCells]; omega
  · have hjl := (List.getElem?_eq_some_iff.1 hj).1
    unfold Lib.bytesCells
    rw [Array.getElem?_append_left (by simp [strB]; exact hjl)]
    have h2 : l[j] = x := (List.getElem?_eq_some_iff.1 hj).2
    simp [strB, hj, byteV]
/-- one byte more behind such bytes: in their room, or in a block of the call's own -/
theorem append_in {ops : Array Oper} {rest : List Oper} {o : Oper} {a : Act} {Q : Exit → Act → World → Prop} (hgd : o.guard = none) (s x : Operand)
    (ho : o.op = .call { callee := .builtin .append, args := #[s, x], argTypes := #[61, 61] })
    (hs : a.eval s = .slice (some ⟨b, 0, none⟩) n c) (hu : IN w b n c l) (g0 c0 : Nat) (m : UInt8) (hx : a.eval x = .slice (some ⟨g0, 0, none⟩) 1 c0) (hm : w.cell? ⟨g0, 0, none⟩ = some (byteV m)) (hlen : n ≤ 1000000000)
    (h : ∀ b' c' w', IN w' b' (n + 1) c' (l ++ [m]) → Chg (fun q => q = b) w w' → (b' = b ∨ w.heap.size ≤ b') → wpList Tryz.prog ops Q rest (a.put o.dst (.slice (some ⟨b', 0, none⟩) (n + 1) c')) w') : wpList Tryz.prog ops Q (o :: rest) a w := by
  obtain ⟨i0, hi, hz0, hz1, hz2⟩ := info_parts info8
  have hnews : ∀ j z, [byteV m][j]? = some z → w.cell? ((⟨g0, 0, none⟩ : Addr).add j) = some z := fun j z hj => by
    match j, hj with
    | 0, hj => obtain rfl := Option.some.inj hj; simpa [Addr.add] using hm
    | j + 1, hj => simp at hj
  have hone : ∀ z ∈ [byteV m], z.oneCell' = true := fun z hz => by simp at hz; subst hz; rfl
  by_cases hfit : n + 1 ≤ c
  · have hrun := run_append_room_cells (P := Tryz.prog) w 61 o.type 5 i0 Tryz.underlying61 hi b 0 n c ⟨g0, 0, none⟩ 1 c0 [byteV m] (by rw [hz1]; rfl) hnews hone hfit (fun j hj => by
        have hj0 : j = 0 := by simpa using hj
        subst hj0
        rw [hz1]
        obtain ⟨u, e⟩ := hu.has (j := n) (by omega)
        rw [Nat.mul_one, Nat.zero_add, Nat.add_zero, e]; rfl) (fun j hj => by
        have hj0 : j = 0 := by simpa using hj
        subst hj0
        rw [hz1, Nat.mul_one, Nat.zero_add, Nat.add_zero]
        exact hu.frozen (by omega))
    rw [hz1, Nat.mul_one, Nat.zero_add] at hrun
    have hw' : w.setCells b n [byteV m] = w.setCell ⟨b, n, none⟩ (byteV m) := rfl
    rw [hw'] at hrun
    refine wpList_plain hgd fun K hK => ?_
    unfold Oper.wp execOp
    simp only [ho, resolve, invoke, builtin, Sem.run_bind, Sem.run_pure, Result.andThen_ok, List.map_toArray, List.map_cons, List.map_nil, hs, hx, hrun]
    exact hK _ _ (h _ _ _ (hu.push (by omega) m) (Chg.setCell (S := fun q => q = b) (p := ⟨b, n, none⟩) (Chg.refl _ w) (.inl rfl) _) (.inl rfl))
  · have hc1 : c = n := by have := hu.nc; omega
    subst hc1
    have hlc := hu.len
    refine wpList_append_grows w hgd s x 61 ho 5 i0 _ 1 1 Tryz.underlying61 hi hz0 hz1 hz2 rfl (by omega) (some ⟨b, 0, none⟩) c c (l.map byteV) hs (fun e => by cases e) (by simp [hlc]) (fun ad e j z hz => ?_) ⟨g0, 0, none⟩ 1 c0 [byteV m] hx rfl hnews hone (by omega) (by simp only [maxLen]; omega) (by omega) ?_
    · obtain rfl := Option.some.inj e
      have e3 : (⟨b, 0, none⟩ : Addr).add j = ⟨b, j, none⟩ := by unfold Addr.add; split <;> simp_all
      rw [List.getElem?_map] at hz
      cases hq : l[j]? with
      | none => rw [hq] at hz; cases hz
      | some y =>
        rw [hq] at hz
        obtain rfl := Option.some.inj hz
        rw [e3]; exact hu.cell hq
    · intro v' w' h1 h2
      have hob : OB w' w.heap.size v' (l ++ [m]) := by
        unfold OB
        rw [List.length_append, List.map_append]
        rw [← hlc] at h1
        simpa using h1
      obtain ⟨A', c', e, _, _, hA⟩ := own_form (show w'.ownsRow w.heap.size 5 1 v' (l ++ [m]).length ((l ++ [m]).map byteV) from hob)
      rcases hA with ⟨_, h0⟩ | ⟨g, rfl, _, _⟩
      · simp at h0
      · subst e
        have hln : (l ++ [m]).length = c + 1 := by rw [List.length_append, hlc]; rfl
        rw [hln] at hob ⊢
        obtain ⟨h5, h6⟩ := IN.of_ob hob
        exact h _ _ _ h5 (Chg.of_below ⟨h2.os, h2.tape, h2.output, h2.size, fun k hk => h2.block k hk (by simp)⟩ _) (.inr h6)
end
end Go.Proofs.YtlojmmcagglpoaaGreat
namespace Go.Proofs.YtlojmmcagglpoaaGreat
open Go.RowKit Go.Maps
def INt (b n c cI : Nat) (l : List UInt8) : PartT := fun W C => IN W b n c l ∧ C b = cI
theorem Stb.in_ (b n c cI : Nat) (l : List UInt8) : Stb cI (INt b n c cI l) := fun _ _ _ _ _ h hc hs hS => ⟨h.1.chg hc (fun e => hS b e h.2), by rw [hs b h.1.lt]; exact h.2⟩
section
variable {w0 W W' : World} {C : Nat → Nat} {L : List PartT} {b n c cI : Nat} {l : List UInt8}
theorem GS.putB (h : GS w0 W C (L ++ [INt b n c cI l])) (hc : cI = L.length + 1) (j : Nat) (y : UInt8) : ∃ C', GS w0 (W.setCell ⟨b, j, none⟩ (.int .u8 (y.toNat : Int))) C' (L ++ [INt b n c cI (l.set j y)]) := by
  have hk := h.last
  have hg : C b = L.length + 1 := by rw [← hc]; exact hk.2
  refine ⟨_, h.turn (k := L.length) (T' := INt b n c cI (l.set j y)) (by simp) (Chg.setCell (Chg.refl _ _) (.inl hg) _) ⟨hk.1.put j y, ?_⟩ (by rw [← hc]; exact Stb.in_ _ _ _ _ _) (by simp)⟩
  rw [paint_old _ _ hk.1.lt, hg, hc]
theorem GS.addB (h : GS w0 W C L) (hb : Below W.heap.size W W') (hi : IN W' b n c l) (hlt : W.heap.size ≤ b) : GS w0 W' (paint C W.heap.size (L.length + 1)) (L ++ [INt b n c (L.length + 1) l]) :=
  h.add hb ⟨hi, paint_new C _ hlt⟩ (Stb.in_ _ _ _ _ _)
variable {P : Nat} {h : Hd} {bs : List (List UInt8)} {ns : List (List (List UInt8))} {ds : List DE} {M : List PartT}
theorem LP.setG (hG : GS w0 W C (LP w0 P h bs ns ds ++ M)) (g : Bool) : ∃ C', GS w0 (W.setCell ⟨P, 6, none⟩ (.bool g)) C' (LP w0 P { h with g := g } bs ns ds ++ M) := by
  have hp := LP.pp hG
  refine ⟨_, hG.turn (k := 0) (T' := Pp w0 P { h with g := g } (ds.map DE.p) (ds.map DE.q)) (by simp [LP]) (Chg.setCell (Chg.refl _ _) (.inl hp.1.2) _) ⟨⟨?_, ?_⟩, ⟨?_, ?_⟩, ⟨?_, ?_⟩⟩ (Stb.pp _ _ _ _ _) rfl⟩
  · have := hp.1.1.set_ 6 (.bool g)
    exact this
  · rw [paint_old _ _ hp.1.1.lt]; exact hp.1.2
  · exact Chg.own (S := fun k => k = P) (Chg.setCell (S := fun k => k = P) (Chg.refl _ _) (.inl rfl) _) hp.2.1.1 (fun k hk e => hp.1.1.apart hp.2.1.1 (by decide) (by rw [hk, e]))
  · intro k hk
    rw [paint_old _ _ (hp.2.1.1.lt k hk).2]; exact hp.2.1.2 k hk
  · exact Chg.own (S := fun k => k = P) (Chg.setCell (S := fun k => k = P) (Chg.refl _ _) (.inl rfl) _) hp.2.2.1 (fun k hk e => hp.1.1.apart hp.2.2.1 (by decide) (by rw [hk, e]))
  · intro k hk
    rw [paint_old _ _ (hp.2.2.1.lt k hk).2]; exact hp.2.2.2 k hk
end
end Go.Proofs.YtlojmmcagglpoaaGreat
namespace Go.Proofs.YtlojmmcagglpoaaGreat
open Go.RowKit Go.Maps
theorem append_strB {w : World} {ops : Array Oper} {rest : List Oper} {o : Oper} {a : Act} {Q : Exit → Act → World → Prop} (hgd : o.guard = none) (s x : Operand)
    (ho : o.op = .call { callee := .builtin .append, args := #[s, x], argTypes := #[61, 9] })
    (base : Nat) (v : Value) (l : List UInt8) (hs : a.eval s = v) (hown : OB w base v l) (t : ByteArray) (hx : a.eval x = .string t)
    (hlen : l.length + t.size ≤ 140737488355328) (hbase : base ≤ w.heap.size)
    (h : ∀ v' w', OB w' base v' (l ++ t.data.toList) → w.grownBy w' v.ownBlock → wpList Tryz.prog ops Q rest (a.put o.dst v') w') : wpList Tryz.prog ops Q (o :: rest) a w := by
  obtain ⟨i0, hi, hz0, hz1, hz2⟩ := info_parts info8
  refine Lib.wpList_append_own_string w hgd s x 61 9 ho base 5 i0 Tryz.underlying61 Tryz.underlying9 hi hz0 hz1 hz2 v l.length (l.map byteV) hs hown t hx (by simp only [maxLen]; omega) hlen hbase ?_
  intro v' w' h1 h2 _
  refine h v' w' ?_ h2
  unfold OB
  have e : Lib.strCells t = t.data.toList.map byteV := by unfold Lib.strCells byteV; rfl
  rw [e] at h1
  rw [List.length_append, List.map_append]
  exact h1
theorem own_chg' {W w' : World} {v : Value} (hg : W.grownBy w' v.ownBlock) : Chg (fun k => v.ownBlock = some k) W w' := (Chg.refl _ W).grown hg (fun _ hk _ => hk)
def repL (l : List UInt8) (k : Nat) : List UInt8 := (List.replicate k l).flatten
theorem repL_len (l : List UInt8) (k : Nat) : (repL l k).length = k * l.length := by unfold repL; simp
theorem repL_succ (l : List UInt8) (k : Nat) : repL l (k + 1) = repL l k ++ l := by
  unfold repL
  rw [List.replicate_succ', List.flatten_append]; simp
def textK (n : Nat) (times : Int) (most : Nat) : Nat := if n = 0 then 0 else min times.toNat (most / n)
theorem textK_end {n k most : Nat} {times : Int} (h1 : k ≤ times.toNat) (h2 : k * n ≤ most) (h3 : n = 0 → k = 0) (he : times ≤ (k : Int) ∨ most < k * n + n ∨ n = 0) : textK n times most = k := by
  unfold textK
  by_cases h : n = 0
  · rw [if_pos h, h3 h]
  · rw [if_neg h]
    have hk : k ≤ most / n := (Nat.le_div_iff_mul_le (by omega)).2 h2
    rcases he with e | e | e
    · omega
    · have : most / n < k + 1 := (Nat.div_lt_iff_lt_mul (by omega)).2 (by rw [Nat.add_mul]; omega)
      omega
    · exact absurd e h
def TextQ (W : World) (l : List UInt8) (e : Ending) (w' : World) : Prop := ∃ v, e = .returned v ∧ OB w' W.heap.size v l ∧ Below W.heap.size W w'
set_option maxRecDepth 20000 in
set_option maxHeartbeats 1000000 in
theorem text_any (c0 c1 c2 c3 c6 c7 c8 c9 c10 : Value) (s : ByteArray) (times : Int) (most : Nat) (hm : most ≤ 2097152) (hsB : s.size ≤ 140737488355328) (W : World) :
    Calls Tryz.prog 105 #[.agg #[c0, c1, c2, c3, .string s, .int .i64 times, c6, c7, c8, c9, c10], .int .i64 (most : Int)] W (TextQ W (repL s.data.toList (textK s.size times most))) := by
  obtain ⟨wA, hwA⟩ : ∃ wA, wA = W.alloc (.cells #[c0, c1, c2, c3, .string s, .int .i64 times, c6, c7, c8, c9, c10] 41) := ⟨_, rfl⟩
  have hB : Below W.heap.size W wA := by rw [hwA]; exact (Below.refl _ _).alloc (Nat.le_refl _) _
  have K0 : Hid (Blk wA W.heap.size 41 #[c0, c1, c2, c3, .string s, .int .i64 times, c6, c7, c8, c9, c10]) := Lib.hid (by rw [hwA]; exact Blk.new W _ _ rfl)
  have B0 := Lib.hid hB
  clear hB
  obtain ⟨ls, hls⟩ : ∃ ls, ls = s.data.toList := ⟨_, rfl⟩
  have hsz : ls.length = s.size := by rw [hls]; rfl
  have HLS := Lib.hid hls
  rw [← hls]
  obtain ⟨n, hn⟩ : ∃ n, n = s.size := ⟨_, rfl⟩
  rw [← hn]
  have HN := Lib.hid hn
  obtain ⟨R, hR⟩ : ∃ R, R = textK n times most := ⟨_, rfl⟩
  rw [← hR]
  have HR := Lib.hid hR
  clear hR hn
  have HSZ := Lib.hid hsz
  clear hls hsz
  go_enter Tryz.func105, Tryz.ntmps105
  go_upto_region 2 with fail
  rw [← hwA]
  clear hwA
  go_wp2_with fail
  go_loopw [5, 6] (fun s5 s6 wr => ∃ k m : Nat, s6 = .int .i64 (k : Int) ∧ Hid (m = k * n) ∧ m ≤ most ∧ k ≤ times.toNat ∧ (n = 0 → k = 0) ∧ k ≤ most ∧ (∃ A cp, s5 = .slice A m cp) ∧ Hid (OB wr W.heap.size s5 (repL ls k)) ∧ Hid (Below W.heap.size W wr) ∧ Hid (Blk wr W.heap.size 41 #[c0, c1, c2, c3, .string s, .int .i64 times, c6, c7, c8, c9, c10])) (fun _ s6 _ => times.toNat - (intOf s6).toNat)
  case atStart => exact ⟨0, 0, rfl, Lib.hid (by omega), Nat.zero_le _, Nat.zero_le _, fun _ => rfl, Nat.zero_le _, ⟨none, 0, rfl⟩, Lib.hid (OB.nil _ _), B0, K0⟩
  case round =>
    obtain ⟨k, m, rfl, hmk, hmm, hkt, hn0, hkm, ⟨A, cp, rfl⟩, O1, B1, K1⟩ := hrel
    have q4 : wr.cell? ⟨W.heap.size, 4, none⟩ = some (.string s) := (K1.out.cell 4).trans rfl
    have q5 : wr.cell? ⟨W.heap.size, 5, none⟩ = some (.int .i64 times) := (K1.out.cell 5).trans rfl
    have HEND : Hid ((times ≤ (k : Int) ∨ most < m + n ∨ n = 0) → R = k) := Lib.hid (fun he => by rw [HR.out]; exact textK_end hkt (by rw [← hmk.out]; exact hmm) hn0 (by rw [← hmk.out]; exact he))
    by_cases e1 : (k : Int) < times
    · by_cases e2 : m + n ≤ most
      · have e2i : (m : Int) + (s.size : Int) ≤ (most : Int) := by have := HN.out; omega
        by_cases e3 : 0 < s.size
        · have O2 : Hid (OB wr W.heap.size (.slice A m cp) (repL ls k)) := O1
          have HM : Hid (m + n ≤ most ∧ (repL ls k).length = m) := Lib.hid ⟨e2, by rw [repL_len, HSZ.out, ← HN.out, hmk.out]⟩
          have HK : Hid (k + 1 ≤ most) := Lib.hid (by
            have h1 : (k + 1) * 1 ≤ (k + 1) * n := Nat.mul_le_mul_left _ (by have := HN.out; omega)
            have h2 : (k + 1) * n = m + n := by rw [Nat.add_mul, ← hmk.out]; omega
            omega)
          have HMS : Hid (m + n = (k + 1) * n) := Lib.hid (by rw [Nat.add_mul, ← hmk.out]; omega)
          clear HEND
          go_wp2_with ((at_builtin; go_must (refine append_strB rfl (.tmp 29) (.tmp 31) rfl W.heap.size (.slice A m cp) (repL ls k) rfl O2.out s rfl (by have := HM.out; have := HN.out; omega) B1.out.size ?_); intro v5 w5 ho5 hg5; refine halt ?_))
          refine unhalt ?_
          have K5 := Lib.hid (K1.out.chg (own_chg' hg5) (fun e => K1.out.apart O2.out (by decide) e))
          have B5 := Lib.hid (B1.out.grown hg5 B1.out.size (fun j hj => (O2.out.lt j hj).1))
          have O5 : Hid (OB w5 W.heap.size v5 (repL ls (k + 1))) := Lib.hid (by rw [repL_succ, HLS.out]; rw [HLS.out] at ho5; exact ho5)
          obtain ⟨A5, cp5, hv5, _⟩ := OB.form O5.out
          have hl5 : (repL ls (k + 1)).length = m + n := by rw [repL_len, HSZ.out, ← HN.out, HMS.out]
          rw [hl5] at hv5
          subst hv5
          clear ho5 hg5 q4 q5 hl5 O1 O2 B1 K1
          go_wp2_with fail
          go_roundw
          case rel => exact ⟨k + 1, m + n, by go_num, HMS, HM.out.1, by omega, fun h => by have := HN.out; omega, HK.out, ⟨A5, cp5, rfl⟩, O5, B5, K5⟩
          case measure => simp [intOf]; omega
        · have hk := HEND.out (.inr (.inr (by have := HN.out; omega)))
          have HF : Hid (TextQ W (repL ls R) (.returned (.slice A m cp)) wr) := Lib.hid (by rw [hk]; exact ⟨_, rfl, O1.out, B1.out⟩)
          clear HEND hk
          go_wp2_with fail
          go_ret
          exact HF.out
      · have e2i : ¬ (m : Int) + (s.size : Int) ≤ (most : Int) := by have := HN.out; omega
        have hk := HEND.out (.inr (.inl (by omega)))
        have HF : Hid (TextQ W (repL ls R) (.returned (.slice A m cp)) wr) := Lib.hid (by rw [hk]; exact ⟨_, rfl, O1.out, B1.out⟩)
        clear HEND hk
        go_wp2_with fail
        go_ret
        exact HF.out
    · have hk := HEND.out (.inl (by omega))
      have HF : Hid (TextQ W (repL ls R) (.returned (.slice A m cp)) wr) := Lib.hid (by rw [hk]; exact ⟨_, rfl, O1.out, B1.out⟩)
      clear HEND hk
      go_wp2_with fail
      go_ret
      exact HF.out
end Go.Proofs.YtlojmmcagglpoaaGreat
namespace Go.Proofs.YtlojmmcagglpoaaGreat
open Go.RowKit Go.Maps
set_option maxRecDepth 20000 in
set_option maxHeartbeats 4000000 in
theorem changes_append_true {w0 W : World} {C : Nat → Nat} {P : Nat} {h : Hd} {bs : List (List UInt8)} {ns : List (List (List UInt8))} {ds : List DE} {M : List PartT} {j : Nat} {x : DE} (hG : GS w0 W C (LP w0 P h bs ns ds ++ M)) (hx : ds[j]? = some x) (al : Alike x.d x.r x.n) (hn : x.n + 2 < 1000000) (hgv : h.g = true) (c1 : Int) (nm ot : List UInt8) (sa : ByteArray) (tm c6 c7 c8 c9 : Int) (A : Option Addr) (m cp : Nat) (hs : sa.size ≤ 140737488355328) : Calls Tryz.prog 59 #[.pointer (some ⟨P, 0, none⟩), .pointer (some ⟨x.p, 0, none⟩), .pointer (some ⟨x.q, 0, none⟩), .agg #[.int .i64 1, .int .i64 c1, .string (strB nm), .string (strB ot), .string sa, .int .i64 tm, .int .i64 c6, .int .i64 c7, .int .i64 c8, .int .i64 c9, .slice A m cp]] W (ChgQ w0 P h bs ns ds j x M) := by
  obtain ⟨w1, hw1⟩ : ∃ w1, w1 = W.alloc (.cells #[.int .i64 1, .int .i64 c1, .string (strB nm), .string (strB ot), .string sa, .int .i64 tm, .int .i64 c6, .int .i64 c7, .int .i64 c8, .int .i64 c9, .slice A m cp] 41) := ⟨_, rfl⟩
  obtain ⟨g, hg⟩ : ∃ g, g = W.heap.size := ⟨_, rfl⟩
  have hb : Below W.heap.size W w1 := by rw [hw1]; exact (Below.refl _ _).alloc (Nat.le_refl _) _
  have K1 : Hid (Blk w1 g 41 #[.int .i64 1, .int .i64 c1, .string (strB nm), .string (strB ot), .string sa, .int .i64 tm, .int .i64 c6, .int .i64 c7, .int .i64 c8, .int .i64 c9, .slice A m cp]) := Lib.hid (by rw [hw1, hg]; exact Blk.new W _ _ rfl)
  obtain ⟨cB, hcB⟩ : ∃ cB, cB = (LP w0 P h bs ns ds ++ M).length + 1 := ⟨_, rfl⟩
  obtain ⟨C1, hC1⟩ : ∃ C1, C1 = paint C W.heap.size cB := ⟨_, rfl⟩
  obtain ⟨BP, hBP⟩ : ∃ BP : PartT, BP = (fun W C => FrC W C cB (fun w => Blk w g 41 #[.int .i64 1, .int .i64 c1, .string (strB nm), .string (strB ot), .string sa, .int .i64 tm, .int .i64 c6, .int .i64 c7, .int .i64 c8, .int .i64 c9, .slice A m cp])) := ⟨_, rfl⟩
  have G1 : Hid (GS w0 w1 C1 (LP w0 P h bs ns ds ++ (M ++ [BP]))) := Lib.hid (by
    have h1 := hG.holdBlkA hb K1.out (by omega)
    rw [← hcB] at h1
    rw [hBP, hC1]; exact h1)
  have HBP : Hid (∀ w C, BP w C → w.cell? ⟨g, 2, none⟩ = some (.string (strB nm))) := Lib.hid (fun w C h => by rw [hBP] at h; exact (h.now.cell 2).trans rfl)
  have HX := Lib.hid hx; have HN := Lib.hid hn
  obtain ⟨lt, hlt⟩ : ∃ lt, lt = repL sa.data.toList (textK sa.size tm 70000) := ⟨_, rfl⟩
  have HT : Hid (∀ w', Calls Tryz.prog 105 #[.agg #[.int .i64 1, .int .i64 c1, .string (strB nm), .string (strB ot), .string sa, .int .i64 tm, .int .i64 c6, .int .i64 c7, .int .i64 c8, .int .i64 c9, .slice A m cp], .int .i64 70000] w' (TextQ w' lt)) := Lib.hid (fun w' => by rw [hlt]; exact text_any _ _ _ _ _ _ _ _ _ sa tm 70000 (by decide) hs w')
  have hll : lt.length ≤ 2000000 := by
    rw [hlt, repL_len]
    have e1 : sa.data.toList.length = sa.size := rfl
    rw [e1]
    unfold textK
    split
    · simp
    · have h1 : min tm.toNat (70000 / sa.size) * sa.size ≤ 70000 := Nat.le_trans (Nat.mul_le_mul_right _ (Nat.min_le_right _ _)) (Nat.div_mul_le_self _ _)
      omega
  obtain ⟨v, d', r', al', hA, hB⟩ := PairC.atR (w0 := w0) (P := P) (h := { h with g := true }) (bs := bs) (ns := ns) hx (pair_append al (DC.ok (LP.dk hG hx)) hn nm lt (by omega))
  have HA := Lib.hid hA; have HB := Lib.hid hB; have HAL := Lib.hid al'
  obtain ⟨z0, z1, z2, z3, z4, z5, z6, z7, z8, z9, z10⟩ : w1.cell? ⟨g, 0, none⟩ = some (.int .i64 1) ∧ w1.cell? ⟨g, 1, none⟩ = some (.int .i64 c1) ∧ w1.cell? ⟨g, 2, none⟩ = some (.string (strB nm)) ∧ w1.cell? ⟨g, 3, none⟩ = some (.string (strB ot)) ∧ w1.cell? ⟨g, 4, none⟩ = some (.string sa) ∧ w1.cell? ⟨g, 5, none⟩ = some (.int .i64 tm) ∧ w1.cell? ⟨g, 6, none⟩ = some (.int .i64 c6) ∧ w1.cell? ⟨g, 7, none⟩ = some (.int .i64 c7) ∧ w1.cell? ⟨g, 8, none⟩ = some (.int .i64 c8) ∧ w1.cell? ⟨g, 9, none⟩ = some (.int .i64 c9) ∧ w1.cell? ⟨g, 10, none⟩ = some (.slice A m cp) := ⟨(K1.out.cell 0).trans rfl, (K1.out.cell 1).trans rfl, (K1.out.cell 2).trans rfl, (K1.out.cell 3).trans rfl, (K1.out.cell 4).trans rfl, (K1.out.cell 5).trans rfl, (K1.out.cell 6).trans rfl, (K1.out.cell 7).trans rfl, (K1.out.cell 8).trans rfl, (K1.out.cell 9).trans rfl, (K1.out.cell 10).trans rfl⟩
  have p6 : w1.cell? ⟨P, 6, none⟩ = some (.bool true) := by rw [← hgv]; exact ((LP.pp G1.out).1.1.cell 6).trans rfl
  have HGV := Lib.hid hgv
  clear hb hG al hn hBP hC1 hcB hx hlt hA hB al' hgv
  go_enter Tryz.func59, Tryz.ntmps59
  go_upto_region 6 with fail
  rw [← hw1, ← hg]
  clear hw1 hg
  go_upto_region 8 with fail
  go_wp2_with fail
  clear p6
  refine (HT.out w1).mono ?_
  rintro e w3 ⟨v3, rfl, ho, hb3⟩
  have O3 : Hid (OB (w3.alloc (.cells #[.int .u8 77] 5)) w1.heap.size v3 lt) := Lib.hid (ho.keep ((Below.refl _ _).alloc (Nat.le_refl _) _))
  have K3 : Hid (Blk (w3.alloc (.cells #[.int .u8 77] 5)) w3.heap.size 5 #[.int .u8 77]) := Lib.hid (Blk.new _ _ _ rfl)
  have B3 := Lib.hid (hb3.alloc hb3.size (.cells #[.int .u8 77] 5))
  clear ho hb3 HT z0 z1 z2 z3 z4 z5 z6 z7 z8 z9 z10
  go_wp2_with ((at_builtin; go_must (refine append_row rfl (.tmp 41) (.tmp 42) 61 5 rfl Tryz.underlying61 info8 rfl (by decide) w1.heap.size v3 lt.length (lt.map byteV) rfl O3.out (some ⟨w3.heap.size, 0, none⟩) 1 1 [.int .u8 77] rfl rfl (fun e => by cases e) (news_at K3.out) (fun u hu => by rw [List.mem_singleton.1 hu]; rfl) (by omega) (by unfold maxLen; omega) B3.out.size ?_); intro v7 w7 ho7 hg7 ha7; refine halt ?_))
  refine unhalt ?_
  have B7 := Lib.hid (B3.out.grown hg7 B3.out.size (fun j hj => (World.ownsRow.lt O3.out j hj).1))
  have hl7 : (lt ++ [77]).length = lt.length + 1 := by rw [List.length_append]; rfl
  have O7 : Hid (OB w7 w1.heap.size v7 (lt ++ [77])) := Lib.hid (by unfold OB; rw [hl7, List.map_append]; exact ho7)
  obtain ⟨A7, cp7, hv7, hcp7, _, hA7⟩ := own_form ho7
  obtain ⟨gb, rfl⟩ : ∃ gb, A7 = some ⟨gb, 0, none⟩ := by
    rcases hA7 with ⟨_, h0⟩ | ⟨gb, e, _⟩
    · omega
    · exact ⟨gb, e⟩
  subst hv7
  have HI := IN.of_ob O7.out
  obtain ⟨cI, hcI⟩ : ∃ cI, cI = (LP w0 P h bs ns ds ++ (M ++ [BP])).length + 1 := ⟨_, rfl⟩
  obtain ⟨C7, G7⟩ : ∃ C7, Hid (GS w0 w7 C7 (LP w0 P h bs ns ds ++ (M ++ [BP] ++ [INt gb (lt.length + 1) cp7 cI (lt ++ [77])]))) := ⟨_, Lib.hid (by
    have h1 := G1.out.addB B7.out HI.1 HI.2
    rw [← hcI, List.append_assoc] at h1
    exact h1)⟩
  have p6 : w7.cell? ⟨P, 6, none⟩ = some (.bool true) := by rw [← HGV.out]; exact ((LP.pp G7.out).1.1.cell 6).trans rfl
  have f6 : w7.frozen? ⟨P, 6, none⟩ = false := (LP.pp G7.out).1.1.frozen 6
  have hG8 := LP.setG G7.out (true)
  clear ho7 hg7 ha7 O3 K3 B3 B7 O7 HI hA7 G1 K1
  go_upto_region 10 with fail
  obtain ⟨w8, hw8⟩ : ∃ w8, w8 = w7.setCell ⟨P, 6, none⟩ (.bool (true)) := ⟨_, rfl⟩
  rw [← hw8] at hG8 ⊢
  clear hw8 p6 f6 G7
  obtain ⟨C8, hG8⟩ := hG8
  have G8 := Lib.hid hG8
  clear hG8
  have q2 : w8.cell? ⟨g, 2, none⟩ = some (.string (strB nm)) := HBP.out _ _ (GS.lastA (GS.frontA G8.out))
  have HRB : Hid (∀ W C, INt gb (lt.length + 1) cp7 cI (lt ++ [77]) W C → RB W (some ⟨gb, 0, none⟩) lt.length lt) := Lib.hid (fun W C h => by
    have h1 := h.1.rb.take (k := lt.length) (by omega)
    rwa [List.take_left] at h1)
  go_wp2_with fail
  refine (HA.out w8 C8 (M ++ [BP] ++ [INt gb (lt.length + 1) cp7 cI (lt ++ [77])]) [.string (strB nm), .slice (some ⟨gb, 0, none⟩) lt.length cp7] G8.out ⟨_, _, _, rfl, HRB.out _ _ (GS.lastA G8.out)⟩).mono ?_
  rintro e w9 ⟨C9, rfl, hg9⟩
  have G9 := Lib.hid hg9
  clear hg9 q2 HA G8
  have q2 : w9.cell? ⟨g, 2, none⟩ = some (.string (strB nm)) := HBP.out _ _ (GS.lastA (GS.frontA G9.out))
  have v9 := conv_bytes w9 (some ⟨gb, 0, none⟩) lt.length cp7 lt (HRB.out _ _ (GS.lastA G9.out))
  go_wp2_with fail
  refine (HB.out w9 C9 (M ++ [BP] ++ [INt gb (lt.length + 1) cp7 cI (lt ++ [77])]) [.string (strB nm), .slice (some ⟨gb, 0, none⟩) lt.length cp7] G9.out ⟨_, _, _, rfl, HRB.out _ _ (GS.lastA G9.out)⟩).mono ?_
  rintro e w10 ⟨C10, rfl, hg10⟩
  have G10 := Lib.hid hg10
  clear hg10 q2 HB G9 v9
  have v10 := conv_bytes w10 (some ⟨gb, 0, none⟩) lt.length cp7 lt (HRB.out _ _ (GS.lastA G10.out))
  have y10 : w10.cell? ⟨gb, lt.length, none⟩ = some (.int .u8 77) := (GS.lastA G10.out).1.cell (x := 77) (by simp)
  go_upto_region 15 with fail
  obtain ⟨D, hD⟩ : ∃ D, D = ds.set j { x with n := x.n + 2, d := d', r := r' } := ⟨_, rfl⟩
  obtain ⟨hh, hhd⟩ : ∃ hh : Hd, hh = { h with g := true } := ⟨_, rfl⟩
  obtain ⟨Ls, hLs⟩ : ∃ Ls : List UInt8, Ls = lt ++ [77] := ⟨_, rfl⟩
  have G11 : Hid (GS w0 w10 C10 (LP w0 P hh bs ns D ++ (M ++ [BP] ++ [INt gb (lt.length + 1) cp7 cI Ls]))) := Lib.hid (by rw [hD, hhd, hLs]; exact G10.out)
  have HCI : Hid (cI = (LP w0 P hh bs ns D ++ (M ++ [BP])).length + 1) := Lib.hid (by rw [hcI, hD]; unfold LP; simp only [List.length_append, List.length_cons, DLp.len, List.length_set])
  have HM : Hid (∀ W' C', GS w0 W' C' (LP w0 P hh bs ns D ++ (M ++ [BP])) → ChgQ w0 P h bs ns ds j x M (.returned (.bool true)) W') := Lib.hid (fun W' C' hq => ⟨rfl, C', d', r', true, HAL.out, by rw [← hD, ← hhd]; exact GS.frontA hq⟩)
  obtain ⟨n1, hn1⟩ : ∃ n1, n1 = lt.length + 1 := ⟨_, rfl⟩
  rw [← hn1] at G11 hcp7 ⊢
  have HN1 := Lib.hid hn1
  have hn1l : n1 ≤ 2000001 := by omega
  clear hD hhd hLs HAL G10 v10 y10 hcI HRB HGV HX HN hl7 hn1
  go_wp2_with fail
  go_loopw [16] (fun iv W => ∃ k : Nat, k ≤ n1 ∧ iv = .int .i64 (k : Int) ∧ ∃ (l : List UInt8) (C' : Nat → Nat), Hid (GS w0 W C' (LP w0 P hh bs ns D ++ (M ++ [BP] ++ [INt gb n1 cp7 cI l])))) (fun iv _ => n1 - (intOf iv).toNat)
  case atStart => exact ⟨0, Nat.zero_le _, rfl, _, _, G11⟩
  case round =>
    clear G11
    obtain ⟨k, hk, rfl, l, Cr, G⟩ := hrel
    by_cases hlt : k < n1
    · obtain ⟨u, c1⟩ := (GS.lastA G.out).1.has (j := k) (by omega)
      have f1 := (GS.lastA G.out).1.frozen (j := k) (by omega)
      go_wp2_with fail
      obtain ⟨Cq, HG2⟩ : ∃ Cq, Hid (GS w0 (wr.setCell ⟨gb, k, none⟩ (.int .u8 255)) Cq (LP w0 P hh bs ns D ++ (M ++ [BP] ++ [INt gb n1 cp7 cI (l.set k 255)]))) := by
        have h1 := G.out
        rw [← List.append_assoc] at h1
        obtain ⟨Cq, h2⟩ := h1.putB HCI.out k 255
        rw [List.append_assoc] at h2
        exact ⟨Cq, Lib.hid h2⟩
      go_roundw
      case rel => exact ⟨k + 1, by omega, by go_num, _, _, HG2⟩
      case measure => simp [intOf]; omega
    · have HF := Lib.hid (HM.out _ _ (GS.frontA G.out))
      go_wp2_with fail
      go_ret
      exact HF.out
set_option maxRecDepth 20000 in
set_option maxHeartbeats 4000000 in
theorem changes_append_false {w0 W : World} {C : Nat → Nat} {P : Nat} {h : Hd} {bs : List (List UInt8)} {ns : List (List (List UInt8))} {ds : List DE} {M : List PartT} {j : Nat} {x : DE} (hG : GS w0 W C (LP w0 P h bs ns ds ++ M)) (hx : ds[j]? = some x) (al : Alike x.d x.r x.n) (hn : x.n + 2 < 1000000) (hgv : h.g = false) (c1 : Int) (nm ot : List UInt8) (sa : ByteArray) (tm c6 c7 c8 c9 : Int) (A : Option Addr) (m cp : Nat) (hs : sa.size ≤ 140737488355328) : Calls Tryz.prog 59 #[.pointer (some ⟨P, 0, none⟩), .pointer (some ⟨x.p, 0, none⟩), .pointer (some ⟨x.q, 0, none⟩), .agg #[.int .i64 1, .int .i64 c1, .string (strB nm), .string (strB ot), .string sa, .int .i64 tm, .int .i64 c6, .int .i64 c7, .int .i64 c8, .int .i64 c9, .slice A m cp]] W (ChgQ w0 P h bs ns ds j x M) := by
  obtain ⟨w1, hw1⟩ : ∃ w1, w1 = W.alloc (.cells #[.int .i64 1, .int .i64 c1, .string (strB nm), .string (strB ot), .string sa, .int .i64 tm, .int .i64 c6, .int .i64 c7, .int .i64 c8, .int .i64 c9, .slice A m cp] 41) := ⟨_, rfl⟩
  obtain ⟨g, hg⟩ : ∃ g, g = W.heap.size := ⟨_, rfl⟩
  have hb : Below W.heap.size W w1 := by rw [hw1]; exact (Below.refl _ _).alloc (Nat.le_refl _) _
  have K1 : Hid (Blk w1 g 41 #[.int .i64 1, .int .i64 c1, .string (strB nm), .string (strB ot), .string sa, .int .i64 tm, .int .i64 c6, .int .i64 c7, .int .i64 c8, .int .i64 c9, .slice A m cp]) := Lib.hid (by rw [hw1, hg]; exact Blk.new W _ _ rfl)
  obtain ⟨cB, hcB⟩ : ∃ cB, cB = (LP w0 P h bs ns ds ++ M).length + 1 := ⟨_, rfl⟩
  obtain ⟨C1, hC1⟩ : ∃ C1, C1 = paint C W.heap.size cB := ⟨_, rfl⟩
  obtain ⟨BP, hBP⟩ : ∃ BP : PartT, BP = (fun W C => FrC W C cB (fun w => Blk w g 41 #[.int .i64 1, .int .i64 c1, .string (strB nm), .string (strB ot), .string sa, .int .i64 tm, .int .i64 c6, .int .i64 c7, .int .i64 c8, .int .i64 c9, .slice A m cp])) := ⟨_, rfl⟩
  have G1 : Hid (GS w0 w1 C1 (LP w0 P h bs ns ds ++ (M ++ [BP]))) := Lib.hid (by
    have h1 := hG.holdBlkA hb K1.out (by omega)
    rw [← hcB] at h1
    rw [hBP, hC1]; exact h1)
  have HBP : Hid (∀ w C, BP w C → w.cell? ⟨g, 2, none⟩ = some (.string (strB nm))) := Lib.hid (fun w C h => by rw [hBP] at h; exact (h.now.cell 2).trans rfl)
  have HX := Lib.hid hx; have HN := Lib.hid hn
  obtain ⟨lt, hlt⟩ : ∃ lt, lt = repL sa.data.toList (textK sa.size tm 2000000) := ⟨_, rfl⟩
  have HT : Hid (∀ w', Calls Tryz.prog 105 #[.agg #[.int .i64 1, .int .i64 c1, .string (strB nm), .string (strB ot), .string sa, .int .i64 tm, .int .i64 c6, .int .i64 c7, .int .i64 c8, .int .i64 c9, .slice A m cp], .int .i64 2000000] w' (TextQ w' lt)) := Lib.hid (fun w' => by rw [hlt]; exact text_any _ _ _ _ _ _ _ _ _ sa tm 2000000 (by decide) hs w')
  have hll : lt.length ≤ 2000000 := by
    rw [hlt, repL_len]
    have e1 : sa.data.toList.length = sa.size := rfl
    rw [e1]
    unfold textK
    split
    · simp
    · have h1 : min tm.toNat (2000000 / sa.size) * sa.size ≤ 2000000 := Nat.le_trans (Nat.mul_le_mul_right _ (Nat.min_le_right _ _)) (Nat.div_mul_le_self _ _)
      omega
  obtain ⟨v, d', r', al', hA, hB⟩ := PairC.atR (w0 := w0) (P := P) (h := { h with g := decide ((70001 : Int) < (lt.length : Int) + 1) }) (bs := bs) (ns := ns) hx (pair_append al (DC.ok (LP.dk hG hx)) hn nm lt (by omega))
  have HA := Lib.hid hA; have HB := Lib.hid hB; have HAL := Lib.hid al'
  obtain ⟨z0, z1, z2, z3, z4, z5, z6, z7, z8, z9, z10⟩ : w1.cell? ⟨g, 0, none⟩ = some (.int .i64 1) ∧ w1.cell? ⟨g, 1, none⟩ = some (.int .i64 c1) ∧ w1.cell? ⟨g, 2, none⟩ = some (.string (strB nm)) ∧ w1.cell? ⟨g, 3, none⟩ = some (.string (strB ot)) ∧ w1.cell? ⟨g, 4, none⟩ = some (.string sa) ∧ w1.cell? ⟨g, 5, none⟩ = some (.int .i64 tm) ∧ w1.cell? ⟨g, 6, none⟩ = some (.int .i64 c6) ∧ w1.cell? ⟨g, 7, none⟩ = some (.int .i64 c7) ∧ w1.cell? ⟨g, 8, none⟩ = some (.int .i64 c8) ∧ w1.cell? ⟨g, 9, none⟩ = some (.int .i64 c9) ∧ w1.cell? ⟨g, 10, none⟩ = some (.slice A m cp) := ⟨(K1.out.cell 0).trans rfl, (K1.out.cell 1).trans rfl, (K1.out.cell 2).trans rfl, (K1.out.cell 3).trans rfl, (K1.out.cell 4).trans rfl, (K1.out.cell 5).trans rfl, (K1.out.cell 6).trans rfl, (K1.out.cell 7).trans rfl, (K1.out.cell 8).trans rfl, (K1.out.cell 9).trans rfl, (K1.out.cell 10).trans rfl⟩
  have p6 : w1.cell? ⟨P, 6, none⟩ = some (.bool false) := by rw [← hgv]; exact ((LP.pp G1.out).1.1.cell 6).trans rfl
  have HGV := Lib.hid hgv
  clear hb hG al hn hBP hC1 hcB hx hlt hA hB al' hgv
  go_enter Tryz.func59, Tryz.ntmps59
  go_upto_region 6 with fail
  rw [← hw1, ← hg]
  clear hw1 hg
  go_upto_region 8 with fail
  go_wp2_with fail
  clear p6
  refine (HT.out w1).mono ?_
  rintro e w3 ⟨v3, rfl, ho, hb3⟩
  have O3 : Hid (OB (w3.alloc (.cells #[.int .u8 77] 5)) w1.heap.size v3 lt) := Lib.hid (ho.keep ((Below.refl _ _).alloc (Nat.le_refl _) _))
  have K3 : Hid (Blk (w3.alloc (.cells #[.int .u8 77] 5)) w3.heap.size 5 #[.int .u8 77]) := Lib.hid (Blk.new _ _ _ rfl)
  have B3 := Lib.hid (hb3.alloc hb3.size (.cells #[.int .u8 77] 5))
  clear ho hb3 HT z0 z1 z2 z3 z4 z5 z6 z7 z8 z9 z10
  go_wp2_with ((at_builtin; go_must (refine append_row rfl (.tmp 41) (.tmp 42) 61 5 rfl Tryz.underlying61 info8 rfl (by decide) w1.heap.size v3 lt.length (lt.map byteV) rfl O3.out (some ⟨w3.heap.size, 0, none⟩) 1 1 [.int .u8 77] rfl rfl (fun e => by cases e) (news_at K3.out) (fun u hu => by rw [List.mem_singleton.1 hu]; rfl) (by omega) (by unfold maxLen; omega) B3.out.size ?_); intro v7 w7 ho7 hg7 ha7; refine halt ?_))
  refine unhalt ?_
  have B7 := Lib.hid (B3.out.grown hg7 B3.out.size (fun j hj => (World.ownsRow.lt O3.out j hj).1))
  have hl7 : (lt ++ [77]).length = lt.length + 1 := by rw [List.length_append]; rfl
  have O7 : Hid (OB w7 w1.heap.size v7 (lt ++ [77])) := Lib.hid (by unfold OB; rw [hl7, List.map_append]; exact ho7)
  obtain ⟨A7, cp7, hv7, hcp7, _, hA7⟩ := own_form ho7
  obtain ⟨gb, rfl⟩ : ∃ gb, A7 = some ⟨gb, 0, none⟩ := by
    rcases hA7 with ⟨_, h0⟩ | ⟨gb, e, _⟩
    · omega
    · exact ⟨gb, e⟩
  subst hv7
  have HI := IN.of_ob O7.out
  obtain ⟨cI, hcI⟩ : ∃ cI, cI = (LP w0 P h bs ns ds ++ (M ++ [BP])).length + 1 := ⟨_, rfl⟩
  obtain ⟨C7, G7⟩ : ∃ C7, Hid (GS w0 w7 C7 (LP w0 P h bs ns ds ++ (M ++ [BP] ++ [INt gb (lt.length + 1) cp7 cI (lt ++ [77])]))) := ⟨_, Lib.hid (by
    have h1 := G1.out.addB B7.out HI.1 HI.2
    rw [← hcI, List.append_assoc] at h1
    exact h1)⟩
  have p6 : w7.cell? ⟨P, 6, none⟩ = some (.bool false) := by rw [← HGV.out]; exact ((LP.pp G7.out).1.1.cell 6).trans rfl
  have f6 : w7.frozen? ⟨P, 6, none⟩ = false := (LP.pp G7.out).1.1.frozen 6
  have hG8 := LP.setG G7.out (decide ((70001 : Int) < (lt.length : Int) + 1))
  clear ho7 hg7 ha7 O3 K3 B3 B7 O7 HI hA7 G1 K1
  go_upto_region 10 with fail
  obtain ⟨w8, hw8⟩ : ∃ w8, w8 = w7.setCell ⟨P, 6, none⟩ (.bool (decide ((70001 : Int) < (lt.length : Int) + 1))) := ⟨_, rfl⟩
  rw [← hw8] at hG8 ⊢
  clear hw8 p6 f6 G7
  obtain ⟨C8, hG8⟩ := hG8
  have G8 := Lib.hid hG8
  clear hG8
  have q2 : w8.cell? ⟨g, 2, none⟩ = some (.string (strB nm)) := HBP.out _ _ (GS.lastA (GS.frontA G8.out))
  have HRB : Hid (∀ W C, INt gb (lt.length + 1) cp7 cI (lt ++ [77]) W C → RB W (some ⟨gb, 0, none⟩) lt.length lt) := Lib.hid (fun W C h => by
    have h1 := h.1.rb.take (k := lt.length) (by omega)
    rwa [List.take_left] at h1)
  go_wp2_with fail
  refine (HA.out w8 C8 (M ++ [BP] ++ [INt gb (lt.length + 1) cp7 cI (lt ++ [77])]) [.string (strB nm), .slice (some ⟨gb, 0, none⟩) lt.length cp7] G8.out ⟨_, _, _, rfl, HRB.out _ _ (GS.lastA G8.out)⟩).mono ?_
  rintro e w9 ⟨C9, rfl, hg9⟩
  have G9 := Lib.hid hg9
  clear hg9 q2 HA G8
  have q2 : w9.cell? ⟨g, 2, none⟩ = some (.string (strB nm)) := HBP.out _ _ (GS.lastA (GS.frontA G9.out))
  have v9 := conv_bytes w9 (some ⟨gb, 0, none⟩) lt.length cp7 lt (HRB.out _ _ (GS.lastA G9.out))
  go_wp2_with fail
  refine (HB.out w9 C9 (M ++ [BP] ++ [INt gb (lt.length + 1) cp7 cI (lt ++ [77])]) [.string (strB nm), .slice (some ⟨gb, 0, none⟩) lt.length cp7] G9.out ⟨_, _, _, rfl, HRB.out _ _ (GS.lastA G9.out)⟩).mono ?_
  rintro e w10 ⟨C10, rfl, hg10⟩
  have G10 := Lib.hid hg10
  clear hg10 q2 HB G9 v9
  have v10 := conv_bytes w10 (some ⟨gb, 0, none⟩) lt.length cp7 lt (HRB.out _ _ (GS.lastA G10.out))
  have y10 : w10.cell? ⟨gb, lt.length, none⟩ = some (.int .u8 77) := (GS.lastA G10.out).1.cell (x := 77) (by simp)
  go_upto_region 15 with fail
  obtain ⟨D, hD⟩ : ∃ D, D = ds.set j { x with n := x.n + 2, d := d', r := r' } := ⟨_, rfl⟩
  obtain ⟨hh, hhd⟩ : ∃ hh : Hd, hh = { h with g := decide ((70001 : Int) < (lt.length : Int) + 1) } := ⟨_, rfl⟩
  obtain ⟨Ls, hLs⟩ : ∃ Ls : List UInt8, Ls = lt ++ [77] := ⟨_, rfl⟩
  have G11 : Hid (GS w0 w10 C10 (LP w0 P hh bs ns D ++ (M ++ [BP] ++ [INt gb (lt.length + 1) cp7 cI Ls]))) := Lib.hid (by rw [hD, hhd, hLs]; exact G10.out)
  have HCI : Hid (cI = (LP w0 P hh bs ns D ++ (M ++ [BP])).length + 1) := Lib.hid (by rw [hcI, hD]; unfold LP; simp only [List.length_append, List.length_cons, DLp.len, List.length_set])
  have HM : Hid (∀ W' C', GS w0 W' C' (LP w0 P hh bs ns D ++ (M ++ [BP])) → ChgQ w0 P h bs ns ds j x M (.returned (.bool true)) W') := Lib.hid (fun W' C' hq => ⟨rfl, C', d', r', decide ((70001 : Int) < (lt.length : Int) + 1), HAL.out, by rw [← hD, ← hhd]; exact GS.frontA hq⟩)
  obtain ⟨n1, hn1⟩ : ∃ n1, n1 = lt.length + 1 := ⟨_, rfl⟩
  rw [← hn1] at G11 hcp7 ⊢
  have HN1 := Lib.hid hn1
  have hn1l : n1 ≤ 2000001 := by omega
  clear hD hhd hLs HAL G10 v10 y10 hcI HRB HGV HX HN hl7 hn1
  go_wp2_with fail
  go_loopw [16] (fun iv W => ∃ k : Nat, k ≤ n1 ∧ iv = .int .i64 (k : Int) ∧ ∃ (l : List UInt8) (C' : Nat → Nat), Hid (GS w0 W C' (LP w0 P hh bs ns D ++ (M ++ [BP] ++ [INt gb n1 cp7 cI l])))) (fun iv _ => n1 - (intOf iv).toNat)
  case atStart => exact ⟨0, Nat.zero_le _, rfl, _, _, G11⟩
  case round =>
    clear G11
    obtain ⟨k, hk, rfl, l, Cr, G⟩ := hrel
    by_cases hlt : k < n1
    · obtain ⟨u, c1⟩ := (GS.lastA G.out).1.has (j := k) (by omega)
      have f1 := (GS.lastA G.out).1.frozen (j := k) (by omega)
      go_wp2_with fail
      obtain ⟨Cq, HG2⟩ : ∃ Cq, Hid (GS w0 (wr.setCell ⟨gb, k, none⟩ (.int .u8 255)) Cq (LP w0 P hh bs ns D ++ (M ++ [BP] ++ [INt gb n1 cp7 cI (l.set k 255)]))) := by
        have h1 := G.out
        rw [← List.append_assoc] at h1
        obtain ⟨Cq, h2⟩ := h1.putB HCI.out k 255
        rw [List.append_assoc] at h2
        exact ⟨Cq, Lib.hid h2⟩
      go_roundw
      case rel => exact ⟨k + 1, by omega, by go_num, _, _, HG2⟩
      case measure => simp [intOf]; omega
    · have HF := Lib.hid (HM.out _ _ (GS.frontA G.out))
      go_wp2_with fail
      go_ret
      exact HF.out
end Go.Proofs.YtlojmmcagglpoaaGreat
