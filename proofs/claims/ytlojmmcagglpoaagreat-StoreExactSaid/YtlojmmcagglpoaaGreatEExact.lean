/- THE WALK of the law StoreExact. -/
import Derived.Test.YtlojmmcagglpoaaGreatEPair2
import Derived.Test.YtlojmmcagglpoaaGreatEStoreKnown
import Derived.Test.YtlojmmcagglpoaaGreatEStr
import Derived.Test.YtlojmmcagglpoaaGreatEX22
import Derived.ArgAppend
import Derived.Deep.QuietTactic
import Derived.BigQuiet
namespace Go.Proofs.YtlojmmcagglpoaaGreat
open Go.RowKit Go.Maps
theorem DC.less {W : World} {N N' : Nat} {C : Nat → Nat} {c p n : Nat} {d : Dk} (h : DC W N C c p n d) (hN : N' ≤ N) : DC W N' C c p n d := by
  obtain ⟨h0, bf, bn, bs, fl, h3, h4⟩ := h
  exact ⟨h0, bf, bn, bs, fl, ⟨h3.bd, h3.mf, h3.mn, h3.ms, ⟨Nat.le_trans hN h3.lo.1, Nat.le_trans hN h3.lo.2.1, Nat.le_trans hN h3.lo.2.2.1, Nat.le_trans hN h3.lo.2.2.2.1, h3.lo.2.2.2.2⟩, h3.hf, fun i g x hi hx => ⟨Nat.le_trans hN (h3.fw i g x hi hx).1, by
    obtain ⟨v, hv, ho⟩ := (h3.fw i g x hi hx).2
    exact ⟨v, hv, ho.less hN⟩⟩, h3.ap, h3.ab⟩, h4⟩
theorem ownsRow_less {w : World} {base base' size n : Nat} {e : TypeId} {v : Value} {xs : List Value} (h : w.ownsRow base e size v n xs) (hb : base' ≤ base) : w.ownsRow base' e size v n xs := by
  refine ⟨h.1, ?_⟩
  rcases h.2 with h0 | ⟨g, cap, cur, hv, hg, r⟩
  · exact .inl h0
  · exact .inr ⟨g, cap, cur, hv, Nat.le_trans hb hg, r⟩
theorem RC.less {W : World} {N N' : Nat} {C : Nat → Nat} {c p : Nat} {r : Rd} (h : RC W N C c p r) (hN : N' ≤ N) : RC W N' C c p r := by
  obtain ⟨us, vi, vn, hw⟩ := h
  exact ⟨us, vi, vn, hw.is, hw.bd, ownsRow_less hw.ri hN, ownsRow_less hw.rn hN, fun k u hu => (hw.ob k u hu).less hN, hw.ap, Nat.le_trans hN hw.lo, hw.cp, hw.ci, hw.cn, hw.cu⟩
section
variable {w0 W : World} {C : Nat → Nat} {L : List PartT}
theorem GS.newD (h : GS w0 W C L) : Calls Tryz.prog 8 #[] W fun e w' => ∃ p, e = .returned (.pointer (some ⟨p, 0, none⟩)) ∧ GS w0 w' (paint C W.heap.size (L.length + 1)) (L ++ [DCp w0 (L.length + 1) p 0 emptyD]) := by
  refine (new_c W C (L.length + 1)).mono ?_
  rintro e w' ⟨p, he, hp, hd, hb⟩
  exact ⟨p, he, h.add hb (hd.less h.bel.size) (Stb.dcp _ _ _ _ _)⟩
theorem GS.newR (h : GS w0 W C L) : GS w0 (W.alloc (.cells #[.slice none 0 0, .slice none 0 0] 47)) (paint C W.heap.size (L.length + 1)) (L ++ [RCp w0 (L.length + 1) W.heap.size ⟨[], []⟩]) := by
  have h1 := RW.fresh W C (L.length + 1)
  exact h.add ((Below.refl _ _).alloc (Nat.le_refl _) _) (RC.less ⟨_, _, _, h1⟩ h.bel.size) (Stb.rcp _ _ _ _)
theorem GS.newR14 (h : GS w0 W C L) : Calls Tryz.prog 9 #[] W fun e w' => ∃ p, e = .returned (.pointer (some ⟨p, 0, none⟩)) ∧ GS w0 w' (paint C W.heap.size (L.length + 1)) (L ++ [RCp w0 (L.length + 1) p ⟨[], []⟩]) := by
  refine (rnew_any W C (L.length + 1)).mono ?_
  rintro e w' ⟨p, he, hd, hb⟩
  exact ⟨p, he, h.add hb (RC.less hd h.bel.size) (Stb.rcp _ _ _ _)⟩
theorem GS.begun (W : World) {W' : World} (hb : Below W.heap.size W W') : GS W W' (fun _ => 0) [] := (GS.nil W).keep hb
end
end Go.Proofs.YtlojmmcagglpoaaGreat
namespace Go.Proofs.YtlojmmcagglpoaaGreat
open Go.RowKit Go.Maps
/-- the block b holds the n bytes of l, and has room for c -/
structure IN (w : World) (b n c : Nat) (l : List UInt8) : Prop where
  len : l.length = n
  nc : n ≤ c
  cm : c ≤ maxLen
  blk : ∃ cs mk, w.heap[b]? = some (.cells cs 5 mk) ∧ c ≤ cs.size ∧ (mk = (0, 0) ∨ c ≤ mk.1) ∧ ∀ (j : Nat) (x : UInt8), l[j]? = some x → cs[j]? = some (byteV x)
section
variable {w w' : World} {b n c : Nat} {l : List UInt8}
theorem IN.lt (h : IN w b n c l) : b < w.heap.size := by
  obtain ⟨cs, mk, h1, _⟩ := h.blk
  exact (Array.getElem?_eq_some_iff.1 h1).1
theorem cell_blk {cs : Array Value} {t : TypeId} {mk : Nat × Nat} (h : w.heap[b]? = some (.cells cs t mk)) (j : Nat) : w.cell? ⟨b, j, none⟩ = cs[j]? := by
  unfold World.cell?
  simp only [h]
  cases cs[j]? <;> rfl
theorem IN.cell (h : IN w b n c l) {j : Nat} {x : UInt8} (hj : l[j]? = some x) : w.cell? ⟨b, j, none⟩ = some (.int .u8 (x.toNat : Int)) := by
  obtain ⟨cs, mk, h1, _, _, h4⟩ := h.blk
  rw [cell_blk h1]; exact h4 j x hj
theorem IN.has (h : IN w b n c l) {j : Nat} (hj : j < c) : ∃ u, w.cell? ⟨b, j, none⟩ = some u := by
  obtain ⟨cs, mk, h1, h2, _, _⟩ := h.blk
  exact ⟨cs[j]'(by omega), by rw [cell_blk h1]; exact Array.getElem?_eq_getElem (by omega)⟩
theorem IN.frozen (h : IN w b n c l) {j : Nat} (hj : j < c) : w.frozen? ⟨b, j, none⟩ = false := by
  obtain ⟨cs, ⟨m1, m2⟩, h1, h2, h3, _⟩ := h.blk
  unfold World.frozen?
  simp only [h1]
  rcases h3 with h3 | h3
  · obtain ⟨rfl, rfl⟩ : m1 = 0 ∧ m2 = 0 := by simpa using h3
    simp
  · simp only at h3
    simp; omega
theorem IN.rb (h : IN w b n c l) : RB w (some ⟨b, 0, none⟩) n l := ⟨h.len, fun _ => ⟨b, 0, rfl, h.lt, fun j x hj => by rw [Nat.zero_add]; exact h.cell hj⟩⟩
theorem IN.chg (h : IN w b n c l) {S : Nat → Prop} (hc : Chg S w w') (hb : ¬ S b) : IN w' b n c l := by
  obtain ⟨h1, h2, h3, cs, mk, h4, h5⟩ := h
  exact ⟨h1, h2, h3, cs, mk, (hc.block b (Array.getElem?_eq_some_iff.1 h4).1 hb).trans h4, h5⟩
theorem IN.keep (h : IN w b n c l) (hb : Below w.heap.size w w') : IN w' b n c l := h.chg (Chg.of_below hb (fun _ => False)) id
theorem FrC.in_ {C : Nat → Nat} {k : Nat} (h : IN w b n c l) (hc : C b = k) : FrC w C k (fun w => IN w b n c l) :=
  ⟨h, fun w2 _ hk => by
    obtain ⟨h1, h2, h3, cs, mk, h4, h5⟩ := h
    exact ⟨h1, h2, h3, cs, mk, (hk b (Array.getElem?_eq_some_iff.1 h4).1 hc).trans h4, h5⟩⟩
theorem heap_setCell {cs : Array Value} {t : TypeId} {mk : Nat × Nat} (h : w.heap[b]? = some (.cells cs t mk)) (j : Nat) (u : Value) : (w.setCell ⟨b, j, none⟩ u).heap[b]? = some (.cells (cs.setIfInBounds j u) t mk) := by
  unfold World.setCell
  simp [Array.getElem?_modify, h]
/-- one of its bytes is written -/
theorem IN.put (h : IN w b n c l) (k : Nat) (x : UInt8) : IN (w.setCell ⟨b, k, none⟩ (.int .u8 (x.toNat : Int))) b n c (l.set k x) := by
  obtain ⟨h1, h2, h3, cs, mk, h4, h5, h6, h7⟩ := h
  refine ⟨by rw [List.length_set]; exact h1, h2, h3, _, mk, heap_setCell h4 k _, by simpa using h5, h6, fun j y hj => ?_⟩
  by_cases e : j = k
  · subst e
    have hl := (List.getElem?_eq_some_iff.1 hj).1
    rw [List.length_set] at hl
    rw [List.getElem?_set_self hl] at hj
    obtain rfl := Option.some.inj hj
    rw [Array.getElem?_setIfInBounds_self, if_pos (by omega)]; rfl
  · rw [List.getElem?_set_ne (fun e2 => e e2.symm)] at hj
    rw [Array.getElem?_setIfInBounds_ne (fun e2 => e e2.symm)]
    exact h7 j y hj
/-- one byte more, in its room -/
theorem IN.push (h : IN w b n c l) (hn : n < c) (x : UInt8) : IN (w.setCell ⟨b, n, none⟩ (.int .u8 (x.toNat : Int))) b (n + 1) c (l ++ [x]) := by
  obtain ⟨h1, h2, h3, cs, mk, h4, h5, h6, h7⟩ := h
  refine ⟨by rw [List.length_append, h1]; rfl, hn, h3, _, mk, heap_setCell h4 n _, by simpa using h5, h6, fun j y hj => ?_⟩
  by_cases e : j < l.length
  · rw [List.getElem?_append_left e] at hj
    rw [Array.getElem?_setIfInBounds_ne (by omega)]
    exact h7 j y hj
  · rw [List.getElem?_append_right (by omega)] at hj
    have h0 : j - l.length = 0 := by have := (List.getElem?_eq_some_iff.1 hj).1; simp at this; omega
    rw [h0] at hj
    obtain rfl := Option.some.inj hj
    have hjn : j = n := by omega
    subst hjn
    rw [Array.getElem?_setIfInBounds_self, if_pos (by omega)]; rfl
theorem IN.of_ob {base : Nat} (h : OB w base (.slice (some ⟨b, 0, none⟩) n c) l) : IN w b n c l ∧ base ≤ b := by
  have hn : l.length = n := h.len
  subst hn
  rcases h.2 with ⟨e, _⟩ | ⟨g, cap, cur, hv, hb, hh, h1, h2, h3, h4⟩
  · cases e
  · injection hv with e1 e2 e3
    injection e1 with e1
    injection e1 with e1
    subst e1 e3
    rw [Nat.mul_one] at h3 h4
    refine ⟨⟨rfl, h1, h2, cur, (0, 0), hh, by omega, .inl rfl, fun j x hj => ?_⟩, hb⟩
    have hjl := (List.getElem?_eq_some_iff.1 hj).1
    have h5 : (List.take l.length cur.toList)[j]? = (l.map byteV)[j]? := by rw [h4]
    rw [List.getElem?_take, if_pos hjl, List.getElem?_map, hj] at h5
    simpa using h5
theorem conv_in (w : World) (l : List UInt8) (hl : l.length ≤ 1000000000) : ∃ w' c, (convert 9 61 (.string (strB l))).run Tryz.prog w = .ok (.slice (some ⟨w.heap.size, 0, none⟩) l.length c) w' ∧ Below w.heap.size w w' ∧ IN w' w.heap.size l.length c l := by
  refine ⟨_, _, Lib.run_convert_string_bytes (P := Tryz.prog) w 9 61 5 (strB l) Tryz.underlying9 Tryz.underlying61 Tryz.underlying5, below_bytes _ _ _, ?_⟩
  have hs : (strB l).size = l.length := by simp [strB, ByteArray.size]
  have hg := grownCap_ge w (strB l).size 0 5
  refine ⟨rfl, by rw [← hs]; exact hg, grownCap_le_maxLen _ _ _ _ (by rw [hs]; unfold maxLen; omega), _, _, Lib.bytesWorld_at_new w 5 (strB l), ?_, .inr ?_, fun j x hj => ?_⟩
  · simp [Lib.bytesCells]; omega
  · simp [Lib.bytesCells]; omega
  · have hjl := (List.getElem?_eq_some_iff.1 hj).1
    unfold Lib.bytesCells
    rw [Array.getElem?_append_left (by simp [strB]; exact hjl)]
    have h2 : l[j] = x := (List.getElem?_eq_some_iff.1 hj).2
    simp [strB, hj, byteV]
/-- one byte more behind such bytes: in their room, or in a block of the call's own -/
theorem append_in {ops : Array Oper} {rest : List Oper} {o : Oper} {a : Act} {Q : Exit → Act → World → Prop} (hgd : o.guard = none) (s x : Operand)
    (ho : o.op = .call { callee := .builtin .append, args := #[s, x], argTypes := #[61, 61] })
    (hs : a.eval s = .slice (some ⟨b, 0, none⟩) n c) (hu : IN w b n c l) (g0 c0 : Nat) (m : UInt8) (hx : a.eval x = .slice (some ⟨g0, 0, none⟩) 1 c0) (hm : w.cell? ⟨g0, 0, none⟩ = some (byteV m)) (hlen : n ≤ 1000000000)
    (h : ∀ b' c' w', IN w' b' (n + 1) c' (l ++ [m]) → Chg (fun q => q = b) w w' → (b' = b ∨ w.heap.size ≤ b') → wpList Tryz.prog ops Q rest (a.put o.dst (.slice (some ⟨b', 0, none⟩) (n + 1) c')) w') : wpList Tryz.prog ops Q (o :: rest) a w := by
  obtain ⟨i0, hi, hz0, hz1, hz2⟩ := info_parts info8
  have hnews : ∀ j z, [byteV m][j]? = some z → w.cell? ((⟨g0, 0, none⟩ : Addr).add j) = some z := fun j z hj => by
    match j, hj with
    | 0, hj => obtain rfl := Option.some.inj hj; simpa [Addr.add] using hm
    | j + 1, hj => simp at hj
  have hone : ∀ z ∈ [byteV m], z.oneCell' = true := fun z hz => by simp at hz; subst hz; rfl
  by_cases hfit : n + 1 ≤ c
  · have hrun := run_append_room_cells (P := Tryz.prog) w 61 o.type 5 i0 Tryz.underlying61 hi b 0 n c ⟨g0, 0, none⟩ 1 c0 [byteV m] (by rw [hz1]; rfl) hnews hone hfit (fun j hj => by
        have hj0 : j = 0 := by simpa using hj
        subst hj0
        rw [hz1]
        obtain ⟨u, e⟩ := hu.has (j := n) (by omega)
        rw [Nat.mul_one, Nat.zero_add, Nat.add_zero, e]; rfl) (fun j hj => by
        have hj0 : j = 0 := by simpa using hj
        subst hj0
        rw [hz1, Nat.mul_one, Nat.zero_add, Nat.add_zero]
        exact hu.frozen (by omega))
    rw [hz1, Nat.mul_one, Nat.zero_add] at hrun
    have hw' : w.setCells b n [byteV m] = w.setCell ⟨b, n, none⟩ (byteV m) := rfl
    rw [hw'] at hrun
    refine wpList_plain hgd fun K hK => ?_
    unfold Oper.wp execOp
    simp only [ho, resolve, invoke, builtin, Sem.run_bind, Sem.run_pure, Result.andThen_ok, List.map_toArray, List.map_cons, List.map_nil, hs, hx, hrun]
    exact hK _ _ (h _ _ _ (hu.push (by omega) m) (Chg.setCell (S := fun q => q = b) (p := ⟨b, n, none⟩) (Chg.refl _ w) (.inl rfl) _) (.inl rfl))
  · have hc1 : c = n := by have := hu.nc; omega
    subst hc1
    have hlc := hu.len
    refine wpList_append_grows w hgd s x 61 ho 5 i0 _ 1 1 Tryz.underlying61 hi hz0 hz1 hz2 rfl (by omega) (some ⟨b, 0, none⟩) c c (l.map byteV) hs (fun e => by cases e) (by simp [hlc]) (fun ad e j z hz => ?_) ⟨g0, 0, none⟩ 1 c0 [byteV m] hx rfl hnews hone (by omega) (by simp only [maxLen]; omega) (by omega) ?_
    · obtain rfl := Option.some.inj e
      have e3 : (⟨b, 0, none⟩ : Addr).add j = ⟨b, j, none⟩ := by unfold Addr.add; split <;> simp_all
      rw [List.getElem?_map] at hz
      cases hq : l[j]? with
      | none => rw [hq] at hz; cases hz
      | some y =>
        rw [hq] at hz
        obtain rfl := Option.some.inj hz
        rw [e3]; exact hu.cell hq
    · intro v' w' h1 h2
      have hob : OB w' w.heap.size v' (l ++ [m]) := by
        unfold OB
        rw [List.length_append, List.map_append]
        rw [← hlc] at h1
        simpa using h1
      obtain ⟨A', c', e, _, _, hA⟩ := own_form (show w'.ownsRow w.heap.size 5 1 v' (l ++ [m]).length ((l ++ [m]).map byteV) from hob)
      rcases hA with ⟨_, h0⟩ | ⟨g, rfl, _, _⟩
      · simp at h0
      · subst e
        have hln : (l ++ [m]).length = c + 1 := by rw [List.length_append, hlc]; rfl
        rw [hln] at hob ⊢
        obtain ⟨h5, h6⟩ := IN.of_ob hob
        exact h _ _ _ h5 (Chg.of_below ⟨h2.os, h2.tape, h2.output, h2.size, fun k hk => h2.block k hk (by simp)⟩ _) (.inr h6)
end
end Go.Proofs.YtlojmmcagglpoaaGreat
namespace Go.Proofs.YtlojmmcagglpoaaGreat
open Go.RowKit Go.Maps
/-- an op -/
structure O22 where
  k : Int
  nm : List UInt8
  ot : List UInt8
  dat : ByteArray
  A : Option Addr
  m : Nat
  cp : Nat
  ks : List Int
  two : Bool
def o22C (o : O22) : Array Value := #[.int .i64 o.k, .string (strB o.nm), .string (strB o.ot), .string o.dat, .slice o.A o.m o.cp, .bool o.two]
structure O22.In (W : World) (o : O22) : Prop where
  nm : o.nm.length ≤ 1000000000000000
  ot : o.ot.length ≤ 1000000000000000
  dat : o.dat.size ≤ 1000000000000000
  ks : RI W o.A o.m o.ks
  m : o.m ≤ maxLen
def SO22 (W : World) (A : Option Addr) (n : Nat) (l : List O22) : Prop :=
  l.length = n ∧ (∀ o ∈ l, o.In W) ∧ (0 < n → ∃ b off, A = some ⟨b, off, none⟩ ∧ b < W.heap.size ∧ ∀ (j : Nat) (o : O22), l[j]? = some o → ∀ (i : Nat) (v : Value), (o22C o)[i]? = some v → W.cell? ⟨b, off + j * 6 + i, none⟩ = some v)
theorem LX.cells {w0 W : World} {C : Nat → Nat} {p q n P : Nat} {d : Dk} {r : Rd} {pv : Nat → Value × Value} {S : Nat → Option (Nat × Wr)} {X : Nat → Option (Nat × R22)} {M : List PartT} (h : GS w0 W C (LX w0 p n d q r P pv S X M)) {i : Nat} (hi : i < 2) : W.cell? ⟨P, i * 2, none⟩ = some (pv i).1 ∧ W.cell? ⟨P, i * 2 + 1, none⟩ = some (pv i).2 ∧ W.frozen? ⟨P, i * 2, none⟩ = false ∧ W.frozen? ⟨P, i * 2 + 1, none⟩ = false := by
  have hb := (LX.blk h).1
  obtain rfl | rfl : i = 0 ∨ i = 1 := by omega
  · exact ⟨(hb.cell 0).trans rfl, (hb.cell 1).trans rfl, hb.frozen 0, hb.frozen 1⟩
  · exact ⟨(hb.cell 2).trans rfl, (hb.cell 3).trans rfl, hb.frozen 2, hb.frozen 3⟩
set_option maxRecDepth 20000 in
set_option maxHeartbeats 8000000 in
theorem exact_any (A : Option Addr) (n cap : Nat) (l : List O22) (w : World) (hs : SO22 w A n l) (hcap : n ≤ cap) (hcm : cap ≤ maxLen) : Calls Tryz.prog 4 #[.slice A n cap] w (TrueQ w) := by
  have CK := Lib.hid (known_any w)
  have HSO := Lib.hid hs
  have HNB : Hid (n ≤ 9223372036854775807) := Lib.hid (by unfold maxLen at hcm; omega)
  have hn9 : (n : Int) ≤ 9223372036854775807 := by have := HNB.out; omega
  obtain ⟨L0, hL0⟩ : ∃ L0, L0 = min n 150 := ⟨_, rfl⟩
  have hmin0 : ∀ w : World, (Builtin.min_ #[3, 3] 3 #[.int .i64 (n : Int), .int .i64 150]).run Tryz.prog w = .ok (.int .i64 (L0 : Int)) w := by
    intro w; rw [run_min_int2]; congr 2; omega
  have HL0 : Hid (L0 ≤ n ∧ L0 ≤ 150) := Lib.hid (by omega)
  have hl1 : (L0 : Int) ≤ (n : Int) := by omega
  have hl2 : (0 : Int) ≤ (L0 : Int) := by omega
  have hl3 : (L0 : Int) ≤ (cap : Int) := by omega
  have hl4 : (L0 : Int) ≤ 150 := by omega
  clear hs hL0 hcm
  go_enter Tryz.func4, Tryz.ntmps4
  go_wp2_with fail
  refine CK.out.mono ?_
  rintro e wk ⟨rfl, hbk⟩
  have G0 := Lib.hid (GS.begun w hbk)
  have CN := Lib.hid G0.out.newD
  clear hbk CK
  go_wp2_with fail
  refine CN.out.mono ?_
  rintro e w1 ⟨p, rfl, hg1⟩
  have G1 : Hid (GS w w1 (paint (fun _ => 0) wk.heap.size 1) [DCp w 1 p 0 emptyD]) := Lib.hid hg1
  clear hg1 CN G0
  go_upto_region 5 with fail
  obtain ⟨q, hq⟩ : ∃ q, q = w1.heap.size := ⟨_, rfl⟩
  obtain ⟨w2, hw2⟩ : ∃ w2, w2 = w1.alloc (.cells #[.slice none 0 0, .slice none 0 0] 47) := ⟨_, rfl⟩
  obtain ⟨C2, G2⟩ : ∃ C2, Hid (GS w w2 C2 [DCp w 1 p 0 emptyD, RCp w 2 q ⟨[], []⟩]) := ⟨_, Lib.hid (by rw [hw2, hq]; exact G1.out.newR)⟩
  obtain ⟨P, hP⟩ : ∃ P, P = w1.heap.size + 1 := ⟨_, rfl⟩
  obtain ⟨w3, hw3⟩ : ∃ w3, w3 = w2.alloc (.cells #[.pointer none, .pointer none, .pointer none, .pointer none] 52) := ⟨_, rfl⟩
  have hP2 : P = w2.heap.size := by rw [hP, hw2]; simp
  have G3 : Hid (∃ C3, GS w w3 C3 (LX w p 0 emptyD q ⟨[], []⟩ P (fun _ => (.pointer none, .pointer none)) (fun _ => none) (fun _ => none) [])) := Lib.hid (by
    have a1 := G2.out.add (Below.refl _ _) (T := WPp w 3 none) (fun g r e => by cases e) (Stb.wpp _ _ _)
    have a2 := a1.add (Below.refl _ _) (T := XPp w 4 none) (fun g r e => by cases e) (Stb.xpp _ _ _)
    have a3 := a2.add (Below.refl _ _) (T := WPp w 5 none) (fun g r e => by cases e) (Stb.wpp _ _ _)
    have a4 := a3.add (Below.refl _ _) (T := XPp w 6 none) (fun g r e => by cases e) (Stb.xpp _ _ _)
    have a5 := a4.holdBlk (W' := w3) (b := P) (t := 52) (cs := #[.pointer none, .pointer none, .pointer none, .pointer none]) (by rw [hw3]; exact (Below.refl _ _).alloc (Nat.le_refl _) _) (by rw [hw3]; exact Blk.new w2 _ _ hP2) (by omega)
    exact ⟨_, a5⟩)
  rw [← hw2, ← hw3, ← hP, ← hq]
  clear hw2 hw3 hP hP2 hq G2 G1
  obtain ⟨C3, hG3⟩ := G3.out
  clear G3
  have G3 := Lib.hid hG3
  clear hG3
  have X0 : Hid (XS emptyD ⟨[], []⟩ 0 (fun _ => (.pointer none, .pointer none)) (fun _ => none) (fun _ => none)) := Lib.hid ⟨Alike.empty, fun i _ => rfl, fun i _ => trivial⟩
  go_wp2_with fail
  go_loopw [38] (fun s38 wx => ∃ k : Nat, s38 = .int .i64 (k : Int) ∧ k ≤ L0 ∧ ∃ C d r pv S X, Hid (GS w wx C (LX w p (2 * k) d q r P pv S X [])) ∧ Hid (XS d r (2 * k) pv S X)) (fun s38 _ => L0 - (intOf s38).toNat)
  case atStart => exact ⟨0, rfl, Nat.zero_le _, _, _, _, _, _, _, G3, X0⟩
  case round =>
    obtain ⟨k, rfl, hk, C, d, r, pv, S, X, GR, XR⟩ := hrel
    clear G3 X0
    by_cases hlt : k < L0
    · have hki : (k : Int) < (L0 : Int) := by omega
      have hk0 : (0 : Int) ≤ (k : Int) := by omega
      have hk3 : (k : Int) ≤ 150 := by omega
      have hkn : k < n := by have := HL0.out; omega
      obtain ⟨b, off, eA, hbl, hcs⟩ := HSO.out.2.2 (by omega)
      subst eA
      obtain ⟨o, ho⟩ : ∃ o, l[k]? = some o := ⟨_, List.getElem?_eq_getElem (by rw [HSO.out.1]; exact hkn)⟩
      have HIN := Lib.hid (HSO.out.2.1 o (List.mem_of_getElem? ho))
      obtain ⟨ok, nm, ot, dat, oA, om, ocp, ks, two⟩ := o
      have hold : ∀ (i : Nat) (v : Value), w.cell? ⟨b, off + k * 6 + i, none⟩ = some v → wr.cell? ⟨b, off + k * 6 + i, none⟩ = some v := fun i v e => cell_later GR.out.bel e
      have y0 : wr.cell? ⟨b, off + k * 6, none⟩ = some (.int .i64 ok) := hold 0 _ (hcs k _ ho 0 _ rfl)
      have y1 : wr.cell? ⟨b, off + k * 6 + 1, none⟩ = some (.string (strB nm)) := hold 1 _ (hcs k _ ho 1 _ rfl)
      have y2 : wr.cell? ⟨b, off + k * 6 + 2, none⟩ = some (.string (strB ot)) := hold 2 _ (hcs k _ ho 2 _ rfl)
      have y3 : wr.cell? ⟨b, off + k * 6 + 3, none⟩ = some (.string dat) := hold 3 _ (hcs k _ ho 3 _ rfl)
      have y4 : wr.cell? ⟨b, off + k * 6 + 4, none⟩ = some (.slice oA om ocp) := hold 4 _ (hcs k _ ho 4 _ rfl)
      have y5 : wr.cell? ⟨b, off + k * 6 + 5, none⟩ = some (.bool two) := hold 5 _ (hcs k _ ho 5 _ rfl)
      clear hold hcs ho hbl
      go_upto_region 8 with fail
      obtain ⟨w1', hw1⟩ : ∃ w1', w1' = wr.alloc (.cells #[.int .i64 ok, .string (strB nm), .string (strB ot), .string dat, .slice oA om ocp, .bool two] 54) := ⟨_, rfl⟩
      obtain ⟨ob, hob⟩ : ∃ ob, ob = wr.heap.size := ⟨_, rfl⟩
      have B1 : Hid (Below wr.heap.size wr w1') := Lib.hid (by rw [hw1]; exact (Below.refl _ _).alloc (Nat.le_refl _) _)
      have K1 : Hid (Blk w1' ob 54 #[.int .i64 ok, .string (strB nm), .string (strB ot), .string dat, .slice oA om ocp, .bool two]) := Lib.hid (by rw [hw1]; exact Blk.new wr _ _ hob)
      have HOB : Hid (wr.heap.size ≤ ob) := Lib.hid (by omega)
      rw [← hw1, ← hob]
      clear hw1 hob y0 y1 y2 y3 y4 y5
      have z3 : w1'.cell? ⟨ob, 3, none⟩ = some (.string dat) := (K1.out.cell 3).trans rfl
      have f3 : w1'.frozen? ⟨ob, 3, none⟩ = false := K1.out.frozen 3
      obtain ⟨m0, hm0⟩ : ∃ m0, m0 = min dat.size 3000 := ⟨_, rfl⟩
      have hmin1 : ∀ w : World, (Builtin.min_ #[3, 3] 3 #[.int .i64 (dat.size : Int), .int .i64 3000]).run Tryz.prog w = .ok (.int .i64 (m0 : Int)) w := by
        intro w; rw [run_min_int2]; congr 2; omega
      have hm1 : (0 : Int) ≤ (m0 : Int) := by omega
      have hm2 : (m0 : Int) ≤ (dat.size : Int) := by omega
      have hm3 : (dat.size : Int) ≤ 1000000000000000 := by have := HIN.out.dat; simp only at this; omega
      have HM0 : Hid (m0 ≤ 3000) := Lib.hid (by omega)
      clear hm0
      go_upto_region 9 with fail
      obtain ⟨dl, hdl⟩ : ∃ dl : List UInt8, dl = (dat.extract 0 m0).data.toList := ⟨_, rfl⟩
      have hdl2 : dat.extract 0 m0 = strB dl := by rw [hdl]; rfl
      have hdlen : dl.length ≤ 3000 := by
        rw [hdl]; have := HM0.out; simp; omega
      obtain ⟨w2', hw2⟩ : ∃ w2', w2' = w1'.setCell ⟨ob, 3, none⟩ (.string (dat.extract 0 m0)) := ⟨_, rfl⟩
      have K2 : Hid (Blk w2' ob 54 #[.int .i64 ok, .string (strB nm), .string (strB ot), .string (strB dl), .slice oA om ocp, .bool two]) := Lib.hid (by rw [hw2, hdl2]; exact K1.out.set_ 3 _)
      have B2 : Hid (Below wr.heap.size wr w2') := Lib.hid (by rw [hw2]; exact B1.out.setCell HOB.out _)
      obtain ⟨BP, hBP⟩ : ∃ BP : PartT, BP = (fun W C => FrC W C 8 (fun w => Blk w ob 54 #[.int .i64 ok, .string (strB nm), .string (strB ot), .string (strB dl), .slice oA om ocp, .bool two])) := ⟨_, rfl⟩
      have HBP : Hid (∀ w C, BP w C → Blk w ob 54 #[.int .i64 ok, .string (strB nm), .string (strB ot), .string (strB dl), .slice oA om ocp, .bool two]) := Lib.hid (fun w C h => by rw [hBP] at h; exact h.now)
      obtain ⟨C2', G2⟩ : ∃ C2', Hid (GS w w2' C2' (LX w p (2 * k) d q r P pv S X [BP])) := ⟨_, Lib.hid (by rw [hBP]; exact GR.out.holdBlk B2.out K2.out HOB.out)⟩
      rw [← hw2]
      have HDL : Hid (dl.length ≤ 3000) := Lib.hid hdlen
      clear hw2 hdl hdl2 hdlen K1 B1 B2 z3 f3 hmin1 hm1 hm2 hm3 HM0 GR hBP HOB
      obtain ⟨iv, hiv⟩ : ∃ iv : Nat, iv = if two then 1 else 0 := ⟨_, rfl⟩
      have hi2 : iv < 2 := by rw [hiv]; cases two <;> decide
      have HIV := Lib.hid hiv
      clear hiv
      have z5 : w2'.cell? ⟨ob, 5, none⟩ = some (.bool two) := (K2.out.cell 5).trans rfl
      go_upto_if 51 with fail
      go_cut [8] (fun s wx => s = .int .i64 (iv : Int) ∧ wx = w2')
      case first =>
        cases two with
        | true =>
          have h1 : Hid (iv = 1) := Lib.hid (by rw [HIV.out]; rfl)
          go_wp2_with fail
          go_meet
          exact ⟨by rw [h1.out]; rfl, rfl⟩
        | false =>
          have h1 : Hid (iv = 0) := Lib.hid (by rw [HIV.out]; rfl)
          go_wp2_with fail
          go_meet
          exact ⟨by rw [h1.out]; rfl, rfl⟩
      case rest =>
      obtain ⟨rfl, hwc⟩ := hcut
      rw [hwc]
      clear hwc wc K2 z5
      have hiv2 : (iv : Int) < 2 := by omega
      have hiv0 : (0 : Int) ≤ (iv : Int) := by omega
      go_upto_block 2 with fail
      go_cut [] (fun wx => ∃ C d' r' pv' S' X', Hid (GS w wx C (LX w p (2 * k + 2) d' q r' P pv' S' X' [])) ∧ Hid (XS d' r' (2 * k + 2) pv' S' X'))
      case first =>
        have KB := Lib.hid (HBP.out _ _ (G2.out.at_ (k := 7) rfl))
        have z0 : w2'.cell? ⟨ob, 0, none⟩ = some (.int .i64 ok) := (KB.out.cell 0).trans rfl
        have z1 : w2'.cell? ⟨ob, 1, none⟩ = some (.string (strB nm)) := (KB.out.cell 1).trans rfl
        have z2 : w2'.cell? ⟨ob, 2, none⟩ = some (.string (strB ot)) := (KB.out.cell 2).trans rfl
        have z3 : w2'.cell? ⟨ob, 3, none⟩ = some (.string (strB dl)) := (KB.out.cell 3).trans rfl
        have z4 : w2'.cell? ⟨ob, 4, none⟩ = some (.slice oA om ocp) := (KB.out.cell 4).trans rfl
        have z5 : w2'.cell? ⟨ob, 5, none⟩ = some (.bool two) := (KB.out.cell 5).trans rfl
        have HKN : Hid (2 * k + 2 < 1000000) := Lib.hid (by omega)
        obtain ⟨hp1, hp2, hp3, hp4⟩ := LX.cells G2.out hi2
        by_cases h10 : ok = 10
        · subst h10
          as_aux_lemma =>
            have CW := Lib.hid (snew_g w2' C2' (3 + 2 * iv) nm ot)
            go_wp2_with fail
            refine CW.out.mono ?_
            rintro e w4 ⟨hb4, hw4⟩
            obtain ⟨C4, hC4⟩ : ∃ C4, C4 = paint C2' w2'.heap.size (3 + 2 * iv) := ⟨_, rfl⟩
            have G4 : Hid (GS w w4 C4 (LX w p (2 * k) d q r P pv S X [BP])) := Lib.hid (by rw [hC4]; exact G2.out.keep2 hb4 (sam_paint _ _ _))
            rw [← hC4] at hw4
            have CX := Lib.hid (new22_any w4 C4 (4 + 2 * iv) nm ot HIN.out.nm HIN.out.ot)
            have K4 := Lib.hid (KB.out.keep hb4)
            have t1 : w4.cell? ⟨ob, 1, none⟩ = some (.string (strB nm)) := (K4.out.cell 1).trans rfl
            have t2 : w4.cell? ⟨ob, 2, none⟩ = some (.string (strB ot)) := (K4.out.cell 2).trans rfl
            have HGL : Hid (w.heap.size ≤ w2'.heap.size) := Lib.hid G2.out.bel.size
            clear CW hC4 z0 z1 z2 z3 z4 z5 hp1 hp2 hp3 hp4 KB
            rcases hw4 with ⟨hE, rfl⟩ | ⟨hE, g, rfl, hwc⟩
            · obtain ⟨ev, hev⟩ : ∃ ev, ev = newE nm ot := ⟨_, rfl⟩
              rw [← hev]
              have HEV := Lib.hid (And.intro hev (show ev ≠ 0 by rw [hev]; exact hE))
              clear hev hE
              go_wp2_with fail
              refine CX.out.mono ?_
              rintro e w5 ⟨hb5, hw5⟩
              have G5 : Hid (GS w w5 C4 (LX w p (2 * k) d q r P pv S X [BP])) := Lib.hid (G4.out.keep hb5)
              rcases hw5 with ⟨hE, rfl⟩ | ⟨hE, _, _, _⟩
              · have HF : Hid (∃ C d' r' pv' S' X', Hid (GS w w5 C (LX w p (2 * k + 2) d' q r' P pv' S' X' [])) ∧ Hid (XS d' r' (2 * k + 2) pv' S' X')) := Lib.hid ⟨_, d, r, pv, S, X, Lib.hid (LX.more (LX.front (M := []) G5.out) (by omega) HKN.out), Lib.hid (XR.out.more (by omega) (by have := HKN.out; omega))⟩
                rw [← HEV.out.1]
                clear hE hb5 CX t1 t2
                go_wp2_with fail
                go_meet
                exact HF.out
              · exact absurd hE (by rw [← HEV.out.1]; exact HEV.out.2)
            · have HWC := Lib.hid hwc
              have HE := Lib.hid hE
              clear hwc hE
              go_wp2_with fail
              refine CX.out.mono ?_
              rintro e w5 ⟨hb5, hw5⟩
              rcases hw5 with ⟨hE, rfl⟩ | ⟨hE, g', rfl, hxc⟩
              · exact absurd HE.out hE
              · obtain ⟨C5, hC5⟩ : ∃ C5, C5 = paint C4 w4.heap.size (4 + 2 * iv) := ⟨_, rfl⟩
                rw [← hC5] at hxc
                have G5 : Hid (GS w w5 C5 (LX w p (2 * k) d q r P pv S X [BP])) := Lib.hid (by rw [hC5]; exact G4.out.keep2 hb5 (sam_paint _ _ _))
                have W5 : Hid (WC w5 w.heap.size C5 (3 + 2 * iv) g (.slice none 0 0) ⟨nm, ot, [], false, 0⟩) := Lib.hid (by
                  have h1 := HWC.out.keep hb5 (show Sam w4.heap.size C4 C5 by rw [hC5]; exact sam_paint _ _ _)
                  exact ⟨h1.blk, h1.own.less HGL.out, Nat.le_trans HGL.out h1.lo, h1.col⟩)
                have X5 : Hid (W22 w5 w.heap.size C5 (4 + 2 * iv) g' (.slice none 0 0) ⟨nm, ot, [], -1⟩) := Lib.hid (by
                  have hz := G4.out.bel.size
                  exact ⟨hxc.blk, hxc.own.less hz, Nat.le_trans hz hxc.lo, hxc.col⟩)
                have GN := Lib.hid (LX.newed G5.out hi2 W5.out X5.out)
                obtain ⟨hp1, hp2, hp3, hp4⟩ := LX.cells G5.out hi2
                have HF : Hid (∃ C d' r' pv' S' X', Hid (GS w ((w5.setCell ⟨P, iv * 2, none⟩ (.pointer (some ⟨g, 0, none⟩))).setCell ⟨P, iv * 2 + 1, none⟩ (.pointer (some ⟨g', 0, none⟩))) C (LX w p (2 * k + 2) d' q r' P pv' S' X' [])) ∧ Hid (XS d' r' (2 * k + 2) pv' S' X')) := Lib.hid ⟨_, d, r, _, _, _, Lib.hid (LX.more (LX.front (M := []) GN.out) (by omega) HKN.out), Lib.hid ((XR.out.laid (i := iv) (WAl.made HE.out)).more (by omega) (by have := HKN.out; omega))⟩
                clear hE hb5 CX t1 t2 hxc hC5 GN
                go_wp2_with fail
                go_meet
                exact HF.out
        by_cases h2 : ok = 2
        · subst h2
          clear h10
          as_aux_lemma =>
            have CL := Lib.hid (load_a (p := p) (LX.dk G2.out) XR.out.al nm)
            have CL2 := Lib.hid (fun w4 (hb : Below w2'.heap.size w2' w4) => load22_a (p := q) (LX.rd (G2.out.keep hb)) XR.out.al (LX.dk G2.out).ok nm)
            obtain ⟨⟨lv, ev⟩, hlv⟩ : ∃ x, x = loadV r nm := ⟨_, rfl⟩
            rw [← hlv] at CL CL2
            clear hlv
            go_wp2_with fail
            refine CL.out.mono ?_
            rintro e w4 ⟨v4, rfl, ho4, hb4⟩
            simp only
            obtain ⟨A4, cp4, rfl, _, _, hr4⟩ := ho4.form
            have R4 := Lib.hid hr4
            have B4 := Lib.hid hb4
            have K4 := Lib.hid (KB.out.keep hb4)
            have t1 : w4.cell? ⟨ob, 1, none⟩ = some (.string (strB nm)) := (K4.out.cell 1).trans rfl
            have CL3 := Lib.hid (CL2.out w4 hb4)
            clear CL CL2 ho4 hr4 hb4 z0 z1 z2 z3 z4 z5 hp1 hp2 hp3 hp4 KB
            go_wp2_with fail
            refine CL3.out.mono ?_
            rintro e w5 ⟨v5, rfl, ho5, hb5⟩
            simp only
            obtain ⟨A5, cp5, rfl, _, _, hr5⟩ := ho5.form
            have v1 := conv_bytes w5 A4 lv.length cp4 lv (R4.out.keep hb5)
            have v2 := conv_bytes w5 A5 lv.length cp5 lv hr5
            have HF : Hid (∃ C d' r' pv' S' X', Hid (GS w w5 C (LX w p (2 * k + 2) d' q r' P pv' S' X' [])) ∧ Hid (XS d' r' (2 * k + 2) pv' S' X')) := Lib.hid ⟨_, d, r, pv, S, X, Lib.hid (LX.more (LX.front (M := []) (G2.out.keep (B4.out.trans (hb5.mono B4.out.size)))) (by omega) HKN.out), Lib.hid (XR.out.more (by omega) (by have := HKN.out; omega))⟩
            clear ho5 hr5 hb5 CL3 t1
            go_wp2_with fail
            go_meet
            exact HF.out
        by_cases h01 : ok ≠ 0 ∧ ok ≠ 1
        · have b10 : (ok == 10) = false := by simpa using h10
          have b2 : (ok == 2) = false := by simpa using h2
          have b0 : (ok == 0) = false := by simpa using h01.1
          have b1 : (ok == 1) = false := by simpa using h01.2
          have c0 : (ok != 0) = true := by simpa using h01.1
          have c1 : (ok != 1) = true := by simpa using h01.2
          clear h10 h2 h01
          as_aux_lemma =>
            have CO := Lib.hid (other_any (M := [WPp w 3 (S 0), XPp w 4 (X 0), WPp w 5 (S 1), XPp w 6 (X 1), fun W C => FrC W C 7 (fun w => Blk w P 52 #[(pv 0).1, (pv 0).2, (pv 1).1, (pv 1).2]), BP]) G2.out XR.out.al HKN.out ok nm ot dl oA om ocp two (by have := HDL.out; omega) HIN.out.ks HIN.out.m)
            clear hp1 hp2 hp3 hp4 KB
            go_wp2_with fail
            refine CO.out.mono ?_
            rintro e w5 ⟨rfl, C5, d5, r5, hal, hg⟩
            have HF : Hid (∃ C d' r' pv' S' X', Hid (GS w w5 C (LX w p (2 * k + 2) d' q r' P pv' S' X' [])) ∧ Hid (XS d' r' (2 * k + 2) pv' S' X')) := Lib.hid ⟨C5, d5, r5, pv, S, X, Lib.hid (LX.front (M := []) hg), Lib.hid ⟨hal, XR.out.pt, XR.out.pw⟩⟩
            clear hal hg CO z0 z1 z2 z3 z4 z5
            go_wp2_with fail
            go_meet
            exact HF.out
        have hok : ok = 0 ∨ ok = 1 := by omega
        clear h10 h2 h01
        rcases XR.out.two hi2 with ⟨hpv, hS, hX⟩ | ⟨g, wr', g', xr, hpv, hS, hX, hwx⟩
        · rw [hpv] at hp1 hp2
          simp only at hp1 hp2
          as_aux_lemma =>
            have b10 : (ok == 10) = false := by rcases hok with rfl | rfl <;> decide
            have b2 : (ok == 2) = false := by rcases hok with rfl | rfl <;> decide
            have HG : Hid (GS w w2' C2' (LX w p (2 * (k + 1)) d q r P pv S X [])) := Lib.hid (LX.more (LX.front (M := []) G2.out) (by omega) (by have := HKN.out; omega))
            have HXX : Hid (XS d r (2 * (k + 1)) pv S X) := Lib.hid (XR.out.more (by omega) (by have := HKN.out; omega))
            clear hpv hS hX KB
            rcases hok with rfl | rfl
            · go_wp2_with fail
              go_roundw
              case rel => exact ⟨k + 1, by go_num, by omega, C2', d, r, pv, S, X, HG, HXX⟩
              case measure => simp [intOf]; omega
            · go_wp2_with fail
              go_roundw
              case rel => exact ⟨k + 1, by go_num, by omega, C2', d, r, pv, S, X, HG, HXX⟩
              case measure => simp [intOf]; omega
        · rw [hpv] at hp1 hp2
          simp only at hp1 hp2
          have HPV := Lib.hid hpv; have HS2 := Lib.hid hS; have HX2 := Lib.hid hX; have HWX := Lib.hid hwx
          clear hpv hS hX hwx
          rcases hok with rfl | rfl
          · skip
            as_aux_lemma =>
              obtain ⟨w4, cc, hcv, hb4, hin4⟩ := conv_in w2' dl (by have := HDL.out; omega)
              obtain ⟨b4, hb4e⟩ : ∃ b4, b4 = w2'.heap.size := ⟨_, rfl⟩
              rw [← hb4e] at hcv hin4
              have IN5 : Hid (IN (w4.alloc (.cells #[.int .u8 98] 5)) b4 dl.length cc dl) := Lib.hid (hin4.keep ((Below.refl _ _).alloc (Nat.le_refl _) _))
              have M5 : Hid ((w4.alloc (.cells #[.int .u8 98] 5)).cell? ⟨w4.heap.size, 0, none⟩ = some (byteV 98)) := Lib.hid (by simp [byteV])
              have B5 : Hid (Below w2'.heap.size w2' (w4.alloc (.cells #[.int .u8 98] 5))) := Lib.hid (hb4.alloc hb4.size _)
              have HB4 : Hid (w2'.heap.size ≤ b4) := Lib.hid (by omega)
              clear hb4 hin4 hb4e
              go_wp2_with ((at_builtin; go_must (refine append_in rfl (.tmp 171) (.tmp 172) rfl rfl IN5.out w4.heap.size 1 98 rfl M5.out (by have := HDL.out; omega) ?_); intro b6 c6 w6 hin6 hc6 hb6; refine halt ?_))
              refine unhalt ?_
              have HB6 : Hid (w2'.heap.size ≤ b6) := Lib.hid (by
                rcases hb6 with e | e
                · rw [e]; exact HB4.out
                · exact Nat.le_trans B5.out.size e)
              have B6 : Hid (Below w2'.heap.size w2' w6) := Lib.hid (B5.out.trans (hc6.below (fun q hq e => by have := HB4.out; omega) B5.out.size))
              obtain ⟨IP, hIP⟩ : ∃ IP : PartT, IP = (fun W C => FrC W C 9 (fun w => IN w b6 (dl.length + 1) c6 (dl ++ [98]))) := ⟨_, rfl⟩
              have HIP : Hid (∀ w C, IP w C → IN w b6 (dl.length + 1) c6 (dl ++ [98])) := Lib.hid (fun w C h => by rw [hIP] at h; exact h.now)
              obtain ⟨C6, G6, HC6⟩ : ∃ C6, Hid (GS w w6 C6 (LX w p (2 * k) d q r P pv S X ([BP] ++ [IP]))) ∧ C6 b6 = 9 := ⟨paint C2' w2'.heap.size 9, Lib.hid (by
                rw [hIP]; exact G2.out.hold B6.out (FrC.in_ hin6 (paint_new _ _ HB6.out))), paint_new _ _ HB6.out⟩
              have HC9 := Lib.hid HC6
              have hc6l : (dl.length : Int) ≤ (c6 : Int) := by have := hin6.nc; omega
              have hc6m : (dl.length : Int) + 1 ≤ (c6 : Int) := by have := hin6.nc; omega
              have hdl0 : (0 : Int) ≤ (dl.length : Int) := by omega
              have hszl : (strB dl).size = dl.length := by simp [strB, ByteArray.size]
              have hc6n : dl.length ≤ c6 := by omega
              clear hin6 hc6 hb6 hIP HC6 IN5 M5 B5 hcv z0 z1 z2 z3 z4 z5 hp1 hp2 hp3 hp4
              have HWB := HWX.out.begin dl
              have HWB1 := Lib.hid HWB.1
              have HWB2 := Lib.hid HWB.2
              clear HWB
              go_upto_region 35 with fail
              go_cut [19, 20] (fun s19 s20 wx => s19 = .int .i64 (wr'.begin dl).1 ∧ s20 = .int .i64 (wr'.begin dl).1 ∧ Hid (∃ C8, Hid (GS w wx C8 (LX w p (2 * k) d q r P pv (upd S iv (some (g, (wr'.begin dl).2))) (upd X iv (some (g', (xr.begin dl).2))) ([BP] ++ [IP]))) ∧ C8 b6 = 9))
              case first => as_aux_lemma =>
                refine wp_region_any (by kernel_rfl) ?_
                change wpAny _ _ _ _ _ _ _ (World.drew _)
                refine wpAny_of_held (S := fun w' => w'.cell? ⟨P, iv * 2, none⟩ = some (.pointer (some ⟨g, 0, none⟩)) ∧ w'.cell? ⟨P, iv * 2 + 1, none⟩ = some (.pointer (some ⟨g', 0, none⟩)) ∧ w'.cell? ⟨ob, 3, none⟩ = some (.string (strB dl))) _ _ _ _ ?_
                obtain ⟨w7, hw7⟩ : ∃ w7, w7 = w6.drew := ⟨_, rfl⟩
                obtain ⟨C7, hC7⟩ : ∃ C7, C7 = C6 := ⟨_, rfl⟩
                have G7 : Hid (GS w w7 C7 (LX w p (2 * k) d q r P pv S X ([BP] ++ [IP]))) := Lib.hid (by rw [hw7, hC7]; exact G6.out.keep (Below.refl _ _).drew)
                have K7 : Hid (C7 b6 = 9 ∧ b6 < w7.heap.size) := Lib.hid ⟨by rw [hC7]; exact HC9.out, (HIP.out _ _ (GS.at_ G7.out (k := 8) rfl)).lt⟩
                rw [← hw7]
                clear hw7 hC7
                have hHeld : (fun w' => w'.cell? ⟨P, iv * 2, none⟩ = some (.pointer (some ⟨g, 0, none⟩)) ∧ w'.cell? ⟨P, iv * 2 + 1, none⟩ = some (.pointer (some ⟨g', 0, none⟩)) ∧ w'.cell? ⟨ob, 3, none⟩ = some (.string (strB dl))) w7 := ⟨by have h := (LX.cells G7.out hi2).1; rw [HPV.out] at h; exact h, by have h := (LX.cells G7.out hi2).2.1; rw [HPV.out] at h; exact h, ((HBP.out _ _ (GS.at_ G7.out (k := 7) rfl)).cell 3).trans rfl⟩
                refine wpAnyH_take (i := 0) (v := ?_) rfl (by kernel_rfl) (by kernel_rfl) (by kernel_rfl) (fun _ _ _ h => h) (Or.inl ⟨by rfl, ?_⟩) (by assumption) ?_
                rotate_left 1
                · intro w hSw; (try dsimp only at hSw); go_simp <;> with_reducible rfl
                try simp only [Act.put, List.setIfInBounds_toArray, List.set_cons_zero, List.set_cons_succ, List.getElem_toArray, List.getElem_cons_zero]
                refine wpAnyH_take (i := 1) (v := ?_) rfl (by kernel_rfl) (by kernel_rfl) (by kernel_rfl) (fun _ _ _ h => h) (Or.inl ⟨by rfl, ?_⟩) (by assumption) ?_
                rotate_left 1
                · intro w hSw; (try dsimp only at hSw); go_simp <;> with_reducible rfl
                try simp only [Act.put, List.setIfInBounds_toArray, List.set_cons_zero, List.set_cons_succ, List.getElem_toArray, List.getElem_cons_zero, List.getElem_cons_succ]
                refine wpAnyH_take (i := 2) (v := ?_) rfl (by kernel_rfl) (by kernel_rfl) (by kernel_rfl) (fun _ _ _ h => h) (Or.inl ⟨by rfl, ?_⟩) (by assumption) ?_
                rotate_left 1
                · intro w hSw; (try dsimp only at hSw); go_simp <;> with_reducible rfl
                try simp only [Act.put, List.setIfInBounds_toArray, List.set_cons_zero, List.set_cons_succ, List.getElem_toArray, List.getElem_cons_zero, List.getElem_cons_succ]
                refine wpAnyH_take (i := 3) (v := ?_) rfl (by kernel_rfl) (by kernel_rfl) (by kernel_rfl) (fun _ _ _ h => h) (Or.inl ⟨by rfl, ?_⟩) (by assumption) ?_
                rotate_left 1
                · intro w hSw; obtain ⟨z0, z1, z2⟩ := hSw; (try dsimp only at hSw); go_simp <;> with_reducible rfl
                try simp only [Act.put, List.setIfInBounds_toArray, List.set_cons_zero, List.set_cons_succ, List.getElem_toArray, List.getElem_cons_zero, List.getElem_cons_succ]
                refine wpAnyH_take (i := 4) (v := ?_) rfl (by kernel_rfl) (by kernel_rfl) (by kernel_rfl) (fun _ _ _ h => h) (Or.inl ⟨by rfl, ?_⟩) (by assumption) ?_
                rotate_left 1
                · intro w hSw; (try dsimp only at hSw); go_simp <;> with_reducible rfl
                try simp only [Act.put, List.setIfInBounds_toArray, List.set_cons_zero, List.set_cons_succ, List.getElem_toArray, List.getElem_cons_zero, List.getElem_cons_succ]
                refine wpAnyH_take (i := 5) (v := ?_) rfl (by kernel_rfl) (by kernel_rfl) (by kernel_rfl) (fun _ _ _ h => h) (Or.inl ⟨by rfl, ?_⟩) (by assumption) ?_
                rotate_left 1
                · intro w hSw; (try dsimp only at hSw); go_simp <;> with_reducible rfl
                try simp only [Act.put, List.setIfInBounds_toArray, List.set_cons_zero, List.set_cons_succ, List.getElem_toArray, List.getElem_cons_zero, List.getElem_cons_succ]
                refine wpAnyH_take (i := 6) (v := ?_) rfl (by kernel_rfl) (by kernel_rfl) (by kernel_rfl) (fun _ _ _ h => h) (Or.inl ⟨by rfl, ?_⟩) (by assumption) ?_
                rotate_left 1
                · intro w hSw; obtain ⟨z0, z1, z2⟩ := hSw; (try dsimp only at hSw); go_simp <;> with_reducible rfl
                try simp only [Act.put, List.setIfInBounds_toArray, List.set_cons_zero, List.set_cons_succ, List.getElem_toArray, List.getElem_cons_zero, List.getElem_cons_succ]
                refine wpAnyH_take (i := 7) (v := ?_) rfl (by kernel_rfl) (by kernel_rfl) (by kernel_rfl) (fun _ _ _ h => h) (Or.inl ⟨by rfl, ?_⟩) (by assumption) ?_
                rotate_left 1
                · intro w hSw; (try dsimp only at hSw); go_simp <;> with_reducible rfl
                try simp only [Act.put, List.setIfInBounds_toArray, List.set_cons_zero, List.set_cons_succ, List.getElem_toArray, List.getElem_cons_zero, List.getElem_cons_succ]
                refine wpAnyH_take (i := 8) (v := ?_) rfl (by kernel_rfl) (by kernel_rfl) (by kernel_rfl) (fun _ _ _ h => h) (Or.inl ⟨by rfl, ?_⟩) (by assumption) ?_
                rotate_left 1
                · intro w hSw; (try dsimp only at hSw); go_simp <;> with_reducible rfl
                try simp only [Act.put, List.setIfInBounds_toArray, List.set_cons_zero, List.set_cons_succ, List.getElem_toArray, List.getElem_cons_zero, List.getElem_cons_succ]
                refine wpAnyH_take (i := 10) (v := ?_) rfl (by kernel_rfl) (by kernel_rfl) (by kernel_rfl) (fun _ _ _ h => h) (Or.inl ⟨by rfl, ?_⟩) (by assumption) ?_
                rotate_left 1
                · intro w hSw; (try dsimp only at hSw); go_simp <;> with_reducible rfl
                try simp only [Act.put, List.setIfInBounds_toArray, List.set_cons_zero, List.set_cons_succ, List.getElem_toArray, List.getElem_cons_zero, List.getElem_cons_succ]
                refine wpAnyH_take (i := 11) (v := ?_) rfl (by kernel_rfl) (by kernel_rfl) (by kernel_rfl) (fun _ _ _ h => h) (Or.inl ⟨by rfl, ?_⟩) (by assumption) ?_
                rotate_left 1
                · intro w hSw; (try dsimp only at hSw); go_simp <;> with_reducible rfl
                try simp only [Act.put, List.setIfInBounds_toArray, List.set_cons_zero, List.set_cons_succ, List.getElem_toArray, List.getElem_cons_zero, List.getElem_cons_succ]
                refine wpAnyH_take (i := 12) (v := ?_) rfl (by kernel_rfl) (by kernel_rfl) (by kernel_rfl) (fun _ _ _ h => h) (Or.inl ⟨by rfl, ?_⟩) (by assumption) ?_
                rotate_left 1
                · intro w hSw; (try dsimp only at hSw); go_simp <;> with_reducible rfl
                try simp only [Act.put, List.setIfInBounds_toArray, List.set_cons_zero, List.set_cons_succ, List.getElem_toArray, List.getElem_cons_zero, List.getElem_cons_succ]
                refine wpAnyH_take (i := 13) (v := ?_) rfl (by kernel_rfl) (by kernel_rfl) (by kernel_rfl) (fun _ _ _ h => h) (Or.inl ⟨by rfl, ?_⟩) (by assumption) ?_
                rotate_left 1
                · intro w hSw; obtain ⟨z0, z1, z2⟩ := hSw; (try dsimp only at hSw); go_simp <;> with_reducible rfl
                try simp only [Act.put, List.setIfInBounds_toArray, List.set_cons_zero, List.set_cons_succ, List.getElem_toArray, List.getElem_cons_zero, List.getElem_cons_succ]
                refine wpAnyH_take (i := 14) (v := ?_) rfl (by kernel_rfl) (by kernel_rfl) (by kernel_rfl) (fun _ _ _ h => h) (Or.inl ⟨by rfl, ?_⟩) (by assumption) ?_
                rotate_left 1
                · intro w hSw; (try dsimp only at hSw); go_simp <;> with_reducible rfl
                try simp only [Act.put, List.setIfInBounds_toArray, List.set_cons_zero, List.set_cons_succ, List.getElem_toArray, List.getElem_cons_zero, List.getElem_cons_succ]
                refine wpAnyH_take (i := 15) (v := ?_) rfl (by kernel_rfl) (by kernel_rfl) (by kernel_rfl) (fun _ _ _ h => h) (Or.inl ⟨by rfl, ?_⟩) (by assumption) ?_
                rotate_left 1
                · intro w hSw; obtain ⟨z0, z1, z2⟩ := hSw; (try dsimp only at hSw); go_simp <;> with_reducible rfl
                try simp only [Act.put, List.setIfInBounds_toArray, List.set_cons_zero, List.set_cons_succ, List.getElem_toArray, List.getElem_cons_zero, List.getElem_cons_succ]
                refine wpAnyH_ready (rs := [9, 16]) (by kernel_rfl) (by simp) (AllReadyH.cons rfl (fun K hK => ?_) (AllReadyH.cons rfl (fun K hK => ?_) AllReadyH.nil))
                ·
                  have hPrev := hHeld
                  clear hHeld
                  go_simp
                  refine (LX.begun (M := ([BP] ++ [IP])) G7.out hi2 HS2.out (A := some ⟨b6, 0, none⟩) (m := dl.length) (cp := c6) (l := dl) (by have h := (HIP.out _ _ (GS.at_ G7.out (k := 8) rfl)).rb.take (k := dl.length) (by omega); rwa [List.take_append_of_le_length (Nat.le_refl _), List.take_length] at h) (by have := HDL.out; omega)).mono ?_
                  rintro e w8 ⟨rfl, hg8⟩
                  obtain ⟨C8, hC⟩ : ∃ C8, C8 = paint C7 w7.heap.size (3 + 2 * iv) := ⟨_, rfl⟩
                  rw [← hC] at hg8
                  have G8 : Hid (GS w w8 C8 (LX w p (2 * k) d q r P pv (upd S iv (some (g, (wr'.begin dl).2))) X ([BP] ++ [IP]))) := Lib.hid hg8
                  have K8 : Hid (C8 b6 = 9 ∧ b6 < w8.heap.size) := Lib.hid ⟨by rw [hC, paint_old _ _ K7.out.2]; exact K7.out.1, (HIP.out _ _ (GS.at_ G8.out (k := 8) rfl)).lt⟩
                  clear hg8 hC
                  refine hK.out _ _ (⟨by have h := (LX.cells G8.out hi2).1; rw [HPV.out] at h; exact h, by have h := (LX.cells G8.out hi2).2.1; rw [HPV.out] at h; exact h, ((HBP.out _ _ (GS.at_ G8.out (k := 7) rfl)).cell 3).trans rfl⟩) (fun hHeld => ?_)
                  clear hK K hPrev
                  try simp only [Act.put, List.setIfInBounds_toArray, List.set_cons_zero, List.set_cons_succ, List.getElem_toArray, List.getElem_cons_zero, List.getElem_cons_succ]
                  refine wpAnyH_ready (rs := [16]) (by kernel_rfl) (by simp) (AllReadyH.cons rfl (fun K hK => ?_) AllReadyH.nil)
                  have hPrev := hHeld
                  clear hHeld
                  obtain ⟨w9, cc0, hcv, hbv, hrv⟩ := conv_strN w8 dl
                  obtain ⟨bb0, hbb⟩ : ∃ bb0, bb0 = w8.heap.size := ⟨_, rfl⟩
                  rw [← hbb] at hcv hrv
                  obtain ⟨P0, hP⟩ : ∃ P0 : PartT, P0 = (fun W C => FrC W C 10 (fun w => RB w (some ⟨bb0, 0, none⟩) dl.length dl)) := ⟨_, rfl⟩
                  have HP0 : Hid (∀ w C, P0 w C → RB w (some ⟨bb0, 0, none⟩) dl.length dl) := Lib.hid (fun w C h => by rw [hP] at h; exact h.now)
                  obtain ⟨C9, hC⟩ : ∃ C9, C9 = paint C8 w8.heap.size 10 := ⟨_, rfl⟩
                  have G9 : Hid (GS w w9 C9 (LX w p (2 * k) d q r P pv (upd S iv (some (g, (wr'.begin dl).2))) X ([BP] ++ [IP] ++ [P0]))) := Lib.hid (by
                    have h1 := G8.out.holdRb hbv hrv (by omega)
                    rw [hP, hC]; exact h1)
                  have K9 : Hid (C9 b6 = 9 ∧ b6 < w9.heap.size) := Lib.hid ⟨by rw [hC, paint_old _ _ K8.out.2]; exact K8.out.1, Nat.lt_of_lt_of_le K8.out.2 hbv.size⟩
                  clear hbv hrv hbb hP hC
                  go_simp
                  refine hK.out _ _ (⟨by have h := (LX.cells G9.out hi2).1; rw [HPV.out] at h; exact h, by have h := (LX.cells G9.out hi2).2.1; rw [HPV.out] at h; exact h, ((HBP.out _ _ (GS.at_ G9.out (k := 7) rfl)).cell 3).trans rfl⟩) (fun hHeld => ?_)
                  clear hK K hPrev hcv
                  try simp only [Act.put, List.setIfInBounds_toArray, List.set_cons_zero, List.set_cons_succ, List.getElem_toArray, List.getElem_cons_zero, List.getElem_cons_succ]
                  refine wpAnyH_ready (rs := [17]) (by kernel_rfl) (by simp) (AllReadyH.cons rfl (fun K hK => ?_) AllReadyH.nil)
                  have hPrev := hHeld
                  clear hHeld
                  go_simp
                  refine (LX.begun22 (M := ([BP] ++ [IP] ++ [P0])) G9.out hi2 HX2.out (A := some ⟨bb0, 0, none⟩) (m := dl.length) (cp := cc0) (l := dl) (HP0.out _ _ (GS.at_ G9.out (k := 9) rfl)) (by have := HDL.out; omega)).mono ?_
                  rintro e w10 ⟨rfl, hg10⟩
                  obtain ⟨C10, hC⟩ : ∃ C10, C10 = paint C9 w9.heap.size (4 + 2 * iv) := ⟨_, rfl⟩
                  rw [← hC] at hg10
                  have G10 : Hid (GS w w10 C10 (LX w p (2 * k) d q r P pv (upd S iv (some (g, (wr'.begin dl).2))) (upd X iv (some (g', (xr.begin dl).2))) ([BP] ++ [IP] ++ [P0]))) := Lib.hid hg10
                  have K10 : Hid (C10 b6 = 9 ∧ b6 < w10.heap.size) := Lib.hid ⟨by rw [hC, paint_old _ _ K9.out.2]; exact K9.out.1, (HIP.out _ _ (GS.at_ G10.out (k := 8) rfl)).lt⟩
                  clear hg10 hC
                  refine hK.out _ _ (⟨by have h := (LX.cells G10.out hi2).1; rw [HPV.out] at h; exact h, by have h := (LX.cells G10.out hi2).2.1; rw [HPV.out] at h; exact h, ((HBP.out _ _ (GS.at_ G10.out (k := 7) rfl)).cell 3).trans rfl⟩) (fun hHeld => ?_)
                  clear hK K hPrev
                  try simp only [Act.put, List.setIfInBounds_toArray, List.set_cons_zero, List.set_cons_succ, List.getElem_toArray, List.getElem_cons_zero, List.getElem_cons_succ]
                  refine wpAnyH_take (i := 18) (v := ?_) rfl (by kernel_rfl) (by kernel_rfl) (by kernel_rfl) (fun _ _ _ h => h) (Or.inl ⟨by rfl, ?_⟩) (by assumption) ?_
                  rotate_left 1
                  · intro w hSw; (try dsimp only at hSw); go_simp <;> with_reducible rfl
                  try simp only [Act.put, List.setIfInBounds_toArray, List.set_cons_zero, List.set_cons_succ, List.getElem_toArray, List.getElem_cons_zero, List.getElem_cons_succ]
                  refine wpAnyH_take (i := 19) (v := ?_) rfl (by kernel_rfl) (by kernel_rfl) (by kernel_rfl) (fun _ _ _ h => h) (Or.inl ⟨by rfl, ?_⟩) (by assumption) ?_
                  rotate_left 1
                  · intro w hSw; (try dsimp only at hSw); go_simp <;> with_reducible rfl
                  try simp only [Act.put, List.setIfInBounds_toArray, List.set_cons_zero, List.set_cons_succ, List.getElem_toArray, List.getElem_cons_zero, List.getElem_cons_succ]
                  refine wpAnyH_done (by kernel_rfl) ?_ _
                  have HF : Hid (∃ C8, Hid (GS w w10 C8 (LX w p (2 * k) d q r P pv (upd S iv (some (g, (wr'.begin dl).2))) (upd X iv (some (g', (xr.begin dl).2))) ([BP] ++ [IP]))) ∧ C8 b6 = 9) := Lib.hid ⟨C10, Lib.hid (GS.front (L := (LX w p (2 * k) d q r P pv (upd S iv (some (g, (wr'.begin dl).2))) (upd X iv (some (g', (xr.begin dl).2))) ([BP] ++ [IP]))) G10.out), K10.out.1⟩
                  clear hHeld
                  go_wp2_with fail
                  go_meet
                  exact ⟨rfl, by rw [HWB1.out], HF⟩
                ·
                  have hPrev := hHeld
                  clear hHeld
                  obtain ⟨w8, cc0, hcv, hbv, hrv⟩ := conv_strN w7 dl
                  obtain ⟨bb0, hbb⟩ : ∃ bb0, bb0 = w7.heap.size := ⟨_, rfl⟩
                  rw [← hbb] at hcv hrv
                  obtain ⟨P0, hP⟩ : ∃ P0 : PartT, P0 = (fun W C => FrC W C 10 (fun w => RB w (some ⟨bb0, 0, none⟩) dl.length dl)) := ⟨_, rfl⟩
                  have HP0 : Hid (∀ w C, P0 w C → RB w (some ⟨bb0, 0, none⟩) dl.length dl) := Lib.hid (fun w C h => by rw [hP] at h; exact h.now)
                  obtain ⟨C8, hC⟩ : ∃ C8, C8 = paint C7 w7.heap.size 10 := ⟨_, rfl⟩
                  have G8 : Hid (GS w w8 C8 (LX w p (2 * k) d q r P pv S X ([BP] ++ [IP] ++ [P0]))) := Lib.hid (by
                    have h1 := G7.out.holdRb hbv hrv (by omega)
                    rw [hP, hC]; exact h1)
                  have K8 : Hid (C8 b6 = 9 ∧ b6 < w8.heap.size) := Lib.hid ⟨by rw [hC, paint_old _ _ K7.out.2]; exact K7.out.1, Nat.lt_of_lt_of_le K7.out.2 hbv.size⟩
                  clear hbv hrv hbb hP hC
                  go_simp
                  refine hK.out _ _ (⟨by have h := (LX.cells G8.out hi2).1; rw [HPV.out] at h; exact h, by have h := (LX.cells G8.out hi2).2.1; rw [HPV.out] at h; exact h, ((HBP.out _ _ (GS.at_ G8.out (k := 7) rfl)).cell 3).trans rfl⟩) (fun hHeld => ?_)
                  clear hK K hPrev hcv
                  try simp only [Act.put, List.setIfInBounds_toArray, List.set_cons_zero, List.set_cons_succ, List.getElem_toArray, List.getElem_cons_zero, List.getElem_cons_succ]
                  refine wpAnyH_ready (rs := [9]) (by kernel_rfl) (by simp) (AllReadyH.cons rfl (fun K hK => ?_) AllReadyH.nil)
                  have hPrev := hHeld
                  clear hHeld
                  go_simp
                  refine (LX.begun (M := ([BP] ++ [IP] ++ [P0])) G8.out hi2 HS2.out (A := some ⟨b6, 0, none⟩) (m := dl.length) (cp := c6) (l := dl) (by have h := (HIP.out _ _ (GS.at_ G8.out (k := 8) rfl)).rb.take (k := dl.length) (by omega); rwa [List.take_append_of_le_length (Nat.le_refl _), List.take_length] at h) (by have := HDL.out; omega)).mono ?_
                  rintro e w9 ⟨rfl, hg9⟩
                  obtain ⟨C9, hC⟩ : ∃ C9, C9 = paint C8 w8.heap.size (3 + 2 * iv) := ⟨_, rfl⟩
                  rw [← hC] at hg9
                  have G9 : Hid (GS w w9 C9 (LX w p (2 * k) d q r P pv (upd S iv (some (g, (wr'.begin dl).2))) X ([BP] ++ [IP] ++ [P0]))) := Lib.hid hg9
                  have K9 : Hid (C9 b6 = 9 ∧ b6 < w9.heap.size) := Lib.hid ⟨by rw [hC, paint_old _ _ K8.out.2]; exact K8.out.1, (HIP.out _ _ (GS.at_ G9.out (k := 8) rfl)).lt⟩
                  clear hg9 hC
                  refine hK.out _ _ (⟨by have h := (LX.cells G9.out hi2).1; rw [HPV.out] at h; exact h, by have h := (LX.cells G9.out hi2).2.1; rw [HPV.out] at h; exact h, ((HBP.out _ _ (GS.at_ G9.out (k := 7) rfl)).cell 3).trans rfl⟩) (fun hHeld => ?_)
                  clear hK K hPrev
                  try simp only [Act.put, List.setIfInBounds_toArray, List.set_cons_zero, List.set_cons_succ, List.getElem_toArray, List.getElem_cons_zero, List.getElem_cons_succ]
                  refine wpAnyH_ready (rs := [17]) (by kernel_rfl) (by simp) (AllReadyH.cons rfl (fun K hK => ?_) AllReadyH.nil)
                  have hPrev := hHeld
                  clear hHeld
                  go_simp
                  refine (LX.begun22 (M := ([BP] ++ [IP] ++ [P0])) G9.out hi2 HX2.out (A := some ⟨bb0, 0, none⟩) (m := dl.length) (cp := cc0) (l := dl) (HP0.out _ _ (GS.at_ G9.out (k := 9) rfl)) (by have := HDL.out; omega)).mono ?_
                  rintro e w10 ⟨rfl, hg10⟩
                  obtain ⟨C10, hC⟩ : ∃ C10, C10 = paint C9 w9.heap.size (4 + 2 * iv) := ⟨_, rfl⟩
                  rw [← hC] at hg10
                  have G10 : Hid (GS w w10 C10 (LX w p (2 * k) d q r P pv (upd S iv (some (g, (wr'.begin dl).2))) (upd X iv (some (g', (xr.begin dl).2))) ([BP] ++ [IP] ++ [P0]))) := Lib.hid hg10
                  have K10 : Hid (C10 b6 = 9 ∧ b6 < w10.heap.size) := Lib.hid ⟨by rw [hC, paint_old _ _ K9.out.2]; exact K9.out.1, (HIP.out _ _ (GS.at_ G10.out (k := 8) rfl)).lt⟩
                  clear hg10 hC
                  refine hK.out _ _ (⟨by have h := (LX.cells G10.out hi2).1; rw [HPV.out] at h; exact h, by have h := (LX.cells G10.out hi2).2.1; rw [HPV.out] at h; exact h, ((HBP.out _ _ (GS.at_ G10.out (k := 7) rfl)).cell 3).trans rfl⟩) (fun hHeld => ?_)
                  clear hK K hPrev
                  try simp only [Act.put, List.setIfInBounds_toArray, List.set_cons_zero, List.set_cons_succ, List.getElem_toArray, List.getElem_cons_zero, List.getElem_cons_succ]
                  refine wpAnyH_take (i := 18) (v := ?_) rfl (by kernel_rfl) (by kernel_rfl) (by kernel_rfl) (fun _ _ _ h => h) (Or.inl ⟨by rfl, ?_⟩) (by assumption) ?_
                  rotate_left 1
                  · intro w hSw; (try dsimp only at hSw); go_simp <;> with_reducible rfl
                  try simp only [Act.put, List.setIfInBounds_toArray, List.set_cons_zero, List.set_cons_succ, List.getElem_toArray, List.getElem_cons_zero, List.getElem_cons_succ]
                  refine wpAnyH_take (i := 19) (v := ?_) rfl (by kernel_rfl) (by kernel_rfl) (by kernel_rfl) (fun _ _ _ h => h) (Or.inl ⟨by rfl, ?_⟩) (by assumption) ?_
                  rotate_left 1
                  · intro w hSw; (try dsimp only at hSw); go_simp <;> with_reducible rfl
                  try simp only [Act.put, List.setIfInBounds_toArray, List.set_cons_zero, List.set_cons_succ, List.getElem_toArray, List.getElem_cons_zero, List.getElem_cons_succ]
                  refine wpAnyH_done (by kernel_rfl) ?_ _
                  have HF : Hid (∃ C8, Hid (GS w w10 C8 (LX w p (2 * k) d q r P pv (upd S iv (some (g, (wr'.begin dl).2))) (upd X iv (some (g', (xr.begin dl).2))) ([BP] ++ [IP]))) ∧ C8 b6 = 9) := Lib.hid ⟨C10, Lib.hid (GS.front (L := (LX w p (2 * k) d q r P pv (upd S iv (some (g, (wr'.begin dl).2))) (upd X iv (some (g', (xr.begin dl).2))) ([BP] ++ [IP]))) G10.out), K10.out.1⟩
                  clear hHeld
                  go_wp2_with fail
                  go_meet
                  exact ⟨rfl, by rw [HWB1.out], HF⟩
              case rest => as_aux_lemma =>
                obtain ⟨rfl, rfl, hst⟩ := hcut
                obtain ⟨wx, hwx⟩ : ∃ wx, wx = wc := ⟨_, rfl⟩
                rw [← hwx] at hst ⊢
                clear hwx wc G6 B6
                obtain ⟨C8, G8, K8⟩ := hst.out
                have HK8 := Lib.hid K8
                have IN8 := Lib.hid (HIP.out _ _ (GS.at_ G8.out (k := 8) rfl))
                have y3 : ∀ q, (wx.drewN q).cell? ⟨ob, 3, none⟩ = some (.string (strB dl)) := fun q => ((HBP.out _ _ (GS.at_ G8.out (k := 7) rfl)).cell 3).trans rfl
                have y9 : ∀ q, (wx.drewN q).cell? ⟨b6, dl.length, none⟩ = some (.int .u8 98) := fun q => IN8.out.cell (x := 98) (by simp)
                have v1 : ∀ q, (convert 61 9 (.slice (some ⟨b6, 0, none⟩) dl.length c6)).run Tryz.prog (wx.drewN q) = .ok (.string (strOf dl)) (wx.drewN q) := fun q => conv_bytes (wx.drewN q) _ dl.length c6 dl (by
                  have h := (IN8.out.keep (below_drewN (Below.refl _ _) q)).rb.take (k := dl.length) (by omega)
                  rwa [List.take_append_of_le_length (Nat.le_refl _), List.take_length] at h)
                have hso : strOf dl = strB dl := rfl
                rw [hso] at v1
                clear hso K8 hst
                have hlt1 : (dl.length : Int) < (dl.length : Int) + 1 := by omega
                go_upto_region 36 with fail
                go_quiet (fail)
                have G9 : Hid (GS w (wx.drewN nq) C8 (LX w p (2 * k) d q r P pv (upd S iv (some (g, (wr'.begin dl).2))) (upd X iv (some (g', (xr.begin dl).2))) [])) := Lib.hid ((LX.front (M := []) (LX.front (M := [BP]) G8.out)).keep (below_drewN (Below.refl _ _) nq))
                have I9 : Hid (IN (wx.drewN nq) b6 (dl.length + 1) c6 (dl ++ [98])) := Lib.hid (IN8.out.keep (below_drewN (Below.refl _ _) nq))
                have XX9 : Hid (XS d r (2 * k + 2) pv (upd S iv (some (g, (wr'.begin dl).2))) (upd X iv (some (g', (xr.begin dl).2)))) := Lib.hid (XR.out.turn (XR.out.al.more (by omega) (by have := HKN.out; omega)) HPV.out HWB2.out)
                obtain ⟨wy, hwy⟩ : ∃ wy, wy = wx.drewN nq := ⟨_, rfl⟩
                rw [← hwy] at G9 I9 ⊢
                clear hwy G8 IN8 y3 y9 v1 HIP HBP
                go_upto_region 38 with fail
                go_wp2_with fail
                go_loopw [217] (fun s217 w9 => ∃ j : Nat, s217 = .int .i64 (j : Int) ∧ j ≤ dl.length + 1 ∧ Hid (GS w w9 C8 (LX w p (2 * k) d q r P pv (upd S iv (some (g, (wr'.begin dl).2))) (upd X iv (some (g', (xr.begin dl).2))) [])) ∧ Hid (∃ l', IN w9 b6 (dl.length + 1) c6 l')) (fun s217 _ => dl.length + 1 - (intOf s217).toNat)
                case atStart => exact ⟨0, rfl, Nat.zero_le _, G9, Lib.hid ⟨_, I9.out⟩⟩
                case round =>
                  obtain ⟨j, rfl, hj, GJ, IJ⟩ := hrel
                  obtain ⟨wz, hwz⟩ : ∃ wz, wz = wr := ⟨_, rfl⟩
                  rw [← hwz] at GJ IJ ⊢
                  clear hwz
                  obtain ⟨l', hl'⟩ := IJ.out
                  by_cases hltj : j < dl.length + 1
                  · have hji : (j : Int) < (dl.length : Int) + 1 := by omega
                    have hj0 : (0 : Int) ≤ (j : Int) := by omega
                    have hj3 : (j : Int) ≤ 3001 := by have := HDL.out; omega
                    obtain ⟨u9, cu9⟩ := hl'.has (j := j) (by have := hl'.nc; omega)
                    have cf9 := hl'.frozen (j := j) (by have := hl'.nc; omega)
                    have GN : Hid (GS w (wz.setCell ⟨b6, j, none⟩ (.int .u8 120)) C8 (LX w p (2 * k) d q r P pv (upd S iv (some (g, (wr'.begin dl).2))) (upd X iv (some (g', (xr.begin dl).2))) [])) := Lib.hid (GJ.out.other (c := 9) (by simp [LX]) (Chg.setCell (p := ⟨b6, j, none⟩) (Chg.refl _ _) (.inl HK8.out) _) (Sam.refl _ _))
                    have IN9 : Hid (∃ l', IN (wz.setCell ⟨b6, j, none⟩ (.int .u8 120)) b6 (dl.length + 1) c6 l') := Lib.hid ⟨_, hl'.put j 120⟩
                    clear hl' IJ GJ
                    go_wp2_with fail
                    go_roundw
                    case rel => exact ⟨j + 1, by go_num, by omega, GN, IN9⟩
                    case measure => simp [intOf]; omega
                  · obtain rfl : j = dl.length + 1 := by omega
                    have HF : Hid (∃ C d' r' pv' S' X', Hid (GS w wz C (LX w p (2 * k + 2) d' q r' P pv' S' X' [])) ∧ Hid (XS d' r' (2 * k + 2) pv' S' X')) := Lib.hid ⟨C8, d, r, pv, _, _, Lib.hid (LX.more GJ.out (by omega) HKN.out), XX9⟩
                    clear hl' IJ GJ
                    go_wp2_with fail
                    go_meet
                    exact HF.out
          · skip
            as_aux_lemma =>
              have CS := Lib.hid (LX.stepW G2.out HKN.out hi2 HS2.out HWX.out.ok)
              obtain ⟨e1, e2, e3⟩ := HWX.out.step XR.out.al (LX.dk G2.out).ok (by have := HKN.out; omega)
              have HST := Lib.hid (And.intro e1 (And.intro e2 e3))
              clear e1 e2 e3
              obtain ⟨⟨bs, es⟩, hbs⟩ : ∃ x, x = (wr'.step d).1 := ⟨_, rfl⟩
              rw [← hbs] at CS
              have HBS := Lib.hid hbs
              clear hbs KB
              go_wp2_with fail
              refine CS.out.mono ?_
              rintro e w5 ⟨rfl, hg5⟩
              simp only
              obtain ⟨C5, hC5⟩ : ∃ C5, C5 = paint C2' w2'.heap.size 1 := ⟨_, rfl⟩
              rw [← hC5] at hg5
              have G5 := Lib.hid hg5
              clear hg5 hC5 CS z0 z1 z2 z3 z4 z5 hp1 hp2 hp3 hp4
              obtain ⟨hp1, hp2, hp3, hp4⟩ := LX.cells G5.out hi2
              rw [HPV.out] at hp1 hp2
              simp only at hp1 hp2
              have CS := Lib.hid (LX.stepX G5.out XR.out.al.rok hi2 HX2.out HWX.out.dn3 HWX.out.len)
              rw [← HST.out.1, ← HBS.out] at CS
              go_wp2_with fail
              refine CS.out.mono ?_
              rintro e w6 ⟨rfl, hg6⟩
              simp only
              have HF : Hid (∃ C d' r' pv' S' X', Hid (GS w w6 C (LX w p (2 * k + 2) d' q r' P pv' S' X' [])) ∧ Hid (XS d' r' (2 * k + 2) pv' S' X')) := Lib.hid ⟨_, _, _, pv, _, _, Lib.hid (LX.front (M := []) hg6), Lib.hid (XR.out.turn HST.out.2.1 HPV.out HST.out.2.2)⟩
              clear hg6 CS hp1 hp2 hp3 hp4
              go_wp2_with fail
              go_meet
              exact HF.out
      case rest => as_aux_lemma =>
        obtain ⟨C6, d6, r6, pv6, S6, X6, G6, X6'⟩ := hcut
        obtain ⟨wx, hwx⟩ : ∃ wx, wx = wc := ⟨_, rfl⟩
        rw [← hwx] at G6 ⊢
        clear hwx wc G2 XR HBP HDL HIN HIV HSO hiv2 hiv0 hi2
        go_wp2_with fail
        go_loopw [224] (fun s224 w7 => ∃ j : Nat, s224 = .int .i64 (j : Int) ∧ j ≤ 2 ∧ Hid (GS w w7 C6 (LX w p (2 * k + 2) d6 q r6 P pv6 S6 X6 []))) (fun s224 _ => 2 - (intOf s224).toNat)
        case atStart => exact ⟨0, rfl, Nat.zero_le _, G6⟩
        case round =>
          obtain ⟨j, rfl, hj, GY⟩ := hrel
          clear G6
          obtain ⟨wy, hwy⟩ : ∃ wy, wy = wr := ⟨_, rfl⟩
          rw [← hwy] at GY ⊢
          clear hwy
          by_cases hlt2 : j < 2
          · have hji : (j : Int) < 2 := by omega
            have hj0 : (0 : Int) ≤ (j : Int) := by omega
            obtain ⟨c1, c2, -, -⟩ := LX.cells GY.out hlt2
            have q1 : ∀ q, (wy.drewN q).cell? ⟨P, j * 2, none⟩ = some (pv6 j).1 := fun _ => c1
            have q2 : ∀ q, (wy.drewN q).cell? ⟨P, j * 2 + 1, none⟩ = some (pv6 j).2 := fun _ => c2
            clear c1 c2
            rcases X6'.out.two hlt2 with ⟨hpv, hS, hX⟩ | ⟨g, wr', g', xr, hpv, hS, hX, hwx⟩
            · rw [hpv] at q1 q2
              simp only at q1 q2
              clear hpv hS hX
              go_upto_region 46 with fail
              go_quiet (fail)
              go_wp2_with fail
              go_roundw
              case rel => exact ⟨j + 1, by go_num, by omega, Lib.hid (GY.out.keep (below_drewN (Below.refl _ _) nq))⟩
              case measure => simp [intOf]; omega
            · rw [hpv] at q1 q2
              simp only at q1 q2
              have H1 : Hid (∀ q, Calls Tryz.prog 23 #[.pointer (some ⟨g, 0, none⟩)] (wy.drewN q) fun e w' => e = .returned (.bool wr'.busy) ∧ wy.drewN q = w') := Lib.hid (fun q => by
                obtain ⟨v, hv⟩ := LX.wc (GY.out.keep (below_drewN (Below.refl _ _) q)) hlt2 hS
                exact busy_any _ _ _ _ g v wr' hv)
              have H2 : Hid (∀ q, Calls Tryz.prog 24 #[.pointer (some ⟨g', 0, none⟩)] (wy.drewN q) fun e w' => e = .returned (.bool wr'.busy) ∧ wy.drewN q = w') := Lib.hid (fun q => by
                obtain ⟨v, hv⟩ := LX.xc (GY.out.keep (below_drewN (Below.refl _ _) q)) hlt2 hX
                have := busy22_any _ _ _ _ g' v xr hv
                rw [hwx.busy] at this
                exact this)
              clear hpv hS hX hwx
              go_upto_region 46 with fail
              go_quiet ((first | (with_reducible exact quiet (H1.out _)) | (with_reducible exact quiet (H2.out _))))
              go_wp2_with fail
              go_roundw
              case rel => exact ⟨j + 1, by go_num, by omega, Lib.hid (GY.out.keep (below_drewN (Below.refl _ _) nq))⟩
              case measure => simp [intOf]; omega
          · obtain rfl : j = 2 := by omega
            have G7 := GY
            have CA := Lib.hid (alike_any (LX.dk G7.out) (LX.rd G7.out) X6'.out.al (by omega))
            go_wp2_with fail
            refine CA.out.mono ?_
            rintro e w8 ⟨rfl, hb8⟩
            have G8 : Hid (GS w w8 C6 (LX w p (2 * (k + 1)) d6 q r6 P pv6 S6 X6 [])) := Lib.hid (G7.out.keep hb8)
            have X8 : Hid (XS d6 r6 (2 * (k + 1)) pv6 S6 X6) := X6'
            clear hb8 CA G7 GY
            go_wp2_with fail
            go_roundw
            case rel => exact ⟨k + 1, by go_num, by omega, C6, d6, r6, pv6, S6, X6, G8, X8⟩
            case measure => simp [intOf]; omega
    · obtain rfl : k = L0 := by omega
      have HF : Hid (TrueQ w (.returned (.bool true)) wr) := Lib.hid ⟨rfl, GR.out.bel⟩
      go_wp2_with fail
      go_ret
      exact HF.out
end Go.Proofs.YtlojmmcagglpoaaGreat
