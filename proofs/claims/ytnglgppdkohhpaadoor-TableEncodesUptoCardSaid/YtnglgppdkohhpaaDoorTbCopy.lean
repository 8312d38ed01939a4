/- THE WALK of copied (printed by a program of ours). -/
import Derived.Test.YtnglgppdkohhpaaDoorTbPre
import Derived.Test.YtnglgppdkohhpaaDoorTbEq
import Derived.RegionTactic
import Derived.Deep.DeepCutAuto
import Derived.Deep.CutBlock
import Derived.Deep.DrawnRows
namespace Go.Proofs.YtnglgppdkohhpaaDoor
open Go.RowKit
/-- the rows that are copied so far -/
structure CW (W : World) (N0 : Nat) (nv : Value) (vs : List Value) (nx : List (List Int)) : Prop where
  on : W.ownsRow N0 35 1 nv vs.length vs
  len : vs.length = nx.length
  rows : ∀ (s : Nat) (v : Value) (row : List Int), vs[s]? = some v → nx[s]? = some row → PR W N0 3 v (row.map iV) (iV (-77))
  ap : ∀ (i j : Nat) (v v' : Value), vs[i]? = some v → vs[j]? = some v' → v.ownBlock = v'.ownBlock → i = j
theorem CW.keep {W W' : World} {N0 : Nat} {nv : Value} {vs : List Value} {nx : List (List Int)} (h : CW W N0 nv vs nx) (hb : Below W.heap.size W W') : CW W' N0 nv vs nx :=
  ⟨own_keep h.on hb, h.len, fun s v row hv hr => (h.rows s v row hv hr).keep hb, h.ap⟩
theorem CW.app {W W' : World} {N0 : Nat} {nv nv' rv : Value} {vs : List Value} {nx : List (List Int)} {row : List Int} (h : CW W N0 nv vs nx) (hr : PR W N0 3 rv (row.map iV) (iV (-77))) (hnew : ∀ (i : Nat) (v : Value), vs[i]? = some v → v.ownBlock ≠ rv.ownBlock)
    (ho : W'.ownsRow N0 35 1 nv' (vs ++ [rv]).length (vs ++ [rv])) (hw : W.grownBy W' nv.ownBlock) : CW W' N0 nv' (vs ++ [rv]) (nx ++ [row]) := by
  have hc : Chg (fun k => nv.ownBlock = some k) W W' := (Chg.refl _ W).grown hw (fun k hk _ => hk)
  have key : ∀ i v, (vs ++ [rv])[i]? = some v → (i < vs.length ∧ vs[i]? = some v) ∨ (i = vs.length ∧ v = rv) := fun i v hi => by
    by_cases hs : i < vs.length
    · rw [List.getElem?_append_left hs] at hi; exact .inl ⟨hs, hi⟩
    · rw [List.getElem?_append_right (by omega)] at hi
      have hs0 : i - vs.length = 0 := by have := (List.getElem?_eq_some_iff.1 hi).1; simp at this; omega
      rw [hs0] at hi
      simp at hi
      exact .inr ⟨by omega, hi.symm⟩
  refine ⟨ho, by simp [h.len], fun s v row' hv hr' => ?_, fun i j v v' hi hj e => ?_⟩
  · rcases key s v hv with ⟨h1, h2⟩ | ⟨h1, rfl⟩
    · rw [List.getElem?_append_left (by rw [← h.len]; exact h1)] at hr'
      have h3 := h.rows s v row' h2 hr'
      exact h3.chg hc (h3.apart_own h.on (by decide))
    · rw [h1, List.getElem?_append_right (by rw [h.len]; exact Nat.le_refl _), h.len, Nat.sub_self] at hr'
      simp at hr'
      subst hr'
      exact hr.chg hc (hr.apart_own h.on (by decide))
  · rcases key i v hi with ⟨h1, h2⟩ | ⟨h1, rfl⟩ <;> rcases key j v' hj with ⟨h3, h4⟩ | ⟨h3, rfl⟩
    · exact h.ap i j v v' h2 h4 e
    · exact absurd e (hnew i v h2)
    · exact absurd e.symm (hnew j v' h4)
    · omega
structure RWS (W : World) (N0 : Nat) (vs : List Value) (nx : List (List Int)) : Prop where
  len : vs.length = nx.length
  rows : ∀ (s : Nat) (v : Value) (row : List Int), vs[s]? = some v → nx[s]? = some row → PR W N0 3 v (row.map iV) (iV (-77))
  ap : ∀ (i j : Nat) (v v' : Value), vs[i]? = some v → vs[j]? = some v' → v.ownBlock = v'.ownBlock → i = j
theorem RWS.keep {W W' : World} {N0 : Nat} {vs : List Value} {nx : List (List Int)} (h : RWS W N0 vs nx) (hb : Below W.heap.size W W') : RWS W' N0 vs nx :=
  ⟨h.len, fun s v row hv hr => (h.rows s v row hv hr).keep hb, h.ap⟩
theorem CW.rws {W W' : World} {N0 : Nat} {nv : Value} {vs : List Value} {nx : List (List Int)} (h : CW W N0 nv vs nx) (hw : W.grownBy W' nv.ownBlock) : RWS W' N0 vs nx := by
  have hc : Chg (fun k => nv.ownBlock = some k) W W' := (Chg.refl _ W).grown hw (fun k hk _ => hk)
  exact ⟨h.len, fun s v row hv hr => (h.rows s v row hv hr).chg hc ((h.rows s v row hv hr).apart_own h.on (by decide)), h.ap⟩
theorem append_rg {α : Type} {f : α → Value} (hf1 : ∀ x, (f x).oneCell' = true) {w : World} {ops : Array Oper} {rest : List Oper} {o : Oper} {a : Act} {Q : Exit → Act → World → Prop} (hgd : o.guard = none) (s x : Operand) (t e : TypeId) {z : Value} {by_ : Nat}
    (ho : o.op = .call { callee := .builtin .append, args := #[s, x], argTypes := #[t, t] }) (ht : Tryd.prog.underlying t = some (.slice e)) (hinfo : (Tryd.prog.info? e).map (fun i => (i.zero, i.size, i.bytes)) = some (some z, 1, by_)) (hz : z.cells.size = 1)
    (base : Nat) (v : Value) (xs : List Value) (hs : a.eval s = v) (hown : w.ownsRow base e 1 v xs.length xs) (A : Option Addr) (n c : Nat) (l : List α) (hx : a.eval x = .slice A n c) (hr : RG f w A n l)
    (hlen : (xs.length + n) * by_ ≤ 140737488355328) (hmax : xs.length + n ≤ maxLen) (hbase : base ≤ w.heap.size)
    (h : ∀ v' w', w'.ownsRow base e 1 v' (xs ++ l.map f).length (xs ++ l.map f) → w.grownBy w' v.ownBlock → (v'.ownBlock = v.ownBlock ∨ v'.ownBlock = some w.heap.size) → wpList Tryd.prog ops Q rest (a.put o.dst v') w') : wpList Tryd.prog ops Q (o :: rest) a w := by
  have hl := hr.1
  refine append_row hgd s x t e ho ht hinfo hz (by omega) base v xs.length xs hs hown A n c (l.map f) hx (by simp [hl]) (fun hA => ?_) (fun ad e j y hj => ?_) (fun y hy => ?_) hlen hmax hbase (fun v' w' h2 h3 h4 => h v' w' (by rw [List.length_append, List.length_map, hl]; exact h2) h3 h4)
  · rcases Nat.eq_zero_or_pos n with h0 | h0
    · exact h0
    · obtain ⟨b, off, e, _⟩ := hr.2 h0; rw [hA] at e; cases e
  · have hjl := (List.getElem?_eq_some_iff.1 hj).1
    rw [List.length_map] at hjl
    obtain ⟨b, off, e2, _, hc⟩ := hr.2 (by omega)
    rw [e] at e2
    obtain rfl := Option.some.inj e2
    rw [List.getElem?_map] at hj
    obtain ⟨q, hq⟩ : ∃ q, l[j]? = some q := ⟨_, List.getElem?_eq_getElem hjl⟩
    rw [hq] at hj
    obtain rfl := Option.some.inj hj
    rw [Addr.add_mid]
    exact hc j q hq
  · obtain ⟨q, _, rfl⟩ := List.mem_map.1 hy
    exact hf1 q
theorem fold_set : ∀ (xs : List Value) (k : Nat) (acc : Array Value), (List.foldl (fun (cs : Array Value) (x : Value × Nat) => cs.setIfInBounds x.snd x.fst) acc (xs.zipIdx k)).size = acc.size ∧ ∀ j, (List.foldl (fun (cs : Array Value) (x : Value × Nat) => cs.setIfInBounds x.snd x.fst) acc (xs.zipIdx k))[j]? = if k ≤ j ∧ j < k + xs.length ∧ j < acc.size then xs[j - k]? else acc[j]?
  | [], k, acc => ⟨rfl, fun j => by rw [if_neg (by simp; omega)]; rfl⟩
  | x :: xs, k, acc => by
    obtain ⟨h1, h2⟩ := fold_set xs (k + 1) (acc.setIfInBounds k x)
    rw [List.zipIdx_cons, List.foldl_cons]
    refine ⟨by rw [h1]; simp, fun j => ?_⟩
    rw [h2 j, Array.size_setIfInBounds, List.length_cons]
    by_cases e : j = k
    · subst e
      rw [if_neg (by omega), Array.getElem?_setIfInBounds_self]
      by_cases hj : j < acc.size
      · rw [if_pos hj, if_pos (by omega), Nat.sub_self]; rfl
      · rw [if_neg hj, if_neg (by omega), Array.getElem?_eq_none (by omega)]
    · rw [Array.getElem?_setIfInBounds_ne (fun h => e h.symm)]
      by_cases h4 : k + 1 ≤ j ∧ j < k + 1 + xs.length ∧ j < acc.size
      · rw [if_pos h4, if_pos (by omega), show j - k = (j - (k + 1)) + 1 from by omega]; rfl
      · rw [if_neg h4, if_neg (by omega)]
theorem fold_cls (cl : List Int) (hcl : cl.length = 256) : List.foldl (fun (cs : Array Value) (x : Value × Nat) => cs.setIfInBounds x.snd x.fst) (dcells zcls nilV nilV nilV) (cl.map iV).zipIdx = dcells cl nilV nilV nilV := by
  have hsz := zsize
  obtain ⟨h1, h2⟩ := fold_set (cl.map iV) 0 (dcells zcls nilV nilV nilV)
  apply Array.ext_getElem?
  intro j
  rw [h2 j, hsz]
  by_cases hj : j < 256
  · obtain ⟨x, hx⟩ : ∃ x, cl[j]? = some x := ⟨_, List.getElem?_eq_getElem (by omega)⟩
    rw [if_pos (by simp; omega), dcells_cls j x hx, Nat.sub_zero, List.getElem?_map, hx]; rfl
  · rw [if_neg (by simp; omega)]
    by_cases e1 : j = 256
    · subst e1; rw [dcells_nx zlen, dcells_nx hcl]
    by_cases e2 : j = 257
    · subst e2; rw [dcells_fo zlen, dcells_fo hcl]
    by_cases e3 : j = 258
    · subst e3; rw [dcells_en zlen, dcells_en hcl]
    · rw [Array.getElem?_eq_none (by rw [hsz]; omega), Array.getElem?_eq_none (by rw [dcells_size hcl]; omega)]
def CopQ (t : Tb) (w : World) (e : Ending) (w' : World) : Prop :=
  ∃ vn vf ve vs z, e = .returned (.agg (dcells t.cls vn vf ve)) ∧ CP w' w.heap.size vn vf ve t vs z ∧ Below w.heap.size w w'
set_option maxRecDepth 100000 in
set_option maxHeartbeats 4000000 in
theorem copied_any (cs : Array Value) (t : Tb) (w : World) (h : TB w cs t) (hs : t.nx.length ≤ 1048576 ∧ t.fo.length ≤ 1048576 ∧ t.en.length ≤ 1048576 ∧ ∀ l ∈ t.nx, l.length ≤ 1048576) :
    Calls Tryd.prog 9 #[.agg cs] w (CopQ t w) := by
  have TB0 := Lib.hid h; have HS := Lib.hid hs
  clear h hs
  have hz := zero_run
  obtain ⟨zc, hzc⟩ : ∃ zc, zc = dcells zcls nilV nilV nilV := ⟨_, rfl⟩
  have HZC := Lib.hid hzc
  rw [← hzc] at hz
  clear hzc
  go_enter Tryd.func9, Tryd.ntmps9
  go_upto_region 1 with fail
  obtain ⟨w1, hw1⟩ : ∃ w1, w1 = (w.alloc (.cells cs 26)).alloc (.cells zc 26) := ⟨_, rfl⟩
  obtain ⟨b, hb⟩ : ∃ b, b = w.heap.size := ⟨_, rfl⟩
  obtain ⟨b2, hb2⟩ : ∃ b2, b2 = w.heap.size + 1 := ⟨_, rfl⟩
  have B1 : Hid (Below w.heap.size w w1) := Lib.hid (by rw [hw1]; exact (below_alloc _ _).trans ((below_alloc _ _).mono (by simp)))
  have D1 : Hid (DX w1 b cs t) := Lib.hid (by rw [hw1, hb]; exact (DX.new TB0.out).keep (below_alloc _ _))
  have Z1 : Hid (Blk w1 b2 26 zc ∧ b ≠ b2 ∧ w.heap.size ≤ b ∧ w.heap.size ≤ b2) := Lib.hid ⟨by rw [hw1, hb2]; exact Blk.new _ _ _ (by simp), by omega, by omega, by omega⟩
  obtain ⟨N0, hN0⟩ : ∃ N0, N0 = w1.heap.size := ⟨_, rfl⟩
  have HN0 : Hid (N0 = w1.heap.size ∧ b < N0 ∧ b2 < N0) := Lib.hid ⟨hN0, by rw [hN0]; exact D1.out.blk.lt, by rw [hN0]; exact Z1.out.1.lt⟩
  rw [← hw1, ← hb2, ← hb]
  clear hw1 hb hb2 hN0
  obtain ⟨An, cn, Af, cf, Ae, ce, c1, c2, c3, l1, l2, l3, r1, r2, r3⟩ := D1.out.open_
  obtain ⟨n, hn⟩ : ∃ n, n = t.nx.length := ⟨_, rfl⟩
  obtain ⟨f, hf⟩ : ∃ f, f = t.fo.length := ⟨_, rfl⟩
  obtain ⟨g, hg⟩ : ∃ g, g = t.en.length := ⟨_, rfl⟩
  rw [← hn] at c1 r1 l1
  rw [← hf] at c2 r2 l2
  rw [← hg] at c3 r3 l3
  have HN : Hid (n = t.nx.length ∧ f = t.fo.length ∧ g = t.en.length) := Lib.hid ⟨hn, hf, hg⟩
  have hnb : n ≤ 1048576 := by rw [hn]; exact HS.out.1
  have hfb : f ≤ 1048576 := by rw [hf]; exact HS.out.2.1
  have hgb : g ≤ 1048576 := by rw [hg]; exact HS.out.2.2.1
  have C1 := Lib.hid c1; have C2 := Lib.hid c2; have C3 := Lib.hid c3
  have R1 := Lib.hid r1; have R2 := Lib.hid r2; have R3 := Lib.hid r3
  clear hn hf hg c2 c3 r1 r2 r3 l1 l2 l3
  go_wp2_with fail
  clear c1
  go_loopw [3, 11] (fun nv iv W => ∃ s : Nat, s ≤ n ∧ iv = .int .i64 (s : Int) ∧ Hid (Below N0 w1 W) ∧ ∃ vs, Hid (CW W N0 nv vs (t.nx.take s))) (fun _ iv _ => n - (intOf iv).toNat)
  case atStart => exact ⟨0, Nat.zero_le _, rfl, Lib.hid (Below.refl _ _), [], Lib.hid ⟨World.ownsRow_nil _ _ _ 1, rfl, fun s v row hv => by simp at hv, fun i j v v' hv => by simp at hv⟩⟩
  case round =>
    obtain ⟨s, hs, rfl, BS, vs, HW⟩ := hrel
    have BS2 : Hid (Below w1.heap.size w1 wr) := Lib.hid (by rw [← HN0.out.1]; exact BS.out)
    have c1 : wr.cell? ⟨b, 256, none⟩ = some (.slice An n cn) := cell_later BS2.out C1.out
    by_cases hlt : s < n
    · obtain ⟨bn, on, rfl, hbn, row, A1, v1, hrow, hrc, k1, rr⟩ := (R1.out.keep BS2.out).at_ hlt
      obtain ⟨r, hr⟩ : ∃ r, r = row.length := ⟨_, rfl⟩
      rw [← hr] at k1 rr hrc
      have hrb : r ≤ 1048576 := by rw [hr]; exact HS.out.2.2.2 row (List.mem_of_getElem? hrow)
      have HR := Lib.hid (And.intro hr hrow)
      have RR := Lib.hid rr; have K1 := Lib.hid k1
      have hs0 : (0 : Int) ≤ (s : Int) := by omega
      have hsn : (s : Int) < (n : Int) := by omega
      have HSZ : Hid (N0 ≤ wr.heap.size) := Lib.hid (by have := BS.out.size; have := HN0.out.1; omega)
      have hz0 : (([] : List Value).length + r) * 8 ≤ 140737488355328 := by simp; omega
      have hz1 : ([] : List Value).length + r ≤ maxLen := by unfold maxLen; simp; omega
      have HZ := Lib.hid (And.intro hz0 hz1)
      clear hr hrow rr hz0 hz1 hbn
      go_wp2_with ((at_builtin; go_must (refine append_rg (f := iV) (fun _ => rfl) rfl (.tmp 14) (.tmp 19) 35 3 rfl Tryd.underlying35 infoInt rfl wr.heap.size (.slice none 0 0) [] rfl (World.ownsRow_nil _ _ _ 1) A1 r v1 row rfl RR.out HZ.out.1 HZ.out.2 (Nat.le_refl _) ?_); intro v6 w6 ho6 hg6 ha6; refine halt ?_))
      refine unhalt ?_
      rw [List.nil_append] at ho6
      have B6 : Hid (Below wr.heap.size wr w6) := Lib.hid ((Below.refl _ _).grown hg6 (Nat.le_refl _) (fun j hj => by cases hj))
      have OA : Hid ((w6.alloc (.cells #[.int .i64 (-77)] 3)).ownsRow wr.heap.size 3 1 v6 (row.map iV).length (row.map iV)) := Lib.hid (own_keep ho6 (below_alloc _ _))
      have CA : Hid ((w6.alloc (.cells #[.int .i64 (-77)] 3)).cell? ⟨w6.heap.size, 0, none⟩ = some (.int .i64 (-77))) := Lib.hid ((Blk.new w6 3 _ rfl).cell 0)
      have HLR : Hid ((row.map iV).length = r) := Lib.hid (by rw [List.length_map, HR.out.1])
      have HZ2 : Hid (wr.heap.size ≤ (w6.alloc (.cells #[.int .i64 (-77)] 3)).heap.size) := Lib.hid (by have := B6.out.size; simp; omega)
      clear ho6 hg6 ha6 c1 k1 RR
      go_wp2_with ((at_builtin; go_must (refine append_cell rfl (.tmp 21) (.tmp 22) 35 3 rfl Tryd.underlying35 infoInt rfl wr.heap.size v6 (row.map iV) rfl OA.out w6.heap.size 1 (.int .i64 (-77)) rfl CA.out rfl (by rw [HLR.out]; omega) (by rw [HLR.out]; unfold maxLen; omega) HZ2.out ?_); intro v7 w7 ho7 hg7 ha7; refine halt ?_))
      refine unhalt ?_
      have B7 : Hid (Below wr.heap.size wr w7) := Lib.hid ((B6.out.trans ((below_alloc _ _).mono B6.out.size)).grown hg7 HZ2.out (fun j hj => (OA.out.lt j hj).1))
      obtain ⟨g7, c7, rfl, hc7, hp7⟩ := PR.of_own ho7
      rw [HLR.out] at hp7 hc7 ⊢
      have P7 := Lib.hid hp7
      have BS7 : Hid (Below N0 w1 w7) := Lib.hid (BS.out.trans (B7.out.mono HSZ.out))
      have HW7 := Lib.hid (HW.out.keep B7.out)
      have BT7 : Hid (Below w1.heap.size w1 w7) := Lib.hid (by rw [← HN0.out.1]; exact BS7.out)
      have c7' : w7.cell? ⟨b, 256, none⟩ = some (.slice (some ⟨bn, on, none⟩) n cn) := cell_later BT7.out C1.out
      have k7 : w7.cell? ⟨bn, on + s, none⟩ = some (.slice A1 r v1) := cell_later B7.out K1.out
      have hr0 : (0 : Int) ≤ (r : Int) := by omega
      have hr1 : (r : Int) ≤ (c7 : Int) := by omega
      have P7A : Hid (PR (w7.alloc (.cells #[.slice (some ⟨g7, 0, none⟩) r c7] 35)) N0 3 (.slice (some ⟨g7, 0, none⟩) r c7) (row.map iV) (iV (-77))) := Lib.hid ((P7.out.less HSZ.out).keep (below_alloc _ _))
      have HWA : Hid (CW (w7.alloc (.cells #[.slice (some ⟨g7, 0, none⟩) r c7] 35)) N0 u3 vs (t.nx.take s)) := Lib.hid (HW7.out.keep (below_alloc _ _))
      have CA7 : Hid ((w7.alloc (.cells #[.slice (some ⟨g7, 0, none⟩) r c7] 35)).cell? ⟨w7.heap.size, 0, none⟩ = some (.slice (some ⟨g7, 0, none⟩) r c7)) := Lib.hid ((Blk.new w7 35 _ rfl).cell 0)
      have HLV : Hid (vs.length = s) := Lib.hid (by rw [HW.out.len, List.length_take, Nat.min_eq_left (by rw [← HN.out.1]; omega)])
      have HZ3 : Hid (N0 ≤ (w7.alloc (.cells #[.slice (some ⟨g7, 0, none⟩) r c7] 35)).heap.size) := Lib.hid (by have := B7.out.size; have := HSZ.out; simp; omega)
      have HNEW : Hid (∀ (i : Nat) (v : Value), vs[i]? = some v → v.ownBlock ≠ some g7) := Lib.hid (fun i v hv e => by
        have hi := (List.getElem?_eq_some_iff.1 hv).1
        rw [HW.out.len] at hi
        obtain ⟨q, h1, _, h3⟩ := (HW.out.rows i v _ hv (List.getElem?_eq_getElem hi)).lt
        obtain ⟨q2, h4, h5, _⟩ := P7.out.lt
        rw [h1] at e
        have e4 := Option.some.inj h4
        have e5 := Option.some.inj e
        simp only at e4
        omega)
      clear hc7 ho7 hg7 ha7 OA CA HZ2 B6 K1 hp7 HW HW7 P7
      go_wp2_with ((at_builtin; go_must (refine append_cell rfl (.tmp 24) (.tmp 33) 23 35 rfl Tryd.underlying23 infoRow rfl N0 u3 vs rfl HWA.out.on w7.heap.size 1 (.slice (some ⟨g7, 0, none⟩) r c7) rfl CA7.out rfl (by rw [HLV.out]; omega) (by rw [HLV.out]; unfold maxLen; omega) HZ3.out ?_); intro v8 w8 ho8 hg8 ha8; refine halt ?_))
      refine unhalt ?_
      have HWN : Hid (CW w8 N0 v8 (vs ++ [.slice (some ⟨g7, 0, none⟩) r c7]) (t.nx.take (s + 1))) := Lib.hid (by
        rw [take_snoc HR.out.2]
        exact HWA.out.app P7A.out HNEW.out ho8 hg8)
      have BN : Hid (Below N0 w1 w8) := Lib.hid ((BS7.out.trans ((below_alloc _ _).mono (by have := B7.out.size; have := HSZ.out; omega))).grown hg8 HZ3.out (fun j hj => (HWA.out.on.lt j hj).1))
      clear ho8 hg8 ha8 HWA P7A CA7 HNEW HZ3 HZ
      go_wp2_with fail
      go_roundw
      case rel =>
        first
          | exact ⟨s + 1, by omega, by go_num, BN, _, HWN⟩
          | ((repeat apply Exists.intro); exact ⟨⟨s + 1, by omega, by go_num, BN, _, HWN⟩, rfl⟩)
      case measure => simp [intOf]; omega
    · obtain rfl : s = n := by omega
      rw [List.take_of_length_le (by rw [HN.out.1]; exact Nat.le_refl _)] at HW
      have HSZ : Hid (N0 ≤ wr.heap.size) := Lib.hid (by have := BS.out.size; have := HN0.out.1; omega)
      have BAA : Hid (Below wr.heap.size wr ((wr.alloc (.cells #[.int .i64 (-77)] 3)).alloc (.cells #[.slice (some ⟨wr.heap.size, 0, none⟩) 1 1] 35))) := Lib.hid ((below_alloc _ _).trans ((below_alloc _ _).mono (by simp)))
      have HWA : Hid (CW ((wr.alloc (.cells #[.int .i64 (-77)] 3)).alloc (.cells #[.slice (some ⟨wr.heap.size, 0, none⟩) 1 1] 35)) N0 u3 vs t.nx) := Lib.hid (HW.out.keep BAA.out)
      have CA7 : Hid (((wr.alloc (.cells #[.int .i64 (-77)] 3)).alloc (.cells #[.slice (some ⟨wr.heap.size, 0, none⟩) 1 1] 35)).cell? ⟨wr.heap.size + 1, 0, none⟩ = some (.slice (some ⟨wr.heap.size, 0, none⟩) 1 1)) := Lib.hid ((Blk.new (wr.alloc (.cells #[.int .i64 (-77)] 3)) 35 _ (by simp)).cell 0)
      have HLV : Hid (vs.length = s) := Lib.hid (by rw [HW.out.len, ← HN.out.1])
      have HZ3 : Hid (N0 ≤ ((wr.alloc (.cells #[.int .i64 (-77)] 3)).alloc (.cells #[.slice (some ⟨wr.heap.size, 0, none⟩) 1 1] 35)).heap.size) := Lib.hid (by have := HSZ.out; simp; omega)
      clear c1 HW
      go_wp2_with ((at_builtin; go_must (refine append_cell rfl (.tmp 36) (.tmp 38) 23 35 rfl Tryd.underlying23 infoRow rfl N0 u3 vs rfl HWA.out.on (wr.heap.size + 1) 1 (.slice (some ⟨wr.heap.size, 0, none⟩) 1 1) rfl CA7.out rfl (by rw [HLV.out]; omega) (by rw [HLV.out]; unfold maxLen; omega) HZ3.out ?_); intro v10 w10 ho10 hg10 ha10; refine halt ?_))
      refine unhalt ?_
      have RW10 : Hid (RWS w10 N0 vs t.nx) := Lib.hid (HWA.out.rws hg10)
      have B10 : Hid (Below N0 w1 w10) := Lib.hid ((BS.out.trans (BAA.out.mono HSZ.out)).grown hg10 HZ3.out (fun j hj => (HWA.out.on.lt j hj).1))
      obtain ⟨g10, c10, rfl, hc10, hp10⟩ := PR.of_own ho10
      rw [HLV.out] at hp10 hc10 ⊢
      obtain ⟨z, hz2⟩ : ∃ z, z = Value.slice (some ⟨wr.heap.size, 0, none⟩) 1 1 := ⟨_, rfl⟩
      have HZL : Hid (oneLong z) := Lib.hid ⟨_, 1, hz2, Nat.le_refl _⟩
      rw [← hz2] at hp10
      have P10 := Lib.hid hp10
      have D10 := Lib.hid hc10
      have BW12 : Hid (Below w1.heap.size w1 w10) := Lib.hid (by rw [← HN0.out.1]; exact B10.out)
      clear hp10 hc10 hz2 ho10 hg10 ha10 HWA CA7 HZ3 BAA BS BS2
      have c12 : w10.cell? ⟨b, 257, none⟩ = some (.slice Af f cf) := cell_later BW12.out C2.out
      have RA12 := Lib.hid (R2.out.keep BW12.out)
      have hz0 : (([] : List Value).length + f) * 4 ≤ 140737488355328 := by simp; omega
      have hz1 : ([] : List Value).length + f ≤ maxLen := by unfold maxLen; simp; omega
      have HZ12 := Lib.hid (And.intro hz0 hz1)
      clear hz0 hz1
      go_wp2_with ((at_builtin; go_must (refine append_rg (f := uV) (fun _ => rfl) rfl (.tmp 40) (.tmp 42) 24 34 rfl Tryd.underlying24 infoU rfl w10.heap.size (.slice none 0 0) [] rfl (World.ownsRow_nil _ _ _ 1) Af f cf t.fo rfl RA12.out HZ12.out.1 HZ12.out.2 (Nat.le_refl _) ?_); intro va12 wa12 hoa hga haa; refine halt ?_))
      refine unhalt ?_
      rw [List.nil_append] at hoa
      have BA12 : Hid (Below w10.heap.size w10 wa12) := Lib.hid ((Below.refl _ _).grown hga (Nat.le_refl _) (fun j hj => by cases hj))
      have OA : Hid ((wa12.alloc (.cells #[.int .u32 77] 34)).ownsRow w10.heap.size 34 1 va12 (t.fo.map uV).length (t.fo.map uV)) := Lib.hid (own_keep hoa (below_alloc _ _))
      have CA : Hid ((wa12.alloc (.cells #[.int .u32 77] 34)).cell? ⟨wa12.heap.size, 0, none⟩ = some (.int .u32 77)) := Lib.hid ((Blk.new wa12 34 _ rfl).cell 0)
      have HLR : Hid ((t.fo.map uV).length = f) := Lib.hid (by rw [List.length_map, HN.out.2.1])
      have HZ2 : Hid (w10.heap.size ≤ (wa12.alloc (.cells #[.int .u32 77] 34)).heap.size) := Lib.hid (by have := BA12.out.size; simp; omega)
      clear hoa hga haa c12 RA12 HZ12
      go_wp2_with ((at_builtin; go_must (refine append_cell rfl (.tmp 44) (.tmp 45) 24 34 rfl Tryd.underlying24 infoU rfl w10.heap.size va12 (t.fo.map uV) rfl OA.out wa12.heap.size 1 (.int .u32 77) rfl CA.out rfl (by rw [HLR.out]; omega) (by rw [HLR.out]; unfold maxLen; omega) HZ2.out ?_); intro vb12 w13 hob hgb hab; refine halt ?_))
      refine unhalt ?_
      have BB12 : Hid (Below w10.heap.size w10 w13) := Lib.hid ((BA12.out.trans ((below_alloc _ _).mono BA12.out.size)).grown hgb HZ2.out (fun j hj => (OA.out.lt j hj).1))
      obtain ⟨g12, d12, rfl, hd12, hp12⟩ := PR.of_own hob
      rw [HLR.out] at hp12 hd12 ⊢
      have P12 := Lib.hid hp12
      have D12 := Lib.hid hd12
      clear hob hgb hab OA CA HLR HZ2 BA12 hp12 hd12
      have BW15 : Hid (Below w1.heap.size w1 w13) := Lib.hid (BW12.out.trans (BB12.out.mono BW12.out.size))
      have c15 : w13.cell? ⟨b, 258, none⟩ = some (.slice Ae g ce) := cell_later BW15.out C3.out
      have RA15 := Lib.hid (R3.out.keep BW15.out)
      have hz0 : (([] : List Value).length + g) * 4 ≤ 140737488355328 := by simp; omega
      have hz1 : ([] : List Value).length + g ≤ maxLen := by unfold maxLen; simp; omega
      have HZ15 := Lib.hid (And.intro hz0 hz1)
      clear hz0 hz1
      go_wp2_with ((at_builtin; go_must (refine append_rg (f := uV) (fun _ => rfl) rfl (.tmp 47) (.tmp 49) 24 34 rfl Tryd.underlying24 infoU rfl w13.heap.size (.slice none 0 0) [] rfl (World.ownsRow_nil _ _ _ 1) Ae g ce t.en rfl RA15.out HZ15.out.1 HZ15.out.2 (Nat.le_refl _) ?_); intro va15 wa15 hoa hga haa; refine halt ?_))
      refine unhalt ?_
      rw [List.nil_append] at hoa
      have BA15 : Hid (Below w13.heap.size w13 wa15) := Lib.hid ((Below.refl _ _).grown hga (Nat.le_refl _) (fun j hj => by cases hj))
      have OA : Hid ((wa15.alloc (.cells #[.int .u32 77] 34)).ownsRow w13.heap.size 34 1 va15 (t.en.map uV).length (t.en.map uV)) := Lib.hid (own_keep hoa (below_alloc _ _))
      have CA : Hid ((wa15.alloc (.cells #[.int .u32 77] 34)).cell? ⟨wa15.heap.size, 0, none⟩ = some (.int .u32 77)) := Lib.hid ((Blk.new wa15 34 _ rfl).cell 0)
      have HLR : Hid ((t.en.map uV).length = g) := Lib.hid (by rw [List.length_map, HN.out.2.2])
      have HZ2 : Hid (w13.heap.size ≤ (wa15.alloc (.cells #[.int .u32 77] 34)).heap.size) := Lib.hid (by have := BA15.out.size; simp; omega)
      clear hoa hga haa c15 RA15 HZ15
      go_wp2_with ((at_builtin; go_must (refine append_cell rfl (.tmp 51) (.tmp 52) 24 34 rfl Tryd.underlying24 infoU rfl w13.heap.size va15 (t.en.map uV) rfl OA.out wa15.heap.size 1 (.int .u32 77) rfl CA.out rfl (by rw [HLR.out]; omega) (by rw [HLR.out]; unfold maxLen; omega) HZ2.out ?_); intro vb15 w16 hob hgb hab; refine halt ?_))
      refine unhalt ?_
      have BB15 : Hid (Below w13.heap.size w13 w16) := Lib.hid ((BA15.out.trans ((below_alloc _ _).mono BA15.out.size)).grown hgb HZ2.out (fun j hj => (OA.out.lt j hj).1))
      obtain ⟨g15, d15, rfl, hd15, hp15⟩ := PR.of_own hob
      rw [HLR.out] at hp15 hd15 ⊢
      have P15 := Lib.hid hp15
      have D15 := Lib.hid hd15
      clear hob hgb hab OA CA HLR HZ2 BA15 hp15 hd15
      have BW17 : Hid (Below w1.heap.size w1 w16) := Lib.hid (BW15.out.trans (BB15.out.mono BW15.out.size))
      have X16 : Hid (DX w16 b cs t) := Lib.hid (D1.out.keep BW17.out)
      have Z16 : Hid (Blk w16 b2 26 zc) := Lib.hid (Z1.out.1.keep BW17.out)
      have BF : Hid (Below w.heap.size w w16) := Lib.hid (B1.out.trans (BW17.out.mono B1.out.size))
      have RW16 : Hid (RWS w16 N0 vs t.nx) := Lib.hid ((RW10.out.keep BB12.out).keep (BB15.out))
      have P16 : Hid (PR w16 N0 35 (.slice (some ⟨g10, 0, none⟩) s c10) vs z) := Lib.hid ((P10.out.keep BB12.out).keep BB15.out)
      have Q16 : Hid (PR w16 w10.heap.size 34 (.slice (some ⟨g12, 0, none⟩) f d12) (t.fo.map uV) (uV 77)) := Lib.hid (P12.out.keep BB15.out)
      have HGE : Hid (N0 ≤ w10.heap.size ∧ w10.heap.size ≤ w13.heap.size ∧ w13.heap.size ≤ w16.heap.size ∧ g12 < w13.heap.size ∧ w13.heap.size ≤ g15) := Lib.hid ⟨by have := B10.out.size; have := HN0.out.1; omega, BB12.out.size, BB15.out.size, P12.out.cell.2.2.2.2.1, P15.out.cell.2.2.2.1⟩
      have LD : Hid (∀ w', Chg (fun q => q = b2) w16 w' → w'.rangeAt b 0 (t.cls.map iV) ∧ w'.cell? ⟨b, 256, none⟩ = some (.slice An s cn) ∧ w'.cell? ⟨b, 257, none⟩ = some (.slice Af f cf) ∧ w'.cell? ⟨b, 258, none⟩ = some (.slice Ae g ce)) := Lib.hid (fun w' hc => by
        have hlt := X16.out.blk.lt
        have hne := Z1.out.2.1
        exact ⟨fun j v hv => (hc.cell (p := ⟨b, 0 + j, none⟩) hlt hne).trans (rangeAt_cls X16.out j v hv), (hc.cell (p := ⟨b, 256, none⟩) hlt hne).trans (cell_later BW17.out C1.out), (hc.cell (p := ⟨b, 257, none⟩) hlt hne).trans (cell_later BW17.out C2.out), (hc.cell (p := ⟨b, 258, none⟩) hlt hne).trans (cell_later BW17.out C3.out)⟩)
      have lc : Hid ((Tryd.prog.info? 22).map (·.size) = some (t.cls.map iV).length) := Lib.hid (by rw [size256, List.length_map, TB0.out.hc])
      obtain ⟨dc, hdc⟩ : ∃ dc, dc = dcells t.cls (.slice (some ⟨g10, 0, none⟩) s c10) (.slice (some ⟨g12, 0, none⟩) f d12) (.slice (some ⟨g15, 0, none⟩) g d15) := ⟨_, rfl⟩
      have HDC := Lib.hid hdc
      obtain ⟨zc2, hzc2⟩ : ∃ zc2, zc2 = dcells t.cls nilV nilV nilV := ⟨_, rfl⟩
      have hf1 : List.foldl (fun (cs : Array Value) (x : Value × Nat) => cs.setIfInBounds x.snd x.fst) zc (t.cls.map iV).zipIdx = zc2 := by rw [HZC.out, hzc2]; exact fold_cls t.cls TB0.out.hc
      have hf2 : zc2.size = 259 := by rw [hzc2]; exact dcells_size TB0.out.hc
      have hf3 : zc.size = 259 := by rw [HZC.out]; exact zsize
      have hf4 : t.cls.length = 256 := TB0.out.hc
      have hf5 : ((zc2.setIfInBounds 256 (.slice (some ⟨g10, 0, none⟩) s c10)).setIfInBounds 257 (.slice (some ⟨g12, 0, none⟩) f d12)).setIfInBounds 258 (.slice (some ⟨g15, 0, none⟩) g d15) = dc := by rw [hzc2, hdc]; exact dcells_set TB0.out.hc _ _ _
      have ds : Hid (dc.size = 259 ∧ dc.all (·.oneCell') = true) := Lib.hid ⟨by rw [hdc]; exact dcells_size TB0.out.hc, by rw [hdc]; exact dcells_one rfl rfl rfl⟩
      have di : Hid ((Tryd.prog.info? 26).map (·.size) = some dc.size) := Lib.hid (by rw [size259, ds.out.1])
      have TH : Hid (w16.drew.there b2 0 dc.size) := Lib.hid (there_blk Z16.out _ (by rw [ds.out.1, HZC.out, zsize]; exact Nat.le_refl _))
      have hs0 : (0 : Int) ≤ (s : Int) := by omega
      have hs1 : (s : Int) ≤ (c10 : Int) := by have := D10.out; omega
      have hf0 : (0 : Int) ≤ (f : Int) := by omega
      have hf1 : (f : Int) ≤ (d12 : Int) := by have := D12.out; omega
      have hg0 : (0 : Int) ≤ (g : Int) := by omega
      have hg1 : (g : Int) ≤ (d15 : Int) := by have := D15.out; omega
      clear hdc hzc2 R1 R2 R3 HSZ HLV P10 P12 RW10 BB12 BB15 BW12 BW15 D1 D10 D12 D15 C1 C2 C3 B10 HS
      go_upto_region 17 with fail
      refine wp_region_any (by kernel_rfl) ?_
      change wpAny _ _ _ _ _ _ _ (World.drew _)
      refine wpAny_of_held (S := fun w' => Chg (fun q => q = b2) w16 w') _ _ _ _ ?_
      have hHeld : Chg (fun q => q = b2) w16 w16.drew := Chg.drew (Chg.refl _ _)
      refine wpAnyH_take (i := 0) (v := ?_) rfl (by kernel_rfl) (by kernel_rfl) (by kernel_rfl) (fun _ _ _ h => h) (Or.inl ⟨by rfl, ?_⟩) (by assumption) ?_
      rotate_left 1
      · intro w hSw; (try dsimp only at hSw); go_simp <;> with_reducible rfl
      try simp only [Act.put, List.setIfInBounds_toArray, List.set_cons_zero, List.set_cons_succ, List.getElem_toArray, List.getElem_cons_zero]
      refine wpAnyH_take (i := 1) (v := _) rfl (by kernel_rfl) (by kernel_rfl) (by kernel_rfl) (fun _ _ _ h => h) (yieldsIf_load_mid (by rfl) _ _ rfl _ _ rfl (t.cls.map iV) _ (fun w hw => (LD.out w hw).1) Tryd.underlying22 rfl (lc.out)) (by assumption) ?_
      try simp only [Act.put, List.setIfInBounds_toArray, List.set_cons_zero, List.set_cons_succ, List.getElem_toArray, List.getElem_cons_zero, List.getElem_cons_succ]
      refine wpAnyH_take (i := 2) (v := ?_) rfl (by kernel_rfl) (by kernel_rfl) (by kernel_rfl) (fun _ _ _ h => h) (Or.inl ⟨by rfl, ?_⟩) (by assumption) ?_
      rotate_left 1
      · intro w hSw; (try dsimp only at hSw); go_simp <;> with_reducible rfl
      try simp only [Act.put, List.setIfInBounds_toArray, List.set_cons_zero, List.set_cons_succ, List.getElem_toArray, List.getElem_cons_zero, List.getElem_cons_succ]
      refine wpAnyH_take (i := 3) (v := ?_) rfl (by kernel_rfl) (by kernel_rfl) (by kernel_rfl) (fun _ _ _ h => h) (Or.inl ⟨by rfl, ?_⟩) (by assumption) ?_
      rotate_left 1
      · intro w hSw; (try dsimp only at hSw); go_simp <;> with_reducible rfl
      try simp only [Act.put, List.setIfInBounds_toArray, List.set_cons_zero, List.set_cons_succ, List.getElem_toArray, List.getElem_cons_zero, List.getElem_cons_succ]
      refine wpAnyH_take (i := 4) (v := ?_) rfl (by kernel_rfl) (by kernel_rfl) (by kernel_rfl) (fun _ _ _ h => h) (Or.inl ⟨by rfl, ?_⟩) (by assumption) ?_
      rotate_left 1
      · intro w hSw; have hS2 := (LD.out w hSw).2.1; (try dsimp only at hSw); go_simp <;> with_reducible rfl
      try simp only [Act.put, List.setIfInBounds_toArray, List.set_cons_zero, List.set_cons_succ, List.getElem_toArray, List.getElem_cons_zero, List.getElem_cons_succ]
      refine wpAnyH_take (i := 5) (v := ?_) rfl (by kernel_rfl) (by kernel_rfl) (by kernel_rfl) (fun _ _ _ h => h) (Or.inl ⟨by rfl, ?_⟩) (by assumption) ?_
      rotate_left 1
      · intro w hSw; (try dsimp only at hSw); go_simp <;> with_reducible rfl
      try simp only [Act.put, List.setIfInBounds_toArray, List.set_cons_zero, List.set_cons_succ, List.getElem_toArray, List.getElem_cons_zero, List.getElem_cons_succ]
      refine wpAnyH_take (i := 6) (v := ?_) rfl (by kernel_rfl) (by kernel_rfl) (by kernel_rfl) (fun _ _ _ h => h) (Or.inl ⟨by rfl, ?_⟩) (by assumption) ?_
      rotate_left 1
      · intro w hSw; (try dsimp only at hSw); go_simp <;> with_reducible rfl
      try simp only [Act.put, List.setIfInBounds_toArray, List.set_cons_zero, List.set_cons_succ, List.getElem_toArray, List.getElem_cons_zero, List.getElem_cons_succ]
      refine wpAnyH_take (i := 7) (v := ?_) rfl (by kernel_rfl) (by kernel_rfl) (by kernel_rfl) (fun _ _ _ h => h) (Or.inl ⟨by rfl, ?_⟩) (by assumption) ?_
      rotate_left 1
      · intro w hSw; (try dsimp only at hSw); go_simp <;> with_reducible rfl
      try simp only [Act.put, List.setIfInBounds_toArray, List.set_cons_zero, List.set_cons_succ, List.getElem_toArray, List.getElem_cons_zero, List.getElem_cons_succ]
      refine wpAnyH_take (i := 8) (v := ?_) rfl (by kernel_rfl) (by kernel_rfl) (by kernel_rfl) (fun _ _ _ h => h) (Or.inl ⟨by rfl, ?_⟩) (by assumption) ?_
      rotate_left 1
      · intro w hSw; (try dsimp only at hSw); go_simp <;> with_reducible rfl
      try simp only [Act.put, List.setIfInBounds_toArray, List.set_cons_zero, List.set_cons_succ, List.getElem_toArray, List.getElem_cons_zero, List.getElem_cons_succ]
      refine wpAnyH_take (i := 9) (v := ?_) rfl (by kernel_rfl) (by kernel_rfl) (by kernel_rfl) (fun _ _ _ h => h) (Or.inl ⟨by rfl, ?_⟩) (by assumption) ?_
      rotate_left 1
      · intro w hSw; have hS2 := (LD.out w hSw).2.2.1; (try dsimp only at hSw); go_simp <;> with_reducible rfl
      try simp only [Act.put, List.setIfInBounds_toArray, List.set_cons_zero, List.set_cons_succ, List.getElem_toArray, List.getElem_cons_zero, List.getElem_cons_succ]
      refine wpAnyH_take (i := 10) (v := ?_) rfl (by kernel_rfl) (by kernel_rfl) (by kernel_rfl) (fun _ _ _ h => h) (Or.inl ⟨by rfl, ?_⟩) (by assumption) ?_
      rotate_left 1
      · intro w hSw; (try dsimp only at hSw); go_simp <;> with_reducible rfl
      try simp only [Act.put, List.setIfInBounds_toArray, List.set_cons_zero, List.set_cons_succ, List.getElem_toArray, List.getElem_cons_zero, List.getElem_cons_succ]
      refine wpAnyH_take (i := 11) (v := ?_) rfl (by kernel_rfl) (by kernel_rfl) (by kernel_rfl) (fun _ _ _ h => h) (Or.inl ⟨by rfl, ?_⟩) (by assumption) ?_
      rotate_left 1
      · intro w hSw; (try dsimp only at hSw); go_simp <;> with_reducible rfl
      try simp only [Act.put, List.setIfInBounds_toArray, List.set_cons_zero, List.set_cons_succ, List.getElem_toArray, List.getElem_cons_zero, List.getElem_cons_succ]
      refine wpAnyH_take (i := 12) (v := ?_) rfl (by kernel_rfl) (by kernel_rfl) (by kernel_rfl) (fun _ _ _ h => h) (Or.inl ⟨by rfl, ?_⟩) (by assumption) ?_
      rotate_left 1
      · intro w hSw; (try dsimp only at hSw); go_simp <;> with_reducible rfl
      try simp only [Act.put, List.setIfInBounds_toArray, List.set_cons_zero, List.set_cons_succ, List.getElem_toArray, List.getElem_cons_zero, List.getElem_cons_succ]
      refine wpAnyH_take (i := 13) (v := ?_) rfl (by kernel_rfl) (by kernel_rfl) (by kernel_rfl) (fun _ _ _ h => h) (Or.inl ⟨by rfl, ?_⟩) (by assumption) ?_
      rotate_left 1
      · intro w hSw; (try dsimp only at hSw); go_simp <;> with_reducible rfl
      try simp only [Act.put, List.setIfInBounds_toArray, List.set_cons_zero, List.set_cons_succ, List.getElem_toArray, List.getElem_cons_zero, List.getElem_cons_succ]
      refine wpAnyH_take (i := 14) (v := ?_) rfl (by kernel_rfl) (by kernel_rfl) (by kernel_rfl) (fun _ _ _ h => h) (Or.inl ⟨by rfl, ?_⟩) (by assumption) ?_
      rotate_left 1
      · intro w hSw; have hS2 := (LD.out w hSw).2.2.2; (try dsimp only at hSw); go_simp <;> with_reducible rfl
      try simp only [Act.put, List.setIfInBounds_toArray, List.set_cons_zero, List.set_cons_succ, List.getElem_toArray, List.getElem_cons_zero, List.getElem_cons_succ]
      refine wpAnyH_take (i := 15) (v := ?_) rfl (by kernel_rfl) (by kernel_rfl) (by kernel_rfl) (fun _ _ _ h => h) (Or.inl ⟨by rfl, ?_⟩) (by assumption) ?_
      rotate_left 1
      · intro w hSw; (try dsimp only at hSw); go_simp <;> with_reducible rfl
      try simp only [Act.put, List.setIfInBounds_toArray, List.set_cons_zero, List.set_cons_succ, List.getElem_toArray, List.getElem_cons_zero, List.getElem_cons_succ]
      refine wpAnyH_take (i := 16) (v := ?_) rfl (by kernel_rfl) (by kernel_rfl) (by kernel_rfl) (fun _ _ _ h => h) (Or.inl ⟨by rfl, ?_⟩) (by assumption) ?_
      rotate_left 1
      · intro w hSw; (try dsimp only at hSw); go_simp <;> with_reducible rfl
      try simp only [Act.put, List.setIfInBounds_toArray, List.set_cons_zero, List.set_cons_succ, List.getElem_toArray, List.getElem_cons_zero, List.getElem_cons_succ]
      refine wpAnyH_take (i := 17) (v := ?_) rfl (by kernel_rfl) (by kernel_rfl) (by kernel_rfl) (fun _ _ _ h => h) (Or.inl ⟨by rfl, ?_⟩) (by assumption) ?_
      rotate_left 1
      · intro w hSw; (try dsimp only at hSw); go_simp <;> with_reducible rfl
      try simp only [Act.put, List.setIfInBounds_toArray, List.set_cons_zero, List.set_cons_succ, List.getElem_toArray, List.getElem_cons_zero, List.getElem_cons_succ]
      refine wpAnyH_ready (rs := [18]) (by kernel_rfl) (by simp) (AllReadyH.cons rfl (fun K hK => ?_) AllReadyH.nil)
      have hPrev := hHeld
      clear hHeld
      rw [if_pos (by kernel_rfl)]
      refine wp_store_mid _ _ _ rfl b2 0 dc rfl rfl TH.out di.out ds.out.2 ?_
      refine hK.out _ _ (Chg.setCells (S := fun q => q = b2) _ _ hPrev rfl) (fun hHeld => ?_)
      clear hK K hPrev
      try simp only [Act.put, List.getElem_toArray, List.getElem_cons_zero, List.getElem_cons_succ]
      refine wpAnyH_done (by kernel_rfl) ?_ _
      have hb9 : Blk (w16.drew.setCells b2 0 dc.toList) b2 26 dc := Blk.setAll (w := w16.drew) Z16.out dc (by rw [ds.out.1, HZC.out, zsize])
      have hcp : CP w16 N0 (.slice (some ⟨g10, 0, none⟩) s c10) (.slice (some ⟨g12, 0, none⟩) f d12) (.slice (some ⟨g15, 0, none⟩) g d15) t vs z :=
        ⟨P16.out, Q16.out.less HGE.out.1, P15.out.less (Nat.le_trans HGE.out.1 HGE.out.2.1), RW16.out.len, RW16.out.rows, RW16.out.ap, fun e => by
          have := Option.some.inj e
          have := HGE.out
          simp only at *
          omega, HZL.out⟩
      have hlo := Z1.out
      have hn9 := HN0.out
      have hbl := B1.out.size
      have hcp9 := hcp.chg hHeld (fun q hq _ e => by omega)
      go_wp2_with fail
      refine bodyPost_ret (v := .agg dc) (results_cell_row rfl _ _ b2 _ dc (0, 0) _ rfl hb9 Tryd.underlying26 rfl di.out) rfl ?_
      exact ⟨_, _, _, vs, z, by rw [HDC.out], hcp9.less (by omega), BF.out.trans (hHeld.below (fun q hq e => by omega) BF.out.size)⟩
end Go.Proofs.YtnglgppdkohhpaaDoor
