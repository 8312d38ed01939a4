/- THE WALKS of own and ints of layer 12's law; lists that bear marks. -/
import Derived.Test.YtnglgppdkohhpaaDoorTbLL
import Derived.RegionTactic
import Derived.Deep.DeepCutAuto
import Derived.Deep.CutBlock
import Derived.Deep.DrawnRows
import Derived.Test.YtnglgppdkohhpaaDoorTbDecB
namespace Go.Proofs.YtnglgppdkohhpaaDoor
open Go.RowKit
section
variable {α : Type} {te ti : TypeId} {f : α → Value} {w w' : World} {C C' : Nat → Nat} {c : Nat} {v : Value} {vs : List Value} {ls : List (List α)}
theorem LL.at2 {A : Option Addr} {n cap s : Nat} (h : LL te ti f w C c (.slice A n cap) vs ls) (hs : s < n) : vs.length = n ∧ n ≤ cap ∧ ∃ g u l, A = some ⟨g, 0, none⟩ ∧ vs[s]? = some u ∧ ls[s]? = some l ∧ w.cell? ⟨g, s, none⟩ = some u ∧ w.frozen? ⟨g, s, none⟩ = false ∧ w.ownsRow 0 ti 1 u (l.map f).length (l.map f) ∧ C g = c ∧ g < w.heap.size := by
  obtain ⟨A', cap', e, h1, _, h3⟩ := own_form h.own
  injection e with e1 e2 e3
  subst e1 e2 e3
  rcases h3 with ⟨_, h0⟩ | ⟨g, rfl, _, hg⟩
  · omega
  · obtain ⟨u, l, hu, hl, ho⟩ := h.at_ (j := s) (by rw [← h.len]; exact hs)
    refine ⟨rfl, h1, g, u, l, rfl, hu, hl, ?_, World.ownsRow.frozenAt h.own s, ho, h.memv g rfl, hg⟩
    rw [World.ownsRow.cellAt h.own s (by omega)]
    exact hu
theorem LL.form2 (h : LL te ti f w C c v vs ls) : ∃ A cap, v = .slice A vs.length cap ∧ vs.length ≤ cap := by
  obtain ⟨A, cap, e, h1, _⟩ := own_form h.own
  exact ⟨A, cap, e, h1⟩
end
/-- the first s rows bear their marks -/
def Mk {α : Type} (g : Nat → α) (s : Nat) (ls : List (List α)) : Prop := ∀ (i : Nat) (row : List α), i < s → ls[i]? = some row → ∀ x ∈ row, x = g i
def mkI (i : Nat) : Int := -1000 - (i : Int)
def mkU (i : Nat) : Nat := 1000 + i
set_option maxRecDepth 100000 in
set_option maxHeartbeats 4000000 in
theorem own_any (C : Nat → Nat) (c c' : Nat) (v v2 : Value) (vs vs2 : List Value) (ls : List (List Int)) (ls2 : List (List Nat)) (w : World) (h : LL 35 3 iV w C c v vs ls) (h2 : LL 24 34 uV w C c' v2 vs2 ls2)
    (hm : Mk mkI ls.length ls) (hm2 : Mk mkU ls2.length ls2) (hn : vs.length ≤ 100000 ∧ vs2.length ≤ 100000) (hb : ∀ l ∈ ls, l.length ≤ 100000) (hb2 : ∀ l ∈ ls2, l.length ≤ 100000) :
    Calls Tryd.prog 17 #[v, v2] w fun e w' => e = .returned (.bool true) ∧ w = w' := by
  obtain ⟨A, cap, rfl, _⟩ := h.form2
  obtain ⟨A2, cap2, rfl, _⟩ := h2.form2
  obtain ⟨n, hnn⟩ : ∃ n, n = vs.length := ⟨_, rfl⟩
  obtain ⟨n2, hnn2⟩ : ∃ n, n = vs2.length := ⟨_, rfl⟩
  rw [← hnn] at h hn ⊢
  rw [← hnn2] at h2 hn ⊢
  have H := Lib.hid h; have H2 := Lib.hid h2; have HM := Lib.hid hm; have HM2 := Lib.hid hm2; have HB := Lib.hid hb; have HB2 := Lib.hid hb2
  have HL : Hid (ls.length = n ∧ ls2.length = n2) := Lib.hid ⟨by rw [hnn]; exact h.len.symm, by rw [hnn2]; exact h2.len.symm⟩
  obtain ⟨hn1, hn2⟩ := hn
  clear h h2 hm hm2 hb hb2 hnn hnn2
  go_enter Tryd.func17, Tryd.ntmps17
  go_wp2_with fail
  go_loop [13] (fun i => ∃ s : Nat, s ≤ n ∧ i = .int .i64 s) (fun i => n - (intOf i).toNat)
  case atStart => exact ⟨0, Nat.zero_le _, rfl⟩
  case round =>
    obtain ⟨s, hs, rfl⟩ := hrel
    by_cases hlt : s < n
    · obtain ⟨_, _, g, u, l, rfl, hu, hl, hc1, _, hro, _, _⟩ := H.out.at2 hlt
      obtain ⟨AR, cr, rfl, _, hrc⟩ := row_form hro
      obtain ⟨r, hr⟩ : ∃ r, r = l.length := ⟨_, rfl⟩
      rw [← hr] at hc1 hrc
      have hrb : r ≤ 100000 := by rw [hr]; exact HB.out l (List.mem_of_getElem? hl)
      have HRC := Lib.hid hrc; have HLR := Lib.hid (And.intro hr hl)
      clear hu hl hro hrc hr
      go_wp2_with fail
      go_loop [21] (fun i => ∃ k : Nat, k ≤ r ∧ i = .int .i64 k) (fun i => r - (intOf i).toNat)
      case atStart => exact ⟨0, Nat.zero_le _, rfl⟩
      case round =>
        obtain ⟨k, hk, rfl⟩ := hrel
        by_cases hlt2 : k < r
        · obtain ⟨gr, rfl, _, hcell, _⟩ := HRC.out (by omega)
          obtain ⟨x, hx⟩ : ∃ x, l[k]? = some x := ⟨_, List.getElem?_eq_getElem (by rw [← HLR.out.1]; exact hlt2)⟩
          have hcx := hcell k x hx
          have hxe : x = mkI s := HM.out s l (by rw [HL.out.1]; exact hlt) HLR.out.2 x (List.mem_of_getElem? hx)
          rw [hxe] at hcx
          unfold mkI iV at hcx
          clear hcell hx hxe
          go_wp2_with fail
          go_round
          case rel => exact ⟨k + 1, by omega, by go_num⟩
          case measure => simp [intOf]; omega
        · obtain rfl : k = r := by omega
          go_wp2_with fail
          go_round
          case rel => exact ⟨s + 1, by omega, by go_num⟩
          case measure => simp [intOf]; omega
    · obtain rfl : s = n := by omega
      go_wp2_with fail
      go_loop [33] (fun i => ∃ s : Nat, s ≤ n2 ∧ i = .int .i64 s) (fun i => n2 - (intOf i).toNat)
      case atStart => exact ⟨0, Nat.zero_le _, rfl⟩
      case round =>
        obtain ⟨q, hs2, rfl⟩ := hrel
        by_cases hlt3 : q < n2
        · obtain ⟨_, _, g, u, l, rfl, hu, hl, hc1, _, hro, _, _⟩ := H2.out.at2 hlt3
          obtain ⟨AR, cr, rfl, _, hrc⟩ := row_form hro
          obtain ⟨r, hr⟩ : ∃ r, r = l.length := ⟨_, rfl⟩
          rw [← hr] at hc1 hrc
          have hrb : r ≤ 100000 := by rw [hr]; exact HB2.out l (List.mem_of_getElem? hl)
          have HRC := Lib.hid hrc; have HLR := Lib.hid (And.intro hr hl)
          clear hu hl hro hrc hr
          go_wp2_with fail
          go_loop [41] (fun i => ∃ k : Nat, k ≤ r ∧ i = .int .i64 k) (fun i => r - (intOf i).toNat)
          case atStart => exact ⟨0, Nat.zero_le _, rfl⟩
          case round =>
            obtain ⟨k, hk, rfl⟩ := hrel
            by_cases hlt2 : k < r
            · obtain ⟨gr, rfl, _, hcell, _⟩ := HRC.out (by omega)
              obtain ⟨x, hx⟩ : ∃ x, l[k]? = some x := ⟨_, List.getElem?_eq_getElem (by rw [← HLR.out.1]; exact hlt2)⟩
              have hcx := hcell k x hx
              have hxe : x = mkU q := HM2.out q l (by rw [HL.out.2]; exact hlt3) HLR.out.2 x (List.mem_of_getElem? hx)
              rw [hxe] at hcx
              unfold mkU uV at hcx
              rw [Int.natCast_add] at hcx
              have hqb : q ≤ 100000 := by omega
              clear hcell hx hxe
              go_wp2_with fail
              go_round
              case rel => exact ⟨k + 1, by omega, by go_num⟩
              case measure => simp [intOf]; omega
            · obtain rfl : k = r := by omega
              go_wp2_with fail
              go_round
              case rel => exact ⟨q + 1, by omega, by go_num⟩
              case measure => simp [intOf]; omega
        · obtain rfl : q = n2 := by omega
          go_wp2_with fail
          go_ret
          exact ⟨rfl, rfl⟩
theorem own_of_blk {w : World} {g : Nat} {e : TypeId} {xs : List Value} (h : Blk w g e xs.toArray) (hm : xs.length ≤ maxLen) : w.ownsRow 0 e 1 (.slice (some ⟨g, 0, none⟩) xs.length xs.length) xs.length xs :=
  ⟨by simp, .inr ⟨g, xs.length, xs.toArray, rfl, Nat.zero_le _, h, Nat.le_refl _, hm, by simp, by simp⟩⟩
theorem append_vals {w : World} {ops : Array Oper} {rest : List Oper} {o : Oper} {a : Act} {Q : Exit → Act → World → Prop} (hgd : o.guard = none) (s x : Operand) (t e : TypeId) {z : Value} {by_ : Nat}
    (ho : o.op = .call { callee := .builtin .append, args := #[s, x], argTypes := #[t, t] }) (ht : Tryd.prog.underlying t = some (.slice e)) (hinfo : (Tryd.prog.info? e).map (fun i => (i.zero, i.size, i.bytes)) = some (some z, 1, by_)) (hz : z.cells.size = 1)
    (base : Nat) (v : Value) (xs : List Value) (hs : a.eval s = v) (hown : w.ownsRow base e 1 v xs.length xs) (A : Option Addr) (n c : Nat) (l : List Value) (hx : a.eval x = .slice A n c) (hr : RG id w A n l) (hf1 : ∀ u ∈ l, u.oneCell' = true)
    (hlen : (xs.length + n) * by_ ≤ 140737488355328) (hmax : xs.length + n ≤ maxLen) (hbase : base ≤ w.heap.size)
    (h : ∀ v' w', w'.ownsRow base e 1 v' (xs ++ l).length (xs ++ l) → w.grownBy w' v.ownBlock → (v'.ownBlock = v.ownBlock ∨ v'.ownBlock = some w.heap.size) → wpList Tryd.prog ops Q rest (a.put o.dst v') w') : wpList Tryd.prog ops Q (o :: rest) a w := by
  have hl := hr.1
  refine append_row hgd s x t e ho ht hinfo hz (by omega) base v xs.length xs hs hown A n c l hx (by simp [hl]) (fun hA => ?_) (fun ad e j y hj => ?_) hf1 hlen hmax hbase (fun v' w' h2 h3 h4 => h v' w' (by rw [List.length_append, hl]; exact h2) h3 h4)
  · rcases Nat.eq_zero_or_pos n with h0 | h0
    · exact h0
    · obtain ⟨b, off, e, _⟩ := hr.2 h0; rw [hA] at e; cases e
  · have hjl := (List.getElem?_eq_some_iff.1 hj).1
    obtain ⟨b, off, e2, _, hc⟩ := hr.2 (by omega)
    rw [e] at e2
    obtain rfl := Option.some.inj e2
    rw [Addr.add_mid]
    exact hc j y hj
theorem rg_own {w : World} {base : Nat} {e : TypeId} {v : Value} {l : List Value} (h : w.ownsRow base e 1 v l.length l) : ∃ A c, v = .slice A l.length c ∧ l.length ≤ c ∧ RG id w A l.length l := by
  obtain ⟨A, c, e, h1, _, h3⟩ := RG.own (f := id) (l := l) (by simpa using h)
  exact ⟨A, c, e, h1, h3⟩
def IntsQ (us1 us2 : List Value) (w : World) (e : Ending) (w' : World) : Prop := ∃ v, e = .returned v ∧ w'.ownsRow w.heap.size 35 1 v (us1 ++ us2).length (us1 ++ us2) ∧ Below w.heap.size w w'
set_option maxRecDepth 100000 in
set_option maxHeartbeats 2000000 in
theorem ints_any (cs1 cs2 : Array Value) (A1 A2 : Option Addr) (n1 n2 c1 c2 : Nat) (us1 us2 : List Value) (w : World) (h1 : cs1[256]? = some (.slice A1 n1 c1)) (h2 : cs2[256]? = some (.slice A2 n2 c2)) (r1 : RG id w A1 n1 us1) (r2 : RG id w A2 n2 us2)
    (o1 : ∀ u ∈ us1, u.oneCell' = true) (o2 : ∀ u ∈ us2, u.oneCell' = true) (hn1 : n1 ≤ 100000) (hn2 : n2 ≤ 100000) :
    Calls Tryd.prog 16 #[.agg cs1, .agg cs2] w (IntsQ us1 us2 w) := by
  have R1 := Lib.hid r1; have R2 := Lib.hid r2; have O1 := Lib.hid o1; have O2 := Lib.hid o2; have H1 := Lib.hid h1; have H2 := Lib.hid h2
  clear r1 r2 o1 o2 h1 h2
  go_enter Tryd.func16, Tryd.ntmps16
  go_upto_region 1 with fail
  obtain ⟨w1, hw1⟩ : ∃ w1, w1 = (w.alloc (.cells cs1 26)).alloc (.cells cs2 26) := ⟨_, rfl⟩
  obtain ⟨b, hb⟩ : ∃ b, b = w.heap.size := ⟨_, rfl⟩
  obtain ⟨b2, hb2⟩ : ∃ b2, b2 = w.heap.size + 1 := ⟨_, rfl⟩
  have B1 : Hid (Below w.heap.size w w1) := Lib.hid (by rw [hw1]; exact (below_alloc _ _).trans ((below_alloc _ _).mono (by simp)))
  have X1 : Hid (Blk w1 b 26 cs1) := Lib.hid (by rw [hw1, hb]; exact (Blk.new _ _ _ rfl).alloc _)
  have X2 : Hid (Blk w1 b2 26 cs2) := Lib.hid (by rw [hw1, hb2]; exact Blk.new _ _ _ (by simp))
  rw [← hw1, ← hb2, ← hb]
  clear hw1 hb hb2
  have d1 : w1.cell? ⟨b, 256, none⟩ = some (.slice A1 n1 c1) := (X1.out.cell 256).trans H1.out
  have Ra := Lib.hid (R1.out.keep B1.out)
  have hz0 : (([] : List Value).length + n1) * 24 ≤ 140737488355328 := by simp; omega
  have hz1 : ([] : List Value).length + n1 ≤ maxLen := by unfold maxLen; simp; omega
  have HZ := Lib.hid (And.intro hz0 hz1)
  clear hz0 hz1
  go_wp2_with ((at_builtin; go_must (refine append_vals rfl (.tmp 6) (.tmp 8) 23 35 rfl Tryd.underlying23 infoRow rfl w.heap.size (.slice none 0 0) [] rfl (World.ownsRow_nil _ _ _ 1) A1 n1 c1 us1 rfl Ra.out O1.out HZ.out.1 HZ.out.2 B1.out.size ?_); intro v3 w3 ho3 hg3 ha3; refine halt ?_))
  refine unhalt ?_
  rw [List.nil_append] at ho3
  have B3 : Hid (Below w1.heap.size w1 w3) := Lib.hid ((Below.refl _ _).grown hg3 (Nat.le_refl _) (fun j hj => by cases hj))
  have W3 : Hid (Below w.heap.size w w3) := Lib.hid (B1.out.trans (B3.out.mono B1.out.size))
  have O3 := Lib.hid ho3
  have Rb := Lib.hid (R2.out.keep W3.out)
  have d2 : w3.cell? ⟨b2, 256, none⟩ = some (.slice A2 n2 c2) := cell_later B3.out ((X2.out.cell 256).trans H2.out)
  have HL : Hid (us1.length = n1) := Lib.hid R1.out.1
  have HZ2 : Hid ((us1.length + n2) * 24 ≤ 140737488355328 ∧ us1.length + n2 ≤ maxLen) := Lib.hid (by rw [HL.out]; exact ⟨by omega, by unfold maxLen; omega⟩)
  clear ho3 hg3 ha3 d1 HZ
  go_wp2_with ((at_builtin; go_must (refine append_vals rfl (.tmp 10) (.tmp 12) 23 35 rfl Tryd.underlying23 infoRow rfl w.heap.size v3 us1 rfl O3.out A2 n2 c2 us2 rfl Rb.out O2.out HZ2.out.1 HZ2.out.2 W3.out.size ?_); intro v4 w4 ho4 hg4 ha4; refine halt ?_))
  refine unhalt ?_
  have HF : Hid (IntsQ us1 us2 w (.returned v4) w4) := Lib.hid ⟨v4, rfl, ho4, W3.out.grown hg4 W3.out.size (fun j hj => (O3.out.lt j hj).1)⟩
  clear ho4 hg4 ha4
  go_wp2_with fail
  go_ret
  exact HF.out
end Go.Proofs.YtnglgppdkohhpaaDoor
