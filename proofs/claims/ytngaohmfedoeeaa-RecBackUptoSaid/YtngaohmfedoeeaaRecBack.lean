/- THE WALK of heronlaw02.RecBack. -/
import Derived.Test.YtngaohmfedoeeaaRecTaken
namespace Go.Proofs.Ytngaohmfedoeeaa
open Go.RowKit
structure IT where
  k : Int
  n : Int
  v : Nat
  s : ByteArray
def IT.enc (x : IT) : List UInt8 := encI x.k x.n x.v x.s
def encAll (l : List IT) : List UInt8 := (l.map IT.enc).flatten
theorem encAll_snoc {l : List IT} {k : Nat} {x : IT} (h : l[k]? = some x) : encAll (l.take (k + 1)) = encAll (l.take k) ++ x.enc := by
  unfold encAll; rw [take_snoc h]; simp
theorem encAll_drop {l : List IT} {k : Nat} {x : IT} (h : l[k]? = some x) : encAll (l.drop k) = x.enc ++ encAll (l.drop (k + 1)) := by
  unfold encAll
  obtain ⟨hk, rfl⟩ := List.getElem?_eq_some_iff.1 h
  rw [List.drop_eq_getElem_cons hk, List.map_cons, List.flatten_cons]
/-- the last of the first so many that has a byte; -1: none -/
def lastN (l : List IT) : Nat → Int
  | 0 => -1
  | k + 1 => match l[k]? with
    | some x => if 0 < x.enc.length then (k : Int) else lastN l k
    | none => lastN l k
theorem lastN_yes {l : List IT} {k : Nat} {x : IT} (h : l[k]? = some x) (hx : 0 < x.enc.length) : lastN l (k + 1) = k := by
  rw [lastN, h]; simp only [hx, if_true]
theorem lastN_no {l : List IT} {k : Nat} {x : IT} (h : l[k]? = some x) (hx : x.enc.length = 0) : lastN l (k + 1) = lastN l k := by
  rw [lastN, h]; simp only [show ¬ 0 < x.enc.length by omega, if_false]
theorem lastN_bd (l : List IT) (k : Nat) : -1 ≤ lastN l k ∧ lastN l k < k := by
  induction k with
  | zero => simp [lastN]
  | succ k ih =>
    rw [lastN]
    split
    · split <;> omega
    · omega
/-- what the last item that has a byte is good for -/
theorem lastN_spec (l : List IT) : ∀ k, k ≤ l.length → (lastN l k = -1 ∧ encAll (l.take k) = []) ∨ ∃ (m : Nat) (x : IT), lastN l k = m ∧ m < k ∧ l[m]? = some x ∧ 0 < x.enc.length ∧ encAll (l.take k) = encAll (l.take m) ++ x.enc
  | 0, _ => .inl ⟨rfl, by simp [encAll]⟩
  | k + 1, hk => by
    have hx : l[k]? = some l[k] := List.getElem?_eq_getElem (by omega)
    by_cases he : 0 < (l[k]).enc.length
    · right
      exact ⟨k, l[k], lastN_yes hx he, by omega, hx, he, encAll_snoc hx⟩
    · have h0 : (l[k]).enc.length = 0 := by omega
      rw [lastN_no hx h0, encAll_snoc hx, List.eq_nil_of_length_eq_zero h0, List.append_nil]
      rcases lastN_spec l k (by omega) with h | ⟨m, x, h1, h2, h3, h4, h5⟩
      · exact .inl h
      · exact .inr ⟨m, x, h1, by omega, h3, h4, h5⟩
def IT.ok (x : IT) : Prop := x.v < 18446744073709551616 ∧ x.s.size ≤ 1048576
theorem enc_le (x : IT) : x.enc.length ≤ 8 + x.s.size := by
  unfold IT.enc encI
  split
  · rw [leB_length]; have := widN_bd x.n; omega
  · split
    · rw [textB_length]; have : x.s.data.toList.length = x.s.size := rfl; omega
    · have : x.s.data.toList.length = x.s.size := rfl; omega
theorem encAll_le (l : List IT) : (encAll l).length ≤ 8 * l.length + (l.map fun x => x.s.size).sum := by
  induction l with
  | nil => simp [encAll]
  | cons x l ih =>
    have := enc_le x
    simp only [encAll, List.map_cons, List.flatten_cons, List.length_append, List.length_cons, List.sum_cons] at *
    omega
theorem encAll_take (l : List IT) (k : Nat) : (encAll (l.take k)).length ≤ (encAll l).length := by
  conv => rhs; rw [← List.take_append_drop k l]
  unfold encAll
  rw [List.map_append, List.flatten_append, List.length_append]
  omega
/-- a slice of items reads as these -/
def IS (w : World) (A : Option Addr) (n : Nat) (l : List IT) : Prop :=
  l.length = n ∧ (0 < n → ∃ b off, A = some ⟨b, off, none⟩ ∧ b < w.heap.size ∧ ∀ (j : Nat) (x : IT), l[j]? = some x →
    w.cell? ⟨b, off + j * 4, none⟩ = some (.int .i64 x.k) ∧ w.cell? ⟨b, off + j * 4 + 1, none⟩ = some (.int .i64 x.n) ∧ w.cell? ⟨b, off + j * 4 + 2, none⟩ = some (.int .u64 (x.v : Int)) ∧ w.cell? ⟨b, off + j * 4 + 3, none⟩ = some (.string x.s))
theorem IS.at_ {w W : World} {A : Option Addr} {n : Nat} {l : List IT} (h : IS w A n l) (hb : Below w.heap.size w W) {k : Nat} (hk : k < n) :
    ∃ b off x, A = some ⟨b, off, none⟩ ∧ l[k]? = some x ∧ W.cell? ⟨b, off + k * 4, none⟩ = some (.int .i64 x.k) ∧ W.cell? ⟨b, off + k * 4 + 1, none⟩ = some (.int .i64 x.n) ∧ W.cell? ⟨b, off + k * 4 + 2, none⟩ = some (.int .u64 (x.v : Int)) ∧ W.cell? ⟨b, off + k * 4 + 3, none⟩ = some (.string x.s) := by
  obtain ⟨b, off, e, hlt, hc⟩ := h.2 (by omega)
  have hl : k < l.length := by have := h.1; omega
  have hx : l[k]? = some l[k] := List.getElem?_eq_getElem hl
  obtain ⟨c0, c1, c2, c3⟩ := hc k _ hx
  exact ⟨b, off, _, e, hx, (hb.cell (p := ⟨b, _, none⟩) hlt).trans c0, (hb.cell (p := ⟨b, _, none⟩) hlt).trans c1, (hb.cell (p := ⟨b, _, none⟩) hlt).trans c2, (hb.cell (p := ⟨b, _, none⟩) hlt).trans c3⟩
set_option maxRecDepth 100000 in
set_option maxHeartbeats 4000000 in
theorem back_any (A : Option Addr) (n cap : Nat) (l : List IT) (w : World) (hl : IS w A n l) (hcap : n ≤ cap) (hok : ∀ x ∈ l, x.ok) (hn : n ≤ 1048576) (hall : (encAll l).length ≤ 10485760) :
    Calls Try.prog 4 #[.slice A n cap] w fun e w' => e = .returned (.bool true) ∧ Below w.heap.size w w' := by
  have HI := Lib.hid hl; clear hl
  have HK := Lib.hid hok; clear hok
  have HA := Lib.hid hall; clear hall
  go_enter Try.func4, Try.ntmps4
  go_wp2_with fail
  refine (fixed_any _).mono ?_
  rintro e w1 ⟨rfl, hb1⟩
  have Z1 := Lib.hid hb1; clear hb1
  go_wp2_with fail
  go_loopw [3, 4, 5] (fun bv lv iv W => ∃ k : Nat, k ≤ n ∧ iv = .int .i64 (k : Int) ∧ ∃ q : Int, -1 ≤ q ∧ q < (k : Int) ∧ Hid (q = lastN l k) ∧ lv = .int .i64 q ∧ OB W w.heap.size bv (encAll (l.take k)) ∧ Below w.heap.size w W) (fun _ _ iv _ => n - (intOf iv).toNat)
  case atStart => exact ⟨0, Nat.zero_le _, rfl, -1, by omega, by omega, rfl, rfl, OB.nil _ _, Z1.out⟩
  case round =>
    obtain ⟨k, hk, rfl, q, hq1, hq2, HQ, rfl, hob, hbl⟩ := hrel
    have HO := Lib.hid hob; have HB := Lib.hid hbl
    clear hob hbl
    by_cases hlt : k < n
    · obtain ⟨b, off, x, rfl, hx, c0, c1, c2, c3⟩ := HI.out.at_ HB.out hlt
      have hxo := HK.out x (List.mem_of_getElem? hx)
      have HX := Lib.hid hx; clear hx
      have hel : (encAll (l.take k)).length + x.enc.length ≤ 10485760 := by
        have h1 := encAll_take l (k + 1)
        rw [encAll_snoc HX.out, List.length_append] at h1
        have := HA.out
        omega
      have HEL := Lib.hid hel; clear hel
      go_wp2_with fail
      refine (laid_any x.k x.n x.v x.s _ hxo.1 hxo.2).mono ?_
      intro e w2 hpost
      obtain ⟨C, cc, rfl, hrc, hb2⟩ := hpost
      have RC := Lib.hid hrc; have O2 := Lib.hid (HO.out.keep hb2); have B2 := Lib.hid (HB.out.trans (hb2.mono HB.out.size))
      have hzz := B2.out.size
      clear hrc hb2 c0 c1 c2 c3
      have hxe : (encI x.k x.n x.v x.s) = x.enc := rfl
      rw [hxe] at RC ⊢
      obtain ⟨cl, hcl⟩ : ∃ cl, cl = x.enc.length := ⟨_, rfl⟩
      have hEL2 : (encAll (l.take k)).length + cl ≤ 140737488355328 := by have := HEL.out; omega
      rw [← hcl] at RC ⊢
      have CL := Lib.hid hcl; have E2 := Lib.hid hEL2
      clear hcl hEL2 hxe
      by_cases hc0 : 0 < cl
      · go_wp2_with ((at_builtin; go_must (refine append_bytes rfl (.tmp 35) (.tmp 36) rfl w.heap.size _ _ rfl O2.out C cl cc x.enc rfl RC.out E2.out hzz ?_); intro v3 w3 ho3 hg3 ha3; refine halt ?_))
        refine unhalt ?_
        have O3 := Lib.hid ho3
        have B3 := Lib.hid (B2.out.grown hg3 hzz (fun j hj => (O2.out.lt j hj).1))
        have Q3 : Hid ((k : Int) = lastN l (k + 1)) := Lib.hid (lastN_yes HX.out (by rw [← CL.out]; exact hc0)).symm
        clear ho3 hg3 ha3
        go_wp2_with fail
        go_roundw
        case rel => exact ⟨k + 1, by omega, by go_num, (k : Int), by omega, by omega, Q3, rfl, by rw [encAll_snoc HX.out]; exact O3.out, B3.out⟩
        case measure => simp [intOf]; omega
      · go_wp2_with ((at_builtin; go_must (refine append_bytes rfl (.tmp 35) (.tmp 36) rfl w.heap.size _ _ rfl O2.out C cl cc x.enc rfl RC.out E2.out hzz ?_); intro v3 w3 ho3 hg3 ha3; refine halt ?_))
        refine unhalt ?_
        have O3 := Lib.hid ho3
        have B3 := Lib.hid (B2.out.grown hg3 hzz (fun j hj => (O2.out.lt j hj).1))
        have Q3 : Hid (q = lastN l (k + 1)) := Lib.hid (by rw [lastN_no HX.out (by rw [← CL.out]; omega)]; exact HQ.out)
        clear ho3 hg3 ha3
        go_wp2_with fail
        go_roundw
        case rel => exact ⟨k + 1, by omega, by go_num, q, by omega, by omega, Q3, rfl, by rw [encAll_snoc HX.out]; exact O3.out, B3.out⟩
        case measure => simp [intOf]; omega
    · obtain rfl : k = n := by omega
      have htk : l.take k = l := List.take_of_length_le (by have := HI.out.1; omega)
      rw [htk] at HO
      obtain ⟨D, dc, rfl, hdc, _, hrd⟩ := HO.out.form
      obtain ⟨E, hE⟩ : ∃ E, E = encAll l := ⟨_, rfl⟩
      obtain ⟨el, hel⟩ : ∃ el, el = E.length := ⟨_, rfl⟩
      rw [← hE, ← hel] at HO hrd hdc ⊢
      have hel2 : el ≤ 10485760 := by rw [hel, hE]; exact HA.out
      have EE := Lib.hid hE; have EL := Lib.hid hel
      have RD0 := Lib.hid hrd
      clear hE hel hrd htk
      have RT := Lib.hid (RD0.out.alloc (.cells #[] 5))
      have OF := Lib.hid (OB.fresh (w := wr) (base := wr.heap.size) rfl (Nat.le_refl _))
      have hL : ([] : List UInt8).length + el ≤ 140737488355328 := by simp; omega
      have hB0 : wr.heap.size ≤ (wr.alloc (.cells #[] 5)).heap.size := by simp
      go_wp2_with ((at_builtin; go_must (refine append_bytes rfl (.tmp 38) (.tmp 39) rfl wr.heap.size _ [] rfl OF.out D el dc E rfl RT.out hL hB0 ?_); intro v2 w2 ho2 hg2 ha2; refine halt ?_))
      refine unhalt ?_
      have hbw : Below wr.heap.size wr w2 := ((Below.refl _ _).alloc (Nat.le_refl _) _).grown hg2 (by simp) (fun j hj => by
        obtain rfl := Option.some.inj hj
        exact Nat.le_refl _)
      have ho2' : OB w2 wr.heap.size v2 E := ho2
      obtain ⟨D2, dc2, rfl, _, _, hr2⟩ := ho2'.form
      rw [← EL.out] at hr2 ⊢
      have R2 := Lib.hid hr2
      have O2 := Lib.hid (HO.out.keep hbw); have B2 := Lib.hid (HB.out.trans (hbw.mono HB.out.size))
      clear hbw ho2 ho2' hg2 ha2 hr2 RT OF hL hB0
      go_wp2_with fail
      refine (read_any D2 el dc2 E _ R2.out (by omega)).mono ?_
      intro e w3 hpost
      obtain ⟨g, D3, dc3, rfl, hg3, hm3, _, hb3⟩ := hpost
      rw [← EL.out] at hm3
      have O3 := Lib.hid (O2.out.keep hb3); have B3 := Lib.hid (B2.out.trans (hb3.mono B2.out.size)); have M3 := Lib.hid hm3
      have hgw : w.heap.size ≤ g := by have := B2.out.size; omega
      clear hm3 hb3 R2 hg3
      go_wp2_with fail
      refine (left_any g D3 el dc3 E _ M3.out).mono ?_
      rintro e w' ⟨rfl, rfl⟩
      go_wp2_with fail
      go_loopw [9] (fun iv W => ∃ j : Nat, j ≤ k ∧ iv = .int .i64 (j : Int) ∧ ∃ A' n' c', RD W g A' n' c' (encAll (l.drop j)) ∧ OB W w.heap.size (.slice D el dc) E ∧ Below w.heap.size w W) (fun iv _ => k - (intOf iv).toNat)
      case atStart => exact ⟨0, Nat.zero_le _, rfl, D3, el, dc3, by rw [List.drop_zero, ← EE.out]; exact M3.out, O3.out, B3.out⟩
      case round =>
        obtain ⟨j, hj, rfl, A', n', c', hm4, ho4, hb4⟩ := hrel
        have M4 := Lib.hid hm4; have O4 := Lib.hid ho4; have B4 := Lib.hid hb4
        clear hm4 ho4 hb4
        by_cases hlt2 : j < k
        · obtain ⟨b, off, x, rfl, hx, c0, c1, c2, c3⟩ := HI.out.at_ B4.out hlt2
          have hxo := HK.out x (List.mem_of_getElem? hx)
          have hdr := encAll_drop hx
          rw [hdr] at M4
          have hn' : n' ≤ 140737488355328 := by
            have h1 := M4.out.len
            rw [← hdr] at h1
            have h2 : (encAll (l.drop j)).length ≤ E.length := by
              rw [EE.out]; conv => rhs; rw [← List.take_append_drop j l]
              unfold encAll; rw [List.map_append, List.flatten_append, List.length_append]; omega
            have := EL.out
            omega
          clear hx hdr
          go_wp2_with fail
          refine (taken_ok x.k x.n x.v x.s g A' n' c' (encAll (l.drop (j + 1))) _ hxo.1 hxo.2 M4.out hn').mono ?_
          intro e w5 hpost
          obtain ⟨rfl, A5, n5, c5, hm5, hc5⟩ := hpost
          have M5 := Lib.hid hm5
          have B5 := Lib.hid (B4.out.trans (hc5.below (fun q hq (hs : q = g) => by omega) B4.out.size))
          have O5 := Lib.hid (hc5.ob O4.out (fun q hq (hs : q = g) => Blk.apart M4.out.blk O4.out (by decide) (by rw [← hs]; exact hq)))
          clear hm5 hc5 c0 c1 c2 c3
          go_wp2_with fail
          go_roundw
          case rel => exact ⟨j + 1, by omega, by go_num, A5, n5, c5, M5.out, O5.out, B5.out⟩
          case measure => simp [intOf]; omega
        · obtain rfl : j = k := by omega
          have hdr : l.drop j = [] := List.drop_of_length_le (by have := HI.out.1; omega)
          rw [hdr] at M4
          have hn0 : n' = 0 := M4.out.len.symm
          subst hn0
          clear hdr
          go_wp2_with fail
          refine (left_any g A' 0 c' _ _ M4.out).mono ?_
          rintro e w' ⟨rfl, rfl⟩
          by_cases hqn : q < 0
          · go_wp2_with fail
            go_ret
            exact ⟨rfl, B4.out⟩
          · have hsp : ∃ (m : Nat) (x : IT), q = m ∧ m < j ∧ l[m]? = some x ∧ 0 < x.enc.length ∧ E = encAll (l.take m) ++ x.enc := by
              have h0 := lastN_spec l j (by have := HI.out.1; omega)
              rw [← HQ.out, List.take_of_length_le (by have := HI.out.1; omega), ← EE.out] at h0
              rcases h0 with ⟨h, _⟩ | h
              · omega
              · exact h
            have SP := Lib.hid hsp
            obtain ⟨m, x, rfl, hmj, hxm, hx0, hEm⟩ := hsp
            have HX0 := Lib.hid hx0
            have XM := Lib.hid hxm; have EM := Lib.hid hEm
            have hel1 : 1 ≤ el := by rw [EL.out, hEm, List.length_append]; omega
            have hts : E.take (el - 1) = encAll (l.take m) ++ x.enc.dropLast := by
              rw [EL.out, hEm, ← List.dropLast_eq_take, List.dropLast_append_of_ne_nil (by intro h; rw [h] at hx0; simp at hx0)]
            have TS := Lib.hid hts
            have hrT := (O4.out.rb.take (k := el - 1) (by omega))
            rw [hts] at hrT
            obtain ⟨T, hT⟩ : ∃ T, T = encAll (l.take m) ++ x.enc.dropLast := ⟨_, rfl⟩
            rw [← hT] at hrT
            have HT := Lib.hid hT
            have RT := Lib.hid (hrT.alloc (.cells #[] 5))
            clear hxm hEm hts hrT hT hx0 M4
            have OF := Lib.hid (OB.fresh (w := wr) (base := wr.heap.size) rfl (Nat.le_refl _))
            have hL : ([] : List UInt8).length + (el - 1) ≤ 140737488355328 := by simp; omega
            have hB0 : wr.heap.size ≤ (wr.alloc (.cells #[] 5)).heap.size := by simp
            go_wp2_with ((at_builtin; go_must (refine append_bytes rfl (.tmp 69) (.tmp 74) rfl wr.heap.size _ [] rfl OF.out D (el - 1) dc T rfl RT.out hL hB0 ?_); intro v6 w6 ho6 hg6 ha6; refine halt ?_))
            refine unhalt ?_
            have hbw : Below wr.heap.size wr w6 := ((Below.refl _ _).alloc (Nat.le_refl _) _).grown hg6 (by simp) (fun j hj => by
              obtain rfl := Option.some.inj hj
              exact Nat.le_refl _)
            have ho6' : OB w6 wr.heap.size v6 T := ho6
            obtain ⟨D6, dc6, rfl, _, _, hr6⟩ := ho6'.form
            obtain ⟨tl, htl⟩ : ∃ tl, tl = T.length := ⟨_, rfl⟩
            have htle : tl ≤ 10485760 := by have := RT.out.1; omega
            rw [← htl] at hr6 ⊢
            have TL := Lib.hid htl; have R6 := Lib.hid hr6
            have B6 := Lib.hid (B4.out.trans (hbw.mono B4.out.size))
            clear hbw ho6 ho6' hg6 ha6 hr6 RT OF hL hB0 htl
            go_wp2_with fail
            refine (read_any D6 tl dc6 T _ R6.out (by omega)).mono ?_
            intro e w7 hpost
            obtain ⟨g7, D7, dc7, rfl, hg7, hm7, _, hb7⟩ := hpost
            rw [← TL.out] at hm7
            have B7 := Lib.hid (B6.out.trans (hb7.mono B6.out.size)); have M7 := Lib.hid hm7
            have hgw7 : w.heap.size ≤ g7 := by have := B6.out.size; omega
            clear hm7 hb7 R6 hg7
            go_wp2_with fail
            go_loopw [11] (fun iv W => ∃ i : Nat, i ≤ m ∧ iv = .int .i64 (i : Int) ∧ ∃ A' n' c', RD W g7 A' n' c' (encAll ((l.take m).drop i) ++ x.enc.dropLast) ∧ Below w.heap.size w W) (fun iv _ => m - (intOf iv).toNat)
            case atStart => exact ⟨0, Nat.zero_le _, rfl, D7, tl, dc7, by rw [List.drop_zero, ← HT.out]; exact M7.out, B7.out⟩
            case round =>
              obtain ⟨i, hi, rfl, A8, n8, c8, hm8, hb8⟩ := hrel
              have M8 := Lib.hid hm8; have B8 := Lib.hid hb8
              clear hm8 hb8
              have hn8 : n8 ≤ 140737488355328 := by
                have h1 := M8.out.len
                rw [List.length_append] at h1
                have h2 : (encAll ((l.take m).drop i)).length ≤ (encAll (l.take m)).length := by
                  conv => rhs; rw [← List.take_append_drop i (l.take m)]
                  unfold encAll; rw [List.map_append, List.flatten_append, List.length_append]; omega
                have h3 := TL.out
                rw [HT.out, List.length_append] at h3
                omega
              by_cases hlt3 : i < m
              · obtain ⟨b, off, y, rfl, hy, c0, c1, c2, c3⟩ := HI.out.at_ B8.out (show i < j by omega)
                have hyo := HK.out y (List.mem_of_getElem? hy)
                have hy' : (l.take m)[i]? = some y := by rw [List.getElem?_take_of_lt hlt3]; exact hy
                have hdr := encAll_drop hy'
                rw [hdr, List.append_assoc] at M8
                have hye : y.enc = encI y.k y.n y.v y.s := rfl
                rw [hye] at M8
                clear hy hdr hy' hye
                go_wp2_with fail
                refine (taken_ok y.k y.n y.v y.s g7 A8 n8 c8 (encAll ((l.take m).drop (i + 1)) ++ x.enc.dropLast) _ hyo.1 hyo.2 M8.out hn8).mono ?_
                intro e w9 hpost
                obtain ⟨rfl, A9, n9, c9, hm9, hc9⟩ := hpost
                have M9 := Lib.hid hm9
                have B9 := Lib.hid (B8.out.trans (hc9.below (fun q hq (hs : q = g7) => by omega) B8.out.size))
                clear hm9 hc9 c0 c1 c2 c3
                go_wp2_with fail
                go_roundw
                case rel => exact ⟨i + 1, by omega, by go_num, A9, n9, c9, M9.out, B9.out⟩
                case measure => simp [intOf]; omega
              · obtain rfl : i = m := by omega
                have hdr : (l.take i).drop i = [] := List.drop_of_length_le (by rw [List.length_take]; omega)
                rw [hdr] at M8
                have M8' : Hid (RD wr g7 A8 n8 c8 x.enc.dropLast) := M8
                clear hdr M8
                have hi2 : i < j := hmj
                obtain ⟨b, off, y, rfl, hy, c0, c1, c2, c3⟩ := HI.out.at_ B8.out hi2
                obtain rfl : y = x := by have := hy.symm.trans XM.out; exact Option.some.inj this
                have hyo := HK.out y (List.mem_of_getElem? hy)
                have hpos : 0 < (encI y.k y.n y.v y.s).length := HX0.out
                clear hy
                go_wp2_with fail
                refine (left_any g7 A8 n8 c8 _ _ M8'.out).mono ?_
                rintro e w' ⟨rfl, rfl⟩
                go_wp2_with fail
                refine (taken_no y.k y.n y.v y.s g7 A8 n8 c8 _ _ hyo.2 M8'.out rfl hpos hn8).mono ?_
                rintro e w10 ⟨rfl, hm10, hb10⟩
                have M10 := Lib.hid hm10
                have B10 := Lib.hid (B8.out.trans (hb10.mono B8.out.size))
                clear hm10 hb10 c0 c1 c2 c3
                go_wp2_with fail
                refine (left_any g7 A8 n8 c8 _ _ M10.out).mono ?_
                rintro e w' ⟨rfl, rfl⟩
                go_wp2_with fail
                go_ret
                exact ⟨rfl, B10.out⟩
end Go.Proofs.Ytngaohmfedoeeaa
