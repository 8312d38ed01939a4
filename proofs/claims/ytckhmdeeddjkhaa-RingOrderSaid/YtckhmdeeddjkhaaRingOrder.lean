/- THE WALK of the law RingOrder. -/
import Derived.Test.YtckhmdeeddjkhaaRingWant
import Derived.Laws.StructEq
import Derived.Deep.LoopGhost
import Derived.Deep.CutBlock
namespace Go.Proofs.Ytckhmdeeddjkhaa
open Go.RowKit
theorem neq_th (x : Th) (w : World) : (binOp .neq 47 (.agg #[.string x.s, .int .i64 x.n]) (.agg #[.string x.s, .int .i64 x.n])).run Try.prog w = .ok (.bool false) w := by
  have u3 := Try.underlying3
  have u9 := Try.underlying9
  have hS : Try.prog.underlying 47 = some (.struct (Try.prog.fieldsOf 47)) := by kernel_rfl
  have hp : Try.prog.stoodInHeld 47 = false := by kernel_rfl
  rw [run_neq_struct, show (10000 : Nat) = 9999 + 1 from rfl, run_equalIn_agg w 9999 47 _ _ hS hp]
  simp only [Program.fieldsOf, Try.underlying47]
  clear hS hp
  go_simp
theorem eq_th (x : Th) (w : World) : (binOp .eql 47 (.agg #[.string x.s, .int .i64 x.n]) (.agg #[.string x.s, .int .i64 x.n])).run Try.prog w = .ok (.bool true) w := by
  have u3 := Try.underlying3
  have u9 := Try.underlying9
  have hS : Try.prog.underlying 47 = some (.struct (Try.prog.fieldsOf 47)) := by kernel_rfl
  have hp : Try.prog.stoodInHeld 47 = false := by kernel_rfl
  rw [run_eql_struct, show (10000 : Nat) = 9999 + 1 from rfl, run_equalIn_agg w 9999 47 _ _ hS hp]
  simp only [Program.fieldsOf, Try.underlying47]
  clear hS hp
  go_simp
theorem guard_th : Try.prog.eqGuardType Try.prog.depth 47 = false := by kernel_rfl
/-- a []Thing, a []bool that came in -/
def TS (w : World) (A : Option Addr) (n : Nat) (l : List Th) : Prop :=
  l.length = n ∧ (0 < n → ∃ b off, A = some ⟨b, off, none⟩ ∧ b < w.heap.size ∧ ∀ (j : Nat) (x : Th), l[j]? = some x → w.cell? ⟨b, off + j * 2, none⟩ = some (.string x.s) ∧ w.cell? ⟨b, off + j * 2 + 1, none⟩ = some (.int .i64 x.n))
theorem TS.keep {w w' : World} {A : Option Addr} {n : Nat} {l : List Th} (h : TS w A n l) (hb : Below w.heap.size w w') : TS w' A n l :=
  ⟨h.1, fun hn => by
    obtain ⟨b, off, e, hlt, hc⟩ := h.2 hn
    exact ⟨b, off, e, Nat.lt_of_lt_of_le hlt hb.size, fun j x hj => ⟨(hb.cell (p := ⟨b, _, none⟩) hlt).trans (hc j x hj).1, (hb.cell (p := ⟨b, _, none⟩) hlt).trans (hc j x hj).2⟩⟩⟩
def BS (w : World) (A : Option Addr) (n : Nat) (l : List Bool) : Prop :=
  l.length = n ∧ (0 < n → ∃ b off, A = some ⟨b, off, none⟩ ∧ b < w.heap.size ∧ ∀ (j : Nat) (x : Bool), l[j]? = some x → w.cell? ⟨b, off + j, none⟩ = some (.bool x))
theorem BS.keep {w w' : World} {A : Option Addr} {n : Nat} {l : List Bool} (h : BS w A n l) (hb : Below w.heap.size w w') : BS w' A n l :=
  ⟨h.1, fun hn => by
    obtain ⟨b, off, e, hlt, hc⟩ := h.2 hn
    exact ⟨b, off, e, Nat.lt_of_lt_of_le hlt hb.size, fun j x hj => (hb.cell (p := ⟨b, _, none⟩) hlt).trans (hc j x hj)⟩⟩
/-- the ring and the list hold the same things -/
structure LS (w0 W : World) (g p N f : Nat) (xs q : List Th) (A : Option Addr) (m c : Nat) : Prop where
  r : RT W g p N f xs q
  v : WT W w0.heap.size A m c q
  d : ∀ k, inB A k → ¬ ringF g p k
  b : Below w0.heap.size w0 W
theorem LS.keep {w0 W W' : World} {g p N f m c : Nat} {xs q : List Th} {A : Option Addr} (h : LS w0 W g p N f xs q A m c) (hb : Below W.heap.size W W') : LS w0 W' g p N f xs q A m c :=
  ⟨h.r.keep hb, h.v.keep hb, h.d, h.b.trans (hb.mono h.b.size)⟩
def OPost (w : World) (e : Ending) (w' : World) : Prop := e = .returned (.bool true) ∧ Below w.heap.size w w'
set_option maxRecDepth 100000 in
set_option maxHeartbeats 8000000 in
theorem order_any (places : Int) (A1 A2 : Option Addr) (n1 c1 n2 c2 : Nat) (l1 : List Th) (l2 : List Bool) (w : World) (h1 : TS w A1 n1 l1) (h2 : BS w A2 n2 l2) (hc1 : n1 ≤ c1) (_hc2 : n2 ≤ c2) :
    Calls Try.prog 4 #[.int .i64 places, .slice A1 n1 c1, .slice A2 n2 c2] w (OPost w) := by
  have H1 := Lib.hid h1; have H2 := Lib.hid h2
  clear h1 h2
  have hq := guard_th
  have z0 := neq_th th0
  have z1 := eq_th th0
  unfold th0 at z0 z1
  go_enter Try.func4, Try.ntmps4
  go_upto_if 28 with fail
  go_cut [7] (fun s wx => (∃ k : Nat, k < 64 ∧ s = .int .i64 (k : Int)) ∧ wx = w)
  case first =>
    have hr1 : places.tmod 64 < 64 := Int.tmod_lt_of_pos _ (by omega)
    have hr2 : -64 < places.tmod 64 := Int.lt_tmod_of_pos _ (by omega)
    obtain ⟨r, hr⟩ : ∃ r, r = places.tmod 64 := ⟨_, rfl⟩
    rw [← hr] at hr1 hr2 ⊢
    clear hr
    by_cases hneg : r < 0
    · obtain ⟨k, rfl⟩ : ∃ k : Nat, r = -(k : Int) := ⟨(-r).toNat, by omega⟩
      go_wp2_with fail
      go_meet
      exact ⟨⟨k, by omega, by simp⟩, rfl⟩
    · obtain ⟨k, rfl⟩ := Int.eq_ofNat_of_zero_le (show 0 ≤ r by omega)
      go_wp2_with fail
      go_meet
      exact ⟨⟨k, by omega, rfl⟩, rfl⟩
  case rest =>
    obtain ⟨⟨nn, hnn, rfl⟩, hcut⟩ := hcut
    rw [hcut]
    clear hcut wc
    obtain ⟨N, hNe⟩ : ∃ N, N = nn + 1 := ⟨_, rfl⟩
    have hN : (nn : Int) + 1 = (N : Int) := by omega
    have hN1 : 1 ≤ N := by omega
    have hN2 : N ≤ 64 := by omega
    have HNE := Lib.hid hNe
    clear hNe
    go_wp2_with fail
    refine (newT_ok N _ hN1 hN2).mono ?_
    intro e w1 hpost
    obtain ⟨g, p, xs, rfl, hg, hp, hr1, hb1⟩ := hpost
    have R1 := Lib.hid hr1; have B1 := Lib.hid hb1
    have hl0 : decide (([] : List Th).length = N) = false := decide_eq_false (by simp; omega)
    have HL0 := Lib.hid hl0
    clear hr1 hb1 hl0
    go_wp2_with fail
    refine (lenT_any g p N 0 xs [] _ R1.out).mono ?_
    rintro e w' ⟨rfl, rfl⟩
    go_wp2_with fail
    refine (fullT_any g p N 0 xs [] _ R1.out).mono ?_
    rintro e w2 ⟨rfl, md, hw2⟩
    rw [HL0.out]
    have R2 : Hid (RT w2 g p N 0 xs []) := Lib.hid (by rw [hw2]; exact R1.out.keep (below_drewN (Below.refl _ _) _))
    have B2 : Hid (Below w.heap.size w w2) := Lib.hid (by rw [hw2]; exact below_drewN B1.out _)
    clear hw2 R1 B1
    have CP := pushT_ok g p N 0 xs [] th0 w2 R2.out (by simp; omega)
    unfold Th.cells th0 at CP
    have HCP := Lib.hid CP
    clear CP
    go_wp2_with fail
    refine HCP.out.mono ?_
    intro e w3 hpost
    obtain ⟨rfl, xs3, hr3, hc3⟩ := hpost
    have R3 : Hid (RT w3 g p N 0 xs3 [th0]) := Lib.hid hr3
    have B3 : Hid (Below w.heap.size w w3) := Lib.hid (B2.out.trans (hc3.below (B := w.heap.size) (fun k hk hs => by rcases hs with rfl | rfl <;> omega) B2.out.size))
    clear hr3 hc3 HCP R2 B2
    go_wp2_with fail
    refine (lenT_any g p N 0 xs3 [th0] _ R3.out).mono ?_
    rintro e w' ⟨rfl, rfl⟩
    have CQ := popT_cons g p N 0 xs3 [] th0 w3 R3.out
    have HCQ := Lib.hid CQ
    clear CQ
    go_wp2_with fail
    refine HCQ.out.mono ?_
    intro e w4 hpost
    obtain ⟨rfl, f4, xs4, hr4, hc4⟩ := hpost
    unfold Th.cells th0
    have R4 : Hid (RT w4 g p N f4 xs4 []) := Lib.hid hr4
    have B4 : Hid (Below w.heap.size w w4) := Lib.hid (B3.out.trans (hc4.below (B := w.heap.size) (fun k hk hs => by rcases hs with rfl | rfl <;> omega) B3.out.size))
    clear hr4 hc4 HCQ R3 B3
    have hgp := R4.out.blk.lt
    have hpp := R4.out.arr.lt
    go_upto_block 0 with fail
    have hal : Below w4.heap.size w4 (w4.alloc (.cells #[.string ByteArray.empty, .int .i64 0] 47)) := (Below.refl _ _).alloc (Nat.le_refl _) _
    have L0 : Hid (LS w (w4.alloc (.cells #[.string ByteArray.empty, .int .i64 0] 47)) g p N f4 xs4 [] none 0 0) := Lib.hid ⟨R4.out.keep hal, WT.nil _ _, fun k hk => (by obtain ⟨ad, e, _⟩ := hk; cases e), B4.out.alloc B4.out.size _⟩
    obtain ⟨w5, hw5⟩ : ∃ w5, w5 = w4.alloc (.cells #[.string ByteArray.empty, .int .i64 0] 47) := ⟨_, rfl⟩
    rw [← hw5] at L0 ⊢
    have HGG := Lib.hid (And.intro hg hp)
    clear hal hw5 R4 B4 hgp hpp hg hp
    go_cut [12, 13, 15, 17, 19] (fun s12 _ _ _ _ wx => ∃ f xs q A m c, s12 = .slice A m c ∧ Hid (LS w wx g p N f xs q A m c))
    case first =>
      go_wp2_with fail
      go_loopg [6, 12, 75] 500 (fun gh s6 s12 iv W => s6 = .bool false ∧ ∃ k : Nat, k ≤ n1 ∧ k ≤ 500 ∧ gh = 500 - k ∧ iv = .int .i64 (k : Int) ∧ ∃ f xs q A m c, s12 = .slice A m c ∧ Hid (LS w W g p N f xs q A m c))
      case atStart => exact ⟨rfl, 0, Nat.zero_le _, by omega, by omega, rfl, f4, xs4, [], none, 0, 0, rfl, L0⟩
      case round =>
        obtain ⟨rfl, k, hk, hk5, rfl, rfl, f, xs, q, A, m, c, rfl, HLS⟩ := hrel
        clear L0
        by_cases hlt : k < n1
        · obtain ⟨x, hx⟩ : ∃ x, l1[k]? = some x := ⟨_, List.getElem?_eq_getElem (by have := H1.out.1; omega)⟩
          obtain ⟨bb, off, rfl, hbb, hcx⟩ := (H1.out.keep HLS.out.b).2 (by omega)
          obtain ⟨d0, d1⟩ := hcx k x hx
          by_cases h500 : k < 500
          · have hal : Below wr.heap.size wr (wr.alloc (.cells x.cells 47)) := (Below.refl _ _).alloc (Nat.le_refl _) _
            have L1 : Hid (LS w (wr.alloc (.cells x.cells 47)) g p N f xs q A m c) := Lib.hid (HLS.out.keep hal)
            have X1 : Hid (Blk (wr.alloc (.cells x.cells 47)) wr.heap.size 47 x.cells) := Lib.hid (Blk.new _ _ _ rfl)
            unfold Th.cells at L1 X1
            clear hal hcx hx
            go_upto_region 17 with fail
            obtain ⟨w6, hw6⟩ : ∃ w6, w6 = wr.alloc (.cells #[.string x.s, .int .i64 x.n] 47) := ⟨_, rfl⟩
            obtain ⟨bt, hbt⟩ : ∃ bt, bt = wr.heap.size := ⟨_, rfl⟩
            rw [← hw6] at L1 X1 ⊢
            rw [← hbt] at X1 ⊢
            have HBT : Hid (bt ≠ g ∧ bt ≠ p) := Lib.hid (by
              have := HLS.out.r.blk.lt
              have := HLS.out.r.arr.lt
              omega)
            clear hw6 hbt d0 d1 hbb HLS
            have x0 : w6.cell? ⟨bt, 0, none⟩ = some (.string x.s) := X1.out.cell 0
            have x1 : w6.cell? ⟨bt, 1, none⟩ = some (.int .i64 x.n) := X1.out.cell 1
            have hmq := L1.out.v.1
            have hmN := L1.out.r.hq
            rw [hmq] at hmN
            have HMQ := Lib.hid hmq
            clear hmq
            go_cut [15] (fun s15 wx => (s15 = .int .i64 0 ∧ m ≤ nn ∧ ∃ f' xs', Hid (RT wx g p N f' xs' (q ++ [x])) ∧ Hid (Chg (ringF g p) w6 wx)) ∨ (s15 = .int .i64 180 ∧ ¬ m ≤ nn ∧ Hid (Below w6.heap.size w6 wx)))
            case first =>
              by_cases hfit : m ≤ nn
              · have CP := pushT_ok g p N f xs q x w6 L1.out.r (by rw [HMQ.out, HNE.out]; omega)
                unfold Th.cells at CP
                have HCP := Lib.hid CP
                clear CP
                go_wp2_with fail
                refine HCP.out.mono ?_
                intro e w7 hpost
                obtain ⟨rfl, xs7, hr7, hc7⟩ := hpost
                have R7 := Lib.hid hr7; have C7 := Lib.hid hc7
                clear hr7 hc7 HCP
                go_wp2_with fail
                go_meet
                exact .inl ⟨rfl, hfit, f, xs7, R7, C7⟩
              · have CP := pushT_full g p N f xs q x w6 L1.out.r (by rw [HMQ.out, HNE.out]; rw [HNE.out] at hmN; omega)
                unfold Th.cells at CP
                have HCP := Lib.hid CP
                clear CP
                go_wp2_with fail
                refine HCP.out.mono ?_
                rintro e w7 ⟨rfl, hb7⟩
                have B7 := Lib.hid hb7
                clear hb7 HCP
                go_wp2_with fail
                go_meet
                exact .inr ⟨rfl, hfit, B7⟩
            case rest =>
              have HCUT := Lib.hid hcut
              clear hcut x0 x1
              obtain ⟨w7, hw7⟩ : ∃ w7, w7 = wc := ⟨_, rfl⟩
              subst hw7
              go_upto_region 18 with fail
              go_cut [99] (fun s wx => s = .bool false ∧ wx = w7)
              case first =>
                rcases HCUT.out with ⟨rfl, hfit, _⟩ | ⟨rfl, hfit, _⟩
                · have t1 : decide ((m : Int) ≤ (nn : Int)) = true := by simp; omega
                  clear HCUT
                  go_wp2_with fail
                  go_meet
                  exact ⟨rfl, rfl⟩
                · have t1 : decide ((m : Int) ≤ (nn : Int)) = false := by simp; omega
                  clear HCUT
                  go_wp2_with fail
                  go_meet
                  exact ⟨rfl, rfl⟩
              case rest =>
                obtain ⟨rfl, hcut⟩ := hcut
                rw [hcut]
                clear hcut wc
                go_upto_region 20 with fail
                go_cut [101] (fun s wx => wx = w7 ∧ ((s = .bool true ∧ m ≤ nn ∧ ∃ f' xs', Hid (RT w7 g p N f' xs' (q ++ [x])) ∧ Hid (Chg (ringF g p) w6 w7)) ∨ (s = .bool false ∧ ¬ m ≤ nn ∧ Hid (Below w6.heap.size w6 w7))))
                case first =>
                  rcases HCUT.out with ⟨rfl, hfit, hh⟩ | ⟨rfl, hfit, hh⟩
                  · have HH := Lib.hid hh
                    clear HCUT hh
                    go_wp2_with fail
                    go_meet
                    exact ⟨rfl, .inl ⟨rfl, hfit, HH.out⟩⟩
                  · clear HCUT
                    go_wp2_with fail
                    go_meet
                    exact ⟨rfl, .inr ⟨rfl, hfit, hh⟩⟩
                case rest =>
                  obtain ⟨hw, hcut⟩ := hcut
                  rw [hw]
                  have HC2 := Lib.hid hcut
                  clear hw hcut wc HCUT
                  go_upto_if 101 with fail
                  go_cut [12] (fun s12 wx => ∃ f xs q A m c, s12 = .slice A m c ∧ q ≠ [] ∧ Hid (LS w wx g p N f xs q A m c))
                  case first =>
                    rcases HC2.out with ⟨rfl, hfit, f7, xs7, R7, C7⟩ | ⟨rfl, hfit, B7⟩
                    · have hbg := HGG.out.1; have hbp := HGG.out.2
                      have hwb := L1.out.b.size
                      have V7 : Hid (WT w7 w.heap.size A m c q) := Lib.hid (L1.out.v.chg C7.out L1.out.d)
                      have X7 : Hid (Blk w7 bt 47 #[.string x.s, .int .i64 x.n]) := Lib.hid (X1.out.chg C7.out (fun h => by
                        rcases h with h | h
                        · exact HBT.out.1 h
                        · exact HBT.out.2 h))
                      have B7 : Hid (Below w.heap.size w w7) := Lib.hid (L1.out.b.trans (C7.out.below (B := w.heap.size) (fun k hk hs => by rcases hs with rfl | rfl <;> omega) L1.out.b.size))
                      have hal : Below w7.heap.size w7 (w7.alloc (.cells #[.string x.s, .int .i64 x.n] 47)) := (Below.refl _ _).alloc (Nat.le_refl _) _
                      have V8 := Lib.hid (V7.out.keep hal)
                      have R8 := Lib.hid (R7.out.keep hal)
                      have B8 := Lib.hid (B7.out.trans (hal.mono B7.out.size))
                      have Y8 : Hid (Blk (w7.alloc (.cells #[.string x.s, .int .i64 x.n] 47)) w7.heap.size 47 x.cells) := Lib.hid (Blk.new _ _ _ rfl)
                      have y0 : w7.cell? ⟨bt, 0, none⟩ = some (.string x.s) := X7.out.cell 0
                      have y1 : w7.cell? ⟨bt, 1, none⟩ = some (.int .i64 x.n) := X7.out.cell 1
                      have hm1000 : m ≤ 1000 := by omega
                      have HD := Lib.hid L1.out.d
                      clear hal HC2 R7 B7 V7 X7 L1
                      go_wp2_with ((at_builtin; go_must (refine append_want rfl (.tmp 102) (.tmp 104) rfl w.heap.size A m c q rfl V8.out B8.out.size w7.heap.size 1 x rfl Y8.out hm1000 ?_); intro A9 c9 w9 hv9 hc9 hd9; refine halt ?_))
                      refine unhalt ?_
                      have L9 : Hid (LS w w9 g p N f7 xs7 (q ++ [x]) A9 (m + 1) c9) := Lib.hid ⟨R8.out.chg hc9 (fun h => HD.out g h (.inl rfl)) (fun h => HD.out p h (.inr rfl)), hv9, fun k hk hs => by
                        rcases hd9 k hk with h | h
                        · exact HD.out k h hs
                        · have h1 := R8.out.blk.lt
                          have h2 := R8.out.arr.lt
                          rcases hs with rfl | rfl <;> omega, B8.out.trans (hc9.below (B := w.heap.size) (fun k hk hs => by
                            have := (V8.out.lt k hs).1
                            omega) B8.out.size)⟩
                      clear hv9 hc9 hd9
                      go_wp2_with fail
                      go_meet
                      exact ⟨f7, xs7, q ++ [x], A9, m + 1, c9, rfl, by simp, L9⟩
                    · have L9 : Hid (LS w w7 g p N f xs q A m c) := Lib.hid (L1.out.keep B7.out)
                      have hqne : q ≠ [] := fun h => by
                        have := HMQ.out
                        rw [h] at this
                        simp at this
                        omega
                      clear HC2 L1
                      go_wp2_with fail
                      go_meet
                      exact ⟨f, xs, q, A, m, c, rfl, hqne, L9⟩
                  case rest =>
                    obtain ⟨f2, xs2, q2, A3, m2, c3, rfl, hne, L2⟩ := hcut
                    clear HC2 L1 X1 HBT HMQ hmN
                    obtain ⟨w8, hw8⟩ : ∃ w8, w8 = wc := ⟨_, rfl⟩
                    subst hw8
                    by_cases hk2 : k < n2
                    · obtain ⟨bv, hbv⟩ : ∃ bv, l2[k]? = some bv := ⟨_, List.getElem?_eq_getElem (by have := H2.out.1; omega)⟩
                      obtain ⟨ba, oa, rfl, _, hca⟩ := (H2.out.keep L2.out.b).2 (by omega)
                      have e0 := hca k bv hbv
                      clear hca hbv
                      have tk : decide ((n2 : Int) ≤ (k : Int)) = false := by simp; omega
                      cases bv with
                      | false =>
                        go_wp2_with fail
                        go_roundg (500 - (k + 1))
                        case measure => omega
                        case rel => exact ⟨rfl, k + 1, by omega, by omega, rfl, by go_num, f2, xs2, q2, A3, m2, c3, rfl, L2⟩
                      | true =>
                        obtain ⟨y, q3, rfl⟩ : ∃ y q3, q2 = y :: q3 := by
                          cases q2 with
                          | nil => exact absurd rfl hne
                          | cons y q3 => exact ⟨y, q3, rfl⟩
                        have CF := Lib.hid (frontT_cons g p N f2 xs2 q3 y w8 L2.out.r)
                        go_wp2_with fail
                        refine CF.out.mono ?_
                        rintro e w9 ⟨rfl, hb9⟩
                        unfold frontT Th.cells
                        have hal : Below w9.heap.size w9 (w9.alloc (.cells #[.string y.s, .int .i64 y.n] 47)) := (Below.refl _ _).alloc (Nat.le_refl _) _
                        have L9 := Lib.hid ((L2.out.keep hb9).keep hal)
                        have X9 : Hid (Blk (w9.alloc (.cells #[.string y.s, .int .i64 y.n] 47)) w9.heap.size 47 #[.string y.s, .int .i64 y.n]) := Lib.hid (Blk.new _ _ _ rfl)
                        have hbg9 := (L2.out.keep hb9).r.blk.lt
                        have hbp9 := (L2.out.keep hb9).r.arr.lt
                        clear CF hb9 hal e0 L2
                        go_upto_region 24 with fail
                        obtain ⟨w10, hw10⟩ : ∃ w10, w10 = w9.alloc (.cells #[.string y.s, .int .i64 y.n] 47) := ⟨_, rfl⟩
                        obtain ⟨b16, hb16⟩ : ∃ b16, b16 = w9.heap.size := ⟨_, rfl⟩
                        rw [← hw10] at L9 X9 ⊢
                        rw [← hb16] at X9 hbg9 hbp9 ⊢
                        clear hw10 hb16
                        have CQ := Lib.hid (popT_cons g p N f2 xs2 q3 y w10 L9.out.r)
                        go_wp2_with fail
                        refine CQ.out.mono ?_
                        intro e w11 hpost
                        obtain ⟨rfl, f11, xs11, hr11, hc11⟩ := hpost
                        unfold Th.cells
                        have hbg := HGG.out.1; have hbp := HGG.out.2
                        have X11 := Lib.hid (X9.out.chg hc11 (fun h => by rcases h with h | h <;> omega))
                        have V11 := Lib.hid (L9.out.v.chg hc11 L9.out.d)
                        have B11 : Hid (Below w.heap.size w w11) := Lib.hid (L9.out.b.trans (hc11.below (B := w.heap.size) (fun k hk hs => by rcases hs with rfl | rfl <;> omega) L9.out.b.size))
                        have hal : Below w11.heap.size w11 (w11.alloc (.cells #[.string y.s, .int .i64 y.n] 47)) := (Below.refl _ _).alloc (Nat.le_refl _) _
                        have R12 := Lib.hid (RT.keep hr11 hal)
                        have V12 := Lib.hid (V11.out.keep hal)
                        have B12 := Lib.hid (B11.out.trans (hal.mono B11.out.size))
                        have X12 := Lib.hid (X11.out.keep hal)
                        have Y12 : Hid (Blk (w11.alloc (.cells #[.string y.s, .int .i64 y.n] 47)) w11.heap.size 47 #[.string y.s, .int .i64 y.n]) := Lib.hid (Blk.new _ _ _ rfl)
                        have HD := Lib.hid L9.out.d
                        clear hr11 hc11 hal CQ L9 X9 X11 V11 B11 hbg9 hbp9
                        go_upto_region 25 with fail
                        obtain ⟨w12, hw12⟩ : ∃ w12, w12 = w11.alloc (.cells #[.string y.s, .int .i64 y.n] 47) := ⟨_, rfl⟩
                        obtain ⟨b18, hb18⟩ : ∃ b18, b18 = w11.heap.size := ⟨_, rfl⟩
                        rw [← hw12] at R12 V12 B12 X12 Y12 ⊢
                        rw [← hb18] at Y12 ⊢
                        clear hw12 hb18
                        obtain ⟨gw, ow, rfl, v0, v1⟩ := V12.out.at_ (j := 0) (x := y) rfl
                        rw [Nat.zero_mul, Nat.add_zero] at v0 v1
                        have a0 : w12.cell? ⟨b16, 0, none⟩ = some (.string y.s) := X12.out.cell 0
                        have a1 : w12.cell? ⟨b16, 1, none⟩ = some (.int .i64 y.n) := X12.out.cell 1
                        have a2 : w12.cell? ⟨b18, 0, none⟩ = some (.string y.s) := Y12.out.cell 0
                        have a3 : w12.cell? ⟨b18, 1, none⟩ = some (.int .i64 y.n) := Y12.out.cell 1
                        have hny := neq_th y
                        have hm1 : 0 < m2 := by have := V12.out.1; simp at this; omega
                        have tm0 : ((m2 : Int) == 0) = false := by simp; omega
                        go_cut [151] (fun s wx => s = .bool false ∧ ∃ md, wx = w12.drewN md)
                        case first =>
                          go_quiet (fail)
                          go_wp2_with fail
                          go_meet
                          exact ⟨rfl, _, rfl⟩
                        case rest =>
                          obtain ⟨rfl, md, hw13⟩ := hcut
                          have HT := Lib.hid V12.out.tail
                          have hmc := V12.out.2.1
                          have L13 : ∀ A', (A' = if c3 = 1 then some (⟨gw, ow, none⟩ : Addr) else (some (⟨gw, ow, none⟩ : Addr)).map (·.add 2)) → LS w wc g p N f11 xs11 q3 A' (m2 - 1) (c3 - 1) := fun A' e => by
                            rw [hw13, e]
                            refine ⟨R12.out.keep (below_drewN (Below.refl _ _) _), HT.out.keep (below_drewN (Below.refl _ _) _), fun k hk => HD.out k ?_, below_drewN B12.out _⟩
                            obtain ⟨ad, e2, rfl⟩ := hk
                            split at e2
                            · obtain rfl := Option.some.inj e2; exact ⟨_, rfl, rfl⟩
                            · obtain rfl := Option.some.inj e2; exact ⟨_, rfl, by unfold Addr.add; split <;> rfl⟩
                          have HL13 := Lib.hid L13
                          clear L13 HT v0 v1 a0 a1 a2 a3 R12 V12 B12 X12 Y12 hny tm0 hw13
                          by_cases hc31 : c3 = 1
                          · go_wp2_with fail
                            go_roundg (500 - (k + 1))
                            case measure => omega
                            case rel => exact ⟨rfl, k + 1, by omega, by omega, rfl, by go_num, f11, xs11, q3, _, m2 - 1, 0, rfl, Lib.hid (by have := HL13.out _ (by rw [if_pos hc31]); rwa [hc31] at this)⟩
                          · go_wp2_with fail
                            go_roundg (500 - (k + 1))
                            case measure => omega
                            case rel => exact ⟨rfl, k + 1, by omega, by omega, rfl, by go_num, f11, xs11, q3, _, m2 - 1, c3 - 1, rfl, Lib.hid (HL13.out _ (by rw [if_neg hc31]; rfl))⟩
                    · have tk : decide ((n2 : Int) ≤ (k : Int)) = true := by simp; omega
                      go_wp2_with fail
                      go_roundg (500 - (k + 1))
                      case measure => omega
                      case rel => exact ⟨rfl, k + 1, by omega, by omega, rfl, by go_num, f2, xs2, q2, A3, m2, c3, rfl, L2⟩
          · obtain rfl : k = 500 := by omega
            have hal : Below wr.heap.size wr (wr.alloc (.cells x.cells 47)) := (Below.refl _ _).alloc (Nat.le_refl _) _
            have L1 : Hid (LS w (wr.alloc (.cells x.cells 47)) g p N f xs q A m c) := Lib.hid (HLS.out.keep hal)
            unfold Th.cells at L1
            clear hal hcx hx
            go_wp2_with fail
            go_meet
            exact ⟨f, xs, q, A, m, c, rfl, L1⟩
        · obtain rfl : k = n1 := by omega
          go_wp2_with fail
          go_meet
          exact ⟨f, xs, q, A, m, c, rfl, HLS⟩
    case rest =>
      obtain ⟨f, xs, q, A, m, c, rfl, L⟩ := hcut
      clear L0
      have hmq := L.out.v.1
      have HMQ := Lib.hid hmq
      have hmc := L.out.v.2.1
      have hmN : m ≤ N := by rw [← hmq]; exact L.out.r.hq
      clear hmq
      obtain ⟨w6, hw6⟩ : ∃ w6, w6 = wc := ⟨_, rfl⟩
      subst hw6
      have CA := allT_any g p N f xs q w6 L.out.r
      have HCA := Lib.hid CA
      clear CA
      go_wp2_with fail
      refine HCA.out.mono ?_
      intro e w7 hpost
      obtain ⟨a, rfl, ha, hba, hb7⟩ := hpost
      rw [HMQ.out]
      have L7 := Lib.hid (L.out.keep hb7)
      have A7 := Lib.hid hba
      have HAG : Hid (a ≠ g ∧ a ≠ p) := Lib.hid (by
        have := L.out.r.blk.lt
        have := L.out.r.arr.lt
        omega)
      clear hba hb7 HCA ha L
      have hlen := lenT_any g p N f xs q w7 L7.out.r
      rw [HMQ.out] at hlen
      have HLN := Lib.hid hlen
      have hful := fullT_any g p N f xs q w7 L7.out.r
      rw [HMQ.out] at hful
      obtain ⟨bv, hbv⟩ : ∃ bv, bv = decide (m = N) := ⟨_, rfl⟩
      have tb : ((m : Int) == (N : Int)) = bv := by
        rw [hbv]
        by_cases e : m = N
        · subst e; simp
        · rw [decide_eq_false e, beq_eq_false_iff_ne]; omega
      rw [← hbv] at hful
      have HFU := Lib.hid hful
      clear hlen hful hbv
      go_wp2_with fail
      refine HLN.out.mono ?_
      rintro e w' ⟨rfl, rfl⟩
      go_wp2_with fail
      refine HFU.out.mono ?_
      rintro e w8 ⟨rfl, md, hw8⟩
      have L8 : Hid (LS w w8 g p N f xs q A m c) := Lib.hid (by rw [hw8]; exact L7.out.keep (below_drewN (Below.refl _ _) _))
      have A8 : Hid (Blk w8 a 47 (flatE Th.cells q).toArray) := Lib.hid (by rw [hw8]; exact A7.out)
      clear hw8 L7 A7 HLN HFU
      cases bv
      all_goals
        go_wp2_with fail
        clear tb
        go_loopw [181] (fun iv W => ∃ k : Nat, k ≤ m ∧ iv = .int .i64 (k : Int) ∧ ∃ f' xs', Hid (RT W g p N f' xs' (q.drop k)) ∧ Hid (Chg (ringF g p) w8 W)) (fun iv _ => m - (intOf iv).toNat)
        case atStart => exact ⟨0, Nat.zero_le _, rfl, f, xs, Lib.hid (by simpa using L8.out.r), Lib.hid (Chg.refl _ _)⟩
        case round =>
          obtain ⟨k, hk, rfl, f9, xs9, R9, C9⟩ := hrel
          by_cases hlt : k < m
          · have hkq : k < q.length := by rw [HMQ.out]; exact hlt
            obtain ⟨y, hy⟩ : ∃ y, q[k]? = some y := ⟨_, List.getElem?_eq_getElem hkq⟩
            have hdr : q.drop k = y :: q.drop (k + 1) := by
              obtain ⟨h, e⟩ := List.getElem?_eq_some_iff.1 hy
              rw [List.drop_eq_getElem_cons h, e]
            have hr9 := R9.out
            rw [hdr] at hr9
            have CQ := Lib.hid (popT_cons g p N f9 xs9 (q.drop (k + 1)) y wr hr9)
            have HY := Lib.hid hy
            clear hdr hr9 hy hkq
            go_wp2_with fail
            refine CQ.out.mono ?_
            intro e w10 hpost
            obtain ⟨rfl, f10, xs10, hr10, hc10⟩ := hpost
            unfold Th.cells
            have hcc : Chg (ringF g p) w8 w10 := C9.out.trans hc10 (fun _ _ h => h)
            have V10 := L8.out.v.chg hcc L8.out.d
            have A10 := A8.out.chg hcc (fun h => by
              rcases h with h | h
              · exact HAG.out.1 h
              · exact HAG.out.2 h)
            have hal : Below w10.heap.size w10 (w10.alloc (.cells #[.string y.s, .int .i64 y.n] 47)) := (Below.refl _ _).alloc (Nat.le_refl _) _
            have R11 := Lib.hid (RT.keep hr10 hal)
            have C11 : Hid (Chg (ringF g p) w8 (w10.alloc (.cells #[.string y.s, .int .i64 y.n] 47))) := Lib.hid (hcc.alloc _)
            have V11 := Lib.hid (V10.keep hal)
            have A11 := Lib.hid (A10.keep hal)
            have Y11 : Hid (Blk (w10.alloc (.cells #[.string y.s, .int .i64 y.n] 47)) w10.heap.size 47 #[.string y.s, .int .i64 y.n]) := Lib.hid (Blk.new _ _ _ rfl)
            clear hr10 hc10 hcc V10 A10 hal CQ
            go_upto_region 36 with fail
            obtain ⟨w11, hw11⟩ : ∃ w11, w11 = w10.alloc (.cells #[.string y.s, .int .i64 y.n] 47) := ⟨_, rfl⟩
            obtain ⟨b22, hb22⟩ : ∃ b22, b22 = w10.heap.size := ⟨_, rfl⟩
            rw [← hw11] at R11 C11 V11 A11 Y11 ⊢
            rw [← hb22] at Y11 ⊢
            clear hw11 hb22
            obtain ⟨gw, ow, rfl, v0, v1⟩ := V11.out.at_ HY.out
            have a0 : w11.cell? ⟨b22, 0, none⟩ = some (.string y.s) := Y11.out.cell 0
            have a1 : w11.cell? ⟨b22, 1, none⟩ = some (.int .i64 y.n) := Y11.out.cell 1
            have u0 : w11.cell? ⟨a, k * 2, none⟩ = some (.string y.s) := by
              rw [A11.out.cell, List.getElem?_toArray]
              exact flatE_at th_size q HY.out (i := 0) rfl
            have u1 : w11.cell? ⟨a, k * 2 + 1, none⟩ = some (.int .i64 y.n) := by
              rw [A11.out.cell, List.getElem?_toArray]
              exact flatE_at th_size q HY.out (i := 1) rfl
            have hny := neq_th y
            go_cut [209] (fun s wx => s = .bool false ∧ ∃ md, wx = w11.drewN md)
            case first =>
              go_quiet (fail)
              go_wp2_with fail
              go_meet
              exact ⟨rfl, _, rfl⟩
            case rest =>
              obtain ⟨rfl, md2, hw13⟩ := hcut
              have R13 : Hid (RT wc g p N f10 xs10 (q.drop (k + 1))) := Lib.hid (by rw [hw13]; exact R11.out.keep (below_drewN (Below.refl _ _) _))
              have C13 : Hid (Chg (ringF g p) w8 wc) := Lib.hid (by rw [hw13]; exact C11.out.drewN _)
              clear hw13 hny v0 v1 a0 a1 u0 u1 R11 C11 V11 A11 Y11
              go_wp2_with fail
              go_roundw
              first
                | (case rel => exact ⟨k + 1, by omega, by go_num, f10, xs10, R13, C13⟩)
                | (case rel => (repeat apply Exists.intro); exact ⟨⟨k + 1, by omega, by go_num, f10, xs10, R13, C13⟩, rfl⟩)
              case measure => simp [intOf]; omega
          · obtain rfl : m = k := by omega
            have hr9 := R9.out
            rw [List.drop_of_length_le (by rw [HMQ.out]; exact Nat.le_refl _)] at hr9
            have B9 : Hid (Below w.heap.size w wr) := Lib.hid (L8.out.b.trans (C9.out.below (B := w.heap.size) (fun k hk hs => by
              have := HGG.out
              rcases hs with rfl | rfl <;> omega) L8.out.b.size))
            have CN := Lib.hid (popT_nil g p N f9 xs9 wr hr9)
            have R9' := Lib.hid hr9
            clear hr9 C9 R9 L8 A8
            go_wp2_with fail
            refine CN.out.mono ?_
            rintro e w10 ⟨rfl, hb10⟩
            unfold frontT th0 Th.cells
            have hal : Below w10.heap.size w10 (w10.alloc (.cells #[.string ByteArray.empty, .int .i64 0] 47)) := (Below.refl _ _).alloc (Nat.le_refl _) _
            have R11 := Lib.hid (RT.keep (R9'.out.keep hb10) hal)
            have B11 : Hid (Below w.heap.size w (w10.alloc (.cells #[.string ByteArray.empty, .int .i64 0] 47))) := Lib.hid ((B9.out.trans (hb10.mono B9.out.size)).trans (hal.mono (B9.out.trans (hb10.mono B9.out.size)).size))
            have hl0 : decide (([] : List Th).length = N) = false := decide_eq_false (by simp; omega)
            have HL1 := Lib.hid hl0
            clear hb10 hal CN hl0 R9'
            go_wp2_with fail
            refine (lenT_any g p N f9 xs9 [] _ R11.out).mono ?_
            rintro e w' ⟨rfl, rfl⟩
            go_wp2_with fail
            refine (fullT_any g p N f9 xs9 [] _ R11.out).mono ?_
            rintro e w12 ⟨rfl, md3, hw12⟩
            rw [HL1.out]
            have HF : Hid (OPost w (.returned (.bool true)) w12) := Lib.hid ⟨rfl, by rw [hw12]; exact below_drewN B11.out _⟩
            clear hw12
            go_wp2_with fail
            go_ret
            exact HF.out
end Go.Proofs.Ytckhmdeeddjkhaa
