/- THE WALK of heronlaw01.CrcAgain. -/
import Derived.Test.YtnnlbnonffjjiaaDoorCrcKnown
import Derived.Test.YtnnlbnonffjjiaaDoorMem
import Derived.Laws.CopyOwn
namespace Go.Proofs.YtnnlbnonffjjiaaDoor
open Go.RowKit
set_option maxHeartbeats 1000000 in
theorem again_any (A C : Option Addr) (n cap m cap' : Nat) (b c : List UInt8) (sum : Nat) (w : World) (hT : CrcTab w) (hb : RB w A n b) (hc : RB w C m c) (hncap : n ≤ cap) (hmcap : m ≤ cap') (hn : n ≤ 140737488351232) (hm : m ≤ 140737488351232) (hs : sum < 4294967296) :
    Calls Tryd.prog 6 #[.slice A n cap, .slice C m cap', .int .u32 (sum : Int)] w fun e w' => e = .returned (.bool true) ∧ Below w.heap.size w w' := by
  have HT := Lib.hid hT; clear hT
  have HB := Lib.hid hb; clear hb
  have HC := Lib.hid hc; clear hc
  go_enter Tryd.func6, Tryd.ntmps6
  go_wp2_with fail
  refine (known_any _ HT.out).mono ?_
  rintro e w1 ⟨rfl, hb1⟩
  obtain ⟨k, hk⟩ : ∃ k, k = min n m := ⟨_, rfl⟩
  have hkn : k ≤ n := by omega
  have hkm : k ≤ m := by omega
  have hmin : ∀ W : World, (Builtin.min_ #[3, 3] 3 #[.int .i64 (n : Int), .int .i64 (m : Int)]).run Tryd.prog W = .ok (.int .i64 (k : Int)) W := by
    intro W
    rw [run_min_int2]
    congr 2
    split <;> omega
  have HK := Lib.hid hk; clear hk
  have R1 := Lib.hid (((HB.out.take (k := k) hkn).keep hb1).alloc (.cells #[] 5))
  have O1 := Lib.hid (OB.fresh (w := w1) rfl hb1.size)
  have Z1 := hb1.size
  have L1 : ([] : List UInt8).length + k ≤ 140737488355328 := by simp; omega
  go_wp2_with ((at_builtin; go_must (refine append_bytes rfl (.tmp 26) (.tmp 29) rfl w.heap.size (.slice (some ⟨w1.heap.size, 0, none⟩) 0 0) [] rfl O1.out A k cap (b.take k) rfl R1.out L1 (by simp; omega) ?_); intro v2 w2 ho2 hg2 ha2))
  clear R1 O1 L1
  have hb2 : Below w.heap.size w w2 := (hb1.alloc hb1.size _).grown hg2 (by simp; omega) (fun j hj => by obtain rfl := Option.some.inj hj; exact Z1)
  clear hg2 ha2
  rw [List.nil_append] at ho2
  have hlk : (b.take k).length = k := by have := HB.out.1; simp; omega
  generalize b.take k = x0 at *
  obtain ⟨D, dc, rfl, hdc, hdm, hr2⟩ := ho2.form
  subst hlk
  have O2 := Lib.hid ho2; clear ho2
  have R2 := Lib.hid hr2; clear hr2
  have T2 := Lib.hid (HT.out.keep hb2)
  have hx : x0.length ≤ 281474976710656 := by omega
  have Z2 := hb2.size
  refine (of_any _ _ _ x0 _ T2.out R2.out hx).mono ?_
  rintro e w' ⟨rfl, rfl⟩
  go_wp2_with fail
  refine (of_any _ _ _ x0 _ T2.out R2.out hx).mono ?_
  rintro e w' ⟨rfl, rfl⟩
  go_wp2_with fail
  refine (more_any _ _ _ x0 sum _ T2.out R2.out hx hs).mono ?_
  rintro e w' ⟨rfl, rfl⟩
  go_wp2_with fail
  refine (more_any _ _ _ x0 sum _ T2.out R2.out hx hs).mono ?_
  rintro e w' ⟨rfl, rfl⟩
  go_wp2_with fail
  refine (all_any _ _ _ [x0, x0] _ ?_ ?_ ?_ ?_).mono ?_
  · exact T2.out.keep (by repeat (first | exact Below.refl _ _ | assumption | refine Below.alloc ?_ (by first | omega | (simp; done) | (simp; omega)) _ | refine Below.drew ?_))
  · exact RR.two _ _ _ _ _ _ _ _ _ _ rfl R2.out R2.out
  · omega
  · intro p hp; simp at hp; rcases hp with rfl | rfl <;> exact hx
  rintro e w' ⟨rfl, rfl⟩
  go_wp2_with fail
  refine (all_any _ _ _ [x0, x0] _ ?_ ?_ ?_ ?_).mono ?_
  · exact T2.out.keep (by repeat (first | exact Below.refl _ _ | assumption | refine Below.alloc ?_ (by first | omega | (simp; done) | (simp; omega)) _ | refine Below.drew ?_))
  · exact RR.two _ _ _ _ _ _ _ _ _ _ (by simp) (R2.out.alloc _) (R2.out.alloc _)
  · omega
  · intro p hp; simp at hp; rcases hp with rfl | rfl <;> exact hx
  rintro e w' ⟨rfl, rfl⟩
  have O3 := Lib.hid ((O2.out.keep ((Below.refl _ _).alloc (Nat.le_refl _) (.cells #[.slice D x0.length dc, .slice D x0.length dc] 22))).keep ((Below.refl _ _).alloc (Nat.le_refl _) (.cells #[.slice D x0.length dc, .slice D x0.length dc] 22)))
  have R3 := Lib.hid (((HC.out.keep hb2).alloc (.cells #[.slice D x0.length dc, .slice D x0.length dc] 22)).alloc (.cells #[.slice D x0.length dc, .slice D x0.length dc] 22))
  have hb3 : Below w.heap.size w ((w2.alloc (.cells #[.slice D x0.length dc, .slice D x0.length dc] 22)).alloc (.cells #[.slice D x0.length dc, .slice D x0.length dc] 22)) := (hb2.alloc Z2 _).alloc (by simp; omega) _
  have Z3 := hb3.size
  go_wp2_with ((refine copy_bytes rfl (.tmp 49) (.tmp 50) rfl w.heap.size D C _ dc m cap' x0 c rfl O3.out rfl R3.out ?_; intro w3 ho3 hg3; refine halt ?_))
  refine unhalt ?_
  clear R3
  have hb4 : Below w.heap.size w w3 := hb3.grown hg3 Z3 (fun j hj => (O2.out.lt j hj).1)
  clear hg3 hb3 Z3 O3
  have Z4 := hb4.size
  have R4 := (HC.out.take (k := x0.length) hkm).keep hb4
  rw [show c.take x0.length ++ x0.drop m = c.take x0.length from by rw [List.drop_eq_nil_of_le hkm, List.append_nil]] at ho3
  have hlc : (c.take x0.length).length = x0.length := by have := HC.out.1; simp; omega
  generalize c.take x0.length = y0 at *
  obtain ⟨D', dc', he, _, _, hr4⟩ := ho3.form
  injection he with e1 e2 e3
  subst e1
  subst e3
  clear e2
  have O4 := Lib.hid ho3; clear ho3
  rw [hlc] at hr4
  have HLC := Lib.hid hlc; clear hlc
  have R5 := Lib.hid hr4; clear hr4
  have R4 := Lib.hid R4
  have T4 := Lib.hid (HT.out.keep hb4)
  have R6 := Lib.hid (R4.out.alloc (.cells #[] 5))
  have O5 := Lib.hid (OB.fresh (w := w3) rfl Z4)
  have L5 : ([] : List UInt8).length + x0.length ≤ 140737488355328 := by simp; omega
  go_wp2_with ((at_builtin; go_must (refine append_bytes rfl (.tmp 65) (.tmp 68) rfl w.heap.size (.slice (some ⟨w3.heap.size, 0, none⟩) 0 0) [] rfl O5.out C x0.length cap' y0 rfl R6.out L5 (by simp; omega) ?_); intro v4 w4 ho4 hg4 ha4))
  clear R6 O5 L5
  have hb5 : Below w.heap.size w w4 := (hb4.alloc Z4 _).grown hg4 (by simp; omega) (fun j hj => by obtain rfl := Option.some.inj hj; exact Z4)
  have hb45 : Below w3.heap.size w3 w4 := ((Below.refl _ _).alloc (Nat.le_refl _) _).grown hg4 (by simp) (fun j hj => by obtain rfl := Option.some.inj hj; exact Nat.le_refl _)
  clear hg4 ha4
  rw [List.nil_append] at ho4
  obtain ⟨E, ec, rfl, _, _, hr6⟩ := ho4.form
  have Z5 := hb5.size
  have R6 := Lib.hid hr6; clear hr6
  have R5 := Lib.hid (R5.out.keep hb45)
  have T5 := Lib.hid (T4.out.keep hb45)
  have hy : y0.length ≤ 281474976710656 := by have := HLC.out; omega
  clear ho4 R4
  refine (of_any _ _ _ y0 _ T5.out R5.out (by omega)).mono ?_
  rintro e w' ⟨rfl, rfl⟩
  go_wp2_with fail
  refine (more_any _ _ _ y0 sum _ T5.out R5.out (by omega) hs).mono ?_
  rintro e w' ⟨rfl, rfl⟩
  go_wp2_with fail
  refine (all_any _ _ _ [y0, y0] _ ?_ ?_ ?_ ?_).mono ?_
  · exact T5.out.keep (by repeat (first | exact Below.refl _ _ | assumption | refine Below.alloc ?_ (by first | omega | (simp; done) | (simp; omega)) _ | refine Below.drew ?_))
  · exact RR.two _ _ _ _ _ _ _ _ _ _ rfl R5.out R5.out
  · omega
  · intro p hp; simp at hp; rcases hp with rfl | rfl <;> exact hy
  rintro e w' ⟨rfl, rfl⟩
  go_wp2_with fail
  refine (of_any _ _ _ y0 _ ?_ (R6.out.alloc _) (by omega)).mono ?_
  · exact T5.out.keep (by repeat (first | exact Below.refl _ _ | assumption | refine Below.alloc ?_ (by first | omega | (simp; done) | (simp; omega)) _ | refine Below.drew ?_))
  rintro e w' ⟨rfl, rfl⟩
  go_wp2_with fail
  refine (more_any _ _ _ y0 sum _ ?_ (R6.out.alloc _) (by omega) hs).mono ?_
  · exact T5.out.keep (by repeat (first | exact Below.refl _ _ | assumption | refine Below.alloc ?_ (by first | omega | (simp; done) | (simp; omega)) _ | refine Below.drew ?_))
  rintro e w' ⟨rfl, rfl⟩
  go_wp2_with fail
  refine (all_any _ _ _ [y0, y0] _ ?_ ?_ ?_ ?_).mono ?_
  · exact T5.out.keep (by repeat (first | exact Below.refl _ _ | assumption | refine Below.alloc ?_ (by first | omega | (simp; done) | (simp; omega)) _ | refine Below.drew ?_))
  · exact RR.two _ _ _ _ _ _ _ _ _ _ (by simp) (R6.out.alloc _) (R6.out.alloc _)
  · omega
  · intro p hp; simp at hp; rcases hp with rfl | rfl <;> exact hy
  rintro e w' ⟨rfl, rfl⟩
  go_wp2_with fail
  go_ret
  exact ⟨rfl, (by repeat (first | exact Below.refl _ _ | assumption | refine Below.alloc ?_ (by first | omega | (simp; done) | (simp; omega)) _ | refine Below.drew ?_))⟩
end Go.Proofs.YtnnlbnonffjjiaaDoor
