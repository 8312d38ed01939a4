/- THE WALK of heronlaw01.known. -/
import Derived.Test.YtnnlbnonffjjiaaDoorCrcWalk
import Derived.Lib.SmallJoins
namespace Go.Proofs.YtnnlbnonffjjiaaDoor
open Go.RowKit
theorem CrcTab.keep {w w' : World} (h : CrcTab w) (hb : Below w.heap.size w w') : CrcTab w' := fun k hk => by
  have hc := h k hk
  exact (hb.cell (World.block_lt_of_cell? w _ hc)).trans hc
theorem CrcTab.of_laid {w : World} (h : ∀ k, k < 16 → w.cell? ⟨0, k, none⟩ = some (.int .u32 (([0, 498536548, 997073096, 651767980, 1994146192, 1802195444, 1303535960, 1342533948, 3988292384, 4027552580, 3604390888, 3412177804, 2607071920, 2262029012, 2685067896, 3183342108] : List Int).getD k 0))) : CrcTab w := by
  intro k hk
  rw [h k hk]
  congr 2
  have : ∀ k : Fin 16, ([0, 498536548, 997073096, 651767980, 1994146192, 1802195444, 1303535960, 1342533948, 3988292384, 4027552580, 3604390888, 3412177804, 2607071920, 2262029012, 2685067896, 3183342108] : List Int).getD k.1 0 = (crcHalf k.1 : Int) := by decide +kernel
  exact this ⟨k, hk⟩
theorem known_any (w : World) (hT : CrcTab w) :
    Calls Tryd.prog 7 #[] w fun e w' => e = .returned (.bool true) ∧ Below w.heap.size w w' := by
  have HT := Lib.hid hT; clear hT
  have kc := fun (w : World) (C : Array Value) (n c g : Nat) (hg : g = w.heap.size) => Joins.run_convert_bytes_const_at (P := Tryd.prog) w 22 5 C n c g hg Tryd.underlying22 Tryd.underlying5
  go_enter Tryd.func7, Tryd.ntmps7
  go_wp2_with fail
  refine (of_any _ _ _ [49, 50, 51, 52, 53, 54, 55, 56, 57] _ ?_ ?_ ?_).mono ?_
  · exact HT.out.keep (by repeat (first | exact Below.refl _ _ | assumption | refine Below.alloc ?_ (by first | omega | (simp; done) | (simp; omega)) _ | refine Below.drew ?_))
  · exact RB.new' _ _ _ _ _ rfl _ _ (by simp) rfl
  · omega
  rintro e w' ⟨rfl, rfl⟩
  rw [crcKnown1]
  go_wp2_with fail
  refine (of_any _ _ _ [49, 50, 51, 52] _ ?_ ?_ ?_).mono ?_
  · exact HT.out.keep (by repeat (first | exact Below.refl _ _ | assumption | refine Below.alloc ?_ (by first | omega | (simp; done) | (simp; omega)) _ | refine Below.drew ?_))
  · exact RB.new' _ _ _ _ _ rfl _ _ (by simp) rfl
  · omega
  rintro e w' ⟨rfl, rfl⟩
  have hlt := crcMore_lt (v := 0) [49, 50, 51, 52] (by omega)
  have K2 := Lib.hid crcKnown2
  generalize crcMore 0 [49, 50, 51, 52] = s1 at *
  go_wp2_with fail
  refine (more_any _ _ _ [53, 54, 55, 56, 57] s1 _ ?_ ?_ ?_ hlt).mono ?_
  · exact HT.out.keep (by repeat (first | exact Below.refl _ _ | assumption | refine Below.alloc ?_ (by first | omega | (simp; done) | (simp; omega)) _ | refine Below.drew ?_))
  · exact RB.new' _ _ _ _ _ rfl _ _ (by simp) rfl
  · omega
  rintro e w' ⟨rfl, rfl⟩
  rw [K2.out]
  go_wp2_with fail
  refine (all_any _ _ _ [[49, 50], [], [51, 52, 53, 54, 55, 56, 57]] _ ?_ ?_ ?_ ?_).mono ?_
  · exact HT.out.keep (by repeat (first | exact Below.refl _ _ | assumption | refine Below.alloc ?_ (by first | omega | (simp; done) | (simp; omega)) _ | refine Below.drew ?_))
  · refine RR.new _ _ _ _ _ _ (by first | omega | (simp; done) | (simp; omega)) rfl fun j p hj => ?_
    match j, hj with
    | 0, hj => obtain rfl := Option.some.inj hj; exact ⟨_, _, by simp, rfl, (RB.new' _ _ _ _ _ rfl _ _ (by first | omega | (simp; done) | (simp; omega)) rfl).alloc _⟩
    | 1, hj => obtain rfl := Option.some.inj hj; exact ⟨_, _, by simp, rfl, RB.nil _ _⟩
    | 2, hj => obtain rfl := Option.some.inj hj; exact ⟨_, _, by simp, rfl, RB.new' _ _ _ _ _ rfl _ _ (by first | omega | (simp; done) | (simp; omega)) rfl⟩
    | j + 3, hj => simp at hj
  · omega
  · intro p hp; simp at hp; rcases hp with rfl | rfl | rfl <;> simp
  rintro e w' ⟨rfl, rfl⟩
  rw [crcKnown3]
  go_wp2_with fail
  go_ret
  exact ⟨rfl, (by repeat (first | exact Below.refl _ _ | assumption | refine Below.alloc ?_ (by first | omega | (simp; done) | (simp; omega)) _ | refine Below.drew ?_))⟩
end Go.Proofs.YtnnlbnonffjjiaaDoor
