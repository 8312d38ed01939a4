/- The table of package crc, as the row lays it. -/
import Derived.Test.YtnglgppdkohhpaaDoorCrcWalk
namespace Go.Proofs.YtnglgppdkohhpaaDoor
open Go.RowKit
theorem CrcTab.of_laid {w : World} (h : ∀ k, k < 16 → w.cell? ⟨0, k, none⟩ = some (.int .u32 (([0, 498536548, 997073096, 651767980, 1994146192, 1802195444, 1303535960, 1342533948, 3988292384, 4027552580, 3604390888, 3412177804, 2607071920, 2262029012, 2685067896, 3183342108] : List Int).getD k 0))) : CrcTab w := by
  intro k hk
  rw [h k hk]
  congr 2
  have : ∀ k : Fin 16, ([0, 498536548, 997073096, 651767980, 1994146192, 1802195444, 1303535960, 1342533948, 3988292384, 4027552580, 3604390888, 3412177804, 2607071920, 2262029012, 2685067896, 3183342108] : List Int).getD k.1 0 = (crcHalf k.1 : Int) := by decide +kernel
  exact this ⟨k, hk⟩
end Go.Proofs.YtnglgppdkohhpaaDoor
