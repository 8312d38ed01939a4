/- []byte(s) of a string that is no constant. -/
import Derived.Test.YthhbfjhgmdnpbaaDisk
import Derived.Lib.ConvBytes
namespace Go.Proofs.Ythhbfjhgmdnpbaa
open Go.RowKit
theorem below_bytes (w : World) (e : TypeId) (s : ByteArray) : Below w.heap.size w (Lib.bytesWorld w e s) :=
  ⟨rfl, rfl, rfl, by rw [Lib.bytesWorld_size]; omega, fun k hk => Lib.bytesWorld_at_old w e s k hk⟩
theorem rb_bytes (w : World) (s : ByteArray) : RB (Lib.bytesWorld w 5 s) (some ⟨w.heap.size, 0, none⟩) s.size s.data.toList := by
  refine ⟨rfl, fun hp => ⟨w.heap.size, 0, rfl, by rw [Lib.bytesWorld_size]; omega, fun j c hj => ?_⟩⟩
  have hl := (List.getElem?_eq_some_iff.1 hj).1
  have hl' : s.data.toList.length = s.size := rfl
  rw [Nat.zero_add, Lib.bytesWorld_cell w _ s j (by omega)]
  simp [List.getD_eq_getElem?_getD, hj, byteV]
theorem conv_str (w : World) (l : List UInt8) : ∃ w' b c, (convert 9 29 (.string (strB l))).run Try.prog w = .ok (.slice (some ⟨b, 0, none⟩) l.length c) w' ∧ Below w.heap.size w w' ∧ RB w' (some ⟨b, 0, none⟩) l.length l :=
  ⟨_, _, _, Lib.run_convert_string_bytes (P := Try.prog) w 9 29 5 (strB l) Try.underlying9 Try.underlying29 Try.underlying5, below_bytes _ _ _, rb_bytes w (strB l)⟩
end Go.Proofs.Ythhbfjhgmdnpbaa
