/- THE WALK of package rec's Text. -/
import Derived.Test.YtngaohmfedoeeaaRecWalk
namespace Go.Proofs.Ytngaohmfedoeeaa
open Go.RowKit
def TextPost (l : List UInt8) (w : World) (e : Ending) (w' : World) : Prop :=
  ∃ v, e = .returned v ∧ OB w' w.heap.size v l ∧ Below w.heap.size w w'
theorem text_any (s : ByteArray) (w : World) (hs : s.size ≤ 140737488351232) :
    Calls Try.prog 13 #[.string s] w (TextPost (textB s.data.toList) w) := by
  go_enter Try.func13, Try.ntmps13
  go_wp2_with fail
  refine (bytes_any s.size 4 _ (by omega)).mono ?_
  intro e w2 hpost
  obtain ⟨g, rfl, hg, hob, hb⟩ := hpost
  have HO := Lib.hid hob; clear hob
  have HL : (leB s.size 4).length + s.size ≤ 140737488355328 := by rw [leB_length]; omega
  have H4 := Lib.hid HL; clear HL
  go_wp2_with ((at_builtin; go_must (refine append_str rfl (.tmp 6) (.tmp 7) rfl w.heap.size _ (leB s.size 4) rfl HO.out s rfl H4.out hb.size ?_); intro v3 w3 ho3 hg3; refine halt ?_))
  refine unhalt ?_
  have HP : TextPost (textB s.data.toList) w (.returned v3) w3 := ⟨v3, rfl, by unfold textB; exact ho3, hb.grown hg3 hb.size (fun k hk => by obtain rfl := Option.some.inj hk; exact hg)⟩
  have HQ := Lib.hid HP; clear HP ho3 hg3
  go_wp2_with fail
  go_ret
  exact HQ.out
end Go.Proofs.Ytngaohmfedoeeaa
