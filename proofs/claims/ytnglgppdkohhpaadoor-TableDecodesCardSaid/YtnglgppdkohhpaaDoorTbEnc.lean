/- THE WALK of table.Encode. -/
import Derived.Test.YtnglgppdkohhpaaDoorTbMath
import Derived.Test.YtnglgppdkohhpaaDoorRecWalk
import Derived.Test.YtnglgppdkohhpaaDoorCrcWalk
import Derived.Laws.MakeOwn
namespace Go.Proofs.YtnglgppdkohhpaaDoor
open Go.RowKit
theorem CrcTab.keep {w w' : World} (h : CrcTab w) (hb : Below w.heap.size w w') : CrcTab w' := fun k hk => cell_later hb (h k hk)
theorem OB.rb {w : World} {base n cap : Nat} {A : Option Addr} {l : List UInt8} (h : OB w base (.slice A n cap) l) : RB w A n l := by
  obtain ⟨A', c', e, _, _, hr⟩ := h.form
  injection e with e1 e2 e3
  subst e1; subst e2; exact hr
/-- while a table is laid: the variable that holds the bytes; the table's own box -/
structure ES (w W : World) (h b : Nat) (cs : Array Value) (t : Tb) (l : List UInt8) : Prop where
  ex : ∃ v, Blk W h 28 #[v] ∧ OB W w.heap.size v l
  dx : DX W b cs t
  bl : Below w.heap.size w W
  lo : w.heap.size ≤ h ∧ w.heap.size ≤ b ∧ h ≠ b
theorem ES.keep {w W W' : World} {h b : Nat} {cs : Array Value} {t : Tb} {l : List UInt8} (s : ES w W h b cs t l) (hb : Below W.heap.size W W') : ES w W' h b cs t l := by
  obtain ⟨⟨v, h1, h2⟩, h3, h4, h5⟩ := s
  exact ⟨⟨v, h1.keep hb, h2.keep hb⟩, h3.keep hb, h4.trans (hb.mono h4.size), h5⟩
def LayQ (w : World) (h b : Nat) (cs : Array Value) (t : Tb) (l : List UInt8) (e : Ending) (w' : World) : Prop := e = .returned (.tuple #[]) ∧ ES w w' h b cs t l
set_option maxHeartbeats 2000000 in
theorem layc_any (w W : World) (h b : Nat) (cs : Array Value) (t : Tb) (l : List UInt8) (x n : Nat) (htb : TB w cs t) (s : ES w W h b cs t l) (h1 : 1 ≤ n) (h8 : n ≤ 8) (hx : x < 256 ^ n) (hlen : l.length ≤ 4194304) :
    Calls Tryd.prog 26 #[.int .u64 (x : Int), .int .i64 (n : Int), .pointer (some ⟨h, 0, none⟩)] W (LayQ w h b cs t (l ++ leB x n)) := by
  have CN := Lib.hid (fun w' => num_ok x n w' h1 h8 hx)
  have S := Lib.hid s
  have HTB := Lib.hid htb
  clear s hx htb
  go_enter Tryd.func26, Tryd.ntmps26
  go_wp2_with fail
  refine (CN.out _).mono ?_
  rintro e w2 ⟨g, rfl, hg, ho2, hb2⟩
  have S2 := Lib.hid (S.out.keep hb2)
  have R2 := Lib.hid ho2.rb
  clear ho2 hb2 hg S CN
  obtain ⟨⟨v, hv1, hv2⟩, hdx, hbl, hlo⟩ := S2.out
  have c0 : w2.cell? ⟨h, 0, none⟩ = some v := hv1.cell 0
  have f0 := hv1.frozen 0
  have V1 := Lib.hid hv1; have V2 := Lib.hid hv2; have DXX := Lib.hid hdx; have BL := Lib.hid hbl; have LO := Lib.hid hlo
  have hap : v.ownBlock ≠ some h := hv1.apart hv2 (by decide)
  have hap2 : v.ownBlock ≠ some b := hdx.blk.apart hv2 (by decide)
  have HAP := Lib.hid (And.intro hap hap2)
  have hls : w.heap.size ≤ w2.heap.size := hbl.size
  have HL := Lib.hid (show l.length + n ≤ 140737488355328 from by omega)
  clear hv1 hv2 hdx hbl hlo hap hap2 S2
  go_wp2_with ((at_builtin; go_must (refine append_bytes rfl (.tmp 13) (.tmp 14) rfl w.heap.size v l rfl V2.out (some ⟨g, 0, none⟩) n n (leB x n) rfl R2.out HL.out hls ?_); intro v3 w3 ho3 hg3 ha3; obtain ⟨A3, cp3, rfl, _, _, _⟩ := ho3.form; obtain ⟨L3, hL3⟩ : ∃ L3, L3 = (l ++ leB x n).length := ⟨_, rfl⟩; rw [← hL3] at ho3 ⊢; clear hL3; have V3 := Lib.hid (V1.out.grown hg3 (HAP.out.1)); have D3 : Hid (Blk w3 b 26 cs) := Lib.hid (DXX.out.blk.grown hg3 HAP.out.2); have B3 : Hid (Below w.heap.size w w3) := Lib.hid (BL.out.trans ((Chg.of_below (Below.refl _ _) (fun k => v.ownBlock = some k)).grown hg3 (fun k hk _ => hk) |>.below (fun k hk e => by have := (V2.out.lt k e).1; omega) BL.out.size)); have O3 := Lib.hid ho3; clear ho3 hg3 ha3 c0 f0; have f3 := V3.out.frozen 0; have c3 : w3.cell? ⟨h, 0, none⟩ = some v := V3.out.cell 0))
  go_end0
  have hap3 : (Value.slice A3 L3 cp3).ownBlock ≠ some h := V3.out.apart O3.out (by decide)
  have hcs : Chg (fun k => k = h) w3 (w3.setCell ⟨h, 0, none⟩ (.slice A3 L3 cp3)) := Chg.setCell (S := fun k => k = h) (p := ⟨h, 0, none⟩) (Chg.refl _ w3) (.inl rfl) _
  have hB : Below w.heap.size w (w3.setCell ⟨h, 0, none⟩ (.slice A3 L3 cp3)) := B3.out.trans (hcs.below (fun k hk e => by have := LO.out.1; omega) B3.out.size)
  refine ⟨rfl, ⟨.slice A3 L3 cp3, V3.out.set_ 0 _, hcs.own O3.out (fun k hk e => hap3 (by rw [hk, e]))⟩, ⟨D3.out.chg hcs (fun e => LO.out.2.2 e.symm), HTB.out.keep hB⟩, hB, LO.out⟩
end Go.Proofs.YtnglgppdkohhpaaDoor
