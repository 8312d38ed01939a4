/- THE WALKS of heronlaw01.roomy and kept, and of the reference's All. -/
import Derived.Test.YtnnlbnonffjjiaaDoorCrcRefWalk
import Derived.Test.YtnnlbnonffjjiaaDoorStr
import Derived.Deep.QuietTactic
import Derived.BigQuiet
namespace Go.Proofs.YtnnlbnonffjjiaaDoor
open Go.RowKit
def RoomPost (n : Nat) (b : List UInt8) (w : World) (e : Ending) (w' : World) : Prop := ∃ g c, e = .returned (.slice (some ⟨g, 0, none⟩) n c) ∧ Room w' w.heap.size g n c b ∧ Below w.heap.size w w'
set_option maxHeartbeats 1000000 in
theorem roomy_any (A : Option Addr) (n cap : Nat) (b : List UInt8) (w : World) (hb : RB w A n b) (hn : n ≤ 140737488351232) :
    Calls Tryd.prog 8 #[.slice A n cap] w (RoomPost n b w) := by
  have HB := Lib.hid hb; clear hb
  have R1 := Lib.hid (HB.out.alloc (.cells #[] 5))
  have O1 := Lib.hid (OB.fresh (w := w) (base := w.heap.size) rfl (Nat.le_refl _))
  have L1 : ([] : List UInt8).length + n ≤ 140737488355328 := by simp; omega
  go_enter Tryd.func8, Tryd.ntmps8
  go_wp2_with ((at_builtin; go_must (refine append_bytes rfl (.tmp 4) (.tmp 5) rfl w.heap.size (.slice (some ⟨w.heap.size, 0, none⟩) 0 0) [] rfl O1.out A n cap b rfl R1.out L1 (by simp) ?_); intro v2 w2 ho2 hg2 ha2; refine halt ?_))
  refine unhalt ?_
  have hb2 : Below w.heap.size w w2 := ((Below.refl _ _).alloc (Nat.le_refl _) _).grown hg2 (by simp) (fun j hj => by obtain rfl := Option.some.inj hj; exact Nat.le_refl _)
  rw [List.nil_append] at ho2
  have O2 := Lib.hid (ho2.keep ((Below.refl _ _).alloc (Nat.le_refl _) (.cells #[.int .u8 209, .int .u8 210] 5)))
  have R2 := Lib.hid (RB.new w2 5 (0, 0) #[.int .u8 209, .int .u8 210] [0xD1, 0xD2] rfl 2 rfl)
  have Z2 := hb2.size
  have hlb := HB.out.1
  have L2 : b.length + 2 ≤ 140737488355328 := by omega
  have hown := ho2.lt
  have HO := Lib.hid hown; clear hown
  clear R1 O1 L1 hg2 ha2 ho2 hlb
  go_wp2_with ((at_builtin; go_must (refine append_bytes rfl (.tmp 7) (.tmp 8) rfl w.heap.size v2 b rfl O2.out (some ⟨w2.heap.size, 0, none⟩) 2 2 [0xD1, 0xD2] rfl R2.out L2 (by simp; omega) ?_); intro v3 w3 ho3 hg3 ha3; refine halt ?_))
  refine unhalt ?_
  have hb3 : Below w.heap.size w w3 := (hb2.alloc Z2 _).grown hg3 (by simp; omega) (fun j hj => (HO.out j hj).1)
  have hlb := HB.out.1
  have hform : ∃ g c, v3 = .slice (some ⟨g, 0, none⟩) (n + 2) c ∧ n + 2 ≤ c := by
    rcases ho3.2 with ⟨_, h0⟩ | ⟨g, cap, cur, h, _, _, hc, _⟩
    · simp at h0
    · refine ⟨g, cap, ?_, ?_⟩
      · rw [h]; congr 1; simp; omega
      · simp at hc; omega
  obtain ⟨g, c, rfl, hgc⟩ := hform
  have hroom : Room w3 w.heap.size g n c b := ⟨hlb, hgc, ho3⟩
  have RM := Lib.hid hroom
  clear hroom ho3 hg3 ha3 R2 O2 HO L2 hlb
  go_wp2_with fail
  go_ret
  exact ⟨g, c, rfl, RM.out, hb3⟩

def KeptPost (w : World) (e : Ending) (w' : World) : Prop := e = .returned (.bool true) ∧ ∃ k, w' = w.drewN k
set_option maxHeartbeats 1000000 in
theorem kept_any (A : Option Addr) (base g n c cap : Nat) (b : List UInt8) (w : World) (hr : Room w base g n c b) (hb : RB w A n b) (hn : n ≤ 140737488351232) :
    Calls Tryd.prog 13 #[.slice (some ⟨g, 0, none⟩) n c, .slice A n cap] w (KeptPost w) := by
  have hc1 : ∀ m, (convert 22 9 (.slice (some ⟨g, 0, none⟩) n c)).run Tryd.prog (w.drewN m) = .ok (.string (strOf b)) (w.drewN m) := fun m => conv_bytes _ _ _ _ _ (hr.read.drewN m)
  have hc2 : ∀ m, (convert 22 9 (.slice A n cap)).run Tryd.prog (w.drewN m) = .ok (.string (strOf b)) (w.drewN m) := fun m => conv_bytes _ _ _ _ _ (hb.drewN m)
  have hgc : n + 2 ≤ c := hr.2.1
  have hl := hr.1
  have e1 : w.cell? ⟨g, n, none⟩ = some (.int .u8 209) := by
    have := hr.2.2.cellAt (j := n) (c := 0xD1) (by rw [List.getElem?_append_right (by omega), hl, Nat.sub_self]; rfl)
    exact this
  have e2 : w.cell? ⟨g, n + 1, none⟩ = some (.int .u8 210) := by
    have := hr.2.2.cellAt (j := n + 1) (c := 0xD2) (by rw [List.getElem?_append_right (by omega), hl, show n + 1 - n = 1 from by omega]; rfl)
    exact this
  clear hr hb hl
  generalize strOf b = s at *
  go_enter Tryd.func13, Tryd.ntmps13
  go_wp2_with fail
  go_quiet (fail)
  go_wp2_with fail
  go_ret
  exact ⟨rfl, _, rfl⟩
theorem refOf_any (A : Option Addr) (n cap : Nat) (l : List UInt8) (w : World) (hl : RB w A n l) (hn : n ≤ 281474976710656) :
    Calls Tryd.prog 11 #[.slice A n cap] w fun e w' => e = .returned (.int .u32 (crcMoreR 0 l : Int)) ∧ w = w' := by
  have HL := Lib.hid hl; clear hl
  go_enter Tryd.func11, Tryd.ntmps11
  go_wp2_with fail
  refine (refMore_any _ _ _ l 0 _ HL.out hn (by omega)).mono ?_
  rintro e w' ⟨rfl, rfl⟩
  go_wp2_with fail
  go_ret
  exact ⟨rfl, rfl⟩
set_option maxHeartbeats 1000000 in
theorem refAll_any (A : Option Addr) (n cap : Nat) (ps : List (List UInt8)) (w : World) (hr : RR w A n ps) (hn : n ≤ 1048576) (hsum : (ps.map List.length).sum ≤ 1048576) :
    Calls Tryd.prog 15 #[.slice A n cap] w fun e w' => e = .returned (.int .u32 (crcMoreR 0 ps.flatten : Int)) ∧ Below w.heap.size w w' := by
  have HR := Lib.hid hr; clear hr
  have HS := Lib.hid hsum; clear hsum
  go_enter Tryd.func15, Tryd.ntmps15
  go_wp2_with fail
  go_loopw [3, 4] (fun v i W => ∃ k : Nat, k ≤ n ∧ i = .int .i64 k ∧ OB W w.heap.size v (ps.take k).flatten ∧ Below w.heap.size w W) (fun _ i _ => n - (intOf i).toNat)
  case atStart => exact ⟨0, Nat.zero_le _, rfl, OB.nil _ _, Below.refl _ _⟩
  case round =>
    obtain ⟨k, hk, rfl, ho, hb2⟩ := hrel
    have HO := Lib.hid ho; clear ho
    by_cases hlt : k < n
    · obtain ⟨b, off, rfl, hb, p, A', c', hc, hpc, hcell, hp⟩ := HR.out.at_ hlt
      rw [← hb2.cell (p := ⟨b, off + k, none⟩) hb] at hcell
      have HF := Lib.hid (flat_take ps k)
      have hpl := le_sum ps (List.mem_of_getElem? hc)
      have HC := Lib.hid hc; clear hc
      have HQ := Lib.hid (hp.keep hb2); clear hp
      have hL : (ps.take k).flatten.length + p.length ≤ 140737488355328 := by have := HF.out; have := HS.out; omega
      clear hpl
      go_wp2_with ((at_builtin; go_must (refine append_bytes rfl (.tmp 11) (.tmp 15) rfl w.heap.size u3 _ rfl HO.out A' p.length c' p rfl HQ.out hL hb2.size ?_); intro v2 w2 ho2 hg2 ha2; refine halt ?_))
      refine unhalt ?_
      have hb3 : Below w.heap.size w w2 := hb2.grown hg2 hb2.size (fun j hj => (HO.out.lt j hj).1)
      clear HQ hL HO hg2 ha2 hcell hb2
      rw [← flat_snoc HC.out] at ho2
      have O2 := Lib.hid ho2; clear ho2
      go_wp2_with fail
      go_roundw
      case rel => exact ⟨k + 1, by omega, by go_num, O2.out, hb3⟩
      case measure => simp [intOf]; omega
    · obtain rfl : k = n := by omega
      have hfl : (ps.take k).flatten = ps.flatten := by rw [List.take_of_length_le (by have := HR.out.1; omega)]
      have hflen : ps.flatten.length ≤ 1048576 := by have := flat_take ps k; rw [hfl] at this; have := HS.out; omega
      rw [hfl] at HO
      clear hfl
      obtain ⟨D, dc, rfl, hdc, hdm, hr2⟩ := HO.out.form
      have R2 := Lib.hid hr2; clear hr2
      obtain ⟨l, hl⟩ : ∃ l, l = ps.flatten := ⟨_, rfl⟩
      rw [← hl] at R2 hdc hflen HO
      rw [← hl]
      have HLL := Lib.hid hl; clear hl
      go_wp2_with fail
      refine (refOf_any _ _ _ l _ R2.out (by omega)).mono ?_
      rintro e w' ⟨rfl, rfl⟩
      go_wp2_with fail
      go_ret
      rw [← HLL.out]
      exact ⟨rfl, hb2⟩
end Go.Proofs.YtnnlbnonffjjiaaDoor
