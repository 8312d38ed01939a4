/- THE WALKS of the document's reader (heronref02). -/
import Derived.Test.YtngaohmfedoeeaaRecRef
namespace Go.Proofs.Ytngaohmfedoeeaa
open Go.RowKit
/-- the document's reader: the bytes b, and where it stands -/
structure XF (w : World) (r : Nat) (B : Option Addr) (n cb : Nat) (b : List UInt8) (t : Nat) : Prop where
  blk : Blk w r 68 #[.slice B n cb, .int .i64 (t : Int)]
  rd : RB w B n b
  hc : n ≤ cb
  ht : t ≤ n
  hn : n ≤ 140737488355328
  hB : (B = none ∧ cb = 0) ∨ ∃ bb, B = some ⟨bb, 0, none⟩
theorem XF.chg {S : Nat → Prop} {w w' : World} {r n cb t : Nat} {B : Option Addr} {b : List UInt8} (h : XF w r B n cb b t) (hc : Chg S w w') (hr : ¬ S r) (hB : 0 < n → ∀ ad, B = some ad → ¬ S ad.block) : XF w' r B n cb b t :=
  ⟨h.blk.chg hc hr, hc.rb h.rd hB, h.hc, h.ht, h.hn, h.hB⟩
def RefRead (l : List UInt8) (w : World) (e : Ending) (w' : World) : Prop :=
  ∃ r B cb, e = .returned (.pointer (some ⟨r, 0, none⟩)) ∧ w.heap.size ≤ r ∧ XF w' r B l.length cb l 0 ∧ OB w' w.heap.size (.slice B l.length cb) l ∧ Below w.heap.size w w'
theorem refread_any (A : Option Addr) (n cap : Nat) (l : List UInt8) (w : World) (hr : RB w A n l) (hn : n ≤ 1000000000) :
    Calls Try.prog 8 #[.slice A n cap] w (RefRead l w) := by
  have hal : Below w.heap.size w (w.alloc (.cells #[.slice none 0 0, .int .i64 0] 68)) := (Below.refl _ _).alloc (Nat.le_refl _) _
  have R1 := Lib.hid (hr.alloc (.cells #[.slice none 0 0, .int .i64 0] 68))
  have K1 : Hid (Blk (w.alloc (.cells #[.slice none 0 0, .int .i64 0] 68)) w.heap.size 68 #[.slice none 0 0, .int .i64 0]) := Lib.hid (Blk.new _ _ _ rfl)
  have B1 := Lib.hid hal
  have HL := Lib.hid hr.1
  clear hal hr
  go_enter Try.func8, Try.ntmps8
  go_upto_region 2 with fail
  obtain ⟨w1, hw1⟩ : ∃ w1, w1 = w.alloc (.cells #[.slice none 0 0, .int .i64 0] 68) := ⟨_, rfl⟩
  obtain ⟨r, hr⟩ : ∃ r, r = w.heap.size := ⟨_, rfl⟩
  rw [← hw1] at R1 K1 B1 ⊢
  rw [← hr] at K1 ⊢
  have HR := Lib.hid hr
  clear hw1 hr
  have c0 : w1.cell? ⟨r, 0, none⟩ = some (.slice none 0 0) := K1.out.cell 0
  have hsz := B1.out.size
  go_wp2_with ((at_builtin; go_must (refine append_bytes rfl (.tmp 10) (.tmp 11) rfl w.heap.size (.slice none 0 0) [] rfl (OB.nil _ _) A n cap l rfl R1.out (by simp; omega) hsz ?_); intro v2 w2 ho2 hg2 ha2; refine halt ?_))
  refine unhalt ?_
  rw [List.nil_append] at ho2
  have K2 := Lib.hid (K1.out.grown hg2 (by intro e; cases e))
  have B2 : Hid (Below w.heap.size w w2) := Lib.hid (B1.out.grown hg2 hsz (fun j hj => by cases hj))
  have O2 := Lib.hid ho2
  obtain ⟨B, cb, rfl, hc1, hc2, hr2⟩ := ho2.form
  have c1 : w2.cell? ⟨r, 0, none⟩ = some (.slice none 0 0) := K2.out.cell 0
  have f1 := K2.out.frozen 0
  have HF : Hid (RefRead l w (.returned (.pointer (some ⟨r, 0, none⟩))) (w2.setCell ⟨r, 0, none⟩ (.slice B l.length cb))) := Lib.hid (by
    have hne : Value.ownBlock (.slice B l.length cb) ≠ some r := K2.out.apart O2.out (by decide)
    have O3 := O2.out.set_far (p := ⟨r, 0, none⟩) hne (.slice B l.length cb)
    obtain ⟨B', cb', e, _, _, hr3⟩ := O3.form
    injection e with e1 _ e3
    subst e1 e3
    refine ⟨r, B, cb, rfl, by rw [HR.out]; exact Nat.le_refl _, ⟨?_, hr3, hc1, Nat.zero_le _, by have := HL.out; omega, by
      rcases O3.2 with ⟨e, _⟩ | ⟨bb, _, _, e, _⟩
      · injection e with e1 _ e3; exact .inl ⟨e1, e3⟩
      · injection e with e1 _ _; exact .inr ⟨bb, e1⟩⟩, O3, B2.out.setCell (p := ⟨r, 0, none⟩) (by show w.heap.size ≤ r; rw [HR.out]; exact Nat.le_refl _) _⟩
    have := K2.out.set_ 0 (.slice B l.length cb)
    simpa using this)
  clear ho2 hg2 ha2 hr2 K2 B2 O2 R1 K1 B1 c0
  go_wp2_with fail
  go_ret
  exact HF.out
theorem refleft_any (r : Nat) (B : Option Addr) (n cb t : Nat) (b : List UInt8) (w : World) (h : XF w r B n cb b t) :
    Calls Try.prog 21 #[.pointer (some ⟨r, 0, none⟩)] w fun e w' => e = .returned (.int .i64 ((n - t : Nat) : Int)) ∧ ∃ k, w' = w.drewN k := by
  have c0 : w.cell? ⟨r, 0, none⟩ = some (.slice B n cb) := h.blk.cell 0
  have c1 : w.cell? ⟨r, 1, none⟩ = some (.int .i64 (t : Int)) := h.blk.cell 1
  have ht := h.ht
  have hn := h.hn
  obtain ⟨m, hm⟩ : ∃ m, m = n - t := ⟨_, rfl⟩
  have hmI : (n : Int) - (t : Int) = (m : Int) := by omega
  have q1 : IntKind.i64.wrap ((n : Int) - (t : Int)) = (m : Int) := by rw [hmI]; exact IntWalk.i64_in _ (by omega)
  rw [← hm]
  clear h hm
  go_enter Try.func21, Try.ntmps21
  go_wp2_with fail
  go_quiet (fail)
  go_wp2_with fail
  go_ret
  exact ⟨by simp, nq, rfl⟩
theorem value_ok (A : Option Addr) (m c : Nat) (l : List UInt8) (w : World) (h : RB w A m l) (hm : m ≤ 8) :
    Calls Try.prog 32 #[.slice A m c] w fun e w' => e = .returned (.int .u64 (leV l : Int)) ∧ ∃ k, w' = w.drewN k := by
  have H := Lib.hid h
  clear h
  have PW : Hid (∀ (k : Nat) (w : World), k < 8 → ∃ p : Nat, Hid (p = 256 ^ k) ∧ p ≤ 72057594037927936 ∧ ∀ t, Calls Try.prog 29 #[.int .i64 (k : Int)] (w.drewN t) fun e w' => e = .returned (.int .u64 (p : Int)) ∧ w.drewN t = w') := Lib.hid (fun k w hk =>
    ⟨256 ^ k, Lib.hid rfl, pow_le7 hk, fun t => power_any k _ _ hk rfl⟩)
  go_enter Try.func32, Try.ntmps32
  go_wp2_with fail
  go_loopw [3, 4] (fun v iv W => ∃ j : Nat, j ≤ m ∧ iv = .int .i64 (j : Int) ∧ (∃ u : Nat, Hid (u = leV (l.take j)) ∧ v = .int .u64 (u : Int)) ∧ ∃ k, W = w.drewN k) (fun _ iv _ => m - (intOf iv).toNat)
  case atStart => exact ⟨0, Nat.zero_le _, rfl, ⟨0, Lib.hid rfl, rfl⟩, 0, rfl⟩
  case round =>
    obtain ⟨j, hj, rfl, ⟨u, HU, rfl⟩, k, hwr⟩ := hrel
    have hrb : RB wr A m l := by rw [hwr]; exact H.out.drewN k
    have HWR := Lib.hid hwr
    clear hwr
    by_cases hlt : j < m
    · obtain ⟨b, off, rfl, hb, c', hc, hcell⟩ := hrb.at_ hlt
      obtain ⟨p, HP, hp2, CP⟩ := PW.out j wr (by omega)
      have hcl : c'.toNat < 256 := c'.toNat_lt
      have hl := H.out.1
      have hul : u < 256 ^ j := by
        have := leV_lt (l.take j)
        rw [List.length_take, Nat.min_eq_left (by omega)] at this
        rw [HU.out]; exact this
      have hst : leV (l.take (j + 1)) = u + c'.toNat * p := by
        rw [take_snoc hc, leV_snoc, HU.out, List.length_take, Nat.min_eq_left (by omega), HP.out]
      have hb1 : c'.toNat * p < 18446744073709551616 := by rw [HP.out]; exact byte_pow hcl (by omega)
      have hb2 : u + c'.toNat * p < 18446744073709551616 := by rw [← hst]; exact leV_take l _ (by omega)
      have q1 : IntKind.u64.wrap ((c'.toNat : Int) * (p : Int)) = ((c'.toNat * p : Nat) : Int) := by rw [IntWalk.u64_in _ (by rw [← Int.natCast_mul]; omega)]; simp
      obtain ⟨x, hx⟩ : ∃ x, x = c'.toNat * p := ⟨_, rfl⟩
      rw [← hx] at hst hb1 hb2 q1
      have q2 : IntKind.u64.wrap ((u : Int) + (x : Int)) = ((u + x : Nat) : Int) := by rw [IntWalk.u64_in _ (by omega)]; simp
      have hxI : (c'.toNat : Int) * (p : Int) = (x : Int) := by rw [hx]; simp
      have HS : Hid (u + x = leV (l.take (j + 1))) := Lib.hid hst.symm
      have CPH := Lib.hid CP
      clear hst hx hul hrb CP hc
      go_wp2_with fail
      go_quiet (with_reducible exact quiet (CPH.out _))
      go_wp2_with fail
      go_roundw
      first
        | (case rel => exact ⟨j + 1, by omega, by go_num, ⟨u + x, HS, by simp⟩, _, by rw [HWR.out, World.drewN_drewN]⟩)
        | (case rel => (repeat apply Exists.intro); exact ⟨⟨j + 1, by omega, by go_num, ⟨u + x, HS, by simp⟩, _, by rw [HWR.out, World.drewN_drewN]⟩, rfl⟩)
      case measure => simp [intOf]; omega
    · obtain rfl : j = m := by omega
      have he : u = leV l := by rw [HU.out, List.take_of_length_le (by have := H.out.1; omega)]
      have HF : Hid ((u : Int) = (leV l : Int)) := Lib.hid (by rw [he])
      clear he hrb
      go_wp2_with fail
      go_ret
      exact ⟨by rw [← HF.out]; rfl, k, HWR.out⟩
end Go.Proofs.Ytngaohmfedoeeaa
