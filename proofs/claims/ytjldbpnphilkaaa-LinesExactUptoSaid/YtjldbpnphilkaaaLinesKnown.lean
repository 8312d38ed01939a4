/- THE WALK of heronlaw16.known; a maker of the call's own. -/
import Derived.Test.YtjldbpnphilkaaaLinesGet
import Derived.Lib.SmallJoins
import Derived.Laws.StructEq
namespace Go.Proofs.Ytjldbpnphilkaaa
open Go.RowKit
theorem MK.chg {S : Nat → Prop} {w w' : World} {g : Nat} {v : Value} {most long : Nat} {u : List UInt8} (h : MK w g v most u long) (hc : Chg S w w') (hg : ¬ S g) (hv : ∀ k, v.ownBlock = some k → ¬ S k) : MK w' g v most u long :=
  ⟨h.blk.chg hc hg, hc.ob h.own hv⟩
theorem RM.chg {S : Nat → Prop} {w w' : World} {g : Nat} {v : Value} {most long : Nat} {u : List UInt8} (h : RM w g v most u long) (hc : Chg S w w') (hg : ¬ S g) (hv : ∀ k, v.ownBlock = some k → ¬ S k) : RM w' g v most u long :=
  ⟨h.blk.chg hc hg, hc.ob h.own hv⟩
/-- a maker of the call's own: it lies above all that was there -/
structure MS (w0 W : World) (g : Nat) (v : Value) (most : Nat) (u : List UInt8) (long : Nat) : Prop where
  ob : MK W g v most u long
  below : Below w0.heap.size w0 W
  hg : w0.heap.size ≤ g
  hv : ∀ k, v.ownBlock = some k → w0.heap.size ≤ k
section
variable {w0 W W' : World} {g : Nat} {v v' : Value} {most long long' : Nat} {u u' : List UInt8}
theorem MS.step (h : MS w0 W g v most u long) (hm : MK W' g v' most u' long') (hc : Chg (ownF g v) W W') (hf : Fresh W v v') : MS w0 W' g v' most u' long' := by
  refine ⟨hm, h.below.trans (hc.below (fun k hk hs => ?_) h.below.size), h.hg, fun k hk => ?_⟩
  · rcases hs with hs | hs
    · have := h.hg; omega
    · have := h.hv k hs; omega
  · rcases hf k hk with h' | h'
    · exact h.hv k h'
    · have := h.below.size; omega
theorem MS.alloc (h : MS w0 W g v most u long) (o : Obj) : MS w0 (W.alloc o) g v most u long :=
  ⟨h.ob.chg ((Chg.refl (fun _ => False) W).alloc o) id (fun _ _ h => h), h.below.alloc h.below.size _, h.hg, h.hv⟩
theorem MS.drewN (h : MS w0 W g v most u long) (n : Nat) : MS w0 (W.drewN n) g v most u long := ⟨⟨h.ob.blk, h.ob.own⟩, below_drewN h.below n, h.hg, h.hv⟩
theorem MS.keep (h : MS w0 W g v most u long) (hb : Below W.heap.size W W') : MS w0 W' g v most u long :=
  ⟨h.ob.chg (Chg.of_below hb (fun _ => False)) id (fun _ _ h => h), h.below.trans (hb.mono h.below.size), h.hg, h.hv⟩
theorem MS.size (h : MS w0 W g v most u long) : w0.heap.size ≤ W.heap.size := h.below.size
end
def FeedMS (w0 : World) (g : Nat) (v : Value) (most long : Nat) (u b : List UInt8) (S : ByteArray) (N : Int) (B : Bool) (U : List UInt8) (L : Nat) (W : World) (e : Ending) (W' : World) : Prop :=
  strOf (feedS most u b) = S ∧ (feedN b : Int) = N ∧ feedW most u b = B ∧ feedU u b = U ∧ feedL most long u b = L → e = .returned (.tuple #[.string S, .int .i64 N, .bool B]) ∧ ∃ v', MS w0 W' g v' most U L ∧ Chg (ownF g v) W W' ∧ Fresh W v v'
theorem feed_ms {w0 : World} (g : Nat) (v : Value) (most long : Nat) (u : List UInt8) (A : Option Addr) (n cap : Nat) (b : List UInt8) (S : ByteArray) (N : Int) (B : Bool) (U : List UInt8) (L : Nat) (W : World) (hm : MS w0 W g v most u long) (hr : RB W A n b) (hncap : n ≤ cap) (hmost : most ≤ 4096) (hlen : u.length + n ≤ 140737488355328) (hlong : long ≤ 140737488355328) :
    Calls Try.prog 11 #[.pointer (some ⟨g, 0, none⟩), .slice A n cap] W (FeedMS w0 g v most long u b S N B U L W) := by
  refine (feed_any g v most long u A n cap b W hm.ob hr hncap hmost hlen hlong).mono ?_
  rintro e W' ⟨rfl, v', hm', hc, hf⟩ ⟨rfl, rfl, rfl, rfl, rfl⟩
  exact ⟨rfl, v', hm.step hm' hc hf, hc, hf⟩
theorem num_any (x : Int) (w : World) :
    Calls Try.prog 19 #[.int .i64 x] w fun e w' => e = .returned (.int .i64 x) ∧ w = w' := by
  go_enter Try.func19, Try.ntmps19
  go_wp2
  go_ret
  exact ⟨rfl, rfl⟩
set_option maxRecDepth 100000 in
set_option maxHeartbeats 4000000 in
theorem known_any (w : World) : Calls Try.prog 6 #[] w fun e w' => e = .returned (.bool true) ∧ Below w.heap.size w w' := by
  have kc := fun (w : World) (C : Array Value) (n c g : Nat) (hg : g = w.heap.size) => Joins.run_convert_bytes_const_at (P := Try.prog) w 34 5 C n c g hg Try.underlying34 Try.underlying5
  go_enter Try.func6, Try.ntmps6
  go_wp2_with fail
  refine (new_ok 3 w (by omega)).mono ?_
  intro e w1 hpost
  obtain ⟨g, hg, rfl, hm, hb, hsz⟩ := hpost
  have hs : MS w w1 g (.slice none 0 0) 3 [] 0 := ⟨hm, hb, by omega, fun k h => by simp [Value.ownBlock] at h⟩
  have HS := Lib.hid hs
  clear hs hm hb hsz hg
  (go_wp2_with fail; refine (num_any _ _).mono ?_; rintro e w' ⟨rfl, rfl⟩)
  go_wp2_with fail
  refine (feed_ms g _ 3 0 [] _ 2 2 [97, 98] ⟨#[]⟩ 2 false [97, 98] 0 _ (HS.out.alloc _) ?_ (by omega) (by omega) (by simp) (by omega)).mono ?_
  · exact RB.new' _ _ _ _ _ rfl _ _ (by first | omega | (simp; done) | (simp; omega)) rfl
  intro e w2 hpost
  obtain ⟨rfl, v2, hs2, _⟩ := hpost (by decide)
  have HS2 := Lib.hid hs2; clear hs2
  go_wp2_with fail
  refine (held_any g v2 3 0 [97, 98] _ HS2.out.ob).mono ?_
  rintro e w' ⟨rfl, rfl⟩
  rw [show (heldOf 3 [97, 98]).length = 2 from by decide]
  go_wp2_with fail
  refine (begun_any g v2 3 0 [97, 98] _ HS2.out.ob).mono ?_
  rintro e w' ⟨rfl, rfl⟩
  rw [show ([97, 98] : List UInt8).length = 2 from rfl]
  go_wp2_with fail
  refine (feed_ms g _ 3 0 [97, 98] _ 5 5 [99, 10, 100, 101, 10] ⟨#[97, 98, 99]⟩ 2 true [] 0 _ (HS2.out.alloc _) ?_ (by omega) (by omega) (by simp) (by omega)).mono ?_
  · exact RB.new' _ _ _ _ _ rfl _ _ (by first | omega | (simp; done) | (simp; omega)) rfl
  intro e w3 hpost
  obtain ⟨rfl, v3, hs3, _⟩ := hpost (by decide)
  have HS3 := Lib.hid hs3; clear hs3
  go_wp2_with fail
  refine (held_any g v3 3 0 [] _ HS3.out.ob).mono ?_
  rintro e w' ⟨rfl, rfl⟩
  rw [show (heldOf 3 []).length = 0 from by decide]
  go_wp2_with fail
  refine (feed_ms g _ 3 0 [] _ 4 4 [97, 98, 99, 100] ⟨#[]⟩ 4 false [97, 98, 99, 100] 0 _ (HS3.out.alloc _) ?_ (by omega) (by omega) (by simp) (by omega)).mono ?_
  · exact RB.new' _ _ _ _ _ rfl _ _ (by first | omega | (simp; done) | (simp; omega)) rfl
  intro e w4 hpost
  obtain ⟨rfl, v4, hs4, _⟩ := hpost (by decide)
  have HS4 := Lib.hid hs4; clear hs4
  go_wp2_with fail
  refine (held_any g v4 3 0 [97, 98, 99, 100] _ HS4.out.ob).mono ?_
  rintro e w' ⟨rfl, rfl⟩
  rw [show (heldOf 3 [97, 98, 99, 100]).length = 0 from by decide]
  go_wp2_with fail
  refine (begun_any g v4 3 0 [97, 98, 99, 100] _ HS4.out.ob).mono ?_
  rintro e w' ⟨rfl, rfl⟩
  rw [show ([97, 98, 99, 100] : List UInt8).length = 4 from rfl]
  go_wp2_with fail
  refine (feed_ms g _ 3 0 [97, 98, 99, 100] _ 3 3 [101, 10, 102] ⟨#[]⟩ 2 false [] 1 _ (HS4.out.alloc _) ?_ (by omega) (by omega) (by simp) (by omega)).mono ?_
  · exact RB.new' _ _ _ _ _ rfl _ _ (by first | omega | (simp; done) | (simp; omega)) rfl
  intro e w5 hpost
  obtain ⟨rfl, v5, hs5, _⟩ := hpost (by decide)
  have HS5 := Lib.hid hs5; clear hs5
  go_wp2_with fail
  refine (long_any g v5 3 1 [] _ HS5.out.ob).mono ?_
  rintro e w' ⟨rfl, rfl⟩
  go_wp2_with fail
  go_ret
  exact ⟨rfl, HS5.out.below⟩
end Go.Proofs.Ytjldbpnphilkaaa
