/- AN OPERATION of heronlaw17, and what a writer's one does. -/
import Derived.Test.YtlojmmcagglpoaaGreatUBigApp
import Derived.Test.YtlojmmcagglpoaaGreatUDisk
import Derived.Test.YtlojmmcagglpoaaGreatUFwLaw
import Derived.Test.YtlojmmcagglpoaaGreatURow
import Derived.Lib.ConvBytes
namespace Go.Proofs.YtlojmmcagglpoaaGreat
open Go.RowKit
theorem below_bytes (w : World) (e : TypeId) (s : ByteArray) : Below w.heap.size w (Lib.bytesWorld w e s) :=
  ⟨rfl, rfl, rfl, by rw [Lib.bytesWorld_size]; omega, fun k hk => Lib.bytesWorld_at_old w e s k hk⟩
theorem rb_bytes (w : World) (s : ByteArray) : RB (Lib.bytesWorld w 5 s) (some ⟨w.heap.size, 0, none⟩) s.size s.data.toList := by
  refine ⟨rfl, fun hp => ⟨w.heap.size, 0, rfl, by rw [Lib.bytesWorld_size]; omega, fun j c hj => ?_⟩⟩
  have hl := (List.getElem?_eq_some_iff.1 hj).1
  have hl' : s.data.toList.length = s.size := rfl
  rw [Nat.zero_add, Lib.bytesWorld_cell w _ s j (by omega)]
  simp [List.getD_eq_getElem?_getD, hj, byteV]
end Go.Proofs.YtlojmmcagglpoaaGreat
namespace Go.Proofs.YtlojmmcagglpoaaGreat
open Go.RowKit Go.Maps
section
variable {W : World} {N : Nat} {C : Nat → Nat} {c cd p n : Nat} {d : Dk}
theorem asks_dc (N : Nat) (C : Nat → Nat) (cd p n : Nat) (d : Dk) : Asks p (fun w => DC w N C cd p n d) d.sti d.ini d.read := by
  refine ⟨fun W nm h => ?_, fun W i hi h => ?_, fun W i g o s hi ho hs h => ?_⟩
  · refine (stat_g h nm).mono ?_
    rintro e w' ⟨rfl, hb⟩
    exact ⟨by rw [Dk.stat_sti]; rfl, hb⟩
  · refine (inode_c h i hi).mono ?_
    rintro e w' ⟨rfl, hb⟩
    exact ⟨by rw [Dk.inode_ini]; rfl, hb⟩
  · exact read_c h i g o s hi ho hs
theorem stay_dc (h : DC W N C cd p n d) (hc : cd ≠ c) : Stay W C c (fun w => DC w N C cd p n d) := fun _ hw => h.step hw (Sam.refl _ _) (fun _ hb e => hc (e.symm.trans hb))
end
end Go.Proofs.YtlojmmcagglpoaaGreat
namespace Go.Proofs.YtlojmmcagglpoaaGreat
open Go.RowKit Go.Maps
structure O17 where
  k : Int
  a : List UInt8
  b : List UInt8
  s : List UInt8
  A : Option Addr
  m : Nat
  cp : Nat
  ks : List Int
  n : Int
  mr : FwS
def oC17 (o : O17) : Array Value := #[.int .i64 o.k, .string (strB o.a), .string (strB o.b), .string (strB o.s), .slice o.A o.m o.cp, .int .i64 o.n, .int .i64 o.mr.se, .int .i64 o.mr.ino, .int .i64 o.mr.ge, .int .i64 o.mr.off, .int .i64 o.mr.mi, .int .i64 o.mr.go, .int .i64 o.mr.cu, .int .i64 o.mr.ta, .int .i64 o.mr.lo]
structure O17.In (W : World) (o : O17) : Prop where
  s : o.s.length ≤ 140737488351232
  r : RI W o.A o.m o.ks
  m : o.m * 8 ≤ 140737488355328
  n : okInt o.n
def DoesQ (W : World) (N : Nat) (C : Nat → Nat) (c p n : Nat) (d : Dk) (e : Ending) (w' : World) : Prop :=
  ∃ d', e = .returned (.tuple #[]) ∧ Mv d d' ∧ DC w' N (paint C W.heap.size c) c p (n + 2) d' ∧ Chg (fun b => C b = c) W w'
theorem infoI : (Tryz.prog.info? 3).map (fun i => (i.zero, i.size, i.bytes)) = some (some (.int .i64 0), 1, 8) := by kernel_rfl
theorem ri_of_row {w : World} {base : Nat} {A : Option Addr} {m cp : Nat} {ks : List Int} (hl : ks.length = m) (h : w.ownsRow base 3 1 (.slice A m cp) m (ks.map iV')) : RI w A m ks := by
  refine ⟨hl, fun hm => ?_⟩
  rcases h.2 with ⟨hv, hz⟩ | ⟨gb, cap', cur, hv, _, _⟩
  · omega
  · have hv' := hv
    injection hv with e1 _ _
    subst e1
    refine ⟨gb, 0, rfl, (h.lt gb rfl).2, fun j k hj => ?_⟩
    have h1 := World.ownsRow.cellAt h j (by have := (List.getElem?_eq_some_iff.1 hj).1; omega)
    rw [Nat.zero_add, h1, List.getElem?_map, hj]; rfl
end Go.Proofs.YtlojmmcagglpoaaGreat
