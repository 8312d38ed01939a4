/- THE WALK of the disk's of. -/
import Derived.Test.YtlojmmcagglpoaaZDisk
import Derived.Deep.DeepMust
import Derived.OwnWalk
import Derived.WalkSpells
import Derived.Carry
import Derived.Deep.WholeRow
namespace Go.Proofs.Ytlojmmcagglpoaa
open Go.RowKit Go.Maps
def emptyD : Dk := ⟨fun _ => none, fun _ => none, fun _ => none, 0⟩
theorem zero_disk : (Try.prog.info? 94).map (fun i => (i.zero, i.size)) = some (some (.agg #[.map none, .map none, .map none, .int .i64 0]), 4) := by kernel_rfl
theorem zero_disk_run (w : World) : (zeroValue 94).run Try.prog w = .ok (.agg #[.map none, .map none, .map none, .int .i64 0]) w := (zero_of_info zero_disk).1 w
def NewD (w : World) (e : Ending) (w' : World) : Prop :=
  ∃ p bf bn bs, e = .returned (.pointer (some ⟨p, 0, none⟩)) ∧ DW w' w.heap.size p 0 emptyD bf bn bs (fun _ => none) ∧ Below w.heap.size w w'
set_option maxRecDepth 20000 in
theorem new_any (w : World) : Calls Try.prog 9 #[] w (NewD w) := by
  have hmm := @run_makeMap Try.prog
  have hz := zero_disk_run
  go_enter Try.func9, Try.ntmps9
  go_wp2_with fail
  go_ret
  have b1 : Below w.heap.size w (w.alloc (.map #[] 0)) := (Below.refl _ _).alloc (Nat.le_refl _) _
  have b2 : Below w.heap.size w ((w.alloc (.map #[] 0)).alloc (.map #[] 0)) := b1.alloc (by simp) _
  have b3 : Below w.heap.size w (((w.alloc (.map #[] 0)).alloc (.map #[] 0)).alloc (.map #[] 0)) := b2.alloc (by simp; omega) _
  have k1 : ∀ (W : World) (o : Obj), Below W.heap.size W (W.alloc o) := fun W o => (Below.refl _ _).alloc (Nat.le_refl _) _
  have m1 := FM.made w Try.prog 3 iL pD ptrE
  have m2 := FM.made (w.alloc (.map #[] 0)) Try.prog 9 sL iD (plainElem Try.prog 3)
  have m3 := FM.made ((w.alloc (.map #[] 0)).alloc (.map #[] 0)) Try.prog 9 sL iD (plainElem Try.prog 3)
  refine ⟨_, w.heap.size, w.heap.size + 1, w.heap.size + 1 + 1, rfl, ⟨Blk.new _ _ _ (by simp), ((m1.keep (k1 _ _)).keep (k1 _ _)).keep (k1 _ _), ?_, ?_, by omega, fun i => rfl, fun i g x h => (by cases h), fun i j g h => (by cases h), fun i j g g' k h => (by cases h)⟩, b3.alloc (by simp; omega) _⟩
  · have e : (w.alloc (.map #[] 0)).heap.size = w.heap.size + 1 := by simp
    rw [e] at m2
    exact (m2.keep (k1 _ _)).keep (k1 _ _)
  · have e : ((w.alloc (.map #[] 0)).alloc (.map #[] 0)).heap.size = w.heap.size + 1 + 1 := by simp
    rw [e] at m3
    exact m3.keep (k1 _ _)
end Go.Proofs.Ytlojmmcagglpoaa
namespace Go.Proofs.Ytlojmmcagglpoaa
open Go.RowKit Go.Maps
theorem zero_int (w : World) : (zeroValue 3).run Try.prog w = .ok (.int .i64 0) w := by kernel_rfl
theorem zero_fptr (w : World) : (zeroValue 111).run Try.prog w = .ok (.pointer none) w := by kernel_rfl
/-- what simfs.may answers -/
def MayC (nm : List UInt8) (b : Bool) : Prop := ∀ W : World, Calls Try.prog 39 #[.string (strB nm)] W fun e w' => e = .returned (.bool b) ∧ Below W.heap.size W w'
section
variable {W W' : World} {N p q : Nat} {d : Dk} {bf bn bs : Nat} {fl : Int → Option Nat}
theorem bytesAt.back {g k : Nat} {h : Nat} (hg : g < h) (hW : Below h W W') (hb : bytesAt W' g k) : bytesAt W g k := by
  obtain ⟨v, h1, h2⟩ := hb
  exact ⟨v, by rw [← h1]; exact (World.cell?_of_block (hW.block g hg)).symm, h2⟩
theorem FW.lt {g : Nat} {x : Fl} (h : FW W N g x) : g < W.heap.size := by
  obtain ⟨v, h1, _⟩ := h
  exact h1.lt
theorem FW.keep {g : Nat} {x : Fl} (h : FW W N g x) (hb : Below W.heap.size W W') : FW W' N g x := by
  obtain ⟨v, h1, h2⟩ := h
  exact ⟨v, h1.keep hb, h2.keep hb⟩
theorem DW.at_ (h : DW W N p q d bf bn bs fl) {i : Int} {g : Nat} (hg : fl i = some g) : ∃ x, d.fs i = some x ∧ N ≤ g ∧ FW W N g x := by
  have := h.hf i
  rw [hg] at this
  obtain ⟨x, hx⟩ := Option.isSome_iff_exists.1 this.symm
  exact ⟨x, hx, h.fw i g x hg hx⟩
theorem DW.keep (h : DW W N p q d bf bn bs fl) (hb : Below W.heap.size W W') : DW W' N p q d bf bn bs fl := by
  refine ⟨h.bd.keep hb, h.mf.keep hb, h.mn.keep hb, h.ms.keep hb, h.lo, h.hf, fun i g x hg hx => ⟨(h.fw i g x hg hx).1, (h.fw i g x hg hx).2.keep hb⟩, h.ap, fun i j g g' k hi hj h1 h2 => ?_⟩
  obtain ⟨x, _, _, hx⟩ := h.at_ hi
  obtain ⟨y, _, _, hy⟩ := h.at_ hj
  exact h.ab i j g g' k hi hj (h1.back hx.lt hb) (h2.back hy.lt hb)
/-- where the files' bytes lie behind a call: where they lay, or in new memory -/
def Gr (W : World) (fl : Int → Option Nat) (w' : World) (fl' : Int → Option Nat) : Prop :=
  ∀ i g, fl' i = some g → (fl i = some g ∧ ∀ k, bytesAt w' g k → bytesAt W g k ∨ W.heap.size ≤ k) ∨ (W.heap.size ≤ g ∧ ∀ k, bytesAt w' g k → W.heap.size ≤ k)
theorem Gr.trans {w1 w2 : World} {fl1 fl2 : Int → Option Nat} (h : Gr W fl w1 fl1) (h2 : Gr w1 fl1 w2 fl2) (hs : W.heap.size ≤ w1.heap.size) : Gr W fl w2 fl2 := fun i g hg => by
  rcases h2 i g hg with ⟨h3, h4⟩ | ⟨h3, h4⟩
  · rcases h i g h3 with ⟨h5, h6⟩ | ⟨h5, h6⟩
    · refine .inl ⟨h5, fun k hk => ?_⟩
      rcases h4 k hk with h7 | h7
      · exact h6 k h7
      · exact .inr (Nat.le_trans hs h7)
    · refine .inr ⟨h5, fun k hk => ?_⟩
      rcases h4 k hk with h7 | h7
      · exact h6 k h7
      · exact Nat.le_trans hs h7
  · exact .inr ⟨Nat.le_trans hs h3, fun k hk => Nat.le_trans hs (h4 k hk)⟩
theorem DW.gr_keep (h : DW W N p q d bf bn bs fl) (hb : Below W.heap.size W W') : Gr W fl W' fl := fun i g hg => by
  obtain ⟨x, _, _, hx⟩ := h.at_ hg
  exact .inl ⟨hg, fun k hk => .inl (hk.back hx.lt hb)⟩
end
def OfQ (d : Dk) (fl : Int → Option Nat) (nm : List UInt8) (W : World) (e : Ending) (w' : World) : Prop :=
  Below W.heap.size W w' ∧ ((d.ns nm = none ∧ e = .returned (.tuple #[.pointer none, .int .i64 141])) ∨ ∃ i, d.ns nm = some i ∧ e = .returned (.tuple #[lookV pV (.pointer none) (fl i), .int .i64 0]))
set_option maxRecDepth 20000 in
theorem of_any {W : World} {N p q : Nat} {d : Dk} {bf bn bs : Nat} {fl : Int → Option Nat} (h : DW W N p q d bf bn bs fl) (hi : ∀ nm i, d.ns nm = some i → okInt i) (nm : List UInt8) (hl : okName nm) (hm : MayC nm true) :
    Calls Try.prog 46 #[.pointer (some ⟨p, 0, none⟩), .string (strB nm)] W (OfQ d fl nm W) := by
  have H := Lib.hid h; have HI := Lib.hid hi; have HM := Lib.hid (hm W)
  clear h hi hm
  go_enter Try.func46, Try.ntmps46
  go_wp2_with fail
  refine HM.out.mono ?_
  rintro e w1 ⟨rfl, hb⟩
  have H1 := Lib.hid (H.out.keep hb)
  have HB := Lib.hid hb
  have c0 : w1.cell? ⟨p, 0, none⟩ = some (.map (some bf)) := (H1.out.bd.cell 0).trans rfl
  have c1 : w1.cell? ⟨p, 1, none⟩ = some (.map (some bn)) := (H1.out.bd.cell 1).trans rfl
  have l1 := H1.out.mn.look_ok mrNames strK Try.underlying92 (zero_int w1) hl
  unfold sV at l1
  clear hb H HM
  cases hn : d.ns nm with
  | none =>
    rw [hn] at l1
    unfold lookV at l1
    have HF : Hid (OfQ d fl nm W (.returned (.tuple #[.pointer none, .int .i64 141])) w1) := Lib.hid ⟨HB.out, .inl ⟨hn, rfl⟩⟩
    clear hn
    go_wp2_with fail
    go_ret2
    exact HF.out
  | some i =>
    rw [hn] at l1
    unfold lookV iV' at l1
    have l2 := H1.out.mf.look mrFiles intK Try.underlying91 (zero_fptr w1) (HI.out nm i hn)
    unfold iV' at l2
    have HF : Hid (OfQ d fl nm W (.returned (.tuple #[lookV pV (.pointer none) (fl i), .int .i64 0])) w1) := Lib.hid ⟨HB.out, .inr ⟨i, hn, rfl⟩⟩
    clear hn
    go_wp2_with fail
    go_ret2
    exact HF.out
end Go.Proofs.Ytlojmmcagglpoaa
