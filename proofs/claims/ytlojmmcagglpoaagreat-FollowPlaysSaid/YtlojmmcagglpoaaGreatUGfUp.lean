/- THE WALKS of package heronref17, the small ones: may, named, more, letGo, takeUp (printed by a program of ours). -/
import Derived.Test.YtlojmmcagglpoaaGreatUTk
import Derived.Test.YtlojmmcagglpoaaGreatUFw
import Derived.Test.YtlojmmcagglpoaaGreatUFwNext
import Derived.Test.YtlojmmcagglpoaaGreatULinesWalk
import Derived.Test.YtlojmmcagglpoaaGreatURfOpsB
import Derived.Deep.RegionLaw
namespace Go.Proofs.YtlojmmcagglpoaaGreat
open Go.RowKit
structure LRM (w : World) (g : Nat) (v : Value) (most : Nat) (u : List UInt8) (long : Nat) : Prop where
  blk : Blk w g 251 #[.int .i64 (most : Int), v, .int .i64 (long : Int)]
  own : OB w 0 v u
theorem LRM.nobytes {w : World} {g : Nat} {v : Value} {most long : Nat} {u : List UInt8} (h : LRM w g v most u long) {A : Option Addr} {n : Nat} {l : List UInt8} (hr : RB w A n l) : 0 < n → ∀ ad, A = some ad → ad.block ≠ g :=
  h.blk.nobytes hr (fun i x => by
    match i with
    | 0 => simp
    | 1 => obtain ⟨A, c, rfl, _⟩ := h.own.form; simp
    | 2 => simp
    | i + 3 => simp)
def RefPost (g : Nat) (v : Value) (most long : Nat) (u b : List UInt8) (w : World) (e : Ending) (w' : World) : Prop :=
  e = .returned (.tuple #[.string (strOf (feedS most u b)), .int .i64 (feedN b : Int), .bool (feedW most u b)]) ∧ ∃ v', LRM w' g v' most (feedU u b) (feedL most long u b) ∧ Chg (ownF g v) w w' ∧ Fresh w v v'
set_option maxRecDepth 20000 in
set_option maxHeartbeats 4000000 in
theorem refFeed_any (g : Nat) (v : Value) (most long : Nat) (u : List UInt8) (A : Option Addr) (n cap : Nat) (b : List UInt8) (w : World) (hm : LRM w g v most u long) (hr : RB w A n b) (hsep : 0 < n → ∀ ad, A = some ad → v.ownBlock ≠ some ad.block) (hncap : n ≤ cap) (hmost : most ≤ 4096) (hlen : u.length + n ≤ 140737488355328) (hlong : long ≤ 140737488355328) :
    Calls Tryz.prog 157 #[.pointer (some ⟨g, 0, none⟩), .slice A n cap] w (RefPost g v most long u b w) := by
  have HM := Lib.hid hm; clear hm
  have HR := Lib.hid hr; clear hr
  have HS := Lib.hid hsep; clear hsep
  have HBN := Lib.hid HR.out.1
  go_enter Tryz.func157, Tryz.ntmps157
  go_wp2_with fail
  go_loopw [7] (fun i W => ∃ k : Nat, k ≤ n ∧ i = .int .i64 k ∧ Hid (∀ j, j < k → ∀ c, b[j]? = some c → c ≠ 10) ∧ ∃ v1, LRM W g v1 most (u ++ b.take k) long ∧ Chg (ownF g v) w W ∧ Fresh w v v1) (fun i _ => n - (intOf i).toNat)
  case atStart => exact ⟨0, Nat.zero_le _, rfl, fun j hj => absurd hj (by omega), v, by simpa using HM.out, Chg.refl _ _, fun k h => .inl h⟩
  case round =>
    obtain ⟨k, hk, rfl, HK, v1, hm1, hch, hfr⟩ := hrel
    have HM1 := Lib.hid hm1
    have hul : (u ++ b.take k).length = u.length + k := by have := HBN.out; simp; omega
    have HUL := Lib.hid hul; clear hul
    by_cases hlt : k < n
    · obtain ⟨bb, off, rfl, hbb, c, hc, hcell⟩ := HR.out.at_ hlt
      have hnb : bb ≠ g := HM.out.nobytes HR.out (by omega) _ rfl
      have hnv : v.ownBlock ≠ some bb := HS.out (by omega) _ rfl
      rw [← hch.cell (p := ⟨bb, off + k, none⟩) hbb (fun h => by rcases h with h | h; exact hnb h; exact hnv h)] at hcell
      have HC := Lib.hid hc; clear hc
      have HNB := Lib.hid hnb; clear hnb hnv
      have c1 : wr.cell? ⟨g, 1, none⟩ = some v1 := hm1.blk.cell 1
      have f1 := hm1.blk.frozen 1
      by_cases h10 : c = 10
      · have ht : ((c.toNat : Int) != 10) = false := by rw [h10]; rfl
        have hup : upN b = k := upN_at HK.out HC.out h10
        have H10 := Lib.hid h10; clear h10
        have h1 : upN b < b.length := by have := HBN.out; omega
        have hU : feedU u b = [] := by unfold feedU; rw [if_pos h1]
        have hN : feedN b = k + 1 := by unfold feedN; rw [if_pos h1, hup]
        have c0 : wr.cell? ⟨g, 0, none⟩ = some (.int .i64 (most : Int)) := hm1.blk.cell 0
        have c2 : wr.cell? ⟨g, 2, none⟩ = some (.int .i64 (long : Int)) := hm1.blk.cell 2
        have f2 := hm1.blk.frozen 2
        obtain ⟨D, dc, rfl, _, _, hr2⟩ := hm1.own.form
        have hcv := conv_bytes _ _ _ dc _ hr2
        have hsz : (strOf (u ++ b.take k)).size = u.length + k := by rw [← HUL.out]; unfold strOf; rfl
        have hS : feedW most u b = true → strOf (feedS most u b) = strOf (u ++ b.take k) := fun h => by unfold feedS; rw [if_pos h, hup]
        have hW : feedW most u b = decide (u.length + k ≤ most) := by unfold feedW; rw [hup, HUL.out]; simp; intro _; omega
        have hL : feedL most long u b = if most < u.length + k then long + 1 else long := by
          unfold feedL; rw [hup, HUL.out]
          by_cases h : most < u.length + k
          · rw [if_pos ⟨by omega, h⟩, if_pos h]
          · rw [if_neg (fun h' => h h'.2), if_neg h]
        generalize (u ++ b.take k).length = hl at *
        obtain ⟨st, hst⟩ : ∃ st, st = strOf (u ++ b.take k) := ⟨_, rfl⟩
        rw [← hst] at hcv hsz hS
        have HST := Lib.hid hst; clear hst
        have hblk := hm1.blk
        have HB := Lib.hid hblk; clear hblk
        by_cases hbig : most < u.length + k
        · have hWf : feedW most u b = false := by rw [hW]; simp; omega
          have hF : RefPost g v most long u b w (.returned (.tuple #[.string ByteArray.empty, .int .i64 ((k : Int) + 1), .bool false])) ((wr.setCell ⟨g, 1, none⟩ (.slice none 0 0)).setCell ⟨g, 2, none⟩ (.int .i64 ((long : Int) + 1))) := by
            refine ⟨?_, .slice none 0 0, ⟨?_, by rw [hU]; exact OB.nil _ _⟩, (hch.setCell (.inl (.inl rfl)) _).setCell (.inl (.inl rfl)) _, Fresh.nil _ _⟩
            · rw [hN, hWf, show feedS most u b = [] from by unfold feedS; rw [hWf]; rfl, strOf_nil]; rfl
            · rw [hL, if_pos hbig]
              have := (HB.out.set_ 1 (.slice none 0 0)).set_ 2 (.int .i64 ((long : Int) + 1))
              simpa using this
          have HF := Lib.hid hF
          clear hF hWf hW hS hL hU hN h1 hup hm1 hr2
          go_wp2_with fail
          go_ret3
          exact HF.out
        · have hWt : feedW most u b = true := by rw [hW]; simp; omega
          have hF : RefPost g v most long u b w (.returned (.tuple #[.string st, .int .i64 ((k : Int) + 1), .bool true])) (wr.setCell ⟨g, 1, none⟩ (.slice none 0 0)) := by
            refine ⟨?_, .slice none 0 0, ⟨?_, by rw [hU]; exact OB.nil _ _⟩, hch.setCell (.inl (.inl rfl)) _, Fresh.nil _ _⟩
            · rw [hN, hWt, hS hWt]; rfl
            · rw [hL, if_neg hbig]
              have := HB.out.set_ 1 (.slice none 0 0)
              simpa using this
          have HF := Lib.hid hF
          clear hF hWt hW hS hL hU hN h1 hup hm1 hr2
          go_wp2_with fail
          go_ret3
          exact HF.out
      · have ht : ((c.toNat : Int) != 10) = true := by
          rw [bne_iff_ne]
          intro h
          exact h10 (UInt8.toNat_inj.1 (by have : (10 : UInt8).toNat = 10 := rfl; omega))
        have H10 := Lib.hid h10; clear h10
        have O1 : Hid (OB (wr.alloc (.cells #[.int .u8 (c.toNat : Int)] 5)).drew 0 v1 (u ++ b.take k)) := Lib.hid (hm1.own.keep (((Below.refl _ _).alloc (Nat.le_refl _) _).drew))
        have R1 : Hid (RB (wr.alloc (.cells #[.int .u8 (c.toNat : Int)] 5)).drew (some ⟨wr.heap.size, 0, none⟩) 1 [c]) := Lib.hid (RB.new wr 5 (0, 0) #[.int .u8 (c.toNat : Int)] [c] rfl 1 rfl)
        have B1 : Hid (Blk (wr.alloc (.cells #[.int .u8 (c.toNat : Int)] 5)).drew g 251 #[.int .i64 (most : Int), v1, .int .i64 (long : Int)]) := Lib.hid (hm1.blk.alloc _)
        have c1a : (wr.alloc (.cells #[.int .u8 (c.toNat : Int)] 5)).cell? ⟨g, 1, none⟩ = some v1 := B1.out.cell 1
        have hL : (u ++ b.take k).length + 1 ≤ 140737488355328 := by have := HUL.out; omega
        have HL := Lib.hid hL; clear hL
        have HNE := Lib.hid (hm1.blk.apart hm1.own (by decide))
        clear hm1
        go_wp2_with fail
        go_region_law ((refine step_append_bytes rfl (.tmp 24) (.tmp 29) rfl 0 v1 (u ++ b.take k) (by simp [Act.eval]) O1.out (some ⟨wr.heap.size, 0, none⟩) 1 1 [c] (by simp [Act.eval]) R1.out HL.out (by omega) ?_; intro v2 w2 ho2 hg2 ha2; obtain ⟨D, dc, rfl, hdc, hdm, hr2⟩ := ho2.form; have B2 := B1.out.grown hg2 HNE.out; have d1 : w2.cell? ⟨g, 1, none⟩ = some v1 := B2.cell 1; have e1 := B2.frozen 1; have O2 := Lib.hid ho2; clear ho2; have BB := Lib.hid B2; clear B2; have HG := Lib.hid hg2; clear hg2; have HA := Lib.hid ha2; clear ha2 hr2))
        all_goals
          have hl3 : (u ++ b.take k ++ [c]).length = u.length + (min k b.length + 1) := by simp
          have h2 := O2.out
          rw [hl3] at h2
          have hfr2 : Fresh w v (.slice D (u.length + (min k b.length + 1)) dc) := fun q hq => by
            have hA := HA.out
            rw [hl3] at hA
            rcases hA with h | h
            · rw [h] at hq; exact hfr q hq
            · right
              rw [hq] at h
              have := Option.some.inj h
              have := hch.size
              simp at *; omega
          have hch2 : Chg (ownF g v) w w2 := ((hch.alloc _).drew).grown HG.out (fun q hq hlt => by
            rcases hfr q hq with h | h
            · exact .inr h
            · omega)
          have hm2 : LRM (w2.setCell ⟨g, 1, none⟩ (.slice D (u.length + (min k b.length + 1)) dc)) g (.slice D (u.length + (min k b.length + 1)) dc) most (u ++ b.take (k + 1)) long := by
            refine ⟨?_, ?_⟩
            · have := BB.out.set_ 1 (.slice D (u.length + (min k b.length + 1)) dc)
              simpa using this
            · rw [take_snoc HC.out, ← List.append_assoc]
              exact h2.set_far (Blk.apart BB.out h2 (by decide)) _
          have HM2 := Lib.hid hm2; clear hm2
          have HC2 := Lib.hid (hch2.setCell (p := ⟨g, 1, none⟩) (.inl (.inl rfl)) (.slice D (u.length + (min k b.length + 1)) dc)); clear hch2
          have HF2 := Lib.hid hfr2; clear hfr2
          clear h2 hl3 HG HA O2 BB d1 e1 c1a O1 R1 B1 hdc
          go_wp2_with fail
          go_roundw
          case rel => exact ⟨k + 1, by omega, by go_num, fun j hj c' hc' => by
            by_cases hjk : j < k
            · exact HK.out j hjk c' hc'
            · obtain rfl : j = k := by omega
              have h1 := HC.out
              rw [h1] at hc'
              obtain rfl := Option.some.inj hc'
              exact H10.out, _, HM2.out, HC2.out, HF2.out⟩
          case measure => simp [intOf]; omega
    · obtain rfl : k = n := by omega
      have hup : upN b = b.length := by
        have h1 := takeWhile_all HK.out (by have := HBN.out; omega)
        have h2 := upN_le b
        have h3 := HBN.out
        omega
      have h1 : ¬ upN b < b.length := by omega
      have hWf : feedW most u b = false := by unfold feedW; simp [h1]
      have hF : RefPost g v most long u b w (.returned (.tuple #[.string ByteArray.empty, .int .i64 (k : Int), .bool false])) wr := by
        refine ⟨?_, v1, ?_, hch, hfr⟩
        · rw [hWf, show feedS most u b = [] from by unfold feedS; rw [hWf]; rfl, strOf_nil, show feedN b = k from by unfold feedN; rw [if_neg h1]; exact HBN.out]
        · rw [show feedU u b = u ++ b.take k from by unfold feedU; rw [if_neg h1, List.take_of_length_le (by have := HBN.out; omega)], show feedL most long u b = long from by unfold feedL; rw [if_neg (fun h => h1 h.1)]]
          exact HM1.out
      have HF := Lib.hid hF
      clear hF hWf h1 hup hm1
      go_wp2_with fail
      go_ret3
      exact HF.out
end Go.Proofs.YtlojmmcagglpoaaGreat
namespace Go.Proofs.YtlojmmcagglpoaaGreat
open Go.RowKit
def RNewPost (m : Nat) (w : World) (e : Ending) (w' : World) : Prop := ∃ g, g = w.heap.size ∧ e = .returned (.tuple #[.pointer (some ⟨g, 0, none⟩), .int .i64 0]) ∧ LRM w' g (.slice none 0 0) m [] 0 ∧ Below w.heap.size w w' ∧ w'.heap.size = w.heap.size + 1
theorem rnew_ok (m : Nat) (w : World) (hm : m ≤ 4096) : Calls Tryz.prog 133 #[.int .i64 (m : Int)] w (RNewPost m w) := by
  have hb : Blk (w.alloc (.cells #[.int .i64 (m : Int), .slice none 0 0, .int .i64 0] 251)) w.heap.size 251 #[.int .i64 (m : Int), .slice none 0 0, .int .i64 0] := Blk.new w _ _ rfl
  have HB := Lib.hid hb; clear hb
  go_enter Tryz.func133, Tryz.ntmps133
  go_wp2
  go_ret2
  refine ⟨_, rfl, rfl, ⟨by simpa using HB.out, OB.nil _ _⟩, (Below.refl _ _).alloc (Nat.le_refl _) _, by simp⟩
theorem rbegun_any (g : Nat) (v : Value) (most long : Nat) (u : List UInt8) (w : World) (hm : LRM w g v most u long) :
    Calls Tryz.prog 139 #[.pointer (some ⟨g, 0, none⟩)] w fun e w' => e = .returned (.int .i64 (u.length : Int)) ∧ w = w' := by
  have c1 : w.cell? ⟨g, 1, none⟩ = some v := hm.blk.cell 1
  obtain ⟨D, dc, rfl, _, _, _⟩ := hm.own.form
  generalize u.length = q at *
  clear hm
  go_enter Tryz.func139, Tryz.ntmps139
  go_wp2
  go_ret
  exact ⟨rfl, rfl⟩
theorem rheld_any (g : Nat) (v : Value) (most long : Nat) (u : List UInt8) (w : World) (hm : LRM w g v most u long) :
    Calls Tryz.prog 141 #[.pointer (some ⟨g, 0, none⟩)] w fun e w' => e = .returned (.int .i64 ((heldOf most u).length : Int)) ∧ ∃ n, w' = w.drewN n := by
  have c0 : w.cell? ⟨g, 0, none⟩ = some (.int .i64 (most : Int)) := hm.blk.cell 0
  have c1 : w.cell? ⟨g, 1, none⟩ = some v := hm.blk.cell 1
  obtain ⟨D, dc, rfl, _, _, _⟩ := hm.own.form
  have hh : (heldOf most u).length = if u.length ≤ most then u.length else 0 := by unfold heldOf; split <;> rfl
  rw [hh]
  generalize u.length = q at *
  clear hm hh
  by_cases h : q ≤ most
  · rw [if_pos h]
    go_enter Tryz.func141, Tryz.ntmps141
    go_wp2_with fail
    first
      | (go_ret; exact ⟨rfl, 0, rfl⟩)
      | (go_quiet (fail); go_wp2_with fail; go_ret; exact ⟨rfl, _, rfl⟩)
  · rw [if_neg h]
    have h' : most < q := by omega
    clear h
    go_enter Tryz.func141, Tryz.ntmps141
    go_wp2_with fail
    first
      | (go_ret; exact ⟨rfl, 0, rfl⟩)
      | (go_quiet (fail); go_wp2_with fail; go_ret; exact ⟨rfl, _, rfl⟩)
theorem rdrop_any (g : Nat) (v : Value) (most long : Nat) (u : List UInt8) (w : World) (hm : LRM w g v most u long) :
    Calls Tryz.prog 138 #[.pointer (some ⟨g, 0, none⟩)] w fun e w' => e = .returned (.tuple #[]) ∧ LRM w' g (.slice none 0 0) most [] long ∧ Chg (ownF g v) w w' := by
  have c1 : w.cell? ⟨g, 1, none⟩ = some v := hm.blk.cell 1
  have f1 := hm.blk.frozen 1
  have HM := Lib.hid hm; clear hm
  go_enter Tryz.func138, Tryz.ntmps138
  go_wp2_with fail
  go_end0
  refine ⟨rfl, ⟨?_, OB.nil _ _⟩, (Chg.refl _ w).setCell (.inl (.inl rfl)) _⟩
  have := HM.out.blk.set_ 1 (.slice none 0 0)
  simpa using this
end Go.Proofs.YtlojmmcagglpoaaGreat
namespace Go.Proofs.YtlojmmcagglpoaaGreat
open Go.RowKit Go.Maps
def rfC (k : FwK) (f : FwS) (mb : Nat) : Array Value := #[.string (strB k.nm), .string (strB k.ro), .int .i64 (k.line : Int), .int .i64 k.ch, .int .i64 f.se, .int .i64 f.ino, .int .i64 f.ge, .int .i64 f.off, .int .i64 f.mi, .int .i64 f.go, .int .i64 f.cu, .int .i64 f.ta, .int .i64 f.lo, .pointer (some ⟨mb, 0, none⟩)]
structure GfW (W : World) (C : Nat → Nat) (c rb mb : Nat) (v : Value) (k : FwK) (f : FwS) : Prop where
  blk : Blk W rb 116 (rfC k f mb)
  maker : LRM W mb v k.line f.u f.lc
  cr : C rb = c
  cm : C mb = c
  cv : ∀ q, v.ownBlock = some q → C q = c
def GfR (W : World) (C : Nat → Nat) (c rb : Nat) (k : FwK) (f : FwS) : Prop := ∃ mb v, GfW W C c rb mb v k f
theorem LRM.stp {S : Nat → Prop} {w w' : World} {g : Nat} {v : Value} {most long : Nat} {u : List UInt8} (h : LRM w g v most u long) (hc : Chg S w w') (hg : ¬ S g) (hv : ∀ q, v.ownBlock = some q → ¬ S q) : LRM w' g v most u long :=
  ⟨h.blk.chg hc hg, hc.own h.own hv⟩
section
variable {W w' w1 w2 : World} {C C' : Nat → Nat} {c rb mb : Nat} {v : Value} {k : FwK} {f g : FwS}
theorem GfW.lt (h : GfW W C c rb mb v k f) : rb < W.heap.size ∧ mb < W.heap.size ∧ ∀ q, v.ownBlock = some q → q < W.heap.size := ⟨h.blk.lt, h.maker.blk.lt, fun q hq => (World.ownsRow.lt h.maker.own q hq).2⟩
theorem GfW.apart (h : GfW W C c rb mb v k f) : rb ≠ mb := fun e => by
  have h1 := h.blk
  have h2 := h.maker.blk
  subst e
  unfold Blk at h1 h2
  rw [h1] at h2
  injection h2 with h2
  injection h2 with _ ht
  exact absurd ht (by decide)
theorem GfW.step (h : GfW W C c rb mb v k f) {S : Nat → Prop} (hc : Chg S W w') (hs : Sam W.heap.size C C') (hS : ∀ b, S b → C b ≠ c) : GfW w' C' c rb mb v k f :=
  ⟨h.blk.chg hc (fun e => hS _ e h.cr), h.maker.stp hc (fun e => hS _ e h.cm) (fun q hq e => hS _ e (h.cv q hq)), (hs _ h.lt.1).trans h.cr, (hs _ h.lt.2.1).trans h.cm, fun q hq => (hs _ (h.lt.2.2 q hq)).trans (h.cv q hq)⟩
theorem GfR.step (h : GfR W C c rb k f) {S : Nat → Prop} (hc : Chg S W w') (hs : Sam W.heap.size C C') (hS : ∀ b, S b → C b ≠ c) : GfR w' C' c rb k f := by
  obtain ⟨mb, v, h⟩ := h; exact ⟨mb, v, h.step hc hs hS⟩
theorem GfR.keep (h : GfR W C c rb k f) (hb : Below W.heap.size W w') : GfR w' C c rb k f := h.step (S := fun _ => False) (Chg.of_below hb _) (Sam.refl _ _) (fun _ e => e.elim)
def GfQ (W : World) (C : Nat → Nat) (c rb : Nat) (k : FwK) (f : FwS) (w' : World) : Prop := GfR w' (paint C W.heap.size c) c rb k f ∧ Chg (fun b => C b = c) W w'
theorem GfQ.refl (h : GfR W C c rb k f) : GfQ W C c rb k f W := ⟨h.step (S := fun _ => False) (Chg.refl _ _) (sam_paint _ _ _) (fun _ e => e.elim), Chg.refl _ _⟩
theorem GfQ.trans (h : GfQ W C c rb k f w1) (h2 : GfQ w1 (paint C W.heap.size c) c rb k g w2) : GfQ W C c rb k g w2 :=
  ⟨by have := h2.1; rw [paint_paint C c h.2.size] at this; exact this, (chg_paint h.2 h2.2).mono (fun _ _ e => e.elim id id)⟩
theorem GfQ.below (h : GfQ W C c rb k f w1) (hb : Below w1.heap.size w1 w2) : GfQ W C c rb k f w2 := ⟨h.1.keep hb, h.2.trans (Chg.of_below hb (fun b => C b = c)) (fun _ _ h => h)⟩
theorem rfC_put (k : FwK) (f : FwS) (mb i : Nat) (x : Int) (hi : i < 9) : rfC k (f.put i x) mb = (rfC k f mb).setIfInBounds (i + 4) (.int .i64 x) := by
  match i, hi with
  | 0, _ => rfl
  | 1, _ => rfl
  | 2, _ => rfl
  | 3, _ => rfl
  | 4, _ => rfl
  | 5, _ => rfl
  | 6, _ => rfl
  | 7, _ => rfl
  | 8, _ => rfl
theorem GfW.put (h : GfW W C c rb mb v k f) {i : Nat} (hi : i < 9) (x : Int) : GfW (W.setCell ⟨rb, i + 4, none⟩ (.int .i64 x)) C c rb mb v k (f.put i x) := by
  have hch : Chg (fun b => b = rb) W (W.setCell ⟨rb, i + 4, none⟩ (.int .i64 x)) := Chg.setCell (S := fun b => b = rb) (p := ⟨rb, i + 4, none⟩) (Chg.refl _ W) (.inl rfl) _
  refine ⟨by rw [rfC_put k f mb i x hi]; exact h.blk.set_ (i + 4) _, ?_, h.cr, h.cm, h.cv⟩
  rw [(f.put_u i x).1, (f.put_u i x).2]
  exact h.maker.stp hch (fun e => h.apart e.symm) (fun q hq e => h.blk.apart h.maker.own (by decide) (by rw [hq, e]))
theorem GfR.put (h : GfR W C c rb k f) {i : Nat} (hi : i < 9) (x : Int) : GfR (W.setCell ⟨rb, i + 4, none⟩ (.int .i64 x)) C c rb k (f.put i x) := by
  obtain ⟨mb, v, h⟩ := h; exact ⟨mb, v, h.put hi x⟩
theorem GfQ.put (h : GfQ W C c rb k f w1) {i : Nat} (hi : i < 9) (x : Int) : GfQ W C c rb k (f.put i x) (w1.setCell ⟨rb, i + 4, none⟩ (.int .i64 x)) := by
  refine ⟨h.1.put hi x, h.2.setCell ?_ _⟩
  obtain ⟨mb, v, hf⟩ := h.1
  have hr := hf.cr
  by_cases e : rb < W.heap.size
  · rw [paint_old C c e] at hr; exact .inl hr
  · exact .inr (by show W.heap.size ≤ rb; omega)
theorem GfQ.drew (h : GfQ W C c rb k f w1) : GfQ W C c rb k f w1.drew := h.below (Below.refl _ _).drew
theorem GfR.cells (h : GfR W C c rb k f) : W.cell? ⟨rb, 0, none⟩ = some (.string (strB k.nm)) ∧ W.cell? ⟨rb, 1, none⟩ = some (.string (strB k.ro)) ∧ W.cell? ⟨rb, 2, none⟩ = some (.int .i64 (k.line : Int)) ∧ W.cell? ⟨rb, 3, none⟩ = some (.int .i64 k.ch) ∧ W.cell? ⟨rb, 4, none⟩ = some (.int .i64 f.se) ∧ W.cell? ⟨rb, 5, none⟩ = some (.int .i64 f.ino) ∧ W.cell? ⟨rb, 6, none⟩ = some (.int .i64 f.ge) ∧ W.cell? ⟨rb, 7, none⟩ = some (.int .i64 f.off) ∧ W.cell? ⟨rb, 8, none⟩ = some (.int .i64 f.mi) ∧ W.cell? ⟨rb, 9, none⟩ = some (.int .i64 f.go) ∧ W.cell? ⟨rb, 10, none⟩ = some (.int .i64 f.cu) ∧ W.cell? ⟨rb, 11, none⟩ = some (.int .i64 f.ta) ∧ W.cell? ⟨rb, 12, none⟩ = some (.int .i64 f.lo) := by
  obtain ⟨mb, v, h⟩ := h
  exact ⟨h.blk.cell 0, h.blk.cell 1, h.blk.cell 2, h.blk.cell 3, h.blk.cell 4, h.blk.cell 5, h.blk.cell 6, h.blk.cell 7, h.blk.cell 8, h.blk.cell 9, h.blk.cell 10, h.blk.cell 11, h.blk.cell 12⟩
theorem GfR.frozen (h : GfR W C c rb k f) (i : Nat) : W.frozen? ⟨rb, i, none⟩ = false := by
  obtain ⟨mb, v, h⟩ := h; exact h.blk.frozen i
theorem GfR.maker (h : GfR W C c rb k f) : ∃ mb v, W.cell? ⟨rb, 13, none⟩ = some (.pointer (some ⟨mb, 0, none⟩)) ∧ LRM W mb v k.line f.u f.lc ∧
    ∀ w' v' u' lc', LRM w' mb v' k.line u' lc' → Chg (ownF mb v) W w' → Fresh W v v' → GfQ W C c rb k { f with u := u', lc := lc' } w' := by
  obtain ⟨mb, v, h⟩ := h
  refine ⟨mb, v, h.blk.cell 13, h.maker, fun w' v' u' lc' hm hc hf => ⟨⟨mb, v', ?_, hm, ?_, ?_, fun q hq => ?_⟩, hc.mono (fun b _ hb => ?_)⟩⟩
  · refine h.blk.chg hc (fun e => ?_)
    rcases e with e | e
    · exact h.apart e
    · exact h.blk.apart h.maker.own (by decide) e
  · rw [paint_old C c h.lt.1]; exact h.cr
  · rw [paint_old C c h.lt.2.1]; exact h.cm
  · rcases hf q hq with e | e
    · rw [paint_old C c (h.lt.2.2 q e)]; exact h.cv q e
    · exact paint_new C c e
  · rcases hb with e | e
    · rw [e]; exact h.cm
    · exact h.cv b e
end
theorem GfR.only {W : World} {C : Nat → Nat} {c rb : Nat} {k : FwK} {f : FwS} (h : GfR W C c rb k f) : ∃ C' : Nat → Nat, GfR W C' c rb k f ∧
    (∀ (b : Nat) (t : TypeId) (dc : Array Value), Blk W b t dc → t ≠ 116 → t ≠ 251 → t ≠ 5 → C' b ≠ c) ∧
    (∀ b, C' b = c → C b = c) ∧ ∀ g w', GfQ W C' c rb k g w' → GfQ W C c rb k g w' := by
  obtain ⟨mb, v, hf⟩ := h
  have hlt := hf.lt
  refine ⟨fun b => if b = rb ∨ b = mb ∨ v.ownBlock = some b then c else c + 1, ⟨mb, v, hf.blk, hf.maker, if_pos (.inl rfl), if_pos (.inr (.inl rfl)), fun q hq => if_pos (.inr (.inr hq))⟩, fun b t dc hb h1 h2 h3 => ?_, fun b hb => ?_, fun g w' hq => ?_⟩
  · have hn : ¬ (b = rb ∨ b = mb ∨ v.ownBlock = some b) := by
      rintro (e | e | e)
      · subst e
        have := hf.blk
        unfold Blk at this hb
        rw [hb] at this
        injection this with this
        injection this with _ ht
        exact h1 ht
      · subst e
        have := hf.maker.blk
        unfold Blk at this hb
        rw [hb] at this
        injection this with this
        injection this with _ ht
        exact h2 ht
      · exact hb.apart hf.maker.own (fun e2 => h3 e2.symm) e
    show (if _ then c else c + 1) ≠ c
    rw [if_neg hn]; omega
  · by_cases hn : b = rb ∨ b = mb ∨ v.ownBlock = some b
    · rcases hn with e | e | e
      · rw [e]; exact hf.cr
      · rw [e]; exact hf.cm
      · exact hf.cv b e
    · exfalso
      have hb2 : (if b = rb ∨ b = mb ∨ v.ownBlock = some b then c else c + 1) = c := hb
      rw [if_neg hn] at hb2; omega
  · have key : ∀ b, (if b = rb ∨ b = mb ∨ v.ownBlock = some b then c else c + 1) = c → C b = c := fun b hb => by
      by_cases hn : b = rb ∨ b = mb ∨ v.ownBlock = some b
      · rcases hn with e | e | e
        · rw [e]; exact hf.cr
        · rw [e]; exact hf.cm
        · exact hf.cv b e
      · rw [if_neg hn] at hb; omega
    have key2 : ∀ b, paint (fun b => if b = rb ∨ b = mb ∨ v.ownBlock = some b then c else c + 1) W.heap.size c b = c → paint C W.heap.size c b = c := fun b hb => by
      by_cases e : b < W.heap.size
      · rw [paint_old _ _ e] at hb ⊢; exact key b hb
      · exact paint_new _ _ (by omega)
    obtain ⟨⟨mb2, v2, hf2⟩, hc⟩ := hq
    exact ⟨⟨mb2, v2, hf2.blk, hf2.maker, key2 _ hf2.cr, key2 _ hf2.cm, fun q hq => key2 _ (hf2.cv q hq)⟩, hc.mono (fun b _ hb => key b hb)⟩
end Go.Proofs.YtlojmmcagglpoaaGreat
namespace Go.Proofs.YtlojmmcagglpoaaGreat
open Go.RowKit Go.Maps
attribute [local go_sem ↓] Go.wp_at_zero Go.wp_at_succ
structure RAsks (p : Nat) (D : World → Prop) (S : List UInt8 → T5) (I : Int → T5) (R : Int → Int → Int → Int → List UInt8 × Int) : Prop where
  stat : ∀ W nm, D W → Calls Tryz.prog 45 #[.pointer (some ⟨p, 0, none⟩), .string (strB nm)] W (AskF W (S nm))
  inode : ∀ W i, okInt i → D W → Calls Tryz.prog 56 #[.pointer (some ⟨p, 0, none⟩), .int .i64 i] W (AskF W (I i))
  read : ∀ W i g o s, okInt i → okInt o → okInt s → D W → Calls Tryz.prog 57 #[.pointer (some ⟨p, 0, none⟩), .int .i64 i, .int .i64 g, .int .i64 o, .int .i64 s] W (BytF W (R i g o s))
set_option maxRecDepth 20000 in
set_option maxHeartbeats 2000000 in
theorem gf_may (nm : List UInt8) (w : World) : Calls Tryz.prog 131 #[.string (strB nm)] w fun e w' => e = .returned (.bool (mayB nm)) ∧ w = w' := by
  have hsz : (strB nm).size = nm.length := by simp [strB, ByteArray.size]
  obtain ⟨v, hv⟩ : ∃ v, v = mayB nm := ⟨_, rfl⟩
  rw [← hv]
  have HV := Lib.hid hv
  clear hv
  go_enter Tryz.func131, Tryz.ntmps131
  by_cases h1 : nm.length < 1
  · have hvf : Hid (v = false) := Lib.hid (by rw [HV.out]; unfold mayB; rw [if_neg (by omega)])
    have hi : (nm.length : Int) < 1 := by omega
    go_wp2_with fail
    go_ret
    exact ⟨by rw [hvf.out]; rfl, rfl⟩
  by_cases h2 : 32 < nm.length
  · have hvf : Hid (v = false) := Lib.hid (by rw [HV.out]; unfold mayB; rw [if_neg (by omega)])
    have hi : ¬ (nm.length : Int) < 1 := by omega
    have hi2 : 32 < (nm.length : Int) := by omega
    go_wp2_with fail
    go_ret
    exact ⟨by rw [hvf.out]; rfl, rfl⟩
  have hi : ¬ (nm.length : Int) < 1 := by omega
  have hi2 : ¬ 32 < (nm.length : Int) := by omega
  go_wp2_with fail
  go_loopw [3] (fun s3 W => ∃ k : Nat, s3 = .int .i64 (k : Int) ∧ k ≤ nm.length ∧ Hid (∀ c ∈ nm.take k, ¬ (c = 0 ∨ c = 10)) ∧ w = W) (fun s3 _ => nm.length - (intOf s3).toNat)
  case atStart => exact ⟨0, rfl, Nat.zero_le _, Lib.hid (fun c hc => by simp at hc), rfl⟩
  case round =>
    obtain ⟨k, rfl, hk, HK, rfl⟩ := hrel
    by_cases hlt : k < nm.length
    · have hki : (k : Int) < (nm.length : Int) := by omega
      have hk0 : (0 : Int) ≤ (k : Int) := by omega
      obtain ⟨ch, hch, hnk⟩ : ∃ ch : UInt8, (strB nm)[k]'(by rw [hsz]; exact hlt) = ch ∧ nm[k]? = some ch := ⟨_, rfl, by rw [List.getElem?_eq_getElem hlt]; rfl⟩
      have HNK := Lib.hid hnk
      clear hnk
      by_cases c0 : ch = 0 ∨ ch = 10
      · have hvf : Hid (v = false) := Lib.hid (by
          rw [HV.out]; unfold mayB
          rw [if_neg (fun h => h.2.2 ch (List.mem_of_getElem? HNK.out) c0)])
        by_cases c1 : ch.toNat = 0
        · clear c0
          go_wp2_with fail
          go_ret
          exact ⟨by rw [hvf.out]; rfl, rfl⟩
        · have c2 : ch.toNat = 10 := by
            rcases c0 with e | e
            · exact absurd (by rw [e]; rfl) c1
            · rw [e]; rfl
          have c2' : ((ch.toNat : Int) == 10) = true := by rw [c2]; rfl
          clear c0 c2
          go_wp2_with fail
          go_ret
          exact ⟨by rw [hvf.out]; rfl, rfl⟩
      · have c1 : ¬ ch.toNat = 0 := fun e => c0 (.inl (UInt8.toNat_inj.1 e))
        have c2 : ¬ ch.toNat = 10 := fun e => c0 (.inr (UInt8.toNat_inj.1 e))
        have HK2 : Hid (∀ c ∈ nm.take (k + 1), ¬ (c = 0 ∨ c = 10)) := Lib.hid (fun c hc => by
          rw [take_snoc HNK.out] at hc
          rcases List.mem_append.1 hc with h | h
          · exact HK.out c h
          · rw [List.mem_singleton.1 h]; exact c0)
        have c1' : ((ch.toNat : Int) == 0) = false := by rw [beq_eq_false_iff_ne]; omega
        have c2' : ((ch.toNat : Int) == 10) = false := by rw [beq_eq_false_iff_ne]; omega
        have hk3 : (k : Int) ≤ 32 := by omega
        clear c0
        go_wp2_with fail
        go_roundw
        case rel => exact ⟨k + 1, by go_num, by omega, HK2, trivial⟩
        case measure => simp [intOf]; omega
    · obtain rfl : k = nm.length := by omega
      have hvt : Hid (v = true) := Lib.hid (by
        rw [HV.out]; unfold mayB
        rw [if_pos ⟨by omega, by omega, fun c hc => HK.out c (by rw [List.take_length]; exact hc)⟩])
      go_wp2_with fail
      go_ret
      exact ⟨by rw [hvt.out]; rfl, rfl⟩
def GDoneQ (W : World) (C : Nat → Nat) (c rb : Nat) (k : FwK) (f : FwS) (e : Ending) (w' : World) : Prop := e = .returned (.tuple #[]) ∧ GfQ W C c rb k f w'
set_option maxRecDepth 20000 in
set_option maxHeartbeats 2000000 in
theorem gf_more (b o : Nat) (n y : Int) (w : World) (hc : w.cell? ⟨b, o, none⟩ = some (.int .i64 n)) (hf : w.frozen? ⟨b, o, none⟩ = false) (h0 : 0 ≤ n) (h1 : n ≤ 4611686018427387904) (hy : 0 ≤ y) (hy1 : y ≤ 4611686018427387900) : Calls Tryz.prog 136 #[.pointer (some ⟨b, o, none⟩), .int .i64 y] w fun e w' => e = .returned (.tuple #[]) ∧ w' = w.setCell ⟨b, o, none⟩ (.int .i64 (upv n y)) := by
  have hmin : ∀ W : World, (Builtin.min_ #[3, 3] 3 #[.int .i64 (n + y), .int .i64 4611686018427387904]).run Tryz.prog W = .ok (.int .i64 (upv n y)) W := by
    intro W; rw [run_min_int2]; congr 2; unfold upv; split <;> omega
  go_enter Tryz.func136, Tryz.ntmps136
  go_wp2_with fail
  go_end0
  exact ⟨rfl, rfl⟩
set_option maxRecDepth 20000 in
set_option maxHeartbeats 2000000 in
theorem gf_letGo {W : World} {C : Nat → Nat} {c rb : Nat} {k : FwK} {f : FwS} (h : GfR W C c rb k f) : Calls Tryz.prog 135 #[.pointer (some ⟨rb, 0, none⟩)] W (GDoneQ W C c rb k f.letGo) := by
  obtain ⟨w1, hw1⟩ : ∃ w1, w1 = ((W.setCell ⟨rb, 5, none⟩ (.int .i64 0)).setCell ⟨rb, 6, none⟩ (.int .i64 0)).setCell ⟨rb, 7, none⟩ (.int .i64 0) := ⟨_, rfl⟩
  have Q1 : Hid (GfQ W C c rb k (((f.put 1 0).put 2 0).put 3 0) w1) := Lib.hid (by rw [hw1]; exact (((GfQ.refl h).put (i := 1) (by decide) 0).put (i := 2) (by decide) 0).put (i := 3) (by decide) 0)
  obtain ⟨q0, q1, q2, q3, q4, q5, q6, q7, q8, q9, q10, q11, q12⟩ := h.cells
  have f1 := h.frozen 5
  have f2 := h.frozen 6
  have f3 := h.frozen 7
  obtain ⟨mb, v, y9, hm, hK⟩ := Q1.out.1.maker
  have CD := Lib.hid (rdrop_any mb v k.line _ _ w1 hm)
  have HK := Lib.hid hK
  clear hm hK q0 q1 q2 q3 q4 q8 q9 q10 q11 q12 h
  go_enter Tryz.func135, Tryz.ntmps135
  go_upto_region 3 with fail
  rw [← hw1]
  clear hw1 q5 q6 q7 f1 f2 f3
  go_wp2_with fail
  refine CD.out.mono ?_
  rintro e w2 ⟨rfl, hm2, hc2⟩
  have HF : Hid (GDoneQ W C c rb k f.letGo (.returned (.tuple #[])) w2) := Lib.hid ⟨rfl, Q1.out.trans (HK.out _ _ _ _ hm2 hc2 (Fresh.nil _ _))⟩
  clear hm2 hc2
  go_wp2_with fail
  go_end0
  exact HF.out
set_option maxRecDepth 20000 in
set_option maxHeartbeats 2000000 in
theorem gf_takeUp {W : World} {C : Nat → Nat} {c rb : Nat} {k : FwK} {f : FwS} (h : GfR W C c rb k f) (t0 t1 t2 t3 : Int) (hm : inM f.mi) (hs : inM f.se) (hlt : f.se < t1) (ht1 : t1 ≤ 4611686018427387900) : Calls Tryz.prog 137 #[.pointer (some ⟨rb, 0, none⟩), .agg #[.int .i64 t0, .int .i64 t1, .int .i64 t2, .int .i64 t3]] W (GDoneQ W C c rb k (f.takeUp (t0, t1, t2, t3, 0))) := by
  obtain ⟨w1, hw1⟩ : ∃ w1, w1 = W.alloc (.cells #[.int .i64 t0, .int .i64 t1, .int .i64 t2, .int .i64 t3] 119) := ⟨_, rfl⟩
  obtain ⟨g, hg⟩ : ∃ g, g = W.heap.size := ⟨_, rfl⟩
  have B1 : Hid (Below W.heap.size W w1) := Lib.hid (by rw [hw1]; exact (Below.refl _ _).alloc (Nat.le_refl _) _)
  have K1 : Hid (Blk w1 g 119 #[.int .i64 t0, .int .i64 t1, .int .i64 t2, .int .i64 t3]) := Lib.hid (by rw [hw1]; exact Blk.new W _ _ hg)
  have HGR : Hid (g ≠ rb) := Lib.hid (by obtain ⟨mb, v, hf⟩ := h; have := hf.lt.1; omega)
  have Q1 : Hid (GfQ W C c rb k f w1) := Lib.hid ((GfQ.refl h).below B1.out)
  have HM := Lib.hid hm
  have HS := Lib.hid (And.intro hs (And.intro hlt ht1))
  have hw := IntWalk.i64_in (t1 - f.se) (by have := hs.1; have := hs.2; omega)
  have hw2 := IntWalk.i64_in (t1 - f.se - 1) (by have := hs.1; have := hs.2; omega)
  clear h hm hs hlt ht1
  go_enter Tryz.func137, Tryz.ntmps137
  go_upto_region 1 with fail
  rw [← hw1, ← hg]
  clear hw1 hg
  refine wp_region_any (by kernel_rfl) ?_
  change wpAny _ _ _ _ _ _ _ (World.drew _)
  refine wpAny_of_held (S := fun w' => w'.cell? ⟨g, 1, none⟩ = some (.int .i64 t1) ∧ w'.cell? ⟨rb, 4, none⟩ = some (.int .i64 f.se)) _ _ _ _ ?_
  obtain ⟨w2, hw2'⟩ : ∃ w2, w2 = w1.drew := ⟨_, rfl⟩
  have Q2 : Hid (GfQ W C c rb k f w2) := Lib.hid (by rw [hw2']; exact Q1.out.drew)
  have K2 : Hid (Blk w2 g 119 #[.int .i64 t0, .int .i64 t1, .int .i64 t2, .int .i64 t3]) := Lib.hid (by rw [hw2']; exact K1.out)
  rw [← hw2']
  clear hw2' Q1 K1
  have hHeld : (fun w' => w'.cell? ⟨g, 1, none⟩ = some (.int .i64 t1) ∧ w'.cell? ⟨rb, 4, none⟩ = some (.int .i64 f.se)) w2 := ⟨K2.out.cell 1, (Q2.out.1.cells).2.2.2.2.1⟩
  have CU := Lib.hid (gf_more rb 8 f.mi (t1 - f.se - 1) w2 (Q2.out.1.cells).2.2.2.2.2.2.2.2.1 (Q2.out.1.frozen 8) HM.out.1 HM.out.2 (by have := HS.out.2.1; omega) (by have := HS.out.1.1; have := HS.out.2.2; omega))
  refine tkh 0 (v := ?_) rfl ?_ ?_; rotate_left
  · intro w hSw; (try dsimp only at hSw); go_simp <;> with_reducible rfl
  try simp only [Act.put, pz]
  refine tkh 1 (v := ?_) rfl ?_ ?_; rotate_left
  · intro w hSw; (try dsimp only at hSw); go_simp <;> with_reducible rfl
  try simp only [Act.put, pz]
  refine tkh 2 (v := ?_) rfl ?_ ?_; rotate_left
  · intro w hSw; (try dsimp only at hSw); go_simp <;> with_reducible rfl
  try simp only [Act.put, pz]
  refine tkh 3 (v := ?_) rfl ?_ ?_; rotate_left
  · intro w hSw; (try dsimp only at hSw); go_simp <;> with_reducible rfl
  try simp only [Act.put, pz]
  refine tkh 4 (v := ?_) rfl ?_ ?_; rotate_left
  · intro w hSw; (try dsimp only at hSw); go_simp <;> with_reducible rfl
  try simp only [Act.put, pz]
  refine tkh 5 (v := ?_) rfl ?_ ?_; rotate_left
  · intro w hSw; (try dsimp only at hSw); go_simp <;> with_reducible rfl
  try simp only [Act.put, pz]
  refine tkh 6 (v := ?_) rfl ?_ ?_; rotate_left
  · intro w hSw; obtain ⟨q0, q1⟩ := hSw; go_simp <;> with_reducible rfl
  try simp only [Act.put, pz]
  refine tkh 7 (v := ?_) rfl ?_ ?_; rotate_left
  · intro w hSw; (try dsimp only at hSw); go_simp <;> with_reducible rfl
  try simp only [Act.put, pz]
  refine tkh 8 (v := ?_) rfl ?_ ?_; rotate_left
  · intro w hSw; (try dsimp only at hSw); go_simp <;> with_reducible rfl
  try simp only [Act.put, pz]
  refine tkh 9 (v := ?_) rfl ?_ ?_; rotate_left
  · intro w hSw; (try dsimp only at hSw); go_simp <;> with_reducible rfl
  try simp only [Act.put, pz]
  refine tkh 10 (v := ?_) rfl ?_ ?_; rotate_left
  · intro w hSw; (try dsimp only at hSw); go_simp <;> with_reducible rfl
  try simp only [Act.put, pz]
  refine tkh 11 (v := ?_) rfl ?_ ?_; rotate_left
  · intro w hSw; obtain ⟨q0, q1⟩ := hSw; go_simp <;> with_reducible rfl
  try simp only [Act.put, pz]
  refine tkh 12 (v := ?_) rfl ?_ ?_; rotate_left
  · intro w hSw; (try dsimp only at hSw); go_simp <;> with_reducible rfl
  try simp only [Act.put, pz]
  refine tkh 13 (v := ?_) rfl ?_ ?_; rotate_left
  · intro w hSw; (try dsimp only at hSw); go_simp <;> with_reducible rfl
  try simp only [Act.put, pz]
  refine wpAnyH_ready (rs := [14]) (by kernel_rfl) (by simp) (AllReadyH.cons rfl (fun K hK => ?_) AllReadyH.nil)
  have hPrev := hHeld
  clear hHeld
  go_simp
  clear hw hw2
  refine CU.out.mono ?_
  rintro e w3 ⟨rfl, hw3⟩
  have Q3 : Hid (GfQ W C c rb k (f.put 4 (upv f.mi (t1 - f.se - 1))) w3) := Lib.hid (by rw [hw3]; exact Q2.out.put (i := 4) (by decide) _)
  have K3 : Hid (Blk w3 g 119 #[.int .i64 t0, .int .i64 t1, .int .i64 t2, .int .i64 t3]) := Lib.hid (by rw [hw3]; exact K2.out.far HGR.out _)
  clear hw3 CU
  refine hK.out _ _ (⟨K3.out.cell 1, (Q3.out.1.cells).2.2.2.2.1⟩) (fun hHeld => ?_)
  clear hK K hPrev
  try simp only [Act.put, pz]
  refine wpAnyH_done (by kernel_rfl) ?_ _
  clear hHeld Q2 K2
  obtain ⟨q0, q1, q2, q3, q4, q5, q6, q7, q8, q9, q10, q11, q12⟩ := Q3.out.1.cells
  have z4 := Q3.out.1.frozen 4
  have z5 := Q3.out.1.frozen 5
  have z6 := Q3.out.1.frozen 6
  have z7 := Q3.out.1.frozen 7
  have y0 : w3.cell? ⟨g, 0, none⟩ = some (.int .i64 t0) := K3.out.cell 0
  have y1 : w3.cell? ⟨g, 1, none⟩ = some (.int .i64 t1) := K3.out.cell 1
  have y2 : w3.cell? ⟨g, 2, none⟩ = some (.int .i64 t2) := K3.out.cell 2
  have hne : g ≠ rb := HGR.out
  obtain ⟨w4, hw4⟩ : ∃ w4, w4 = (((w3.setCell ⟨rb, 4, none⟩ (.int .i64 t1)).setCell ⟨rb, 5, none⟩ (.int .i64 t0)).setCell ⟨rb, 6, none⟩ (.int .i64 t2)).setCell ⟨rb, 7, none⟩ (.int .i64 0) := ⟨_, rfl⟩
  have Q4 : Hid (GfQ W C c rb k (((((f.put 4 (upv f.mi (t1 - f.se - 1))).put 0 t1).put 1 t0).put 2 t2).put 3 0) w4) := Lib.hid (by rw [hw4]; exact (((Q3.out.put (i := 0) (by decide) t1).put (i := 1) (by decide) t0).put (i := 2) (by decide) t2).put (i := 3) (by decide) 0)
  obtain ⟨mb, v, y9, hm, hK⟩ := Q4.out.1.maker
  have CD := Lib.hid (rdrop_any mb v k.line _ _ w4 hm)
  have HK := Lib.hid hK
  clear hm hK Q3 K3
  go_upto_region 6 with fail
  rw [← hw4]
  clear hw4 q0 q1 q2 q3 q4 q5 q6 q7 q8 q9 q10 q11 q12 z4 z5 z6 z7 y0 y1 y2
  go_wp2_with fail
  refine CD.out.mono ?_
  rintro e w5 ⟨rfl, hm2, hc2⟩
  have HF : Hid (GDoneQ W C c rb k (f.takeUp (t0, t1, t2, t3, 0)) (.returned (.tuple #[])) w5) := Lib.hid ⟨rfl, Q4.out.trans (HK.out _ _ _ _ hm2 hc2 (Fresh.nil _ _))⟩
  clear hm2 hc2
  go_wp2_with fail
  go_end0
  exact HF.out
set_option maxRecDepth 20000 in
set_option maxHeartbeats 2000000 in
theorem gf_named {W : World} {p : Nat} {D : World → Prop} {S : List UInt8 → T5} {I : Int → T5} {R : Int → Int → Int → Int → List UInt8 × Int} (nm : List UInt8) (n : Int) (ha : RAsks p D S I R) (hD : D W) : Calls Tryz.prog 134 #[.pointer (some ⟨p, 0, none⟩), .string (strB nm), .int .i64 n] W fun e w' => e = .returned (.bool (namesB (S nm) n)) ∧ Below W.heap.size W w' := by
  have CS := Lib.hid (ha.stat W nm hD)
  obtain ⟨⟨t0, t1, t2, t3, t4⟩, ht⟩ : ∃ t, t = S nm := ⟨_, rfl⟩
  rw [← ht] at CS ⊢
  clear ha hD ht
  by_cases h4 : t4 = 0
  · subst h4
    go_enter Tryz.func134, Tryz.ntmps134
    go_wp2_with fail
    refine CS.out.mono ?_
    rintro e w2 ⟨rfl, hb2⟩
    simp only
    have B2 := Lib.hid (hb2.alloc hb2.size (.cells #[.int .i64 t0, .int .i64 t1, .int .i64 t2, .int .i64 t3] 119))
    clear hb2 CS
    go_wp2_with fail
    go_ret
    exact ⟨by unfold namesB; by_cases h : t0 = n <;> simp [h], B2.out⟩
  · have hne : (t4 == (0 : Int)) = false := beq_eq_false_iff_ne.2 h4
    go_enter Tryz.func134, Tryz.ntmps134
    go_wp2_with fail
    refine CS.out.mono ?_
    rintro e w2 ⟨rfl, hb2⟩
    simp only
    have B2 := Lib.hid (hb2.alloc hb2.size (.cells #[.int .i64 t0, .int .i64 t1, .int .i64 t2, .int .i64 t3] 119))
    clear hb2 CS
    go_wp2_with fail
    go_ret
    exact ⟨by unfold namesB; simp [h4], B2.out⟩
end Go.Proofs.YtlojmmcagglpoaaGreat
