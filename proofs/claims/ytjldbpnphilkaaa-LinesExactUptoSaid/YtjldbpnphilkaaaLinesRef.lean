/- THE WALKS of package heronref16: the document's maker behind its pointer. -/
import Derived.Test.YtjldbpnphilkaaaLinesWalk
import Derived.Deep.RegionLaw
namespace Go.Proofs.Ytjldbpnphilkaaa
open Go.RowKit
structure RM (w : World) (g : Nat) (v : Value) (most : Nat) (u : List UInt8) (long : Nat) : Prop where
  blk : Blk w g 55 #[.int .i64 (most : Int), v, .int .i64 (long : Int)]
  own : OB w 0 v u
theorem RM.nobytes {w : World} {g : Nat} {v : Value} {most long : Nat} {u : List UInt8} (h : RM w g v most u long) {A : Option Addr} {n : Nat} {l : List UInt8} (hr : RB w A n l) : 0 < n → ∀ ad, A = some ad → ad.block ≠ g :=
  h.blk.nobytes hr (fun i x => by
    match i with
    | 0 => simp
    | 1 => obtain ⟨A, c, rfl, _⟩ := h.own.form; simp
    | 2 => simp
    | i + 3 => simp)
def RefPost (g : Nat) (v : Value) (most long : Nat) (u b : List UInt8) (w : World) (e : Ending) (w' : World) : Prop :=
  e = .returned (.tuple #[.string (strOf (feedS most u b)), .int .i64 (feedN b : Int), .bool (feedW most u b)]) ∧ ∃ v', RM w' g v' most (feedU u b) (feedL most long u b) ∧ Chg (ownF g v) w w' ∧ Fresh w v v'
set_option maxHeartbeats 4000000 in
theorem refFeed_any (g : Nat) (v : Value) (most long : Nat) (u : List UInt8) (A : Option Addr) (n cap : Nat) (b : List UInt8) (w : World) (hm : RM w g v most u long) (hr : RB w A n b) (hsep : 0 < n → ∀ ad, A = some ad → v.ownBlock ≠ some ad.block) (hncap : n ≤ cap) (hmost : most ≤ 4096) (hlen : u.length + n ≤ 140737488355328) (hlong : long ≤ 140737488355328) :
    Calls Try.prog 12 #[.pointer (some ⟨g, 0, none⟩), .slice A n cap] w (RefPost g v most long u b w) := by
  have HM := Lib.hid hm; clear hm
  have HR := Lib.hid hr; clear hr
  have HS := Lib.hid hsep; clear hsep
  have HBN := Lib.hid HR.out.1
  go_enter Try.func12, Try.ntmps12
  go_wp2_with fail
  go_loopw [7] (fun i W => ∃ k : Nat, k ≤ n ∧ i = .int .i64 k ∧ Hid (∀ j, j < k → ∀ c, b[j]? = some c → c ≠ 10) ∧ ∃ v1, RM W g v1 most (u ++ b.take k) long ∧ Chg (ownF g v) w W ∧ Fresh w v v1) (fun i _ => n - (intOf i).toNat)
  case atStart => exact ⟨0, Nat.zero_le _, rfl, fun j hj => absurd hj (by omega), v, by simpa using HM.out, Chg.refl _ _, fun k h => .inl h⟩
  case round =>
    obtain ⟨k, hk, rfl, HK, v1, hm1, hch, hfr⟩ := hrel
    have HM1 := Lib.hid hm1
    have hul : (u ++ b.take k).length = u.length + k := by have := HBN.out; simp; omega
    have HUL := Lib.hid hul; clear hul
    by_cases hlt : k < n
    · obtain ⟨bb, off, rfl, hbb, c, hc, hcell⟩ := HR.out.at_ hlt
      have hnb : bb ≠ g := HM.out.nobytes HR.out (by omega) _ rfl
      have hnv : v.ownBlock ≠ some bb := HS.out (by omega) _ rfl
      rw [← hch.cell (p := ⟨bb, off + k, none⟩) hbb (fun h => by rcases h with h | h; exact hnb h; exact hnv h)] at hcell
      have HC := Lib.hid hc; clear hc
      have HNB := Lib.hid hnb; clear hnb hnv
      have c1 : wr.cell? ⟨g, 1, none⟩ = some v1 := hm1.blk.cell 1
      have f1 := hm1.blk.frozen 1
      by_cases h10 : c = 10
      · have ht : ((c.toNat : Int) != 10) = false := by rw [h10]; rfl
        have hup : upN b = k := upN_at HK.out HC.out h10
        have H10 := Lib.hid h10; clear h10
        have h1 : upN b < b.length := by have := HBN.out; omega
        have hU : feedU u b = [] := by unfold feedU; rw [if_pos h1]
        have hN : feedN b = k + 1 := by unfold feedN; rw [if_pos h1, hup]
        have c0 : wr.cell? ⟨g, 0, none⟩ = some (.int .i64 (most : Int)) := hm1.blk.cell 0
        have c2 : wr.cell? ⟨g, 2, none⟩ = some (.int .i64 (long : Int)) := hm1.blk.cell 2
        have f2 := hm1.blk.frozen 2
        obtain ⟨D, dc, rfl, _, _, hr2⟩ := hm1.own.form
        have hcv := conv_bytes _ _ _ dc _ hr2
        have hsz : (strOf (u ++ b.take k)).size = u.length + k := by rw [← HUL.out]; unfold strOf; rfl
        have hS : feedW most u b = true → strOf (feedS most u b) = strOf (u ++ b.take k) := fun h => by unfold feedS; rw [if_pos h, hup]
        have hW : feedW most u b = decide (u.length + k ≤ most) := by unfold feedW; rw [hup, HUL.out]; simp; intro _; omega
        have hL : feedL most long u b = if most < u.length + k then long + 1 else long := by
          unfold feedL; rw [hup, HUL.out]
          by_cases h : most < u.length + k
          · rw [if_pos ⟨by omega, h⟩, if_pos h]
          · rw [if_neg (fun h' => h h'.2), if_neg h]
        generalize (u ++ b.take k).length = hl at *
        obtain ⟨st, hst⟩ : ∃ st, st = strOf (u ++ b.take k) := ⟨_, rfl⟩
        rw [← hst] at hcv hsz hS
        have HST := Lib.hid hst; clear hst
        have hblk := hm1.blk
        have HB := Lib.hid hblk; clear hblk
        by_cases hbig : most < u.length + k
        · have hWf : feedW most u b = false := by rw [hW]; simp; omega
          have hF : RefPost g v most long u b w (.returned (.tuple #[.string ByteArray.empty, .int .i64 ((k : Int) + 1), .bool false])) ((wr.setCell ⟨g, 1, none⟩ (.slice none 0 0)).setCell ⟨g, 2, none⟩ (.int .i64 ((long : Int) + 1))) := by
            refine ⟨?_, .slice none 0 0, ⟨?_, by rw [hU]; exact OB.nil _ _⟩, (hch.setCell (.inl (.inl rfl)) _).setCell (.inl (.inl rfl)) _, Fresh.nil _ _⟩
            · rw [hN, hWf, show feedS most u b = [] from by unfold feedS; rw [hWf]; rfl, strOf_nil]; rfl
            · rw [hL, if_pos hbig]
              have := (HB.out.set_ 1 (.slice none 0 0)).set_ 2 (.int .i64 ((long : Int) + 1))
              simpa using this
          have HF := Lib.hid hF
          clear hF hWf hW hS hL hU hN h1 hup hm1 hr2
          go_wp2_with fail
          go_ret3
          exact HF.out
        · have hWt : feedW most u b = true := by rw [hW]; simp; omega
          have hF : RefPost g v most long u b w (.returned (.tuple #[.string st, .int .i64 ((k : Int) + 1), .bool true])) (wr.setCell ⟨g, 1, none⟩ (.slice none 0 0)) := by
            refine ⟨?_, .slice none 0 0, ⟨?_, by rw [hU]; exact OB.nil _ _⟩, hch.setCell (.inl (.inl rfl)) _, Fresh.nil _ _⟩
            · rw [hN, hWt, hS hWt]; rfl
            · rw [hL, if_neg hbig]
              have := HB.out.set_ 1 (.slice none 0 0)
              simpa using this
          have HF := Lib.hid hF
          clear hF hWt hW hS hL hU hN h1 hup hm1 hr2
          go_wp2_with fail
          go_ret3
          exact HF.out
      · have ht : ((c.toNat : Int) != 10) = true := by
          rw [bne_iff_ne]
          intro h
          exact h10 (UInt8.toNat_inj.1 (by have : (10 : UInt8).toNat = 10 := rfl; omega))
        have H10 := Lib.hid h10; clear h10
        have O1 : Hid (OB (wr.alloc (.cells #[.int .u8 (c.toNat : Int)] 5)).drew 0 v1 (u ++ b.take k)) := Lib.hid (hm1.own.keep (((Below.refl _ _).alloc (Nat.le_refl _) _).drew))
        have R1 : Hid (RB (wr.alloc (.cells #[.int .u8 (c.toNat : Int)] 5)).drew (some ⟨wr.heap.size, 0, none⟩) 1 [c]) := Lib.hid (RB.new wr 5 (0, 0) #[.int .u8 (c.toNat : Int)] [c] rfl 1 rfl)
        have B1 : Hid (Blk (wr.alloc (.cells #[.int .u8 (c.toNat : Int)] 5)).drew g 55 #[.int .i64 (most : Int), v1, .int .i64 (long : Int)]) := Lib.hid (hm1.blk.alloc _)
        have c1a : (wr.alloc (.cells #[.int .u8 (c.toNat : Int)] 5)).cell? ⟨g, 1, none⟩ = some v1 := B1.out.cell 1
        have hL : (u ++ b.take k).length + 1 ≤ 140737488355328 := by have := HUL.out; omega
        have HL := Lib.hid hL; clear hL
        have HNE := Lib.hid (hm1.blk.apart hm1.own (by decide))
        clear hm1
        go_wp2_with fail
        go_region_law ((refine step_append_bytes rfl (.tmp 24) (.tmp 29) rfl 0 v1 (u ++ b.take k) (by simp [Act.eval]) O1.out (some ⟨wr.heap.size, 0, none⟩) 1 1 [c] (by simp [Act.eval]) R1.out HL.out (by omega) ?_; intro v2 w2 ho2 hg2 ha2; obtain ⟨D, dc, rfl, hdc, hdm, hr2⟩ := ho2.form; have B2 := B1.out.grown hg2 HNE.out; have d1 : w2.cell? ⟨g, 1, none⟩ = some v1 := B2.cell 1; have e1 := B2.frozen 1; have O2 := Lib.hid ho2; clear ho2; have BB := Lib.hid B2; clear B2; have HG := Lib.hid hg2; clear hg2; have HA := Lib.hid ha2; clear ha2 hr2))
        all_goals
          have hl3 : (u ++ b.take k ++ [c]).length = u.length + (min k b.length + 1) := by simp
          have h2 := O2.out
          rw [hl3] at h2
          have hfr2 : Fresh w v (.slice D (u.length + (min k b.length + 1)) dc) := fun q hq => by
            have hA := HA.out
            rw [hl3] at hA
            rcases hA with h | h
            · rw [h] at hq; exact hfr q hq
            · right
              rw [hq] at h
              have := Option.some.inj h
              have := hch.size
              simp at *; omega
          have hch2 : Chg (ownF g v) w w2 := ((hch.alloc _).drew).grown HG.out (fun q hq hlt => by
            rcases hfr q hq with h | h
            · exact .inr h
            · omega)
          have hm2 : RM (w2.setCell ⟨g, 1, none⟩ (.slice D (u.length + (min k b.length + 1)) dc)) g (.slice D (u.length + (min k b.length + 1)) dc) most (u ++ b.take (k + 1)) long := by
            refine ⟨?_, ?_⟩
            · have := BB.out.set_ 1 (.slice D (u.length + (min k b.length + 1)) dc)
              simpa using this
            · rw [take_snoc HC.out, ← List.append_assoc]
              exact h2.set_far (Blk.apart BB.out h2 (by decide)) _
          have HM2 := Lib.hid hm2; clear hm2
          have HC2 := Lib.hid (hch2.setCell (p := ⟨g, 1, none⟩) (.inl (.inl rfl)) (.slice D (u.length + (min k b.length + 1)) dc)); clear hch2
          have HF2 := Lib.hid hfr2; clear hfr2
          clear h2 hl3 HG HA O2 BB d1 e1 c1a O1 R1 B1 hdc
          go_wp2_with fail
          go_roundw
          case rel => exact ⟨k + 1, by omega, by go_num, fun j hj c' hc' => by
            by_cases hjk : j < k
            · exact HK.out j hjk c' hc'
            · obtain rfl : j = k := by omega
              have h1 := HC.out
              rw [h1] at hc'
              obtain rfl := Option.some.inj hc'
              exact H10.out, _, HM2.out, HC2.out, HF2.out⟩
          case measure => simp [intOf]; omega
    · obtain rfl : k = n := by omega
      have hup : upN b = b.length := by
        have h1 := takeWhile_all HK.out (by have := HBN.out; omega)
        have h2 := upN_le b
        have h3 := HBN.out
        omega
      have h1 : ¬ upN b < b.length := by omega
      have hWf : feedW most u b = false := by unfold feedW; simp [h1]
      have hF : RefPost g v most long u b w (.returned (.tuple #[.string ByteArray.empty, .int .i64 (k : Int), .bool false])) wr := by
        refine ⟨?_, v1, ?_, hch, hfr⟩
        · rw [hWf, show feedS most u b = [] from by unfold feedS; rw [hWf]; rfl, strOf_nil, show feedN b = k from by unfold feedN; rw [if_neg h1]; exact HBN.out]
        · rw [show feedU u b = u ++ b.take k from by unfold feedU; rw [if_neg h1, List.take_of_length_le (by have := HBN.out; omega)], show feedL most long u b = long from by unfold feedL; rw [if_neg (fun h => h1 h.1)]]
          exact HM1.out
      have HF := Lib.hid hF
      clear hF hWf h1 hup hm1
      go_wp2_with fail
      go_ret3
      exact HF.out
end Go.Proofs.Ytjldbpnphilkaaa
