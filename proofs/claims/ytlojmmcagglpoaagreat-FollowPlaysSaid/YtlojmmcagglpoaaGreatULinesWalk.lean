/- THE WALKS of package lines: a maker of lines behind its pointer. -/
import Derived.Test.YtlojmmcagglpoaaGreatUDisk
import Derived.Test.YtlojmmcagglpoaaGreatUFrame
import Derived.Test.YtlojmmcagglpoaaGreatUMem
import Derived.Laws.BytesArg
import Derived.Deep.QuietTactic
import Derived.BigQuiet
namespace Go.Proofs.YtlojmmcagglpoaaGreat
open Go.RowKit
def strOf (l : List UInt8) : ByteArray := ⟨l.toArray⟩
set_option maxRecDepth 20000 in
theorem conv_bytes (w : World) (A : Option Addr) (n c : Nat) (l : List UInt8) (h : RB w A n l) : (convert 61 9 (.slice A n c)).run Tryz.prog w = .ok (.string (strOf l)) w := by
  by_cases h0 : n = 0
  · subst h0
    obtain rfl : l = [] := List.eq_nil_of_length_eq_zero h.1
    rw [run_convert_bytes_string w _ _ 5 _ 0 c Tryz.underlying61 Tryz.underlying5 Tryz.underlying9]
    cases A <;> simp [Conv.bytesToString, loadCells]
    all_goals rfl
  · obtain ⟨b, off, rfl, hb, hc⟩ := h.2 (by omega)
    have := run_convert_bytes_arg (P := Tryz.prog) w 61 5 Tryz.underlying61 Tryz.underlying5 b off n c (l.map fun x => (x.toNat : Int)) (by simp [h.1]) (fun i hi => by
      have hl : i < l.length := by have := h.1; omega
      rw [hc i _ (List.getElem?_eq_getElem hl)]
      simp [byteV, List.getD_eq_getElem?_getD, List.getElem?_map, List.getElem?_eq_getElem hl]) 9 Tryz.underlying9
    rw [this]
    congr 2
    unfold strOfNums strOf
    congr 1
    rw [List.map_map]
    congr 1
    conv => rhs; rw [← List.map_id l]
    refine List.map_congr_left fun x _ => ?_
    simp
def Room (w : World) (base g n c : Nat) (b : List UInt8) : Prop := b.length = n ∧ n + 2 ≤ c ∧ OB w base (.slice (some ⟨g, 0, none⟩) (n + 2) c) (b ++ [0xD1, 0xD2])
def LR (w : World) (base : Nat) (vals : List Value) (ps : List (List UInt8)) : Prop :=
  vals.length = ps.length ∧ ∀ (j : Nat) (p : List UInt8), ps[j]? = some p → ∃ g c, vals[j]? = some (Value.slice (some ⟨g, 0, none⟩) p.length c) ∧ Room w base g p.length c p
end Go.Proofs.YtlojmmcagglpoaaGreat
namespace Go.Proofs.YtlojmmcagglpoaaGreat
open Go.RowKit
def heldOf (most : Nat) (u : List UInt8) : List UInt8 := if u.length ≤ most then u else []
structure MK (w : World) (g : Nat) (v : Value) (most : Nat) (u : List UInt8) (long : Nat) : Prop where
  blk : Blk w g 229 #[v, .int .i64 (most : Int), .int .i64 (u.length : Int), .int .i64 (long : Int)]
  own : OB w 0 v (heldOf most u)
def ownF (g : Nat) (v : Value) : Nat → Prop := fun k => k = g ∨ v.ownBlock = some k
def Fresh (w : World) (v v' : Value) : Prop := ∀ k, v'.ownBlock = some k → v.ownBlock = some k ∨ w.heap.size ≤ k
theorem Fresh.nil (w : World) (v : Value) : Fresh w v (.slice none 0 0) := fun k h => by simp [Value.ownBlock] at h
def TakePost (g : Nat) (v : Value) (most : Nat) (u : List UInt8) (long : Nat) (w : World) (e : Ending) (w' : World) : Prop :=
  e = .returned (.tuple #[]) ∧ ∃ v', MK w' g v' most u long ∧ Chg (ownF g v) w w' ∧ Fresh w v v'
theorem MK.nobytes {w : World} {g : Nat} {v : Value} {most long : Nat} {u : List UInt8} (h : MK w g v most u long) {A : Option Addr} {n : Nat} {l : List UInt8} (hr : RB w A n l) : 0 < n → ∀ ad, A = some ad → ad.block ≠ g :=
  h.blk.nobytes hr (fun i x => by
    match i with
    | 0 => obtain ⟨A, c, rfl, _⟩ := h.own.form; simp
    | 1 => simp
    | 2 => simp
    | 3 => simp
    | i + 4 => simp)
set_option maxHeartbeats 1000000 in
theorem take_any (g : Nat) (v : Value) (most long : Nat) (u : List UInt8) (A : Option Addr) (n cap : Nat) (b : List UInt8) (w : World) (hm : MK w g v most u long) (hr : RB w A n b) (hmost : most ≤ 4096) (hlen : u.length + n ≤ 140737488355328) :
    Calls Tryz.prog 174 #[.pointer (some ⟨g, 0, none⟩), .slice A n cap] w (TakePost g v most (u ++ b) long w) := by
  have c0 : w.cell? ⟨g, 0, none⟩ = some v := hm.blk.cell 0
  have c1 : w.cell? ⟨g, 1, none⟩ = some (.int .i64 (most : Int)) := hm.blk.cell 1
  have c2 : w.cell? ⟨g, 2, none⟩ = some (.int .i64 (u.length : Int)) := hm.blk.cell 2
  have f0 := hm.blk.frozen 0
  have f2 := hm.blk.frozen 2
  have HM := Lib.hid hm
  have HR := Lib.hid hr; clear hr
  go_enter Tryz.func174, Tryz.ntmps174
  have hbl : (u ++ b).length = u.length + n := by have := HR.out.1; simp; omega
  have HBL := Lib.hid hbl; clear hbl
  have hne : v.ownBlock ≠ some g := hm.blk.apart hm.own (by decide)
  have HN := Lib.hid hne; clear hne
  clear hm
  by_cases hbig : most < u.length + n
  · go_wp2_with fail
    go_quiet (fail)
    go_wp2_with fail
    refine bodyPost_ret (results_none rfl _ _ _) rfl ?_
    refine ⟨rfl, .slice none 0 0, ⟨?_, ?_⟩, ((((Chg.refl _ w).setCell (.inl (.inl rfl)) _).drewN _).setCell (.inl (.inl rfl)) _), Fresh.nil _ _⟩
    · have := ((HM.out.blk.set_ 2 (.int .i64 ((u.length : Int) + n))).drewN nq).set_ 0 (.slice none 0 0)
      rw [HBL.out]
      simpa using this
    · have : heldOf most (u ++ b) = [] := by unfold heldOf; rw [HBL.out, if_neg (by omega)]
      rw [this]
      exact OB.nil _ _
  · have hu : heldOf most u = u := by unfold heldOf; rw [if_pos (by omega)]
    have ho := HM.out.own
    rw [hu] at ho
    have hub : heldOf most (u ++ b) = u ++ b := by unfold heldOf; rw [HBL.out, if_pos (by omega)]
    have HU := Lib.hid hub; clear hub
    clear hu
    have hg0 : ¬ ((u.length : Int) + n > most) := by omega
    go_wp2_with fail
    go_quiet (fail)
    have O1 := Lib.hid (show OB ((w.setCell ⟨g, 2, none⟩ (.int .i64 ((u.length : Int) + n))).drewN nq) 0 v u from ho.set_far HN.out _)
    have R1 := Lib.hid (show RB ((w.setCell ⟨g, 2, none⟩ (.int .i64 ((u.length : Int) + n))).drewN nq) A n b from HR.out.set_far (HM.out.nobytes HR.out) _)
    have B1 := Lib.hid ((HM.out.blk.set_ 2 (.int .i64 ((u.length : Int) + n))).drewN nq)
    clear ho
    go_wp2_with ((at_builtin; go_must (refine append_bytes rfl (.tmp 31) (.tmp 32) rfl 0 v u rfl O1.out A n cap b rfl R1.out hlen (by omega) ?_); intro v2 w2 ho2 hg2 ha2; refine halt ?_))
    refine unhalt ?_
    obtain ⟨D, dc, rfl, hdc, hdm, hr2⟩ := ho2.form
    have B2 := B1.out.grown hg2 HN.out
    have d0 : w2.cell? ⟨g, 0, none⟩ = some v := B2.cell 0
    have e0 := B2.frozen 0
    have hc2 : Chg (ownF g v) w w2 := ((((Chg.refl _ w).setCell (.inl (.inl rfl)) _).drewN nq).grown hg2 (fun k hk _ => .inr hk))
    have HC := Lib.hid hc2; clear hc2
    have BB := Lib.hid B2; clear B2
    have O2 := Lib.hid ho2; clear ho2
    have HF : Hid (Fresh w v (.slice D (u ++ b).length dc)) := Lib.hid (fun k hk => by
      rcases ha2 with h | h
      · left; rw [← h]; exact hk
      · right; rw [hk] at h; have := Option.some.inj h; simp at this; omega)
    clear hg2 ha2 hr2 O1 R1 B1 c0 c1 c2 f0 f2
    go_wp2_with fail
    go_end0
    refine ⟨rfl, .slice D (u ++ b).length dc, ⟨?_, ?_⟩, HC.out.setCell (.inl (.inl rfl)) _, HF.out⟩
    · have := BB.out.set_ 0 (.slice D (u ++ b).length dc)
      rw [HBL.out] at this ⊢
      simpa [HR.out.1] using this
    · rw [HU.out]
      exact O2.out.set_far (Blk.apart BB.out O2.out (by decide)) _
def upN (b : List UInt8) : Nat := (b.takeWhile fun c => c != 10).length
theorem upN_le (b : List UInt8) : upN b ≤ b.length := by unfold upN; exact (List.takeWhile_sublist _).length_le
theorem takeWhile_all {b : List UInt8} {k : Nat} (h : ∀ j, j < k → ∀ c, b[j]? = some c → c ≠ 10) : k ≤ b.length → k ≤ upN b := by
  induction b generalizing k with
  | nil => intro hk; simp at hk; omega
  | cons x b ih =>
    intro hk
    cases k with
    | zero => exact Nat.zero_le _
    | succ k =>
      have hx : x ≠ 10 := h 0 (by omega) x rfl
      have := ih (k := k) (fun j hj c hc => h (j + 1) (by omega) c (by simpa using hc)) (by simpa using hk)
      unfold upN at *
      rw [List.takeWhile_cons_of_pos (by simpa using hx)]
      simp; omega
theorem upN_at {b : List UInt8} {k : Nat} {c : UInt8} (h : ∀ j, j < k → ∀ c, b[j]? = some c → c ≠ 10) (hc : b[k]? = some c) (h10 : c = 10) : upN b = k := by
  induction b generalizing k with
  | nil => simp at hc
  | cons x b ih =>
    cases k with
    | zero =>
      obtain rfl := Option.some.inj hc
      subst h10
      unfold upN
      rw [List.takeWhile_cons_of_neg (by simp)]; rfl
    | succ k =>
      have hx : x ≠ 10 := h 0 (by omega) x rfl
      have := ih (k := k) (fun j hj c hc => h (j + 1) (by omega) c (by simpa using hc)) (by simpa using hc)
      unfold upN at *
      rw [List.takeWhile_cons_of_pos (by simpa using hx)]
      simp [this]
set_option maxHeartbeats 1000000 in
theorem upTo_any (A : Option Addr) (n cap : Nat) (b : List UInt8) (w : World) (hr : RB w A n b) (hn : n ≤ 140737488355328) :
    Calls Tryz.prog 173 #[.slice A n cap] w fun e w' => e = .returned (.int .i64 (upN b : Int)) ∧ w = w' := by
  have HR := Lib.hid hr; clear hr
  go_enter Tryz.func173, Tryz.ntmps173
  go_wp2_with fail
  go_loop [6] (fun i => ∃ k : Nat, k ≤ n ∧ i = .int .i64 k ∧ Hid (∀ j, j < k → ∀ c, b[j]? = some c → c ≠ 10)) (fun i => n - (intOf i).toNat)
  case atStart => exact ⟨0, Nat.zero_le _, rfl, fun j hj => absurd hj (by omega)⟩
  case round =>
    obtain ⟨k, hk, rfl, HK⟩ := hrel
    by_cases hlt : k < n
    · obtain ⟨bb, off, rfl, hbb, c, hc, hcell⟩ := HR.out.at_ hlt
      have HC := Lib.hid hc; clear hc
      by_cases h10 : c = 10
      · have ht : ((c.toNat : Int) == 10) = true := by rw [h10]; rfl
        have H10 := Lib.hid h10; clear h10
        go_wp2_with fail
        go_ret
        rw [upN_at HK.out HC.out H10.out]
        exact ⟨rfl, rfl⟩
      · have ht : ((c.toNat : Int) == 10) = false := by
          rw [beq_eq_false_iff_ne]
          intro h
          exact h10 (UInt8.toNat_inj.1 (by have : (10 : UInt8).toNat = 10 := rfl; omega))
        have H10 := Lib.hid h10; clear h10
        go_wp2_with fail
        go_round
        case rel => exact ⟨k + 1, by omega, by go_num, fun j hj c' hc' => by
          by_cases hjk : j < k
          · exact HK.out j hjk c' hc'
          · obtain rfl : j = k := by omega
            have h1 := HC.out
            rw [h1] at hc'
            obtain rfl := Option.some.inj hc'
            exact H10.out⟩
        case measure => simp [intOf]; omega
    · obtain rfl : k = n := by omega
      have hup : upN b = k := by
        have h1 := takeWhile_all HK.out (by have := HR.out.1; omega)
        have h2 := upN_le b
        have h3 := HR.out.1
        omega
      have HU := Lib.hid hup; clear hup
      go_wp2_with fail
      go_ret
      rw [HU.out]
      exact ⟨rfl, rfl⟩
theorem drop_any (g : Nat) (v : Value) (most long : Nat) (u : List UInt8) (w : World) (hm : MK w g v most u long) :
    Calls Tryz.prog 153 #[.pointer (some ⟨g, 0, none⟩)] w fun e w' => e = .returned (.tuple #[]) ∧ MK w' g (.slice none 0 0) most [] long ∧ Chg (ownF g v) w w' := by
  have c0 : w.cell? ⟨g, 0, none⟩ = some v := hm.blk.cell 0
  have c2 : w.cell? ⟨g, 2, none⟩ = some (.int .i64 (u.length : Int)) := hm.blk.cell 2
  have f0 := hm.blk.frozen 0
  have f2 := hm.blk.frozen 2
  have HM := Lib.hid hm; clear hm
  go_enter Tryz.func153, Tryz.ntmps153
  go_wp2_with fail
  go_end0
  refine ⟨rfl, ⟨?_, ?_⟩, ((Chg.refl _ w).setCell (.inl (.inl rfl)) _).setCell (.inl (.inl rfl)) _⟩
  · have := (HM.out.blk.set_ 0 (.slice none 0 0)).set_ 2 (.int .i64 0)
    simpa using this
  · unfold heldOf; simp; exact OB.nil _ _
def feedW (most : Nat) (u b : List UInt8) : Bool := decide (upN b < b.length) && decide ((u ++ b.take (upN b)).length ≤ most)
def feedS (most : Nat) (u b : List UInt8) : List UInt8 := if feedW most u b = true then u ++ b.take (upN b) else []
def feedN (b : List UInt8) : Nat := if upN b < b.length then upN b + 1 else b.length
def feedU (u b : List UInt8) : List UInt8 := if upN b < b.length then [] else u ++ b
def feedL (most long : Nat) (u b : List UInt8) : Nat := if upN b < b.length ∧ most < (u ++ b.take (upN b)).length then long + 1 else long
def FeedPost (g : Nat) (v : Value) (most long : Nat) (u b : List UInt8) (w : World) (e : Ending) (w' : World) : Prop :=
  e = .returned (.tuple #[.string (strOf (feedS most u b)), .int .i64 (feedN b : Int), .bool (feedW most u b)]) ∧ ∃ v', MK w' g v' most (feedU u b) (feedL most long u b) ∧ Chg (ownF g v) w w' ∧ Fresh w v v'
theorem strOf_nil : strOf [] = ByteArray.empty := rfl
set_option maxHeartbeats 2000000 in
theorem feed_any (g : Nat) (v : Value) (most long : Nat) (u : List UInt8) (A : Option Addr) (n cap : Nat) (b : List UInt8) (w : World) (hm : MK w g v most u long) (hr : RB w A n b) (hncap : n ≤ cap) (hmost : most ≤ 4096) (hlen : u.length + n ≤ 140737488355328) (hlong : long ≤ 140737488355328) :
    Calls Tryz.prog 156 #[.pointer (some ⟨g, 0, none⟩), .slice A n cap] w (FeedPost g v most long u b w) := by
  have HM := Lib.hid hm; clear hm
  have HR := Lib.hid hr; clear hr
  have hup := upN_le b
  have hbn := HR.out.1
  have hp : upN b ≤ n := by omega
  have HT := Lib.hid (HR.out.take hp)
  have HW : Hid (feedW most u b = (decide (upN b < b.length) && decide ((u ++ b.take (upN b)).length ≤ most))) := Lib.hid rfl
  have HN : Hid (feedN b = if upN b < b.length then upN b + 1 else b.length) := Lib.hid rfl
  obtain ⟨p, hpd⟩ : ∃ p, p = upN b := ⟨_, rfl⟩
  rw [← hpd] at hup hp HT HW HN
  have HPD := Lib.hid hpd; clear hpd
  have hul : (u ++ b.take p).length = u.length + p := by simp; omega
  have HUL := Lib.hid hul; clear hul
  have hlen2 : u.length + p ≤ 140737488355328 := by omega
  have HBN := Lib.hid hbn; clear hbn
  clear hup
  go_enter Tryz.func156, Tryz.ntmps156
  go_wp2_with fail
  refine (upTo_any _ _ _ b _ HR.out (by omega)).mono ?_
  rintro e w' ⟨rfl, rfl⟩
  rw [← HPD.out]
  go_wp2_with fail
  refine (take_any g v most long u A p cap (b.take p) w HM.out HT.out hmost hlen2).mono ?_
  intro e w2 hpost
  obtain ⟨rfl, v2, hm2, hc2, hf2⟩ := hpost
  by_cases hpn : p = n
  · have ht : ((p : Int) == (n : Int)) = true := by rw [beq_iff_eq]; omega
    have HP := Lib.hid hpn; clear hpn
    have HM2 := Lib.hid hm2; clear hm2
    have hF : FeedPost g v most long u b w (.returned (.tuple #[.string ByteArray.empty, .int .i64 (p : Int), .bool false])) w2 := by
      have h1 : ¬ upN b < b.length := by have := HPD.out; have := HP.out; have := HBN.out; omega
      have h2 : feedW most u b = false := by unfold feedW; simp [h1]
      refine ⟨?_, v2, ?_, hc2, hf2⟩
      · rw [show feedS most u b = [] from by unfold feedS; rw [h2]; rfl, h2, strOf_nil, show feedN b = p from by unfold feedN; rw [if_neg h1]; have := HP.out; have := HBN.out; omega]
      · rw [show feedU u b = u ++ b.take p from by unfold feedU; rw [if_neg h1, List.take_of_length_le (by have := HP.out; have := HBN.out; omega)], show feedL most long u b = long from by unfold feedL; rw [if_neg (fun h => h1 h.1)]]
        exact HM2.out
    have HF := Lib.hid hF; clear hF
    go_wp2_with fail
    go_ret3
    exact HF.out
  · have ht : ((p : Int) == (n : Int)) = false := by rw [beq_eq_false_iff_ne]; omega
    have hlt : p < n := by omega
    clear hpn
    have c0 : w2.cell? ⟨g, 0, none⟩ = some v2 := hm2.blk.cell 0
    have c1 : w2.cell? ⟨g, 1, none⟩ = some (.int .i64 (most : Int)) := hm2.blk.cell 1
    have c2 : w2.cell? ⟨g, 2, none⟩ = some (.int .i64 ((u ++ b.take p).length : Int)) := hm2.blk.cell 2
    rw [HUL.out] at c2
    obtain ⟨D, dc, rfl, _, _, hr2⟩ := hm2.own.form
    have hcv : ∀ m, (convert 61 9 (.slice D (heldOf most (u ++ b.take p)).length dc)).run Tryz.prog (w2.drewN m) = .ok (.string (strOf (heldOf most (u ++ b.take p)))) (w2.drewN m) := fun m => conv_bytes _ _ _ _ _ (hr2.drewN m)
    have HM2 := Lib.hid hm2
    have h1 : upN b < b.length := by have := HPD.out; have := HBN.out; omega
    have hU : feedU u b = [] := by unfold feedU; rw [if_pos h1]
    have hN : feedN b = p + 1 := by unfold feedN; rw [if_pos h1, ← HPD.out]
    by_cases hbig : u.length + p ≤ most
    · have hW : feedW most u b = true := by unfold feedW; simp [h1]; rw [← HPD.out]; have := HUL.out; simp at this; omega
      have hS : strOf (heldOf most (u ++ b.take p)) = strOf (feedS most u b) := by
        unfold feedS heldOf; rw [hW, HUL.out, if_pos hbig, if_pos rfl, ← HPD.out]
      have hL : feedL most long u b = long := by unfold feedL; rw [if_neg]; rw [← HPD.out, HUL.out]; omega
      have hd : decide ((u.length : Int) + (p : Int) ≤ (most : Int)) = true := by simp; omega
      rw [hS] at hcv
      generalize (heldOf most (u ++ b.take p)).length = hl at *
      have Hx := Lib.hid (And.intro hU (And.intro hN (And.intro hW hL))); clear hU hN hW hL hS h1
      clear hm2 hr2
      go_wp2_with fail
      go_quiet (fail)
      go_wp2_with fail
      refine (drop_any g _ most long (u ++ b.take p) _ ⟨HM2.out.blk.drewN nq, HM2.out.own⟩).mono ?_
      rintro e w3 ⟨rfl, hm3, hc3⟩
      have hF : FeedPost g v most long u b w (.returned (.tuple #[.string (strOf (feedS most u b)), .int .i64 ((p : Int) + 1), .bool true])) w3 := by
        obtain ⟨hU, hN, hW, hL⟩ := Hx.out
        refine ⟨?_, _, by rw [hU, hL]; exact hm3, (hc2.drewN nq).trans hc3 (fun i hi h => ?_), Fresh.nil _ _⟩
        · rw [hN, hW]; rfl
        · rcases h with h | h
          · exact .inl h
          · rcases hf2 i h with h' | h'
            · exact .inr h'
            · omega
      have HF := Lib.hid hF; clear hF
      go_wp2_with fail
      go_ret3
      exact HF.out
    · have hW : feedW most u b = false := by unfold feedW; simp [h1]; rw [← HPD.out]; have := HUL.out; simp at this; omega
      have hS : strOf (heldOf most (u ++ b.take p)) = strOf (feedS most u b) := by
        unfold feedS heldOf; rw [hW, HUL.out, if_neg hbig, if_neg (by simp)]
      have hL : feedL most long u b = long + 1 := by unfold feedL; rw [if_pos ⟨h1, by rw [← HPD.out, HUL.out]; omega⟩]
      have hd : decide ((u.length : Int) + (p : Int) ≤ (most : Int)) = false := by simp; omega
      have c3 : w2.cell? ⟨g, 3, none⟩ = some (.int .i64 (long : Int)) := hm2.blk.cell 3
      have f3 := hm2.blk.frozen 3
      rw [hS] at hcv
      generalize (heldOf most (u ++ b.take p)).length = hl at *
      have Hx := Lib.hid (And.intro hU (And.intro hN (And.intro hW hL))); clear hU hN hW hL hS h1
      clear hm2 hr2
      go_wp2_with fail
      go_quiet (fail)
      go_wp2_with fail
      have hm3 : MK ((w2.drewN nq).setCell ⟨g, 3, none⟩ (.int .i64 ((long : Int) + 1))) g (.slice D hl dc) most (u ++ b.take p) (long + 1) := by
        refine ⟨?_, ?_⟩
        · have := (HM2.out.blk.drewN nq).set_ 3 (.int .i64 ((long : Int) + 1))
          simpa using this
        · have ho : OB (w2.drewN nq) 0 (.slice D hl dc) (heldOf most (u ++ b.take p)) := HM2.out.own
          exact ho.set_far (Blk.apart HM2.out.blk HM2.out.own (by decide)) _
      refine (drop_any g _ most (long + 1) (u ++ b.take p) _ hm3).mono ?_
      rintro e w3 ⟨rfl, hm4, hc3⟩
      have hF : FeedPost g v most long u b w (.returned (.tuple #[.string (strOf (feedS most u b)), .int .i64 ((p : Int) + 1), .bool false])) w3 := by
        obtain ⟨hU, hN, hW, hL⟩ := Hx.out
        refine ⟨?_, _, by rw [hU, hL]; exact hm4, ((hc2.drewN nq).setCell (.inl (.inl rfl)) _).trans hc3 (fun i hi h => ?_), Fresh.nil _ _⟩
        · rw [hN, hW]; rfl
        · rcases h with h | h
          · exact .inl h
          · rcases hf2 i h with h' | h'
            · exact .inr h'
            · omega
      have HF := Lib.hid hF; clear hF
      go_wp2_with fail
      go_ret3
      exact HF.out
end Go.Proofs.YtlojmmcagglpoaaGreat
