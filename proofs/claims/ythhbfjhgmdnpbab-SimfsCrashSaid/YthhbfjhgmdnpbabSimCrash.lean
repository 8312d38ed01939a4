/- THE WALK of the law SimfsCrash (printed by a program of ours). -/
import Derived.Test.YthhbfjhgmdnpbabCrashAt
import Derived.Test.YthhbfjhgmdnpbabBegins
import Derived.Test.YthhbfjhgmdnpbabDoesCrash
import Derived.Laws.MakeOwn
import Derived.Laws.OwnMore
import Derived.Test.YthhbfjhgmdnpbabDoesAll
import Derived.Test.YthhbfjhgmdnpbabSimFixed
import Derived.Test.YthhbfjhgmdnpbabSeenAt
import Derived.Test.YthhbfjhgmdnpbabTexts
import Derived.Test.YthhbfjhgmdnpbabMD
import Derived.RegionTactic
import Derived.Deep.RegionHeld
import Derived.Deep.RegionHeld3
import Derived.Deep.DrawnRows
import Derived.Deep.CutBlock
namespace Go.Proofs.Ythhbfjhgmdnpbab
open Go.RowKit Go.Maps
theorem fv_none {d : Dk} {i : Int} (h : d.fs i = none) : fvOf d i = ⟨0, 0, 0, 0, []⟩ := by unfold fvOf; rw [h]
theorem fv_some {d : Dk} {i : Int} {x : Fl} (h : d.fs i = some x) : fvOf d i = ⟨i, (d.se x.nm).getD 0, (x.ge : Int), (x.by_.length : Int), x.by_⟩ := by unfold fvOf; rw [h]
theorem begins_take (l : List UInt8) {a b : Nat} (h : a ≤ b) : beginsB (l.take a) (l.take b) = true := by
  unfold beginsB
  rw [List.length_take, List.length_take, List.take_take]
  simp only [Bool.and_eq_true, decide_eq_true_iff, beq_iff_eq]
  refine ⟨by omega, ?_⟩
  rw [show min (min a l.length) b = min a l.length by omega]
  rcases Nat.le_total a l.length with h1 | h1
  · rw [Nat.min_eq_left h1]
  · rw [Nat.min_eq_right h1, List.take_length, List.take_of_length_le h1]
theorem begins_refl (l : List UInt8) : beginsB l l = true := by unfold beginsB; simp
theorem crashF_done {keep : List Int} {k : Nat} {x : Fl} (h : x.la = x.by_.length) : crashF keep k x = x := by unfold crashF; rw [if_pos h]
theorem crashF_take (keep : List Int) (k : Nat) (x : Fl) (hla : x.la ≤ x.by_.length) : ∃ n, x.la ≤ n ∧ n ≤ x.by_.length ∧ (crashF keep k x).by_ = x.by_.take n := by
  rcases crashF_front keep k x with ⟨h1, _⟩ | ⟨h1, h2, _⟩
  · exact ⟨x.by_.length, hla, Nat.le_refl _, by rw [h1, List.take_length]⟩
  · exact ⟨crashN keep k x, by unfold crashN; omega, by omega, h1⟩
theorem crashF_bare (k : Nat) (x : Fl) (hla : x.la ≤ x.by_.length) : (crashF [] k x).by_ = x.by_.take x.la := by
  unfold crashF
  split
  · rename_i h; rw [h, List.take_length]
  · have hn : crashN [] k x = x.la := by unfold crashN; simp
    unfold crash1
    rw [hn]
    unfold Fl.kept
    split
    · rfl
    · omega
theorem crashF_full {all : List Int} {k : Nat} {x : Fl} (hl : x.by_.length ≤ 1048576) (ha : (all.getD k 0) = 2097152) : (crashF all k x).by_ = x.by_ ∧ (crashF all k x).ge = x.ge := by
  rcases crashF_front all k x with h | ⟨_, h2, _⟩
  · exact h
  · unfold crashN at h2
    rw [ha] at h2
    exfalso
    have : (2097152 : Int).toNat = 2097152 := rfl
    rw [this] at h2
    omega
theorem len_le {N : Int} {ss : List Int} (hs : ss.Pairwise (· < ·)) (hm : ∀ i ∈ ss, 1 ≤ i ∧ i ≤ N) : (ss.length : Int) ≤ N.toNat := by
  have key : ∀ (ss : List Int) (a : Int), ss.Pairwise (· < ·) → (∀ i ∈ ss, a ≤ i ∧ i ≤ N) → (ss.length : Int) ≤ (N + 1 - a).toNat := by
    intro ss
    induction ss with
    | nil => intro a _ _; simp; omega
    | cons x r ih =>
      intro a hp hb
      obtain ⟨h1, h2⟩ := List.pairwise_cons.1 hp
      have h3 := hb x (by simp)
      have h4 := ih (x + 1) h2 (fun i hi => ⟨by have := h1 i hi; omega, (hb i (by simp [hi])).2⟩)
      rw [List.length_cons]
      push_cast
      omega
  have := key ss 1 hs hm
  omega
/-- what the law looks at, of inode i -/
structure CrAt (d d1 d2 dB dF dE : Dk) (i : Int) : Prop where
  qa : beginsB (fvOf d1 i).b (fvOf d i).b = true
  qb : beginsB (fvOf dB i).b (fvOf d1 i).b = true
  qc : fvOf d2 i = fvOf d1 i
  qd : fvOf dF i = fvOf d i
  qe : fvOf dE i = fvOf d i
  fi : (fvOf d1 i).i = (fvOf d i).i
  fs : (fvOf d1 i).s = (fvOf d i).s
  fn : (fvOf d1 i).n = ((fvOf d1 i).b.length : Int)
  fg : (fvOf d1 i).g = (fvOf d i).g + (if (fvOf d1 i).b = (fvOf d i).b then 0 else 1)
theorem cr_at {keep all : List Int} {m mB m2 mE mF made n : Nat} {d d1 d2 dB dF dE : Dk} (hok : d.Ok n) (h1 : CAll keep m d d1) (h2 : CAll keep m2 d1 d2) (hB : CAll [] mB d dB) (hF : CAll all mF d dF) (hE : CAll [] mE dF dE) (hm : mF ≤ made) (ha : ∀ k, k < made → all.getD k 0 = 2097152) (i : Int) : CrAt d d1 d2 dB dF dE i := by
  cases hx : d.fs i with
  | none =>
    have e0 := fv_none hx
    have e1 := fv_none (h1.nn i hx)
    have e2 := fv_none (h2.nn i (h1.nn i hx))
    have e3 := fv_none (hB.nn i hx)
    have e4 := fv_none (hF.nn i hx)
    have e5 := fv_none (hE.nn i (hF.nn i hx))
    refine ⟨?_, ?_, ?_, ?_, ?_, ?_, ?_, ?_, ?_⟩ <;> simp only [e0, e1, e2, e3, e4, e5]
    · exact begins_refl _
    · exact begins_refl _
    · rfl
    · rw [if_pos trivial]; rfl
  | some x =>
    have hla := hok.la i x hx
    have hlen := hok.len i x hx
    obtain ⟨k1, hk1, x1⟩ := h1.at_ i x hx
    obtain ⟨k2, hk2, x2⟩ := h2.at_ i _ x1
    rw [crashF_done (crashF_la keep k1 x)] at x2
    obtain ⟨kB, hkB, xB⟩ := hB.at_ i x hx
    obtain ⟨kF, hkF, xF⟩ := hF.at_ i x hx
    obtain ⟨kE, hkE, xE⟩ := hE.at_ i _ xF
    rw [crashF_done (crashF_la all kF x)] at xE
    obtain ⟨f1, f2⟩ := crashF_full (x := x) (k := kF) hlen (ha kF (by omega))
    have e0 := fv_some hx
    have e1 := fv_some x1
    have e2 := fv_some x2
    have e3 := fv_some xB
    have e4 := fv_some xF
    have e5 := fv_some xE
    rw [h1.se, crashF_nm] at e1
    rw [h2.se, h1.se, crashF_nm] at e2
    rw [hF.se, crashF_nm, f1, f2] at e4
    rw [hE.se, hF.se, crashF_nm, f1, f2] at e5
    obtain ⟨nn, hn1, hn2, hn3⟩ := crashF_take keep k1 x hla
    refine ⟨?_, ?_, by rw [e1, e2], by rw [e0, e4], by rw [e0, e5], by rw [e1, e0], by rw [e1, e0], by rw [e1], ?_⟩
    · rw [e1, e0]
      show beginsB (crashF keep k1 x).by_ x.by_ = true
      rw [hn3]
      have := begins_take x.by_ hn2
      rwa [List.take_length] at this
    · rw [e1, e3]
      show beginsB (crashF [] kB x).by_ (crashF keep k1 x).by_ = true
      rw [crashF_bare kB x hla, hn3]
      exact begins_take x.by_ hn1
    · rw [e1, e0]
      show ((crashF keep k1 x).ge : Int) = (x.ge : Int) + (if (crashF keep k1 x).by_ = x.by_ then 0 else 1)
      rcases crashF_front keep k1 x with ⟨g1, g2⟩ | ⟨g1, g2, g3⟩
      · rw [if_pos g1, g2]; omega
      · have hne : ¬ (crashF keep k1 x).by_ = x.by_ := fun e => by
          have := congrArg List.length e
          rw [g1, List.length_take] at this; omega
        rw [if_neg hne, g3]; omega
end Go.Proofs.Ythhbfjhgmdnpbab
namespace Go.Proofs.Ythhbfjhgmdnpbab
open Go.RowKit Go.Maps
theorem run_make_ints (n : Nat) (hn : n ≤ 1048576) (W : World) :
    (Instr.makeSlice 23 (.int .i64 (n : Int)) (.int .i64 (n : Int))).run Try.prog W = .ok (.slice (some ⟨W.heap.size, 0, none⟩) n n) (W.alloc (.cells (madeCells #[.int .i64 0] n) 3)) := by
  obtain ⟨i0, hi, hz0, hz1, hz2⟩ := info_parts infoI
  have := run_make W 23 3 i0 (.int .i64 0) Try.underlying23 hi hz0 .i64 .i64 (n : Int) (n : Int) (by omega) (by omega) (by rw [hz2]; omega) (by omega)
  rw [hz1] at this
  have e : (Value.int .i64 0).cells = #[.int .i64 0] := rfl
  rw [e] at this
  simpa using this
def alV (j n : Nat) : Array Value := ((List.replicate j (Value.int .i64 2097152)) ++ List.replicate (n - j) (Value.int .i64 0)).toArray
theorem alV_zero (n : Nat) : madeCells #[.int .i64 0] n = alV 0 n := by
  unfold alV
  rw [List.replicate_zero, List.nil_append, Nat.sub_zero, ← toList_madeCells_one]
theorem alV_set {w : World} {b j n : Nat} (h : Blk w b 3 (alV j n)) (hj : j < n) : Blk (w.setCell ⟨b, j, none⟩ (.int .i64 2097152)) b 3 (alV (j + 1) n) := by
  have h1 := h.set_ j (.int .i64 2097152)
  have e : (alV j n).setIfInBounds j (.int .i64 2097152) = alV (j + 1) n := by
    unfold alV
    apply Array.ext_getElem?
    intro i
    rw [Array.getElem?_setIfInBounds]
    simp only [List.getElem?_toArray, List.size_toArray, List.length_append, List.length_replicate]
    by_cases e1 : j = i
    · subst e1
      rw [if_pos rfl, if_pos (by omega), List.getElem?_append_left (by simp), List.getElem?_replicate_of_lt (by omega)]
    · rw [if_neg e1]
      by_cases e2 : i < j
      · rw [List.getElem?_append_left (by simp; omega), List.getElem?_append_left (by simp; omega), List.getElem?_replicate_of_lt e2, List.getElem?_replicate_of_lt (by omega)]
      · rw [List.getElem?_append_right (by simp; omega), List.getElem?_append_right (by simp; omega), List.length_replicate, List.length_replicate, List.getElem?_replicate, List.getElem?_replicate]
        by_cases e3 : i < n
        · rw [if_pos (by omega), if_pos (by omega)]
        · rw [if_neg (by omega), if_neg (by omega)]
  rwa [e] at h1
theorem alV_full {w : World} {b n : Nat} (h : Blk w b 3 (alV n n)) : RI w (some ⟨b, 0, none⟩) n (List.replicate n 2097152) := by
  refine ⟨by simp, fun hn => ⟨b, 0, rfl, h.lt, fun j k hj => ?_⟩⟩
  have hjl : j < n := by
    have := (List.getElem?_eq_some_iff.1 hj).1
    simpa using this
  rw [List.getElem?_replicate_of_lt hjl] at hj
  obtain rfl := Option.some.inj hj
  rw [Nat.zero_add, h.cell j]
  unfold alV
  rw [List.getElem?_toArray, List.getElem?_append_left (by simpa using hjl), List.getElem?_replicate_of_lt hjl]
theorem rep_getD {n k : Nat} (h : k < n) : (List.replicate n (2097152 : Int)).getD k 0 = 2097152 := by
  rw [List.getD_eq_getElem?_getD, List.getElem?_replicate_of_lt h]; rfl
/-- what append takes of a list that came in -/
theorem ri_news {w : World} {A : Option Addr} {m : Nat} {ks : List Int} (h : RI w A m ks) : (ks.map iV').length = m * 1 ∧ (A = none → m = 0) ∧ ∀ ad, A = some ad → ∀ (j : Nat) (u : Value), (ks.map iV')[j]? = some u → w.cell? (ad.add j) = some u :=
  ⟨by rw [List.length_map, h.1, Nat.mul_one], fun e => (by
    rcases Nat.eq_zero_or_pos m with h0 | h0
    · exact h0
    · obtain ⟨b, off, e', _⟩ := h.2 h0
      rw [e] at e'
      cases e'), fun ad e j u hj => by
    rw [List.getElem?_map] at hj
    obtain ⟨k, hk, rfl⟩ := Option.map_eq_some_iff.1 hj
    have hjl := (List.getElem?_eq_some_iff.1 hk).1
    obtain ⟨b, off, e', _, hc⟩ := h.2 (by rw [h.1] at hjl; omega)
    rw [e] at e'
    obtain rfl := Option.some.inj e'
    have : (⟨b, off, none⟩ : Addr).add j = ⟨b, off + j, none⟩ := by
      unfold Addr.add
      by_cases h : j = 0
      · subst h; simp
      · simp [h]
    rw [this]
    exact hc j k hk⟩
end Go.Proofs.Ythhbfjhgmdnpbab
namespace Go.Proofs.Ythhbfjhgmdnpbab
open Go.RowKit Go.Maps
/-- inode numbers rise by one with each Create that is taken -/
theorem does_no {o : O14} {d d' : Dk} {r : Int} {ar : Bool} (hr : DoesR o d r ar d') : d'.no = if o.k = 0 ∧ r = 0 then d.no + 1 else d.no := by
  have ed : ∀ (nm : List UInt8) (f : Fl → Fl), (d.edits nm f).2.no = d.no := fun nm f => by
    unfold Dk.edits
    split
    · split <;> rfl
    · rfl
  have no0 : o.k ≠ 0 → d'.no = d.no → d'.no = if o.k = 0 ∧ r = 0 then d.no + 1 else d.no := fun h1 h2 => by rw [if_neg (fun e => h1 e.1)]; exact h2
  rcases hr with ⟨hk, hq, _⟩ | ⟨hk, hq, _⟩ | ⟨hk, hq, _⟩ | ⟨hk, hq, _⟩ | ⟨hk, hq, _⟩ | ⟨hk, hq, _⟩ | ⟨hk, _, _, ss, h1, h2, hd⟩ | ⟨k0, _, _, _, _, _, _, _, _, hd⟩
  · obtain ⟨rfl, rfl⟩ := Prod.ext_iff.1 hq
    unfold Dk.create
    split
    · split
      · rw [if_neg (by simp)]
      · rw [if_pos ⟨hk, rfl⟩]; rfl
    · rw [if_neg (by simp)]
  · refine no0 (by omega) ?_
    obtain ⟨rfl, rfl⟩ := Prod.ext_iff.1 hq
    unfold Dk.append
    split
    · split
      · rfl
      · split <;> rfl
    · rfl
  · refine no0 (by omega) ?_
    obtain ⟨rfl, rfl⟩ := Prod.ext_iff.1 hq
    exact ed _ _
  · refine no0 (by omega) ?_
    obtain ⟨rfl, rfl⟩ := Prod.ext_iff.1 hq
    unfold Dk.rename
    split
    · split
      · rfl
      · split <;> rfl
    · rfl
  · refine no0 (by omega) ?_
    obtain ⟨rfl, rfl⟩ := Prod.ext_iff.1 hq
    unfold Dk.remove
    split
    · split <;> rfl
    · rfl
  · refine no0 (by omega) ?_
    obtain ⟨rfl, rfl⟩ := Prod.ext_iff.1 hq
    exact ed _ _
  · refine no0 (by omega) ?_
    rw [hd]
    exact (crash_at h1 ss.length (Nat.le_refl _)).no
  · exact no0 k0 (by rw [hd])
end Go.Proofs.Ythhbfjhgmdnpbab
namespace Go.Proofs.Ythhbfjhgmdnpbab
open Go.RowKit Go.Maps
attribute [local go_sem ↓] Go.wp_at_zero Go.wp_at_succ
set_option maxRecDepth 20000 in
set_option maxHeartbeats 8000000 in
theorem simcrash_any (A0 : Option Addr) (n0 cp0 : Nat) (l : List O14) (A1 : Option Addr) (n1 cp1 : Nat) (ks : List Int) (w : World) (hr : SO w A0 n0 l) (_hc : n0 ≤ cp0) (_hcm : cp0 ≤ maxLen) (hr1 : RI w A1 n1 ks) (hb1 : n1 * 8 ≤ 140737488355328) : Calls Try.prog 3 #[.slice A0 n0 cp0, .slice A1 n1 cp1] w (TruQ w) := by
  have CK := Lib.hid (fixed14 w)
  have HR := Lib.hid hr
  have HR1 := Lib.hid hr1
  have HB1 := Lib.hid hb1
  clear hr hr1 hb1
  go_enter Try.func3, Try.ntmps3
  go_wp2_with fail
  refine CK.out.mono ?_
  rintro e wk ⟨rfl, hbk⟩
  have BK := Lib.hid hbk
  have CN := Lib.hid (new_c wk (fun _ => 0) 4)
  clear hbk CK
  go_wp2_with fail
  refine CN.out.mono ?_
  rintro e w1 ⟨p, rfl, hp, hd, hb⟩
  have D1 := Lib.hid (MD.made BK.out hd hb)
  clear hd hb hp CN BK
  go_wp2_with fail
  go_loopw [6, 7] (fun s6 s7 W => ∃ i md : Nat, s7 = .int .i64 (i : Int) ∧ s6 = .int .i64 (md : Int) ∧ i ≤ n0 ∧ i ≤ 60 ∧ md ≤ 2 * i ∧ ∃ C d, Hid (MD w W C [(p, 2 * i, d)] (fun _ => True)) ∧ Hid (md = d.no)) (fun _ s7 _ => 60 - (intOf s7).toNat)
  case atStart => exact ⟨0, 0, rfl, rfl, Nat.zero_le _, Nat.zero_le _, Nat.zero_le _, _, _, D1, Lib.hid rfl⟩
  case round =>
    obtain ⟨i, md, rfl, rfl, hin, hi6, hmd, C, d, DR, HM⟩ := hrel
    clear D1
    go_upto_region 6 with fail
    go_cut [34] (fun s wx => ∃ b : Bool, s = .bool b ∧ (b = true ↔ i < n0 ∧ i < 60) ∧ wx = wr)
    case first =>
      by_cases hlt : i < n0
      · by_cases h60 : i < 60
        · go_wp2_with fail
          go_meet
          exact ⟨true, by rw [decide_eq_true (by omega)], by simp [hlt, h60], rfl⟩
        · go_wp2_with fail
          go_meet
          exact ⟨false, by rw [decide_eq_false (by omega)], by simp [h60], rfl⟩
      · go_wp2_with fail
        go_meet
        exact ⟨false, rfl, by simp [hlt], rfl⟩
    case rest =>
      obtain ⟨b, rfl, hb0, hcut⟩ := hcut
      rw [hcut]
      clear hcut wc
      cases b
      case true =>
       as_aux_lemma =>
        obtain ⟨hlt, h60⟩ := hb0.1 rfl
        clear hb0
        obtain ⟨b, off, rfl, hbl, hcell⟩ := HR.out.2.2 (by omega)
        obtain ⟨o, ho⟩ : ∃ o, l[i]? = some o := ⟨_, List.getElem?_eq_getElem (by rw [HR.out.1]; exact hlt)⟩
        obtain ⟨hIn, ⟨x1, e1⟩, ⟨x6, e6⟩, ⟨x7, e7⟩, ⟨x8, e8⟩, ⟨x9, e9⟩⟩ := HR.out.2.1 o (List.mem_of_getElem? ho)
        have HX : Hid (oC o = #[.int .i64 o.k, .int .i64 x1, .string (strB o.a), .string (strB o.b), .string o.s, .int .i64 o.times, .int .i64 x6, .int .i64 x7, .int .i64 x8, .int .i64 x9, .slice o.A o.m o.cp]) := Lib.hid (by unfold oC; rw [e1, e6, e7, e8, e9])
        have HIN := Lib.hid hIn
        have hcc := hcell i o ho
        rw [HX.out] at hcc
        have c0 : wr.cell? ⟨b, off + i * 11, none⟩ = some (.int .i64 o.k) := cell_later DR.out.bel (hcc 0 _ rfl)
        have c1 : wr.cell? ⟨b, off + i * 11 + 1, none⟩ = some (.int .i64 x1) := cell_later DR.out.bel (hcc 1 _ rfl)
        have c2 : wr.cell? ⟨b, off + i * 11 + 2, none⟩ = some (.string (strB o.a)) := cell_later DR.out.bel (hcc 2 _ rfl)
        have c3 : wr.cell? ⟨b, off + i * 11 + 3, none⟩ = some (.string (strB o.b)) := cell_later DR.out.bel (hcc 3 _ rfl)
        have c4 : wr.cell? ⟨b, off + i * 11 + 4, none⟩ = some (.string o.s) := cell_later DR.out.bel (hcc 4 _ rfl)
        have c5 : wr.cell? ⟨b, off + i * 11 + 5, none⟩ = some (.int .i64 o.times) := cell_later DR.out.bel (hcc 5 _ rfl)
        have c6 : wr.cell? ⟨b, off + i * 11 + 6, none⟩ = some (.int .i64 x6) := cell_later DR.out.bel (hcc 6 _ rfl)
        have c7 : wr.cell? ⟨b, off + i * 11 + 7, none⟩ = some (.int .i64 x7) := cell_later DR.out.bel (hcc 7 _ rfl)
        have c8 : wr.cell? ⟨b, off + i * 11 + 8, none⟩ = some (.int .i64 x8) := cell_later DR.out.bel (hcc 8 _ rfl)
        have c9 : wr.cell? ⟨b, off + i * 11 + 9, none⟩ = some (.int .i64 x9) := cell_later DR.out.bel (hcc 9 _ rfl)
        have c10 : wr.cell? ⟨b, off + i * 11 + 10, none⟩ = some (.slice o.A o.m o.cp) := cell_later DR.out.bel (hcc 10 _ rfl)
        have hi0 : (0 : Int) ≤ (i : Int) := by omega
        have hi1 : (i : Int) < (n0 : Int) := by omega
        have HC0 : Hid (w.cell? ⟨b, off + i * 11, none⟩ = some (.int .i64 o.k)) := Lib.hid (hcc 0 _ rfl)
        have cd := does_any (DR.out.ds 0 p (2 * i) d rfl) (by omega) o (HIN.out.keep DR.out.bel)
        rw [HX.out] at cd
        have CD := Lib.hid cd
        clear hbl hcell ho hIn e1 e6 e7 e8 e9 hcc cd
        go_wp2_with fail
        refine CD.out.mono ?_
        rintro e w2 ⟨r, ar, d2, rfl, hdr, hdc, hch⟩
        have D2 : Hid (MD w w2 (paint C wr.heap.size 4) [(p, 2 * i + 2, d2)] (fun _ => True)) := Lib.hid (DR.out.step (k := 0) rfl hdc hch)
        obtain ⟨C2, hC2⟩ : ∃ C2, C2 = paint C wr.heap.size 4 := ⟨_, rfl⟩
        rw [← hC2] at D2
        obtain ⟨md2, hmd2⟩ : ∃ md2, md2 = d2.no := ⟨_, rfl⟩
        have hmd3 : md2 ≤ 2 * i + 2 := by rw [hmd2]; exact (D2.out.ds 0 p _ d2 rfl).ok.no
        have HM2 : Hid (md2 = d2.no ∧ md2 = if o.k = 0 ∧ r = 0 then md + 1 else md) := Lib.hid ⟨hmd2, by rw [hmd2, does_no hdr, HM.out]⟩
        have z0 : w2.cell? ⟨b, off + i * 11, none⟩ = some (.int .i64 o.k) := cell_later D2.out.bel HC0.out
        clear hdr hdc hch CD hC2 hmd2 c0 c1 c2 c3 c4 c5 c6 c7 c8 c9 c10
        go_upto_region 9 with fail
        go_cut [55] (fun s wx => s = .bool (decide (o.k = 0 ∧ r = 0)) ∧ wx = w2)
        case first =>
          by_cases k0 : o.k = 0
          · have hk : (o.k == 0) = true := by simp [k0]
            by_cases r0 : r = 0
            · have hr : (r == 0) = true := by simp [r0]
              have ht : Hid (decide (o.k = 0 ∧ r = 0) = true) := Lib.hid (decide_eq_true ⟨k0, r0⟩)
              clear k0 r0
              go_wp2_with fail
              go_meet
              exact ⟨by rw [ht.out], rfl⟩
            · have hr : (r == 0) = false := by simp [r0]
              have ht : Hid (decide (o.k = 0 ∧ r = 0) = false) := Lib.hid (decide_eq_false (fun e => r0 e.2))
              clear k0 r0
              go_wp2_with fail
              go_meet
              exact ⟨by rw [ht.out], rfl⟩
          · have hk : (o.k == 0) = false := by simp [k0]
            have ht : Hid (decide (o.k = 0 ∧ r = 0) = false) := Lib.hid (decide_eq_false (fun e => k0 e.1))
            clear k0
            by_cases r0 : r = 0
            · have hr : (r == 0) = true := by simp [r0]
              clear r0
              go_wp2_with fail
              go_meet
              exact ⟨by rw [ht.out], rfl⟩
            · have hr : (r == 0) = false := by simp [r0]
              clear r0
              go_wp2_with fail
              go_meet
              exact ⟨by rw [ht.out], rfl⟩
        case rest =>
          obtain ⟨rfl, hcut⟩ := hcut
          rw [hcut]
          clear hcut wc
          go_upto_if 55 with fail
          have HE : Hid (MD w w2 C2 [(p, 2 * (i + 1), d2)] (fun _ => True) ∧ md2 = d2.no) := Lib.hid ⟨by rw [show 2 * (i + 1) = 2 * i + 2 from by omega]; exact D2.out, HM2.out.1⟩
          clear z0 D2
          by_cases kr : o.k = 0 ∧ r = 0
          · rw [decide_eq_true kr]
            have ht : Hid (md2 = md + 1) := Lib.hid (by rw [HM2.out.2, if_pos kr])
            have hmd1 : (md : Int) ≤ 1000 := by omega
            clear kr
            go_wp2_with fail
            go_roundw
            case rel => exact ⟨i + 1, md2, by go_num, by rw [ht.out]; go_num, by omega, by omega, by omega, _, d2, Lib.hid HE.out.1, Lib.hid HE.out.2⟩
            case measure => simp [intOf]; omega
          · rw [decide_eq_false kr]
            have ht : Hid (md2 = md) := Lib.hid (by rw [HM2.out.2, if_neg kr])
            clear kr
            go_wp2_with fail
            go_roundw
            case rel => exact ⟨i + 1, md2, by go_num, by rw [ht.out], by omega, by omega, by omega, _, d2, Lib.hid HE.out.1, Lib.hid HE.out.2⟩
            case measure => simp [intOf]; omega
      case false =>
       as_aux_lemma =>
        clear hb0
        obtain ⟨wq, hwq⟩ : ∃ wq, wq = wr := ⟨_, rfl⟩
        subst hwq
        obtain ⟨nb, hnb⟩ : ∃ nb, nb = 2 * i := ⟨_, rfl⟩
        rw [← hnb] at DR
        have hnb2 : nb ≤ 120 := by omega
        have hmd2 : md ≤ 120 := by omega
        have HOK := Lib.hid (DR.out.ds 0 p nb d rfl).ok
        clear hnb hmd hi6 hin
        have CS := Lib.hid (seen_any (DR.out.ds 0 p _ d rfl) md (by omega))
        go_wp2_with fail
        refine CS.out.mono ?_
        rintro e w2 ⟨v, rfl, hrow, hbr⟩
        obtain ⟨A10, c10, rfl, _, _, hA10⟩ := own_form hrow
        have HA10 : Hid (0 < md → ∃ g, A10 = some ⟨g, 0, none⟩) := Lib.hid (fun h0 => by
          rcases hA10 with ⟨_, h⟩ | ⟨g, h, _⟩
          · omega
          · exact ⟨g, h⟩)
        have D2 : Hid (MD w w2 (paint C wq.heap.size 3) [(p, nb, d)] (fun w => True ∧ w.ownsRow wq.heap.size 41 5 (.slice A10 md c10) md (seenV d md))) := Lib.hid ((DR.out.keep hbr 3).hold (Fr.own hrow (fun k hk => paint_new C 3 (hrow.lt k hk).1)))
        clear hrow hbr CS hA10 DR
        obtain ⟨C2, hC2⟩ : ∃ C2, C2 = paint C wq.heap.size 3 := ⟨_, rfl⟩
        rw [← hC2] at D2
        clear hC2
        have CS := Lib.hid (names_c (D2.out.ds 0 p _ d rfl) (by omega))
        go_wp2_with fail
        refine CS.out.mono ?_
        rintro e w3 ⟨v, ss, rfl, hnd, hmem, hrow, hbr⟩
        obtain ⟨m11, hm11⟩ : ∃ m, m = ss.length := ⟨_, rfl⟩
        obtain ⟨t11, ht11⟩ : ∃ t, t = ss.mergeSort fun x y => decide (x ≤ y) := ⟨_, rfl⟩
        rw [← hm11, ← ht11] at hrow
        have HN11 : Hid (m11 = t11.length ∧ ∃ ss : List (List UInt8), ss.Nodup ∧ (∀ x, x ∈ ss ↔ (d.ns x).isSome = true) ∧ t11 = ss.mergeSort fun x y => decide (x ≤ y)) := Lib.hid ⟨by rw [hm11, ht11, List.length_mergeSort], ss, hnd, hmem, ht11⟩
        obtain ⟨A11, c11, rfl, hk11, hj11, _⟩ := own_form hrow
        have HK11 := Lib.hid (And.intro hk11 hj11)
        have D3 : Hid (MD w w3 (paint C2 w2.heap.size 3) [(p, nb, d)] (fun w => (True ∧ w.ownsRow wq.heap.size 41 5 (.slice A10 md c10) md (seenV d md)) ∧ w.ownsRow w2.heap.size 9 1 (.slice A11 m11 c11) m11 (t11.map sV))) := Lib.hid ((D2.out.keep hbr 3).hold (Fr.own hrow (fun k hk => paint_new C2 3 (hrow.lt k hk).1)))
        clear hrow hbr CS hnd hmem hm11 ht11 hk11 hj11 D2
        obtain ⟨C3, hC3⟩ : ∃ C3, C3 = paint C2 w2.heap.size 3 := ⟨_, rfl⟩
        rw [← hC3] at D3
        clear hC3
        have CS := Lib.hid (D3.out.copy (k := 0) (p := p) (n := nb) (d := d) rfl)
        go_wp2_with fail
        refine CS.out.mono ?_
        rintro e w4 ⟨pb, rfl, hmd, _⟩
        have D4 : Hid (MD w w4 (paint C3 w3.heap.size 5) [(p, nb, d), (pb, nb, d)] (fun w => ((True ∧ w.ownsRow wq.heap.size 41 5 (.slice A10 md c10) md (seenV d md)) ∧ w.ownsRow w2.heap.size 9 1 (.slice A11 m11 c11) m11 (t11.map sV)))) := Lib.hid hmd
        clear hmd CS D3
        obtain ⟨C4, hC4⟩ : ∃ C4, C4 = paint C3 w3.heap.size 5 := ⟨_, rfl⟩
        rw [← hC4] at D4
        clear hC4
        have CS := Lib.hid (D4.out.copy (k := 0) (p := p) (n := nb) (d := d) rfl)
        go_wp2_with fail
        refine CS.out.mono ?_
        rintro e w5 ⟨pf, rfl, hmd, _⟩
        have D5 : Hid (MD w w5 (paint C4 w4.heap.size 6) [(p, nb, d), (pb, nb, d), (pf, nb, d)] (fun w => ((True ∧ w.ownsRow wq.heap.size 41 5 (.slice A10 md c10) md (seenV d md)) ∧ w.ownsRow w2.heap.size 9 1 (.slice A11 m11 c11) m11 (t11.map sV)))) := Lib.hid hmd
        clear hmd CS D4
        obtain ⟨C5, hC5⟩ : ∃ C5, C5 = paint C4 w4.heap.size 6 := ⟨_, rfl⟩
        rw [← hC5] at D5
        clear hC5
        have CS := Lib.hid (crash_c (A := none) (m := 0) (cp := 0) (keep := []) (D5.out.ds 1 pb _ d rfl) (by omega) ⟨rfl, fun h => absurd h (by omega)⟩ (Nat.zero_le _) (fun h => absurd h (by omega)))
        go_wp2_with fail
        refine CS.out.mono ?_
        rintro e w6 ⟨ss, rfl, h1, h2, h3, h4⟩
        obtain ⟨dB, hdB⟩ : ∃ e, e = (crashD [] ss d ss.length).1 := ⟨_, rfl⟩
        obtain ⟨mdB, hmdB⟩ : ∃ m, m = ss.length := ⟨_, rfl⟩
        have HdB : Hid (CAll [] mdB d dB ∧ mdB ≤ d.no) := Lib.hid ⟨by rw [hdB, hmdB]; exact crash_all h1 h2, by
          rw [hmdB]
          have h5 := len_le (N := (d.no : Int)) h1 (fun i hi => by
            obtain ⟨x, hx⟩ := Option.isSome_iff_exists.1 ((h2 i).1 hi)
            exact (D5.out.ds 1 pb _ d rfl).ok.lo hx)
          omega⟩
        rw [← hdB] at h3
        have D6 : Hid (MD w w6 (paint C5 w5.heap.size 5) [(p, nb, d), (pb, nb + 1, dB), (pf, nb, d)] (fun w => ((True ∧ w.ownsRow wq.heap.size 41 5 (.slice A10 md c10) md (seenV d md)) ∧ w.ownsRow w2.heap.size 9 1 (.slice A11 m11 c11) m11 (t11.map sV)))) := Lib.hid (D5.out.step (k := 1) rfl h3 h4)
        clear h1 h2 h3 h4 hdB hmdB CS D5
        obtain ⟨C6, hC6⟩ : ∃ C6, C6 = paint C5 w5.heap.size 5 := ⟨_, rfl⟩
        rw [← hC6] at D6
        clear hC6
        have CS := Lib.hid (seen_any (D6.out.ds 1 pb _ dB rfl) md (by omega))
        go_wp2_with fail
        refine CS.out.mono ?_
        rintro e w7 ⟨v, rfl, hrow, hbr⟩
        obtain ⟨A14, c14, rfl, _, _, hA14⟩ := own_form hrow
        have HA14 : Hid (0 < md → ∃ g, A14 = some ⟨g, 0, none⟩) := Lib.hid (fun h0 => by
          rcases hA14 with ⟨_, h⟩ | ⟨g, h, _⟩
          · omega
          · exact ⟨g, h⟩)
        have D7 : Hid (MD w w7 (paint C6 w6.heap.size 3) [(p, nb, d), (pb, nb + 1, dB), (pf, nb, d)] (fun w => ((True ∧ w.ownsRow wq.heap.size 41 5 (.slice A10 md c10) md (seenV d md)) ∧ w.ownsRow w2.heap.size 9 1 (.slice A11 m11 c11) m11 (t11.map sV)) ∧ w.ownsRow w6.heap.size 41 5 (.slice A14 md c14) md (seenV dB md))) := Lib.hid ((D6.out.keep hbr 3).hold (Fr.own hrow (fun k hk => paint_new C6 3 (hrow.lt k hk).1)))
        clear hrow hbr CS hA14 D6
        obtain ⟨C7, hC7⟩ : ∃ C7, C7 = paint C6 w6.heap.size 3 := ⟨_, rfl⟩
        rw [← hC7] at D7
        clear hC7
        have hmk := run_make_ints md (by omega)
        go_upto_region 20 with fail
        clear hmk
        obtain ⟨wa, hwa⟩ : ∃ wa, wa = w7.alloc (.cells (madeCells #[.int .i64 0] md) 3) := ⟨_, rfl⟩
        obtain ⟨ab, hab⟩ : ∃ ab, ab = w7.heap.size := ⟨_, rfl⟩
        have hba : Below w7.heap.size w7 wa := by rw [hwa]; exact below_alloc' _ _
        have Da := Lib.hid (D7.out.keep hba 2)
        have KA : Hid (Blk wa ab 3 (alV 0 md) ∧ paint C7 w7.heap.size 2 ab = 2) := Lib.hid ⟨by rw [hwa, ← alV_zero]; exact Blk.new w7 _ _ hab, by rw [hab]; exact paint_new _ 2 (Nat.le_refl _)⟩
        obtain ⟨Ca, hCa⟩ : ∃ Ca, Ca = paint C7 w7.heap.size 2 := ⟨_, rfl⟩
        rw [← hCa] at Da KA
        rw [← hwa, ← hab]
        clear hwa hab hba hCa D7
        go_wp2_with fail
        go_loopw [16] (fun s16 W => ∃ j : Nat, s16 = .int .i64 (j : Int) ∧ j ≤ md ∧ ∃ Cx, Hid (MD w W Cx [(p, nb, d), (pb, nb + 1, dB), (pf, nb, d)] (fun w => (((True ∧ w.ownsRow wq.heap.size 41 5 (.slice A10 md c10) md (seenV d md)) ∧ w.ownsRow w2.heap.size 9 1 (.slice A11 m11 c11) m11 (t11.map sV)) ∧ w.ownsRow w6.heap.size 41 5 (.slice A14 md c14) md (seenV dB md)))) ∧ Hid (Blk W ab 3 (alV j md) ∧ Cx ab = 2)) (fun s16 _ => md - (intOf s16).toNat)
        case atStart => exact ⟨0, rfl, Nat.zero_le _, _, Da, KA⟩
        case round =>
          obtain ⟨j, rfl, hjm, Cx, Dx, KX⟩ := hrel
          clear Da KA
          by_cases hlt : j < md
          · have hj0 : (0 : Int) ≤ (j : Int) := by omega
            have hj1 : (j : Int) < (md : Int) := by omega
            have hj2 : (j : Int) ≤ 1000 := by omega
            obtain ⟨u, hu⟩ : ∃ u, wr.cell? ⟨ab, j, none⟩ = some u := by
              rw [KX.out.1.cell j]
              exact ⟨_, Array.getElem?_eq_getElem (by unfold alV; simp; omega)⟩
            have hf : wr.frozen? ⟨ab, j, none⟩ = false := KX.out.1.frozen j
            have KY : Hid (Blk (wr.setCell ⟨ab, j, none⟩ (.int .i64 2097152)) ab 3 (alV (j + 1) md) ∧ paint Cx wr.heap.size 2 ab = 2) := Lib.hid ⟨alV_set KX.out.1 hlt, by rw [paint_old _ _ KX.out.1.lt]; exact KX.out.2⟩
            have DY : Hid (MD w (wr.setCell ⟨ab, j, none⟩ (.int .i64 2097152)) (paint Cx wr.heap.size 2) [(p, nb, d), (pb, nb + 1, dB), (pf, nb, d)] (fun w => (((True ∧ w.ownsRow wq.heap.size 41 5 (.slice A10 md c10) md (seenV d md)) ∧ w.ownsRow w2.heap.size 9 1 (.slice A11 m11 c11) m11 (t11.map sV)) ∧ w.ownsRow w6.heap.size 41 5 (.slice A14 md c14) md (seenV dB md)))) := Lib.hid (Dx.out.other (S := fun q => q = ab) (Chg.setCell (S := fun q => q = ab) (p := ⟨ab, j, none⟩) (Chg.refl _ _) (.inl rfl) _) (fun b hb => by rw [hb]; exact KX.out.2))
            clear Dx KX
            go_wp2_with fail
            go_roundw
            case rel => exact ⟨j + 1, by go_num, by omega, _, DY, KY⟩
            case measure => simp [intOf]; omega
          · obtain rfl : j = md := by omega
            have hj1 : ¬ (j : Int) < (j : Int) := by omega
            have RA := Lib.hid (alV_full KX.out.1)
            have HCA : Hid (0 < j → ∀ ad, some (⟨ab, 0, none⟩ : Addr) = some ad → Cx ad.block ≠ 6) := Lib.hid (fun _ ad e => by
              obtain rfl := Option.some.inj e
              show Cx ab ≠ 6
              rw [KX.out.2]; omega)
            clear KX
            have CS := Lib.hid (crash_c (cp := j) (Dx.out.ds 2 pf _ d rfl) (by omega) RA.out (by unfold maxLen; omega) HCA.out)
            go_wp2_with fail
            refine CS.out.mono ?_
            rintro e w8 ⟨ss, rfl, h1, h2, h3, h4⟩
            obtain ⟨dF, hdF⟩ : ∃ e, e = (crashD (List.replicate j 2097152) ss d ss.length).1 := ⟨_, rfl⟩
            obtain ⟨mdF, hmdF⟩ : ∃ m, m = ss.length := ⟨_, rfl⟩
            have HdF : Hid (CAll (List.replicate j 2097152) mdF d dF ∧ mdF ≤ d.no) := Lib.hid ⟨by rw [hdF, hmdF]; exact crash_all h1 h2, by
              rw [hmdF]
              have h5 := len_le (N := (d.no : Int)) h1 (fun i hi => by
                obtain ⟨x, hx⟩ := Option.isSome_iff_exists.1 ((h2 i).1 hi)
                exact (Dx.out.ds 2 pf _ d rfl).ok.lo hx)
              omega⟩
            rw [← hdF] at h3
            have D8 : Hid (MD w w8 (paint Cx wr.heap.size 6) [(p, nb, d), (pb, nb + 1, dB), (pf, nb + 1, dF)] (fun w => (((True ∧ w.ownsRow wq.heap.size 41 5 (.slice A10 j c10) j (seenV d j)) ∧ w.ownsRow w2.heap.size 9 1 (.slice A11 m11 c11) m11 (t11.map sV)) ∧ w.ownsRow w6.heap.size 41 5 (.slice A14 j c14) j (seenV dB j)))) := Lib.hid (Dx.out.step (k := 2) rfl h3 h4)
            clear h1 h2 h3 h4 hdF hmdF CS Dx
            obtain ⟨C8, hC8⟩ : ∃ C8, C8 = paint Cx wr.heap.size 6 := ⟨_, rfl⟩
            rw [← hC8] at D8
            clear hC8
            clear RA HCA hj1
            have BX := Lib.hid (below_alloc' w8 (.cells #[] 3))
            have OX : Hid ((w8.alloc (.cells #[] 3)).ownsRow w8.heap.size 3 1 (.slice (some ⟨w8.heap.size, 0, none⟩) 0 0) 0 []) := Lib.hid (World.ownsRow_made w8 #[] 0 (Nat.le_refl _) (Nat.zero_le _) rfl)
            have HWX := Lib.hid (ri_news ((HR1.out.keep D8.out.bel).keep BX.out))
            go_wp2_with ((at_builtin; go_must (refine append_row rfl (.tmp 92) (.tmp 93) 23 3 rfl Try.underlying23 infoI rfl (by decide) w8.heap.size (.slice (some ⟨w8.heap.size, 0, none⟩) 0 0) 0 [] rfl OX.out A1 n1 cp1 (ks.map iV') rfl HWX.out.1 HWX.out.2.1 HWX.out.2.2 (fun u hu => by obtain ⟨k, _, rfl⟩ := List.mem_map.1 hu; rfl) (by have := HB1.out; omega) (by have := HB1.out; unfold maxLen; omega) BX.out.size ?_); intro vX wX hoX hgX haX; refine halt ?_))
            refine unhalt ?_
            have PX : Hid (wX.ownsRow w8.heap.size 3 1 vX n1 (ks.map iV')) := Lib.hid (by simpa using hoX)
            have hbb : Below w8.heap.size w8 wX := BX.out.grown hgX BX.out.size (fun j hj => (World.ownsRow.lt OX.out j hj).1)
            have DX := Lib.hid (D8.out.keep hbb 2)
            obtain ⟨AX, cpX, hvX, _⟩ := own_form PX.out
            subst hvX
            have RX := Lib.hid (ri_of_row HR1.out.1 PX.out)
            have HCX : Hid (0 < n1 → ∀ ad, AX = some ad → paint C8 w8.heap.size 2 ad.block ≠ 4) := Lib.hid (fun _ ad e => by
              have h1 := (World.ownsRow.lt PX.out ad.block (by rw [e]; rfl)).1
              rw [paint_new C8 2 h1]; omega)
            clear hoX hgX haX HWX OX BX hbb PX D8
            obtain ⟨CX, hCX⟩ : ∃ CX, CX = paint C8 w8.heap.size 2 := ⟨_, rfl⟩
            rw [← hCX] at DX HCX
            clear hCX
            have CS := Lib.hid (crash_c (cp := cpX) (DX.out.ds 0 p _ d rfl) (by omega) RX.out (by have := HB1.out; unfold maxLen; omega) HCX.out)
            go_wp2_with fail
            refine CS.out.mono ?_
            rintro e w9 ⟨ss, rfl, h1, h2, h3, h4⟩
            obtain ⟨d1, hd1⟩ : ∃ e, e = (crashD ks ss d ss.length).1 := ⟨_, rfl⟩
            obtain ⟨md1, hmd1⟩ : ∃ m, m = ss.length := ⟨_, rfl⟩
            have Hd1 : Hid (CAll ks md1 d d1 ∧ md1 ≤ d.no) := Lib.hid ⟨by rw [hd1, hmd1]; exact crash_all h1 h2, by
              rw [hmd1]
              have h5 := len_le (N := (d.no : Int)) h1 (fun i hi => by
                obtain ⟨x, hx⟩ := Option.isSome_iff_exists.1 ((h2 i).1 hi)
                exact (DX.out.ds 0 p _ d rfl).ok.lo hx)
              omega⟩
            rw [← hd1] at h3
            have D9 : Hid (MD w w9 (paint CX wX.heap.size 4) [(p, nb + 1, d1), (pb, nb + 1, dB), (pf, nb + 1, dF)] (fun w => (((True ∧ w.ownsRow wq.heap.size 41 5 (.slice A10 j c10) j (seenV d j)) ∧ w.ownsRow w2.heap.size 9 1 (.slice A11 m11 c11) m11 (t11.map sV)) ∧ w.ownsRow w6.heap.size 41 5 (.slice A14 j c14) j (seenV dB j)))) := Lib.hid (DX.out.step (k := 0) rfl h3 h4)
            clear h1 h2 h3 h4 hd1 hmd1 CS DX
            obtain ⟨C9, hC9⟩ : ∃ C9, C9 = paint CX wX.heap.size 4 := ⟨_, rfl⟩
            rw [← hC9] at D9
            clear hC9
            clear RX HCX
            have CS := Lib.hid (seen_any (D9.out.ds 0 p _ d1 rfl) j (by omega))
            go_wp2_with fail
            refine CS.out.mono ?_
            rintro e w10 ⟨v, rfl, hrow, hbr⟩
            obtain ⟨A17, c17, rfl, _, _, hA17⟩ := own_form hrow
            have HA17 : Hid (0 < j → ∃ g, A17 = some ⟨g, 0, none⟩) := Lib.hid (fun h0 => by
              rcases hA17 with ⟨_, h⟩ | ⟨g, h, _⟩
              · omega
              · exact ⟨g, h⟩)
            have D10 : Hid (MD w w10 (paint C9 w9.heap.size 3) [(p, nb + 1, d1), (pb, nb + 1, dB), (pf, nb + 1, dF)] (fun w => (((True ∧ w.ownsRow wq.heap.size 41 5 (.slice A10 j c10) j (seenV d j)) ∧ w.ownsRow w2.heap.size 9 1 (.slice A11 m11 c11) m11 (t11.map sV)) ∧ w.ownsRow w6.heap.size 41 5 (.slice A14 j c14) j (seenV dB j)) ∧ w.ownsRow w9.heap.size 41 5 (.slice A17 j c17) j (seenV d1 j))) := Lib.hid ((D9.out.keep hbr 3).hold (Fr.own hrow (fun k hk => paint_new C9 3 (hrow.lt k hk).1)))
            clear hrow hbr CS hA17 D9
            obtain ⟨C10, hC10⟩ : ∃ C10, C10 = paint C9 w9.heap.size 3 := ⟨_, rfl⟩
            rw [← hC10] at D10
            clear hC10
            have BY := Lib.hid (below_alloc' w10 (.cells #[] 3))
            have OY : Hid ((w10.alloc (.cells #[] 3)).ownsRow w10.heap.size 3 1 (.slice (some ⟨w10.heap.size, 0, none⟩) 0 0) 0 []) := Lib.hid (World.ownsRow_made w10 #[] 0 (Nat.le_refl _) (Nat.zero_le _) rfl)
            have HWY := Lib.hid (ri_news ((HR1.out.keep D10.out.bel).keep BY.out))
            go_wp2_with ((at_builtin; go_must (refine append_row rfl (.tmp 100) (.tmp 101) 23 3 rfl Try.underlying23 infoI rfl (by decide) w10.heap.size (.slice (some ⟨w10.heap.size, 0, none⟩) 0 0) 0 [] rfl OY.out A1 n1 cp1 (ks.map iV') rfl HWY.out.1 HWY.out.2.1 HWY.out.2.2 (fun u hu => by obtain ⟨k, _, rfl⟩ := List.mem_map.1 hu; rfl) (by have := HB1.out; omega) (by have := HB1.out; unfold maxLen; omega) BY.out.size ?_); intro vY wY hoY hgY haY; refine halt ?_))
            refine unhalt ?_
            have PY : Hid (wY.ownsRow w10.heap.size 3 1 vY n1 (ks.map iV')) := Lib.hid (by simpa using hoY)
            have hbb : Below w10.heap.size w10 wY := BY.out.grown hgY BY.out.size (fun j hj => (World.ownsRow.lt OY.out j hj).1)
            have DY := Lib.hid (D10.out.keep hbb 2)
            obtain ⟨AY, cpY, hvY, _⟩ := own_form PY.out
            subst hvY
            have RY := Lib.hid (ri_of_row HR1.out.1 PY.out)
            have HCY : Hid (0 < n1 → ∀ ad, AY = some ad → paint C10 w10.heap.size 2 ad.block ≠ 4) := Lib.hid (fun _ ad e => by
              have h1 := (World.ownsRow.lt PY.out ad.block (by rw [e]; rfl)).1
              rw [paint_new C10 2 h1]; omega)
            clear hoY hgY haY HWY OY BY hbb PY D10
            obtain ⟨CY, hCY⟩ : ∃ CY, CY = paint C10 w10.heap.size 2 := ⟨_, rfl⟩
            rw [← hCY] at DY HCY
            clear hCY
            have CS := Lib.hid (crash_c (cp := cpY) (DY.out.ds 0 p _ d1 rfl) (by omega) RY.out (by have := HB1.out; unfold maxLen; omega) HCY.out)
            go_wp2_with fail
            refine CS.out.mono ?_
            rintro e w11 ⟨ss, rfl, h1, h2, h3, h4⟩
            obtain ⟨d2, hd2⟩ : ∃ e, e = (crashD ks ss d1 ss.length).1 := ⟨_, rfl⟩
            obtain ⟨md2, hmd2⟩ : ∃ m, m = ss.length := ⟨_, rfl⟩
            have Hd2 : Hid (CAll ks md2 d1 d2 ∧ md2 ≤ d1.no) := Lib.hid ⟨by rw [hd2, hmd2]; exact crash_all h1 h2, by
              rw [hmd2]
              have h5 := len_le (N := (d1.no : Int)) h1 (fun i hi => by
                obtain ⟨x, hx⟩ := Option.isSome_iff_exists.1 ((h2 i).1 hi)
                exact (DY.out.ds 0 p _ d1 rfl).ok.lo hx)
              omega⟩
            rw [← hd2] at h3
            have D11 : Hid (MD w w11 (paint CY wY.heap.size 4) [(p, nb + 1 + 1, d2), (pb, nb + 1, dB), (pf, nb + 1, dF)] (fun w => ((((True ∧ w.ownsRow wq.heap.size 41 5 (.slice A10 j c10) j (seenV d j)) ∧ w.ownsRow w2.heap.size 9 1 (.slice A11 m11 c11) m11 (t11.map sV)) ∧ w.ownsRow w6.heap.size 41 5 (.slice A14 j c14) j (seenV dB j)) ∧ w.ownsRow w9.heap.size 41 5 (.slice A17 j c17) j (seenV d1 j)))) := Lib.hid (DY.out.step (k := 0) rfl h3 h4)
            clear h1 h2 h3 h4 hd2 hmd2 CS DY
            obtain ⟨C11, hC11⟩ : ∃ C11, C11 = paint CY wY.heap.size 4 := ⟨_, rfl⟩
            rw [← hC11] at D11
            clear hC11
            clear RY HCY
            have CS := Lib.hid (seen_any (D11.out.ds 0 p _ d2 rfl) j (by omega))
            go_wp2_with fail
            refine CS.out.mono ?_
            rintro e w12 ⟨v, rfl, hrow, hbr⟩
            obtain ⟨A18, c18, rfl, _, _, hA18⟩ := own_form hrow
            have HA18 : Hid (0 < j → ∃ g, A18 = some ⟨g, 0, none⟩) := Lib.hid (fun h0 => by
              rcases hA18 with ⟨_, h⟩ | ⟨g, h, _⟩
              · omega
              · exact ⟨g, h⟩)
            have D12 : Hid (MD w w12 (paint C11 w11.heap.size 3) [(p, nb + 1 + 1, d2), (pb, nb + 1, dB), (pf, nb + 1, dF)] (fun w => ((((True ∧ w.ownsRow wq.heap.size 41 5 (.slice A10 j c10) j (seenV d j)) ∧ w.ownsRow w2.heap.size 9 1 (.slice A11 m11 c11) m11 (t11.map sV)) ∧ w.ownsRow w6.heap.size 41 5 (.slice A14 j c14) j (seenV dB j)) ∧ w.ownsRow w9.heap.size 41 5 (.slice A17 j c17) j (seenV d1 j)) ∧ w.ownsRow w11.heap.size 41 5 (.slice A18 j c18) j (seenV d2 j))) := Lib.hid ((D11.out.keep hbr 3).hold (Fr.own hrow (fun k hk => paint_new C11 3 (hrow.lt k hk).1)))
            clear hrow hbr CS hA18 D11
            obtain ⟨C12, hC12⟩ : ∃ C12, C12 = paint C11 w11.heap.size 3 := ⟨_, rfl⟩
            rw [← hC12] at D12
            clear hC12
            have CS := Lib.hid (seen_any (D12.out.ds 2 pf _ dF rfl) j (by omega))
            go_wp2_with fail
            refine CS.out.mono ?_
            rintro e w13 ⟨v, rfl, hrow, hbr⟩
            obtain ⟨A19, c19, rfl, _, _, hA19⟩ := own_form hrow
            have HA19 : Hid (0 < j → ∃ g, A19 = some ⟨g, 0, none⟩) := Lib.hid (fun h0 => by
              rcases hA19 with ⟨_, h⟩ | ⟨g, h, _⟩
              · omega
              · exact ⟨g, h⟩)
            have D13 : Hid (MD w w13 (paint C12 w12.heap.size 3) [(p, nb + 1 + 1, d2), (pb, nb + 1, dB), (pf, nb + 1, dF)] (fun w => (((((True ∧ w.ownsRow wq.heap.size 41 5 (.slice A10 j c10) j (seenV d j)) ∧ w.ownsRow w2.heap.size 9 1 (.slice A11 m11 c11) m11 (t11.map sV)) ∧ w.ownsRow w6.heap.size 41 5 (.slice A14 j c14) j (seenV dB j)) ∧ w.ownsRow w9.heap.size 41 5 (.slice A17 j c17) j (seenV d1 j)) ∧ w.ownsRow w11.heap.size 41 5 (.slice A18 j c18) j (seenV d2 j)) ∧ w.ownsRow w12.heap.size 41 5 (.slice A19 j c19) j (seenV dF j))) := Lib.hid ((D12.out.keep hbr 3).hold (Fr.own hrow (fun k hk => paint_new C12 3 (hrow.lt k hk).1)))
            clear hrow hbr CS hA19 D12
            obtain ⟨C13, hC13⟩ : ∃ C13, C13 = paint C12 w12.heap.size 3 := ⟨_, rfl⟩
            rw [← hC13] at D13
            clear hC13
            have CS := Lib.hid (crash_c (A := none) (m := 0) (cp := 0) (keep := []) (D13.out.ds 2 pf _ dF rfl) (by omega) ⟨rfl, fun h => absurd h (by omega)⟩ (Nat.zero_le _) (fun h => absurd h (by omega)))
            go_wp2_with fail
            refine CS.out.mono ?_
            rintro e w14 ⟨ss, rfl, h1, h2, h3, h4⟩
            obtain ⟨dE, hdE⟩ : ∃ e, e = (crashD [] ss dF ss.length).1 := ⟨_, rfl⟩
            obtain ⟨mdE, hmdE⟩ : ∃ m, m = ss.length := ⟨_, rfl⟩
            have HdE : Hid (CAll [] mdE dF dE ∧ mdE ≤ dF.no) := Lib.hid ⟨by rw [hdE, hmdE]; exact crash_all h1 h2, by
              rw [hmdE]
              have h5 := len_le (N := (dF.no : Int)) h1 (fun i hi => by
                obtain ⟨x, hx⟩ := Option.isSome_iff_exists.1 ((h2 i).1 hi)
                exact (D13.out.ds 2 pf _ dF rfl).ok.lo hx)
              omega⟩
            rw [← hdE] at h3
            have D14 : Hid (MD w w14 (paint C13 w13.heap.size 6) [(p, nb + 1 + 1, d2), (pb, nb + 1, dB), (pf, nb + 1 + 1, dE)] (fun w => ((((((True ∧ w.ownsRow wq.heap.size 41 5 (.slice A10 j c10) j (seenV d j)) ∧ w.ownsRow w2.heap.size 9 1 (.slice A11 m11 c11) m11 (t11.map sV)) ∧ w.ownsRow w6.heap.size 41 5 (.slice A14 j c14) j (seenV dB j)) ∧ w.ownsRow w9.heap.size 41 5 (.slice A17 j c17) j (seenV d1 j)) ∧ w.ownsRow w11.heap.size 41 5 (.slice A18 j c18) j (seenV d2 j)) ∧ w.ownsRow w12.heap.size 41 5 (.slice A19 j c19) j (seenV dF j)))) := Lib.hid (D13.out.step (k := 2) rfl h3 h4)
            clear h1 h2 h3 h4 hdE hmdE CS D13
            obtain ⟨C14, hC14⟩ : ∃ C14, C14 = paint C13 w13.heap.size 6 := ⟨_, rfl⟩
            rw [← hC14] at D14
            clear hC14
            have CS := Lib.hid (seen_any (D14.out.ds 2 pf _ dE rfl) j (by omega))
            go_wp2_with fail
            refine CS.out.mono ?_
            rintro e w15 ⟨v, rfl, hrow, hbr⟩
            obtain ⟨A20, c20, rfl, _, _, hA20⟩ := own_form hrow
            have HA20 : Hid (0 < j → ∃ g, A20 = some ⟨g, 0, none⟩) := Lib.hid (fun h0 => by
              rcases hA20 with ⟨_, h⟩ | ⟨g, h, _⟩
              · omega
              · exact ⟨g, h⟩)
            have D15 : Hid (MD w w15 (paint C14 w14.heap.size 3) [(p, nb + 1 + 1, d2), (pb, nb + 1, dB), (pf, nb + 1 + 1, dE)] (fun w => ((((((True ∧ w.ownsRow wq.heap.size 41 5 (.slice A10 j c10) j (seenV d j)) ∧ w.ownsRow w2.heap.size 9 1 (.slice A11 m11 c11) m11 (t11.map sV)) ∧ w.ownsRow w6.heap.size 41 5 (.slice A14 j c14) j (seenV dB j)) ∧ w.ownsRow w9.heap.size 41 5 (.slice A17 j c17) j (seenV d1 j)) ∧ w.ownsRow w11.heap.size 41 5 (.slice A18 j c18) j (seenV d2 j)) ∧ w.ownsRow w12.heap.size 41 5 (.slice A19 j c19) j (seenV dF j)) ∧ w.ownsRow w14.heap.size 41 5 (.slice A20 j c20) j (seenV dE j))) := Lib.hid ((D14.out.keep hbr 3).hold (Fr.own hrow (fun k hk => paint_new C14 3 (hrow.lt k hk).1)))
            clear hrow hbr CS hA20 D14
            obtain ⟨C15, hC15⟩ : ∃ C15, C15 = paint C14 w14.heap.size 3 := ⟨_, rfl⟩
            rw [← hC15] at D15
            clear hC15
            have HCR : Hid (∀ i, CrAt d d1 d2 dB dF dE i) := Lib.hid (fun i => cr_at HOK.out Hd1.out.1 Hd2.out.1 HdB.out.1 HdF.out.1 HdE.out.1 (made := j) (by have := HdF.out.2; have := HM.out; omega) (fun k hk => rep_getD hk) i)
            have HNS : Hid (d2.ns = d.ns) := Lib.hid (by rw [Hd2.out.1.ns, Hd1.out.1.ns])
            obtain ⟨PP, hPP⟩ : ∃ PP : World → Prop, PP = (fun w => (((((((True ∧ w.ownsRow wq.heap.size 41 5 (.slice A10 j c10) j (seenV d j)) ∧ w.ownsRow w2.heap.size 9 1 (.slice A11 m11 c11) m11 (t11.map sV)) ∧ w.ownsRow w6.heap.size 41 5 (.slice A14 j c14) j (seenV dB j)) ∧ w.ownsRow w9.heap.size 41 5 (.slice A17 j c17) j (seenV d1 j)) ∧ w.ownsRow w11.heap.size 41 5 (.slice A18 j c18) j (seenV d2 j)) ∧ w.ownsRow w12.heap.size 41 5 (.slice A19 j c19) j (seenV dF j)) ∧ w.ownsRow w14.heap.size 41 5 (.slice A20 j c20) j (seenV dE j))) := ⟨_, rfl⟩
            have HPP := Lib.hid hPP
            rw [← hPP] at D15
            clear hPP Hd1 Hd2 HdB HdF HdE
            go_wp2_with fail
            go_loopw [21] (fun s21 W => ∃ k : Nat, s21 = .int .i64 (k : Int) ∧ k ≤ j ∧ ∃ Cx, Hid (MD w W Cx [(p, nb + 1 + 1, d2), (pb, nb + 1, dB), (pf, nb + 1 + 1, dE)] PP)) (fun s21 _ => j - (intOf s21).toNat)
            case atStart => exact ⟨0, rfl, Nat.zero_le _, _, D15⟩
            case round =>
              obtain ⟨k, rfl, hkm, Cz, DZ⟩ := hrel
              clear D15
              by_cases hlt2 : k < j
              · have hk0 : (0 : Int) ≤ (k : Int) := by omega
                have hk1 : (k : Int) < (j : Int) := by omega
                have hk3 : (k : Int) ≤ 1000 := by omega
                obtain ⟨g10, rfl⟩ := HA10.out (by omega)
                obtain ⟨g14, rfl⟩ := HA14.out (by omega)
                obtain ⟨g17, rfl⟩ := HA17.out (by omega)
                obtain ⟨g18, rfl⟩ := HA18.out (by omega)
                obtain ⟨g19, rfl⟩ := HA19.out (by omega)
                obtain ⟨g20, rfl⟩ := HA20.out (by omega)
                obtain ⟨f0, hf0⟩ : ∃ f, f = fvOf d ((k : Int) + 1) := ⟨_, rfl⟩
                obtain ⟨f1, hf1⟩ : ∃ f, f = fvOf d1 ((k : Int) + 1) := ⟨_, rfl⟩
                obtain ⟨fB, hfB⟩ : ∃ f, f = fvOf dB ((k : Int) + 1) := ⟨_, rfl⟩
                have hcr := HCR.out ((k : Int) + 1)
                have HT : Hid (∀ w', Below wr.heap.size wr w' → (fun w' => w'.cell? ⟨g10, k * 5, none⟩ = some (.int .i64 f0.i) ∧ w'.cell? ⟨g10, k * 5 + 1, none⟩ = some (.int .i64 f0.s) ∧ w'.cell? ⟨g10, k * 5 + 2, none⟩ = some (.int .i64 f0.g) ∧ w'.cell? ⟨g10, k * 5 + 3, none⟩ = some (.int .i64 f0.n) ∧ w'.cell? ⟨g10, k * 5 + 4, none⟩ = some (.string (strB f0.b)) ∧ w'.cell? ⟨g17, k * 5, none⟩ = some (.int .i64 f1.i) ∧ w'.cell? ⟨g17, k * 5 + 1, none⟩ = some (.int .i64 f1.s) ∧ w'.cell? ⟨g17, k * 5 + 2, none⟩ = some (.int .i64 f1.g) ∧ w'.cell? ⟨g17, k * 5 + 3, none⟩ = some (.int .i64 f1.n) ∧ w'.cell? ⟨g17, k * 5 + 4, none⟩ = some (.string (strB f1.b)) ∧ w'.cell? ⟨g14, k * 5 + 4, none⟩ = some (.string (strB fB.b)) ∧ w'.cell? ⟨g18, k * 5, none⟩ = some (.int .i64 f1.i) ∧ w'.cell? ⟨g18, k * 5 + 1, none⟩ = some (.int .i64 f1.s) ∧ w'.cell? ⟨g18, k * 5 + 2, none⟩ = some (.int .i64 f1.g) ∧ w'.cell? ⟨g18, k * 5 + 3, none⟩ = some (.int .i64 f1.n) ∧ w'.cell? ⟨g18, k * 5 + 4, none⟩ = some (.string (strB f1.b)) ∧ w'.cell? ⟨g19, k * 5, none⟩ = some (.int .i64 f0.i) ∧ w'.cell? ⟨g19, k * 5 + 1, none⟩ = some (.int .i64 f0.s) ∧ w'.cell? ⟨g19, k * 5 + 2, none⟩ = some (.int .i64 f0.g) ∧ w'.cell? ⟨g19, k * 5 + 3, none⟩ = some (.int .i64 f0.n) ∧ w'.cell? ⟨g19, k * 5 + 4, none⟩ = some (.string (strB f0.b)) ∧ w'.cell? ⟨g20, k * 5, none⟩ = some (.int .i64 f0.i) ∧ w'.cell? ⟨g20, k * 5 + 1, none⟩ = some (.int .i64 f0.s) ∧ w'.cell? ⟨g20, k * 5 + 2, none⟩ = some (.int .i64 f0.g) ∧ w'.cell? ⟨g20, k * 5 + 3, none⟩ = some (.int .i64 f0.n) ∧ w'.cell? ⟨g20, k * 5 + 4, none⟩ = some (.string (strB f0.b))) w') := Lib.hid (fun w' hb => by
                  have h1 := (DZ.out.fr.keep hb (Sam.refl _ _)).now
                  rw [HPP.out] at h1
                  obtain ⟨⟨⟨⟨⟨⟨⟨_, r10⟩, r11⟩, r14⟩, r17⟩, r18⟩, r19⟩, r20⟩ := h1
                  obtain ⟨a0, a1, a2, a3, a4⟩ := seen_cells r10 hlt2
                  obtain ⟨b0, b1, b2, b3, b4⟩ := seen_cells r17 hlt2
                  obtain ⟨_, _, _, _, e4⟩ := seen_cells r14 hlt2
                  obtain ⟨c0, c1, c2, c3, c4⟩ := seen_cells r18 hlt2
                  obtain ⟨i0, i1, i2, i3, i4⟩ := seen_cells r19 hlt2
                  obtain ⟨j0, j1, j2, j3, j4⟩ := seen_cells r20 hlt2
                  rw [hcr.qc, ← hf1] at c0 c1 c2 c3 c4
                  rw [hcr.qd, ← hf0] at i0 i1 i2 i3 i4
                  rw [hcr.qe, ← hf0] at j0 j1 j2 j3 j4
                  rw [← hf0] at a0 a1 a2 a3 a4
                  rw [← hf1] at b0 b1 b2 b3 b4
                  rw [← hfB] at e4
                  exact ⟨a0, a1, a2, a3, a4, b0, b1, b2, b3, b4, e4, c0, c1, c2, c3, c4, i0, i1, i2, i3, i4, j0, j1, j2, j3, j4⟩)
                have HB1' : Hid (∀ W, Calls Try.prog 11 #[.string (strB f1.b), .string (strB f0.b)] W fun e w' => e = .returned (.bool true) ∧ W = w') := Lib.hid (fun W => by
                  have h1 := begins_any f1.b f0.b W
                  rw [hf1, hf0, hcr.qa] at h1
                  rw [hf1, hf0]; exact h1)
                have HB2' : Hid (∀ W, Calls Try.prog 11 #[.string (strB fB.b), .string (strB f1.b)] W fun e w' => e = .returned (.bool true) ∧ W = w') := Lib.hid (fun W => by
                  have h1 := begins_any fB.b f1.b W
                  rw [hf1, hfB, hcr.qb] at h1
                  rw [hf1, hfB]; exact h1)
                have HST : Hid (f1.i = f0.i ∧ f1.s = f0.s ∧ f1.n = (f1.b.length : Int) ∧ f1.g = f0.g + (if f1.b = f0.b then 0 else 1) ∧ 0 ≤ f0.g ∧ f0.g ≤ 1000) := Lib.hid (by
                  refine ⟨by rw [hf1, hf0, hcr.fi], by rw [hf1, hf0, hcr.fs], by rw [hf1, hcr.fn], by rw [hf1, hf0, hcr.fg], ?_, ?_⟩
                  · rw [hf0]; unfold fvOf; split <;> simp
                  · rw [hf0]; unfold fvOf
                    cases hx : d.fs ((k : Int) + 1) with
                    | none => simp
                    | some x => have := HOK.out.ge _ x hx; simp; omega)
                clear hcr hf0 hf1 hfB
                go_upto_region 35 with fail
                go_cut [178] (fun s wx => s = .bool false ∧ ∃ q, wx = wr.drewN q)
                case first =>
                 as_aux_lemma =>
                  have hn1 := fun w => neq_file f1 f1 w
                  have hn0 := fun w => neq_file f0 f0 w
                  rw [eqF_self] at hn1 hn0
                  unfold fvV at hn1 hn0
                  have hq := guard_file
                  refine wp_region_any (by kernel_rfl) ?_
                  change wpAny _ _ _ _ _ _ _ (World.drew _)
                  refine wpAny_of_held (S := fun w' => w'.cell? ⟨g10, k * 5, none⟩ = some (.int .i64 f0.i) ∧ w'.cell? ⟨g10, k * 5 + 1, none⟩ = some (.int .i64 f0.s) ∧ w'.cell? ⟨g10, k * 5 + 2, none⟩ = some (.int .i64 f0.g) ∧ w'.cell? ⟨g10, k * 5 + 3, none⟩ = some (.int .i64 f0.n) ∧ w'.cell? ⟨g10, k * 5 + 4, none⟩ = some (.string (strB f0.b)) ∧ w'.cell? ⟨g17, k * 5, none⟩ = some (.int .i64 f1.i) ∧ w'.cell? ⟨g17, k * 5 + 1, none⟩ = some (.int .i64 f1.s) ∧ w'.cell? ⟨g17, k * 5 + 2, none⟩ = some (.int .i64 f1.g) ∧ w'.cell? ⟨g17, k * 5 + 3, none⟩ = some (.int .i64 f1.n) ∧ w'.cell? ⟨g17, k * 5 + 4, none⟩ = some (.string (strB f1.b)) ∧ w'.cell? ⟨g14, k * 5 + 4, none⟩ = some (.string (strB fB.b)) ∧ w'.cell? ⟨g18, k * 5, none⟩ = some (.int .i64 f1.i) ∧ w'.cell? ⟨g18, k * 5 + 1, none⟩ = some (.int .i64 f1.s) ∧ w'.cell? ⟨g18, k * 5 + 2, none⟩ = some (.int .i64 f1.g) ∧ w'.cell? ⟨g18, k * 5 + 3, none⟩ = some (.int .i64 f1.n) ∧ w'.cell? ⟨g18, k * 5 + 4, none⟩ = some (.string (strB f1.b)) ∧ w'.cell? ⟨g19, k * 5, none⟩ = some (.int .i64 f0.i) ∧ w'.cell? ⟨g19, k * 5 + 1, none⟩ = some (.int .i64 f0.s) ∧ w'.cell? ⟨g19, k * 5 + 2, none⟩ = some (.int .i64 f0.g) ∧ w'.cell? ⟨g19, k * 5 + 3, none⟩ = some (.int .i64 f0.n) ∧ w'.cell? ⟨g19, k * 5 + 4, none⟩ = some (.string (strB f0.b)) ∧ w'.cell? ⟨g20, k * 5, none⟩ = some (.int .i64 f0.i) ∧ w'.cell? ⟨g20, k * 5 + 1, none⟩ = some (.int .i64 f0.s) ∧ w'.cell? ⟨g20, k * 5 + 2, none⟩ = some (.int .i64 f0.g) ∧ w'.cell? ⟨g20, k * 5 + 3, none⟩ = some (.int .i64 f0.n) ∧ w'.cell? ⟨g20, k * 5 + 4, none⟩ = some (.string (strB f0.b))) _ _ _ _ ?_
                  obtain ⟨wd, hwd⟩ : ∃ wd, wd = wr.drew := ⟨_, rfl⟩
                  have BD : Hid (Below wr.heap.size wr wd) := Lib.hid (by rw [hwd]; exact (Below.refl _ _).drew)
                  rw [← hwd]
                  have HWD := Lib.hid hwd
                  clear hwd
                  have hHeld : (fun w' => w'.cell? ⟨g10, k * 5, none⟩ = some (.int .i64 f0.i) ∧ w'.cell? ⟨g10, k * 5 + 1, none⟩ = some (.int .i64 f0.s) ∧ w'.cell? ⟨g10, k * 5 + 2, none⟩ = some (.int .i64 f0.g) ∧ w'.cell? ⟨g10, k * 5 + 3, none⟩ = some (.int .i64 f0.n) ∧ w'.cell? ⟨g10, k * 5 + 4, none⟩ = some (.string (strB f0.b)) ∧ w'.cell? ⟨g17, k * 5, none⟩ = some (.int .i64 f1.i) ∧ w'.cell? ⟨g17, k * 5 + 1, none⟩ = some (.int .i64 f1.s) ∧ w'.cell? ⟨g17, k * 5 + 2, none⟩ = some (.int .i64 f1.g) ∧ w'.cell? ⟨g17, k * 5 + 3, none⟩ = some (.int .i64 f1.n) ∧ w'.cell? ⟨g17, k * 5 + 4, none⟩ = some (.string (strB f1.b)) ∧ w'.cell? ⟨g14, k * 5 + 4, none⟩ = some (.string (strB fB.b)) ∧ w'.cell? ⟨g18, k * 5, none⟩ = some (.int .i64 f1.i) ∧ w'.cell? ⟨g18, k * 5 + 1, none⟩ = some (.int .i64 f1.s) ∧ w'.cell? ⟨g18, k * 5 + 2, none⟩ = some (.int .i64 f1.g) ∧ w'.cell? ⟨g18, k * 5 + 3, none⟩ = some (.int .i64 f1.n) ∧ w'.cell? ⟨g18, k * 5 + 4, none⟩ = some (.string (strB f1.b)) ∧ w'.cell? ⟨g19, k * 5, none⟩ = some (.int .i64 f0.i) ∧ w'.cell? ⟨g19, k * 5 + 1, none⟩ = some (.int .i64 f0.s) ∧ w'.cell? ⟨g19, k * 5 + 2, none⟩ = some (.int .i64 f0.g) ∧ w'.cell? ⟨g19, k * 5 + 3, none⟩ = some (.int .i64 f0.n) ∧ w'.cell? ⟨g19, k * 5 + 4, none⟩ = some (.string (strB f0.b)) ∧ w'.cell? ⟨g20, k * 5, none⟩ = some (.int .i64 f0.i) ∧ w'.cell? ⟨g20, k * 5 + 1, none⟩ = some (.int .i64 f0.s) ∧ w'.cell? ⟨g20, k * 5 + 2, none⟩ = some (.int .i64 f0.g) ∧ w'.cell? ⟨g20, k * 5 + 3, none⟩ = some (.int .i64 f0.n) ∧ w'.cell? ⟨g20, k * 5 + 4, none⟩ = some (.string (strB f0.b))) wd := HT.out _ BD.out
                  refine wpAnyH_take (i := 0) (v := ?_) rfl (by kernel_rfl) (by kernel_rfl) (by kernel_rfl) (fun _ _ _ h => h) (Or.inl ⟨by rfl, ?_⟩) (by assumption) ?_
                  rotate_left 1
                  · intro w hSw; (try dsimp only at hSw); go_simp <;> with_reducible rfl
                  try simp only [Act.put, List.setIfInBounds_toArray, List.set_cons_zero, List.set_cons_succ, List.getElem_toArray, List.getElem_cons_zero]
                  refine wpAnyH_take (i := 1) (v := ?_) rfl (by kernel_rfl) (by kernel_rfl) (by kernel_rfl) (fun _ _ _ h => h) (Or.inl ⟨by rfl, ?_⟩) (by assumption) ?_
                  rotate_left 1
                  · intro w hSw; (try dsimp only at hSw); go_simp <;> with_reducible rfl
                  try simp only [Act.put, List.setIfInBounds_toArray, List.set_cons_zero, List.set_cons_succ, List.getElem_toArray, List.getElem_cons_zero, List.getElem_cons_succ]
                  refine wpAnyH_take (i := 2) (v := ?_) rfl (by kernel_rfl) (by kernel_rfl) (by kernel_rfl) (fun _ _ _ h => h) (Or.inl ⟨by rfl, ?_⟩) (by assumption) ?_
                  rotate_left 1
                  · intro w hSw; (try dsimp only at hSw); go_simp <;> with_reducible rfl
                  try simp only [Act.put, List.setIfInBounds_toArray, List.set_cons_zero, List.set_cons_succ, List.getElem_toArray, List.getElem_cons_zero, List.getElem_cons_succ]
                  refine wpAnyH_take (i := 3) (v := ?_) rfl (by kernel_rfl) (by kernel_rfl) (by kernel_rfl) (fun _ _ _ h => h) (Or.inl ⟨by rfl, ?_⟩) (by assumption) ?_
                  rotate_left 1
                  · intro w hSw; (try dsimp only at hSw); go_simp <;> with_reducible rfl
                  try simp only [Act.put, List.setIfInBounds_toArray, List.set_cons_zero, List.set_cons_succ, List.getElem_toArray, List.getElem_cons_zero, List.getElem_cons_succ]
                  refine wpAnyH_take (i := 4) (v := ?_) rfl (by kernel_rfl) (by kernel_rfl) (by kernel_rfl) (fun _ _ _ h => h) (Or.inl ⟨by rfl, ?_⟩) (by assumption) ?_
                  rotate_left 1
                  · intro w hSw; obtain ⟨z0, z1, z2, z3, z4, z5, z6, z7, z8, z9, z10, z11, z12, z13, z14, z15, z16, z17, z18, z19, z20, z21, z22, z23, z24, z25⟩ := hSw; (try dsimp only at hSw); go_simp <;> with_reducible rfl
                  try simp only [Act.put, List.setIfInBounds_toArray, List.set_cons_zero, List.set_cons_succ, List.getElem_toArray, List.getElem_cons_zero, List.getElem_cons_succ]
                  refine wpAnyH_take (i := 5) (v := ?_) rfl (by kernel_rfl) (by kernel_rfl) (by kernel_rfl) (fun _ _ _ h => h) (Or.inl ⟨by rfl, ?_⟩) (by assumption) ?_
                  rotate_left 1
                  · intro w hSw; (try dsimp only at hSw); go_simp <;> with_reducible rfl
                  try simp only [Act.put, List.setIfInBounds_toArray, List.set_cons_zero, List.set_cons_succ, List.getElem_toArray, List.getElem_cons_zero, List.getElem_cons_succ]
                  refine wpAnyH_take (i := 6) (v := ?_) rfl (by kernel_rfl) (by kernel_rfl) (by kernel_rfl) (fun _ _ _ h => h) (Or.inl ⟨by rfl, ?_⟩) (by assumption) ?_
                  rotate_left 1
                  · intro w hSw; (try dsimp only at hSw); go_simp <;> with_reducible rfl
                  try simp only [Act.put, List.setIfInBounds_toArray, List.set_cons_zero, List.set_cons_succ, List.getElem_toArray, List.getElem_cons_zero, List.getElem_cons_succ]
                  refine wpAnyH_take (i := 7) (v := ?_) rfl (by kernel_rfl) (by kernel_rfl) (by kernel_rfl) (fun _ _ _ h => h) (Or.inl ⟨by rfl, ?_⟩) (by assumption) ?_
                  rotate_left 1
                  · intro w hSw; (try dsimp only at hSw); go_simp <;> with_reducible rfl
                  try simp only [Act.put, List.setIfInBounds_toArray, List.set_cons_zero, List.set_cons_succ, List.getElem_toArray, List.getElem_cons_zero, List.getElem_cons_succ]
                  refine wpAnyH_take (i := 8) (v := ?_) rfl (by kernel_rfl) (by kernel_rfl) (by kernel_rfl) (fun _ _ _ h => h) (Or.inl ⟨by rfl, ?_⟩) (by assumption) ?_
                  rotate_left 1
                  · intro w hSw; (try dsimp only at hSw); go_simp <;> with_reducible rfl
                  try simp only [Act.put, List.setIfInBounds_toArray, List.set_cons_zero, List.set_cons_succ, List.getElem_toArray, List.getElem_cons_zero, List.getElem_cons_succ]
                  refine wpAnyH_take (i := 9) (v := ?_) rfl (by kernel_rfl) (by kernel_rfl) (by kernel_rfl) (fun _ _ _ h => h) (Or.inl ⟨by rfl, ?_⟩) (by assumption) ?_
                  rotate_left 1
                  · intro w hSw; obtain ⟨z0, z1, z2, z3, z4, z5, z6, z7, z8, z9, z10, z11, z12, z13, z14, z15, z16, z17, z18, z19, z20, z21, z22, z23, z24, z25⟩ := hSw; (try dsimp only at hSw); go_simp <;> with_reducible rfl
                  try simp only [Act.put, List.setIfInBounds_toArray, List.set_cons_zero, List.set_cons_succ, List.getElem_toArray, List.getElem_cons_zero, List.getElem_cons_succ]
                  refine wpAnyH_ready (rs := [10]) (by kernel_rfl) (by simp) (AllReadyH.cons rfl (fun K hK => ?_) AllReadyH.nil)
                  have hPrev := hHeld
                  clear hHeld
                  go_simp
                  refine (HB1'.out _).mono ?_
                  rintro e w9 ⟨rfl, rfl⟩
                  refine hK.out _ _ (HT.out _ BD.out) (fun hHeld => ?_)
                  clear hK K hPrev
                  try simp only [Act.put, List.setIfInBounds_toArray, List.set_cons_zero, List.set_cons_succ, List.getElem_toArray, List.getElem_cons_zero, List.getElem_cons_succ]
                  refine wpAnyH_take (i := 11) (v := ?_) rfl (by kernel_rfl) (by kernel_rfl) (by kernel_rfl) (fun _ _ _ h => h) (Or.inl ⟨by rfl, ?_⟩) (by assumption) ?_
                  rotate_left 1
                  · intro w hSw; (try dsimp only at hSw); go_simp <;> with_reducible rfl
                  try simp only [Act.put, List.setIfInBounds_toArray, List.set_cons_zero, List.set_cons_succ, List.getElem_toArray, List.getElem_cons_zero, List.getElem_cons_succ]
                  refine wpAnyH_take (i := 12) (v := ?_) rfl (by kernel_rfl) (by kernel_rfl) (by kernel_rfl) (fun _ _ _ h => h) (Or.inl ⟨by rfl, ?_⟩) (by assumption) ?_
                  rotate_left 1
                  · intro w hSw; (try dsimp only at hSw); go_simp <;> with_reducible rfl
                  try simp only [Act.put, List.setIfInBounds_toArray, List.set_cons_zero, List.set_cons_succ, List.getElem_toArray, List.getElem_cons_zero, List.getElem_cons_succ]
                  refine wpAnyH_take (i := 13) (v := ?_) rfl (by kernel_rfl) (by kernel_rfl) (by kernel_rfl) (fun _ _ _ h => h) (Or.inl ⟨by rfl, ?_⟩) (by assumption) ?_
                  rotate_left 1
                  · intro w hSw; (try dsimp only at hSw); go_simp <;> with_reducible rfl
                  try simp only [Act.put, List.setIfInBounds_toArray, List.set_cons_zero, List.set_cons_succ, List.getElem_toArray, List.getElem_cons_zero, List.getElem_cons_succ]
                  refine wpAnyH_take (i := 14) (v := ?_) rfl (by kernel_rfl) (by kernel_rfl) (by kernel_rfl) (fun _ _ _ h => h) (Or.inl ⟨by rfl, ?_⟩) (by assumption) ?_
                  rotate_left 1
                  · intro w hSw; (try dsimp only at hSw); go_simp <;> with_reducible rfl
                  try simp only [Act.put, List.setIfInBounds_toArray, List.set_cons_zero, List.set_cons_succ, List.getElem_toArray, List.getElem_cons_zero, List.getElem_cons_succ]
                  refine wpAnyH_take (i := 15) (v := ?_) rfl (by kernel_rfl) (by kernel_rfl) (by kernel_rfl) (fun _ _ _ h => h) (Or.inl ⟨by rfl, ?_⟩) (by assumption) ?_
                  rotate_left 1
                  · intro w hSw; (try dsimp only at hSw); go_simp <;> with_reducible rfl
                  try simp only [Act.put, List.setIfInBounds_toArray, List.set_cons_zero, List.set_cons_succ, List.getElem_toArray, List.getElem_cons_zero, List.getElem_cons_succ]
                  refine wpAnyH_take (i := 16) (v := ?_) rfl (by kernel_rfl) (by kernel_rfl) (by kernel_rfl) (fun _ _ _ h => h) (Or.inl ⟨by rfl, ?_⟩) (by assumption) ?_
                  rotate_left 1
                  · intro w hSw; (try dsimp only at hSw); go_simp <;> with_reducible rfl
                  try simp only [Act.put, List.setIfInBounds_toArray, List.set_cons_zero, List.set_cons_succ, List.getElem_toArray, List.getElem_cons_zero, List.getElem_cons_succ]
                  refine wpAnyH_take (i := 17) (v := ?_) rfl (by kernel_rfl) (by kernel_rfl) (by kernel_rfl) (fun _ _ _ h => h) (Or.inl ⟨by rfl, ?_⟩) (by assumption) ?_
                  rotate_left 1
                  · intro w hSw; obtain ⟨z0, z1, z2, z3, z4, z5, z6, z7, z8, z9, z10, z11, z12, z13, z14, z15, z16, z17, z18, z19, z20, z21, z22, z23, z24, z25⟩ := hSw; (try dsimp only at hSw); go_simp <;> with_reducible rfl
                  try simp only [Act.put, List.setIfInBounds_toArray, List.set_cons_zero, List.set_cons_succ, List.getElem_toArray, List.getElem_cons_zero, List.getElem_cons_succ]
                  refine wpAnyH_take (i := 18) (v := ?_) rfl (by kernel_rfl) (by kernel_rfl) (by kernel_rfl) (fun _ _ _ h => h) (Or.inl ⟨by rfl, ?_⟩) (by assumption) ?_
                  rotate_left 1
                  · intro w hSw; (try dsimp only at hSw); go_simp <;> with_reducible rfl
                  try simp only [Act.put, List.setIfInBounds_toArray, List.set_cons_zero, List.set_cons_succ, List.getElem_toArray, List.getElem_cons_zero, List.getElem_cons_succ]
                  refine wpAnyH_take (i := 19) (v := ?_) rfl (by kernel_rfl) (by kernel_rfl) (by kernel_rfl) (fun _ _ _ h => h) (Or.inl ⟨by rfl, ?_⟩) (by assumption) ?_
                  rotate_left 1
                  · intro w hSw; (try dsimp only at hSw); go_simp <;> with_reducible rfl
                  try simp only [Act.put, List.setIfInBounds_toArray, List.set_cons_zero, List.set_cons_succ, List.getElem_toArray, List.getElem_cons_zero, List.getElem_cons_succ]
                  refine wpAnyH_take (i := 20) (v := ?_) rfl (by kernel_rfl) (by kernel_rfl) (by kernel_rfl) (fun _ _ _ h => h) (Or.inl ⟨by rfl, ?_⟩) (by assumption) ?_
                  rotate_left 1
                  · intro w hSw; (try dsimp only at hSw); go_simp <;> with_reducible rfl
                  try simp only [Act.put, List.setIfInBounds_toArray, List.set_cons_zero, List.set_cons_succ, List.getElem_toArray, List.getElem_cons_zero, List.getElem_cons_succ]
                  refine wpAnyH_take (i := 21) (v := ?_) rfl (by kernel_rfl) (by kernel_rfl) (by kernel_rfl) (fun _ _ _ h => h) (Or.inl ⟨by rfl, ?_⟩) (by assumption) ?_
                  rotate_left 1
                  · intro w hSw; (try dsimp only at hSw); go_simp <;> with_reducible rfl
                  try simp only [Act.put, List.setIfInBounds_toArray, List.set_cons_zero, List.set_cons_succ, List.getElem_toArray, List.getElem_cons_zero, List.getElem_cons_succ]
                  refine wpAnyH_take (i := 22) (v := ?_) rfl (by kernel_rfl) (by kernel_rfl) (by kernel_rfl) (fun _ _ _ h => h) (Or.inl ⟨by rfl, ?_⟩) (by assumption) ?_
                  rotate_left 1
                  · intro w hSw; obtain ⟨z0, z1, z2, z3, z4, z5, z6, z7, z8, z9, z10, z11, z12, z13, z14, z15, z16, z17, z18, z19, z20, z21, z22, z23, z24, z25⟩ := hSw; (try dsimp only at hSw); go_simp <;> with_reducible rfl
                  try simp only [Act.put, List.setIfInBounds_toArray, List.set_cons_zero, List.set_cons_succ, List.getElem_toArray, List.getElem_cons_zero, List.getElem_cons_succ]
                  refine wpAnyH_ready (rs := [23]) (by kernel_rfl) (by simp) (AllReadyH.cons rfl (fun K hK => ?_) AllReadyH.nil)
                  have hPrev := hHeld
                  clear hHeld
                  go_simp
                  refine (HB2'.out _).mono ?_
                  rintro e w9 ⟨rfl, rfl⟩
                  refine hK.out _ _ (HT.out _ BD.out) (fun hHeld => ?_)
                  clear hK K hPrev
                  try simp only [Act.put, List.setIfInBounds_toArray, List.set_cons_zero, List.set_cons_succ, List.getElem_toArray, List.getElem_cons_zero, List.getElem_cons_succ]
                  refine wpAnyH_take (i := 24) (v := ?_) rfl (by kernel_rfl) (by kernel_rfl) (by kernel_rfl) (fun _ _ _ h => h) (Or.inl ⟨by rfl, ?_⟩) (by assumption) ?_
                  rotate_left 1
                  · intro w hSw; (try dsimp only at hSw); go_simp <;> with_reducible rfl
                  try simp only [Act.put, List.setIfInBounds_toArray, List.set_cons_zero, List.set_cons_succ, List.getElem_toArray, List.getElem_cons_zero, List.getElem_cons_succ]
                  refine wpAnyH_take (i := 25) (v := ?_) rfl (by kernel_rfl) (by kernel_rfl) (by kernel_rfl) (fun _ _ _ h => h) (Or.inl ⟨by rfl, ?_⟩) (by assumption) ?_
                  rotate_left 1
                  · intro w hSw; (try dsimp only at hSw); go_simp <;> with_reducible rfl
                  try simp only [Act.put, List.setIfInBounds_toArray, List.set_cons_zero, List.set_cons_succ, List.getElem_toArray, List.getElem_cons_zero, List.getElem_cons_succ]
                  refine wpAnyH_take (i := 26) (v := ?_) rfl (by kernel_rfl) (by kernel_rfl) (by kernel_rfl) (fun _ _ _ h => h) (Or.inl ⟨by rfl, ?_⟩) (by assumption) ?_
                  rotate_left 1
                  · intro w hSw; (try dsimp only at hSw); go_simp <;> with_reducible rfl
                  try simp only [Act.put, List.setIfInBounds_toArray, List.set_cons_zero, List.set_cons_succ, List.getElem_toArray, List.getElem_cons_zero, List.getElem_cons_succ]
                  refine wpAnyH_take (i := 27) (v := ?_) rfl (by kernel_rfl) (by kernel_rfl) (by kernel_rfl) (fun _ _ _ h => h) (Or.inl ⟨by rfl, ?_⟩) (by assumption) ?_
                  rotate_left 1
                  · intro w hSw; (try dsimp only at hSw); go_simp <;> with_reducible rfl
                  try simp only [Act.put, List.setIfInBounds_toArray, List.set_cons_zero, List.set_cons_succ, List.getElem_toArray, List.getElem_cons_zero, List.getElem_cons_succ]
                  refine wpAnyH_take (i := 28) (v := ?_) rfl (by kernel_rfl) (by kernel_rfl) (by kernel_rfl) (fun _ _ _ h => h) (Or.inl ⟨by rfl, ?_⟩) (by assumption) ?_
                  rotate_left 1
                  · intro w hSw; (try dsimp only at hSw); go_simp <;> with_reducible rfl
                  try simp only [Act.put, List.setIfInBounds_toArray, List.set_cons_zero, List.set_cons_succ, List.getElem_toArray, List.getElem_cons_zero, List.getElem_cons_succ]
                  refine wpAnyH_take (i := 29) (v := ?_) rfl (by kernel_rfl) (by kernel_rfl) (by kernel_rfl) (fun _ _ _ h => h) (Or.inl ⟨by rfl, ?_⟩) (by assumption) ?_
                  rotate_left 1
                  · intro w hSw; (try dsimp only at hSw); go_simp <;> with_reducible rfl
                  try simp only [Act.put, List.setIfInBounds_toArray, List.set_cons_zero, List.set_cons_succ, List.getElem_toArray, List.getElem_cons_zero, List.getElem_cons_succ]
                  refine wpAnyH_take (i := 30) (v := ?_) rfl (by kernel_rfl) (by kernel_rfl) (by kernel_rfl) (fun _ _ _ h => h) (Or.inl ⟨by rfl, ?_⟩) (by assumption) ?_
                  rotate_left 1
                  · intro w hSw; obtain ⟨z0, z1, z2, z3, z4, z5, z6, z7, z8, z9, z10, z11, z12, z13, z14, z15, z16, z17, z18, z19, z20, z21, z22, z23, z24, z25⟩ := hSw; (try dsimp only at hSw); go_simp <;> with_reducible rfl
                  try simp only [Act.put, List.setIfInBounds_toArray, List.set_cons_zero, List.set_cons_succ, List.getElem_toArray, List.getElem_cons_zero, List.getElem_cons_succ]
                  refine wpAnyH_take (i := 31) (v := ?_) rfl (by kernel_rfl) (by kernel_rfl) (by kernel_rfl) (fun _ _ _ h => h) (Or.inl ⟨by rfl, ?_⟩) (by assumption) ?_
                  rotate_left 1
                  · intro w hSw; (try dsimp only at hSw); go_simp <;> with_reducible rfl
                  try simp only [Act.put, List.setIfInBounds_toArray, List.set_cons_zero, List.set_cons_succ, List.getElem_toArray, List.getElem_cons_zero, List.getElem_cons_succ]
                  refine wpAnyH_take (i := 32) (v := ?_) rfl (by kernel_rfl) (by kernel_rfl) (by kernel_rfl) (fun _ _ _ h => h) (Or.inl ⟨by rfl, ?_⟩) (by assumption) ?_
                  rotate_left 1
                  · intro w hSw; (try dsimp only at hSw); go_simp <;> with_reducible rfl
                  try simp only [Act.put, List.setIfInBounds_toArray, List.set_cons_zero, List.set_cons_succ, List.getElem_toArray, List.getElem_cons_zero, List.getElem_cons_succ]
                  refine wpAnyH_take (i := 33) (v := ?_) rfl (by kernel_rfl) (by kernel_rfl) (by kernel_rfl) (fun _ _ _ h => h) (Or.inl ⟨by rfl, ?_⟩) (by assumption) ?_
                  rotate_left 1
                  · intro w hSw; (try dsimp only at hSw); go_simp <;> with_reducible rfl
                  try simp only [Act.put, List.setIfInBounds_toArray, List.set_cons_zero, List.set_cons_succ, List.getElem_toArray, List.getElem_cons_zero, List.getElem_cons_succ]
                  refine wpAnyH_take (i := 34) (v := ?_) rfl (by kernel_rfl) (by kernel_rfl) (by kernel_rfl) (fun _ _ _ h => h) (Or.inl ⟨by rfl, ?_⟩) (by assumption) ?_
                  rotate_left 1
                  · intro w hSw; obtain ⟨z0, z1, z2, z3, z4, z5, z6, z7, z8, z9, z10, z11, z12, z13, z14, z15, z16, z17, z18, z19, z20, z21, z22, z23, z24, z25⟩ := hSw; (try dsimp only at hSw); go_simp <;> with_reducible rfl
                  try simp only [Act.put, List.setIfInBounds_toArray, List.set_cons_zero, List.set_cons_succ, List.getElem_toArray, List.getElem_cons_zero, List.getElem_cons_succ]
                  refine wpAnyH_take (i := 35) (v := .bool false) rfl (by kernel_rfl) (by kernel_rfl) (by kernel_rfl) (fun _ _ _ h => h) (Or.inl ⟨by rfl, ?_⟩) (by assumption) ?_
                  · intro w hSw; (try dsimp only at hSw); go_simp <;> (first | rfl | simp [*])
                  try simp only [Act.put, List.setIfInBounds_toArray, List.set_cons_zero, List.set_cons_succ, List.getElem_toArray, List.getElem_cons_zero, List.getElem_cons_succ]
                  refine wpAnyH_take (i := 36) (v := ?_) rfl (by kernel_rfl) (by kernel_rfl) (by kernel_rfl) (fun _ _ _ h => h) (Or.inl ⟨by rfl, ?_⟩) (by assumption) ?_
                  rotate_left 1
                  · intro w hSw; (try dsimp only at hSw); go_simp <;> with_reducible rfl
                  try simp only [Act.put, List.setIfInBounds_toArray, List.set_cons_zero, List.set_cons_succ, List.getElem_toArray, List.getElem_cons_zero, List.getElem_cons_succ]
                  refine wpAnyH_take (i := 37) (v := ?_) rfl (by kernel_rfl) (by kernel_rfl) (by kernel_rfl) (fun _ _ _ h => h) (Or.inl ⟨by rfl, ?_⟩) (by assumption) ?_
                  rotate_left 1
                  · intro w hSw; (try dsimp only at hSw); go_simp <;> with_reducible rfl
                  try simp only [Act.put, List.setIfInBounds_toArray, List.set_cons_zero, List.set_cons_succ, List.getElem_toArray, List.getElem_cons_zero, List.getElem_cons_succ]
                  refine wpAnyH_take (i := 38) (v := ?_) rfl (by kernel_rfl) (by kernel_rfl) (by kernel_rfl) (fun _ _ _ h => h) (Or.inl ⟨by rfl, ?_⟩) (by assumption) ?_
                  rotate_left 1
                  · intro w hSw; (try dsimp only at hSw); go_simp <;> with_reducible rfl
                  try simp only [Act.put, List.setIfInBounds_toArray, List.set_cons_zero, List.set_cons_succ, List.getElem_toArray, List.getElem_cons_zero, List.getElem_cons_succ]
                  refine wpAnyH_take (i := 39) (v := ?_) rfl (by kernel_rfl) (by kernel_rfl) (by kernel_rfl) (fun _ _ _ h => h) (Or.inl ⟨by rfl, ?_⟩) (by assumption) ?_
                  rotate_left 1
                  · intro w hSw; (try dsimp only at hSw); go_simp <;> with_reducible rfl
                  try simp only [Act.put, List.setIfInBounds_toArray, List.set_cons_zero, List.set_cons_succ, List.getElem_toArray, List.getElem_cons_zero, List.getElem_cons_succ]
                  refine wpAnyH_take (i := 40) (v := ?_) rfl (by kernel_rfl) (by kernel_rfl) (by kernel_rfl) (fun _ _ _ h => h) (Or.inl ⟨by rfl, ?_⟩) (by assumption) ?_
                  rotate_left 1
                  · intro w hSw; (try dsimp only at hSw); go_simp <;> with_reducible rfl
                  try simp only [Act.put, List.setIfInBounds_toArray, List.set_cons_zero, List.set_cons_succ, List.getElem_toArray, List.getElem_cons_zero, List.getElem_cons_succ]
                  refine wpAnyH_take (i := 41) (v := ?_) rfl (by kernel_rfl) (by kernel_rfl) (by kernel_rfl) (fun _ _ _ h => h) (Or.inl ⟨by rfl, ?_⟩) (by assumption) ?_
                  rotate_left 1
                  · intro w hSw; obtain ⟨z0, z1, z2, z3, z4, z5, z6, z7, z8, z9, z10, z11, z12, z13, z14, z15, z16, z17, z18, z19, z20, z21, z22, z23, z24, z25⟩ := hSw; (try dsimp only at hSw); go_simp <;> with_reducible rfl
                  try simp only [Act.put, List.setIfInBounds_toArray, List.set_cons_zero, List.set_cons_succ, List.getElem_toArray, List.getElem_cons_zero, List.getElem_cons_succ]
                  refine wpAnyH_take (i := 42) (v := ?_) rfl (by kernel_rfl) (by kernel_rfl) (by kernel_rfl) (fun _ _ _ h => h) (Or.inl ⟨by rfl, ?_⟩) (by assumption) ?_
                  rotate_left 1
                  · intro w hSw; (try dsimp only at hSw); go_simp <;> with_reducible rfl
                  try simp only [Act.put, List.setIfInBounds_toArray, List.set_cons_zero, List.set_cons_succ, List.getElem_toArray, List.getElem_cons_zero, List.getElem_cons_succ]
                  refine wpAnyH_take (i := 43) (v := ?_) rfl (by kernel_rfl) (by kernel_rfl) (by kernel_rfl) (fun _ _ _ h => h) (Or.inl ⟨by rfl, ?_⟩) (by assumption) ?_
                  rotate_left 1
                  · intro w hSw; (try dsimp only at hSw); go_simp <;> with_reducible rfl
                  try simp only [Act.put, List.setIfInBounds_toArray, List.set_cons_zero, List.set_cons_succ, List.getElem_toArray, List.getElem_cons_zero, List.getElem_cons_succ]
                  refine wpAnyH_take (i := 44) (v := ?_) rfl (by kernel_rfl) (by kernel_rfl) (by kernel_rfl) (fun _ _ _ h => h) (Or.inl ⟨by rfl, ?_⟩) (by assumption) ?_
                  rotate_left 1
                  · intro w hSw; (try dsimp only at hSw); go_simp <;> with_reducible rfl
                  try simp only [Act.put, List.setIfInBounds_toArray, List.set_cons_zero, List.set_cons_succ, List.getElem_toArray, List.getElem_cons_zero, List.getElem_cons_succ]
                  refine wpAnyH_take (i := 45) (v := ?_) rfl (by kernel_rfl) (by kernel_rfl) (by kernel_rfl) (fun _ _ _ h => h) (Or.inl ⟨by rfl, ?_⟩) (by assumption) ?_
                  rotate_left 1
                  · intro w hSw; obtain ⟨z0, z1, z2, z3, z4, z5, z6, z7, z8, z9, z10, z11, z12, z13, z14, z15, z16, z17, z18, z19, z20, z21, z22, z23, z24, z25⟩ := hSw; (try dsimp only at hSw); go_simp <;> with_reducible rfl
                  try simp only [Act.put, List.setIfInBounds_toArray, List.set_cons_zero, List.set_cons_succ, List.getElem_toArray, List.getElem_cons_zero, List.getElem_cons_succ]
                  refine wpAnyH_take (i := 46) (v := .bool false) rfl (by kernel_rfl) (by kernel_rfl) (by kernel_rfl) (fun _ _ _ h => h) (Or.inl ⟨by rfl, ?_⟩) (by assumption) ?_
                  · intro w hSw; (try dsimp only at hSw); go_simp <;> (first | rfl | simp [*])
                  try simp only [Act.put, List.setIfInBounds_toArray, List.set_cons_zero, List.set_cons_succ, List.getElem_toArray, List.getElem_cons_zero, List.getElem_cons_succ]
                  refine wpAnyH_take (i := 47) (v := ?_) rfl (by kernel_rfl) (by kernel_rfl) (by kernel_rfl) (fun _ _ _ h => h) (Or.inl ⟨by rfl, ?_⟩) (by assumption) ?_
                  rotate_left 1
                  · intro w hSw; (try dsimp only at hSw); go_simp <;> with_reducible rfl
                  try simp only [Act.put, List.setIfInBounds_toArray, List.set_cons_zero, List.set_cons_succ, List.getElem_toArray, List.getElem_cons_zero, List.getElem_cons_succ]
                  refine wpAnyH_take (i := 48) (v := ?_) rfl (by kernel_rfl) (by kernel_rfl) (by kernel_rfl) (fun _ _ _ h => h) (Or.inl ⟨by rfl, ?_⟩) (by assumption) ?_
                  rotate_left 1
                  · intro w hSw; (try dsimp only at hSw); go_simp <;> with_reducible rfl
                  try simp only [Act.put, List.setIfInBounds_toArray, List.set_cons_zero, List.set_cons_succ, List.getElem_toArray, List.getElem_cons_zero, List.getElem_cons_succ]
                  refine wpAnyH_take (i := 49) (v := ?_) rfl (by kernel_rfl) (by kernel_rfl) (by kernel_rfl) (fun _ _ _ h => h) (Or.inl ⟨by rfl, ?_⟩) (by assumption) ?_
                  rotate_left 1
                  · intro w hSw; (try dsimp only at hSw); go_simp <;> with_reducible rfl
                  try simp only [Act.put, List.setIfInBounds_toArray, List.set_cons_zero, List.set_cons_succ, List.getElem_toArray, List.getElem_cons_zero, List.getElem_cons_succ]
                  refine wpAnyH_take (i := 50) (v := ?_) rfl (by kernel_rfl) (by kernel_rfl) (by kernel_rfl) (fun _ _ _ h => h) (Or.inl ⟨by rfl, ?_⟩) (by assumption) ?_
                  rotate_left 1
                  · intro w hSw; (try dsimp only at hSw); go_simp <;> with_reducible rfl
                  try simp only [Act.put, List.setIfInBounds_toArray, List.set_cons_zero, List.set_cons_succ, List.getElem_toArray, List.getElem_cons_zero, List.getElem_cons_succ]
                  refine wpAnyH_take (i := 51) (v := ?_) rfl (by kernel_rfl) (by kernel_rfl) (by kernel_rfl) (fun _ _ _ h => h) (Or.inl ⟨by rfl, ?_⟩) (by assumption) ?_
                  rotate_left 1
                  · intro w hSw; (try dsimp only at hSw); go_simp <;> with_reducible rfl
                  try simp only [Act.put, List.setIfInBounds_toArray, List.set_cons_zero, List.set_cons_succ, List.getElem_toArray, List.getElem_cons_zero, List.getElem_cons_succ]
                  refine wpAnyH_take (i := 52) (v := ?_) rfl (by kernel_rfl) (by kernel_rfl) (by kernel_rfl) (fun _ _ _ h => h) (Or.inl ⟨by rfl, ?_⟩) (by assumption) ?_
                  rotate_left 1
                  · intro w hSw; obtain ⟨z0, z1, z2, z3, z4, z5, z6, z7, z8, z9, z10, z11, z12, z13, z14, z15, z16, z17, z18, z19, z20, z21, z22, z23, z24, z25⟩ := hSw; (try dsimp only at hSw); go_simp <;> with_reducible rfl
                  try simp only [Act.put, List.setIfInBounds_toArray, List.set_cons_zero, List.set_cons_succ, List.getElem_toArray, List.getElem_cons_zero, List.getElem_cons_succ]
                  refine wpAnyH_take (i := 53) (v := ?_) rfl (by kernel_rfl) (by kernel_rfl) (by kernel_rfl) (fun _ _ _ h => h) (Or.inl ⟨by rfl, ?_⟩) (by assumption) ?_
                  rotate_left 1
                  · intro w hSw; (try dsimp only at hSw); go_simp <;> with_reducible rfl
                  try simp only [Act.put, List.setIfInBounds_toArray, List.set_cons_zero, List.set_cons_succ, List.getElem_toArray, List.getElem_cons_zero, List.getElem_cons_succ]
                  refine wpAnyH_take (i := 54) (v := ?_) rfl (by kernel_rfl) (by kernel_rfl) (by kernel_rfl) (fun _ _ _ h => h) (Or.inl ⟨by rfl, ?_⟩) (by assumption) ?_
                  rotate_left 1
                  · intro w hSw; (try dsimp only at hSw); go_simp <;> with_reducible rfl
                  try simp only [Act.put, List.setIfInBounds_toArray, List.set_cons_zero, List.set_cons_succ, List.getElem_toArray, List.getElem_cons_zero, List.getElem_cons_succ]
                  refine wpAnyH_take (i := 55) (v := ?_) rfl (by kernel_rfl) (by kernel_rfl) (by kernel_rfl) (fun _ _ _ h => h) (Or.inl ⟨by rfl, ?_⟩) (by assumption) ?_
                  rotate_left 1
                  · intro w hSw; (try dsimp only at hSw); go_simp <;> with_reducible rfl
                  try simp only [Act.put, List.setIfInBounds_toArray, List.set_cons_zero, List.set_cons_succ, List.getElem_toArray, List.getElem_cons_zero, List.getElem_cons_succ]
                  refine wpAnyH_take (i := 56) (v := ?_) rfl (by kernel_rfl) (by kernel_rfl) (by kernel_rfl) (fun _ _ _ h => h) (Or.inl ⟨by rfl, ?_⟩) (by assumption) ?_
                  rotate_left 1
                  · intro w hSw; obtain ⟨z0, z1, z2, z3, z4, z5, z6, z7, z8, z9, z10, z11, z12, z13, z14, z15, z16, z17, z18, z19, z20, z21, z22, z23, z24, z25⟩ := hSw; (try dsimp only at hSw); go_simp <;> with_reducible rfl
                  try simp only [Act.put, List.setIfInBounds_toArray, List.set_cons_zero, List.set_cons_succ, List.getElem_toArray, List.getElem_cons_zero, List.getElem_cons_succ]
                  refine wpAnyH_take (i := 57) (v := .bool false) rfl (by kernel_rfl) (by kernel_rfl) (by kernel_rfl) (fun _ _ _ h => h) (Or.inl ⟨by rfl, ?_⟩) (by assumption) ?_
                  · intro w hSw; (try dsimp only at hSw); go_simp <;> (first | rfl | simp [*])
                  try simp only [Act.put, List.setIfInBounds_toArray, List.set_cons_zero, List.set_cons_succ, List.getElem_toArray, List.getElem_cons_zero, List.getElem_cons_succ]
                  refine wpAnyH_take (i := 58) (v := ?_) rfl (by kernel_rfl) (by kernel_rfl) (by kernel_rfl) (fun _ _ _ h => h) (Or.inl ⟨by rfl, ?_⟩) (by assumption) ?_
                  rotate_left 1
                  · intro w hSw; (try dsimp only at hSw); go_simp <;> with_reducible rfl
                  try simp only [Act.put, List.setIfInBounds_toArray, List.set_cons_zero, List.set_cons_succ, List.getElem_toArray, List.getElem_cons_zero, List.getElem_cons_succ]
                  refine wpAnyH_done (by kernel_rfl) ?_ _
                  go_wp2_with fail
                  go_meet
                  exact ⟨rfl, 1, HWD.out⟩
                case rest =>
                  obtain ⟨rfl, q, hcut⟩ := hcut
                  have BC : Hid (Below wr.heap.size wr wc) := Lib.hid (by rw [hcut]; exact below_drewN (Below.refl _ _) q)
                  clear hcut HB1' HB2'
                  obtain ⟨wb, hwb⟩ : ∃ wb, wb = wc := ⟨_, rfl⟩
                  rw [← hwb] at BC ⊢
                  clear hwb wc
                  obtain ⟨ov, hov⟩ : ∃ ov : Int, ov = if f1.b = f0.b then 0 else 1 := ⟨_, rfl⟩
                  have HOV : Hid (ov = (if f1.b = f0.b then 0 else 1) ∧ 0 ≤ ov ∧ ov ≤ 1) := Lib.hid ⟨hov, by rw [hov]; split <;> decide, by rw [hov]; split <;> decide⟩
                  clear hov
                  go_upto_region 38 with fail
                  go_cut [189] (fun s wx => s = .bool (!decide (f1.b = f0.b)) ∧ ∃ q, wx = wb.drewN q)
                  case first =>
                   as_aux_lemma =>
                    have HTB : Hid (∀ q, (wb.drewN q).cell? ⟨g17, k * 5 + 4, none⟩ = some (.string (strB f1.b)) ∧ (wb.drewN q).cell? ⟨g10, k * 5 + 4, none⟩ = some (.string (strB f0.b))) := Lib.hid (fun q => by
                      obtain ⟨z0, z1, z2, z3, z4, z5, z6, z7, z8, z9, z10, z11, z12, z13, z14, z15, z16, z17, z18, z19, z20, z21, z22, z23, z24, z25⟩ := HT.out (wb.drewN q) (below_drewN BC.out q)
                      clear z0 z1 z2 z3 z5 z6 z7 z8 z10 z11 z12 z13 z14 z15 z16 z17 z18 z19 z20 z21 z22 z23 z24 z25
                      exact ⟨z9, z4⟩)
                    have t0 := fun q => (HTB.out q).1
                    have t1 := fun q => (HTB.out q).2
                    by_cases hb : f1.b = f0.b
                    · have HE : Hid ((!decide (f1.b = f0.b)) = false) := Lib.hid (by simp [hb])
                      rw [hb] at t0
                      clear hb HTB
                      go_quiet (fail)
                      go_wp2_with fail
                      go_meet
                      exact ⟨by rw [HE.out] <;> rfl, nq, rfl⟩
                    · have HE : Hid ((!decide (f1.b = f0.b)) = true) := Lib.hid (by simp [hb])
                      have hne : ((strB f1.b).toList == (strB f0.b).toList) = false := by
                        rw [beq_eq_false_iff_ne]
                        exact fun e => hb (strBL_inj e)
                      clear hb HTB
                      go_quiet (fail)
                      go_wp2_with fail
                      go_meet
                      exact ⟨by rw [HE.out] <;> rfl, nq, rfl⟩
                  case rest =>
                    obtain ⟨rfl, q, hcut⟩ := hcut
                    have BC2 : Hid (Below wr.heap.size wr wc) := Lib.hid (by rw [hcut]; exact below_drewN BC.out q)
                    clear hcut BC
                    obtain ⟨wb2, hwb⟩ : ∃ wb2, wb2 = wc := ⟨_, rfl⟩
                    rw [← hwb] at BC2 ⊢
                    clear hwb wc
                    go_upto_if 189 with fail
                    go_cut [22] (fun s wx => s = .int .i64 ov ∧ wx = wb2)
                    case first =>
                      by_cases hb : f1.b = f0.b
                      · have HE : Hid (ov = 0) := Lib.hid (by rw [HOV.out.1, if_pos hb])
                        rw [decide_eq_true hb]
                        clear hb
                        go_wp2_with fail
                        go_meet
                        exact ⟨by rw [HE.out] <;> rfl, rfl⟩
                      · have HE : Hid (ov = 1) := Lib.hid (by rw [HOV.out.1, if_neg hb])
                        rw [decide_eq_false hb]
                        clear hb
                        go_wp2_with fail
                        go_meet
                        exact ⟨by rw [HE.out] <;> rfl, rfl⟩
                    case rest =>
                      obtain ⟨rfl, hcut⟩ := hcut
                      rw [hcut]
                      clear hcut wc
                      obtain ⟨z0, z1, z2, z3, z4, z5, z6, z7, z8, z9, z10, z11, z12, z13, z14, z15, z16, z17, z18, z19, z20, z21, z22, z23, z24, z25⟩ := HT.out wb2 BC2.out
                      clear z4 z5 z6 z7 z8 z9 z10 z11 z12 z13 z14 z15 z16 z17 z18 z19 z20 z21 z22 z23 z24 z25
                      go_upto_region 41 with fail
                      obtain ⟨wx, hwx⟩ : ∃ wx, wx = wb2.alloc (.cells #[.int .i64 f0.i, .int .i64 f0.s, .int .i64 f0.g, .int .i64 f0.n] 39) := ⟨_, rfl⟩
                      obtain ⟨qb, hqb⟩ : ∃ qb, qb = wb2.heap.size := ⟨_, rfl⟩
                      have K1 : Hid (Blk wx qb 39 #[.int .i64 f0.i, .int .i64 f0.s, .int .i64 f0.g, .int .i64 f0.n]) := Lib.hid (by rw [hwx]; exact Blk.new wb2 _ _ hqb)
                      have B1 : Hid (Below wr.heap.size wr wx ∧ wr.heap.size ≤ qb) := Lib.hid ⟨by rw [hwx]; exact BC2.out.alloc BC2.out.size _, by rw [hqb]; exact BC2.out.size⟩
                      rw [← hwx, ← hqb]
                      clear hwx hqb z0 z1 z2 z3 BC2
                      obtain ⟨z0, z1, z2, z3, z4, z5, z6, z7, z8, z9, z10, z11, z12, z13, z14, z15, z16, z17, z18, z19, z20, z21, z22, z23, z24, z25⟩ := HT.out wx B1.out.1
                      clear z0 z1 z2 z3 z4 z5 z6 z7 z8 z10 z11 z12 z13 z14 z15 z16 z17 z18 z19 z20 z21 z22 z23 z24 z25
                      have u3 : wx.cell? ⟨qb, 3, none⟩ = some (.int .i64 f0.n) := (K1.out.cell 3).trans rfl
                      have v3 : wx.frozen? ⟨qb, 3, none⟩ = false := K1.out.frozen 3
                      have hsz := strB_size f1.b


                      go_upto_region 42 with fail
                      obtain ⟨wy, hwy⟩ : ∃ wy, wy = wx.setCell ⟨qb, 3, none⟩ (.int .i64 (f1.b.length : Int)) := ⟨_, rfl⟩
                      have K2 : Hid (Blk wy qb 39 #[.int .i64 f0.i, .int .i64 f0.s, .int .i64 f0.g, .int .i64 (f1.b.length : Int)]) := Lib.hid (by rw [hwy]; exact K1.out.set_ 3 _)
                      have B2 : Hid (Below wr.heap.size wr wy) := Lib.hid (by
                        rw [hwy]
                        exact ((Chg.of_below B1.out.1 (fun q => q = qb)).setCell (p := ⟨qb, 3, none⟩) (.inl rfl) _).below (fun q hq e => by have := B1.out.2; omega) (Nat.le_refl _))
                      rw [← hwy]
                      clear hwy z9 u3 v3 hsz
                      have u2 : wy.cell? ⟨qb, 2, none⟩ = some (.int .i64 f0.g) := (K2.out.cell 2).trans rfl
                      have v2 : wy.frozen? ⟨qb, 2, none⟩ = false := K2.out.frozen 2
                      have hg0 := HST.out.2.2.2.2.1
                      have hg1 := HST.out.2.2.2.2.2
                      have ho0 := HOV.out.2.1
                      have ho1 := HOV.out.2.2
                      go_upto_region 43 with fail
                      obtain ⟨wz, hwz⟩ : ∃ wz, wz = wy.setCell ⟨qb, 2, none⟩ (.int .i64 (f0.g + ov)) := ⟨_, rfl⟩
                      have K3 : Hid (Blk wz qb 39 #[.int .i64 f0.i, .int .i64 f0.s, .int .i64 (f0.g + ov), .int .i64 (f1.b.length : Int)]) := Lib.hid (by rw [hwz]; exact K2.out.set_ 2 _)
                      have B3 : Hid (Below wr.heap.size wr wz) := Lib.hid (by
                        rw [hwz]
                        exact ((Chg.of_below B2.out (fun q => q = qb)).setCell (p := ⟨qb, 2, none⟩) (.inl rfl) _).below (fun q hq e => by have := B1.out.2; omega) (Nat.le_refl _))
                      rw [← hwz]
                      clear hwz u2 v2 hg0 hg1 ho0 ho1 K1 K2 B2
                      go_cut [213] (fun s wx => s = .bool false ∧ ∃ q, wx = wz.drewN q)
                      case first =>
                       as_aux_lemma =>
                        have hne := fun w => neq_stat f1.i f1.s f1.g f1.n f0.i f0.s (f0.g + ov) (f1.b.length : Int) w
                        have he : eqS4 f1.i f1.s f1.g f1.n f0.i f0.s (f0.g + ov) (f1.b.length : Int) = true := by
                          obtain ⟨e1, e2, e3, e4, _⟩ := HST.out
                          unfold eqS4
                          rw [e1, e2, e3, e4, ← HOV.out.1]; simp
                        rw [he] at hne
                        have hq := guard_stat
                        have HTB : Hid (∀ q, (wz.drewN q).cell? ⟨g17, k * 5, none⟩ = some (.int .i64 f1.i) ∧ (wz.drewN q).cell? ⟨g17, k * 5 + 1, none⟩ = some (.int .i64 f1.s) ∧ (wz.drewN q).cell? ⟨g17, k * 5 + 2, none⟩ = some (.int .i64 f1.g) ∧ (wz.drewN q).cell? ⟨g17, k * 5 + 3, none⟩ = some (.int .i64 f1.n)) := Lib.hid (fun q => by
                          obtain ⟨z0, z1, z2, z3, z4, z5, z6, z7, z8, z9, z10, z11, z12, z13, z14, z15, z16, z17, z18, z19, z20, z21, z22, z23, z24, z25⟩ := HT.out (wz.drewN q) (below_drewN B3.out q)
                          clear z0 z1 z2 z3 z4 z9 z10 z11 z12 z13 z14 z15 z16 z17 z18 z19 z20 z21 z22 z23 z24 z25
                          exact ⟨z5, z6, z7, z8⟩)
                        have t0 := fun q => (HTB.out q).1
                        have t1 := fun q => (HTB.out q).2.1
                        have t2 := fun q => (HTB.out q).2.2.1
                        have t3 := fun q => (HTB.out q).2.2.2
                        have s0 : ∀ q, (wz.drewN q).cell? ⟨qb, 0, none⟩ = some (.int .i64 f0.i) := fun q => (K3.out.cell 0).trans rfl
                        have s1 : ∀ q, (wz.drewN q).cell? ⟨qb, 1, none⟩ = some (.int .i64 f0.s) := fun q => (K3.out.cell 1).trans rfl
                        have s2 : ∀ q, (wz.drewN q).cell? ⟨qb, 2, none⟩ = some (.int .i64 (f0.g + ov)) := fun q => (K3.out.cell 2).trans rfl
                        have s3 : ∀ q, (wz.drewN q).cell? ⟨qb, 3, none⟩ = some (.int .i64 (f1.b.length : Int)) := fun q => (K3.out.cell 3).trans rfl
                        clear he HTB
                        go_quiet (fail)
                        go_wp2_with fail
                        go_meet
                        exact ⟨rfl, nq, rfl⟩
                      case rest =>
                        obtain ⟨rfl, q, hcut⟩ := hcut
                        have DE := Lib.hid (DZ.out.same (w' := wc) (by rw [hcut]; exact below_drewN B3.out q))
                        clear hcut B3 K3 DZ HT HST
                        go_wp2_with fail
                        go_roundw
                        case rel => exact ⟨k + 1, by go_num, by omega, _, DE⟩
                        case measure => simp [intOf]; omega
              · obtain rfl : k = j := by omega
                have hk1 : ¬ (k : Int) < (k : Int) := by omega
                have CS := Lib.hid (names_c (DZ.out.ds 0 p _ d2 rfl) (by omega))
                go_wp2_with fail
                refine CS.out.mono ?_
                rintro e wn ⟨v, ss, rfl, hnd, hmem, hrow, hbr⟩
                obtain ⟨mn, hmn⟩ : ∃ m, m = ss.length := ⟨_, rfl⟩
                have ht : t11 = ss.mergeSort fun x y => decide (x ≤ y) := by
                  obtain ⟨_, ss0, h1, h2, h3⟩ := HN11.out
                  rw [h3]
                  exact sorted_same h1 hnd (fun x => by rw [h2 x, hmem x, HNS.out])
                rw [← ht, ← hmn] at hrow
                have hlen : t11.length = mn := by rw [ht, hmn, List.length_mergeSort]
                obtain ⟨An, cn, rfl, hn1, hn2, _⟩ := own_form hrow
                have h1 := (DZ.out.fr.keep hbr (Sam.refl _ _)).now
                rw [HPP.out] at h1
                obtain ⟨⟨⟨⟨⟨⟨⟨_, r10⟩, r11⟩, r14⟩, r17⟩, r18⟩, r19⟩, r20⟩ := h1
                have CT := texts_any A11 An m11 mn c11 cn t11 t11 wn (TX.of_own HN11.out.1.symm r11) (TX.of_own hlen hrow) (by have := HK11.out; unfold maxLen at this; omega) (by unfold maxLen at hn2; omega) HK11.out.1 hn1
                have hdt : decide (t11 = t11) = true := by simp
                rw [hdt] at CT
                have CT2 := Lib.hid CT
                have HB := Lib.hid (DZ.out.bel.trans (hbr.mono DZ.out.bel.size))
                clear hrow hbr hnd hmem ht hmn hlen CT hdt CS DZ r10 r11 r14 r17 r18 r19 r20
                go_wp2_with fail
                refine CT2.out.mono ?_
                rintro e wm ⟨rfl, q, rfl⟩
                have HF : Hid (TruQ w (.returned (.bool true)) (wn.drewN q)) := Lib.hid ⟨rfl, below_drewN HB.out q⟩
                go_wp2_with fail
                go_ret
                exact HF.out
end Go.Proofs.Ythhbfjhgmdnpbab
