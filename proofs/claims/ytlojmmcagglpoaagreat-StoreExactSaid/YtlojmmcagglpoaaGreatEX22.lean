/- THE STATE of StoreExact: two disks, two writers and the document's two, the pairs; what the calls do to it. -/
import Derived.Test.YtlojmmcagglpoaaGreatEAlike22
import Derived.Test.YtlojmmcagglpoaaGreatELoad22
import Derived.Test.YtlojmmcagglpoaaGreatEOther
namespace Go.Proofs.YtlojmmcagglpoaaGreat
open Go.RowKit Go.Maps
/-- a writer and the document's -/
structure WAl (w : Wr) (x : R22) : Prop where
  nm : w.nm = x.nm
  sc : w.sc = x.sc
  on : w.busy = true → x.dn = (w.nx : Int) ∧ x.by_ = w.by_
  off : w.busy = false → x.dn = -1
  len : x.by_.length ≤ 1048576
  ok : w.Ok
theorem WAl.busy {w : Wr} {x : R22} (h : WAl w x) : decide (0 ≤ x.dn) = w.busy := by
  cases hb : w.busy with
  | true => rw [(h.on hb).1]; exact decide_eq_true (by omega)
  | false => rw [h.off hb]; rfl
theorem WAl.dn3 {w : Wr} {x : R22} (h : WAl w x) : x.dn ≤ 3 := by
  cases hb : w.busy with
  | true => rw [(h.on hb).1]; have := h.ok.nx hb; omega
  | false => rw [h.off hb]; decide
theorem WAl.begin {w : Wr} {x : R22} (h : WAl w x) (l : List UInt8) : (w.begin l).1 = (x.begin l).1 ∧ WAl (w.begin l).2 (x.begin l).2 := by
  unfold Wr.begin R22.begin
  cases hb : w.busy with
  | true =>
    rw [if_pos rfl, if_pos (by rw [(h.on hb).1]; omega)]
    exact ⟨rfl, h⟩
  | false =>
    have h0 : ¬ 0 ≤ x.dn := by rw [h.off hb]; decide
    rw [if_neg (show ¬ false = true by decide), if_neg h0]
    by_cases hl : 1048576 < l.length
    · rw [if_pos hl, if_pos hl]; exact ⟨rfl, h⟩
    · rw [if_neg hl, if_neg hl]
      exact ⟨rfl, h.nm, h.sc, fun _ => ⟨rfl, rfl⟩, fun e => (by cases e), (by simp only; omega), ⟨h.ok.nm, h.ok.sc, (by simp only; omega), fun _ => (by simp)⟩⟩
theorem R22.op0 {x : R22} (r : Rd) (h : x.dn = 0) : x.op r = if (r.sti x.sc).2.2.2.2 = 0 then r.cut x.sc else r.create x.sc := by unfold R22.op; rw [if_pos h]
theorem R22.op1 {x : R22} (r : Rd) (h : x.dn = 1) : x.op r = r.append x.sc x.by_ := by unfold R22.op; rw [if_neg (by omega), if_pos h]
theorem R22.op2 {x : R22} (r : Rd) (h : x.dn = 2) : x.op r = r.sync x.sc := by unfold R22.op; rw [if_neg (by omega), if_neg (by omega), if_pos h]
theorem R22.op3 {x : R22} (r : Rd) (h : x.dn = 3) : x.op r = r.rename x.sc x.nm := by unfold R22.op; rw [if_neg (by omega), if_neg (by omega), if_neg (by omega)]
theorem Wr.op0 {w : Wr} (d : Dk) (h : w.nx = 0) : w.op d = if (d.stat w.sc).2 = 0 then d.cut w.sc else d.create w.sc := by unfold Wr.op; rw [h]; rfl
theorem Wr.op1 {w : Wr} (d : Dk) (h : w.nx = 1) : w.op d = d.append w.sc w.by_ := by unfold Wr.op; rw [h]; rfl
theorem Wr.op2 {w : Wr} (d : Dk) (h : w.nx = 2) : w.op d = d.sync w.sc := by unfold Wr.op; rw [h]; rfl
theorem Wr.op3 {w : Wr} (d : Dk) (h : w.nx = 3) : w.op d = d.rename w.sc w.nm := by unfold Wr.op; rw [h]; rfl
theorem WAl.op {w : Wr} {x : R22} {d : Dk} {r : Rd} {n : Nat} (h : WAl w x) (hb : w.busy = true) (al : Alike d r n) (hok : d.Ok n) (hn : n + 2 ≤ 1000000) : (w.op d).1 = (x.op r).1 ∧ Alike (w.op d).2 (x.op r).2 (n + 2) := by
  have hx := h.ok.nx hb
  obtain ⟨h1, h2⟩ := h.on hb
  obtain e | e | e | e : w.nx = 0 ∨ w.nx = 1 ∨ w.nx = 2 ∨ w.nx = 3 := by omega
  · have hs : (d.stat w.sc).2 = (r.sti w.sc).2.2.2.2 := by rw [al.sim.stat hok w.sc]
    rw [Wr.op0 d e, R22.op0 r (by omega), ← h.sc, hs]
    by_cases h0 : (r.sti w.sc).2.2.2.2 = 0
    · rw [if_pos h0, if_pos h0]; exact al.cut hok hn _
    · rw [if_neg h0, if_neg h0]; exact al.create hok hn _
  · rw [Wr.op1 d e, R22.op1 r (by omega), ← h.sc, h2]; exact al.append hok hn _ _
  · rw [Wr.op2 d e, R22.op2 r (by omega), ← h.sc]; exact al.sync hok hn _
  · rw [Wr.op3 d e, R22.op3 r (by omega), ← h.sc, ← h.nm]; exact al.rename hok hn _ _
theorem WAl.step {w : Wr} {x : R22} {d : Dk} {r : Rd} {n : Nat} (h : WAl w x) (al : Alike d r n) (hok : d.Ok n) (hn : n + 2 ≤ 1000000) : (w.step d).1 = (x.step r).1 ∧ Alike (w.step d).2.1 (x.step r).2.1 (n + 2) ∧ WAl (w.step d).2.2 (x.step r).2.2 := by
  have hok2 := h.ok.step d
  cases hb : w.busy with
  | false =>
    have e1 : w.step d = ((false, 0), d, w) := by unfold Wr.step; rw [hb]; rfl
    have e2 : x.step r = ((false, 0), r, x) := by unfold R22.step; rw [if_neg (by rw [h.off hb]; decide)]
    rw [e1, e2]
    exact ⟨rfl, al.more (by omega) hn, h⟩
  | true =>
    obtain ⟨h1, h2⟩ := h.on hb
    obtain ⟨e1, e2⟩ := h.op hb al hok hn
    have e3 : decide (w.nx = 3) = decide ((w.nx : Int) = 3) := by
      by_cases e : w.nx = 3
      · rw [decide_eq_true e, decide_eq_true (by omega)]
      · rw [decide_eq_false e, decide_eq_false (by omega)]
    have ex : x.step r = ((decide ((x.op r).1 = 0) && decide (x.dn = 3), (x.op r).1), (x.op r).2, ⟨x.nm, x.sc, x.by_, if (x.op r).1 ≠ 0 ∨ x.dn = 3 then -1 else x.dn + 1⟩) := by unfold R22.step; rw [if_pos (by rw [h1]; omega)]
    have ew : w.step d = ((decide ((w.op d).1 = 0) && decide (w.nx = 3), (w.op d).1), (w.op d).2, if (w.op d).1 ≠ 0 ∨ w.nx = 3 then ⟨w.nm, w.sc, [], false, w.nx + 1⟩ else ⟨w.nm, w.sc, w.by_, true, w.nx + 1⟩) := by unfold Wr.step; rw [hb]; rfl
    rw [ew] at hok2 ⊢
    rw [ex]
    simp only at hok2 ⊢
    rw [e1] at hok2 ⊢
    rw [h1]
    refine ⟨by rw [e3], e2, ?_⟩
    by_cases hc : (x.op r).1 ≠ 0 ∨ w.nx = 3
    · have hc2 : (x.op r).1 ≠ 0 ∨ (w.nx : Int) = 3 := by
        rcases hc with e | e
        · exact .inl e
        · exact .inr (by omega)
      rw [if_pos hc] at hok2 ⊢
      rw [if_pos hc2]
      exact ⟨h.nm, h.sc, fun e => (by cases e), fun _ => rfl, h.len, hok2⟩
    · have hc2 : ¬ ((x.op r).1 ≠ 0 ∨ (w.nx : Int) = 3) := fun e => hc (by
        rcases e with e | e
        · exact .inl e
        · exact .inr (by omega))
      rw [if_neg hc] at hok2 ⊢
      rw [if_neg hc2]
      exact ⟨h.nm, h.sc, fun _ => ⟨by simp only; omega, h2⟩, fun e => (by cases e), h.len, hok2⟩
def PW : Option (Nat × Wr) → Option (Nat × R22) → Prop
  | none, none => True
  | some (_, w), some (_, x) => WAl w x
  | _, _ => False
def ptrO {α : Type} (o : Option (Nat × α)) : Value := .pointer (o.map fun x => ⟨x.1, 0, none⟩)
def WPp (w0 : World) (c : Nat) (o : Option (Nat × Wr)) : PartT := fun W C => ∀ g r, o = some (g, r) → ∃ v, WC W w0.heap.size C c g v r
def XPp (w0 : World) (c : Nat) (o : Option (Nat × R22)) : PartT := fun W C => ∀ g x, o = some (g, x) → ∃ v, W22 W w0.heap.size C c g v x
theorem Stb.wpp (w0 : World) (c : Nat) (o : Option (Nat × Wr)) : Stb c (WPp w0 c o) := fun _ _ _ _ _ h hc hs hS g r e => by
  obtain ⟨v, hv⟩ := h g r e
  exact ⟨v, hv.step hc hs hS⟩
theorem Stb.xpp (w0 : World) (c : Nat) (o : Option (Nat × R22)) : Stb c (XPp w0 c o) := fun _ _ _ _ _ h hc hs hS g r e => by
  obtain ⟨v, hv⟩ := h g r e
  exact ⟨v, hv.step hc hs hS⟩
def upd {α : Type} (S : Nat → α) (i : Nat) (o : α) : Nat → α := fun j => if j = i then o else S j
def LX (w0 : World) (p n : Nat) (d : Dk) (q : Nat) (r : Rd) (P : Nat) (pv : Nat → Value × Value) (S : Nat → Option (Nat × Wr)) (X : Nat → Option (Nat × R22)) (M : List PartT) : List PartT :=
  L2 w0 p n d q r (WPp w0 3 (S 0) :: XPp w0 4 (X 0) :: WPp w0 5 (S 1) :: XPp w0 6 (X 1) :: (fun W C => FrC W C 7 (fun w => Blk w P 52 #[(pv 0).1, (pv 0).2, (pv 1).1, (pv 1).2])) :: M)
structure XS (d : Dk) (r : Rd) (n : Nat) (pv : Nat → Value × Value) (S : Nat → Option (Nat × Wr)) (X : Nat → Option (Nat × R22)) : Prop where
  al : Alike d r n
  pt : ∀ i, i < 2 → pv i = (ptrO (S i), ptrO (X i))
  pw : ∀ i, i < 2 → PW (S i) (X i)
section
variable {w0 W W' : World} {C : Nat → Nat} {p q n P : Nat} {d : Dk} {r : Rd} {pv : Nat → Value × Value} {S : Nat → Option (Nat × Wr)} {X : Nat → Option (Nat × R22)} {M : List PartT}
theorem LX.dk (h : GS w0 W C (LX w0 p n d q r P pv S X M)) : DC W w0.heap.size C 1 p n d := h.at_ (k := 0) rfl
theorem LX.rd (h : GS w0 W C (LX w0 p n d q r P pv S X M)) : RC W w0.heap.size C 2 q r := h.at_ (k := 1) rfl
theorem LX.blk (h : GS w0 W C (LX w0 p n d q r P pv S X M)) : Blk W P 52 #[(pv 0).1, (pv 0).2, (pv 1).1, (pv 1).2] ∧ FrC W C 7 (fun w => Blk w P 52 #[(pv 0).1, (pv 0).2, (pv 1).1, (pv 1).2]) :=
  have h1 : FrC W C 7 (fun w => Blk w P 52 #[(pv 0).1, (pv 0).2, (pv 1).1, (pv 1).2]) := h.at_ (k := 6) rfl
  ⟨h1.now, h1⟩
theorem LX.wc (h : GS w0 W C (LX w0 p n d q r P pv S X M)) {i : Nat} (hi : i < 2) {g : Nat} {w : Wr} (hS : S i = some (g, w)) : ∃ v, WC W w0.heap.size C (3 + 2 * i) g v w := by
  obtain rfl | rfl : i = 0 ∨ i = 1 := by omega
  · exact (h.at_ (k := 2) rfl : WPp w0 3 (S 0) W C) g w hS
  · exact (h.at_ (k := 4) rfl : WPp w0 5 (S 1) W C) g w hS
theorem LX.xc (h : GS w0 W C (LX w0 p n d q r P pv S X M)) {i : Nat} (hi : i < 2) {g : Nat} {x : R22} (hS : X i = some (g, x)) : ∃ v, W22 W w0.heap.size C (4 + 2 * i) g v x := by
  obtain rfl | rfl : i = 0 ∨ i = 1 := by omega
  · exact (h.at_ (k := 3) rfl : XPp w0 4 (X 0) W C) g x hS
  · exact (h.at_ (k := 5) rfl : XPp w0 6 (X 1) W C) g x hS
/-- a writer turns -/
theorem LX.turnW (h : GS w0 W C (LX w0 p n d q r P pv S X M)) {i : Nat} (hi : i < 2) {g : Nat} {w : Wr} (hc : Chg (fun b => C b = 3 + 2 * i) W W') (hw : ∃ v, WC W' w0.heap.size (paint C W.heap.size (3 + 2 * i)) (3 + 2 * i) g v w) : GS w0 W' (paint C W.heap.size (3 + 2 * i)) (LX w0 p n d q r P pv (upd S i (some (g, w))) X M) := by
  have ht : WPp w0 (3 + 2 * i) (some (g, w)) W' (paint C W.heap.size (3 + 2 * i)) := fun g' w' e => by
    obtain ⟨rfl, rfl⟩ : g = g' ∧ w = w' := by simpa using e
    exact hw
  obtain rfl | rfl : i = 0 ∨ i = 1 := by omega
  · exact h.turn (k := 2) (by simp [LX]) hc ht (Stb.wpp _ _ _) rfl
  · exact h.turn (k := 4) (by simp [LX]) hc ht (Stb.wpp _ _ _) rfl
theorem LX.turnX (h : GS w0 W C (LX w0 p n d q r P pv S X M)) {i : Nat} (hi : i < 2) {g : Nat} {x : R22} (hc : Chg (fun b => C b = 4 + 2 * i) W W') (hw : ∃ v, W22 W' w0.heap.size (paint C W.heap.size (4 + 2 * i)) (4 + 2 * i) g v x) : GS w0 W' (paint C W.heap.size (4 + 2 * i)) (LX w0 p n d q r P pv S (upd X i (some (g, x))) M) := by
  have ht : XPp w0 (4 + 2 * i) (some (g, x)) W' (paint C W.heap.size (4 + 2 * i)) := fun g' w' e => by
    obtain ⟨rfl, rfl⟩ : g = g' ∧ x = w' := by simpa using e
    exact hw
  obtain rfl | rfl : i = 0 ∨ i = 1 := by omega
  · exact h.turn (k := 3) (by simp [LX]) hc ht (Stb.xpp _ _ _) rfl
  · exact h.turn (k := 5) (by simp [LX]) hc ht (Stb.xpp _ _ _) rfl
theorem LX.begun (h : GS w0 W C (LX w0 p n d q r P pv S X M)) {i : Nat} (hi : i < 2) {g : Nat} {w : Wr} (hS : S i = some (g, w)) {A : Option Addr} {m cp : Nat} {l : List UInt8} (hr : RB W A m l) (hm : m ≤ 1000000000) : Calls Tryz.prog 19 #[.pointer (some ⟨g, 0, none⟩), .slice A m cp] W (GsQ w0 (.int .i64 (w.begin l).1) (paint C W.heap.size (3 + 2 * i)) (LX w0 p n d q r P pv (upd S i (some (g, (w.begin l).2))) X M)) := by
  obtain ⟨v, hw⟩ := LX.wc h hi hS
  refine (begin_any W w0.heap.size C (3 + 2 * i) g v w hw h.bel.size A m cp l hr hm).mono ?_
  rintro e W' ⟨he, hv, hc⟩
  exact ⟨he, LX.turnW h hi (hc.mono (fun b _ e => by rw [e]; exact hw.col.1)) hv⟩
theorem LX.begun22 (h : GS w0 W C (LX w0 p n d q r P pv S X M)) {i : Nat} (hi : i < 2) {g : Nat} {x : R22} (hS : X i = some (g, x)) {A : Option Addr} {m cp : Nat} {l : List UInt8} (hr : RB W A m l) (hm : m ≤ 1000000000) : Calls Tryz.prog 20 #[.pointer (some ⟨g, 0, none⟩), .slice A m cp] W (GsQ w0 (.int .i64 (x.begin l).1) (paint C W.heap.size (4 + 2 * i)) (LX w0 p n d q r P pv S (upd X i (some (g, (x.begin l).2))) M)) := by
  obtain ⟨v, hw⟩ := LX.xc h hi hS
  refine (begin22_any W w0.heap.size C (4 + 2 * i) g v x hw h.bel.size A m cp l hr hm).mono ?_
  rintro e W' ⟨he, hv, hc⟩
  exact ⟨he, LX.turnX h hi (hc.mono (fun b _ e => by rw [e]; exact hw.col.1)) hv⟩
theorem LX.stepW (h : GS w0 W C (LX w0 p n d q r P pv S X M)) (hn : n + 2 < 1000000) {i : Nat} (hi : i < 2) {g : Nat} {w : Wr} (hS : S i = some (g, w)) (ho : w.Ok) : Calls Tryz.prog 21 #[.pointer (some ⟨g, 0, none⟩), .pointer (some ⟨p, 0, none⟩)] W (GsQ w0 (.tuple #[.bool (w.step d).1.1, .int .i64 (w.step d).1.2]) (paint C W.heap.size 1) (LX w0 p (n + 2) (w.step d).2.1 q r P pv (upd S i (some (g, (w.step d).2.2))) X M)) := by
  obtain ⟨v, hw⟩ := LX.wc h hi hS
  refine (wstep_any W w0.heap.size w0.heap.size C 1 (3 + 2 * i) p n g d v w (by omega) (LX.dk h) hn hw ho).mono ?_
  rintro e W' ⟨he, hd, hv, hc⟩
  have ht : WPp w0 (3 + 2 * i) (some (g, (w.step d).2.2)) W' (paint C W.heap.size 1) := fun g' w' e => by
    obtain ⟨rfl, rfl⟩ : g = g' ∧ (w.step d).2.2 = w' := by simpa using e
    exact hv
  have hcc : Chg (fun b => C b = 0 + 1 ∨ C b = 2 + 2 * i + 1) W W' := hc.mono (fun b _ e => by
    rcases e with e | e
    · exact .inl e
    · exact .inr (by rw [e, hw.col.1]; omega))
  refine ⟨he, ?_⟩
  obtain rfl | rfl : i = 0 ∨ i = 1 := by omega
  · exact h.turn2 (k := 0) (j := 2) (by simp [LX]) (by simp [LX]) (by decide) hcc (sam_paint _ _ _) hd (Stb.dcp _ _ _ _ _) ht (Stb.wpp _ _ _) rfl
  · exact h.turn2 (k := 0) (j := 4) (by simp [LX]) (by simp [LX]) (by decide) hcc (sam_paint _ _ _) hd (Stb.dcp _ _ _ _ _) ht (Stb.wpp _ _ _) rfl
theorem LX.stepX {m : Nat} (h : GS w0 W C (LX w0 p n d q r P pv S X M)) (hok : r.Ok m) {i : Nat} (hi : i < 2) {g : Nat} {x : R22} (hS : X i = some (g, x)) (hdn : x.dn ≤ 3) (hlen : x.by_.length ≤ 1048576) : Calls Tryz.prog 22 #[.pointer (some ⟨g, 0, none⟩), .pointer (some ⟨q, 0, none⟩)] W (GsQ w0 (.tuple #[.bool (x.step r).1.1, .int .i64 (x.step r).1.2]) (paint C W.heap.size 2) (LX w0 p n d q (x.step r).2.1 P pv S (upd X i (some (g, (x.step r).2.2))) M)) := by
  obtain ⟨v, hw⟩ := LX.xc h hi hS
  refine (step22_any W w0.heap.size w0.heap.size C 2 (4 + 2 * i) q m g r v x (by omega) (LX.rd h) h.bel.size hok hw hdn hlen).mono ?_
  rintro e W' ⟨he, hd, hv, hc⟩
  have ht : XPp w0 (4 + 2 * i) (some (g, (x.step r).2.2)) W' (paint C W.heap.size 2) := fun g' w' e => by
    obtain ⟨rfl, rfl⟩ : g = g' ∧ (x.step r).2.2 = w' := by simpa using e
    exact hv
  have hcc : Chg (fun b => C b = 1 + 1 ∨ C b = 3 + 2 * i + 1) W W' := hc.mono (fun b _ e => by
    rcases e with e | e
    · exact .inl e
    · exact .inr (by rw [e, hw.col.1]; omega))
  refine ⟨he, ?_⟩
  obtain rfl | rfl : i = 0 ∨ i = 1 := by omega
  · exact h.turn2 (k := 1) (j := 3) (by simp [LX]) (by simp [LX]) (by decide) hcc (sam_paint _ _ _) hd (Stb.rcp _ _ _ _) ht (Stb.xpp _ _ _) rfl
  · exact h.turn2 (k := 1) (j := 5) (by simp [LX]) (by simp [LX]) (by decide) hcc (sam_paint _ _ _) hd (Stb.rcp _ _ _ _) ht (Stb.xpp _ _ _) rfl
/-- the disk's bound grows -/
theorem LX.more (h : GS w0 W C (LX w0 p n d q r P pv S X M)) {n' : Nat} (hn : n ≤ n') (hb : n' < 1000000) : GS w0 W C (LX w0 p n' d q r P pv S X M) :=
  h.as (k := 0) rfl ((LX.dk h).more hn hb : DCp w0 1 p n' d W C) (Stb.dcp _ _ _ _ _) rfl
theorem LX.front {B : PartT} (h : GS w0 W C (LX w0 p n d q r P pv S X (M ++ [B]))) : GS w0 W C (LX w0 p n d q r P pv S X M) := GS.front (L := LX w0 p n d q r P pv S X M) h
/-- a pair is laid -/
theorem LX.newed (h : GS w0 W C (LX w0 p n d q r P pv S X M)) {i : Nat} (hi : i < 2) {g g' : Nat} {w : Wr} {x : R22} {v v' : Value} (hW : WC W w0.heap.size C (3 + 2 * i) g v w) (hX : W22 W w0.heap.size C (4 + 2 * i) g' v' x) :
    GS w0 ((W.setCell ⟨P, i * 2, none⟩ (.pointer (some ⟨g, 0, none⟩))).setCell ⟨P, i * 2 + 1, none⟩ (.pointer (some ⟨g', 0, none⟩))) C (LX w0 p n d q r P (upd pv i (.pointer (some ⟨g, 0, none⟩), .pointer (some ⟨g', 0, none⟩))) (upd S i (some (g, w))) (upd X i (some (g', x))) M) := by
  obtain ⟨hb, hf⟩ := LX.blk h
  have hP : C P = 7 := by
    rcases Nat.lt_or_ge 0 1 with _ | _
    · by_cases e : C P = 7
      · exact e
      · exfalso
        have h1 := hf.later (W.setCell ⟨P, 0, none⟩ (.string ⟨#[]⟩)) (by simp) (fun b hb' h3 => by
          have hne : b ≠ P := fun e2 => e (by rw [← e2]; exact h3)
          exact Below.heap_setCell W ⟨P, 0, none⟩ (.string ⟨#[]⟩) b hne)
        have h2 := hb.set_ 0 (.string ⟨#[]⟩)
        unfold Blk at h1 h2
        rw [h1] at h2
        have h3 := congrArg (fun o => match o with | some (Obj.cells cs _ _) => cs[0]? | _ => none) h2
        have h4 : (pv 0).1 = .string ⟨#[]⟩ := by simpa using h3
        have h5 := hf.later (W.setCell ⟨P, 0, none⟩ (.string ⟨#[0]⟩)) (by simp) (fun b hb' h3 => by
          have hne : b ≠ P := fun e2 => e (by rw [← e2]; exact h3)
          exact Below.heap_setCell W ⟨P, 0, none⟩ (.string ⟨#[0]⟩) b hne)
        have h6 := hb.set_ 0 (.string ⟨#[0]⟩)
        unfold Blk at h5 h6
        rw [h5] at h6
        have h7 := congrArg (fun o => match o with | some (Obj.cells cs _ _) => cs[0]? | _ => none) h6
        have h8 : (pv 0).1 = .string ⟨#[0]⟩ := by simpa using h7
        rw [h4] at h8
        simp at h8
    · omega
  have hc : Chg (fun b => C b = 7) W ((W.setCell ⟨P, i * 2, none⟩ (.pointer (some ⟨g, 0, none⟩))).setCell ⟨P, i * 2 + 1, none⟩ (.pointer (some ⟨g', 0, none⟩))) := (Chg.setCell (p := ⟨P, i * 2, none⟩) (Chg.refl _ _) (.inl hP) _).setCell (p := ⟨P, i * 2 + 1, none⟩) (.inl hP) _
  have far : ∀ k T, k ≠ 6 → (LX w0 p n d q r P pv S X M)[k]? = some T → ¬ (k + 1 = 7) ∧ (LX w0 p n d q r P pv S X M)[k]? = some T := fun k T hk e => ⟨by omega, e⟩
  have hw2 : WPp w0 (3 + 2 * i) (some (g, w)) ((W.setCell ⟨P, i * 2, none⟩ (.pointer (some ⟨g, 0, none⟩))).setCell ⟨P, i * 2 + 1, none⟩ (.pointer (some ⟨g', 0, none⟩))) C := fun a b e => by
    obtain ⟨rfl, rfl⟩ : g = a ∧ w = b := by simpa using e
    exact ⟨v, hW.step hc (Sam.refl _ _) (fun b hb e => by omega)⟩
  have hx2 : XPp w0 (4 + 2 * i) (some (g', x)) ((W.setCell ⟨P, i * 2, none⟩ (.pointer (some ⟨g, 0, none⟩))).setCell ⟨P, i * 2 + 1, none⟩ (.pointer (some ⟨g', 0, none⟩))) C := fun a b e => by
    obtain ⟨rfl, rfl⟩ : g' = a ∧ x = b := by simpa using e
    exact ⟨v', hX.step hc (Sam.refl _ _) (fun b hb e => by omega)⟩
  have hb2 := (hb.set_ (i * 2) (.pointer (some ⟨g, 0, none⟩))).set_ (i * 2 + 1) (.pointer (some ⟨g', 0, none⟩))
  refine h.turnS (K := fun c => c = 7) (by decide) hc (Sam.refl _ _) (fun k T hk => ?_)
  obtain rfl | rfl : i = 0 ∨ i = 1 := by omega
  · match k, hk with
    | 0, hk => exact .inr ⟨by decide, hk⟩
    | 1, hk => exact .inr ⟨by decide, hk⟩
    | 2, hk => obtain rfl := Option.some.inj hk; exact .inl ⟨hw2, Stb.wpp _ _ _⟩
    | 3, hk => obtain rfl := Option.some.inj hk; exact .inl ⟨hx2, Stb.xpp _ _ _⟩
    | 4, hk => exact .inr ⟨by decide, hk⟩
    | 5, hk => exact .inr ⟨by decide, hk⟩
    | 6, hk => obtain rfl := Option.some.inj hk; exact .inl ⟨FrC.blk hb2 hP, Stb.frc _ _⟩
    | k + 7, hk => exact .inr ⟨by omega, hk⟩
  · match k, hk with
    | 0, hk => exact .inr ⟨by decide, hk⟩
    | 1, hk => exact .inr ⟨by decide, hk⟩
    | 2, hk => exact .inr ⟨by decide, hk⟩
    | 3, hk => exact .inr ⟨by decide, hk⟩
    | 4, hk => obtain rfl := Option.some.inj hk; exact .inl ⟨hw2, Stb.wpp _ _ _⟩
    | 5, hk => obtain rfl := Option.some.inj hk; exact .inl ⟨hx2, Stb.xpp _ _ _⟩
    | 6, hk => obtain rfl := Option.some.inj hk; exact .inl ⟨FrC.blk hb2 hP, Stb.frc _ _⟩
    | k + 7, hk => exact .inr ⟨by omega, hk⟩
end
theorem newE_ok {nm sc : List UInt8} (h : newE nm sc = 0) : okName nm ∧ okName sc := by
  unfold newE at h
  by_cases hm : (mayB nm && mayB sc) = true
  · rw [Bool.and_eq_true] at hm
    exact ⟨may_ok hm.1, may_ok hm.2⟩
  · rw [if_neg hm] at h; cases h
theorem WAl.made {nm sc : List UInt8} (h : newE nm sc = 0) : WAl ⟨nm, sc, [], false, 0⟩ ⟨nm, sc, [], -1⟩ :=
  ⟨rfl, rfl, fun e => (by cases e), fun _ => rfl, (by simp), ⟨(newE_ok h).1, (newE_ok h).2, (by simp), fun e => (by cases e)⟩⟩
theorem XS.more {d : Dk} {r : Rd} {n n' : Nat} {pv : Nat → Value × Value} {S : Nat → Option (Nat × Wr)} {X : Nat → Option (Nat × R22)} (h : XS d r n pv S X) (hn : n ≤ n') (hb : n' ≤ 1000000) : XS d r n' pv S X := ⟨h.al.more hn hb, h.pt, h.pw⟩
theorem XS.two {d : Dk} {r : Rd} {n : Nat} {pv : Nat → Value × Value} {S : Nat → Option (Nat × Wr)} {X : Nat → Option (Nat × R22)} (h : XS d r n pv S X) {i : Nat} (hi : i < 2) : (pv i = (.pointer none, .pointer none) ∧ S i = none ∧ X i = none) ∨ ∃ g w g' x, pv i = (.pointer (some ⟨g, 0, none⟩), .pointer (some ⟨g', 0, none⟩)) ∧ S i = some (g, w) ∧ X i = some (g', x) ∧ WAl w x := by
  have h1 := h.pt i hi
  have h2 := h.pw i hi
  cases hs : S i with
  | none =>
    cases hx : X i with
    | none => rw [hs, hx] at h1; exact .inl ⟨h1, rfl, rfl⟩
    | some b => rw [hs, hx] at h2; obtain ⟨g', x⟩ := b; exact absurd h2 (by simp [PW])
  | some a =>
    obtain ⟨g, w⟩ := a
    cases hx : X i with
    | none => rw [hs, hx] at h2; exact absurd h2 (by simp [PW])
    | some b =>
      obtain ⟨g', x⟩ := b
      rw [hs, hx] at h1 h2
      exact .inr ⟨g, w, g', x, h1, rfl, rfl, h2⟩
/-- a pair turns, at the same pointers -/
theorem XS.turn {d d' : Dk} {r r' : Rd} {n n' : Nat} {pv : Nat → Value × Value} {S : Nat → Option (Nat × Wr)} {X : Nat → Option (Nat × R22)} (h : XS d r n pv S X) (al : Alike d' r' n') {i : Nat} {g g' : Nat} {w : Wr} {x : R22} (hp : pv i = (.pointer (some ⟨g, 0, none⟩), .pointer (some ⟨g', 0, none⟩))) (hw : WAl w x) : XS d' r' n' pv (upd S i (some (g, w))) (upd X i (some (g', x))) := by
  refine ⟨al, fun j hj => ?_, fun j hj => ?_⟩
  · unfold upd
    by_cases e : j = i
    · rw [if_pos e, if_pos e, e, hp]; rfl
    · rw [if_neg e, if_neg e]; exact h.pt j hj
  · unfold upd
    by_cases e : j = i
    · rw [if_pos e, if_pos e]; exact hw
    · rw [if_neg e, if_neg e]; exact h.pw j hj
theorem XS.laid {d : Dk} {r : Rd} {n : Nat} {pv : Nat → Value × Value} {S : Nat → Option (Nat × Wr)} {X : Nat → Option (Nat × R22)} (h : XS d r n pv S X) {i g g' : Nat} {w : Wr} {x : R22} (hw : WAl w x) : XS d r n (upd pv i (.pointer (some ⟨g, 0, none⟩), .pointer (some ⟨g', 0, none⟩))) (upd S i (some (g, w))) (upd X i (some (g', x))) := by
  refine ⟨h.al, fun j hj => ?_, fun j hj => ?_⟩
  · unfold upd
    by_cases e : j = i
    · rw [if_pos e, if_pos e, if_pos e]; rfl
    · rw [if_neg e, if_neg e, if_neg e]; exact h.pt j hj
  · unfold upd
    by_cases e : j = i
    · rw [if_pos e, if_pos e]; exact hw
    · rw [if_neg e, if_neg e]; exact h.pw j hj
end Go.Proofs.YtlojmmcagglpoaaGreat
