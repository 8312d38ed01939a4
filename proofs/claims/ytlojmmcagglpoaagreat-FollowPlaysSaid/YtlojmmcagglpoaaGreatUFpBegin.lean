/- THE WALK of begin (FollowPlays; printed by a program of ours). -/
import Derived.Test.YtlojmmcagglpoaaGreatUTk
import Derived.Test.YtlojmmcagglpoaaGreatUFwFix
import Derived.Test.YtlojmmcagglpoaaGreatUGfNew
import Derived.Test.YtlojmmcagglpoaaGreatUPair2
import Derived.Test.YtlojmmcagglpoaaGreatUWrites17
namespace Go.Proofs.YtlojmmcagglpoaaGreat
open Go.RowKit Go.Maps
theorem DC.less {W : World} {N N' : Nat} {C : Nat → Nat} {c p n : Nat} {d : Dk} (h : DC W N C c p n d) (hN : N' ≤ N) : DC W N' C c p n d := by
  obtain ⟨h0, bf, bn, bs, fl, h3, h4⟩ := h
  exact ⟨h0, bf, bn, bs, fl, ⟨h3.bd, h3.mf, h3.mn, h3.ms, ⟨Nat.le_trans hN h3.lo.1, Nat.le_trans hN h3.lo.2.1, Nat.le_trans hN h3.lo.2.2.1, Nat.le_trans hN h3.lo.2.2.2.1, h3.lo.2.2.2.2⟩, h3.hf, fun i g x hi hx => ⟨Nat.le_trans hN (h3.fw i g x hi hx).1, by
    obtain ⟨v, hv, ho⟩ := (h3.fw i g x hi hx).2
    exact ⟨v, hv, ho.less hN⟩⟩, h3.ap, h3.ab⟩, h4⟩
theorem ownsRow_less {w : World} {base base' size n : Nat} {e : TypeId} {v : Value} {xs : List Value} (h : w.ownsRow base e size v n xs) (hb : base' ≤ base) : w.ownsRow base' e size v n xs := by
  refine ⟨h.1, ?_⟩
  rcases h.2 with h0 | ⟨g, cap, cur, hv, hg, r⟩
  · exact .inl h0
  · exact .inr ⟨g, cap, cur, hv, Nat.le_trans hb hg, r⟩
theorem RC.less {W : World} {N N' : Nat} {C : Nat → Nat} {c p : Nat} {r : Rd} (h : RC W N C c p r) (hN : N' ≤ N) : RC W N' C c p r := by
  obtain ⟨us, vi, vn, hw⟩ := h
  exact ⟨us, vi, vn, hw.is, hw.bd, ownsRow_less hw.ri hN, ownsRow_less hw.rn hN, fun k u hu => (hw.ob k u hu).less hN, hw.ap, Nat.le_trans hN hw.lo, hw.cp, hw.ci, hw.cn, hw.cu⟩
section
variable {w0 W : World} {C : Nat → Nat} {L : List PartT}
end
end Go.Proofs.YtlojmmcagglpoaaGreat
namespace Go.Proofs.YtlojmmcagglpoaaGreat
open Go.RowKit Go.Maps
/-! ### Both disks answer alike -/
section
variable {d : Dk} {r : Rd} {n : Nat}
theorem five_inj {a b : T5} (h : (statV a.1 a.2.1 a.2.2.1 a.2.2.2.1, a.2.2.2.2) = (statV b.1 b.2.1 b.2.2.1 b.2.2.2.1, b.2.2.2.2)) : a = b := by
  obtain ⟨a0, a1, a2, a3, a4⟩ := a
  obtain ⟨b0, b1, b2, b3, b4⟩ := b
  simp only [Prod.mk.injEq] at h
  obtain ⟨h1, rfl⟩ := h
  unfold statV at h1
  simp only [Value.agg.injEq, Array.mk.injEq, List.cons.injEq, Value.int.injEq, true_and, and_true] at h1
  obtain ⟨rfl, rfl, rfl, rfl⟩ := h1
  rfl
theorem Alike.sti_eq (al : Alike d r n) (hok : d.Ok n) (nm : List UInt8) : r.sti nm = d.sti nm := five_inj ((al.sim.stat hok nm).symm.trans (Dk.stat_sti d nm))
theorem Alike.ini_eq (al : Alike d r n) (hok : d.Ok n) (i : Int) : r.inode i = d.ini i := five_inj ((al.sim.inode hok al.uq al.may i).symm.trans (Dk.inode_ini d i))
theorem Alike.read_eq (al : Alike d r n) (hok : d.Ok n) (i g o s : Int) : r.read i g o s = d.read i g o s := (al.sim.read hok al.uq al.may i g o s).symm
theorem Alike.rasks (al : Alike d r n) (hok : d.Ok n) (N : Nat) (C : Nat → Nat) (c q : Nat) : RAsks q (fun w => RC w N C c q r) d.sti d.ini d.read := by
  refine ⟨fun W nm h => ?_, fun W i _ h => ?_, fun W i g o s _ ho hs h => ?_⟩
  · rw [← al.sti_eq hok]; exact ask_rstat al.rok nm h
  · rw [← al.ini_eq hok]; exact ask_rinode al.rok i h
  · rw [← al.read_eq hok]; exact ask_rread al hok i g o s ho hs h
theorem Dk.Ok.fit (h : d.Ok n) : AskFit d.sti d.ini d.read := by
  have hb := h.big
  have hn := h.no
  refine ⟨fun i => ?_, fun nm => ?_, fun i => ?_, fun i g o s h0 h1 h2 h3 => ?_⟩
  · unfold Dk.ini
    cases hx : d.fs i with
    | none => exact ⟨Int.le_refl 0, (by decide : (0 : Int) ≤ 1048576)⟩
    | some x =>
      have := h.len i x hx
      exact ⟨by show (0 : Int) ≤ x.by_.length; omega, by show (x.by_.length : Int) ≤ _; omega⟩
  · unfold Dk.sti
    split
    · cases hf : d.file nm with
      | none => show (0 : Int) ≤ _; decide
      | some q =>
        obtain ⟨i, x⟩ := q
        obtain ⟨h1, h2, h3⟩ := h.of_file hf
        obtain ⟨v, hv⟩ := h.has nm i h1
        have a2 := h.ser nm v hv
        simp only
        rw [hv]
        show v ≤ _; omega
    · show (0 : Int) ≤ _; decide
  · unfold Dk.ini
    cases hx : d.fs i with
    | none => show (0 : Int) ≤ _; decide
    | some x =>
      have a3 := h.ge i x hx
      show (x.ge : Int) ≤ _; omega
  · obtain ⟨x, hx⟩ := Dk.ini_err.1 h2
    have hg := Dk.ini_ge hx
    have hsz : (d.ini i).2.2.2.1 = (x.by_.length : Int) := by unfold Dk.ini; rw [hx]
    have hr : d.read i g o s = ((x.by_.drop o.toNat).take s.toNat, 0) := by
      unfold Dk.read
      rw [if_neg (by omega), hx]
      simp only
      rw [if_neg (by rw [← hg, h3]; exact fun e => e rfl)]
    rw [hr, hsz]
    refine ⟨rfl, fun e => ?_, fun e => ?_⟩
    · rcases Nat.lt_or_ge o.toNat x.by_.length with hh | hh
      · omega
      · exact absurd (by rw [List.drop_eq_nil_of_le hh, List.take_nil]) e
    · intro e2
      have : ((x.by_.drop o.toNat).take s.toNat).length = 0 := congrArg List.length (show (x.by_.drop o.toNat).take s.toNat = [] from e2)
      simp only [List.length_take, List.length_drop] at this
      omega
theorem Dk.sti_may (d : Dk) (nm : List UInt8) : decide ((d.sti nm).2.2.2.2 ≠ 140) = mayB nm := by
  unfold Dk.sti
  cases hm : mayB nm with
  | false => rw [if_neg (by decide)]; rfl
  | true =>
    rw [if_pos rfl]
    cases d.file nm with
    | none => rfl
    | some q => rfl
end
/-! ### The plain law of a step -/
section
variable {S : List UInt8 → T5} {I : Int → T5} {R : Int → Int → Int → Int → List UInt8 × Int} {f : FwS} {k : FwK}
theorem FwS.Ok.letGo (h : f.Ok) : f.letGo.Ok := ⟨h.se, inM0, inM0, inM0, h.mi, h.go, h.cu, h.ta, h.lo⟩
theorem FwS.Ok.gone (h : f.Ok) : f.gone.Ok := ⟨h.se, inM0, inM0, inM0, h.mi, (upv_le h.go (by decide)).2, h.cu, h.ta, h.lo⟩
theorem FwS.Ok.takeUp (h : f.Ok) {t : T5} (h0 : inM t.1) (h1 : inM t.2.1) (h2 : inM t.2.2.1) (hn : nextB t f = true) : (f.takeUp t).Ok := by
  unfold nextB at hn
  simp only [Bool.and_eq_true, decide_eq_true_eq] at hn
  exact ⟨h1, h0, h2, inM0, (upv_le h.mi (by omega)).2, h.go, h.cu, h.ta, h.lo⟩
theorem FwS.Ok.turnsF (h : f.Ok) {t : T5} (h0 : inM t.1) (h1 : inM t.2.1) (h2 : inM t.2.2.1) (hn : nextB t f = true) : (f.turnsF t).Ok := by
  unfold FwS.turnsF
  split
  · exact FwS.Ok.takeUp (f := { f.letGo with ta := upv f.ta 1 }) ⟨h.se, inM0, inM0, inM0, h.mi, h.go, h.cu, (upv_le h.ta (by decide)).2, h.lo⟩ h0 h1 h2 hn
  · exact h.letGo.takeUp h0 h1 h2 hn
theorem feedU_le (u l : List UInt8) : (feedU u l).length ≤ u.length + l.length := by
  unfold feedU; split
  · simp
  · rw [List.length_append]; exact Nat.le_refl _
theorem feedN_le (l : List UInt8) : feedN l ≤ l.length := by
  unfold feedN; split <;> omega
structure StepOk (f g : FwS) : Prop where
  ok : g.Ok
  ul : g.u.length ≤ 1048576
  lc : g.lc ≤ f.lc + 1
theorem stepF_ok (ho : AskOk S I R) (hf : f.Ok) (hu : f.u.length ≤ 1048576) : StepOk f (stepF S I R k f).1 := by
  have h0 : (0 : Nat) ≤ 1048576 := by decide
  obtain ⟨s0, s1, s2⟩ := ho.s k.nm
  unfold stepF
  split
  · split
    · rename_i hn; exact ⟨hf.takeUp s0 s1 s2 hn, h0, Nat.le_succ _⟩
    · exact ⟨hf, hu, Nat.le_succ _⟩
  split
  · exact ⟨hf.gone, h0, Nat.le_succ _⟩
  split
  · exact ⟨⟨hf.se, hf.ino, ho.i _, inM0, hf.mi, hf.go, (upv_le hf.cu (Int.le_max_left _ _)).2, hf.ta, hf.lo⟩, h0, Nat.le_succ _⟩
  split
  · rename_i hr
    have ha := hf.off.1
    have hl := (ho.r f.ino f.ge (f.off + (f.u.length : Int)) k.ch (by omega)).resolve_left hr.2
    obtain ⟨l, hll⟩ : ∃ l, l = (R f.ino f.ge (f.off + (f.u.length : Int)) k.ch).1 := ⟨_, rfl⟩
    rw [← hll] at hl ⊢
    have h1 := feedU_le f.u l
    have h2 := feedN_le l
    have h3 := feedL_le k.line f.lc f.u l
    refine ⟨⟨hf.se, hf.ino, hf.ge, ?_, hf.mi, hf.go, hf.cu, hf.ta, ?_⟩, ?_, h3.2⟩
    · unfold FwS.readF
      simp only
      split
      · exact ⟨by omega, by omega⟩
      · exact hf.off
    · unfold FwS.readF
      simp only
      split
      · exact (upv_le hf.lo (by omega)).2
      · exact hf.lo
    · show (feedU f.u l).length ≤ _; omega
  split
  · rename_i hn
    refine ⟨hf.turnsF s0 s1 s2 hn, ?_, ?_⟩
    · unfold FwS.turnsF; split <;> exact h0
    · unfold FwS.turnsF; split <;> exact Nat.le_succ _
  · exact ⟨hf, hu, Nat.le_succ _⟩
end
/-! ### The parts -/
structure Fo where
  fl : Nat
  rb : Nat
  gb : Nat
  f : FwS
def FPp (k : FwK) : Option Fo → PartT
  | none => fun _ _ => True
  | some x => fun W C => FwR W C 3 x.rb k x.f ∧ Blk W x.fl 221 #[.pointer (some ⟨x.rb, 0, none⟩)] ∧ C x.fl = 3
def GPp (k : FwK) : Option Fo → PartT
  | none => fun _ _ => True
  | some x => fun W C => GfR W C 4 x.gb k x.f
def ptF : Option Fo → Value
  | none => .pointer none
  | some x => .pointer (some ⟨x.fl, 0, none⟩)
def ptG : Option Fo → Value
  | none => .pointer none
  | some x => .pointer (some ⟨x.gb, 0, none⟩)
def plC (li : Int) (k : FwK) (m : FwS) (p q : Nat) (vF vG : Value) : Array Value := #[.string (strB k.nm), .string (strB k.ro), .int .i64 li, .int .i64 k.ch, .int .i64 m.se, .int .i64 m.ino, .int .i64 m.ge, .int .i64 m.off, .int .i64 m.mi, .int .i64 m.go, .int .i64 m.cu, .int .i64 m.ta, .int .i64 m.lo, .pointer (some ⟨p, 0, none⟩), .pointer (some ⟨q, 0, none⟩), vF, vG]
def PPp (P : Nat) (li : Int) (k : FwK) (m : FwS) (p q : Nat) (o : Option Fo) : PartT := fun W C => Blk W P 108 (plC li k m p q (ptF o) (ptG o)) ∧ C P = 5
abbrev LF (w0 : World) (P : Nat) (li : Int) (k : FwK) (m : FwS) (p n : Nat) (d : Dk) (q : Nat) (r : Rd) (o : Option Fo) : List PartT := L2 w0 p n d q r [FPp k o, GPp k o, PPp P li k m p q o]
theorem Stb.fpp (k : FwK) (o : Option Fo) : Stb 3 (FPp k o) := fun W W' C C' S h hc hs hS => by
  cases o with
  | none => trivial
  | some x => exact ⟨h.1.step hc hs hS, h.2.1.chg hc (fun e => hS _ e h.2.2), (hs _ h.2.1.lt).trans h.2.2⟩
theorem Stb.gpp (k : FwK) (o : Option Fo) : Stb 4 (GPp k o) := fun W W' C C' S h hc hs hS => by
  cases o with
  | none => trivial
  | some x => exact GfR.step h hc hs hS
theorem Stb.ppp (P : Nat) (li : Int) (k : FwK) (m : FwS) (p q : Nat) (o : Option Fo) : Stb 5 (PPp P li k m p q o) := Stb.blk 5 _ _ _
def InvF (li : Int) (k : FwK) (o : Option Fo) (B : Nat) : Prop := ∀ x, o = some x → li = (k.line : Int) ∧ 1 ≤ k.line ∧ k.line ≤ 4096 ∧ 1 ≤ k.ch ∧ k.ch ≤ 4096 ∧ x.f.Ok ∧ x.f.u.length ≤ 1048576 ∧ x.f.lc ≤ B
theorem InvF.more {li : Int} {k : FwK} {o : Option Fo} {B B' : Nat} (h : InvF li k o B) (hb : B ≤ B') : InvF li k o B' := fun x hx => by
  obtain ⟨h1, h2, h3, h4, h5, h6, h7, h8⟩ := h x hx
  exact ⟨h1, h2, h3, h4, h5, h6, h7, Nat.le_trans h8 hb⟩
section
variable {w0 W W' : World} {C : Nat → Nat} {P p n q : Nat} {li : Int} {k : FwK} {m : FwS} {d : Dk} {r : Rd} {x : Fo} {o : Option Fo}
theorem GS.dok {M : List PartT} (h : GS w0 W C (L2 w0 p n d q r M)) : d.Ok n := DC.ok (h.at_ (k := 0) rfl : DCp w0 1 p n d W C)
theorem FPp.stepC (h : FPp k (some x) W C) (hd : DC W w0.heap.size C 1 p n d) (hf : x.f.Ok) (hc1 : 1 ≤ k.ch) (hc2 : k.ch ≤ 4096) (hul : x.f.u.length ≤ 1048576) (hli : k.line ≤ 4096) (hlc : x.f.lc ≤ 1000000000) : Calls Tryz.prog 87 #[.pointer (some ⟨x.fl, 0, none⟩), .pointer (some ⟨p, 0, none⟩)] W fun e w' => e = .returned (.tuple #[.agg (lineO x.f (stepF d.sti d.ini d.read k x.f).2), .bool (stepF d.sti d.ini d.read k x.f).2.isSome]) ∧ FPp k (some { x with f := (stepF d.sti d.ini d.read k x.f).1 }) w' (paint C W.heap.size 3) ∧ Chg (fun b => C b = 3) W w' := by
  obtain ⟨C', hC', hn, hs, hb⟩ := h.1.only
  have hfl := hn x.fl _ _ h.2.1 (by decide) (by decide) (by decide)
  have hD : Stay W C' 3 (fun w => DC w w0.heap.size C 1 p n d) := (stay_dc hd (by decide)).only hs
  refine (fw_step hC' (asks_dc w0.heap.size C 1 p n d) hD h.2.1 hd.ok.asks hf ⟨by omega, by omega⟩ (Nat.le_trans hul (by decide)) hli hlc).mono fun e w' hq => ⟨hq.1, ?_, (hb _ _ hq.2).2⟩
  exact ⟨(hb _ _ hq.2).1, h.2.1.chg hq.2.2 hfl, (paint_old C 3 h.2.1.lt).trans h.2.2⟩
theorem GPp.stepC (h : GPp k (some x) W C) (al : Alike d r n) (hok : d.Ok n) (hr : RC W w0.heap.size C 2 q r) (hf : x.f.Ok) (hc1 : 1 ≤ k.ch) (hc2 : k.ch ≤ 4096) (hul : x.f.u.length ≤ 1048576) (hli : k.line ≤ 4096) (hlc : x.f.lc ≤ 1000000000) : Calls Tryz.prog 91 #[.pointer (some ⟨x.gb, 0, none⟩), .pointer (some ⟨q, 0, none⟩)] W fun e w' => e = .returned (.tuple #[.agg (lineO x.f (stepF d.sti d.ini d.read k x.f).2), .bool (stepF d.sti d.ini d.read k x.f).2.isSome]) ∧ GPp k (some { x with f := (stepF d.sti d.ini d.read k x.f).1 }) w' (paint C W.heap.size 4) ∧ Chg (fun b => C b = 4) W w' :=
  (gf_step h (al.rasks hok w0.heap.size C 2 q) (fun _ hw => hr.step hw (Sam.refl _ _) (fun _ hb e => by rw [hb] at e; cases e)) hok.asks hok.fit hf ⟨by omega, by omega⟩ hc1 (Nat.le_trans hul (by decide)) hli hlc).mono fun _ _ hq => ⟨hq.1, hq.2.1, hq.2.2⟩
end
end Go.Proofs.YtlojmmcagglpoaaGreat
namespace Go.Proofs.YtlojmmcagglpoaaGreat
open Go.RowKit Go.Maps
attribute [local go_sem ↓] Go.wp_at_zero Go.wp_at_succ
abbrev bT (P : Nat) (k : FwK) (li : Int) (p q g : Nat) (a : FwS) : World → Prop := fun w' => w'.cell? ⟨P, 0, none⟩ = some (.string (strB k.nm)) ∧ w'.cell? ⟨P, 1, none⟩ = some (.string (strB k.ro)) ∧ w'.cell? ⟨P, 2, none⟩ = some (.int .i64 li) ∧ w'.cell? ⟨P, 3, none⟩ = some (.int .i64 k.ch) ∧ w'.cell? ⟨P, 13, none⟩ = some (.pointer (some ⟨p, 0, none⟩)) ∧ w'.cell? ⟨P, 14, none⟩ = some (.pointer (some ⟨q, 0, none⟩)) ∧ w'.cell? ⟨g, 0, none⟩ = some (.int .i64 a.se) ∧ w'.cell? ⟨g, 1, none⟩ = some (.int .i64 a.ino) ∧ w'.cell? ⟨g, 2, none⟩ = some (.int .i64 a.ge) ∧ w'.cell? ⟨g, 3, none⟩ = some (.int .i64 a.off) ∧ w'.cell? ⟨g, 4, none⟩ = some (.int .i64 a.mi) ∧ w'.cell? ⟨g, 5, none⟩ = some (.int .i64 a.go) ∧ w'.cell? ⟨g, 6, none⟩ = some (.int .i64 a.cu) ∧ w'.cell? ⟨g, 7, none⟩ = some (.int .i64 a.ta) ∧ w'.cell? ⟨g, 8, none⟩ = some (.int .i64 a.lo)
def BegQ (w0 : World) (P : Nat) (li : Int) (k : FwK) (m : FwS) (p n : Nat) (d : Dk) (q : Nat) (r : Rd) (B : Nat) (e : Ending) (w' : World) : Prop := e = .returned (.bool true) ∧ ∃ C' o', GS w0 w' C' (LF w0 P li k m p n d q r o') ∧ InvF li k o' B
theorem FwS.born_ok {a : FwS} (h : a.Ok) (S : List UInt8 → T5) (k : FwK) : (a.born S k).Ok ∧ (a.born S k).u.length ≤ 1048576 ∧ (a.born S k).lc ≤ 0 := by
  have h0 : FwS.Ok { a with u := [], lc := 0 } := ⟨h.se, h.ino, h.ge, h.off, h.mi, h.go, h.cu, h.ta, h.lo⟩
  unfold FwS.born
  split
  · exact ⟨h0.gone, by show (0 : Nat) ≤ _; omega, Nat.le_refl _⟩
  · exact ⟨h0, by show (0 : Nat) ≤ _; omega, Nat.le_refl _⟩
theorem GS.newF {w0 W : World} {C : Nat → Nat} {P p n q : Nat} {li : Int} {k : FwK} {m : FwS} {d : Dk} {r : Rd} {o : Option Fo} {x : Fo} (h : GS w0 W C (LF w0 P li k m p n d q r o)) (hF : FPp k (some x) W C) (hG : GPp k (some x) W C) : GS w0 ((W.setCell ⟨P, 15, none⟩ (.pointer (some ⟨x.fl, 0, none⟩))).setCell ⟨P, 16, none⟩ (.pointer (some ⟨x.gb, 0, none⟩))) C (LF w0 P li k m p n d q r (some x)) := by
  obtain ⟨w', hw'⟩ : ∃ w', w' = (W.setCell ⟨P, 15, none⟩ (.pointer (some ⟨x.fl, 0, none⟩))).setCell ⟨P, 16, none⟩ (.pointer (some ⟨x.gb, 0, none⟩)) := ⟨_, rfl⟩
  rw [← hw']
  have hP : PPp P li k m p q o W C := h.at_ (k := 4) rfl
  have hK : Blk w' P 108 (plC li k m p q (ptF (some x)) (ptG (some x))) := by
    rw [hw']
    exact (hP.1.set_ 15 (.pointer (some ⟨x.fl, 0, none⟩))).set_ 16 (.pointer (some ⟨x.gb, 0, none⟩))
  have hc : Chg (fun b => (fun c => c = 5) (C b)) W w' := by
    rw [hw']
    exact ((Chg.refl _ W).setCell (.inl hP.2) _).setCell (.inl hP.2) _
  refine h.turnS (K := fun c => c = 5) (by decide) hc (Sam.refl _ _) (fun j U hj => ?_)
  match j, hj with
  | 0, hj => exact .inr ⟨(by decide), hj⟩
  | 1, hj => exact .inr ⟨(by decide), hj⟩
  | 2, hj =>
    obtain rfl := Option.some.inj hj
    exact .inl ⟨Stb.fpp k (some x) W w' C C _ hF hc (Sam.refl _ _) (fun b hb e => by have h5 : C b = 5 := hb; omega), Stb.fpp _ _⟩
  | 3, hj =>
    obtain rfl := Option.some.inj hj
    exact .inl ⟨Stb.gpp k (some x) W w' C C _ hG hc (Sam.refl _ _) (fun b hb e => by have h5 : C b = 5 := hb; omega), Stb.gpp _ _⟩
  | 4, hj =>
    obtain rfl := Option.some.inj hj
    exact .inl ⟨⟨hK, hP.2⟩, Stb.ppp _ _ _ _ _ _ _⟩
  | j + 5, hj => simp [LF, L2] at hj
set_option maxRecDepth 20000 in
set_option maxHeartbeats 8000000 in
theorem begin_no {w0 W : World} {C : Nat → Nat} {P p n q B : Nat} {li : Int} {k : FwK} {m : FwS} {d : Dk} {r : Rd} {o : Option Fo} (hG : GS w0 W C (LF w0 P li k m p n d q r o)) (hI : InvF li k o B) (a : FwS) (E : Int) (hE : E ≠ 0) (hR : ∀ w, GS w0 w C (LF w0 P li k m p n d q r o) → Calls Tryz.prog 90 #[.agg #[.string (strB k.nm), .string (strB k.ro)], .int .i64 li, .int .i64 k.ch, .agg #[.int .i64 a.se, .int .i64 a.ino, .int .i64 a.ge, .int .i64 a.off, .int .i64 a.mi, .int .i64 a.go, .int .i64 a.cu, .int .i64 a.ta, .int .i64 a.lo], .pointer (some ⟨q, 0, none⟩)] w (NoNewQ w E)) (hF : ∀ w, GS w0 w C (LF w0 P li k m p n d q r o) → Calls Tryz.prog 86 #[.agg #[.string (strB k.nm), .string (strB k.ro)], .int .i64 li, .int .i64 k.ch, .agg #[.int .i64 a.se, .int .i64 a.ino, .int .i64 a.ge, .int .i64 a.off, .int .i64 a.mi, .int .i64 a.go, .int .i64 a.cu, .int .i64 a.ta, .int .i64 a.lo], .pointer (some ⟨p, 0, none⟩)] w (NoNewQ w E)) : Calls Tryz.prog 37 #[.pointer (some ⟨P, 0, none⟩), .agg #[.int .i64 a.se, .int .i64 a.ino, .int .i64 a.ge, .int .i64 a.off, .int .i64 a.mi, .int .i64 a.go, .int .i64 a.cu, .int .i64 a.ta, .int .i64 a.lo]] W (BegQ w0 P li k m p n d q r B) := by
  obtain ⟨w1, hw1⟩ : ∃ w1, w1 = W.alloc (.cells #[.int .i64 a.se, .int .i64 a.ino, .int .i64 a.ge, .int .i64 a.off, .int .i64 a.mi, .int .i64 a.go, .int .i64 a.cu, .int .i64 a.ta, .int .i64 a.lo] 100) := ⟨_, rfl⟩
  obtain ⟨g, hg⟩ : ∃ g, g = W.heap.size := ⟨_, rfl⟩
  have B1 : Hid (Below W.heap.size W w1) := Lib.hid (by rw [hw1]; exact (Below.refl _ _).alloc (Nat.le_refl _) _)
  have K1 : Hid (Blk w1 g 100 #[.int .i64 a.se, .int .i64 a.ino, .int .i64 a.ge, .int .i64 a.off, .int .i64 a.mi, .int .i64 a.go, .int .i64 a.cu, .int .i64 a.ta, .int .i64 a.lo]) := Lib.hid (by rw [hw1]; exact Blk.new W _ _ hg)
  have G1 : Hid (GS w0 w1 C (LF w0 P li k m p n d q r o)) := Lib.hid (hG.keep B1.out)
  have HT : Hid (∀ w, Below w1.heap.size w1 w → (bT P k li p q g a) w) := Lib.hid (fun w hb => by
    have hP : PPp P li k m p q o w C := (G1.out.keep hb).at_ (k := 4) rfl
    exact ⟨(hP.1.cell 0).trans rfl, (hP.1.cell 1).trans rfl, (hP.1.cell 2).trans rfl, (hP.1.cell 3).trans rfl, (hP.1.cell 13).trans rfl, (hP.1.cell 14).trans rfl, ((K1.out.keep hb).cell 0).trans rfl, ((K1.out.keep hb).cell 1).trans rfl, ((K1.out.keep hb).cell 2).trans rfl, ((K1.out.keep hb).cell 3).trans rfl, ((K1.out.keep hb).cell 4).trans rfl, ((K1.out.keep hb).cell 5).trans rfl, ((K1.out.keep hb).cell 6).trans rfl, ((K1.out.keep hb).cell 7).trans rfl, ((K1.out.keep hb).cell 8).trans rfl⟩)
  have HI := Lib.hid hI
  have HR := Lib.hid hR
  have HF := Lib.hid hF
  have hE1 : (E == (0 : Int)) = false := beq_eq_false_iff_ne.2 hE
  have hE2 : (E != (0 : Int)) = true := by rw [bne_iff_ne]; exact hE
  have hE3 : (E != E) = false := by simp
  clear hG hI hR hF
  go_enter Tryz.func37, Tryz.ntmps37
  go_upto_region 1 with fail
  rw [← hw1, ← hg]
  clear hw1 hg
  refine wp_region_any (by kernel_rfl) ?_
  change wpAny _ _ _ _ _ _ _ (World.drew _)
  refine wpAny_of_held (S := bT P k li p q g a) _ _ _ _ ?_
  obtain ⟨w1d, hw1d⟩ : ∃ w1d, w1d = w1.drew := ⟨_, rfl⟩
  have Bw1d : Hid (Below w1.heap.size w1 w1d) := Lib.hid (by rw [hw1d]; exact (Below.refl _ _).drew)
  rw [← hw1d]
  clear hw1d
  have hHeld : (bT P k li p q g a) w1d := HT.out w1d Bw1d.out
  have CR := Lib.hid (HR.out w1d (G1.out.keep Bw1d.out))
  refine tkh 0 (v := ?_) rfl ?_ ?_; rotate_left
  · intro w hSw; (try dsimp only at hSw); go_simp <;> with_reducible rfl
  try simp only [Act.put, pz]
  refine tkh 1 (v := ?_) rfl ?_ ?_; rotate_left
  · intro w hSw; (try dsimp only at hSw); go_simp <;> with_reducible rfl
  try simp only [Act.put, pz]
  refine tkh 2 (v := ?_) rfl ?_ ?_; rotate_left
  · intro w hSw; (try dsimp only at hSw); go_simp <;> with_reducible rfl
  try simp only [Act.put, pz]
  refine tkh 3 (v := ?_) rfl ?_ ?_; rotate_left
  · intro w hSw; (try dsimp only at hSw); go_simp <;> with_reducible rfl
  try simp only [Act.put, pz]
  refine tkh 4 (v := ?_) rfl ?_ ?_; rotate_left
  · intro w hSw; obtain ⟨q0, q1, q2, q3, q4, q5, g0, g1, g2, g3, g4, g5, g6, g7, g8⟩ := hSw; go_simp <;> with_reducible rfl
  try simp only [Act.put, pz]
  refine tkh 5 (v := ?_) rfl ?_ ?_; rotate_left
  · intro w hSw; (try dsimp only at hSw); go_simp <;> with_reducible rfl
  try simp only [Act.put, pz]
  refine tkh 6 (v := ?_) rfl ?_ ?_; rotate_left
  · intro w hSw; (try dsimp only at hSw); go_simp <;> with_reducible rfl
  try simp only [Act.put, pz]
  refine tkh 7 (v := ?_) rfl ?_ ?_; rotate_left
  · intro w hSw; (try dsimp only at hSw); go_simp <;> with_reducible rfl
  try simp only [Act.put, pz]
  refine tkh 8 (v := ?_) rfl ?_ ?_; rotate_left
  · intro w hSw; (try dsimp only at hSw); go_simp <;> with_reducible rfl
  try simp only [Act.put, pz]
  refine tkh 9 (v := ?_) rfl ?_ ?_; rotate_left
  · intro w hSw; obtain ⟨q0, q1, q2, q3, q4, q5, g0, g1, g2, g3, g4, g5, g6, g7, g8⟩ := hSw; go_simp <;> with_reducible rfl
  try simp only [Act.put, pz]
  refine tkh 10 (v := ?_) rfl ?_ ?_; rotate_left
  · intro w hSw; (try dsimp only at hSw); go_simp <;> with_reducible rfl
  try simp only [Act.put, pz]
  refine tkh 11 (v := ?_) rfl ?_ ?_; rotate_left
  · intro w hSw; (try dsimp only at hSw); go_simp <;> with_reducible rfl
  try simp only [Act.put, pz]
  refine tkh 12 (v := ?_) rfl ?_ ?_; rotate_left
  · intro w hSw; (try dsimp only at hSw); go_simp <;> with_reducible rfl
  try simp only [Act.put, pz]
  refine tkh 13 (v := ?_) rfl ?_ ?_; rotate_left
  · intro w hSw; (try dsimp only at hSw); go_simp <;> with_reducible rfl
  try simp only [Act.put, pz]
  refine tkh 14 (v := ?_) rfl ?_ ?_; rotate_left
  · intro w hSw; obtain ⟨q0, q1, q2, q3, q4, q5, g0, g1, g2, g3, g4, g5, g6, g7, g8⟩ := hSw; go_simp <;> with_reducible rfl
  try simp only [Act.put, pz]
  refine tkh 15 (v := ?_) rfl ?_ ?_; rotate_left
  · intro w hSw; obtain ⟨q0, q1, q2, q3, q4, q5, g0, g1, g2, g3, g4, g5, g6, g7, g8⟩ := hSw; go_simp <;> with_reducible rfl
  try simp only [Act.put, pz]
  refine tkh 16 (v := ?_) rfl ?_ ?_; rotate_left
  · intro w hSw; (try dsimp only at hSw); go_simp <;> with_reducible rfl
  try simp only [Act.put, pz]
  refine tkh 17 (v := ?_) rfl ?_ ?_; rotate_left
  · intro w hSw; (try dsimp only at hSw); go_simp <;> with_reducible rfl
  try simp only [Act.put, pz]
  refine tkh 18 (v := ?_) rfl ?_ ?_; rotate_left
  · intro w hSw; (try dsimp only at hSw); go_simp <;> with_reducible rfl
  try simp only [Act.put, pz]
  refine tkh 19 (v := ?_) rfl ?_ ?_; rotate_left
  · intro w hSw; obtain ⟨q0, q1, q2, q3, q4, q5, g0, g1, g2, g3, g4, g5, g6, g7, g8⟩ := hSw; go_simp <;> with_reducible rfl
  try simp only [Act.put, pz]
  refine wpAnyH_ready (rs := [20]) (by kernel_rfl) (by simp) (AllReadyH.cons rfl (fun K hK => ?_) AllReadyH.nil)
  have hPrev := hHeld
  clear hHeld
  go_simp
  refine CR.out.mono ?_
  rintro e w2 ⟨rfl, hb2⟩
  have B2 : Hid (Below w1.heap.size w1 w2) := Lib.hid (Bw1d.out.trans (hb2.mono Bw1d.out.size))
  clear hb2 CR
  refine hK.out _ _ (HT.out w2 B2.out) (fun hHeld => ?_)
  clear hK K hPrev
  try simp only [Act.put, pz]
  refine tkh 21 (v := ?_) rfl ?_ ?_; rotate_left
  · intro w hSw; (try dsimp only at hSw); go_simp <;> with_reducible rfl
  try simp only [Act.put, pz]
  refine tkh 22 (v := ?_) rfl ?_ ?_; rotate_left
  · intro w hSw; (try dsimp only at hSw); go_simp <;> with_reducible rfl
  try simp only [Act.put, pz]
  refine tkh 23 (v := ?_) rfl ?_ ?_; rotate_left
  · intro w hSw; (try dsimp only at hSw); go_simp <;> with_reducible rfl
  try simp only [Act.put, pz]
  refine tkh 24 (v := ?_) rfl ?_ ?_; rotate_left
  · intro w hSw; (try dsimp only at hSw); go_simp <;> with_reducible rfl
  try simp only [Act.put, pz]
  refine tkh 25 (v := ?_) rfl ?_ ?_; rotate_left
  · intro w hSw; (try dsimp only at hSw); go_simp <;> with_reducible rfl
  try simp only [Act.put, pz]
  refine wpAnyH_done (by kernel_rfl) ?_ _
  clear hHeld
  go_upto_region 2 with fail
  refine wp_region_any (by kernel_rfl) ?_
  change wpAny _ _ _ _ _ _ _ (World.drew _)
  refine wpAny_of_held (S := bT P k li p q g a) _ _ _ _ ?_
  obtain ⟨w2d, hw2d⟩ : ∃ w2d, w2d = w2.drew := ⟨_, rfl⟩
  have Bw2d : Hid (Below w1.heap.size w1 w2d) := Lib.hid (by rw [hw2d]; exact B2.out.drew)
  rw [← hw2d]
  clear hw2d
  have hHeld : (bT P k li p q g a) w2d := HT.out w2d Bw2d.out
  have CF := Lib.hid (HF.out w2d (G1.out.keep Bw2d.out))
  refine tkh 0 (v := ?_) rfl ?_ ?_; rotate_left
  · intro w hSw; (try dsimp only at hSw); go_simp <;> with_reducible rfl
  try simp only [Act.put, pz]
  refine tkh 1 (v := ?_) rfl ?_ ?_; rotate_left
  · intro w hSw; (try dsimp only at hSw); go_simp <;> with_reducible rfl
  try simp only [Act.put, pz]
  refine tkh 2 (v := ?_) rfl ?_ ?_; rotate_left
  · intro w hSw; (try dsimp only at hSw); go_simp <;> with_reducible rfl
  try simp only [Act.put, pz]
  refine tkh 3 (v := ?_) rfl ?_ ?_; rotate_left
  · intro w hSw; (try dsimp only at hSw); go_simp <;> with_reducible rfl
  try simp only [Act.put, pz]
  refine tkh 4 (v := ?_) rfl ?_ ?_; rotate_left
  · intro w hSw; obtain ⟨q0, q1, q2, q3, q4, q5, g0, g1, g2, g3, g4, g5, g6, g7, g8⟩ := hSw; go_simp <;> with_reducible rfl
  try simp only [Act.put, pz]
  refine tkh 5 (v := ?_) rfl ?_ ?_; rotate_left
  · intro w hSw; (try dsimp only at hSw); go_simp <;> with_reducible rfl
  try simp only [Act.put, pz]
  refine tkh 6 (v := ?_) rfl ?_ ?_; rotate_left
  · intro w hSw; (try dsimp only at hSw); go_simp <;> with_reducible rfl
  try simp only [Act.put, pz]
  refine tkh 7 (v := ?_) rfl ?_ ?_; rotate_left
  · intro w hSw; (try dsimp only at hSw); go_simp <;> with_reducible rfl
  try simp only [Act.put, pz]
  refine tkh 8 (v := ?_) rfl ?_ ?_; rotate_left
  · intro w hSw; (try dsimp only at hSw); go_simp <;> with_reducible rfl
  try simp only [Act.put, pz]
  refine tkh 9 (v := ?_) rfl ?_ ?_; rotate_left
  · intro w hSw; obtain ⟨q0, q1, q2, q3, q4, q5, g0, g1, g2, g3, g4, g5, g6, g7, g8⟩ := hSw; go_simp <;> with_reducible rfl
  try simp only [Act.put, pz]
  refine tkh 10 (v := ?_) rfl ?_ ?_; rotate_left
  · intro w hSw; (try dsimp only at hSw); go_simp <;> with_reducible rfl
  try simp only [Act.put, pz]
  refine tkh 11 (v := ?_) rfl ?_ ?_; rotate_left
  · intro w hSw; (try dsimp only at hSw); go_simp <;> with_reducible rfl
  try simp only [Act.put, pz]
  refine tkh 12 (v := ?_) rfl ?_ ?_; rotate_left
  · intro w hSw; (try dsimp only at hSw); go_simp <;> with_reducible rfl
  try simp only [Act.put, pz]
  refine tkh 13 (v := ?_) rfl ?_ ?_; rotate_left
  · intro w hSw; (try dsimp only at hSw); go_simp <;> with_reducible rfl
  try simp only [Act.put, pz]
  refine tkh 14 (v := ?_) rfl ?_ ?_; rotate_left
  · intro w hSw; obtain ⟨q0, q1, q2, q3, q4, q5, g0, g1, g2, g3, g4, g5, g6, g7, g8⟩ := hSw; go_simp <;> with_reducible rfl
  try simp only [Act.put, pz]
  refine tkh 15 (v := ?_) rfl ?_ ?_; rotate_left
  · intro w hSw; obtain ⟨q0, q1, q2, q3, q4, q5, g0, g1, g2, g3, g4, g5, g6, g7, g8⟩ := hSw; go_simp <;> with_reducible rfl
  try simp only [Act.put, pz]
  refine tkh 16 (v := ?_) rfl ?_ ?_; rotate_left
  · intro w hSw; (try dsimp only at hSw); go_simp <;> with_reducible rfl
  try simp only [Act.put, pz]
  refine tkh 17 (v := ?_) rfl ?_ ?_; rotate_left
  · intro w hSw; (try dsimp only at hSw); go_simp <;> with_reducible rfl
  try simp only [Act.put, pz]
  refine tkh 18 (v := ?_) rfl ?_ ?_; rotate_left
  · intro w hSw; (try dsimp only at hSw); go_simp <;> with_reducible rfl
  try simp only [Act.put, pz]
  refine tkh 19 (v := ?_) rfl ?_ ?_; rotate_left
  · intro w hSw; obtain ⟨q0, q1, q2, q3, q4, q5, g0, g1, g2, g3, g4, g5, g6, g7, g8⟩ := hSw; go_simp <;> with_reducible rfl
  try simp only [Act.put, pz]
  refine wpAnyH_ready (rs := [20]) (by kernel_rfl) (by simp) (AllReadyH.cons rfl (fun K hK => ?_) AllReadyH.nil)
  have hPrev := hHeld
  clear hHeld
  go_simp
  refine CF.out.mono ?_
  rintro e w3 ⟨rfl, hb3⟩
  have B3 : Hid (Below w1.heap.size w1 w3) := Lib.hid (Bw2d.out.trans (hb3.mono Bw2d.out.size))
  clear hb3 CF
  refine hK.out _ _ (HT.out w3 B3.out) (fun hHeld => ?_)
  clear hK K hPrev
  try simp only [Act.put, pz]
  refine tkh 21 (v := ?_) rfl ?_ ?_; rotate_left
  · intro w hSw; (try dsimp only at hSw); go_simp <;> with_reducible rfl
  try simp only [Act.put, pz]
  refine tkh 22 (v := ?_) rfl ?_ ?_; rotate_left
  · intro w hSw; (try dsimp only at hSw); go_simp <;> with_reducible rfl
  try simp only [Act.put, pz]
  refine tkh 23 (v := ?_) rfl ?_ ?_; rotate_left
  · intro w hSw; (try dsimp only at hSw); go_simp <;> with_reducible rfl
  try simp only [Act.put, pz]
  refine tkh 24 (v := ?_) rfl ?_ ?_; rotate_left
  · intro w hSw; (try dsimp only at hSw); go_simp <;> with_reducible rfl
  try simp only [Act.put, pz]
  refine tkh 25 (v := ?_) rfl ?_ ?_; rotate_left
  · intro w hSw; (try dsimp only at hSw); go_simp <;> with_reducible rfl
  try simp only [Act.put, pz]
  refine wpAnyH_done (by kernel_rfl) ?_ _
  clear hHeld
  have HFF : Hid (BegQ w0 P li k m p n d q r B (.returned (.bool true)) w3) := Lib.hid ⟨rfl, C, o, G1.out.keep B3.out, HI.out⟩
  go_wp2_with fail
  go_ret
  exact HFF.out
set_option maxRecDepth 20000 in
set_option maxHeartbeats 8000000 in
theorem begin_yes {w0 W : World} {C : Nat → Nat} {P p n q B : Nat} {li : Int} {k : FwK} {m : FwS} {d : Dk} {r : Rd} {o : Option Fo} (hG : GS w0 W C (LF w0 P li k m p n d q r o)) (a f' : FwS) (hI : ∀ x : Fo, x.f = f' → InvF li k (some x) B) (hR : ∀ w, GS w0 w C (LF w0 P li k m p n d q r o) → Calls Tryz.prog 90 #[.agg #[.string (strB k.nm), .string (strB k.ro)], .int .i64 li, .int .i64 k.ch, .agg #[.int .i64 a.se, .int .i64 a.ino, .int .i64 a.ge, .int .i64 a.off, .int .i64 a.mi, .int .i64 a.go, .int .i64 a.cu, .int .i64 a.ta, .int .i64 a.lo], .pointer (some ⟨q, 0, none⟩)] w (BornG w C 4 k f')) (hF : ∀ w C', GS w0 w C' (LF w0 P li k m p n d q r o) → Calls Tryz.prog 86 #[.agg #[.string (strB k.nm), .string (strB k.ro)], .int .i64 li, .int .i64 k.ch, .agg #[.int .i64 a.se, .int .i64 a.ino, .int .i64 a.ge, .int .i64 a.off, .int .i64 a.mi, .int .i64 a.go, .int .i64 a.cu, .int .i64 a.ta, .int .i64 a.lo], .pointer (some ⟨p, 0, none⟩)] w (BornQ w C' 3 k f')) : Calls Tryz.prog 37 #[.pointer (some ⟨P, 0, none⟩), .agg #[.int .i64 a.se, .int .i64 a.ino, .int .i64 a.ge, .int .i64 a.off, .int .i64 a.mi, .int .i64 a.go, .int .i64 a.cu, .int .i64 a.ta, .int .i64 a.lo]] W (BegQ w0 P li k m p n d q r B) := by
  obtain ⟨w1, hw1⟩ : ∃ w1, w1 = W.alloc (.cells #[.int .i64 a.se, .int .i64 a.ino, .int .i64 a.ge, .int .i64 a.off, .int .i64 a.mi, .int .i64 a.go, .int .i64 a.cu, .int .i64 a.ta, .int .i64 a.lo] 100) := ⟨_, rfl⟩
  obtain ⟨g, hg⟩ : ∃ g, g = W.heap.size := ⟨_, rfl⟩
  have B1 : Hid (Below W.heap.size W w1) := Lib.hid (by rw [hw1]; exact (Below.refl _ _).alloc (Nat.le_refl _) _)
  have K1 : Hid (Blk w1 g 100 #[.int .i64 a.se, .int .i64 a.ino, .int .i64 a.ge, .int .i64 a.off, .int .i64 a.mi, .int .i64 a.go, .int .i64 a.cu, .int .i64 a.ta, .int .i64 a.lo]) := Lib.hid (by rw [hw1]; exact Blk.new W _ _ hg)
  have G1 : Hid (GS w0 w1 C (LF w0 P li k m p n d q r o)) := Lib.hid (hG.keep B1.out)
  have HT : Hid (∀ w, Below w1.heap.size w1 w → (bT P k li p q g a) w) := Lib.hid (fun w hb => by
    have hP : PPp P li k m p q o w C := (G1.out.keep hb).at_ (k := 4) rfl
    exact ⟨(hP.1.cell 0).trans rfl, (hP.1.cell 1).trans rfl, (hP.1.cell 2).trans rfl, (hP.1.cell 3).trans rfl, (hP.1.cell 13).trans rfl, (hP.1.cell 14).trans rfl, ((K1.out.keep hb).cell 0).trans rfl, ((K1.out.keep hb).cell 1).trans rfl, ((K1.out.keep hb).cell 2).trans rfl, ((K1.out.keep hb).cell 3).trans rfl, ((K1.out.keep hb).cell 4).trans rfl, ((K1.out.keep hb).cell 5).trans rfl, ((K1.out.keep hb).cell 6).trans rfl, ((K1.out.keep hb).cell 7).trans rfl, ((K1.out.keep hb).cell 8).trans rfl⟩)
  have HI := Lib.hid hI
  have HR := Lib.hid hR
  have HF := Lib.hid hF
  clear hG hI hR hF
  go_enter Tryz.func37, Tryz.ntmps37
  go_upto_region 1 with fail
  rw [← hw1, ← hg]
  clear hw1 hg
  refine wp_region_any (by kernel_rfl) ?_
  change wpAny _ _ _ _ _ _ _ (World.drew _)
  refine wpAny_of_held (S := bT P k li p q g a) _ _ _ _ ?_
  obtain ⟨w1d, hw1d⟩ : ∃ w1d, w1d = w1.drew := ⟨_, rfl⟩
  have Bw1d : Hid (Below w1.heap.size w1 w1d) := Lib.hid (by rw [hw1d]; exact (Below.refl _ _).drew)
  rw [← hw1d]
  clear hw1d
  have hHeld : (bT P k li p q g a) w1d := HT.out w1d Bw1d.out
  have CR := Lib.hid (HR.out w1d (G1.out.keep Bw1d.out))
  refine tkh 0 (v := ?_) rfl ?_ ?_; rotate_left
  · intro w hSw; (try dsimp only at hSw); go_simp <;> with_reducible rfl
  try simp only [Act.put, pz]
  refine tkh 1 (v := ?_) rfl ?_ ?_; rotate_left
  · intro w hSw; (try dsimp only at hSw); go_simp <;> with_reducible rfl
  try simp only [Act.put, pz]
  refine tkh 2 (v := ?_) rfl ?_ ?_; rotate_left
  · intro w hSw; (try dsimp only at hSw); go_simp <;> with_reducible rfl
  try simp only [Act.put, pz]
  refine tkh 3 (v := ?_) rfl ?_ ?_; rotate_left
  · intro w hSw; (try dsimp only at hSw); go_simp <;> with_reducible rfl
  try simp only [Act.put, pz]
  refine tkh 4 (v := ?_) rfl ?_ ?_; rotate_left
  · intro w hSw; obtain ⟨q0, q1, q2, q3, q4, q5, g0, g1, g2, g3, g4, g5, g6, g7, g8⟩ := hSw; go_simp <;> with_reducible rfl
  try simp only [Act.put, pz]
  refine tkh 5 (v := ?_) rfl ?_ ?_; rotate_left
  · intro w hSw; (try dsimp only at hSw); go_simp <;> with_reducible rfl
  try simp only [Act.put, pz]
  refine tkh 6 (v := ?_) rfl ?_ ?_; rotate_left
  · intro w hSw; (try dsimp only at hSw); go_simp <;> with_reducible rfl
  try simp only [Act.put, pz]
  refine tkh 7 (v := ?_) rfl ?_ ?_; rotate_left
  · intro w hSw; (try dsimp only at hSw); go_simp <;> with_reducible rfl
  try simp only [Act.put, pz]
  refine tkh 8 (v := ?_) rfl ?_ ?_; rotate_left
  · intro w hSw; (try dsimp only at hSw); go_simp <;> with_reducible rfl
  try simp only [Act.put, pz]
  refine tkh 9 (v := ?_) rfl ?_ ?_; rotate_left
  · intro w hSw; obtain ⟨q0, q1, q2, q3, q4, q5, g0, g1, g2, g3, g4, g5, g6, g7, g8⟩ := hSw; go_simp <;> with_reducible rfl
  try simp only [Act.put, pz]
  refine tkh 10 (v := ?_) rfl ?_ ?_; rotate_left
  · intro w hSw; (try dsimp only at hSw); go_simp <;> with_reducible rfl
  try simp only [Act.put, pz]
  refine tkh 11 (v := ?_) rfl ?_ ?_; rotate_left
  · intro w hSw; (try dsimp only at hSw); go_simp <;> with_reducible rfl
  try simp only [Act.put, pz]
  refine tkh 12 (v := ?_) rfl ?_ ?_; rotate_left
  · intro w hSw; (try dsimp only at hSw); go_simp <;> with_reducible rfl
  try simp only [Act.put, pz]
  refine tkh 13 (v := ?_) rfl ?_ ?_; rotate_left
  · intro w hSw; (try dsimp only at hSw); go_simp <;> with_reducible rfl
  try simp only [Act.put, pz]
  refine tkh 14 (v := ?_) rfl ?_ ?_; rotate_left
  · intro w hSw; obtain ⟨q0, q1, q2, q3, q4, q5, g0, g1, g2, g3, g4, g5, g6, g7, g8⟩ := hSw; go_simp <;> with_reducible rfl
  try simp only [Act.put, pz]
  refine tkh 15 (v := ?_) rfl ?_ ?_; rotate_left
  · intro w hSw; obtain ⟨q0, q1, q2, q3, q4, q5, g0, g1, g2, g3, g4, g5, g6, g7, g8⟩ := hSw; go_simp <;> with_reducible rfl
  try simp only [Act.put, pz]
  refine tkh 16 (v := ?_) rfl ?_ ?_; rotate_left
  · intro w hSw; (try dsimp only at hSw); go_simp <;> with_reducible rfl
  try simp only [Act.put, pz]
  refine tkh 17 (v := ?_) rfl ?_ ?_; rotate_left
  · intro w hSw; (try dsimp only at hSw); go_simp <;> with_reducible rfl
  try simp only [Act.put, pz]
  refine tkh 18 (v := ?_) rfl ?_ ?_; rotate_left
  · intro w hSw; (try dsimp only at hSw); go_simp <;> with_reducible rfl
  try simp only [Act.put, pz]
  refine tkh 19 (v := ?_) rfl ?_ ?_; rotate_left
  · intro w hSw; obtain ⟨q0, q1, q2, q3, q4, q5, g0, g1, g2, g3, g4, g5, g6, g7, g8⟩ := hSw; go_simp <;> with_reducible rfl
  try simp only [Act.put, pz]
  refine wpAnyH_ready (rs := [20]) (by kernel_rfl) (by simp) (AllReadyH.cons rfl (fun K hK => ?_) AllReadyH.nil)
  have hPrev := hHeld
  clear hHeld
  go_simp
  refine CR.out.mono ?_
  rintro e w2 ⟨gb, rfl, hgf, _, hb2⟩
  have B2 : Hid (Below w1.heap.size w1 w2) := Lib.hid (Bw1d.out.trans (hb2.mono Bw1d.out.size))
  obtain ⟨C2, hC2⟩ : ∃ C2, C2 = paint C w1d.heap.size 4 := ⟨_, rfl⟩
  rw [← hC2] at hgf
  have GF2 := Lib.hid hgf
  have G2 : Hid (GS w0 w2 C2 (LF w0 P li k m p n d q r o)) := Lib.hid (by rw [hC2]; exact (G1.out.keep Bw1d.out).keep2 hb2 (sam_paint _ _ _))
  clear hb2 CR hC2 hgf
  refine hK.out _ _ (HT.out w2 B2.out) (fun hHeld => ?_)
  clear hK K hPrev
  try simp only [Act.put, pz]
  refine tkh 21 (v := ?_) rfl ?_ ?_; rotate_left
  · intro w hSw; (try dsimp only at hSw); go_simp <;> with_reducible rfl
  try simp only [Act.put, pz]
  refine tkh 22 (v := ?_) rfl ?_ ?_; rotate_left
  · intro w hSw; (try dsimp only at hSw); go_simp <;> with_reducible rfl
  try simp only [Act.put, pz]
  refine tkh 23 (v := ?_) rfl ?_ ?_; rotate_left
  · intro w hSw; (try dsimp only at hSw); go_simp <;> with_reducible rfl
  try simp only [Act.put, pz]
  refine tkh 24 (v := ?_) rfl ?_ ?_; rotate_left
  · intro w hSw; (try dsimp only at hSw); go_simp <;> with_reducible rfl
  try simp only [Act.put, pz]
  refine tkh 25 (v := ?_) rfl ?_ ?_; rotate_left
  · intro w hSw; (try dsimp only at hSw); go_simp <;> with_reducible rfl
  try simp only [Act.put, pz]
  refine wpAnyH_done (by kernel_rfl) ?_ _
  clear hHeld
  go_upto_region 2 with fail
  refine wp_region_any (by kernel_rfl) ?_
  change wpAny _ _ _ _ _ _ _ (World.drew _)
  refine wpAny_of_held (S := bT P k li p q g a) _ _ _ _ ?_
  obtain ⟨w2d, hw2d⟩ : ∃ w2d, w2d = w2.drew := ⟨_, rfl⟩
  have Bw2d : Hid (Below w1.heap.size w1 w2d) := Lib.hid (by rw [hw2d]; exact B2.out.drew)
  rw [← hw2d]
  have hw2d' := hw2d
  clear hw2d
  have hHeld : (bT P k li p q g a) w2d := HT.out w2d Bw2d.out
  have BD2 : Hid (Below w2.heap.size w2 w2d) := Lib.hid (by rw [hw2d']; exact (Below.refl _ _).drew)
  have CF := Lib.hid (HF.out w2d C2 (G2.out.keep BD2.out))
  clear hw2d'
  refine tkh 0 (v := ?_) rfl ?_ ?_; rotate_left
  · intro w hSw; (try dsimp only at hSw); go_simp <;> with_reducible rfl
  try simp only [Act.put, pz]
  refine tkh 1 (v := ?_) rfl ?_ ?_; rotate_left
  · intro w hSw; (try dsimp only at hSw); go_simp <;> with_reducible rfl
  try simp only [Act.put, pz]
  refine tkh 2 (v := ?_) rfl ?_ ?_; rotate_left
  · intro w hSw; (try dsimp only at hSw); go_simp <;> with_reducible rfl
  try simp only [Act.put, pz]
  refine tkh 3 (v := ?_) rfl ?_ ?_; rotate_left
  · intro w hSw; (try dsimp only at hSw); go_simp <;> with_reducible rfl
  try simp only [Act.put, pz]
  refine tkh 4 (v := ?_) rfl ?_ ?_; rotate_left
  · intro w hSw; obtain ⟨q0, q1, q2, q3, q4, q5, g0, g1, g2, g3, g4, g5, g6, g7, g8⟩ := hSw; go_simp <;> with_reducible rfl
  try simp only [Act.put, pz]
  refine tkh 5 (v := ?_) rfl ?_ ?_; rotate_left
  · intro w hSw; (try dsimp only at hSw); go_simp <;> with_reducible rfl
  try simp only [Act.put, pz]
  refine tkh 6 (v := ?_) rfl ?_ ?_; rotate_left
  · intro w hSw; (try dsimp only at hSw); go_simp <;> with_reducible rfl
  try simp only [Act.put, pz]
  refine tkh 7 (v := ?_) rfl ?_ ?_; rotate_left
  · intro w hSw; (try dsimp only at hSw); go_simp <;> with_reducible rfl
  try simp only [Act.put, pz]
  refine tkh 8 (v := ?_) rfl ?_ ?_; rotate_left
  · intro w hSw; (try dsimp only at hSw); go_simp <;> with_reducible rfl
  try simp only [Act.put, pz]
  refine tkh 9 (v := ?_) rfl ?_ ?_; rotate_left
  · intro w hSw; obtain ⟨q0, q1, q2, q3, q4, q5, g0, g1, g2, g3, g4, g5, g6, g7, g8⟩ := hSw; go_simp <;> with_reducible rfl
  try simp only [Act.put, pz]
  refine tkh 10 (v := ?_) rfl ?_ ?_; rotate_left
  · intro w hSw; (try dsimp only at hSw); go_simp <;> with_reducible rfl
  try simp only [Act.put, pz]
  refine tkh 11 (v := ?_) rfl ?_ ?_; rotate_left
  · intro w hSw; (try dsimp only at hSw); go_simp <;> with_reducible rfl
  try simp only [Act.put, pz]
  refine tkh 12 (v := ?_) rfl ?_ ?_; rotate_left
  · intro w hSw; (try dsimp only at hSw); go_simp <;> with_reducible rfl
  try simp only [Act.put, pz]
  refine tkh 13 (v := ?_) rfl ?_ ?_; rotate_left
  · intro w hSw; (try dsimp only at hSw); go_simp <;> with_reducible rfl
  try simp only [Act.put, pz]
  refine tkh 14 (v := ?_) rfl ?_ ?_; rotate_left
  · intro w hSw; obtain ⟨q0, q1, q2, q3, q4, q5, g0, g1, g2, g3, g4, g5, g6, g7, g8⟩ := hSw; go_simp <;> with_reducible rfl
  try simp only [Act.put, pz]
  refine tkh 15 (v := ?_) rfl ?_ ?_; rotate_left
  · intro w hSw; obtain ⟨q0, q1, q2, q3, q4, q5, g0, g1, g2, g3, g4, g5, g6, g7, g8⟩ := hSw; go_simp <;> with_reducible rfl
  try simp only [Act.put, pz]
  refine tkh 16 (v := ?_) rfl ?_ ?_; rotate_left
  · intro w hSw; (try dsimp only at hSw); go_simp <;> with_reducible rfl
  try simp only [Act.put, pz]
  refine tkh 17 (v := ?_) rfl ?_ ?_; rotate_left
  · intro w hSw; (try dsimp only at hSw); go_simp <;> with_reducible rfl
  try simp only [Act.put, pz]
  refine tkh 18 (v := ?_) rfl ?_ ?_; rotate_left
  · intro w hSw; (try dsimp only at hSw); go_simp <;> with_reducible rfl
  try simp only [Act.put, pz]
  refine tkh 19 (v := ?_) rfl ?_ ?_; rotate_left
  · intro w hSw; obtain ⟨q0, q1, q2, q3, q4, q5, g0, g1, g2, g3, g4, g5, g6, g7, g8⟩ := hSw; go_simp <;> with_reducible rfl
  try simp only [Act.put, pz]
  refine wpAnyH_ready (rs := [20]) (by kernel_rfl) (by simp) (AllReadyH.cons rfl (fun K hK => ?_) AllReadyH.nil)
  have hPrev := hHeld
  clear hHeld
  go_simp
  refine CF.out.mono ?_
  rintro e w3 ⟨fl, rb, rfl, hfl, hrf, hlo, _, hb3⟩
  have B3 : Hid (Below w1.heap.size w1 w3) := Lib.hid (Bw2d.out.trans (hb3.mono Bw2d.out.size))
  obtain ⟨C3, hC3⟩ : ∃ C3, C3 = paint C2 w2d.heap.size 3 := ⟨_, rfl⟩
  rw [← hC3] at hrf
  have G3 : Hid (GS w0 w3 C3 (LF w0 P li k m p n d q r o)) := Lib.hid (by rw [hC3]; exact (G2.out.keep BD2.out).keep2 hb3 (sam_paint _ _ _))
  have HF3 : Hid (FPp k (some ⟨fl, rb, gb, f'⟩) w3 C3) := Lib.hid ⟨hrf, hfl, by rw [hC3]; exact paint_new _ _ hlo⟩
  have HG3 : Hid (GPp k (some ⟨fl, rb, gb, f'⟩) w3 C3) := Lib.hid (by rw [hC3]; exact GfR.step (S := fun _ => False) (GF2.out.keep BD2.out) (Chg.of_below hb3 _) (sam_paint _ _ _) (fun _ e => e.elim))
  clear hb3 CF hC3 hrf hfl hlo
  refine hK.out _ _ (HT.out w3 B3.out) (fun hHeld => ?_)
  clear hK K hPrev
  try simp only [Act.put, pz]
  refine tkh 21 (v := ?_) rfl ?_ ?_; rotate_left
  · intro w hSw; (try dsimp only at hSw); go_simp <;> with_reducible rfl
  try simp only [Act.put, pz]
  refine tkh 22 (v := ?_) rfl ?_ ?_; rotate_left
  · intro w hSw; (try dsimp only at hSw); go_simp <;> with_reducible rfl
  try simp only [Act.put, pz]
  refine tkh 23 (v := ?_) rfl ?_ ?_; rotate_left
  · intro w hSw; (try dsimp only at hSw); go_simp <;> with_reducible rfl
  try simp only [Act.put, pz]
  refine tkh 24 (v := ?_) rfl ?_ ?_; rotate_left
  · intro w hSw; (try dsimp only at hSw); go_simp <;> with_reducible rfl
  try simp only [Act.put, pz]
  refine tkh 25 (v := ?_) rfl ?_ ?_; rotate_left
  · intro w hSw; (try dsimp only at hSw); go_simp <;> with_reducible rfl
  try simp only [Act.put, pz]
  refine wpAnyH_done (by kernel_rfl) ?_ _
  clear hHeld
  have hP := (G3.out.at_ (k := 4) rfl : PPp P li k m p q o w3 C3)
  have c15 : w3.cell? ⟨P, 15, none⟩ = some (ptF o) := (hP.1.cell 15).trans rfl
  have c16 : w3.cell? ⟨P, 16, none⟩ = some (ptG o) := (hP.1.cell 16).trans rfl
  have z15 := hP.1.frozen 15
  have z16 := hP.1.frozen 16
  obtain ⟨w4, hw4⟩ : ∃ w4, w4 = (w3.setCell ⟨P, 15, none⟩ (.pointer (some ⟨fl, 0, none⟩))).setCell ⟨P, 16, none⟩ (.pointer (some ⟨gb, 0, none⟩)) := ⟨_, rfl⟩
  have HFF : Hid (BegQ w0 P li k m p n d q r B (.returned (.bool true)) w4) := Lib.hid ⟨rfl, C3, some ⟨fl, rb, gb, f'⟩, by rw [hw4]; exact G3.out.newF HF3.out HG3.out, HI.out _ rfl⟩
  clear hP
  go_wp2_with fail
  rw [← hw4]
  clear hw4
  go_ret
  exact HFF.out
theorem begin_any {w0 W : World} {C : Nat → Nat} {P p n q B : Nat} {li : Int} {k : FwK} {m : FwS} {d : Dk} {r : Rd} {o : Option Fo} (hG : GS w0 W C (LF w0 P li k m p n d q r o)) (al : Alike d r n) (hkl : k.line = li.toNat) (hI : InvF li k o B) (a : FwS) : Calls Tryz.prog 37 #[.pointer (some ⟨P, 0, none⟩), .agg #[.int .i64 a.se, .int .i64 a.ino, .int .i64 a.ge, .int .i64 a.off, .int .i64 a.mi, .int .i64 a.go, .int .i64 a.cu, .int .i64 a.ta, .int .i64 a.lo]] W (BegQ w0 P li k m p n d q r B) := by
  have hok : d.Ok n := GS.dok hG
  have hdc : ∀ {w : World} {C' : Nat → Nat}, GS w0 w C' (LF w0 P li k m p n d q r o) → DC w w0.heap.size C' 1 p n d := fun h => h.at_ (k := 0) rfl
  have hrc : ∀ {w : World} {C' : Nat → Nat}, GS w0 w C' (LF w0 P li k m p n d q r o) → RC w w0.heap.size C' 2 q r := fun h => h.at_ (k := 1) rfl
  cases hn : mayPB d.sti k with
  | false =>
    exact begin_no hG hI a 140 (by decide)
      (fun w h => gf_new_name k a li (al.rasks hok w0.heap.size C 2 q) d.sti_may (fun w' hb => (hrc h).step (S := fun _ => False) (Chg.of_below hb _) (Sam.refl _ _) (fun _ e => e.elim)) hn)
      (fun w h => fw_new_name k a li (asks_dc w0.heap.size C 1 p n d) (fun w' hb => (hdc h).keep hb (Sam.refl _ _)) hn)
  | true =>
    cases hl : mayNB li k.ch a with
    | false =>
      exact begin_no hG hI a 1 (by decide)
        (fun w h => gf_new_inval k a li (al.rasks hok w0.heap.size C 2 q) d.sti_may (fun w' hb => (hrc h).step (S := fun _ => False) (Chg.of_below hb _) (Sam.refl _ _) (fun _ e => e.elim)) hn hl)
        (fun w h => fw_new_inval k a li (asks_dc w0.heap.size C 1 p n d) (fun w' hb => (hdc h).keep hb (Sam.refl _ _)) hn hl)
    | true =>
      have hl2 := hl
      unfold mayNB at hl2
      simp only [Bool.and_eq_true, decide_eq_true_eq] at hl2
      have e : li = (k.line : Int) := by rw [hkl]; omega
      have hb := FwS.born_ok (FwS.okM_ok hl2.2.2.2.2) d.sti k
      refine begin_yes hG a (a.born d.sti k) (fun x hx y hy => ?_) (fun w h => ?_) (fun w C' h => ?_)
      · obtain rfl := Option.some.inj hy
        exact ⟨e, by omega, by omega, hl2.2.2.1, hl2.2.2.2.1, by rw [hx]; exact hb.1, by rw [hx]; exact hb.2.1, by rw [hx]; exact Nat.le_trans hb.2.2 (Nat.zero_le _)⟩
      · have h1 := gf_new_ok C 4 (W := w) k a (al.rasks hok w0.heap.size C 2 q) d.sti_may (fun w' hb => (hrc h).step (S := fun _ => False) (Chg.of_below hb _) (Sam.refl _ _) (fun _ e => e.elim)) hn (by rw [← e]; exact hl)
        rw [← e] at h1; exact h1
      · have h1 := fw_new_ok C' 3 (W := w) k a (asks_dc w0.heap.size C' 1 p n d) (fun w' hb => (hdc h).keep hb (Sam.refl _ _)) hn (by rw [← e]; exact hl)
        rw [← e] at h1; exact h1
end Go.Proofs.YtlojmmcagglpoaaGreat
