/- A PAIR: a ring, the document's ring, the lists that were answered and what they must be; the walks of own, asks. -/
import Derived.Test.YtckhmdeeddjkhaaPlayLists
import Derived.Deep.LoopGhost
import Derived.Deep.CutBlock
namespace Go.Proofs.Ytckhmdeeddjkhaa
open Go.RowKit
structure PR (w : World) (C : Nat → Nat × Nat) (i K g p n f : Nat) (xs q : List Int) (r : Nat) (A : Option Addr) (m c : Nat) (v v' : Value) (vs vs' : List Value) (ls lw : List (List Int)) : Prop where
  blk : Blk w K 35 #[.pointer (some ⟨g, 0, none⟩), .pointer (some ⟨r, 0, none⟩), v, v']
  ring : RG w g p n f xs q
  ref : RF w r n A m c q
  l : LL w C (i, 3) v vs ls
  wt : LL w C (i, 4) v' vs' lw
  cK : C K = (i, 0)
  cg : C g = (i, 1)
  cp : C p = (i, 1)
  cr : C r = (i, 2)
  cA : ∀ k, inA m A k → C k = (i, 2)
  sm : ∀ l ∈ ls, l.length ≤ 64
theorem inA_lt {w : World} {r N m c : Nat} {A : Option Addr} {q : List Int} (h : RF w r N A m c q) : ∀ k, inA m A k → k < w.heap.size := by
  rintro k ⟨hm, ad, e, rfl⟩
  obtain ⟨b, off, e', hb, _⟩ := h.lst.2 hm
  rw [e] at e'
  obtain rfl := Option.some.inj e'
  exact hb
theorem PR.step {S : Nat → Prop} {w w' : World} {C C' : Nat → Nat × Nat} {i K g p n f r m c : Nat} {xs q : List Int} {A : Option Addr} {v v' : Value} {vs vs' : List Value} {ls lw : List (List Int)}
    (h : PR w C i K g p n f xs q r A m c v v' vs vs' ls lw) (hc : Chg S w w') (hs : Sam w.heap.size C C') (hS : ∀ b, S b → (C b).1 ≠ i) : PR w' C' i K g p n f xs q r A m c v v' vs vs' ls lw := by
  have hn : ∀ (b x : Nat), C b = (i, x) → ¬ S b := fun b x e hb => hS b hb (by rw [e])
  refine ⟨h.blk.chg hc (hn _ _ h.cK), h.ring.chg hc (hn _ _ h.cg) (hn _ _ h.cp), h.ref.chg hc (hn _ _ h.cr) (fun k hk => hn _ _ (h.cA k hk)), h.l.step hc hs (fun b hb e => hn b 3 e hb), h.wt.step hc hs (fun b hb e => hn b 4 e hb), ?_, ?_, ?_, ?_, fun k hk => ?_, h.sm⟩
  · rw [hs _ h.blk.lt]; exact h.cK
  · rw [hs _ h.ring.blk.lt]; exact h.cg
  · rw [hs _ h.ring.arr.lt]; exact h.cp
  · rw [hs _ h.ref.blk.lt]; exact h.cr
  · rw [hs _ (inA_lt h.ref k hk)]; exact h.cA k hk
def marked (ls : List (List Int)) : Prop := ∀ (j : Nat) (l : List Int) (k : Nat) (x : Int), ls[j]? = some l → l[k]? = some x → x = -1000 - (j : Int)
theorem own_any (C : Nat → Nat × Nat) (c : Nat × Nat) (A : Option Addr) (cap : Nat) (vs : List Value) (ls : List (List Int)) (w : World) (h : LL w C c (.slice A ls.length cap) vs ls) (hm : marked ls) (hn : ls.length ≤ 1000000000) (hl : ∀ l ∈ ls, l.length ≤ 10000000000) :
    Calls Try.prog 29 #[.slice A ls.length cap] w fun e w' => e = .returned (.bool true) ∧ w = w' := by
  obtain ⟨A', cap', e, hcap, hmx, hg⟩ := h.form
  injection e with e1 _ e2
  subst e1 e2
  have HH := Lib.hid h; have HM := Lib.hid hm; have HL := Lib.hid hl
  have HG := Lib.hid hg
  clear h hm hl hg
  generalize hN : ls.length = N at *
  have HN := Lib.hid hN
  clear hN
  go_enter Try.func29, Try.ntmps29
  go_wp2_with fail
  go_loop [8] (fun iv => ∃ j : Nat, j ≤ N ∧ iv = .int .i64 (j : Int)) (fun iv => N - (intOf iv).toNat)
  case atStart => exact ⟨0, Nat.zero_le _, rfl⟩
  case round =>
    obtain ⟨j, hj, rfl⟩ := hrel
    by_cases hlt : j < N
    · obtain ⟨g, rfl, _, _, hc⟩ := HG.out (by omega)
      obtain ⟨u, l, hu, hul, ho⟩ := HH.out.at_ (j := j) (by rw [HN.out]; exact hlt)
      have cu := hc j u hu
      obtain ⟨B, cb, rfl, hb1, hb2, hri⟩ := ho.form
      have hlm := HL.out l (List.mem_of_getElem? hul)
      have HU := Lib.hid hul; have HR := Lib.hid hri; have HLL := Lib.hid hri.1
      clear hc hu ho hri hul
      generalize hM : l.length = M at *
      clear hM
      go_wp2_with fail
      go_loop [16] (fun iv => ∃ k : Nat, k ≤ M ∧ iv = .int .i64 (k : Int)) (fun iv => M - (intOf iv).toNat)
      case atStart => exact ⟨0, Nat.zero_le _, rfl⟩
      case round =>
        obtain ⟨k, hk, rfl⟩ := hrel
        by_cases hlt2 : k < M
        · obtain ⟨b, off, x, rfl, hx, cx⟩ := HR.out.at_ hlt2
          have hx2 := HM.out j l k x HU.out hx
          subst hx2
          clear hx
          have q1 : IntKind.i64.wrap (-1000 - (j : Int)) = -1000 - (j : Int) := IntWalk.i64_in _ (by omega)
          go_wp2_with fail
          go_round
          case rel => exact ⟨k + 1, by omega, by go_num⟩
          case measure => simp [intOf]; omega
        · obtain rfl : k = M := by omega
          go_wp2_with fail
          go_round
          case rel => exact ⟨j + 1, by omega, by go_num⟩
          case measure => simp [intOf]; omega
    · obtain rfl : j = N := by omega
      go_wp2_with fail
      go_ret
      exact ⟨rfl, rfl⟩
theorem full_any (g p n f : Nat) (xs q : List Int) (w : World) (h : RG w g p n f xs q) :
    Calls Try.prog 19 #[.pointer (some ⟨g, 0, none⟩)] w fun e w' => e = .returned (.bool (decide (q.length = n))) ∧ ∃ m, w' = w.drewN m := by
  by_cases hq : q.length = n
  · rw [decide_eq_true hq]; exact full_yes g p n f xs q w h hq
  · rw [decide_eq_false hq]; exact full_no g p n f xs q w h (by have := h.hq; omega)
theorem quietB {P : Program} {f : FuncId} {args : Array Value} {w : World} {n : Nat} {v : Value} (h : Calls P f args (w.drewN n) fun e w' => e = .returned v ∧ ∃ m, w' = (w.drewN n).drewN m) :
    Calls P f args (w.drewN n) fun e w'' => e = .returned v ∧ ∃ m, w'' = w.drewN m := h.mono fun _ _ ⟨he, m, hm⟩ => ⟨he, n + m, by rw [hm, World.drewN_drewN]⟩
theorem asks_any {C : Nat → Nat × Nat} {i K g p n f r m c : Nat} {xs q : List Int} {A : Option Addr} {v v' : Value} {vs vs' : List Value} {ls lw : List (List Int)} (w : World)
    (h : PR w C i K g p n f xs q r A m c v v' vs vs' ls lw) :
    Calls Try.prog 9 #[.pointer (some ⟨K, 0, none⟩)] w fun e w' => e = .returned (.bool true) ∧ ∃ k, w' = w.drewN k := by
  have c0 : w.cell? ⟨K, 0, none⟩ = some (.pointer (some ⟨g, 0, none⟩)) := h.blk.cell 0
  have c1 : w.cell? ⟨K, 1, none⟩ = some (.pointer (some ⟨r, 0, none⟩)) := h.blk.cell 1
  have d0 : w.cell? ⟨r, 0, none⟩ = some (.int .i64 (n : Int)) := h.ref.blk.cell 0
  have d1 : w.cell? ⟨r, 1, none⟩ = some (.slice A m c) := h.ref.blk.cell 1
  have hm := h.ref.lst.1
  obtain ⟨bv, hbv⟩ : ∃ bv, bv = ((m : Int) == (n : Int)) := ⟨_, rfl⟩
  have hbv2 : decide (m = n) = bv := by
    rw [hbv]
    by_cases e : m = n
    · subst e; simp
    · rw [decide_eq_false e]; symm; rw [beq_eq_false_iff_ne]; omega
  have hlen : ∀ k : Nat, Calls Try.prog 21 #[.pointer (some ⟨g, 0, none⟩)] (w.drewN k) fun e w' => e = .returned (.int .i64 (m : Int)) ∧ w.drewN k = w' := fun k => by
    have := len_any g p n f xs q (w.drewN k) (h.ring.drewN k)
    rwa [hm] at this
  have hful : ∀ k : Nat, Calls Try.prog 19 #[.pointer (some ⟨g, 0, none⟩)] (w.drewN k) fun e w' => e = .returned (.bool bv) ∧ ∃ j, w' = (w.drewN k).drewN j := fun k => by
    have := full_any g p n f xs q (w.drewN k) (h.ring.drewN k)
    rwa [hm, hbv2] at this
  have hb : ((m : Int) == (n : Int)) = bv := hbv.symm
  have hbb : (bv == bv) = true := by simp
  have HL := Lib.hid hlen; have HF := Lib.hid hful
  clear h hm hlen hful hbv hbv2
  go_enter Try.func9, Try.ntmps9
  go_upto_region 1 with fail
  go_quiet ((first | (with_reducible exact quiet (HL.out _)) | (with_reducible exact quietB (HF.out _))))
  go_wp2_with fail
  go_ret
  exact ⟨rfl, nq, rfl⟩
end Go.Proofs.Ytckhmdeeddjkhaa
