/- THE WALKS of the document's Append and Cut (heronref14). -/
import Derived.Test.YtlojmmcagglpoaaGreatURf
import Derived.RegionTactic
namespace Go.Proofs.YtlojmmcagglpoaaGreat
open Go.RowKit Go.Maps
set_option maxRecDepth 20000 in
set_option maxHeartbeats 2000000 in
theorem rmay_any (nm : List UInt8) (w : World) : Calls Tryz.prog 107 #[.string (strB nm)] w fun e w' => e = .returned (.bool (mayB nm)) ∧ w = w' := by
  have hsz : (strB nm).size = nm.length := by simp [strB, ByteArray.size]
  obtain ⟨v, hv⟩ : ∃ v, v = mayB nm := ⟨_, rfl⟩
  rw [← hv]
  have HV := Lib.hid hv
  clear hv
  go_enter Tryz.func107, Tryz.ntmps107
  by_cases h1 : nm.length < 1
  · have hvf : Hid (v = false) := Lib.hid (by rw [HV.out]; unfold mayB; rw [if_neg (by omega)])
    have hi : (nm.length : Int) < 1 := by omega
    go_wp2_with fail
    go_ret
    exact ⟨by rw [hvf.out]; rfl, rfl⟩
  by_cases h2 : 32 < nm.length
  · have hvf : Hid (v = false) := Lib.hid (by rw [HV.out]; unfold mayB; rw [if_neg (by omega)])
    have hi : ¬ (nm.length : Int) < 1 := by omega
    have hi2 : 32 < (nm.length : Int) := by omega
    go_wp2_with fail
    go_ret
    exact ⟨by rw [hvf.out]; rfl, rfl⟩
  have hi : ¬ (nm.length : Int) < 1 := by omega
  have hi2 : ¬ 32 < (nm.length : Int) := by omega
  go_wp2_with fail
  go_loopw [3] (fun s3 W => ∃ k : Nat, s3 = .int .i64 (k : Int) ∧ k ≤ nm.length ∧ Hid (∀ c ∈ nm.take k, ¬ (c = 0 ∨ c = 10)) ∧ w = W) (fun s3 _ => nm.length - (intOf s3).toNat)
  case atStart => exact ⟨0, rfl, Nat.zero_le _, Lib.hid (fun c hc => by simp at hc), rfl⟩
  case round =>
    obtain ⟨k, rfl, hk, HK, rfl⟩ := hrel
    by_cases hlt : k < nm.length
    · have hki : (k : Int) < (nm.length : Int) := by omega
      have hk0 : (0 : Int) ≤ (k : Int) := by omega
      obtain ⟨ch, hch, hnk⟩ : ∃ ch : UInt8, (strB nm)[k]'(by rw [hsz]; exact hlt) = ch ∧ nm[k]? = some ch := ⟨_, rfl, by rw [List.getElem?_eq_getElem hlt]; rfl⟩
      have HNK := Lib.hid hnk
      clear hnk
      by_cases c0 : ch = 0 ∨ ch = 10
      · have hvf : Hid (v = false) := Lib.hid (by
          rw [HV.out]; unfold mayB
          rw [if_neg (fun h => h.2.2 ch (List.mem_of_getElem? HNK.out) c0)])
        by_cases c1 : ch.toNat = 0
        · clear c0
          go_wp2_with fail
          go_ret
          exact ⟨by rw [hvf.out]; rfl, rfl⟩
        · have c2 : ch.toNat = 10 := by
            rcases c0 with e | e
            · exact absurd (by rw [e]; rfl) c1
            · rw [e]; rfl
          have c2' : ((ch.toNat : Int) == 10) = true := by rw [c2]; rfl
          clear c0 c2
          go_wp2_with fail
          go_ret
          exact ⟨by rw [hvf.out]; rfl, rfl⟩
      · have c1 : ¬ ch.toNat = 0 := fun e => c0 (.inl (UInt8.toNat_inj.1 e))
        have c2 : ¬ ch.toNat = 10 := fun e => c0 (.inr (UInt8.toNat_inj.1 e))
        have HK2 : Hid (∀ c ∈ nm.take (k + 1), ¬ (c = 0 ∨ c = 10)) := Lib.hid (fun c hc => by
          rw [take_snoc HNK.out] at hc
          rcases List.mem_append.1 hc with h | h
          · exact HK.out c h
          · rw [List.mem_singleton.1 h]; exact c0)
        have c1' : ((ch.toNat : Int) == 0) = false := by rw [beq_eq_false_iff_ne]; omega
        have c2' : ((ch.toNat : Int) == 10) = false := by rw [beq_eq_false_iff_ne]; omega
        have hk3 : (k : Int) ≤ 32 := by omega
        clear c0
        go_wp2_with fail
        go_roundw
        case rel => exact ⟨k + 1, by go_num, by omega, HK2, trivial⟩
        case measure => simp [intOf]; omega
    · obtain rfl : k = nm.length := by omega
      have hvt : Hid (v = true) := Lib.hid (by
        rw [HV.out]; unfold mayB
        rw [if_pos ⟨by omega, by omega, fun c hc => HK.out c (by rw [List.take_length]; exact hc)⟩])
      go_wp2_with fail
      go_ret
      exact ⟨by rw [hvt.out]; rfl, rfl⟩
end Go.Proofs.YtlojmmcagglpoaaGreat
namespace Go.Proofs.YtlojmmcagglpoaaGreat
open Go.RowKit Go.Maps
def Rd.fresh (r : Rd) (nm : List UInt8) (k : Nat) : Prop := ∀ j x, j < k → r.ns[j]? = some x → x.nm ≠ nm
def Rd.pos (r : Rd) (nm : List UInt8) : Nat := (r.ns.findIdx? (fun x => x.nm == nm)).getD r.ns.length
theorem Rd.pos_at {r : Rd} {nm : List UInt8} {k : Nat} {x : Rn} (hk : r.ns[k]? = some x) (hx : x.nm = nm) (hf : r.fresh nm k) : r.pos nm = k := by
  obtain ⟨hl, he⟩ := List.getElem?_eq_some_iff.1 hk
  have : r.ns.findIdx? (fun x => x.nm == nm) = some k := by
    rw [List.findIdx?_eq_some_iff_getElem]
    refine ⟨hl, by rw [he, hx]; simp, fun j hj => ?_⟩
    have := hf j _ hj (List.getElem?_eq_getElem (by omega))
    simpa using this
  unfold Rd.pos
  rw [this]; rfl
theorem Rd.pos_none {r : Rd} {nm : List UInt8} (hf : r.fresh nm r.ns.length) : r.pos nm = r.ns.length := by
  have : r.ns.findIdx? (fun x => x.nm == nm) = none := by
    rw [List.findIdx?_eq_none_iff]
    intro x hx
    obtain ⟨j, hj⟩ := List.getElem?_of_mem hx
    have := hf j x (List.getElem?_eq_some_iff.1 hj).1 hj
    simpa using this
  unfold Rd.pos
  rw [this]; rfl
def Rd.file (r : Rd) (nm : List UInt8) : Nat := match r.ns[r.pos nm]? with
  | some x => x.ino
  | none => 0
theorem Rd.fresh_succ {r : Rd} {nm : List UInt8} {k : Nat} {x : Rn} (h : r.fresh nm k) (hk : r.ns[k]? = some x) (hx : x.nm ≠ nm) : r.fresh nm (k + 1) := fun j y hj hy => by
  rcases Nat.lt_succ_iff_lt_or_eq.1 hj with h1 | rfl
  · exact h j y h1 hy
  · rw [hk] at hy
    obtain rfl := Option.some.inj hy
    exact hx
theorem Rd.fresh_zero (r : Rd) (nm : List UInt8) : r.fresh nm 0 := fun _ _ h => absurd h (Nat.not_lt_zero _)
theorem strB_eq {a b : List UInt8} : ((strB a).toList == (strB b).toList) = decide (a = b) := by
  rw [ByteArray.toList_eq, ByteArray.toList_eq]
  simp only [strB]
  by_cases h : a = b
  · simp [h]
  · simp [h]
set_option maxRecDepth 20000 in
set_option maxHeartbeats 2000000 in
theorem rfile_any {W : World} {N : Nat} {C : Nat → Nat} {c p : Nat} {r : Rd} (h : RC W N C c p r) (hn : r.ns.length ≤ 1000000) (nm : List UInt8) : Calls Tryz.prog 108 #[.pointer (some ⟨p, 0, none⟩), .string (strB nm)] W fun e w' => e = .returned (.int .i64 (r.file nm : Int)) ∧ W = w' := by
  obtain ⟨us, vi, vn, hw⟩ := h
  obtain ⟨A, cap, rfl, hc1, hc2, hA⟩ := hw.fn
  have HW := Lib.hid hw
  obtain ⟨n, hnn⟩ : ∃ n, n = r.ns.length := ⟨_, rfl⟩
  have q1 : W.cell? ⟨p, 1, none⟩ = some (.slice A n cap) := (hw.bd.cell 1).trans (by rw [hnn]; rfl)
  rw [← hnn] at hn hc1 hA
  have HN := Lib.hid hnn
  obtain ⟨v, hv⟩ : ∃ v, v = r.file nm := ⟨_, rfl⟩
  rw [← hv]
  have HV := Lib.hid hv
  clear hw hnn hv
  go_enter Tryz.func108, Tryz.ntmps108
  go_wp2_with fail
  go_loopw [5] (fun s5 w => ∃ k : Nat, s5 = .int .i64 (k : Int) ∧ k ≤ n ∧ Hid (r.fresh nm k) ∧ W = w) (fun s5 _ => n - (intOf s5).toNat)
  case atStart => exact ⟨0, rfl, Nat.zero_le _, Lib.hid (Rd.fresh_zero r nm), rfl⟩
  case round =>
    obtain ⟨k, rfl, hk, HF, rfl⟩ := hrel
    by_cases hlt : k < n
    · have hki : (k : Int) < (n : Int) := by omega
      have hk0 : (0 : Int) ≤ (k : Int) := by omega
      have hk3 : (k : Int) ≤ 1000000 := by omega
      obtain ⟨g, rfl⟩ := hA (by omega)
      obtain ⟨x, hx⟩ : ∃ x, r.ns[k]? = some x := ⟨_, List.getElem?_eq_getElem (by have := HN.out; omega)⟩
      obtain ⟨_, c0, _, c2⟩ := HW.out.cn_at hx
      have HX := Lib.hid hx
      clear hx
      by_cases e : x.nm = nm
      · have he : ((strB x.nm).toList == (strB nm).toList) = true := by rw [strB_eq, decide_eq_true e]
        have hvv : Hid (v = x.ino) := Lib.hid (by rw [HV.out]; unfold Rd.file; rw [Rd.pos_at HX.out e HF.out, HX.out])
        clear e
        go_wp2_with fail
        go_ret
        exact ⟨by rw [hvv.out]; rfl, rfl⟩
      · have he : ((strB x.nm).toList == (strB nm).toList) = false := by rw [strB_eq, decide_eq_false e]
        have HF2 := Lib.hid (Rd.fresh_succ HF.out HX.out e)
        clear e
        go_wp2_with fail
        go_roundw
        case rel => exact ⟨k + 1, by go_num, by omega, HF2, trivial⟩
        case measure => simp [intOf]; omega
    · obtain rfl : k = n := by omega
      have hvv : Hid (v = 0) := Lib.hid (by rw [HV.out]; unfold Rd.file; rw [Rd.pos_none (by rw [← HN.out]; exact HF.out), List.getElem?_eq_none (Nat.le_refl _)])
      go_wp2_with fail
      go_ret
      exact ⟨by rw [hvv.out]; rfl, rfl⟩
noncomputable def Rd.there (r : Rd) (nm : List UInt8) : Int × Int := if mayB nm = true then (if r.file nm = 0 then (0, 141) else ((r.file nm : Int), 0)) else (0, 140)
set_option maxRecDepth 20000 in
theorem rthere_any {W : World} {N : Nat} {C : Nat → Nat} {c p : Nat} {r : Rd} (h : RC W N C c p r) (hn : r.ns.length ≤ 1000000) (nm : List UInt8) : Calls Tryz.prog 99 #[.pointer (some ⟨p, 0, none⟩), .string (strB nm)] W fun e w' => e = .returned (.tuple #[.int .i64 (r.there nm).1, .int .i64 (r.there nm).2]) ∧ W = w' := by
  have CM := Lib.hid (rmay_any nm W)
  have CF := Lib.hid (rfile_any h hn nm)
  obtain ⟨⟨t1, t2⟩, ht⟩ : ∃ t, t = r.there nm := ⟨_, rfl⟩
  rw [← ht]
  simp only
  unfold Rd.there at ht
  obtain ⟨f, hf⟩ : ∃ f, f = r.file nm := ⟨_, rfl⟩
  rw [← hf] at CF ht
  have HT := Lib.hid ht
  clear h hn hf ht
  go_enter Tryz.func99, Tryz.ntmps99
  go_wp2_with fail
  refine CM.out.mono ?_
  rintro e w2 ⟨rfl, rfl⟩
  cases hm : mayB nm with
  | false =>
    have HE : Hid (t1 = 0 ∧ t2 = 140) := Lib.hid (by
      have h1 := HT.out
      rw [if_neg (by rw [hm]; decide)] at h1
      exact ⟨congrArg Prod.fst h1, congrArg Prod.snd h1⟩)
    clear CM CF
    go_wp2_with fail
    go_ret2
    exact ⟨by rw [HE.out.1, HE.out.2]; rfl, rfl⟩
  | true =>
    have HE : Hid ((t1, t2) = if f = 0 then (0, 141) else ((f : Int), 0)) := Lib.hid (by
      have h1 := HT.out
      rw [if_pos hm] at h1
      exact h1)
    clear CM hm
    go_wp2_with fail
    refine CF.out.mono ?_
    rintro e w2 ⟨rfl, rfl⟩
    by_cases h0 : f = 0
    · have HE2 : Hid (t1 = 0 ∧ t2 = 141) := Lib.hid (by
        have h1 := HE.out
        rw [if_pos h0] at h1
        exact ⟨congrArg Prod.fst h1, congrArg Prod.snd h1⟩)
      subst h0
      go_wp2_with fail
      go_ret2
      exact ⟨by rw [HE2.out.1, HE2.out.2]; rfl, rfl⟩
    · have HE2 : Hid (t1 = (f : Int) ∧ t2 = 0) := Lib.hid (by
        have h1 := HE.out
        rw [if_neg h0] at h1
        exact ⟨congrArg Prod.fst h1, congrArg Prod.snd h1⟩)
      have hi : ((f : Int) == 0) = false := by rw [beq_eq_false_iff_ne]; omega
      go_wp2_with fail
      go_ret2
      exact ⟨by rw [HE2.out.1, HE2.out.2]; rfl, rfl⟩
end Go.Proofs.YtlojmmcagglpoaaGreat
namespace Go.Proofs.YtlojmmcagglpoaaGreat
open Go.RowKit Go.Maps
section
variable {W W1 w5 : World} {N : Nat} {C : Nat → Nat} {c p : Nat} {us : List (Value × Ri)} {vi vn v5 : Value} {r : Rd}
theorem RW.app_n (h : RW W N C c p us vi vn r) (hb1 : Below W.heap.size W W1) {x : Rn} (ho : w5.ownsRow N 188 3 v5 (r.ns.length + 1) (r.ns.flatMap rnC ++ rnC x)) (hg : W1.grownBy w5 vn.ownBlock) (ha : v5.ownBlock = vn.ownBlock ∨ v5.ownBlock = some W1.heap.size) :
    RW (w5.setCell ⟨p, 1, none⟩ v5) N (paint C W.heap.size c) c p us vi v5 ⟨r.is, r.ns ++ [x]⟩ ∧ Chg (fun b => C b = c) W (w5.setCell ⟨p, 1, none⟩ v5) := by
  have hc1 : Chg (fun b => vn.ownBlock = some b) W w5 := (Chg.of_below hb1 _).grown hg (fun k hk _ => hk)
  have hbd : Blk w5 p 47 #[vi, vn] := h.bd.chg hc1 (h.bd.apart h.rn (by decide))
  have hc2 : Chg (fun b => vn.ownBlock = some b ∨ b = p) W (w5.setCell ⟨p, 1, none⟩ v5) := (hc1.mono (fun _ _ e => .inl e)).setCell (p := ⟨p, 1, none⟩) (.inl (.inr rfl)) _
  have hsam := sam_paint C W.heap.size c
  have hpne : ∀ {base size n : Nat} {e : TypeId} {v : Value} {xs : List Value}, W.ownsRow base e size v n xs → e ≠ 47 → v.ownBlock ≠ some p := fun ho he => h.bd.apart ho he
  have hp5 : v5.ownBlock ≠ some p := by
    rcases ha with e | e
    · rw [e]; exact hpne h.rn (by decide)
    · rw [e]; intro e2
      have := h.bd.lt
      have := hb1.size
      injection e2 with e2
      omega
  refine ⟨⟨h.is, hbd.set_ 1 v5, hc2.own h.ri (fun k hk e => ?_), ?_, fun k u hu => hc2.own (h.ob k u hu) (fun q hq e => ?_), h.ap, h.lo, by rw [hsam p h.bd.lt]; exact h.cp, fun g hg' => by rw [hsam g (h.ri.lt g hg').2]; exact h.ci g hg', fun g hg' => ?_, fun k u g hu hg' => by rw [hsam g ((h.ob k u hu).lt g hg').2]; exact h.cu k u g hu hg'⟩, hc2.mono (fun b _ e => ?_)⟩
  · rcases e with e | e
    · rcases own_apart h.ri h.rn (by decide) with h1 | h1
      · rw [h1] at hk; cases hk
      · rw [hk, e] at h1; exact h1 rfl
    · exact hpne h.ri (by decide) (by rw [hk, e])
  · have := (Chg.setCell (S := fun b => b = p) (p := ⟨p, 1, none⟩) (Chg.refl _ w5) (.inl rfl) v5).own ho (fun k hk e => hp5 (by rw [hk, e]))
    show World.ownsRow _ N _ 3 _ (r.ns ++ [x]).length _
    rw [List.length_append, flat_snocR]
    exact this
  · rcases e with e | e
    · rcases own_apart (h.ob k u hu) h.rn (by decide) with h1 | h1
      · rw [h1] at hq; cases hq
      · rw [hq, e] at h1; exact h1 rfl
    · exact hpne (h.ob k u hu) (by decide) (by rw [hq, e])
  · rcases ha with e | e
    · rw [e] at hg'
      rw [hsam g (h.rn.lt g hg').2]; exact h.cn g hg'
    · rw [e] at hg'
      injection hg' with hg'
      exact paint_new C c (by have := hb1.size; omega)
  · rcases e with e | e
    · exact h.cn b e
    · rw [e]; exact h.cp
theorem RW.app_i (h : RW W N C c p us vi vn r) (hb1 : Below W.heap.size W W1) (ho : w5.ownsRow N 186 4 v5 (us.length + 1) (us.flatMap riC ++ riC (.slice none 0 0, ⟨[], 0, 0, false⟩))) (hg : W1.grownBy w5 vi.ownBlock) (ha : v5.ownBlock = vi.ownBlock ∨ v5.ownBlock = some W1.heap.size) :
    RW (w5.setCell ⟨p, 0, none⟩ v5) N (paint C W.heap.size c) c p (us ++ [(.slice none 0 0, ⟨[], 0, 0, false⟩)]) v5 vn ⟨r.is ++ [⟨[], 0, 0, false⟩], r.ns⟩ ∧ Chg (fun b => C b = c) W (w5.setCell ⟨p, 0, none⟩ v5) := by
  have hc1 : Chg (fun b => vi.ownBlock = some b) W w5 := (Chg.of_below hb1 _).grown hg (fun k hk _ => hk)
  have hbd : Blk w5 p 47 #[vi, vn] := h.bd.chg hc1 (h.bd.apart h.ri (by decide))
  have hc2 : Chg (fun b => vi.ownBlock = some b ∨ b = p) W (w5.setCell ⟨p, 0, none⟩ v5) := (hc1.mono (fun _ _ e => .inl e)).setCell (p := ⟨p, 0, none⟩) (.inl (.inr rfl)) _
  have hsam := sam_paint C W.heap.size c
  have hpne : ∀ {base size n : Nat} {e : TypeId} {v : Value} {xs : List Value}, W.ownsRow base e size v n xs → e ≠ 47 → v.ownBlock ≠ some p := fun ho he => h.bd.apart ho he
  have hp5 : v5.ownBlock ≠ some p := by
    rcases ha with e | e
    · rw [e]; exact hpne h.ri (by decide)
    · rw [e]; intro e2
      have := h.bd.lt
      have := hb1.size
      injection e2 with e2
      omega
  have key : ∀ (i : Nat) (u : Value × Ri), (us ++ [(Value.slice none 0 0, (⟨[], 0, 0, false⟩ : Ri))])[i]? = some u → us[i]? = some u ∨ u = (.slice none 0 0, ⟨[], 0, 0, false⟩) := fun i u hi => by
    by_cases hs : i < us.length
    · rw [List.getElem?_append_left hs] at hi; exact .inl hi
    · rw [List.getElem?_append_right (by omega)] at hi
      have hs0 : i - us.length = 0 := by have := (List.getElem?_eq_some_iff.1 hi).1; simp at this; omega
      rw [hs0] at hi
      simp at hi
      exact .inr hi.symm
  refine ⟨⟨by rw [List.map_append, h.is]; rfl, hbd.set_ 0 v5, ?_, hc2.own h.rn (fun k hk e => ?_), fun k u hu => ?_, fun i j u u' g hi hj hgi hgj => ?_, h.lo, by rw [hsam p h.bd.lt]; exact h.cp, fun g hg' => ?_, fun g hg' => by rw [hsam g (h.rn.lt g hg').2]; exact h.cn g hg', fun k u g hu hg' => ?_⟩, hc2.mono (fun b _ e => ?_)⟩
  · have := (Chg.setCell (S := fun b => b = p) (p := ⟨p, 0, none⟩) (Chg.refl _ w5) (.inl rfl) v5).own ho (fun k hk e => hp5 (by rw [hk, e]))
    rw [List.length_append, flat_snocR]
    exact this
  · rcases e with e | e
    · rcases own_apart h.rn h.ri (by decide) with h1 | h1
      · rw [h1] at hk; cases hk
      · rw [hk, e] at h1; exact h1 rfl
    · exact hpne h.rn (by decide) (by rw [hk, e])
  · rcases key k u hu with h0 | rfl
    · refine hc2.own (h.ob k u h0) (fun q hq e => ?_)
      rcases e with e | e
      · rcases own_apart (h.ob k u h0) h.ri (by decide) with h1 | h1
        · rw [h1] at hq; cases hq
        · rw [hq, e] at h1; exact h1 rfl
      · exact hpne (h.ob k u h0) (by decide) (by rw [hq, e])
    · exact OB.nil _ _
  · rcases key i u hi with h0 | rfl
    · rcases key j u' hj with h1 | rfl
      · exact h.ap i j u u' g h0 h1 hgi hgj
      · cases hgj
    · cases hgi
  · rcases ha with e | e
    · rw [e] at hg'
      rw [hsam g (h.ri.lt g hg').2]; exact h.ci g hg'
    · rw [e] at hg'
      injection hg' with hg'
      exact paint_new C c (by have := hb1.size; omega)
  · rcases key k u hu with h0 | rfl
    · rw [hsam g ((h.ob k u h0).lt g hg').2]; exact h.cu k u g h0 hg'
    · cases hg'
  · rcases e with e | e
    · exact h.ci b e
    · rw [e]; exact h.cp
theorem RW.put_b {g n cap : Nat} (h : RW W N C c p us (.slice (some ⟨g, 0, none⟩) n cap) vn r) {k : Nat} {u : Value × Ri} (hk : us[k]? = some u) {l : List UInt8} (ho : OB w5 N v5 l) (hg : W.grownBy w5 u.1.ownBlock) (ha : ∀ q, v5.ownBlock = some q → u.1.ownBlock = some q ∨ W.heap.size ≤ q) :
    RW (w5.setCell ⟨g, k * 4, none⟩ v5) N (paint C W.heap.size c) c p (us.set k (v5, { u.2 with b := l })) (.slice (some ⟨g, 0, none⟩) n cap) vn ⟨r.is.set k { u.2 with b := l }, r.ns⟩ ∧ Chg (fun b => C b = c) W (w5.setCell ⟨g, k * 4, none⟩ v5) := by
  have hn : n = us.length := by
    obtain ⟨A, cap', e, _⟩ := h.fi
    injection e
  subst hn
  have hu := h.ob k u hk
  have hc1 : Chg (fun b => u.1.ownBlock = some b) W w5 := (Chg.refl _ W).grown hg (fun q hq _ => hq)
  have hgu : u.1.ownBlock ≠ some g := fun e => by
    rcases own_apart hu h.ri (by decide) with h1 | h1
    · rw [h1] at e; cases e
    · rw [e] at h1; exact h1 rfl
  have hglt : g < W.heap.size := (h.ri.lt g rfl).2
  have hri5 := hc1.own h.ri (fun q hq e => by injection hq with hq; rw [← hq] at e; exact hgu e)
  have hc2 : Chg (fun b => u.1.ownBlock = some b ∨ b = g) W (w5.setCell ⟨g, k * 4, none⟩ v5) := (hc1.mono (fun _ _ e => .inl e)).setCell (p := ⟨g, k * 4, none⟩) (.inl (.inr rfl)) _
  have hsam := sam_paint C W.heap.size c
  have h5g : v5.ownBlock ≠ some g := fun e => by
    rcases ha g e with h1 | h1
    · exact hgu h1
    · omega
  have hpu : p ≠ g := fun e => h.bd.apart h.ri (by decide) (by rw [e]; rfl)
  have key : ∀ (i : Nat) (u' : Value × Ri), (us.set k (v5, { u.2 with b := l }))[i]? = some u' → (i = k ∧ u' = (v5, { u.2 with b := l })) ∨ (i ≠ k ∧ us[i]? = some u') := fun i u' hi => by
    by_cases e : i = k
    · subst e
      rw [List.getElem?_set_self (List.getElem?_eq_some_iff.1 hk).1] at hi
      exact .inl ⟨rfl, (Option.some.inj hi).symm⟩
    · rw [List.getElem?_set_ne (fun e2 => e e2.symm)] at hi
      exact .inr ⟨e, hi⟩
  have far : ∀ (i : Nat) (u' : Value × Ri), i ≠ k → us[i]? = some u' → ∀ q, u'.1.ownBlock = some q → ¬ (u.1.ownBlock = some q ∨ q = g) := fun i u' hne hi q hq e => by
    rcases e with e | e
    · exact hne (h.ap i k u' u q hi hk hq e)
    · rcases own_apart (h.ob i u' hi) h.ri (by decide) with h1 | h1
      · rw [h1] at hq; cases hq
      · rw [hq, e] at h1; exact h1 rfl
  refine ⟨⟨by rw [List.map_set, h.is], h.bd.chg hc2 (fun e => ?_), ?_, hc2.own h.rn (fun q hq e => ?_), fun i u' hi => ?_, fun i j u' u'' q hi hj hq hq' => ?_, h.lo, by rw [hsam p h.bd.lt]; exact h.cp, fun q hq => by rw [hsam q (h.ri.lt q hq).2]; exact h.ci q hq, fun q hq => by rw [hsam q (h.rn.lt q hq).2]; exact h.cn q hq, fun i u' q hi hq => ?_⟩, hc2.mono (fun b _ e => ?_)⟩
  · rcases e with e | e
    · exact h.bd.apart hu (by decide) e
    · exact hpu e
  · have := own_put riC_len hri5 hk (j := 0) (u := v5) (y := (v5, { u.2 with b := l })) (by decide) rfl
    rw [List.length_set]
    exact this
  · rcases e with e | e
    · rcases own_apart h.rn hu (by decide) with h1 | h1
      · rw [h1] at hq; cases hq
      · rw [hq, e] at h1; exact h1 rfl
    · rcases own_apart h.rn h.ri (by decide) with h1 | h1
      · rw [h1] at hq; cases hq
      · rw [hq, e] at h1; exact h1 rfl
  · rcases key i u' hi with ⟨_, rfl⟩ | ⟨hne, h0⟩
    · exact (Chg.setCell (S := fun b => b = g) (p := ⟨g, k * 4, none⟩) (Chg.refl _ w5) (.inl rfl) v5).own ho (fun q hq e => h5g (by rw [hq, e]))
    · exact hc2.own (h.ob i u' h0) (far i u' hne h0)
  · have old : ∀ (i' : Nat) (x : Value × Ri), i' ≠ k → us[i']? = some x → x.1.ownBlock = some q → v5.ownBlock = some q → False := fun i' x hne h0 h1 h2 => by
      rcases ha q h2 with h3 | h3
      · exact hne (h.ap i' k x u q h0 hk h1 h3)
      · have := ((h.ob i' x h0).lt q h1).2; omega
    rcases key i u' hi with ⟨e1, rfl⟩ | ⟨e1, h0⟩ <;> rcases key j u'' hj with ⟨e2, rfl⟩ | ⟨e2, h1⟩
    · omega
    · exact (old j u'' e2 h1 hq' hq).elim
    · exact (old i u' e1 h0 hq hq').elim
    · exact h.ap i j u' u'' q h0 h1 hq hq'
  · rcases key i u' hi with ⟨e1, rfl⟩ | ⟨e1, h0⟩
    · rcases ha q hq with h3 | h3
      · rw [hsam q (hu.lt q h3).2]; exact h.cu k u q hk h3
      · exact paint_new C c h3
    · rw [hsam q ((h.ob i u' h0).lt q hq).2]; exact h.cu i u' q h0 hq
  · rcases e with e | e
    · exact h.cu k u b hk e
    · rw [e]; exact h.ci g rfl
end
end Go.Proofs.YtlojmmcagglpoaaGreat
namespace Go.Proofs.YtlojmmcagglpoaaGreat
open Go.RowKit Go.Maps
def Rd.ated (r : Rd) (nm : List UInt8) : Rd := if r.pos nm < r.ns.length then r else ⟨r.is, r.ns ++ [⟨nm, 0, 0⟩]⟩
theorem RStepQ.same {W w' : World} {N : Nat} {C : Nat → Nat} {c p : Nat} {v : Value} {r : Rd} {e : Ending} (h : RC W N C c p r) (he : e = .returned v) (hb : Below W.heap.size W w') : RStepQ W N C c p v r e w' :=
  ⟨he, h.keep hb (sam_paint _ _ _), Chg.of_below hb _⟩
set_option maxRecDepth 20000 in
set_option maxHeartbeats 2000000 in
theorem rat_any {W : World} {N : Nat} {C : Nat → Nat} {c p : Nat} {r : Rd} (h : RC W N C c p r) (hN : N ≤ W.heap.size) (hn : r.ns.length ≤ 1000000) (nm : List UInt8) : Calls Tryz.prog 100 #[.pointer (some ⟨p, 0, none⟩), .string (strB nm)] W (RStepQ W N C c p (.int .i64 (r.pos nm : Int)) (r.ated nm)) := by
  have H := Lib.hid h
  obtain ⟨us, vi, vn, hw⟩ := h
  obtain ⟨A, cap, rfl, hc1, hc2, hA⟩ := hw.fn
  have HW := Lib.hid hw
  obtain ⟨n, hnn⟩ : ∃ n, n = r.ns.length := ⟨_, rfl⟩
  have q1 : W.cell? ⟨p, 1, none⟩ = some (.slice A n cap) := (hw.bd.cell 1).trans (by rw [hnn]; rfl)
  rw [← hnn] at hn hc1 hA
  have HN := Lib.hid hnn
  have HNN := Lib.hid hN
  obtain ⟨v, hv⟩ : ∃ v, v = r.pos nm := ⟨_, rfl⟩
  rw [← hv]
  have HV := Lib.hid hv
  have O0 : Hid (W.ownsRow N 188 3 (.slice A n cap) n (r.ns.flatMap rnC)) := Lib.hid (by have := hw.rn; rw [← hnn] at this; exact this)
  clear hw hnn hv hN
  go_enter Tryz.func100, Tryz.ntmps100
  go_wp2_with fail
  go_loopw [5] (fun s5 w => ∃ k : Nat, s5 = .int .i64 (k : Int) ∧ k ≤ n ∧ Hid (r.fresh nm k) ∧ W = w) (fun s5 _ => n - (intOf s5).toNat)
  case atStart => exact ⟨0, rfl, Nat.zero_le _, Lib.hid (Rd.fresh_zero r nm), rfl⟩
  case round =>
    obtain ⟨k, rfl, hk, HF, rfl⟩ := hrel
    by_cases hlt : k < n
    · have hki : (k : Int) < (n : Int) := by omega
      have hk0 : (0 : Int) ≤ (k : Int) := by omega
      have hk3 : (k : Int) ≤ 1000000 := by omega
      obtain ⟨g, rfl⟩ := hA (by omega)
      obtain ⟨x, hx⟩ : ∃ x, r.ns[k]? = some x := ⟨_, List.getElem?_eq_getElem (by have := HN.out; omega)⟩
      obtain ⟨_, c0, _, _⟩ := HW.out.cn_at hx
      have HX := Lib.hid hx
      clear hx
      by_cases e : x.nm = nm
      · have he : ((strB x.nm).toList == (strB nm).toList) = true := by rw [strB_eq, decide_eq_true e]
        have hvv : Hid (v = k) := Lib.hid (by rw [HV.out, Rd.pos_at HX.out e HF.out])
        have HE : Hid (RStepQ W N C c p (.int .i64 (v : Int)) (r.ated nm) (.returned (.int .i64 (k : Int))) W) := Lib.hid (by
          have e1 : r.ated nm = r := by unfold Rd.ated; rw [if_pos (by rw [← HV.out, hvv.out]; have := HN.out; omega)]
          rw [e1]
          exact RStepQ.same H.out (by rw [hvv.out]) (Below.refl _ _))
        clear e
        go_wp2_with fail
        go_ret
        exact HE.out
      · have he : ((strB x.nm).toList == (strB nm).toList) = false := by rw [strB_eq, decide_eq_false e]
        have HF2 := Lib.hid (Rd.fresh_succ HF.out HX.out e)
        clear e
        go_wp2_with fail
        go_roundw
        case rel => exact ⟨k + 1, by go_num, by omega, HF2, trivial⟩
        case measure => simp [intOf]; omega
    · obtain rfl : k = n := by omega
      have hvv : Hid (v = k) := Lib.hid (by rw [HV.out, Rd.pos_none (by rw [← HN.out]; exact HF.out), HN.out])
      have B1 := Lib.hid (show Below W.heap.size W (W.alloc (.cells #[.string (strB nm), .int .i64 0, .int .i64 0] 188)) from (Below.refl _ _).alloc (Nat.le_refl _) _)
      have N4 := Lib.hid (news_at (Blk.new W 188 #[.string (strB nm), .int .i64 0, .int .i64 0] rfl))
      have O4 := Lib.hid (World.ownsRow.alloc O0.out (.cells #[.string (strB nm), .int .i64 0, .int .i64 0] 188))
      go_wp2_with ((at_builtin; go_must (refine append_row rfl (.tmp 30) (.tmp 33) 45 188 rfl Tryz.underlying45 infoRn rfl (by decide) N (.slice A k cap) k (r.ns.flatMap rnC) rfl O4.out (some ⟨W.heap.size, 0, none⟩) 1 1 [.string (strB nm), .int .i64 0, .int .i64 0] rfl rfl (fun e => by cases e) N4.out (fun u hu => by simp only [List.mem_cons, List.not_mem_nil, or_false] at hu; rcases hu with rfl | rfl | rfl <;> rfl) (by omega) (by unfold maxLen; omega) (Nat.le_trans HNN.out B1.out.size) ?_); intro v5 w5 ho5 hg5 ha5; refine halt ?_))
      refine unhalt ?_
      have ho6 : w5.ownsRow N 188 3 v5 (r.ns.length + 1) (r.ns.flatMap rnC ++ rnC ⟨nm, 0, 0⟩) := by rw [← HN.out]; exact ho5
      have hv2 : (Value.slice A k cap) = .slice A r.ns.length cap := by rw [HN.out]
      have hrw := HW.out.app_n B1.out ho6 (by rw [← hv2]; exact hg5) (by rw [← hv2]; exact ha5)
      have hbd : Blk w5 p 47 #[vi, .slice A r.ns.length cap] := HW.out.bd.chg ((Chg.of_below B1.out (fun b => (Value.slice A r.ns.length cap).ownBlock = some b)).grown (by rw [← hv2]; exact hg5) (fun q hq _ => hq)) (HW.out.bd.apart HW.out.rn (by decide))
      obtain ⟨A5, cap5, hv5, _⟩ := own_form ho5
      subst hv5
      have z1 : w5.cell? ⟨p, 1, none⟩ = some (.slice A r.ns.length cap) := (hbd.cell 1).trans rfl
      have f1 := hbd.frozen 1
      have HE : Hid (RStepQ W N C c p (.int .i64 (v : Int)) (r.ated nm) (.returned (.int .i64 (k : Int))) (w5.setCell ⟨p, 1, none⟩ (.slice A5 (k + 1) cap5))) := Lib.hid (by
        have e1 : r.ated nm = ⟨r.is, r.ns ++ [⟨nm, 0, 0⟩]⟩ := by unfold Rd.ated; rw [if_neg (by rw [← HV.out, hvv.out]; have := HN.out; omega)]
        rw [e1]
        exact ⟨by rw [hvv.out], ⟨us, vi, _, hrw.1⟩, hrw.2⟩)
      have K6 := Lib.hid (hbd.set_ 1 (.slice A5 (k + 1) cap5))
      clear ho5 ho6 hg5 ha5 hrw hbd hv2 N4 O4 O0 B1 q1
      go_upto_region 7 with fail
      obtain ⟨w6, hw6⟩ : ∃ w6, w6 = w5.setCell ⟨p, 1, none⟩ (.slice A5 (k + 1) cap5) := ⟨_, rfl⟩
      rw [← hw6] at HE K6 ⊢
      have z2 : w6.cell? ⟨p, 1, none⟩ = some (.slice A5 (k + 1) cap5) := (K6.out.cell 1).trans rfl
      clear hw6 z1 f1
      go_wp2_with fail
      go_ret
      have e2 : (((k + 1 : Nat) : Int)) - 1 = (k : Int) := by omega
      first
        | exact HE.out
        | (simp only [Int.natCast_add, Int.natCast_one, Int.add_sub_cancel]; exact HE.out)
def Rd.has (r : Rd) (nm : List UInt8) (n : Nat) : Rd := match (r.ated nm).ns[r.pos nm]? with
  | some x => ⟨r.is, (r.ated nm).ns.set (r.pos nm) ⟨x.nm, x.se + 1, n⟩⟩
  | none => r
theorem Rd.ated_is (r : Rd) (nm : List UInt8) : (r.ated nm).is = r.is := by unfold Rd.ated; split <;> rfl
theorem Rd.pos_le (r : Rd) (nm : List UInt8) : r.pos nm ≤ r.ns.length := by
  unfold Rd.pos
  cases h : r.ns.findIdx? (fun x => x.nm == nm) with
  | none => exact Nat.le_refl _
  | some i =>
    have := (List.findIdx?_eq_some_iff_getElem.1 h).1
    show i ≤ _
    omega
theorem Rd.ated_at (r : Rd) (nm : List UInt8) : ∃ x, (r.ated nm).ns[r.pos nm]? = some x ∧ x.nm = nm ∧ (x = ⟨nm, 0, 0⟩ ∨ r.ns[r.pos nm]? = some x) := by
  unfold Rd.ated
  by_cases h : r.pos nm < r.ns.length
  · rw [if_pos h]
    refine ⟨r.ns[r.pos nm], List.getElem?_eq_getElem h, ?_, .inr (List.getElem?_eq_getElem h)⟩
    cases hq : r.ns.findIdx? (fun x => x.nm == nm) with
    | none =>
      have : r.pos nm = r.ns.length := by unfold Rd.pos; rw [hq]; rfl
      omega
    | some i =>
      have e : r.pos nm = i := by unfold Rd.pos; rw [hq]; rfl
      have h2 := (List.findIdx?_eq_some_iff_getElem.1 hq).2.1
      simp only [e]
      simpa using h2
  · rw [if_neg h]
    have e : r.pos nm = r.ns.length := by have := r.pos_le nm; omega
    refine ⟨⟨nm, 0, 0⟩, ?_, rfl, .inl rfl⟩
    show (r.ns ++ [_])[r.pos nm]? = _
    rw [e, List.getElem?_append_right (Nat.le_refl _), Nat.sub_self]; rfl
theorem chg_paint' {W w1 w2 : World} {C : Nat → Nat} {c : Nat} (h : Chg (fun b => C b = c) W w1) (h2 : Chg (fun b => paint C W.heap.size c b = c) w1 w2) : Chg (fun b => C b = c) W w2 :=
  h.trans h2 (fun b hb e => by rwa [paint_old C c hb] at e)
set_option maxRecDepth 20000 in
set_option maxHeartbeats 2000000 in
theorem rhave_any {W : World} {N : Nat} {C : Nat → Nat} {c p : Nat} {r : Rd} (h : RC W N C c p r) (hN : N ≤ W.heap.size) (hn : r.ns.length ≤ 1000000) (hs : ∀ x ∈ r.ns, x.se ≤ 1000000) (nm : List UInt8) (m : Nat) : Calls Tryz.prog 106 #[.pointer (some ⟨p, 0, none⟩), .string (strB nm), .int .i64 (m : Int)] W (RStepQ W N C c p (.tuple #[]) (r.has nm m)) := by
  have CA := Lib.hid (rat_any h hN hn nm)
  obtain ⟨x, hx, hxn, hx2⟩ := r.ated_at nm
  have hxs : x.se ≤ 1000000 := by
    rcases hx2 with rfl | h1
    · exact Nat.zero_le _
    · exact hs x (List.mem_of_getElem? h1)
  have HR : Hid (r.has nm m = ⟨r.is, (r.ated nm).ns.set (r.pos nm) ⟨x.nm, x.se + 1, m⟩⟩ ∧ (r.ated nm).is = r.is) := Lib.hid ⟨by unfold Rd.has; rw [hx], Rd.ated_is _ _⟩
  obtain ⟨r1, hr1⟩ : ∃ r1, r1 = r.ated nm := ⟨_, rfl⟩
  have hi := (List.getElem?_eq_some_iff.1 hx).1
  obtain ⟨i, hii⟩ : ∃ i, i = r.pos nm := ⟨_, rfl⟩
  rw [← hr1, ← hii] at hx HR hi
  rw [← hr1, ← hii] at CA
  have HX := Lib.hid hx
  have hi6 : i ≤ 1000000 := by rw [hii]; exact Nat.le_trans (r.pos_le nm) hn
  clear h hN hn hs hxn hx2 hr1 hii hx
  go_enter Tryz.func106, Tryz.ntmps106
  go_wp2_with fail
  refine CA.out.mono ?_
  rintro e w2 ⟨rfl, ⟨us, vi, vn, hw⟩, hch⟩
  obtain ⟨A, cap, rfl, hc1, hc2, hA⟩ := hw.fn
  obtain ⟨g, rfl⟩ := hA (by omega)
  obtain ⟨L, hL⟩ : ∃ L, L = r1.ns.length := ⟨_, rfl⟩
  rw [← hL] at hi hc1
  have q1 : w2.cell? ⟨p, 1, none⟩ = some (.slice (some ⟨g, 0, none⟩) L cap) := (hw.bd.cell 1).trans (by rw [hL]; rfl)
  obtain ⟨-, -, c1, c2⟩ := hw.cn_at HX.out
  have f2 : w2.frozen? ⟨g, i * 3 + 2, none⟩ = false := World.ownsRow.frozenAt hw.rn _
  have hp1 := hw.put_n (j := 2) (y := ⟨x.nm, x.se, m⟩) (v := .int .i64 (m : Int)) HX.out (by decide) rfl
  have HCH := Lib.hid hch
  have HP := Lib.hid hp1
  have hi0 : (0 : Int) ≤ (i : Int) := by omega
  have hi1 : (i : Int) < (L : Int) := by omega
  have hiL : i < L := hi
  have HLL := Lib.hid hL
  clear hw hch hp1 c1 CA hA hL
  go_upto_region 1 with fail
  go_upto_region 2 with fail
  obtain ⟨w3, hw3⟩ : ∃ w3, w3 = w2.setCell ⟨g, i * 3 + 2, none⟩ (.int .i64 (m : Int)) := ⟨_, rfl⟩
  rw [← hw3] at HP ⊢
  obtain ⟨hw4, hch4⟩ := HP.out
  have hx4 : (⟨r1.is, r1.ns.set i ⟨x.nm, x.se, m⟩⟩ : Rd).ns[i]? = some ⟨x.nm, x.se, m⟩ := List.getElem?_set_self (by rw [← HLL.out]; exact hiL)
  have hq1 : w3.cell? ⟨p, 1, none⟩ = some (.slice (some ⟨g, 0, none⟩) L cap) := (hw4.bd.cell 1).trans (by rw [HLL.out]; rfl)
  obtain ⟨-, -, d1, -⟩ := hw4.cn_at hx4
  simp only at d1
  have f3 : w3.frozen? ⟨g, i * 3 + 1, none⟩ = false := by
    have h5 := hw4.rn
    simp only [List.length_set] at h5
    exact World.ownsRow.frozenAt h5 _
  have hp2 := hw4.put_n (j := 1) (y := ⟨x.nm, x.se + 1, m⟩) (v := .int .i64 ((x.se + 1 : Nat) : Int)) hx4 (by decide) rfl
  have HF : Hid (RStepQ W N C c p (.tuple #[]) (r.has nm m) (.returned (.tuple #[])) (w3.setCell ⟨g, i * 3 + 1, none⟩ (.int .i64 ((x.se : Int) + 1)))) := Lib.hid (by
    refine ⟨rfl, ?_, ?_⟩
    · rw [HR.out.1]
      have h5 := hp2.1
      simp only [List.set_set] at h5
      rw [HR.out.2] at h5
      exact ⟨us, vi, _, h5⟩
    · have h6 : Chg (fun b => paint C W.heap.size c b = c) w2 (w3.setCell ⟨g, i * 3 + 1, none⟩ (.int .i64 ((x.se : Int) + 1))) := hch4.trans hp2.2 (fun _ _ e => e)
      exact chg_paint' HCH.out h6)
  have hse0 : (0 : Int) ≤ (x.se : Int) := by omega
  have hse1 : (x.se : Int) ≤ 1000000 := by omega
  clear HP hw4 hch4 hx4 hp2 hw3 q1 c2 f2
  go_wp2_with fail
  go_end0
  exact HF.out
end Go.Proofs.YtlojmmcagglpoaaGreat
namespace Go.Proofs.YtlojmmcagglpoaaGreat
open Go.RowKit Go.Maps
structure Rd.Ok (r : Rd) (n : Nat) : Prop where
  big : n ≤ 1000000
  nl : r.ns.length ≤ n
  il : r.is.length ≤ n
  se : ∀ x ∈ r.ns, x.se ≤ n
  ino : ∀ x ∈ r.ns, x.ino ≤ r.is.length
  bl : ∀ y ∈ r.is, y.b.length ≤ 1048576
  la : ∀ y ∈ r.is, y.la ≤ y.b.length
  ge : ∀ y ∈ r.is, y.ge ≤ n
theorem Rd.file_mem (r : Rd) (nm : List UInt8) (h : r.file nm ≠ 0) : ∃ x, r.ns[r.pos nm]? = some x ∧ x.ino = r.file nm := by
  unfold Rd.file at h ⊢
  cases hx : r.ns[r.pos nm]? with
  | none => rw [hx] at h; exact absurd rfl h
  | some x => exact ⟨x, rfl, rfl⟩
theorem Rd.Ok.file_le {r : Rd} {n : Nat} (h : r.Ok n) (nm : List UInt8) : r.file nm ≤ r.is.length := by
  by_cases h0 : r.file nm = 0
  · omega
  · obtain ⟨x, hx, e⟩ := r.file_mem nm h0
    rw [← e]; exact h.ino x (List.mem_of_getElem? hx)
theorem Rd.there_of {r : Rd} {nm : List UInt8} (hm : mayB nm = true) {k : Nat} (hk : r.file nm = k + 1) : r.there nm = ((k : Int) + 1, 0) := by
  unfold Rd.there
  rw [if_pos hm, if_neg (by omega), hk]; rfl
theorem Rd.there_no {r : Rd} {nm : List UInt8} (hm : mayB nm = true) (hk : r.file nm = 0) : r.there nm = (0, 141) := by
  unfold Rd.there
  rw [if_pos hm, if_pos hk]
theorem Rd.there_bad {r : Rd} {nm : List UInt8} (hm : ¬ mayB nm = true) : r.there nm = (0, 140) := by
  unfold Rd.there
  rw [if_neg hm]
def riZ : Ri := ⟨[], 0, 0, false⟩
noncomputable def Rd.create (r : Rd) (nm : List UInt8) : Int × Rd := if mayB nm = true then (if r.file nm = 0 then (0, (⟨r.is ++ [riZ], r.ns⟩ : Rd).has nm (r.is.length + 1)) else (142, r)) else (140, r)
set_option maxRecDepth 20000 in
set_option maxHeartbeats 2000000 in
theorem rcreate_any {W : World} {N : Nat} {C : Nat → Nat} {c p n : Nat} {r : Rd} (h : RC W N C c p r) (hN : N ≤ W.heap.size) (hok : r.Ok n) (nm : List UInt8) : Calls Tryz.prog 63 #[.pointer (some ⟨p, 0, none⟩), .string (strB nm)] W (RStepQ W N C c p (.int .i64 (r.create nm).1) (r.create nm).2) := by
  have CT := Lib.hid (rthere_any h (Nat.le_trans hok.nl hok.big) nm)
  have same : ∀ v : Int, r.create nm = (v, r) → Hid (RStepQ W N C c p (.int .i64 (r.create nm).1) (r.create nm).2 (.returned (.int .i64 v)) W) := fun v e => Lib.hid (by rw [e]; exact RStepQ.same h rfl (Below.refl _ _))
  by_cases hm : mayB nm = true
  · by_cases h0 : r.file nm = 0
    · rw [Rd.there_no hm h0] at CT
      have hcr : r.create nm = (0, (⟨r.is ++ [riZ], r.ns⟩ : Rd).has nm (r.is.length + 1)) := by unfold Rd.create; rw [if_pos hm, if_pos h0]
      rw [hcr]
      have HOK := Lib.hid hok
      obtain ⟨us, vi, vn, hw⟩ := h
      obtain ⟨A, cap, rfl, hc1, hc2, hA⟩ := hw.fi
      have hlen := hw.len
      obtain ⟨L, hL⟩ : ∃ L, L = us.length := ⟨_, rfl⟩
      have q0 : W.cell? ⟨p, 0, none⟩ = some (.slice A L cap) := (hw.bd.cell 0).trans (by rw [hL]; rfl)
      have hLb : L ≤ 1000000 := by rw [hL, hlen]; exact Nat.le_trans hok.il hok.big
      have B1 := Lib.hid (show Below W.heap.size W (W.alloc (.cells #[.slice none 0 0, .int .i64 0, .int .i64 0, .bool false] 186)) from (Below.refl _ _).alloc (Nat.le_refl _) _)
      have N4 := Lib.hid (news_at (Blk.new W 186 #[.slice none 0 0, .int .i64 0, .int .i64 0, .bool false] rfl))
      have hri := hw.ri
      rw [← hL] at hri
      have O4 := Lib.hid (World.ownsRow.alloc hri (.cells #[.slice none 0 0, .int .i64 0, .int .i64 0, .bool false] 186))
      have HW := Lib.hid hw
      have HL := Lib.hid (And.intro hL hlen)
      have HNN := Lib.hid hN
      clear hw hri hL hlen same hm h0 hcr hc1 hA hok hN
      go_enter Tryz.func63, Tryz.ntmps63
      go_wp2_with fail
      refine CT.out.mono ?_
      rintro e w2 ⟨rfl, rfl⟩
      go_wp2_with ((at_builtin; go_must (refine append_row rfl (.tmp 22) (.tmp 24) 44 186 rfl Tryz.underlying44 infoRi rfl (by decide) N (.slice A L cap) L (us.flatMap riC) rfl O4.out (some ⟨W.heap.size, 0, none⟩) 1 1 [.slice none 0 0, .int .i64 0, .int .i64 0, .bool false] rfl rfl (fun e => by cases e) N4.out (fun u hu => by simp only [List.mem_cons, List.not_mem_nil, or_false] at hu; rcases hu with rfl | rfl | rfl | rfl <;> rfl) (by omega) (by unfold maxLen; omega) (Nat.le_trans HNN.out B1.out.size) ?_); intro v5 w5 ho5 hg5 ha5; refine halt ?_))
      refine unhalt ?_
      have hv2 : (Value.slice A L cap) = .slice A us.length cap := by rw [HL.out.1]
      have ho6 : w5.ownsRow N 186 4 v5 (us.length + 1) (us.flatMap riC ++ riC (.slice none 0 0, ⟨[], 0, 0, false⟩)) := by rw [← HL.out.1]; exact ho5
      have hrw := HW.out.app_i B1.out ho6 (by rw [← hv2]; exact hg5) (by rw [← hv2]; exact ha5)
      have hbd : Blk w5 p 47 #[.slice A us.length cap, vn] := HW.out.bd.chg ((Chg.of_below B1.out (fun b => (Value.slice A us.length cap).ownBlock = some b)).grown (by rw [← hv2]; exact hg5) (fun q hq _ => hq)) (HW.out.bd.apart HW.out.ri (by decide))
      obtain ⟨A5, cap5, hv5, _⟩ := own_form ho5
      subst hv5
      have z0 : w5.cell? ⟨p, 0, none⟩ = some (.slice A us.length cap) := (hbd.cell 0).trans rfl
      have f0 := hbd.frozen 0
      have K6 := Lib.hid (hbd.set_ 0 (.slice A5 (L + 1) cap5))
      have HRW := Lib.hid hrw
      clear ho5 ho6 hg5 ha5 hrw hbd hv2 N4 O4 B1 q0
      go_upto_region 7 with fail
      obtain ⟨w6, hw6⟩ : ∃ w6, w6 = w5.setCell ⟨p, 0, none⟩ (.slice A5 (L + 1) cap5) := ⟨_, rfl⟩
      rw [← hw6] at HRW K6 ⊢
      have z2 : w6.cell? ⟨p, 0, none⟩ = some (.slice A5 (L + 1) cap5) := (K6.out.cell 0).trans rfl
      have CH := Lib.hid (rhave_any (C := paint C W.heap.size c) ⟨_, _, _, HRW.out.1⟩ (Nat.le_trans HNN.out HRW.out.2.size) (Nat.le_trans HOK.out.nl HOK.out.big) (fun x hx => Nat.le_trans (HOK.out.se x hx) HOK.out.big) nm (L + 1))
      clear hw6 z0 f0 K6
      go_wp2_with fail
      refine CH.out.mono ?_
      rintro e w7 ⟨rfl, h7, h8⟩
      have HF : Hid (RStepQ W N C c p (.int .i64 0) ((⟨r.is ++ [riZ], r.ns⟩ : Rd).has nm (r.is.length + 1)) (.returned (.int .i64 0)) w7) := Lib.hid ⟨rfl, by
        obtain ⟨us7, vi7, vn7, h9⟩ := h7
        have e1 : L + 1 = r.is.length + 1 := by rw [HL.out.1, HL.out.2]
        rw [e1] at h9
        exact ⟨us7, vi7, vn7, h9.recol (C := C) (h0 := W.heap.size) (fun b hb => by rw [paint_old _ _ (Nat.lt_of_lt_of_le hb HRW.out.2.size), paint_old _ _ hb])⟩, chg_paint' HRW.out.2 h8⟩
      clear h7 h8 CH HRW
      go_wp2_with fail
      go_ret
      exact HF.out
    · obtain ⟨k, hk⟩ : ∃ k, r.file nm = k + 1 := ⟨r.file nm - 1, by omega⟩
      rw [Rd.there_of hm hk] at CT
      have HE := same 142 (by unfold Rd.create; rw [if_pos hm, if_neg h0])
      have hkb : (k : Int) ≤ 1000000 := by have := hok.file_le nm; have := hok.il; have := hok.big; omega
      clear same h hok hk h0 hm
      go_enter Tryz.func63, Tryz.ntmps63
      go_wp2_with fail
      refine CT.out.mono ?_
      rintro e w2 ⟨rfl, rfl⟩
      go_wp2_with fail
      go_ret
      exact HE.out
  · rw [Rd.there_bad hm] at CT
    have HE := same 140 (by unfold Rd.create; rw [if_neg hm])
    clear same h hok hm
    go_enter Tryz.func63, Tryz.ntmps63
    go_wp2_with fail
    refine CT.out.mono ?_
    rintro e w2 ⟨rfl, rfl⟩
    go_wp2_with fail
    go_ret
    exact HE.out
end Go.Proofs.YtlojmmcagglpoaaGreat
namespace Go.Proofs.YtlojmmcagglpoaaGreat
open Go.RowKit Go.Maps
noncomputable def Rd.append (r : Rd) (nm l : List UInt8) : Int × Rd := if mayB nm = true then (match r.is[r.file nm - 1]? with
  | none => (141, r)
  | some y => if r.file nm = 0 then (141, r) else if 1048576 < y.b.length + l.length then (145, r) else (0, ⟨r.is.set (r.file nm - 1) { y with b := y.b ++ l }, r.ns⟩)) else (140, r)
theorem RW.inode {W : World} {N : Nat} {C : Nat → Nat} {c p : Nat} {us : List (Value × Ri)} {vi vn : Value} {r : Rd} (h : RW W N C c p us vi vn r) {k : Nat} (hk : k < r.is.length) : ∃ u, us[k]? = some u ∧ r.is[k]? = some u.2 := by
  have hkl : k < us.length := by rw [h.len]; exact hk
  refine ⟨us[k], List.getElem?_eq_getElem hkl, ?_⟩
  rw [← h.is, List.getElem?_map, List.getElem?_eq_getElem hkl]; rfl
set_option maxRecDepth 20000 in
set_option maxHeartbeats 2000000 in
theorem rappend_any {W : World} {N : Nat} {C : Nat → Nat} {c p n : Nat} {r : Rd} (h : RC W N C c p r) (hN : N ≤ W.heap.size) (hok : r.Ok n) (nm : List UInt8) (B : Option Addr) (m cp : Nat) (l : List UInt8) (hr : RB W B m l) (hm1 : m ≤ 140737488351232) : Calls Tryz.prog 64 #[.pointer (some ⟨p, 0, none⟩), .string (strB nm), .slice B m cp] W (RStepQ W N C c p (.int .i64 (r.append nm l).1) (r.append nm l).2) := by
  have CT := Lib.hid (rthere_any h (Nat.le_trans hok.nl hok.big) nm)
  have same : ∀ v : Int, r.append nm l = (v, r) → Hid (RStepQ W N C c p (.int .i64 (r.append nm l).1) (r.append nm l).2 (.returned (.int .i64 v)) W) := fun v e => Lib.hid (by rw [e]; exact RStepQ.same h rfl (Below.refl _ _))
  by_cases hm : mayB nm = true
  · by_cases h0 : r.file nm = 0
    · rw [Rd.there_no hm h0] at CT
      have HE := same 141 (by unfold Rd.append; rw [if_pos hm]; cases r.is[r.file nm - 1]? with
        | none => rfl
        | some y => simp only; rw [if_pos h0])
      clear same h hok h0 hm hr
      go_enter Tryz.func64, Tryz.ntmps64
      go_wp2_with fail
      refine CT.out.mono ?_
      rintro e w2 ⟨rfl, rfl⟩
      go_wp2_with fail
      go_ret
      exact HE.out
    · obtain ⟨k, hk⟩ : ∃ k, r.file nm = k + 1 := ⟨r.file nm - 1, by omega⟩
      rw [Rd.there_of hm hk] at CT
      have hkr : k < r.is.length := by have := hok.file_le nm; omega
      obtain ⟨us, vi, vn, hw⟩ := h
      obtain ⟨u, hu, hu2⟩ := hw.inode hkr
      obtain ⟨A, cap, rfl, hc1, hc2, hA⟩ := hw.fi
      obtain ⟨g, rfl⟩ := hA (by rw [hw.len]; omega)
      obtain ⟨L, hL⟩ : ∃ L, L = us.length := ⟨_, rfl⟩
      have hkL : k < L := by rw [hL, hw.len]; exact hkr
      have hLb : L ≤ 1000000 := by rw [hL, hw.len]; exact Nat.le_trans hok.il hok.big
      have q0 : W.cell? ⟨p, 0, none⟩ = some (.slice (some ⟨g, 0, none⟩) L cap) := (hw.bd.cell 0).trans (by rw [hL]; rfl)
      obtain ⟨-, c0, -, -, -⟩ := hw.ci_at hu
      have hob := hw.ob k u hu
      obtain ⟨v, y⟩ := u
      simp only at c0 hob hu2
      obtain ⟨Av, cv, rfl, hcv1, hcv2, _⟩ := hob.form
      have hbl := hok.bl y (List.mem_of_getElem? hu2)
      have hlen := hr.1
      have hap : r.append nm l = if 1048576 < y.b.length + l.length then (145, r) else (0, ⟨r.is.set k { y with b := y.b ++ l }, r.ns⟩) := by
        unfold Rd.append
        rw [if_pos hm, hk, Nat.add_sub_cancel, hu2]
        simp only
        rw [if_neg (by omega)]
      obtain ⟨b, hb⟩ : ∃ b, b = y.b.length := ⟨_, rfl⟩
      rw [← hb] at c0 hcv1 hbl
      have HW := Lib.hid hw; have HU := Lib.hid hu; have HOB := Lib.hid hob; have HR := Lib.hid hr
      have HB := Lib.hid (And.intro hb hlen)
      have hbi : (b : Int) ≤ 1048576 := by omega
      have hmi : (m : Int) ≤ 140737488351232 := by omega
      have hki : (k : Int) < (L : Int) := by omega
      have hk0 : (0 : Int) ≤ (k : Int) := by omega
      have hk3 : (k : Int) ≤ 1000000 := by omega
      have f0 : W.frozen? ⟨g, k * 4, none⟩ = false := World.ownsRow.frozenAt (by have := hw.ri; exact this) _
      have HNN := Lib.hid hN
      have HC : Hid (b ≤ cv ∧ cv ≤ maxLen) := Lib.hid ⟨hcv1, hcv2⟩
      by_cases hfit : 1048576 < b + m
      · have HE := same 145 (by rw [hap, if_pos (by omega)])
        have hfi : 1048576 < (b : Int) + (m : Int) := by omega
        clear same hw hu hob hr hb hlen hap hm h0 hk hkr hc1 hA hL hok hu2 hN hcv1 hcv2
        go_enter Tryz.func64, Tryz.ntmps64
        go_wp2_with fail
        refine CT.out.mono ?_
        rintro e w2 ⟨rfl, rfl⟩
        go_wp2_with fail
        go_ret
        exact HE.out
      · rw [if_neg (by omega)] at hap
        rw [hap]
        have hfi : ¬ 1048576 < (b : Int) + (m : Int) := by omega
        clear same hw hu hob hr hb hlen hap hm h0 hk hkr hc1 hA hL hok hu2 hN hcv1 hcv2
        go_enter Tryz.func64, Tryz.ntmps64
        go_wp2_with fail
        refine CT.out.mono ?_
        rintro e w2 ⟨rfl, rfl⟩
        go_wp2_with ((at_builtin; go_must (refine append_bytes rfl (.tmp 39) (.tmp 40) rfl N (.slice Av b cv) y.b rfl (by rw [HB.out.1]; exact HOB.out) B m cp l rfl HR.out (by rw [← HB.out.1]; omega) HNN.out ?_); intro v3 w3 ho3 hg3 ha3; refine halt ?_))
        refine unhalt ?_
        have hv2 : (Value.slice Av b cv) = .slice Av y.b.length cv := by rw [HB.out.1]
        have hrw := HW.out.put_b HU.out ho3 (by rw [← hv2]; exact hg3) (fun q hq => by
          rcases ha3 with e | e
          · left; rw [← hv2, ← e]; exact hq
          · right; rw [e] at hq; injection hq with hq; omega)
        have HF : Hid (RStepQ W N C c p (.int .i64 0) ⟨r.is.set k { y with b := y.b ++ l }, r.ns⟩ (.returned (.int .i64 0)) (w3.setCell ⟨g, k * 4, none⟩ v3)) := Lib.hid ⟨rfl, ⟨_, _, _, hrw.1⟩, hrw.2⟩
        have hgu : (Value.slice Av b cv).ownBlock ≠ some g := fun e => by
          rcases own_apart HOB.out HW.out.ri (by decide) with h1 | h1
          · rw [← hv2] at h1; rw [h1] at e; cases e
          · rw [← hv2, e] at h1; exact h1 rfl
        have hglt := (HW.out.ri.lt g rfl).2
        have z0 : w3.cell? ⟨g, k * 4, none⟩ = some (.slice Av b cv) := (World.cell?_of_block (a := ⟨g, k * 4, none⟩) (hg3.block g hglt (fun e => hgu e.symm))).trans c0
        have fz : w3.frozen? ⟨g, k * 4, none⟩ = false := by
          have h1 := hg3.block g hglt (fun e => hgu e.symm)
          unfold World.frozen? at f0 ⊢
          simp only at f0 ⊢
          rw [h1]; exact f0
        obtain ⟨A3, c3, hv3, _⟩ := ho3.form
        obtain ⟨L3, hL3⟩ : ∃ L3, L3 = (y.b ++ l).length := ⟨_, rfl⟩
        rw [← hL3] at hv3
        subst hv3
        clear hL3
        clear ho3 hg3 ha3 hrw hv2 hgu hglt c0 f0
        go_wp2_with fail
        go_ret
        exact HF.out
  · rw [Rd.there_bad hm] at CT
    have HE := same 140 (by unfold Rd.append; rw [if_neg hm])
    clear same h hok hm hr
    go_enter Tryz.func64, Tryz.ntmps64
    go_wp2_with fail
    refine CT.out.mono ?_
    rintro e w2 ⟨rfl, rfl⟩
    go_wp2_with fail
    go_ret
    exact HE.out
end Go.Proofs.YtlojmmcagglpoaaGreat
