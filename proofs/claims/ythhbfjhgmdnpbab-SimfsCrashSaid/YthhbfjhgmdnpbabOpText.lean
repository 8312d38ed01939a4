/- THE WALK of a call's text (package heronlaw14): a text so many times. -/
import Derived.Test.YthhbfjhgmdnpbabSeen
import Derived.Test.YthhbfjhgmdnpbabChg
import Derived.Lib.AppendStr
namespace Go.Proofs.Ythhbfjhgmdnpbab
open Go.RowKit Go.Maps
theorem append_strB {w : World} {ops : Array Oper} {rest : List Oper} {o : Oper} {a : Act} {Q : Exit → Act → World → Prop} (hgd : o.guard = none) (s x : Operand)
    (ho : o.op = .call { callee := .builtin .append, args := #[s, x], argTypes := #[46, 9] })
    (base : Nat) (v : Value) (l : List UInt8) (hs : a.eval s = v) (hown : OB w base v l) (t : ByteArray) (hx : a.eval x = .string t)
    (hlen : l.length + t.size ≤ 140737488355328) (hbase : base ≤ w.heap.size)
    (h : ∀ v' w', OB w' base v' (l ++ t.data.toList) → w.grownBy w' v.ownBlock → wpList Try.prog ops Q rest (a.put o.dst v') w') : wpList Try.prog ops Q (o :: rest) a w := by
  obtain ⟨i0, hi, hz0, hz1, hz2⟩ := info_parts info8
  refine Lib.wpList_append_own_string w hgd s x 46 9 ho base 5 i0 Try.underlying46 Try.underlying9 hi hz0 hz1 hz2 v l.length (l.map byteV) hs hown t hx (by simp only [maxLen]; omega) hlen hbase ?_
  intro v' w' h1 h2 _
  refine h v' w' ?_ h2
  unfold OB
  have e : Lib.strCells t = t.data.toList.map byteV := by unfold Lib.strCells byteV; rfl
  rw [e] at h1
  rw [List.length_append, List.map_append]
  exact h1
theorem own_chg' {W w' : World} {v : Value} (hg : W.grownBy w' v.ownBlock) : Chg (fun k => v.ownBlock = some k) W w' := (Chg.refl _ W).grown hg (fun _ hk _ => hk)
def repL (l : List UInt8) (k : Nat) : List UInt8 := (List.replicate k l).flatten
theorem repL_len (l : List UInt8) (k : Nat) : (repL l k).length = k * l.length := by unfold repL; simp
theorem repL_succ (l : List UInt8) (k : Nat) : repL l (k + 1) = repL l k ++ l := by
  unfold repL
  rw [List.replicate_succ', List.flatten_append]; simp
def textK (n : Nat) (times : Int) (most : Nat) : Nat := if n = 0 then 0 else min times.toNat (most / n)
theorem textK_end {n k most : Nat} {times : Int} (h1 : k ≤ times.toNat) (h2 : k * n ≤ most) (h3 : n = 0 → k = 0) (he : times ≤ (k : Int) ∨ most < k * n + n ∨ n = 0) : textK n times most = k := by
  unfold textK
  by_cases h : n = 0
  · rw [if_pos h, h3 h]
  · rw [if_neg h]
    have hk : k ≤ most / n := (Nat.le_div_iff_mul_le (by omega)).2 h2
    rcases he with e | e | e
    · omega
    · have : most / n < k + 1 := (Nat.div_lt_iff_lt_mul (by omega)).2 (by rw [Nat.add_mul]; omega)
      omega
    · exact absurd e h
def TextQ (W : World) (l : List UInt8) (e : Ending) (w' : World) : Prop := ∃ v, e = .returned v ∧ OB w' W.heap.size v l ∧ Below W.heap.size W w'
set_option maxRecDepth 20000 in
set_option maxHeartbeats 1000000 in
theorem text_any (c0 c1 c2 c3 c6 c7 c8 c9 c10 : Value) (s : ByteArray) (times : Int) (most : Nat) (hm : most ≤ 2097152) (hsB : s.size ≤ 140737488355328) (W : World) :
    Calls Try.prog 22 #[.agg #[c0, c1, c2, c3, .string s, .int .i64 times, c6, c7, c8, c9, c10], .int .i64 (most : Int)] W (TextQ W (repL s.data.toList (textK s.size times most))) := by
  obtain ⟨wA, hwA⟩ : ∃ wA, wA = W.alloc (.cells #[c0, c1, c2, c3, .string s, .int .i64 times, c6, c7, c8, c9, c10] 31) := ⟨_, rfl⟩
  have hB : Below W.heap.size W wA := by rw [hwA]; exact (Below.refl _ _).alloc (Nat.le_refl _) _
  have K0 : Hid (Blk wA W.heap.size 31 #[c0, c1, c2, c3, .string s, .int .i64 times, c6, c7, c8, c9, c10]) := Lib.hid (by rw [hwA]; exact Blk.new W _ _ rfl)
  have B0 := Lib.hid hB
  clear hB
  obtain ⟨ls, hls⟩ : ∃ ls, ls = s.data.toList := ⟨_, rfl⟩
  have hsz : ls.length = s.size := by rw [hls]; rfl
  have HLS := Lib.hid hls
  rw [← hls]
  obtain ⟨n, hn⟩ : ∃ n, n = s.size := ⟨_, rfl⟩
  rw [← hn]
  have HN := Lib.hid hn
  obtain ⟨R, hR⟩ : ∃ R, R = textK n times most := ⟨_, rfl⟩
  rw [← hR]
  have HR := Lib.hid hR
  clear hR hn
  have HSZ := Lib.hid hsz
  clear hls hsz
  go_enter Try.func22, Try.ntmps22
  go_upto_region 2 with fail
  rw [← hwA]
  clear hwA
  go_wp2_with fail
  go_loopw [5, 6] (fun s5 s6 wr => ∃ k m : Nat, s6 = .int .i64 (k : Int) ∧ Hid (m = k * n) ∧ m ≤ most ∧ k ≤ times.toNat ∧ (n = 0 → k = 0) ∧ k ≤ most ∧ (∃ A cp, s5 = .slice A m cp) ∧ Hid (OB wr W.heap.size s5 (repL ls k)) ∧ Hid (Below W.heap.size W wr) ∧ Hid (Blk wr W.heap.size 31 #[c0, c1, c2, c3, .string s, .int .i64 times, c6, c7, c8, c9, c10])) (fun _ s6 _ => times.toNat - (intOf s6).toNat)
  case atStart => exact ⟨0, 0, rfl, Lib.hid (by omega), Nat.zero_le _, Nat.zero_le _, fun _ => rfl, Nat.zero_le _, ⟨none, 0, rfl⟩, Lib.hid (OB.nil _ _), B0, K0⟩
  case round =>
    obtain ⟨k, m, rfl, hmk, hmm, hkt, hn0, hkm, ⟨A, cp, rfl⟩, O1, B1, K1⟩ := hrel
    have q4 : wr.cell? ⟨W.heap.size, 4, none⟩ = some (.string s) := (K1.out.cell 4).trans rfl
    have q5 : wr.cell? ⟨W.heap.size, 5, none⟩ = some (.int .i64 times) := (K1.out.cell 5).trans rfl
    have HEND : Hid ((times ≤ (k : Int) ∨ most < m + n ∨ n = 0) → R = k) := Lib.hid (fun he => by rw [HR.out]; exact textK_end hkt (by rw [← hmk.out]; exact hmm) hn0 (by rw [← hmk.out]; exact he))
    by_cases e1 : (k : Int) < times
    · by_cases e2 : m + n ≤ most
      · have e2i : (m : Int) + (s.size : Int) ≤ (most : Int) := by have := HN.out; omega
        by_cases e3 : 0 < s.size
        · have O2 : Hid (OB wr W.heap.size (.slice A m cp) (repL ls k)) := O1
          have HM : Hid (m + n ≤ most ∧ (repL ls k).length = m) := Lib.hid ⟨e2, by rw [repL_len, HSZ.out, ← HN.out, hmk.out]⟩
          have HK : Hid (k + 1 ≤ most) := Lib.hid (by
            have h1 : (k + 1) * 1 ≤ (k + 1) * n := Nat.mul_le_mul_left _ (by have := HN.out; omega)
            have h2 : (k + 1) * n = m + n := by rw [Nat.add_mul, ← hmk.out]; omega
            omega)
          have HMS : Hid (m + n = (k + 1) * n) := Lib.hid (by rw [Nat.add_mul, ← hmk.out]; omega)
          clear HEND
          go_wp2_with ((at_builtin; go_must (refine append_strB rfl (.tmp 29) (.tmp 31) rfl W.heap.size (.slice A m cp) (repL ls k) rfl O2.out s rfl (by have := HM.out; have := HN.out; omega) B1.out.size ?_); intro v5 w5 ho5 hg5; refine halt ?_))
          refine unhalt ?_
          have K5 := Lib.hid (K1.out.chg (own_chg' hg5) (fun e => K1.out.apart O2.out (by decide) e))
          have B5 := Lib.hid (B1.out.grown hg5 B1.out.size (fun j hj => (O2.out.lt j hj).1))
          have O5 : Hid (OB w5 W.heap.size v5 (repL ls (k + 1))) := Lib.hid (by rw [repL_succ, HLS.out]; rw [HLS.out] at ho5; exact ho5)
          obtain ⟨A5, cp5, hv5, _⟩ := OB.form O5.out
          have hl5 : (repL ls (k + 1)).length = m + n := by rw [repL_len, HSZ.out, ← HN.out, HMS.out]
          rw [hl5] at hv5
          subst hv5
          clear ho5 hg5 q4 q5 hl5 O1 O2 B1 K1
          go_wp2_with fail
          go_roundw
          case rel => exact ⟨k + 1, m + n, by go_num, HMS, HM.out.1, by omega, fun h => by have := HN.out; omega, HK.out, ⟨A5, cp5, rfl⟩, O5, B5, K5⟩
          case measure => simp [intOf]; omega
        · have hk := HEND.out (.inr (.inr (by have := HN.out; omega)))
          have HF : Hid (TextQ W (repL ls R) (.returned (.slice A m cp)) wr) := Lib.hid (by rw [hk]; exact ⟨_, rfl, O1.out, B1.out⟩)
          clear HEND hk
          go_wp2_with fail
          go_ret
          exact HF.out
      · have e2i : ¬ (m : Int) + (s.size : Int) ≤ (most : Int) := by have := HN.out; omega
        have hk := HEND.out (.inr (.inl (by omega)))
        have HF : Hid (TextQ W (repL ls R) (.returned (.slice A m cp)) wr) := Lib.hid (by rw [hk]; exact ⟨_, rfl, O1.out, B1.out⟩)
        clear HEND hk
        go_wp2_with fail
        go_ret
        exact HF.out
    · have hk := HEND.out (.inl (by omega))
      have HF : Hid (TextQ W (repL ls R) (.returned (.slice A m cp)) wr) := Lib.hid (by rw [hk]; exact ⟨_, rfl, O1.out, B1.out⟩)
      clear HEND hk
      go_wp2_with fail
      go_ret
      exact HF.out
end Go.Proofs.Ythhbfjhgmdnpbab
