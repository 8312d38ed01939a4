/- THE WALKS of package table's reference: low, Summed, number. -/
import Derived.Test.YtnglgppdkohhpaaDoorTbResid
import Derived.Test.YtnglgppdkohhpaaDoorCrcRefWalk
namespace Go.Proofs.YtnglgppdkohhpaaDoor
open Go.RowKit
def FreshV (w : World) (v v' : Value) : Prop := ∀ k, v'.ownBlock = some k → v.ownBlock = some k ∨ w.heap.size ≤ k
def LayPost (base : Nat) (v : Value) (l : List UInt8) (w : World) (e : Ending) (w' : World) : Prop :=
  ∃ v', e = .returned v' ∧ OB w' base v' l ∧ Chg (fun k => v.ownBlock = some k) w w' ∧ FreshV w v v'
set_option maxRecDepth 100000 in
set_option maxHeartbeats 2000000 in
theorem rlow_any (base : Nat) (v : Value) (l : List UInt8) (n x : Nat) (w : World) (hob : OB w base v l) (hbase : base ≤ w.heap.size) (h8 : n ≤ 8) (hx : x < 9223372036854775808) (hlen : l.length ≤ 4194304) :
    Calls Tryd.prog 23 #[v, .int .i64 (x : Int), .int .i64 (n : Int)] w (LayPost base v (l ++ leB x n) w) := by
  have HO := Lib.hid hob; clear hob
  have HX := Lib.hid hx; clear hx
  have HL := Lib.hid hlen; clear hlen
  go_enter Tryd.func23, Tryd.ntmps23
  go_wp2_with fail
  go_loopw [0, 1, 7] (fun bv xv iv W => ∃ k : Nat, k ≤ n ∧ iv = .int .i64 (k : Int) ∧ ∃ y : Nat, Hid (y = x / 256 ^ k) ∧ xv = .int .i64 (y : Int) ∧ Hid (OB W base bv (l ++ leB x k)) ∧ Hid (Chg (fun k => v.ownBlock = some k) w W) ∧ Hid (FreshV w v bv)) (fun _ _ iv _ => n - (intOf iv).toNat)
  case atStart => exact ⟨0, Nat.zero_le _, rfl, x, (by simp [Hid]), rfl, Lib.hid (by simpa [leB] using HO.out), Lib.hid (Chg.refl _ _), Lib.hid (fun k hk => .inl hk)⟩
  case round =>
    obtain ⟨k, hk, rfl, y, HY, rfl, HOB, HC, HF⟩ := hrel
    by_cases hlt : k < n
    · obtain ⟨c, hc⟩ : ∃ c : UInt8, c = UInt8.ofNat y := ⟨_, rfl⟩
      have hcy : (y : Int) % 256 = (c.toNat : Int) := by rw [hc, UInt8.toNat_ofNat']; simp
      have hcw : (c.toNat : Int) % 256 = (c.toNat : Int) := by have := c.toNat_lt; omega
      have hsn : leB x (k + 1) = leB x k ++ [c] := by rw [leB, hc, HY.out]
      have HSN := Lib.hid hsn
      have HYX : Hid (y < 9223372036854775808) := Lib.hid (by rw [HY.out]; exact Nat.lt_of_le_of_lt (Nat.div_le_self _ _) HX.out)
      clear hc hsn
      have hlk : (l ++ leB x k).length = l.length + k := by rw [List.length_append, leB_length]
      have HLK := Lib.hid hlk; clear hlk
      have B0 : Below wr.heap.size wr (wr.alloc (.cells #[.int .u8 (c.toNat : Int)] 5)) := (Below.refl _ _).alloc (Nat.le_refl _) _
      have O1 := Lib.hid (HOB.out.keep B0)
      have R1 : Hid (RB (wr.alloc (.cells #[.int .u8 (c.toNat : Int)] 5)) (some ⟨wr.heap.size, 0, none⟩) 1 [c]) := Lib.hid (RB.new' wr 5 (0, 0) #[.int .u8 (c.toNat : Int)] [c] rfl 1 wr.heap.size rfl rfl)
      have C0 := Lib.hid ((HC.out.alloc (.cells #[.int .u8 (c.toNat : Int)] 5)))
      have hbs : base ≤ (wr.alloc (.cells #[.int .u8 (c.toNat : Int)] 5)).heap.size := by have := HC.out.size; simp; omega
      have HBS := Lib.hid hbs
      have hll : (l ++ leB x k).length + 1 ≤ 140737488355328 := by rw [HLK.out]; have := HL.out; omega
      have HLL := Lib.hid hll
      have HB0 := Lib.hid B0
      clear B0 hbs hll
      go_wp2_with ((at_builtin; go_must (refine append_bytes rfl (.tmp 13) (.tmp 17) rfl base u0 (l ++ leB x k) rfl O1.out (some ⟨wr.heap.size, 0, none⟩) 1 1 [c] rfl R1.out HLL.out HBS.out ?_); intro v3 w3 ho3 hg3 ha3; refine halt ?_))
      refine unhalt ?_
      have HN : Hid (OB w3 base v3 (l ++ leB x (k + 1))) := Lib.hid (by rw [HSN.out, ← List.append_assoc]; exact ho3)
      have HC3 : Hid (Chg (fun k => v.ownBlock = some k) w w3) := Lib.hid (C0.out.grown hg3 (fun q hq hlt => by
        rcases HF.out q hq with h | h
        · exact h
        · omega))
      have HF3 : Hid (FreshV w v v3) := Lib.hid (fun q hq => by
        rcases ha3 with h | h
        · rw [h] at hq; exact HF.out q hq
        · right
          rw [hq] at h
          have := Option.some.inj h
          have := C0.out.size
          omega)
      have HY2 : Hid (y / 256 = x / 256 ^ (k + 1)) := Lib.hid (by rw [HY.out, Nat.div_div_eq_div_mul, ← Nat.pow_succ])
      clear ho3 hg3 ha3
      go_wp2_with fail
      go_roundw
      case rel => exact ⟨k + 1, by omega, by go_num, y / 256, HY2, by congr 1; unfold RowKit.wrap64; have := HYX.out; push_cast; omega, HN, HC3, HF3⟩
      case measure => simp [intOf]; omega
    · go_wp2_with fail
      go_ret
      obtain rfl : k = n := by omega
      exact ⟨_, rfl, HOB.out, HC.out, HF.out⟩
theorem refOf_any (A : Option Addr) (n cap : Nat) (l : List UInt8) (w : World) (hl : RB w A n l) (hn : n ≤ 281474976710656) :
    Calls Tryd.prog 33 #[.slice A n cap] w fun e w' => e = .returned (.int .u32 (crcMoreR 0 l : Int)) ∧ w = w' := by
  have HL := Lib.hid hl; clear hl
  go_enter Tryd.func33, Tryd.ntmps33
  go_wp2_with fail
  refine (refMore_any _ _ _ l 0 _ HL.out hn (by omega)).mono ?_
  rintro e w' ⟨rfl, rfl⟩
  go_wp2_with fail
  go_ret
  exact ⟨rfl, rfl⟩
set_option maxHeartbeats 2000000 in
/-- the bytes with their sum behind them -/
theorem rsummed_any (base : Nat) (v : Value) (l : List UInt8) (w : World) (hob : OB w base v l) (hbase : base ≤ w.heap.size) (hlen : l.length ≤ 4194304) :
    Calls Tryd.prog 24 #[v] w (LayPost base v (l ++ leB (crcMore 0 l) 4) w) := by
  obtain ⟨A, cap, rfl, _, _, hr⟩ := hob.form
  have hs := fun w' (h : RB w' A l.length l) => refOf_any A l.length cap l w' h (by omega)
  have hcl : crcMore 0 l < 4294967296 := crcMore_lt _ (by omega)
  rw [← crcMore_eq] at hs
  have HS := Lib.hid (hs w hr)
  have HL := Lib.hid (rlow_any base _ l 4 (crcMore 0 l) w hob hbase (by omega) (by omega) hlen)
  clear hs hr hob
  obtain ⟨cv, hcv⟩ : ∃ cv, cv = crcMore 0 l := ⟨_, rfl⟩
  rw [← hcv] at HS HL hcl ⊢
  clear hcv
  go_enter Tryd.func24, Tryd.ntmps24
  go_wp2_with fail
  refine HS.out.mono ?_
  rintro e w' ⟨rfl, rfl⟩
  go_wp2_with fail
  refine HL.out.mono ?_
  intro e w2 hp
  obtain ⟨v2, rfl, h2⟩ := hp
  have HF : Hid (LayPost base (.slice A l.length cap) (l ++ leB cv 4) w (.returned v2) w2) := Lib.hid ⟨v2, rfl, h2⟩
  clear h2
  go_wp2_with fail
  go_ret
  exact HF.out
theorem numAt_low (l : List UInt8) (o n j : Nat) (hj : j < n) (ho : o + n ≤ l.length) : leV ((l.drop (o + j)).take (n - j)) = 256 * leV ((l.drop (o + (j + 1))).take (n - (j + 1))) + (l.getD (o + j) 0).toNat := by
  have h1 : l.drop (o + j) = l.getD (o + j) 0 :: l.drop (o + (j + 1)) := by
    rw [List.getD_eq_getElem?_getD, List.getElem?_eq_getElem (by omega), Option.getD_some]
    exact List.drop_eq_getElem_cons (by omega)
  obtain ⟨q, hq⟩ : ∃ q, n - j = q + 1 := ⟨n - j - 1, by omega⟩
  rw [h1, hq, List.take_succ_cons, leV, show n - (j + 1) = q from by omega]
  omega
theorem rnumber_any (A : Option Addr) (m cap : Nat) (l : List UInt8) (o n : Nat) (w : World) (hr : RB w A m l) (hm : m ≤ 281474976710656) (hn : n ≤ 4) (ho : o + n ≤ m) :
    Calls Tryd.prog 29 #[.slice A m cap, .int .i64 (o : Int), .int .i64 (n : Int)] w fun e w' => e = .returned (.int .i64 (numAt l o n : Int)) ∧ w' = w := by
  have HR := Lib.hid hr; clear hr
  go_enter Tryd.func29, Tryd.ntmps29
  go_wp2_with fail
  go_loop [7, 8] (fun x i => ∃ j : Nat, j ≤ n ∧ i = .int .i64 ((j : Int) - 1) ∧ ∃ y : Nat, y < 256 ^ (n - j) ∧ Hid (y = leV ((l.drop (o + j)).take (n - j))) ∧ x = .int .i64 (y : Int)) (fun _ i => (intOf i + 1).toNat)
  case atStart => exact ⟨n, Nat.le_refl _, by go_num, 0, by simp, Lib.hid (by simp [leV]), rfl⟩
  case round =>
    obtain ⟨j, hj, rfl, y, hy, HY, rfl⟩ := hrel
    cases j with
    | zero =>
      go_wp2_with fail
      go_ret
      refine ⟨?_, rfl⟩
      rw [HY.out]; rfl
    | succ j =>
      obtain ⟨b, off, rfl, hb, c, hc, hcell⟩ := HR.out.at_ (show o + j < m by omega)
      have hcb := c.toNat_lt
      have HS : Hid (256 * y + c.toNat = leV ((l.drop (o + j)).take (n - j))) := Lib.hid (by
        rw [numAt_low l o n j (by omega) (by have := HR.out.1; omega), ← HY.out, List.getD_eq_getElem?_getD, hc]; rfl)
      have hy2 : 256 * y + c.toNat < 256 ^ (n - j) := by
        rw [show n - j = (n - (j + 1)) + 1 from by omega, Nat.pow_succ]; omega
      have hy3 : 256 * y + c.toNat < 4294967296 := Nat.lt_of_lt_of_le hy2 (Nat.pow_le_pow_right (by omega) (show n - j ≤ 4 by omega))
      have HY2 := Lib.hid hy2; clear hy2 hy hc
      go_wp2_with fail
      go_round
      case rel => exact ⟨j, by omega, by go_num, 256 * y + c.toNat, HY2.out, HS, by congr 1⟩
      case measure => simp [intOf]
end Go.Proofs.YtnglgppdkohhpaaDoor
