/- THE WALKS of package rec. -/
import Derived.Test.YtnglgppdkohhpaaDoorRecFns
import Derived.Test.YtnglgppdkohhpaaDoorChg
import Derived.Test.YtnglgppdkohhpaaDoorStr
import Derived.Laws.BitsAllLaws
import Derived.Laws.MakeOwn
import Derived.Laws.OwnMore
import Derived.Deep.QuietTactic
import Derived.BigQuiet
import Derived.Lib.AppendStr
namespace Go.Proofs.YtnglgppdkohhpaaDoor
open Go.RowKit
theorem run_make_bytes (n : Nat) (hn : n ≤ 140737488355328) (W : World) :
    (Instr.makeSlice 28 (.int .i64 (n : Int)) (.int .i64 (n : Int))).run Tryd.prog W = .ok (.slice (some ⟨W.heap.size, 0, none⟩) n n) (W.alloc (.cells (madeCells #[.int .u8 0] n) 5)) := by
  obtain ⟨i0, hi, hz0, hz1, hz2⟩ := info_parts info8
  have := run_make W 28 5 i0 (.int .u8 0) Tryd.underlying28 hi hz0 .i64 .i64 (n : Int) (n : Int) (by omega) (by omega) (by rw [hz2]; omega) (by omega)
  rw [hz1] at this
  have e : (Value.int .u8 0).cells = #[.int .u8 0] := rfl
  rw [e] at this
  simpa using this
theorem OB.made {w : World} {base : Nat} (n : Nat) (hb : base ≤ w.heap.size) (hn : n ≤ 140737488355328) :
    OB (w.alloc (.cells (madeCells #[.int .u8 0] n) 5)) base (.slice (some ⟨w.heap.size, 0, none⟩) n n) (List.replicate n 0) := by
  have := World.ownsRow_lit (e := 5) (size := 1) w (madeCells #[.int .u8 0] n) n hb (by simp only [maxLen]; omega) (by rw [size_madeCells]; omega)
  unfold OB
  rw [toList_madeCells_one] at this
  rw [List.length_replicate, List.map_replicate]
  exact this
def BytesPost (l : List UInt8) (n : Nat) (w : World) (e : Ending) (w' : World) : Prop :=
  ∃ g, e = .returned (.slice (some ⟨g, 0, none⟩) n n) ∧ w.heap.size ≤ g ∧ OB w' w.heap.size (.slice (some ⟨g, 0, none⟩) n n) l ∧ Below w.heap.size w w'
theorem u8_cast (v k : Nat) : ((v : Int) / 2 ^ (8 * k) % 256) = ((UInt8.ofNat (v / 256 ^ k)).toNat : Int) := by
  rw [UInt8.toNat_ofNat', ← pow_256]
  have : ((v / 2 ^ (8 * k) % 2 ^ 8 : Nat) : Int) = (v : Int) / 2 ^ (8 * k) % 256 := by simp
  exact this.symm
theorem set_rep (l : List UInt8) (m k : Nat) (hl : l.length = k) (hm : 0 < m) (c : UInt8) : (l ++ List.replicate m 0).set k c = (l ++ [c]) ++ List.replicate (m - 1) 0 := by
  obtain ⟨m, rfl⟩ : ∃ q, m = q + 1 := ⟨m - 1, by omega⟩
  rw [List.set_append_right _ _ (by omega), hl, Nat.sub_self, List.replicate_succ, List.set_cons_zero]
  simp
set_option maxHeartbeats 1000000 in
theorem bytes_any (v n : Nat) (w : World) (hn : n ≤ 8) :
    Calls Tryd.prog 35 #[.int .u64 (v : Int), .int .i64 (n : Int)] w (BytesPost (leB v n) n w) := by
  have hmk := run_make_bytes n (by omega)
  have hob : OB (w.alloc (.cells (madeCells #[.int .u8 0] n) 5)) w.heap.size (.slice (some ⟨w.heap.size, 0, none⟩) n n) (List.replicate n 0) := OB.made n (Nat.le_refl _) (by omega)
  have HO := Lib.hid hob; clear hob
  go_enter Tryd.func35, Tryd.ntmps35
  go_wp2_with fail
  go_loopw [10] (fun i W => ∃ k : Nat, k ≤ n ∧ i = .int .i64 k ∧ OB W w.heap.size (.slice (some ⟨w.heap.size, 0, none⟩) n n) (leB v k ++ List.replicate (n - k) 0) ∧ Below w.heap.size w W) (fun i _ => n - (intOf i).toNat)
  case atStart => exact ⟨0, Nat.zero_le _, rfl, HO.out, (Below.refl _ _).alloc (Nat.le_refl _) _⟩
  case round =>
    obtain ⟨k, hk, rfl, hob, hbl⟩ := hrel
    by_cases hlt : k < n
    · have hc : wr.cell? ⟨w.heap.size, k, none⟩ = some (.int .u8 ((0 : UInt8).toNat : Int)) := hob.cellAt (by rw [List.getElem?_append_right (by rw [leB_length]; exact Nat.le_refl _), leB_length, Nat.sub_self, List.getElem?_replicate, if_pos (by omega)])
      have hf := hob.frozenAt k
      have HB := Lib.hid hob; clear hob
      have hs : OB (wr.setCell ⟨w.heap.size, k, none⟩ (.int .u8 ((UInt8.ofNat (v / 256 ^ k)).toNat : Int))) w.heap.size (.slice (some ⟨w.heap.size, 0, none⟩) n n) (leB v (k + 1) ++ List.replicate (n - (k + 1)) 0) := by
        have := (HB.out.stored k (UInt8.ofNat (v / 256 ^ k))).1
        rwa [set_rep _ _ _ (leB_length v k) (by omega), show n - k - 1 = n - (k + 1) from by omega] at this
      rw [← u8_cast] at hs
      have HS := Lib.hid hs; clear hs
      clear hmk
      go_wp2_with fail
      go_roundw
      case rel => exact ⟨k + 1, by omega, by go_num, HS.out, hbl.setCell (Nat.le_refl _) _⟩
      case measure => simp [intOf]; omega
    · obtain rfl : k = n := by omega
      have hob' : OB wr w.heap.size (.slice (some ⟨w.heap.size, 0, none⟩) k k) (leB v k) := by simpa using hob
      have HB := Lib.hid hob'; clear hob hob' hmk
      go_wp2_with fail
      go_ret
      exact ⟨_, rfl, Nat.le_refl _, HB.out, hbl⟩
theorem isWidth_ok (n : Nat) (w : World) (h1 : 1 ≤ n) (h8 : n ≤ 8) : Calls Tryd.prog 34 #[.int .i64 (n : Int)] w fun e w' => e = .returned (.bool true) ∧ w = w' := by
  have t1 : decide ((n : Int) ≤ 8) = true := by simp; omega
  go_enter Tryd.func34, Tryd.ntmps34
  go_wp2
  go_ret
  exact ⟨rfl, rfl⟩
theorem isWidth_bad (n : Int) (w : World) (h : n < 1 ∨ 8 < n) : Calls Tryd.prog 34 #[.int .i64 n] w fun e w' => e = .returned (.bool false) ∧ w = w' := by
  rcases h with h | h
  · go_enter Tryd.func34, Tryd.ntmps34
    go_wp2
    go_ret
    exact ⟨rfl, rfl⟩
  · have t1 : decide (n ≤ 8) = false := by simp; omega
    go_enter Tryd.func34, Tryd.ntmps34
    go_wp2
    go_ret
    exact ⟨rfl, rfl⟩
def NumPost (l : List UInt8) (n : Nat) (w : World) (e : Ending) (w' : World) : Prop :=
  ∃ g, e = .returned (.tuple #[.slice (some ⟨g, 0, none⟩) n n, .int .i64 0]) ∧ w.heap.size ≤ g ∧ OB w' w.heap.size (.slice (some ⟨g, 0, none⟩) n n) l ∧ Below w.heap.size w w'
theorem shr_zero (v n : Nat) (h : v < 256 ^ n) : (((v : Int) / 2 ^ (8 * n)) != 0) = false := by
  rw [bne_eq_false_iff_eq]
  have : ((v / 2 ^ (8 * n) : Nat) : Int) = (v : Int) / 2 ^ (8 * n) := by simp
  rw [← this, pow_256, Nat.div_eq_of_lt h]; rfl
theorem shr_pos (v n : Nat) (h : 256 ^ n ≤ v) : (((v : Int) / 2 ^ (8 * n)) != 0) = true := by
  rw [bne_iff_ne]
  have : ((v / 2 ^ (8 * n) : Nat) : Int) = (v : Int) / 2 ^ (8 * n) := by simp
  rw [← this, pow_256]
  have := Nat.div_pos h (Nat.pow_pos (by omega))
  omega
theorem num_ok (v n : Nat) (w : World) (h1 : 1 ≤ n) (h8 : n ≤ 8) (hv : v < 256 ^ n) :
    Calls Tryd.prog 27 #[.int .u64 (v : Int), .int .i64 (n : Int)] w (NumPost (leB v n) n w) := by
  have hz := shr_zero v n hv
  have HV := Lib.hid hv; clear hv
  rcases Nat.lt_or_ge n 8 with hlt | hge
  all_goals
    go_enter Tryd.func27, Tryd.ntmps27
    go_wp2_with fail
    refine (isWidth_ok n _ h1 h8).mono ?_
    rintro e w' ⟨rfl, rfl⟩
    go_wp2_with fail
    refine (bytes_any v n _ h8).mono ?_
    intro e w2 hpost
    obtain ⟨g, rfl, hg, hob, hb⟩ := hpost
    have HO := Lib.hid hob; clear hob
    go_wp2_with fail
    go_ret2
    exact ⟨g, rfl, hg, HO.out, hb⟩
theorem num_wide (v : Nat) (n : Int) (w : World) (h : n < 1 ∨ 8 < n) :
    Calls Tryd.prog 27 #[.int .u64 (v : Int), .int .i64 n] w fun e w' => e = .returned (.tuple #[.slice none 0 0, .int .i64 21]) ∧ w = w' := by
  have H := Lib.hid h; clear h
  go_enter Tryd.func27, Tryd.ntmps27
  go_wp2_with fail
  refine (isWidth_bad n _ H.out).mono ?_
  rintro e w' ⟨rfl, rfl⟩
  go_wp2_with fail
  go_ret2
  exact ⟨rfl, rfl⟩
theorem num_big (v n : Nat) (w : World) (h1 : 1 ≤ n) (h8 : n < 8) (hv : 256 ^ n ≤ v) :
    Calls Tryd.prog 27 #[.int .u64 (v : Int), .int .i64 (n : Int)] w fun e w' => e = .returned (.tuple #[.slice none 0 0, .int .i64 21]) ∧ w = w' := by
  have hz := shr_pos v n hv
  have HV := Lib.hid hv; clear hv
  go_enter Tryd.func27, Tryd.ntmps27
  go_wp2_with fail
  refine (isWidth_ok n _ h1 (by omega)).mono ?_
  rintro e w' ⟨rfl, rfl⟩
  go_wp2_with fail
  go_ret2
  exact ⟨rfl, rfl⟩
/-! ### append of a string -/
theorem strCells_bytes (s : ByteArray) : Lib.strCells s = s.data.toList.map byteV := by
  unfold Lib.strCells byteV
  rfl
theorem append_str {w : World} {ops : Array Oper} {rest : List Oper} {o : Oper} {a : Act} {Q : Exit → Act → World → Prop} (hgd : o.guard = none) (s x : Operand)
    (ho : o.op = .call { callee := .builtin .append, args := #[s, x], argTypes := #[28, 9] })
    (base : Nat) (v : Value) (l : List UInt8) (hs : a.eval s = v) (hown : OB w base v l) (t : ByteArray) (hx : a.eval x = .string t)
    (hlen : l.length + t.size ≤ 140737488355328) (hbase : base ≤ w.heap.size)
    (h : ∀ v' w', OB w' base v' (l ++ t.data.toList) → w.grownBy w' v.ownBlock → wpList Tryd.prog ops Q rest (a.put o.dst v') w') : wpList Tryd.prog ops Q (o :: rest) a w := by
  obtain ⟨i0, hi, hz0, hz1, hz2⟩ := info_parts info8
  refine Lib.wpList_append_own_string w hgd s x 28 9 ho base 5 i0 Tryd.underlying28 Tryd.underlying9 hi hz0 hz1 hz2 v l.length (l.map byteV) hs hown t hx (by simp only [maxLen]; omega) hlen hbase ?_
  intro v' w' h1 h2 _
  refine h v' w' ?_ h2
  unfold OB
  rw [strCells_bytes] at h1
  rw [List.length_append, List.map_append]
  exact h1
/-! ### a reader behind its pointer -/
structure RD (w : World) (g : Nat) (A : Option Addr) (n cap : Nat) (l : List UInt8) : Prop where
  blk : Blk w g 70 #[.slice A n cap]
  rd : RB w A n l
  hc : n ≤ cap
def ReadPost (l : List UInt8) (w : World) (e : Ending) (w' : World) : Prop :=
  ∃ g D dc, e = .returned (.pointer (some ⟨g, 0, none⟩)) ∧ w.heap.size ≤ g ∧ RD w' g D l.length dc l ∧ OB w' w.heap.size (.slice D l.length dc) l ∧ Below w.heap.size w w'
theorem read_any (A : Option Addr) (n cap : Nat) (l : List UInt8) (w : World) (hr : RB w A n l) (hn : n ≤ 140737488355328) :
    Calls Tryd.prog 37 #[.slice A n cap] w (ReadPost l w) := by
  have RT := Lib.hid (hr.alloc (.cells #[] 5))
  have OF := Lib.hid (OB.fresh (w := w) (base := w.heap.size) rfl (Nat.le_refl _))
  have hln := hr.1
  have HLN := Lib.hid hln; clear hln hr
  have hL : ([] : List UInt8).length + n ≤ 140737488355328 := by simp; omega
  have hB0 : w.heap.size ≤ (w.alloc (.cells #[] 5)).heap.size := by simp
  go_enter Tryd.func37, Tryd.ntmps37
  go_wp2_with ((at_builtin; go_must (refine append_bytes rfl (.tmp 3) (.tmp 4) rfl w.heap.size _ [] rfl OF.out A n cap l rfl RT.out hL hB0 ?_); intro v3 w3 ho3 hg3 ha3; refine halt ?_))
  refine unhalt ?_
  obtain ⟨D, dc, rfl, hdc, _, hr3⟩ := ho3.form
  have hb3 : Below w.heap.size w w3 := ((Below.refl _ _).alloc (Nat.le_refl _) _).grown hg3 (by simp) (fun j hj => by
          obtain rfl := Option.some.inj hj
          exact Nat.le_refl _)
  have HP : ReadPost l w (.returned (.pointer (some ⟨w3.heap.size, 0, none⟩))) (w3.alloc (.cells #[.slice D l.length dc] 70)) := by
    have ho4 : OB w3 w.heap.size (.slice D l.length dc) l := ho3
    refine ⟨_, D, dc, rfl, hb3.size, ⟨Blk.new w3 _ _ rfl, ?_, hdc⟩, ho4.keep ((Below.refl _ _).alloc (Nat.le_refl _) _), hb3.alloc hb3.size _⟩
    exact RB.alloc hr3 _
  have HQ := Lib.hid HP; clear HP ho3 hg3 ha3 hr3 hb3
  go_wp2_with fail
  go_ret
  exact HQ.out
end Go.Proofs.YtnglgppdkohhpaaDoor
