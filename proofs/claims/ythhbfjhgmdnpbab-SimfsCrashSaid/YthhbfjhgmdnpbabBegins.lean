/- THE WALK of begins; a file as seen tells of it (package heronlaw14). -/
import Derived.Test.YthhbfjhgmdnpbabSeen
namespace Go.Proofs.Ythhbfjhgmdnpbab
open Go.RowKit Go.Maps
def beginsB (s t : List UInt8) : Bool := decide (s.length ≤ t.length) && (t.take s.length == s)
theorem strB_size (l : List UInt8) : (strB l).size = l.length := by simp [strB, ByteArray.size]
theorem strB_list (l : List UInt8) : (strB l).toList = l := by rw [ByteArray.toList_eq]; simp [strB]
theorem strB_front (l : List UInt8) (n : Nat) : ((strB l).extract 0 n).toList = l.take n := by
  rw [ByteArray.toList_eq, ByteArray.data_extract]
  simp [strB, List.extract_eq_take_drop]
theorem begins_any (s t : List UInt8) (W : World) : Calls Try.prog 11 #[.string (strB s), .string (strB t)] W fun e w' => e = .returned (.bool (beginsB s t)) ∧ W = w' := by
  obtain ⟨v, hv⟩ : ∃ v, v = beginsB s t := ⟨_, rfl⟩
  rw [← hv]
  have hs := strB_size s
  have ht := strB_size t
  unfold beginsB at hv
  go_enter Try.func11, Try.ntmps11
  by_cases hl : s.length ≤ t.length
  · have hli : (s.length : Int) ≤ (t.length : Int) := by omega
    have h0 : (0 : Int) ≤ (s.length : Int) := by omega
    have HV : Hid ((((strB t).extract 0 s.length).toList == (strB s).toList) = v) := Lib.hid (by rw [strB_front, strB_list, hv, decide_eq_true hl]; rfl)
    clear hv
    go_wp2_with fail
    go_ret
    exact ⟨congrArg (fun q => Ending.returned (.bool q)) HV.out, rfl⟩
  · have hli : ¬ (s.length : Int) ≤ (t.length : Int) := by omega
    have hvf : v = false := by rw [hv, decide_eq_false hl]; rfl
    clear hv
    subst hvf
    go_wp2_with fail
    go_ret
    exact ⟨rfl, rfl⟩
/-- a File -/
structure Fv where
  i : Int
  s : Int
  g : Int
  n : Int
  b : List UInt8
def fvV (f : Fv) : Value := .agg #[.int .i64 f.i, .int .i64 f.s, .int .i64 f.g, .int .i64 f.n, .string (strB f.b)]
def fvOf (d : Dk) (i : Int) : Fv := match d.fs i with
  | none => ⟨0, 0, 0, 0, []⟩
  | some x => ⟨i, (d.se x.nm).getD 0, (x.ge : Int), (x.by_.length : Int), x.by_⟩
end Go.Proofs.Ythhbfjhgmdnpbab
