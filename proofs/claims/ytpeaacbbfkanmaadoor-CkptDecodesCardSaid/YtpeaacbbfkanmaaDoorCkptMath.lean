/- The image of marks, read again: plain facts on lists of bytes. -/
import Derived.Test.YtpeaacbbfkanmaaDoorCkptEnc
namespace Go.Proofs.YtpeaacbbfkanmaaDoor
open Go.RowKit
theorem bodyB_length (l : List Mk) : (bodyB l).length = 9 + 72 * l.length := by
  unfold bodyB
  rw [List.length_append, List.length_append, marksB_length, leB_length]
  have : magicB.length = 8 := rfl
  omega
theorem encB_length (l : List Mk) : (encB l).length = 13 + 72 * l.length := by
  unfold encB
  rw [List.length_append, bodyB_length, leB_length]; omega
theorem encB_take8 (l : List Mk) : (encB l).take 8 = magicB := by
  unfold encB bodyB
  rw [List.append_assoc, List.append_assoc]
  exact List.take_left' rfl
theorem encB_body (l : List Mk) : (encB l).take ((encB l).length - 4) = bodyB l := by
  have h : (encB l).length - 4 = (bodyB l).length := by rw [encB_length, bodyB_length]; omega
  rw [h]
  unfold encB
  exact List.take_left' rfl
theorem encB_sum (l : List Mk) : (encB l).drop ((encB l).length - 4) = leB (crcMore 0 (bodyB l)) 4 := by
  have h : (encB l).length - 4 = (bodyB l).length := by rw [encB_length, bodyB_length]; omega
  rw [h]
  unfold encB
  exact List.drop_left' rfl
theorem encB_count (l : List Mk) (h : l.length ≤ 8) : leV (((encB l).drop 8).take 1) = l.length := by
  have e : (encB l).drop 8 = leB l.length 1 ++ (marksB l ++ leB (crcMore 0 (bodyB l)) 4) := by
    unfold encB bodyB
    rw [List.append_assoc, List.append_assoc]
    exact List.drop_left' rfl
  rw [e, List.take_left' (leB_length _ 1), leV_leB]
  exact Nat.mod_eq_of_lt (by omega)
/-- the number whose eight bytes lie at p -/
def numAt (b : List UInt8) (p : Nat) : Nat := leV ((b.drop p).take 8)
def mkAt (b : List UInt8) (p : Nat) : Mk := ⟨numAt b p, numAt b (p + 8), numAt b (p + 16), numAt b (p + 24), numAt b (p + 32), numAt b (p + 40), numAt b (p + 48), numAt b (p + 56), numAt b (p + 64)⟩
theorem numAt_bytes (b : List UInt8) (p : Nat) (h : p + 8 ≤ b.length) : leB (numAt b p) 8 = (b.drop p).take 8 :=
  leB_leV _ _ (by rw [List.length_take, List.length_drop]; omega)
theorem take_add' {α : Type} (l : List α) (m n : Nat) : l.take (m + n) = l.take m ++ (l.drop m).take n := List.take_add
theorem mkAt_bytes (b : List UInt8) (p : Nat) (h : p + 72 ≤ b.length) : numsB (mkAt b p).list = (b.drop p).take 72 := by
  have e : ∀ k, k + 8 ≤ 72 → (b.drop p).take (k + 8) = (b.drop p).take k ++ leB (numAt b (p + k)) 8 := fun k hk => by
    rw [numAt_bytes b (p + k) (by omega), take_add', List.drop_drop]
  simp only [numsB, mkAt, Mk.list, List.map_cons, List.map_nil, List.flatten_cons, List.flatten_nil, List.append_nil, Int.toNat_natCast]
  rw [show 72 = 64 + 8 from rfl, e 64 (by omega), show 64 = 56 + 8 from rfl, e 56 (by omega), show 56 = 48 + 8 from rfl, e 48 (by omega), show 48 = 40 + 8 from rfl, e 40 (by omega), show 40 = 32 + 8 from rfl, e 32 (by omega), show 32 = 24 + 8 from rfl, e 24 (by omega), show 24 = 16 + 8 from rfl, e 16 (by omega), show 16 = 8 + 8 from rfl, e 8 (by omega), show 8 = 0 + 8 from rfl, e 0 (by omega)]
  simp
def parse (b : List UInt8) (n : Nat) : List Mk := (List.range n).map fun i => mkAt b (9 + 72 * i)
theorem parse_length (b : List UInt8) (n : Nat) : (parse b n).length = n := by simp [parse]
theorem parse_bytes (b : List UInt8) (n : Nat) (h : 9 + 72 * n ≤ b.length) : marksB (parse b n) = (b.drop 9).take (72 * n) := by
  induction n with
  | zero => simp [parse, marksB]
  | succ n ih =>
    have e1 : parse b (n + 1) = parse b n ++ [mkAt b (9 + 72 * n)] := by simp [parse, List.range_succ]
    have e2 : marksB (parse b n ++ [mkAt b (9 + 72 * n)]) = marksB (parse b n) ++ numsB (mkAt b (9 + 72 * n)).list := by simp [marksB]
    rw [e1, e2, ih (by omega), mkAt_bytes b (9 + 72 * n) (by omega), show 72 * (n + 1) = 72 * n + 72 from by omega, take_add', List.drop_drop]
/-- an image that reads well is the image of what was read -/
theorem parse_enc (b : List UInt8) (n : Nat) (hlen : b.length = 13 + 72 * n) (hmag : b.take 8 = magicB) (hcnt : leV ((b.drop 8).take 1) = n) (hsum : leV (b.drop (b.length - 4)) = crcMore 0 (b.take (b.length - 4))) : encB (parse b n) = b := by
  have h1 : leB n 1 = (b.drop 8).take 1 := by rw [← hcnt]; exact leB_leV _ _ (by rw [List.length_take, List.length_drop]; omega)
  have hbody : bodyB (parse b n) = b.take (b.length - 4) := by
    unfold bodyB
    rw [parse_length, parse_bytes b n (by omega), h1, ← hmag, ← take_add', show 8 + 1 = 9 from rfl, ← take_add', show 9 + 72 * n = b.length - 4 from by omega]
  unfold encB
  rw [hbody, ← hsum, leB_leV _ 4 (by rw [List.length_drop]; omega), List.take_append_drop]
theorem flat_split {α : Type} (f : α → List UInt8) (q : List α) (k : Nat) (hk : k < q.length) : (q.map f).flatten = ((q.take k).map f).flatten ++ (f q[k] ++ ((q.drop (k + 1)).map f).flatten) := by
  conv => lhs; rw [← List.take_append_drop k q, List.drop_eq_getElem_cons hk]
  rw [List.map_append, List.flatten_append, List.map_cons, List.flatten_cons]
theorem numsB_at (q : List Int) {k : Nat} {x : Int} (h : q[k]? = some x) : ((numsB q).drop (8 * k)).take 8 = leB x.toNat 8 := by
  obtain ⟨hk, rfl⟩ := List.getElem?_eq_some_iff.1 h
  have e : numsB q = numsB (q.take k) ++ (leB (q[k]).toNat 8 ++ numsB (q.drop (k + 1))) := flat_split _ q k hk
  rw [e, List.drop_left' (by rw [numsB_length, List.length_take, Nat.min_eq_left (by omega)]), List.take_left' (leB_length _ 8)]
theorem marksB_at (l : List Mk) {i : Nat} {m : Mk} (h : l[i]? = some m) : ((marksB l).drop (72 * i)).take 72 = numsB m.list := by
  obtain ⟨hi, rfl⟩ := List.getElem?_eq_some_iff.1 h
  have e : marksB l = marksB (l.take i) ++ (numsB (l[i]).list ++ marksB (l.drop (i + 1))) := flat_split _ l i hi
  have h72 : (numsB (l[i]).list).length = 72 := by rw [numsB_length]; rfl
  rw [e, List.drop_left' (by rw [marksB_length, List.length_take, Nat.min_eq_left (by omega)]), List.take_left' h72]
/-- the numbers of an image are those that were laid -/
theorem encB_num (l : List Mk) {i k : Nat} {m : Mk} {x : Int} (h : l[i]? = some m) (hx : m.list[k]? = some x) (h0 : 0 ≤ x) (hb : x < 18446744073709551616) : (numAt (encB l) (9 + 72 * i + 8 * k) : Int) = x := by
  have hk : k < 9 := (List.getElem?_eq_some_iff.1 hx).1
  have hi := (List.getElem?_eq_some_iff.1 h).1
  have e9 : (encB l).drop 9 = marksB l ++ leB (crcMore 0 (bodyB l)) 4 := by
    unfold encB bodyB
    rw [List.append_assoc]
    exact List.drop_left' (by rw [List.length_append, leB_length]; rfl)
  have e1 : ((encB l).drop (9 + 72 * i + 8 * k)).take 8 = leB x.toNat 8 := by
    have q1 := marksB_at l h
    have q2 := numsB_at m.list hx
    rw [← q2, ← q1, List.drop_take, List.take_take, List.drop_drop, Nat.min_eq_left (by omega)]
    rw [show 9 + 72 * i + 8 * k = 9 + (72 * i + 8 * k) from by omega, ← List.drop_drop, e9, List.drop_append_of_le_length (by rw [marksB_length]; omega), List.take_append_of_le_length (by rw [List.length_drop, marksB_length]; omega)]
  unfold numAt
  rw [e1, leV_leB, Nat.mod_eq_of_lt (by have : (256 : Nat) ^ 8 = 18446744073709551616 := by decide
                                        omega)]
  omega
end Go.Proofs.YtpeaacbbfkanmaaDoor
