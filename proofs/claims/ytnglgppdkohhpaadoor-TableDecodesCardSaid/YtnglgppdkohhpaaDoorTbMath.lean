/- The bytes of a table. -/
import Derived.Test.YtnglgppdkohhpaaDoorTbRightB
import Derived.Test.YtnglgppdkohhpaaDoorRecFns
import Derived.Test.YtnglgppdkohhpaaDoorCrcFns
namespace Go.Proofs.YtnglgppdkohhpaaDoor
open Go.RowKit
def magicT : List UInt8 := [72, 69, 82, 79, 78, 68, 70, 49]
def intsB (l : List Int) (n : Nat) : List UInt8 := (l.map fun x => leB x.toNat n).flatten
def rowB (l : List Int) (f e : Nat) : List UInt8 := intsB l 2 ++ leB f 4 ++ leB e 4
def rowsB (t : Tb) (k : Nat) : List UInt8 := ((List.range k).map fun s => rowB (t.nx.getD s []) (t.fo.getD s 0) (t.en.getD s 0)).flatten
def frontB (t : Tb) : List UInt8 := magicT ++ leB t.nx.length 4 ++ leB (many t) 2
def headB (t : Tb) : List UInt8 := frontB t ++ intsB t.cls 1
def bodyT (t : Tb) : List UInt8 := headB t ++ rowsB t t.nx.length
def encT (t : Tb) : List UInt8 := bodyT t ++ leB (crcMore 0 (bodyT t)) 4
theorem intsB_length (l : List Int) (n : Nat) : (intsB l n).length = n * l.length := by
  unfold intsB
  induction l with
  | nil => rfl
  | cons x l ih => simp only [List.map_cons, List.flatten_cons, List.length_append, leB_length, List.length_cons, ih, Nat.mul_add, Nat.mul_one]; omega
theorem intsB_snoc {l : List Int} {k n : Nat} {x : Int} (h : l[k]? = some x) : intsB (l.take (k + 1)) n = intsB (l.take k) n ++ leB x.toNat n := by
  unfold intsB; rw [take_snoc h]; simp
theorem rowB_length (l : List Int) (f e : Nat) : (rowB l f e).length = 2 * l.length + 8 := by
  unfold rowB; simp only [List.length_append, intsB_length, leB_length]
theorem rowsB_snoc (t : Tb) (k : Nat) : rowsB t (k + 1) = rowsB t k ++ rowB (t.nx.getD k []) (t.fo.getD k 0) (t.en.getD k 0) := by
  unfold rowsB; rw [List.range_succ]; simp
theorem rowsB_length {t : Tb} (h : ∀ (s : Nat) (l : List Int), t.nx[s]? = some l → l.length = many t) (k : Nat) (hk : k ≤ t.nx.length) : (rowsB t k).length = k * (2 * many t + 8) := by
  induction k with
  | zero => simp [rowsB]
  | succ k ih =>
    obtain ⟨l, hl⟩ : ∃ l, t.nx[k]? = some l := ⟨_, List.getElem?_eq_getElem (by omega)⟩
    rw [rowsB_snoc, List.length_append, ih (by omega), rowB_length, List.getD_eq_getElem?_getD, hl, Option.getD_some, h k l hl]
    exact (Nat.succ_mul _ _).symm
theorem frontB_length (t : Tb) : (frontB t).length = 14 := by unfold frontB; simp only [List.length_append, leB_length]; rfl
theorem headB_length {t : Tb} (h : t.cls.length = 256) : (headB t).length = 270 := by unfold headB; rw [List.length_append, frontB_length, intsB_length, h]
theorem bodyT_length {t : Tb} (hc : t.cls.length = 256) (h : Fits t) : (bodyT t).length = 270 + t.nx.length * (2 * many t + 8) := by
  unfold bodyT; rw [List.length_append, headB_length hc, rowsB_length (fun s l hl => (h.r s l hl).1) _ (Nat.le_refl _)]
theorem encT_length {t : Tb} (hc : t.cls.length = 256) (h : Fits t) : (encT t).length = 274 + t.nx.length * (2 * many t + 8) := by
  unfold encT; rw [List.length_append, bodyT_length hc h, leB_length]; omega
theorem rows_le {n m : Nat} (h1 : n ≤ 4096) (h2 : m ≤ 256) : n * (2 * m + 8) ≤ 2129920 := by
  calc n * (2 * m + 8) ≤ 4096 * (2 * m + 8) := Nat.mul_le_mul_right _ h1
    _ ≤ 4096 * 520 := Nat.mul_le_mul_left _ (by omega)
    _ = 2129920 := by decide
end Go.Proofs.YtnglgppdkohhpaaDoor
