/- Plain functions for the CRC layer: what the program's and the reference's code compute, on lists of bytes. Nothing of the program is imported. -/
namespace Go.Proofs.YtnglgppdkohhpaaDoor
/-- The program's table: what four places do. -/
def crcHalf (k : Nat) : Nat := [0, 498536548, 997073096, 651767980, 1994146192, 1802195444, 1303535960, 1342533948, 3988292384, 4027552580, 3604390888, 3412177804, 2607071920, 2262029012, 2685067896, 3183342108].getD k 0
def crcNib (v : Nat) : Nat := crcHalf (v % 16) ^^^ (v / 16)
def crcByte (v : Nat) (c : UInt8) : Nat := crcNib (crcNib (v ^^^ c.toNat))
/-- the word behind the bytes -/
def crcOn (v : Nat) (l : List UInt8) : Nat := l.foldl crcByte v
def crcNot (v : Nat) : Nat := v ^^^ 4294967295
def crcMore (s : Nat) (l : List UInt8) : Nat := crcNot (crcOn (crcNot s) l)
def crcAll (s : Nat) (ps : List (List UInt8)) : Nat := ps.foldl crcMore s
/-- The reference's one bit, eight bits, bytes. -/
def crcBit (v : Nat) : Nat := if v % 2 = 1 then v / 2 ^^^ 3988292384 else v / 2
def crcBits : Nat → Nat → Nat
  | 0, v => v
  | k + 1, v => crcBits k (crcBit v)
def crcByteR (v : Nat) (c : UInt8) : Nat := crcBits 8 (v ^^^ c.toNat)
def crcOnR (v : Nat) (l : List UInt8) : Nat := l.foldl crcByteR v
def crcMoreR (s : Nat) (l : List UInt8) : Nat := crcNot (crcOnR (crcNot s) l)

theorem crcHalf_lt (k : Nat) : crcHalf k < 4294967296 := by
  unfold crcHalf
  by_cases h : k < 16
  · have : ∀ k : Fin 16, [0, 498536548, 997073096, 651767980, 1994146192, 1802195444, 1303535960, 1342533948, 3988292384, 4027552580, 3604390888, 3412177804, 2607071920, 2262029012, 2685067896, 3183342108].getD k.1 0 < 4294967296 := by decide
    exact this ⟨k, h⟩
  · rw [List.getD_eq_getElem?_getD, List.getElem?_eq_none (by simp; omega)]; simp
theorem xor_lt32 {a b : Nat} (ha : a < 4294967296) (hb : b < 4294967296) : a ^^^ b < 4294967296 := Nat.xor_lt_two_pow (n := 32) ha hb
theorem crcNib_lt {v : Nat} (h : v < 4294967296) : crcNib v < 4294967296 := xor_lt32 (crcHalf_lt _) (by omega)
theorem crcByte_lt {v : Nat} (c : UInt8) (h : v < 4294967296) : crcByte v c < 4294967296 :=
  crcNib_lt (crcNib_lt (xor_lt32 h (by have := c.toNat_lt; omega)))
theorem crcOn_lt (l : List UInt8) : ∀ {v : Nat}, v < 4294967296 → crcOn v l < 4294967296 := by
  induction l with
  | nil => intro v h; exact h
  | cons c l ih => intro v h; exact ih (crcByte_lt c h)
theorem crcOn_snoc (v : Nat) (l : List UInt8) (c : UInt8) : crcOn v (l ++ [c]) = crcByte (crcOn v l) c := by simp [crcOn]
theorem crcBit_lt {v : Nat} (h : v < 4294967296) : crcBit v < 4294967296 := by
  unfold crcBit; split
  · exact xor_lt32 (by omega) (by omega)
  · omega
theorem crcBits_lt (k : Nat) : ∀ {v : Nat}, v < 4294967296 → crcBits k v < 4294967296 := by
  induction k with
  | zero => intro v h; exact h
  | succ k ih => intro v h; exact ih (crcBit_lt h)
theorem crcByteR_lt {v : Nat} (c : UInt8) (h : v < 4294967296) : crcByteR v c < 4294967296 :=
  crcBits_lt 8 (xor_lt32 h (by have := c.toNat_lt; omega))
theorem crcOnR_lt (l : List UInt8) : ∀ {v : Nat}, v < 4294967296 → crcOnR v l < 4294967296 := by
  induction l with
  | nil => intro v h; exact h
  | cons c l ih => intro v h; exact ih (crcByteR_lt c h)
theorem crcOnR_snoc (v : Nat) (l : List UInt8) (c : UInt8) : crcOnR v (l ++ [c]) = crcByteR (crcOnR v l) c := by simp [crcOnR]
theorem crcNot_lt {v : Nat} (h : v < 4294967296) : crcNot v < 4294967296 := xor_lt32 h (by omega)
theorem crcMore_lt {v : Nat} (l : List UInt8) (h : v < 4294967296) : crcMore v l < 4294967296 := crcNot_lt (crcOn_lt l (crcNot_lt h))
theorem crcMoreR_lt {v : Nat} (l : List UInt8) (h : v < 4294967296) : crcMoreR v l < 4294967296 := crcNot_lt (crcOnR_lt l (crcNot_lt h))
theorem crcAll_lt (ps : List (List UInt8)) : ∀ {v : Nat}, v < 4294967296 → crcAll v ps < 4294967296 := by
  induction ps with
  | nil => intro v h; exact h
  | cons p ps ih => intro v h; exact ih (crcMore_lt p h)
theorem crcAll_snoc (v : Nat) (ps : List (List UInt8)) (p : List UInt8) : crcAll v (ps ++ [p]) = crcMore (crcAll v ps) p := by simp [crcAll]
theorem crcBits_succ (k : Nat) : ∀ v, crcBits (k + 1) v = crcBit (crcBits k v) := by
  induction k with
  | zero => intro v; rfl
  | succ k ih => intro v; rw [crcBits, ih]; rfl
theorem crcKnown1 : crcMore 0 [49, 50, 51, 52, 53, 54, 55, 56, 57] = 3421780262 := by decide +kernel
theorem crcKnown2 : crcMore (crcMore 0 [49, 50, 51, 52]) [53, 54, 55, 56, 57] = 3421780262 := by decide +kernel
theorem crcKnown3 : crcAll 0 [[49, 50], [], [51, 52, 53, 54, 55, 56, 57]] = 3421780262 := by decide +kernel
end Go.Proofs.YtnglgppdkohhpaaDoor
