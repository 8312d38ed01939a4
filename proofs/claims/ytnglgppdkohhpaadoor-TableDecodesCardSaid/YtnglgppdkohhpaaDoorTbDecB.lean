/- The two Decodes of any bytes, as one answer. -/
import Derived.Test.YtnglgppdkohhpaaDoorTbRDecB
namespace Go.Proofs.YtnglgppdkohhpaaDoor
open Go.RowKit
theorem IsEnc.len {l : List UInt8} (h : IsEnc l) : 274 ≤ l.length := by
  obtain ⟨t, hs, hf, rfl⟩ := h
  rw [encT_length hs.hc hf]; omega
theorem IsEnc.ok {l : List UInt8} (h : IsEnc l) : okLen l := by
  obtain ⟨t, hs, hf, rfl⟩ := h
  exact enc_okLen hs hf
theorem rdecode_any (A : Option Addr) (n cap : Nat) (l : List UInt8) (w : World) (hr : RB w A n l) (hn : n ≤ 141836999983104) :
    Calls Tryd.prog 13 #[.slice A n cap] w (RDecQ l w) := by
  have hl := hr.1
  by_cases h1 : n < 274
  · exact (rdecode_short A n cap w h1).mono fun e w' h => .inr ⟨fun he => by have := he.len; omega, h⟩
  · by_cases h2 : okLen l
    · exact rdecode_main A n cap l w hr hn (by omega) h2
    · exact (rdecode_len A n cap l w hr hn (by omega) h2).mono fun e w' h => .inr ⟨fun he => h2 he.ok, h⟩
open Classical in
noncomputable def decT (l : List UInt8) : Tb := if IsEnc l then readT l else zeroT
open Classical in
noncomputable def decE (l : List UInt8) : Int := if IsEnc l then 0 else 120
theorem IsEnc.read {l : List UInt8} (h : IsEnc l) : Sound (readT l) ∧ Fits (readT l) ∧ encT (readT l) = l := by
  obtain ⟨t, hs, hf, rfl⟩ := h
  rw [readT_enc hs hf]
  exact ⟨hs, hf, rfl⟩
theorem decT_sound (l : List UInt8) : Sound (decT l) := by
  unfold decT
  by_cases h : IsEnc l
  · rw [if_pos h]; exact h.read.1
  · rw [if_neg h]; exact zero_sound
/-- what is answered: a table, in memory of its own -/
def DecB (l : List UInt8) (w : World) (e : Ending) (w' : World) : Prop :=
  ∃ vn vf ve N0 m gs, e = .returned (.tuple #[.agg (dcells (decT l).cls vn vf ve), .int .i64 (decE l)]) ∧ w.heap.size ≤ N0 ∧ OL w' N0 vn vf ve (decT l) m gs ∧ m ≤ 256 ∧ ((decT l).nx.length ≤ 4096 ∧ (decT l).fo.length ≤ 4096 ∧ (decT l).en.length ≤ 4096) ∧ Below w.heap.size w w'
theorem tdec_both (A : Option Addr) (n cap : Nat) (l : List UInt8) (w : World) (hT : CrcTab w) (hr : RB w A n l) (hn : n ≤ 141836999983104) :
    Calls Tryd.prog 14 #[.slice A n cap] w (DecB l w) := by
  unfold DecB decT decE
  by_cases h : IsEnc l
  · simp only [if_pos h]
    obtain ⟨h1, h2, h3⟩ := h.read
    refine (decode_yes A n cap w hT h1 h2 (by rw [h3]; exact hr)).mono ?_
    rintro e w' ⟨vn, vf, ve, N0, m, gs, rfl, g1, g2, g3, g4, g5⟩
    exact ⟨vn, vf, ve, N0, m, gs, rfl, g1, g2, g3, ⟨g4, by rw [h2.f]; exact g4, by rw [h2.e]; exact g4⟩, g5⟩
  · simp only [if_neg h]
    refine (decode_none A n cap l w hT hr hn h).mono ?_
    rintro e w' ⟨rfl, h2⟩
    exact ⟨nilV, nilV, nilV, w.heap.size, 0, [], rfl, Nat.le_refl _, OL.nil w' _ zcls 0, by omega, ⟨Nat.zero_le _, Nat.zero_le _, Nat.zero_le _⟩, h2⟩
theorem tb_size_one {w : World} {cs : Array Value} {t : Tb} (h : TB w cs t) : cs.size = 259 ∧ cs.all (·.oneCell') = true := by
  refine ⟨h.size, ?_⟩
  obtain ⟨_, _, _, _, _, _, e, _⟩ := h.ex
  rw [e]; exact dcells_one rfl rfl rfl
def RDecB (l : List UInt8) (w : World) (e : Ending) (w' : World) : Prop :=
  ∃ cs, e = .returned (.tuple #[.agg cs, .int .i64 (decE l)]) ∧ TB w' cs (decT l) ∧ Below w.heap.size w w'
theorem zero_tb (w : World) : TB w (dcells zcls nilV nilV nilV) zeroT :=
  (OL.nil w w.heap.size zcls 0).tb (t := zeroT) zlen zero_sound.hu (by omega) ⟨Nat.zero_le _, Nat.zero_le _, Nat.zero_le _⟩
theorem rdec_both (A : Option Addr) (n cap : Nat) (l : List UInt8) (w : World) (hr : RB w A n l) (hn : n ≤ 141836999983104) :
    Calls Tryd.prog 13 #[.slice A n cap] w (RDecB l w) := by
  unfold RDecB decT decE
  refine (rdecode_any A n cap l w hr hn).mono ?_
  rintro e w' (⟨cs, t, hs, hf, he, rfl, htb, hb⟩ | ⟨hne, rfl, hb⟩)
  · have h : IsEnc l := ⟨t, hs, hf, he⟩
    simp only [if_pos h]
    refine ⟨cs, rfl, ?_, hb⟩
    rw [he, readT_enc hs hf]
    exact htb
  · simp only [if_neg hne]
    exact ⟨_, rfl, zero_tb w', hb⟩
end Go.Proofs.YtnglgppdkohhpaaDoor
