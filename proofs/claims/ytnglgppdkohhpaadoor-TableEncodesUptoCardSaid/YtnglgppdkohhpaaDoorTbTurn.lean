/- Tables that are written over: a list turned element by element; a copied table's cells set; the two Encodes as one. -/
import Derived.Test.YtnglgppdkohhpaaDoorTbCopy
import Derived.Test.YtnglgppdkohhpaaDoorTbKnown
namespace Go.Proofs.YtnglgppdkohhpaaDoor
open Go.RowKit
/-- a region whose last operation is its one store: till then T holds -/
def SL (last : Nat) (T : World → Prop) (ls : Array Bool) (w' : World) : Prop := ls.getD last false = false → T w'
theorem SL.of {last : Nat} {T : World → Prop} {ls : Array Bool} {w : World} (h : T w) : SL last T ls w := fun _ => h
theorem SL.irr {last i : Nat} {T : World → Prop} (h : i ≠ last) : (∀ ls w, SL last T (ls.setIfInBounds i true) w → SL last T ls w) ∧ (∀ ls w, SL last T ls w → SL last T (ls.setIfInBounds i true) w) := by
  unfold SL
  refine ⟨fun ls w h1 => ?_, fun ls w h1 => ?_⟩
  · rwa [getD_set_ne false h] at h1
  · rwa [getD_set_ne false h]
theorem SL.fin {last : Nat} {T : World → Prop} {w : World} {ls : Array Bool} (h : ls.getD last false = true) : SL last T ls w := fun h2 => by rw [h] at h2; cases h2
/-- the first k elements turned -/
def turnF {α : Type} (f : α → α) (l : List α) (k : Nat) : List α := (l.take k).map f ++ l.drop k
section
variable {α : Type} {f : α → α} {l : List α} {k : Nat}
theorem turnF_zero : turnF f l 0 = l := by simp [turnF]
theorem turnF_all (h : l.length ≤ k) : turnF f l k = l.map f := by unfold turnF; rw [List.take_of_length_le h, List.drop_of_length_le h, List.append_nil]
theorem turnF_length : (turnF f l k).length = l.length := by unfold turnF; simp; omega
theorem turnF_at {x : α} (h : l[k]? = some x) : (turnF f l k)[k]? = some x := by
  obtain ⟨hk, rfl⟩ := List.getElem?_eq_some_iff.1 h
  have hl : ((l.take k).map f).length = k := by rw [List.length_map, List.length_take, Nat.min_eq_left (by omega)]
  unfold turnF
  rw [List.getElem?_append_right (by omega), hl, Nat.sub_self, List.drop_eq_getElem_cons hk]; rfl
theorem turnF_set {x : α} (h : l[k]? = some x) : (turnF f l k).set k (f x) = turnF f l (k + 1) := by
  obtain ⟨hk, rfl⟩ := List.getElem?_eq_some_iff.1 h
  have hl : ((l.take k).map f).length = k := by rw [List.length_map, List.length_take, Nat.min_eq_left (by omega)]
  unfold turnF
  rw [List.set_append_right _ _ (by omega), hl, Nat.sub_self, List.drop_eq_getElem_cons hk, List.set_cons_zero, take_snoc (List.getElem?_eq_getElem hk), List.map_append, List.append_assoc]
  rfl
theorem turnF_self {x : α} (h : l[k]? = some x) : (turnF f l k).set k x = turnF f l k := by
  have := turnF_at (f := f) h
  obtain ⟨hk, e⟩ := List.getElem?_eq_some_iff.1 this
  conv => lhs; rw [← e]
  exact List.set_getElem_self hk
theorem mem_turnF {x : α} (h : x ∈ turnF f l k) : (∃ y ∈ l, x = f y) ∨ x ∈ l := by
  unfold turnF at h
  rcases List.mem_append.1 h with h | h
  · obtain ⟨y, hy, rfl⟩ := List.mem_map.1 h
    exact .inl ⟨y, List.mem_of_mem_take hy, rfl⟩
  · exact .inr (List.mem_of_mem_drop h)
end
section
variable {W W' : World} {N0 : Nat} {vn vf ve : Value} {t : Tb} {vs : List Value} {z : Value}
theorem CP.setE {g n c : Nat} (h : CP W N0 vn vf (.slice (some ⟨g, 0, none⟩) n c) t vs z) {k : Nat} (hk : k < t.en.length) (x : Nat) : CP (W.setCell ⟨g, k, none⟩ (uV x)) N0 vn vf (.slice (some ⟨g, 0, none⟩) n c) { t with en := t.en.set k x } vs z := by
  have hc : Chg (fun q => q = g) W (W.setCell ⟨g, k, none⟩ (uV x)) := Chg.setCell (S := fun q => q = g) (p := ⟨g, k, none⟩) (Chg.refl _ W) (.inl rfl) _
  refine ⟨h.on.chg hc (fun q hq e => h.on.apart h.oe (by decide) (by rw [hq, e]; rfl)), h.of_.chg hc (fun q hq e => h.fe (by rw [hq, e]; rfl)), ?_, h.len, fun s v row hv hr => (h.rows s v row hv hr).chg hc (fun q hq e => (h.rows s v row hv hr).apart h.oe (by decide) (by rw [hq, e]; rfl)), h.ap, h.fe, h.hz⟩
  have := h.oe.stored (j := k) (by rw [List.length_map]; exact hk) (uV x)
  rw [← List.map_set] at this
  exact this
theorem CP.setN {i g n c : Nat} {row : List Int} (h : CP W N0 vn vf ve t vs z) (hv : vs[i]? = some (.slice (some ⟨g, 0, none⟩) n c)) (hr : t.nx[i]? = some row) {k : Nat} (hk : k < row.length) (x : Int) : CP (W.setCell ⟨g, k, none⟩ (iV x)) N0 vn vf ve { t with nx := t.nx.set i (row.set k x) } vs z := by
  have hc : Chg (fun q => q = g) W (W.setCell ⟨g, k, none⟩ (iV x)) := Chg.setCell (S := fun q => q = g) (p := ⟨g, k, none⟩) (Chg.refl _ W) (.inl rfl) _
  have hp := h.rows i _ row hv hr
  have hil := (List.getElem?_eq_some_iff.1 hr).1
  refine ⟨h.on.chg hc (fun q hq e => h.on.apart hp (by decide) (by rw [hq, e]; rfl)), h.of_.chg hc (fun q hq e => h.of_.apart hp (by decide) (by rw [hq, e]; rfl)), h.oe.chg hc (fun q hq e => h.oe.apart hp (by decide) (by rw [hq, e]; rfl)), by rw [h.len, List.length_set], fun s v row' hv' hr' => ?_, h.ap, h.fe, h.hz⟩
  by_cases e : s = i
  · subst e
    rw [hv] at hv'
    obtain rfl := Option.some.inj hv'
    rw [List.getElem?_set_self hil] at hr'
    obtain rfl := Option.some.inj hr'
    have := hp.stored (j := k) (by rw [List.length_map]; exact hk) (iV x)
    rw [← List.map_set] at this
    exact this
  · rw [List.getElem?_set_ne (fun h => e h.symm)] at hr'
    have h2 := h.rows s v row' hv' hr'
    exact h2.chg hc (fun q hq e2 => e (h.ap s i v _ hv' hv (by rw [hq, e2]; rfl)))
/-- the blocks of a copied table lie between -/
def Blks (N0 N1 : Nat) (vn vf ve : Value) (vs : List Value) : Prop := ∀ v, (v = vn ∨ v = vf ∨ v = ve ∨ v ∈ vs) → ∀ k, v.ownBlock = some k → N0 ≤ k ∧ k < N1
theorem PR.at_ {e : TypeId} {v : Value} {xs : List Value} {z : Value} (h : PR W N0 e v xs z) : ∀ k, v.ownBlock = some k → N0 ≤ k ∧ k < W.heap.size := fun k hk => by
  obtain ⟨g, h1, h2, h3⟩ := h.lt
  rw [h1] at hk
  obtain rfl := Option.some.inj hk
  exact ⟨h2, h3⟩
theorem CP.blks (h : CP W N0 vn vf ve t vs z) : Blks N0 W.heap.size vn vf ve vs := by
  rintro v (rfl | rfl | rfl | hm)
  · exact h.on.at_
  · exact h.of_.at_
  · exact h.oe.at_
  · obtain ⟨i, hi⟩ := List.getElem?_of_mem hm
    have hl := (List.getElem?_eq_some_iff.1 hi).1
    rw [h.len] at hl
    exact (h.rows i v _ hi (List.getElem?_eq_getElem hl)).at_
theorem CP.chgB {N1 : Nat} {S : Nat → Prop} (h : CP W N0 vn vf ve t vs z) (hB : Blks N0 N1 vn vf ve vs) (hc : Chg S W W') (hS : ∀ b, N0 ≤ b → b < N1 → ¬ S b) : CP W' N0 vn vf ve t vs z := by
  have key : ∀ {e v xs z}, PR W N0 e v xs z → (v = vn ∨ v = vf ∨ v = ve ∨ v ∈ vs) → PR W' N0 e v xs z := fun hp hm => hp.chg hc (fun k hk => hS k (hB _ hm k hk).1 (hB _ hm k hk).2)
  exact ⟨key h.on (.inl rfl), key h.of_ (.inr (.inl rfl)), key h.oe (.inr (.inr (.inl rfl))), h.len, fun s v row hv hr => key (h.rows s v row hv hr) (.inr (.inr (.inr (List.mem_of_getElem? hv)))), h.ap, h.fe, h.hz⟩
end
open Classical in
noncomputable def encE (t : Tb) : List UInt8 := if Fits t then encT t else []
open Classical in
noncomputable def errE (t : Tb) : Int := if Fits t then 0 else 70
theorem encE_len (t : Tb) (hc : t.cls.length = 256) : (encE t).length ≤ 2130194 := by
  unfold encE
  by_cases h : Fits t
  · rw [if_pos h, encT_length hc h]
    have := rows_le h.n2 h.m2
    omega
  · rw [if_neg h]; simp
def EncB (t : Tb) (w : World) (e : Ending) (w' : World) : Prop := ∃ v, e = .returned (.tuple #[v, .int .i64 (errE t)]) ∧ OB w' w.heap.size v (encE t) ∧ Below w.heap.size w w'
theorem enc_both (cs : Array Value) (t : Tb) (w : World) (hT : CrcTab w) (h : TB w cs t) : Calls Tryd.prog 10 #[.agg cs] w (EncB t w) := by
  unfold EncB encE errE
  by_cases hf : Fits t
  · simp only [if_pos hf]
    refine (tencode_ok cs t w hT h hf).mono ?_
    rintro e w' ⟨v, rfl, h1, h2⟩
    exact ⟨v, rfl, h1, h2⟩
  · simp only [if_neg hf]
    refine (tencode_bad cs t w h (rightB_false hf)).mono ?_
    rintro e w' ⟨rfl, h2⟩
    exact ⟨_, rfl, OB.nil _ _, h2⟩
theorem renc_both (cs : Array Value) (t : Tb) (w : World) (h : TB w cs t) : Calls Tryd.prog 8 #[.agg cs] w (EncB t w) := by
  unfold EncB encE errE
  refine (renc_any cs t w h).mono ?_
  rintro e w' ⟨v, k, rfl, ⟨hf, rfl, h1⟩ | ⟨hf, rfl, rfl⟩, h2⟩
  · simp only [if_pos hf]
    exact ⟨v, rfl, h1, h2⟩
  · simp only [if_neg hf]
    exact ⟨_, rfl, OB.nil _ _, h2⟩
theorem full_any (A : Option Addr) (n cap : Nat) (l : List UInt8) (x : UInt8) (w : World) (hl : RB w A n l) (hx : ∀ c ∈ l, c = x) (hn : n ≤ 140737488355328) :
    Calls Tryd.prog 12 #[.slice A n cap, .int .u8 (x.toNat : Int)] w fun e w' => e = .returned (.bool true) ∧ w = w' := by
  have HL := Lib.hid hl; have HX := Lib.hid hx; clear hl hx
  go_enter Tryd.func12, Tryd.ntmps12
  go_wp2_with fail
  go_loop [8] (fun i => ∃ k : Nat, k ≤ n ∧ i = .int .i64 k) (fun i => n - (intOf i).toNat)
  case atStart => exact ⟨0, Nat.zero_le _, rfl⟩
  case round =>
    obtain ⟨k, hk, rfl⟩ := hrel
    by_cases hlt : k < n
    · obtain ⟨b, off, rfl, hb, c, hc, hcell⟩ := HL.out.at_ hlt
      obtain rfl := HX.out c (List.mem_of_getElem? hc)
      clear hc
      go_wp2_with fail
      go_round
      case rel => exact ⟨k + 1, by omega, by go_num⟩
      case measure => simp [intOf]; omega
    · go_wp2_with fail
      go_ret
      exact ⟨rfl, rfl⟩
def Apt (v v' : Value) : Prop := ∀ k, v.ownBlock = some k → v'.ownBlock ≠ some k
theorem Apt.symm {v v' : Value} (h : Apt v v') : Apt v' v := fun k hk hk' => h k hk' hk
theorem apt_later {w w' : World} {base base' : Nat} {v v' : Value} {l l' : List UInt8} (h : OB w base v l) (h' : OB w' base' v' l') (hb : w.heap.size ≤ base') : Apt v v' := fun k hk hk' => by
  have := (h.lt k hk).2
  have := (h'.lt k hk').1
  omega
theorem apt_fresh {W : World} {v v' y : Value} (hf : FreshV W v v') (h : Apt v y) (hy : ∀ k, y.ownBlock = some k → k < W.heap.size) : Apt v' y := fun k hk hk' => by
  rcases hf k hk with h1 | h1
  · exact h k h1 hk'
  · have := hy k hk'; omega
theorem fill_at (E : List UInt8) (x : UInt8) {k : Nat} (hk : k < E.length) : ∃ c, (List.replicate k x ++ E.drop k)[k]? = some c :=
  ⟨_, List.getElem?_eq_getElem (by rw [List.length_append, List.length_replicate, List.length_drop]; omega)⟩
theorem fill_step (E : List UInt8) (x : UInt8) {k : Nat} (hk : k < E.length) : (List.replicate k x ++ E.drop k).set k x = List.replicate (k + 1) x ++ E.drop (k + 1) := by
  rw [List.set_append_right _ _ (by simp), List.length_replicate, Nat.sub_self, List.drop_eq_getElem_cons hk, List.set_cons_zero, List.replicate_succ', List.append_assoc]
  rfl
theorem ob_some {w : World} {base n c : Nat} {A : Option Addr} {l : List UInt8} (h : OB w base (.slice A n c) l) (hn : 0 < n) : ∃ g, A = some ⟨g, 0, none⟩ := by
  have hl := h.len
  rcases h.2 with ⟨e, h0⟩ | ⟨g, cap, cur, e, _⟩
  · omega
  · injection e with e _ _
    exact ⟨g, e⟩
def or31 (x : Nat) : Nat := x ||| 2147483648
theorem or31_lt {x : Nat} (h : x < 4294967296) : or31 x < 4294967296 := Nat.or_lt_two_pow (n := 32) (by simpa using h) (by decide)
theorem bits_or31 {x : Nat} (h : x < 4294967296) : bits .or .u32 (x : Int) 2147483648 = (or31 x : Int) := u32_or_nat x 2147483648 h (by decide)
end Go.Proofs.YtnglgppdkohhpaaDoor
