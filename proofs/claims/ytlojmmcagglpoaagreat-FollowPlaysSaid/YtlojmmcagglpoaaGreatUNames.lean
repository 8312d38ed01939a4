/- THE WALK of the disk's Names. -/
import Derived.Test.YtlojmmcagglpoaaGreatUDiskC
import Derived.Test.YtlojmmcagglpoaaGreatULay
import Derived.Test.YtlojmmcagglpoaaGreatUMapF
import Derived.Sort.OwnSorted
namespace Go.Proofs.YtlojmmcagglpoaaGreat
open Go.RowKit Go.Maps Go.WideShapes
def RM {κ ε : Type} (P : Program) (k : TypeId) (kl : κ → Lit) (ed : ε → DataW Unit) (R : Value → Option (DataW Unit × List MemPlace)) (w : World) (b r n : Nat) (m : κ → Option ε) (L : List κ) : Prop :=
  ∃ (D : DataW Unit) (left : Lit → Bool) (cnt : Nat), w.ranges P k R b r n D left cnt ∧ (∀ x, Maps.has D (kl x) = (m x).isSome) ∧ (∀ x e, m x = some e → ∀ z, D.atKey (kl x) z = ed e) ∧ (∀ x, left (kl x) = true ↔ (m x).isSome = true ∧ x ∉ L) ∧ cnt + L.length ≤ n ∧ L.Nodup ∧ ∀ x ∈ L, (m x).isSome = true
section
variable {P : Program} {k : TypeId} {κ ε : Type} {kv : κ → Value} {kl : κ → Lit} {ev : ε → Value} {ed : ε → DataW Unit} {zv : Value} {zd : DataW Unit} {R : Value → Option (DataW Unit × List MemPlace)} {okK : κ → Prop} {okE : ε → Prop}
variable {w w' : World} {b r n : Nat} {m : κ → Option ε} {L : List κ}
theorem RM.len (h : RM P k kl ed R w b r n m L) : L.length ≤ n := by
  obtain ⟨D, left, cnt, h1, h2, h3, h4, h5, _⟩ := h
  omega
theorem RM.nodup (h : RM P k kl ed R w b r n m L) : L.Nodup := by
  obtain ⟨D, left, cnt, h1, h2, h3, h4, h5, h6, h7⟩ := h
  exact h6
theorem RM.mem (h : RM P k kl ed R w b r n m L) {x : κ} (hx : x ∈ L) : (m x).isSome = true := by
  obtain ⟨D, left, cnt, h1, h2, h3, h4, h5, h6, h7⟩ := h
  exact h7 x hx
theorem RM.grown {row : Option Nat} (h : RM P k kl ed R w b r n m L) (hg : w.grownBy w' row) (hb : some b ≠ row) (hr : some r ≠ row) : RM P k kl ed R w' b r n m L := by
  obtain ⟨D, left, cnt, h1, h2⟩ := h
  exact ⟨D, left, cnt, h1.kept hg hb hr, h2⟩
theorem RM.alloc (h : RM P k kl ed R w b r n m L) (o : Obj) : RM P k kl ed R (w.alloc o) b r n m L := h.grown (World.grownBy_alloc w o none) (by simp) (by simp)
theorem RM.ne_own {base size nn : Nat} {t : TypeId} {v : Value} {xs : List Value} (h : RM P k kl ed R w b r n m L) (ho : w.ownsRow base t size v nn xs) : some r ≠ v.ownBlock ∧ some b ≠ v.ownBlock := by
  obtain ⟨D, left, cnt, h1, _⟩ := h
  obtain ⟨es, clock, since, seen, c0, hb, _, _, _, hr, _⟩ := h1
  rcases ho.2 with ⟨rfl, _⟩ | ⟨g, cap, cur, rfl, _, hh, _⟩
  · simp [Value.ownBlock]
  · refine ⟨fun e => ?_, fun e => ?_⟩
    · have : r = g := by simpa [Value.ownBlock] using e
      rw [this, hh] at hr; cases hr
    · have : b = g := by simpa [Value.ownBlock] using e
      rw [this, hh] at hb; cases hb
theorem range_fm {ops : Array Oper} {rest : List Oper} {o : Oper} {a : Act} {Q : Exit → Act → World → Prop} (hg : o.guard = none) (mo : Operand) (t : TypeId) (hop : o.op = Op.range t mo) (e : TypeId) (K : Keyed P k) (ht : P.underlying t = some (.map k e))
    (hm : a.eval mo = .map (some b)) (h : FM P k kl ed R w b n m)
    (hK : ∀ w', RM P k kl ed R w' b w.heap.size n m [] → Below w.heap.size w w' → wpList P ops Q rest (a.put o.dst (.pointer (some ⟨w.heap.size, 0, none⟩))) w') : wpList P ops Q (o :: rest) a w := by
  obtain ⟨D, h1, h2, h3⟩ := h
  refine wpList_range_own w hg mo t hop k e K ht R b n D hm h1 fun w' hr hgr hs => hK w' ⟨D, _, _, hr, h2, h3, fun x => ?_, by simpa using h1.size_le, List.nodup_nil, by simp⟩ ((Below.refl _ w).grown hgr (Nat.le_refl _) (by simp))
  rw [h2]; simp
theorem next_fm {ops : Array Oper} {rest : List Oper} {o : Oper} {a : Act} {Q : Exit → Act → World → Prop} (hg : o.guard = none) (it : Operand) (hop : o.op = Op.next it false) (K : Keyed P k) (M : MR P k kv kl ev ed zv zd R okK okE)
    (inv : ∀ key q, keyOf P k key = some q → ∃ x, key = kv x ∧ q = kl x) (hit : a.eval it = .pointer (some ⟨r, 0, none⟩)) (h : RM P k kl ed R w b r n m L)
    (hDone : (∀ x, (m x).isSome = true → x ∈ L) → wpList P ops Q rest (a.put o.dst (.tuple #[.bool false])) w)
    (hMore : ∀ (x : κ) (e : ε) (w' : World), m x = some e → x ∉ L → RM P k kl ed R w' b r n m (L ++ [x]) → w.grownBy w' (some r) → w'.heap.size = w.heap.size → (Instr.entry (.pointer (some ⟨r, 0, none⟩))).run P w' = .ok (.tuple #[kv x, ev e]) w' → wpList P ops Q rest (a.put o.dst (.tuple #[.bool true, kv x, ev e])) w') :
    wpList P ops Q (o :: rest) a w := by
  obtain ⟨D, left, cnt, h1, h2, h3, h4, h5, h6, h7⟩ := h
  refine wpList_next_ranges w hg it hop k K R (fun v : Value => v) (fun v : Value => v) (fun key _ _ => ⟨key, rfl⟩) (fun v _ _ => ⟨v, rfl⟩) b r n D left cnt hit h1 (fun _ hl => hDone fun x hx => ?_) ?_
  · by_cases hn : x ∈ L
    · exact hn
    · exact absurd ((h4 x).2 ⟨hx, hn⟩) (by rw [hl]; simp)
  · intro key v q y w1 cnt1 hkey hlq hv hat hrg hlt hgr hsz hen
    obtain ⟨x, rfl, rfl⟩ := inv key q hkey
    obtain ⟨hs, hn⟩ := (h4 x).1 hlq
    obtain ⟨e, he⟩ := Option.isSome_iff_exists.1 hs
    have hy : R v = some (D.atKey (kl x) zd, y.2) := by rw [hv, hat zd]
    have hve : v = ev e := by
      have := FM.at_ M h2 h3 x hy
      rw [he] at this; exact this
    subst hve
    refine hMore x e w1 he hn ⟨D, _, cnt1, hrg, h2, h3, fun z => ?_, by simp; omega, ?_, fun z hz => ?_⟩ hgr hsz hen
    · have hsk : (kl z).sameKey (kl x) = true ↔ z = x := ⟨fun e1 => M.inj _ _ (WideAt.sameKey_eq e1), fun e1 => by
        rw [e1]
        have hK := K.key hkey
        exact WideAt.sameKey_self hK⟩
      by_cases e1 : z = x
      · subst e1
        have : (kl z).sameKey (kl z) = true := hsk.2 rfl
        simp [this]
      · have : (kl z).sameKey (kl x) = false := by
          cases hc : (kl z).sameKey (kl x) with
          | false => rfl
          | true => exact absurd (hsk.1 hc) e1
        have := this
        simp only [this, Bool.not_false, Bool.and_true, h4, List.mem_append, List.mem_singleton, e1, or_false]
    · rw [List.nodup_append]
      exact ⟨h6, by simp, fun z hz z' hz' => by simp at hz'; intro e1; exact hn (by rw [← hz', ← e1]; exact hz)⟩
    · rcases List.mem_append.1 hz with h | h
      · exact h7 z h
      · simp at h; rw [h]; exact hs
end
end Go.Proofs.YtlojmmcagglpoaaGreat
namespace Go.Proofs.YtlojmmcagglpoaaGreat
open Go.RowKit Go.Maps Go.Sort
theorem invS (key : Value) (q : Lit) (h : keyOf Tryz.prog 9 key = some q) : ∃ x, key = sV x ∧ q = sL x := by
  have hk := Tryz.underlying9
  cases key <;> simp [keyOf, hk, mapKey] at h
  rename_i s
  refine ⟨s.data.toList, ?_, ?_⟩
  · unfold sV strB
    simp
  · exact h.2.symm
theorem infoS : (Tryz.prog.info? 9).map (fun i => (i.zero, i.size, i.bytes)) = some (some (.string .empty), 1, 16) := by kernel_rfl
def lenOf (v : Value) : Nat := match v with
  | .slice _ n _ => n
  | _ => 0
def NamesQ (W : World) (d : Dk) (e : Ending) (w' : World) : Prop :=
  ∃ (v : Value) (ss : List (List UInt8)), e = .returned v ∧ ss.Nodup ∧ (∀ x, x ∈ ss ↔ (d.ns x).isSome = true) ∧ w'.ownsRow W.heap.size 9 1 v ss.length ((ss.mergeSort fun x y => decide (x ≤ y)).map sV) ∧ Below W.heap.size W w'
set_option maxRecDepth 20000 in
set_option maxHeartbeats 1000000 in
theorem names_any {W : World} {N p q : Nat} {d : Dk} {bf bn bs : Nat} {fl : Int → Option Nat} (h : DW W N p q d bf bn bs fl) (hq : q < 1000000) :
    Calls Tryz.prog 42 #[.pointer (some ⟨p, 0, none⟩)] W (NamesQ W d) := by
  have H := Lib.hid h
  have c1 : W.cell? ⟨p, 1, none⟩ = some (.map (some bn)) := (h.bd.cell 1).trans rfl
  have HQ := Lib.hid hq
  clear h hq
  go_enter Tryz.func42, Tryz.ntmps42
  go_wp2_with ((at_range; go_must (refine range_fm (n := q) rfl _ _ rfl 3 strK Tryz.underlying130 rfl H.out.mn ?_); intro w0 hr0 hb0; refine halt ?_))
  refine unhalt ?_
  have R0 := Lib.hid hr0
  have B0 := Lib.hid hb0
  clear hr0 hb0 c1
  go_wp2_with fail
  go_loopw [3] (fun v3 wr => ∃ (L : List (List UInt8)) (A : Option Addr) (cap : Nat), v3 = .slice A L.length cap ∧ Hid (RM Tryz.prog 9 sL iD (plainElem Tryz.prog 3) wr bn W.heap.size q d.ns L) ∧ Hid (wr.ownsRow W.heap.size 9 1 v3 L.length (L.map sV)) ∧ Hid (Below W.heap.size W wr)) (fun v3 _ => q - lenOf v3)
  case atStart => exact ⟨[], none, 0, rfl, R0, Lib.hid (World.ownsRow_nil _ _ _ 1), B0⟩
  case round =>
    obtain ⟨L, A, cap, rfl, R1, O1, B1⟩ := hrel
    go_wp2_with ((at_next; go_must (refine next_fm (L := L) rfl _ rfl strK mrNames invS rfl R1.out ?_ ?_)))
    · intro hall
      have HA := Lib.hid hall
      have HL : Hid (L.Nodup ∧ (∀ x, x ∈ L ↔ (d.ns x).isSome = true) ∧ L.length ≤ q) := Lib.hid ⟨R1.out.nodup, fun x => ⟨fun hx => R1.out.mem hx, fun hx => HA.out x hx⟩, R1.out.len⟩
      clear hall
      have ho := O1.out
      rcases ho.2 with ⟨hv, hz⟩ | ⟨g, cap', cur, hv, hbase, hgb, r1, r2, r3, r4⟩
      · injection hv with e1 e2 e3
        subst e1; subst e3
        have hL : L = [] := List.eq_nil_of_length_eq_zero e2
        subst hL
        have HF : Hid (NamesQ W d (.returned (.slice none 0 0)) wr) := Lib.hid ⟨_, [], rfl, HL.out.1, HL.out.2.1, by simpa using ho, B1.out⟩
        clear ho hz e2
        go_wp2_with ((go_at_call 97; refine (AnyM.slices_Sort_string_none sortSL none 0 _).mono ?_; rintro e w' ⟨rfl, rfl⟩))
        go_ret
        exact HF.out
      · injection hv with e1 e2 e3
        subst e1; subst e3
        have hH : Holds encStr wr g 0 L.toArray := holds_of_block hgb (by rw [Nat.mul_one] at r4; exact r4)
        have hgl : g < wr.heap.size := (Array.getElem?_eq_some_iff.1 hgb).1
        have hsz : L.length < 4611686018427387904 := by have := HL.out.2.2; have := HQ.out; omega
        have hF : Hid (∀ nn os, NamesQ W d (.returned (.slice (some ⟨g, 0, none⟩) L.length cap)) (grow (putRow encStr (Sort.ahead wr nn) g 0 (L.mergeSort fun x y => decide (x ≤ y)).toArray) os)) := Lib.hid fun nn os => ⟨_, L, rfl, HL.out.1, HL.out.2.1, ownsRow_sorted (by simp) hbase hgb r1 r2 r3, B1.out.grown (grownBy_sorted _) B1.out.size (fun j hj => by cases hj; exact hbase)⟩
        have cS := AnyM.slices_Sort_string sortSL g 0 cap L wr hH hgl hsz
        have HS := Lib.hid cS
        clear ho hbase hgb r1 r2 r3 r4 hH hgl hsz cS
        go_wp2_with ((go_at_call 97; refine HS.out.mono ?_; rintro e w' ⟨rfl, nn, os, rfl⟩))
        go_ret
        exact hF.out _ _
    · intro x e w1 hx hn hr1 hg1 hs1 hen
      have B2 := Lib.hid (B1.out.grown hg1 B1.out.size (fun j hj => by cases hj; exact Nat.le_refl _))
      have O2 := Lib.hid (O1.out.kept hg1 (.inr fun e => (R1.out.ne_own O1.out).1 e.symm))
      have R2 := Lib.hid hr1
      clear hr1 hg1 hn hs1
      unfold sV iV' at hen ⊢
      go_upto_region 5 with fail
      have CL : Hid ((w1.alloc (.cells #[.string (strB x)] 9)).cell? ⟨w1.heap.size, 0, none⟩ = some (.string (strB x))) := Lib.hid (by simp)
      have X4 : Hid ((w1.alloc (.cells #[.string (strB x)] 9)).ownsRow W.heap.size 9 1 (.slice A L.length cap) (L.map sV).length (L.map sV)) := Lib.hid (by rw [List.length_map]; exact World.ownsRow.alloc O2.out _)
      have R4 := Lib.hid (R2.out.alloc (.cells #[.string (strB x)] 9))
      have B4 := Lib.hid (B2.out.alloc B2.out.size (.cells #[.string (strB x)] 9))
      have HL : Hid ((L.map sV).length = L.length ∧ L.length + 1 ≤ q) := Lib.hid ⟨List.length_map _, by have := R2.out.len; simpa using this⟩
      clear O2
      generalize hxs : L.map sV = xs at X4 HL
      have XS := Lib.hid hxs
      clear hxs
      go_wp2_with ((at_builtin; go_must (refine append_one rfl (.tmp 14) (.tmp 16) 32 9 rfl Tryz.underlying32 infoS rfl W.heap.size (.slice A L.length cap) xs rfl X4.out w1.heap.size 1 _ rfl CL.out rfl (by have := HL.out; have := HQ.out; omega) (by have := HL.out; have := HQ.out; unfold maxLen; omega) B4.out.size ?_); intro v5 w5 ho5 hg5 ha5; refine halt ?_))
      refine unhalt ?_
      have O5 : Hid (w5.ownsRow W.heap.size 9 1 v5 (L ++ [x]).length ((L ++ [x]).map sV)) := Lib.hid (by
        rw [List.map_append, XS.out, List.length_append, List.map_cons, List.map_nil]
        rw [List.length_append, HL.out.1] at ho5
        exact ho5)
      have R5 := Lib.hid (R4.out.grown hg5 (R4.out.ne_own X4.out).2 (R4.out.ne_own X4.out).1)
      have B5 := Lib.hid (B4.out.grown hg5 B4.out.size (fun j hj => (World.ownsRow.lt X4.out j hj).1))
      obtain ⟨A5, cap5, hv5, _⟩ := own_form O5.out
      subst hv5
      clear ho5 hg5 ha5 hen CL X4 R4 B4 R2 B2
      go_wp2_with fail
      go_roundw
      case rel => exact ⟨L ++ [x], A5, cap5, rfl, R5, O5, B5⟩
      case measure =>
        have := HL.out.2
        simp [lenOf]
        omega
theorem names_c {W : World} {N : Nat} {C : Nat → Nat} {c p n : Nat} {d : Dk} (h : DC W N C c p n d) (hn : n < 1000000) : Calls Tryz.prog 42 #[.pointer (some ⟨p, 0, none⟩)] W (NamesQ W d) := by
  obtain ⟨bf, bn, bs, fl, h1, h2⟩ := h.dw
  exact names_any h1 hn
end Go.Proofs.YtlojmmcagglpoaaGreat
