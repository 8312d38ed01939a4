/- THE WALK of the disk's Names. -/
import Derived.Test.YthhbfjhgmdnpbabRange
import Derived.Test.YthhbfjhgmdnpbabLay
import Derived.Test.YthhbfjhgmdnpbabDiskC
import Derived.Sort.OwnSorted
namespace Go.Proofs.Ythhbfjhgmdnpbab
open Go.RowKit Go.Maps Go.Sort
theorem invS (key : Value) (q : Lit) (h : keyOf Try.prog 9 key = some q) : ∃ x, key = sV x ∧ q = sL x := by
  have hk := Try.underlying9
  cases key <;> simp [keyOf, hk, mapKey] at h
  rename_i s
  refine ⟨s.data.toList, ?_, ?_⟩
  · unfold sV strB
    simp
  · exact h.2.symm
theorem infoS : (Try.prog.info? 9).map (fun i => (i.zero, i.size, i.bytes)) = some (some (.string .empty), 1, 16) := by kernel_rfl
def lenOf (v : Value) : Nat := match v with
  | .slice _ n _ => n
  | _ => 0
/-- Names lists the names that there are, each once, sorted -/
def NamesQ (W : World) (d : Dk) (e : Ending) (w' : World) : Prop :=
  ∃ (v : Value) (ss : List (List UInt8)), e = .returned v ∧ ss.Nodup ∧ (∀ x, x ∈ ss ↔ (d.ns x).isSome = true) ∧ w'.ownsRow W.heap.size 9 1 v ss.length ((ss.mergeSort fun x y => decide (x ≤ y)).map sV) ∧ Below W.heap.size W w'
set_option maxRecDepth 20000 in
set_option maxHeartbeats 1000000 in
theorem names_any {W : World} {N p q : Nat} {d : Dk} {bf bn bs : Nat} {fl : Int → Option Nat} (h : DW W N p q d bf bn bs fl) (hq : q < 1000000) :
    Calls Try.prog 8 #[.pointer (some ⟨p, 0, none⟩)] W (NamesQ W d) := by
  have H := Lib.hid h
  have c1 : W.cell? ⟨p, 1, none⟩ = some (.map (some bn)) := (h.bd.cell 1).trans rfl
  have HQ := Lib.hid hq
  clear h hq
  go_enter Try.func8, Try.ntmps8
  go_wp2_with ((at_range; go_must (refine range_fm (n := q) rfl _ _ rfl 3 strK Try.underlying54 rfl H.out.mn ?_); intro w0 hr0 hb0; refine halt ?_))
  refine unhalt ?_
  have R0 := Lib.hid hr0
  have B0 := Lib.hid hb0
  clear hr0 hb0 c1
  go_wp2_with fail
  go_loopw [3] (fun v3 wr => ∃ (L : List (List UInt8)) (A : Option Addr) (cap : Nat), v3 = .slice A L.length cap ∧ Hid (RM Try.prog 9 sL iD (plainElem Try.prog 3) wr bn W.heap.size q d.ns L) ∧ Hid (wr.ownsRow W.heap.size 9 1 v3 L.length (L.map sV)) ∧ Hid (Below W.heap.size W wr)) (fun v3 _ => q - lenOf v3)
  case atStart => exact ⟨[], none, 0, rfl, R0, Lib.hid (World.ownsRow_nil _ _ _ 1), B0⟩
  case round =>
    obtain ⟨L, A, cap, rfl, R1, O1, B1⟩ := hrel
    go_wp2_with ((at_next; go_must (refine next_fm (L := L) rfl _ rfl strK mrNames invS rfl R1.out ?_ ?_)))
    · intro hall
      have HA := Lib.hid hall
      have HL : Hid (L.Nodup ∧ (∀ x, x ∈ L ↔ (d.ns x).isSome = true) ∧ L.length ≤ q) := Lib.hid ⟨R1.out.nodup, fun x => ⟨fun hx => R1.out.mem hx, fun hx => HA.out x hx⟩, R1.out.len⟩
      clear hall
      have ho := O1.out
      rcases ho.2 with ⟨hv, hz⟩ | ⟨g, cap', cur, hv, hbase, hgb, r1, r2, r3, r4⟩
      · injection hv with e1 e2 e3
        subst e1; subst e3
        have hL : L = [] := List.eq_nil_of_length_eq_zero e2
        subst hL
        have HF : Hid (NamesQ W d (.returned (.slice none 0 0)) wr) := Lib.hid ⟨_, [], rfl, HL.out.1, HL.out.2.1, by simpa using ho, B1.out⟩
        clear ho hz e2
        go_wp2_with ((go_at_call 23; refine (AnyM.slices_Sort_string_none sortSL none 0 _).mono ?_; rintro e w' ⟨rfl, rfl⟩))
        go_ret
        exact HF.out
      · injection hv with e1 e2 e3
        subst e1; subst e3
        have hH : Holds encStr wr g 0 L.toArray := holds_of_block hgb (by rw [Nat.mul_one] at r4; exact r4)
        have hgl : g < wr.heap.size := (Array.getElem?_eq_some_iff.1 hgb).1
        have hsz : L.length < 4611686018427387904 := by have := HL.out.2.2; have := HQ.out; omega
        have hF : Hid (∀ nn os, NamesQ W d (.returned (.slice (some ⟨g, 0, none⟩) L.length cap)) (grow (putRow encStr (Sort.ahead wr nn) g 0 (L.mergeSort fun x y => decide (x ≤ y)).toArray) os)) := Lib.hid fun nn os => ⟨_, L, rfl, HL.out.1, HL.out.2.1, ownsRow_sorted (by simp) hbase hgb r1 r2 r3, B1.out.grown (grownBy_sorted _) B1.out.size (fun j hj => by cases hj; exact hbase)⟩
        have cS := AnyM.slices_Sort_string sortSL g 0 cap L wr hH hgl hsz
        have HS := Lib.hid cS
        clear ho hbase hgb r1 r2 r3 r4 hH hgl hsz cS
        go_wp2_with ((go_at_call 23; refine HS.out.mono ?_; rintro e w' ⟨rfl, nn, os, rfl⟩))
        go_ret
        exact hF.out _ _
    · intro x e w1 hx hn hr1 hg1 hs1 hen
      have B2 := Lib.hid (B1.out.grown hg1 B1.out.size (fun j hj => by cases hj; exact Nat.le_refl _))
      have O2 := Lib.hid (O1.out.kept hg1 (.inr fun e => (R1.out.ne_own O1.out).1 e.symm))
      have R2 := Lib.hid hr1
      clear hr1 hg1 hn hs1
      unfold sV iV' at hen ⊢
      go_upto_region 5 with fail
      have CL : Hid ((w1.alloc (.cells #[.string (strB x)] 9)).cell? ⟨w1.heap.size, 0, none⟩ = some (.string (strB x))) := Lib.hid (by simp)
      have X4 : Hid ((w1.alloc (.cells #[.string (strB x)] 9)).ownsRow W.heap.size 9 1 (.slice A L.length cap) (L.map sV).length (L.map sV)) := Lib.hid (by rw [List.length_map]; exact World.ownsRow.alloc O2.out _)
      have R4 := Lib.hid (R2.out.alloc (.cells #[.string (strB x)] 9))
      have B4 := Lib.hid (B2.out.alloc B2.out.size (.cells #[.string (strB x)] 9))
      have HL : Hid ((L.map sV).length = L.length ∧ L.length + 1 ≤ q) := Lib.hid ⟨List.length_map _, by have := R2.out.len; simpa using this⟩
      clear O2
      generalize hxs : L.map sV = xs at X4 HL
      have XS := Lib.hid hxs
      clear hxs
      go_wp2_with ((at_builtin; go_must (refine append_one rfl (.tmp 14) (.tmp 16) 34 9 rfl Try.underlying34 infoS rfl W.heap.size (.slice A L.length cap) xs rfl X4.out w1.heap.size 1 _ rfl CL.out rfl (by have := HL.out; have := HQ.out; omega) (by have := HL.out; have := HQ.out; unfold maxLen; omega) B4.out.size ?_); intro v5 w5 ho5 hg5 ha5; refine halt ?_))
      refine unhalt ?_
      have O5 : Hid (w5.ownsRow W.heap.size 9 1 v5 (L ++ [x]).length ((L ++ [x]).map sV)) := Lib.hid (by
        rw [List.map_append, XS.out, List.length_append, List.map_cons, List.map_nil]
        rw [List.length_append, HL.out.1] at ho5
        exact ho5)
      have R5 := Lib.hid (R4.out.grown hg5 (R4.out.ne_own X4.out).2 (R4.out.ne_own X4.out).1)
      have B5 := Lib.hid (B4.out.grown hg5 B4.out.size (fun j hj => (World.ownsRow.lt X4.out j hj).1))
      obtain ⟨A5, cap5, hv5, _⟩ := own_form O5.out
      subst hv5
      clear ho5 hg5 ha5 hen CL X4 R4 B4 R2 B2
      go_wp2_with fail
      go_roundw
      case rel => exact ⟨L ++ [x], A5, cap5, rfl, R5, O5, B5⟩
      case measure =>
        have := HL.out.2
        simp [lenOf]
        omega
theorem names_c {W : World} {N : Nat} {C : Nat → Nat} {c p n : Nat} {d : Dk} (h : DC W N C c p n d) (hn : n < 1000000) : Calls Try.prog 8 #[.pointer (some ⟨p, 0, none⟩)] W (NamesQ W d) := by
  obtain ⟨bf, bn, bs, fl, h1, h2⟩ := h.dw
  exact names_any h1 hn
end Go.Proofs.Ythhbfjhgmdnpbab
