/- The disk's calls at EVERY name, however long. -/
import Derived.Test.YtlojmmcagglpoaaZDiskC
import Derived.Test.YtlojmmcagglpoaaZDiskFile
namespace Go.Proofs.Ytlojmmcagglpoaa
open Go.RowKit Go.Maps
theorem may_ok {nm : List UInt8} (h : mayB nm = true) : okName nm := by
  unfold okName
  unfold mayB at h
  simp at h
  omega
section
variable {W : World} {N : Nat} {C : Nat → Nat} {c p n : Nat} {d : Dk}
theorem create_g (h : DC W N C c p n d) (hn : n + 2 < 1000000) (nm : List UInt8) : Calls Try.prog 12 #[.pointer (some ⟨p, 0, none⟩), .string (strB nm)] W (StepQ W N C c p (n + 2) (d.create nm)) := by
  cases hb : mayB nm with
  | true => exact create_c h hn nm (may_ok hb)
  | false =>
    have hm := may_any nm
    unfold Dk.create
    rw [hb] at hm ⊢
    exact (create_bad p nm hm).mono fun e w' ⟨h1, h2⟩ => .same h hn h1 h2
theorem append_g (h : DC W N C c p n d) (hn : n + 2 < 1000000) (nm : List UInt8) (A : Option Addr) (m cp : Nat) (l : List UInt8) (hr : RB W A m l) (hm1 : m ≤ 1000000000) : Calls Try.prog 14 #[.pointer (some ⟨p, 0, none⟩), .string (strB nm), .slice A m cp] W (StepQ W N C c p (n + 2) (d.append nm l)) := by
  cases hb : mayB nm with
  | true => exact append_c h hn nm (may_ok hb) A m cp l hr hm1
  | false =>
    have hm := may_any nm
    unfold Dk.append
    rw [hb] at hm ⊢
    exact (append_bad p nm hm A m cp).mono fun e w' ⟨h1, h2⟩ => .same h hn h1 h2
theorem cut_g (h : DC W N C c p n d) (hn : n + 2 < 1000000) (nm : List UInt8) : Calls Try.prog 50 #[.pointer (some ⟨p, 0, none⟩), .string (strB nm)] W (StepQ W N C c p (n + 2) (d.cut nm)) := by
  cases hb : mayB nm with
  | true => exact cut_c h hn nm (may_ok hb)
  | false =>
    have hm := may_any nm
    unfold Dk.cut Dk.edits
    rw [hb] at hm ⊢
    exact (cut_bad p nm hm).mono fun e w' ⟨h1, h2⟩ => .same h hn h1 h2
theorem sync_g (h : DC W N C c p n d) (hn : n + 2 < 1000000) (nm : List UInt8) : Calls Try.prog 52 #[.pointer (some ⟨p, 0, none⟩), .string (strB nm)] W (StepQ W N C c p (n + 2) (d.sync nm)) := by
  cases hb : mayB nm with
  | true => exact sync_c h hn nm (may_ok hb)
  | false =>
    have hm := may_any nm
    unfold Dk.sync Dk.edits
    rw [hb] at hm ⊢
    exact (sync_bad p nm hm).mono fun e w' ⟨h1, h2⟩ => .same h hn h1 h2
theorem remove_g (h : DC W N C c p n d) (hn : n + 2 < 1000000) (nm : List UInt8) : Calls Try.prog 51 #[.pointer (some ⟨p, 0, none⟩), .string (strB nm)] W (StepQ W N C c p (n + 2) (d.remove nm)) := by
  cases hb : mayB nm with
  | true => exact remove_c h hn nm (may_ok hb)
  | false =>
    have hm := may_any nm
    unfold Dk.remove
    rw [hb] at hm ⊢
    exact (remove_bad p nm hm).mono fun e w' ⟨h1, h2⟩ => .same h hn h1 h2
theorem rename_g (h : DC W N C c p n d) (hn : n + 2 < 1000000) (old other : List UInt8) : Calls Try.prog 11 #[.pointer (some ⟨p, 0, none⟩), .string (strB old), .string (strB other)] W (StepQ W N C c p (n + 2) (d.rename old other)) := by
  cases hb : (mayB old && mayB other) with
  | true =>
    have h2 := hb
    rw [Bool.and_eq_true] at h2
    exact rename_c h hn old other (may_ok h2.1) (may_ok h2.2)
  | false =>
    have hm := may_any old
    have hm2 := may_any other
    unfold Dk.rename
    rw [hb]
    exact (rename_bad p old other _ _ hm hm2 hb).mono fun e w' ⟨h1, h2⟩ => .same h hn h1 h2
theorem stat_g (h : DC W N C c p n d) (nm : List UInt8) : Calls Try.prog 23 #[.pointer (some ⟨p, 0, none⟩), .string (strB nm)] W (AskQ W (d.stat nm)) := by
  cases hb : mayB nm with
  | true => exact stat_c h nm (may_ok hb)
  | false =>
    have hm := may_any nm
    unfold Dk.stat
    rw [hb] at hm ⊢
    exact (stat_bad p nm hm).mono fun e w' h => h
end
end Go.Proofs.Ytlojmmcagglpoaa
