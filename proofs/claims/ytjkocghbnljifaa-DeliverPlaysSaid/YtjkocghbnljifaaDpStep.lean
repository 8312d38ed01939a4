/- Book.step, whatever the call is. -/
import Derived.Test.YtjkocghbnljifaaDpStepC
namespace Go.Proofs.Ytjkocghbnljifaa
open Go.RowKit
theorem step_any {w0 w : World} {d r k N ba mo ji i : Nat} (h : PL w0 w d r k N ba mo ji i) (hi : i ≤ 300) (o : Od) :
    Calls Try.prog 8 #[.pointer (some ⟨k, 0, none⟩), .pointer (some ⟨d, 0, none⟩), .pointer (some ⟨r, 0, none⟩), .agg o.cells] w (StepP w0 d r k N ba mo ji (i + 1)) := by
  obtain ⟨C, g, p, f, xs, q, A, m, c, se, re, wt, vr, vw, rs, us, hp, hre, hrs⟩ := h
  by_cases h0 : o.k = 0
  · by_cases hf : q.length = N
    · exact step_full i hp hre hrs hi o h0 hf
    · exact step_push i hp hre hrs hi o h0 (by have := hp.dv.ring.hq; omega)
  · by_cases h1 : o.k = 1
    · exact step_send i hp hre hrs hi o h1
    · by_cases h2 : o.k = 2
      · exact step_answer i hp hre hrs hi o h2
      · by_cases h3 : o.k = 3
        · exact step_queue i hp hre hrs hi o h3
        · exact step_else i hp hre hrs hi o ⟨h0, h1, h2, h3⟩
end Go.Proofs.Ytjkocghbnljifaa
