/- A slice that came in is no longer than its capacity. -/
import Derived.Test.YtcbbjcafgnddcaaO
namespace Go.Proofs.Ytcbbjcafgnddcaa
open Go.RowKit Go.ChangeShapes Go.WideShapes Go.Deep
set_option linter.unusedVariables false
theorem slice_cap {H : Type} {enc : TypeId × Value → H} {P : Program} {w : World} {t e : TypeId} {a : Option Addr} {len cap : Nat} {d : DataW H} {p : List MemPlace} (ht : P.underlying t = some (.slice e)) (h : DataW.Trod enc P w 0 (fun _ => true) true t (.slice a len cap) d p) : len ≤ cap := by
  obtain ⟨fuel, hf⟩ := h
  rcases open_slice ht hf with ⟨hcs, _⟩ | ⟨a', len', cap', m, n, D, Pl, hcs, _, hl, _⟩
  · have : Value.slice a len cap = .slice none 0 0 := by simpa [Value.cells] using hcs
    cases this; exact Nat.le_refl _
  · have : Value.slice a len cap = .slice (some a') len' cap' := by simpa [Value.cells] using hcs
    cases this; exact hl
end Go.Proofs.Ytcbbjcafgnddcaa
