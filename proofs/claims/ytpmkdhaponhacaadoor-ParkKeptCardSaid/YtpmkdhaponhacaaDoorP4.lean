/- The lot: thread, Begin, Step and the others. -/
import Derived.Test.YtpmkdhaponhacaaDoorP3
namespace Go.Proofs.YtpmkdhaponhacaaDoor
open Go.RowKit
set_option linter.unusedVariables false
set_option linter.unusedSimpArgs false
section
variable {w w1 : World} {b p : Nat} {q : Q}
/-- what a thread is told as -/
def thp (q : Q) (p : Nat) (i : Int) : Option Addr := if 0 ≤ i ∧ i < (q.n : Int) then some ⟨p, i.toNat * 6, none⟩ else none
set_option maxRecDepth 100000 in
theorem thread_any (h : Lq w b p q) (i : Int) : Calls Tryd.prog 24 #[.pointer (some ⟨b, 0, none⟩), .int .i64 i] w fun e w' => e = .returned (.pointer (thp q p i)) ∧ w' = w := by
  have c3 := h.c3
  have H := Lib.hid h
  by_cases h0 : i < 0
  · rw [show thp q p i = none from if_neg (by omega)]
    clear h
    go_enter Tryd.func24, Tryd.ntmps24
    go_wp2
    go_ret
    exact ⟨rfl, rfl⟩
  · by_cases h1 : (q.n : Int) ≤ i
    · rw [show thp q p i = none from if_neg (by omega)]
      have hge : ((q.n : Int) ≤ i) := h1
      clear h
      go_enter Tryd.func24, Tryd.ntmps24
      go_wp2
      go_ret
      exact ⟨rfl, rfl⟩
    · obtain ⟨j, rfl⟩ : ∃ j : Nat, i = (j : Int) := ⟨i.toNat, by omega⟩
      rw [show thp q p (j : Int) = some ⟨p, j * 6, none⟩ from if_pos (by omega)]
      have hlt : (j : Int) < (q.n : Int) := by omega
      have hj : j < q.n := by omega
      have h00 : (0 : Int) ≤ (j : Int) := by omega
      clear h
      go_enter Tryd.func24, Tryd.ntmps24
      go_wp2
      go_ret
      exact ⟨rfl, rfl⟩
end
end Go.Proofs.YtpmkdhaponhacaaDoor
