/- The ring of workers: may, Black, Pass, Holder, Size. -/
import Derived.Test.YtmagenfndbaliaaP3
namespace Go.Proofs.Ytmagenfndbaliaa
open Go.RowKit
set_option linter.unusedVariables false
set_option linter.unusedSimpArgs false
section
variable {w w1 : World} {b g : Nat} {r : R}
theorem may_nil (i : Int) (w : World) : Calls Try.prog 18 #[.pointer none, .int .i64 i] w fun e w' => e = .returned (.int .i64 1) ∧ w' = w := by
  go_enter Try.func18, Try.ntmps18
  go_wp2
  go_ret
  exact ⟨rfl, rfl⟩
theorem may_any (h : Rr w b g r) (i : Int) : Calls Try.prog 18 #[.pointer (some ⟨b, 0, none⟩), .int .i64 i] w fun e w' => e = .returned (.int .i64 (if i < 0 ∨ (r.n : Int) ≤ i then 6 else 0)) ∧ w' = w := by
  have c0 := h.c0
  clear h
  generalize r.n = N at *
  by_cases h1 : i < 0
  · rw [if_pos (.inl h1)]
    go_enter Try.func18, Try.ntmps18
    go_wp2
    go_ret
    exact ⟨rfl, rfl⟩
  · by_cases h2 : (N : Int) ≤ i
    · rw [if_pos (.inr h2)]
      go_enter Try.func18, Try.ntmps18
      go_wp2
      go_ret
      exact ⟨rfl, rfl⟩
    · rw [if_neg (by omega)]
      go_enter Try.func18, Try.ntmps18
      go_wp2
      go_ret
      exact ⟨rfl, rfl⟩
theorem holder_any (h : Rr w b g r) : Calls Try.prog 16 #[.pointer (some ⟨b, 0, none⟩)] w fun e w' => e = .returned (.int .i64 r.h) ∧ w' = w := by
  have c2 := h.c2
  clear h
  generalize r.h = H at *
  go_enter Try.func16, Try.ntmps16
  go_wp2
  go_ret
  exact ⟨rfl, rfl⟩
theorem holder_nil (w : World) : Calls Try.prog 16 #[.pointer none] w fun e w' => e = .returned (.int .i64 0) ∧ w' = w := by
  go_enter Try.func16, Try.ntmps16
  go_wp2
  go_ret
  exact ⟨rfl, rfl⟩
theorem size_any (h : Rr w b g r) : Calls Try.prog 11 #[.pointer (some ⟨b, 0, none⟩)] w fun e w' => e = .returned (.int .i64 r.n) ∧ w' = w := by
  have c0 := h.c0
  clear h
  generalize r.n = N at *
  go_enter Try.func11, Try.ntmps11
  go_wp2
  go_ret
  exact ⟨rfl, rfl⟩
theorem size_nil (w : World) : Calls Try.prog 11 #[.pointer none] w fun e w' => e = .returned (.int .i64 0) ∧ w' = w := by
  go_enter Try.func11, Try.ntmps11
  go_wp2
  go_ret
  exact ⟨rfl, rfl⟩
theorem black_nil (i : Int) (w : World) : Calls Try.prog 12 #[.pointer none, .int .i64 i] w fun e w' => e = .returned (.int .i64 1) ∧ w' = w := by
  go_enter Try.func12, Try.ntmps12
  go_wp2_with fail
  refine (may_nil i _).mono ?_
  rintro e w' ⟨rfl, rfl⟩
  go_wp2
  go_ret
  exact ⟨rfl, rfl⟩
theorem pass_nil (i : Int) (w : World) : Calls Try.prog 14 #[.pointer none, .int .i64 i] w fun e w' => e = .returned (.tuple #[.bool false, .int .i64 1]) ∧ w' = w := by
  go_enter Try.func14, Try.ntmps14
  go_wp2_with fail
  refine (may_nil i _).mono ?_
  rintro e w' ⟨rfl, rfl⟩
  go_wp2
  go_ret2
  exact ⟨rfl, rfl⟩
theorem black_any (h : Rr w b g r) (i : Int) : Calls Try.prog 12 #[.pointer (some ⟨b, 0, none⟩), .int .i64 i] w fun e w' => e = .returned (.int .i64 (black r i).1) ∧ Rr w' b g (black r i).2 ∧ Fr w w' (S2 b g) := by
  have hm := may_any h i
  by_cases h1 : i < 0 ∨ (r.n : Int) ≤ i
  · have e : black r i = (6, r) := by unfold black; rw [if_pos h1]
    rw [e]
    rw [if_pos h1] at hm
    have H := Lib.hid h
    clear h e
    go_enter Try.func12, Try.ntmps12
    go_wp2_with fail
    refine hm.mono ?_
    rintro e w' ⟨rfl, rfl⟩
    go_wp2
    go_ret
    exact ⟨rfl, H.out, Fr.refl _ _⟩
  · have e : black r i = (0, r.blk i.toNat) := by unfold black; rw [if_neg h1]
    rw [e]
    rw [if_neg h1] at hm
    obtain ⟨n, rfl⟩ : ∃ n : Nat, i = n := ⟨i.toNat, by omega⟩
    have hn : n < r.n := by omega
    have c0 := h.c0
    have ct := h.ct n hn
    have ft := h.fg n
    have hnn : (n : Int) < r.n := by omega
    have hn0 : (0 : Int) ≤ n := by omega
    have H := Lib.hid h
    clear h e h1
    generalize col (r.bl n) = cl at *
    generalize hN : r.n = N at c0 hnn
    go_enter Try.func12, Try.ntmps12
    go_wp2_with fail
    refine hm.mono ?_
    rintro e w' ⟨rfl, rfl⟩
    go_wp2
    go_ret
    refine ⟨rfl, ?_, fr_set _ _ _ _ _ (.inr rfl)⟩
    exact H.out.setBl n true
end
end Go.Proofs.Ytmagenfndbaliaa
