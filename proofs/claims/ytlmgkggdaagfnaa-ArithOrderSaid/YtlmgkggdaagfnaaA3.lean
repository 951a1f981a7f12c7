/- ArithOrder, walked: whatever the numbers, the call returns true and leaves the memory as it was. -/
import Derived.Test.YtlmgkggdaagfnaaA1
namespace Go.Proofs.Ytlmgkggdaagfnaa
open Go.RowKit
set_option linter.unusedVariables false
set_option linter.unusedSimpArgs false

theorem order_core (a b c x y z u : Int) (hx : truthM (decide (a < b)) = x) (hy : truthM (decide (b < a)) = y) (hz : truthM (a == b) = z) (hbc : truthM (decide (b < c)) = u) (v : Int) (hac : truthM (decide (a < c)) = v) (s2 : x = 0 ∧ y = 1 ∧ z = 0 ∨ x = 0 ∧ y = 0 ∧ z = 1 ∨ (x = 1 ∧ y = 0 ∧ z = 0 ∧ (u = 0 ∨ (u = 1 ∧ v = 1)))) (w : World) :
    Calls Try.prog 6 #[.int .i64 a, .int .i64 b, .int .i64 c] w fun e w' => e = .returned (.bool true) ∧ w = w' := by
  have L1 : ∀ w, Calls Try.prog 14 #[.int .i64 a, .int .i64 b] w fun e w' => e = .returned (.int .i64 x) ∧ w = w' := fun w => hx ▸ less_any a b w
  have L2 : ∀ w, Calls Try.prog 14 #[.int .i64 b, .int .i64 a] w fun e w' => e = .returned (.int .i64 y) ∧ w = w' := fun w => hy ▸ less_any b a w
  have L3 : ∀ w, Calls Try.prog 14 #[.int .i64 b, .int .i64 c] w fun e w' => e = .returned (.int .i64 u) ∧ w = w' := fun w => hbc ▸ less_any b c w
  have L4 : ∀ w, Calls Try.prog 14 #[.int .i64 a, .int .i64 c] w fun e w' => e = .returned (.int .i64 v) ∧ w = w' := fun w => hac ▸ less_any a c w
  have L5 : ∀ w, Calls Try.prog 14 #[.int .i64 a, .int .i64 a] w fun e w' => e = .returned (.int .i64 0) ∧ w = w' := fun w => by
    have := less_any a a w; rwa [show truthM (decide (a < a)) = 0 by simp [truthM]] at this
  have E1 : ∀ w, Calls Try.prog 10 #[.int .i64 12, .int .i64 a, .int .i64 b] w fun e w' => e = .returned (.tuple #[.int .i64 z, .int .i64 0]) ∧ w = w' := fun w => by
    have := two_any 12 a b w; rw [show twoM 12 a b = (z, 0) by rw [← hz]; rfl] at this; exact this
  have A := Lib.hid (And.intro L1 (And.intro L2 (And.intro L3 (And.intro L4 (And.intro L5 E1)))))
  clear L1 L2 L3 L4 L5 E1 hx hy hz hbc hac
  have n1 : wrap64 1 = 1 := by decide +kernel
  rcases s2 with ⟨rfl, rfl, rfl⟩ | ⟨rfl, rfl, rfl⟩ | ⟨rfl, rfl, rfl, rfl | ⟨rfl, rfl⟩⟩
  all_goals
    go_enter Try.func6, Try.ntmps6
    go_wp2_with (first | (go_at_call 9; refine (lives_any _).mono ?_; rintro e w' ⟨rfl, rfl⟩) | (go_at_call 10; refine (A.out.2.2.2.2.2 _).mono ?_; rintro e w' ⟨rfl, rfl⟩) | (go_at_call_of 14 (Value.int IntKind.i64 c); go_at_call_of 14 (Value.int IntKind.i64 b); refine (A.out.2.2.1 _).mono ?_; rintro e w' ⟨rfl, rfl⟩) | (go_at_call_of 14 (Value.int IntKind.i64 c); refine (A.out.2.2.2.1 _).mono ?_; rintro e w' ⟨rfl, rfl⟩) | (go_at_call 14; (first | (with_reducible refine (A.out.1 _).mono ?_) | (with_reducible refine (A.out.2.1 _).mono ?_) | (with_reducible refine (A.out.2.2.2.2.1 _).mono ?_)); rintro e w' ⟨rfl, rfl⟩))
    go_ret; exact ⟨rfl, rfl⟩

theorem tr_t {b : Bool} (h : b = true) : truthM b = 1 := by rw [h]; rfl
theorem tr_f {b : Bool} (h : b = false) : truthM b = 0 := by rw [h]; rfl
theorem arithOrder_any (a b c : Int) (w : World) :
    Calls Try.prog 6 #[.int .i64 a, .int .i64 b, .int .i64 c] w fun e w' => e = .returned (.bool true) ∧ w = w' := by
  refine order_core a b c _ _ _ _ rfl rfl rfl rfl _ rfl ?_ w
  by_cases h1 : a < b
  · refine .inr (.inr ⟨tr_t (by simp [h1]), tr_f (by simp; omega), tr_f (by simp; omega), ?_⟩)
    by_cases h2 : b < c
    · exact .inr ⟨tr_t (by simp [h2]), tr_t (by simp; omega)⟩
    · exact .inl (tr_f (by simp; omega))
  · by_cases h3 : a = b
    · exact .inr (.inl ⟨tr_f (by simp; omega), tr_f (by simp; omega), tr_t (by simp [h3])⟩)
    · exact .inl ⟨tr_f (by simp; omega), tr_t (by simp; omega), tr_f (by simp; omega)⟩


end Go.Proofs.Ytlmgkggdaagfnaa
