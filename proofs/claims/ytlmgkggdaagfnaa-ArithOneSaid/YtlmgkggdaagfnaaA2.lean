/- ArithOne and ArithRing, walked: whatever the numbers, the call returns true and leaves the memory as it was. -/
import Derived.Test.YtlmgkggdaagfnaaA1
namespace Go.Proofs.Ytlmgkggdaagfnaa
open Go.RowKit
set_option linter.unusedVariables false
set_option linter.unusedSimpArgs false

set_option maxHeartbeats 1000000 in
theorem arithOne_any (op a : Int) (w : World) : Calls Try.prog 7 #[.int .i64 op, .int .i64 a] w fun e w' => e = .returned (.bool true) ∧ w = w' := by
  go_enter Try.func7, Try.ntmps7
  go_wp2_with (first | (go_at_call 9; refine (lives_any _).mono ?_; rintro e w' ⟨rfl, rfl⟩) | (go_at_call 15; refine (one_any _ _ _).mono ?_; rintro e w' ⟨rfl, rfl⟩) | (go_at_call 16; refine (one16_any _ _ _).mono ?_; rintro e w' ⟨rfl, rfl⟩))
  go_ret; exact ⟨rt1 (by simp), rfl⟩

theorem sub_any (a b : Int) (w : World) : Calls Try.prog 10 #[.int .i64 7, .int .i64 a, .int .i64 b] w fun e w' => e = .returned (.tuple #[.int .i64 (wrap64 (a - b)), .int .i64 0]) ∧ w = w' := two_any 7 a b w

theorem wrapB (x y : Int) (h : x % 18446744073709551616 = y % 18446744073709551616) : (wrap64 x == wrap64 y) = true := by
  rw [beq_iff_eq]; unfold wrap64; omega
theorem wrap_mod (x : Int) : wrap64 x % 18446744073709551616 = x % 18446744073709551616 := by unfold wrap64; omega
theorem wrapA (x a : Int) (ha : (Lit.int .i64 a).wf = true) (h : x % 18446744073709551616 = a % 18446744073709551616) : (wrap64 x == a) = true := by
  have := bounds_i64 ha
  rw [beq_iff_eq]; unfold wrap64; omega
theorem addm (x y : Int) : (x + y) % 18446744073709551616 = (x % 18446744073709551616 + y % 18446744073709551616) % 18446744073709551616 := Int.add_emod _ _ _
theorem mulm (x y : Int) : (x * y) % 18446744073709551616 = (x % 18446744073709551616 * (y % 18446744073709551616)) % 18446744073709551616 := Int.mul_emod _ _ _
theorem mul_wl (x y : Int) : (wrap64 x * y) % 18446744073709551616 = (x * y) % 18446744073709551616 := by rw [mulm, wrap_mod, ← mulm]
theorem mul_wr (x y : Int) : (x * wrap64 y) % 18446744073709551616 = (x * y) % 18446744073709551616 := by rw [mulm, wrap_mod, ← mulm]
theorem add_wl (x y : Int) : (wrap64 x + y) % 18446744073709551616 = (x + y) % 18446744073709551616 := by rw [addm, wrap_mod, ← addm]
theorem add_wr (x y : Int) : (x + wrap64 y) % 18446744073709551616 = (x + y) % 18446744073709551616 := by rw [addm, wrap_mod, ← addm]

set_option maxHeartbeats 1000000 in
theorem arithRing_any (a b c : Int) (ha : (Lit.int .i64 a).wf = true) (w : World) : Calls Try.prog 4 #[.int .i64 a, .int .i64 b, .int .i64 c] w fun e w' => e = .returned (.bool true) ∧ w = w' := by
  have t1 : (wrap64 (a + b) == wrap64 (b + a)) = true := wrapB _ _ (by rw [Int.add_comm])
  have t2 : (wrap64 (wrap64 (a + b) + c) == wrap64 (a + wrap64 (b + c))) = true := wrapB _ _ (by rw [add_wl, add_wr, Int.add_assoc])
  have t3 : (wrap64 (a * b) == wrap64 (b * a)) = true := wrapB _ _ (by rw [Int.mul_comm])
  have t4 : (wrap64 (wrap64 (a * b) * c) == wrap64 (a * wrap64 (b * c))) = true := wrapB _ _ (by rw [mul_wl, mul_wr, Int.mul_assoc])
  have t5 : (wrap64 (wrap64 (a - b) + b) == a) = true := wrapA _ _ ha (by rw [add_wl]; congr 1; omega)
  have t6 : (wrap64 (a * wrap64 (b + c)) == wrap64 (wrap64 (a * b) + wrap64 (a * c))) = true := wrapB _ _ (by rw [mul_wr, add_wl, add_wr, Int.mul_add])
  have t7 : wrap64 a = a := by have := wrapA a a ha rfl; simpa using this
  clear ha
  go_enter Try.func4, Try.ntmps4
  go_wp2_with (first | (go_at_call 9; refine (lives_any _).mono ?_; rintro e w' ⟨rfl, rfl⟩) | (go_at_call 10; refine (sub_any _ _ _).mono ?_; rintro e w' ⟨rfl, rfl⟩) | (go_at_call 12; refine (add_any _ _ _).mono ?_; rintro e w' ⟨rfl, rfl⟩) | (go_at_call 13; refine (mul_any _ _ _).mono ?_; rintro e w' ⟨rfl, rfl⟩))
  go_ret; exact ⟨rfl, rfl⟩


end Go.Proofs.Ytlmgkggdaagfnaa
