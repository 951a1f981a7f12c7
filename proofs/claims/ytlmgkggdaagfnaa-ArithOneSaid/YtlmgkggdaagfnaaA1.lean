/- What each function of the layer arith, and of its reference, computes; each contract says that the call returns just that and leaves the memory as it was. -/
import Derived.Test.YtlmgkggdaagfnaaProg
import Derived.WalkKit
import Derived.Handy
import Derived.Deep.QuietTactic
import Derived.BigQuiet
import Derived.OpenShut
import Derived.Lib.Hide
import Derived.Deep.RegionWith
namespace Go.Proofs.Ytlmgkggdaagfnaa
open Go.RowKit
set_option linter.unusedVariables false
set_option linter.unusedSimpArgs false

theorem rt1 {v u : Value} (h : v = u) : Ending.returned v = .returned u := by rw [h]
theorem rt2 {v1 v2 u1 u2 : Value} (h1 : v1 = u1) (h2 : v2 = u2) : Ending.returned (.tuple #[v1, v2]) = .returned (.tuple #[u1, u2]) := by rw [h1, h2]
def truthM (b : Bool) : Int := if b then 1 else 0
def divideM (op a b : Int) : Int × Int :=
  if b = 0 then (0, 15) else if b = -1 then (if op = 9 then (wrap64 (-a), 0) else (0, 0)) else if op = 9 then (wrap64 (a.tdiv b), 0) else (a.tmod b, 0)
theorem truth_any (b : Bool) (w : World) : Calls Try.prog 17 #[.bool b] w fun e w' => e = .returned (.int .i64 (truthM b)) ∧ w = w' := by
  go_enter Try.func17, Try.ntmps17
  cases b <;> (go_wp2; go_ret; exact ⟨rfl, rfl⟩)
theorem truth22_any (b : Bool) (w : World) : Calls Try.prog 22 #[.bool b] w fun e w' => e = .returned (.int .i64 (truthM b)) ∧ w = w' := by
  go_enter Try.func22, Try.ntmps22
  cases b <;> (go_wp2; go_ret; exact ⟨rfl, rfl⟩)
set_option maxHeartbeats 1000000 in
theorem divide_any (op a b : Int) (w : World) : Calls Try.prog 18 #[.int .i64 op, .int .i64 a, .int .i64 b] w fun e w' => e = .returned (.tuple #[.int .i64 (divideM op a b).1, .int .i64 (divideM op a b).2]) ∧ w = w' := by
  unfold divideM
  by_cases h0 : b = 0
  · subst h0
    go_enter Try.func18, Try.ntmps18
    go_wp2
    go_ret2; exact ⟨rfl, rfl⟩
  by_cases h1 : b = -1
  · subst h1
    by_cases h9 : op = 9
    · subst h9
      go_enter Try.func18, Try.ntmps18
      go_wp2
      go_ret2; exact ⟨rfl, rfl⟩
    · go_enter Try.func18, Try.ntmps18
      go_wp2
      go_ret2; simp [h9]
  by_cases h9 : op = 9
  · subst h9
    go_enter Try.func18, Try.ntmps18
    go_wp2
    go_ret2; simp [h0, h1]
  · go_enter Try.func18, Try.ntmps18
    go_wp2
    go_ret2; simp [h0, h1, h9]

def twoM (op a b : Int) : Int × Int :=
  if op = 6 then (wrap64 (a + b), 0) else if op = 7 then (wrap64 (a - b), 0) else if op = 8 then (wrap64 (a * b), 0)
  else if op = 9 then divideM 9 a b else if op = 10 then divideM 10 a b else if op = 11 then (truthM (decide (a < b)), 0) else if op = 12 then (truthM (a == b), 0)
  else if op = 14 then (truthM (a != 0 && b != 0), 0) else if op = 15 then (truthM (bits .or .i64 a b != 0), 0) else (0, 9)

set_option maxHeartbeats 1000000 in
theorem two_any (op a b : Int) (w : World) : Calls Try.prog 10 #[.int .i64 op, .int .i64 a, .int .i64 b] w fun e w' => e = .returned (.tuple #[.int .i64 (twoM op a b).1, .int .i64 (twoM op a b).2]) ∧ w = w' := by
  by_cases h6 : op = 6
  · subst h6; go_enter Try.func10, Try.ntmps10; go_wp2; go_ret2; exact ⟨rfl, rfl⟩
  by_cases h7 : op = 7
  · subst h7; go_enter Try.func10, Try.ntmps10; go_wp2; go_ret2; exact ⟨rfl, rfl⟩
  by_cases h8 : op = 8
  · subst h8; go_enter Try.func10, Try.ntmps10; go_wp2; go_ret2; exact ⟨rfl, rfl⟩
  by_cases h9 : op = 9
  · subst h9; go_enter Try.func10, Try.ntmps10; go_wp2_with (go_at_call 18; refine (divide_any _ _ _ _).mono ?_; rintro e w' ⟨rfl, rfl⟩)
    all_goals (go_ret2; exact ⟨rfl, rfl⟩)
  by_cases h10 : op = 10
  · subst h10; go_enter Try.func10, Try.ntmps10; go_wp2_with (go_at_call 18; refine (divide_any _ _ _ _).mono ?_; rintro e w' ⟨rfl, rfl⟩)
    all_goals (go_ret2; exact ⟨rfl, rfl⟩)
  by_cases h11 : op = 11
  · subst h11; go_enter Try.func10, Try.ntmps10; go_wp2_with (go_at_call 17; refine (truth_any _ _).mono ?_; rintro e w' ⟨rfl, rfl⟩)
    all_goals (go_ret2; exact ⟨rfl, rfl⟩)
  by_cases h12 : op = 12
  · subst h12; go_enter Try.func10, Try.ntmps10; go_wp2_with (go_at_call 17; refine (truth_any _ _).mono ?_; rintro e w' ⟨rfl, rfl⟩)
    all_goals (go_ret2; exact ⟨rfl, rfl⟩)
  by_cases h14 : op = 14
  · subst h14
    by_cases ha : a = 0
    · subst ha; go_enter Try.func10, Try.ntmps10; go_wp2_with (go_at_call 17; refine (truth_any _ _).mono ?_; rintro e w' ⟨rfl, rfl⟩)
      go_ret2; exact ⟨rt2 (by simp [twoM]) (by simp [twoM]), rfl⟩
    · go_enter Try.func10, Try.ntmps10; go_wp2_with (go_at_call 17; refine (truth_any _ _).mono ?_; rintro e w' ⟨rfl, rfl⟩)
      go_ret2; exact ⟨rfl, rfl⟩
  by_cases h15 : op = 15
  · subst h15; go_enter Try.func10, Try.ntmps10; go_wp2_with (go_at_call 17; refine (truth_any _ _).mono ?_; rintro e w' ⟨rfl, rfl⟩)
    all_goals (go_ret2; exact ⟨rfl, rfl⟩)
  go_enter Try.func10, Try.ntmps10; go_wp2; go_ret2
  simp [twoM, *]

def oneM (op a : Int) : Int × Int := if op = 13 then (truthM (a == 0), 0) else (0, 9)
theorem one_any (op a : Int) (w : World) : Calls Try.prog 15 #[.int .i64 op, .int .i64 a] w fun e w' => e = .returned (.tuple #[.int .i64 (oneM op a).1, .int .i64 (oneM op a).2]) ∧ w = w' := by
  by_cases h : op = 13
  · subst h; go_enter Try.func15, Try.ntmps15; go_wp2_with (go_at_call 17; refine (truth_any _ _).mono ?_; rintro e w' ⟨rfl, rfl⟩)
    go_ret2; exact ⟨rfl, rfl⟩
  · go_enter Try.func15, Try.ntmps15; go_wp2; go_ret2; simp [oneM, h]
theorem one16_any (op a : Int) (w : World) : Calls Try.prog 16 #[.int .i64 op, .int .i64 a] w fun e w' => e = .returned (.tuple #[.int .i64 (oneM op a).1, .int .i64 (oneM op a).2]) ∧ w = w' := by
  by_cases h : op = 13
  · subst h; go_enter Try.func16, Try.ntmps16; go_wp2_with (go_at_call 22; refine (truth22_any _ _).mono ?_; rintro e w' ⟨rfl, rfl⟩)
    go_ret2; exact ⟨rfl, rfl⟩
  · go_enter Try.func16, Try.ntmps16; go_wp2; go_ret2; simp [oneM, h]

theorem add_any (a b : Int) (w : World) : Calls Try.prog 12 #[.int .i64 a, .int .i64 b] w fun e w' => e = .returned (.int .i64 (wrap64 (a + b))) ∧ w = w' := by
  go_enter Try.func12, Try.ntmps12; go_wp2_with (go_at_call 10; refine (two_any _ _ _ _).mono ?_; rintro e w' ⟨rfl, rfl⟩)
  go_ret; exact ⟨rfl, rfl⟩
theorem mul_any (a b : Int) (w : World) : Calls Try.prog 13 #[.int .i64 a, .int .i64 b] w fun e w' => e = .returned (.int .i64 (wrap64 (a * b))) ∧ w = w' := by
  go_enter Try.func13, Try.ntmps13; go_wp2_with (go_at_call 10; refine (two_any _ _ _ _).mono ?_; rintro e w' ⟨rfl, rfl⟩)
  go_ret; exact ⟨rfl, rfl⟩
theorem less_any (a b : Int) (w : World) : Calls Try.prog 14 #[.int .i64 a, .int .i64 b] w fun e w' => e = .returned (.int .i64 (truthM (decide (a < b)))) ∧ w = w' := by
  go_enter Try.func14, Try.ntmps14; go_wp2_with (go_at_call 10; refine (two_any _ _ _ _).mono ?_; rintro e w' ⟨rfl, rfl⟩)
  go_ret; exact ⟨rfl, rfl⟩

theorem lives_any (w : World) : Calls Try.prog 9 #[] w fun e w' => e = .returned (.bool true) ∧ w = w' := by
  have e1 : twoM 9 (-7) 2 = (-3, 0) := by decide +kernel
  have e2 : twoM 10 (-7) 2 = (-1, 0) := by decide +kernel
  have e3 : truthM true = 1 := rfl
  go_enter Try.func9, Try.ntmps9
  go_wp2_with (first | (go_at_call 10; refine (two_any _ _ _ _).mono ?_; rintro e w' ⟨rfl, rfl⟩) | (go_at_call 17; refine (truth_any _ _).mono ?_; rintro e w' ⟨rfl, rfl⟩))
  go_ret; exact ⟨rfl, rfl⟩


end Go.Proofs.Ytlmgkggdaagfnaa
