/- ArithDivides, walked: whatever the numbers, the call returns true and leaves the memory as it was. -/
import Derived.Test.YtlmgkggdaagfnaaA1
namespace Go.Proofs.Ytlmgkggdaagfnaa
open Go.RowKit
set_option linter.unusedVariables false
set_option linter.unusedSimpArgs false


theorem wrap_eq (x y : Int) (h : x % 18446744073709551616 = y % 18446744073709551616) (hy : -9223372036854775808 ≤ y) (hy2 : y ≤ 9223372036854775807) : wrap64 x = y := by
  unfold wrap64; omega
theorem wrap_mod (x : Int) : wrap64 x % 18446744073709551616 = x % 18446744073709551616 := by unfold wrap64; omega
theorem mul_wl (x y : Int) : (wrap64 x * y) % 18446744073709551616 = (x * y) % 18446744073709551616 := by rw [Int.mul_emod, wrap_mod, ← Int.mul_emod]
theorem add_wl (x y : Int) : (wrap64 x + y) % 18446744073709551616 = (x + y) % 18446744073709551616 := by rw [Int.add_emod, wrap_mod, ← Int.add_emod]

/-- a quotient and what is left -/
theorem div_facts (a b : Int) (ha : (Lit.int .i64 a).wf = true) (hb : (Lit.int .i64 b).wf = true) (h0 : b ≠ 0) :
    ∃ q r, divideM 9 a b = (q, 0) ∧ divideM 10 a b = (r, 0) ∧ wrap64 (wrap64 (q * b) + r) = a ∧
      (0 < b → r < b ∧ -r < b) ∧ (b < 0 → b < r ∧ b < -r) ∧ (0 < r → 0 < a) ∧ (r < 0 → a < 0) := by
  have ba := bounds_i64 ha
  have bb := bounds_i64 hb
  by_cases h1 : b = -1
  · subst h1
    refine ⟨wrap64 (-a), 0, by simp [divideM], by simp [divideM], ?_, by omega, by omega, by omega, by omega⟩
    refine wrap_eq _ _ ?_ (by omega) (by omega)
    rw [Int.add_zero, wrap_mod, mul_wl]; congr 1; omega
  · refine ⟨wrap64 (a.tdiv b), a.tmod b, by simp [divideM, h0, h1], by simp [divideM, h0, h1], ?_, ?_, ?_, ?_, ?_⟩
    · refine wrap_eq _ _ ?_ (by omega) (by omega)
      rw [add_wl, Int.add_emod, mul_wl, ← Int.add_emod]
      congr 1
      rw [Int.mul_comm]; exact Int.mul_tdiv_add_tmod a b
    · intro h
      exact ⟨Int.tmod_lt_of_pos a h, by have := Int.lt_tmod_of_pos a h; omega⟩
    · intro h
      have e : a.tmod b = a.tmod (-b) := by rw [Int.tmod_neg]
      have h1 := Int.tmod_lt_of_pos a (show 0 < -b by omega)
      have h2 := Int.lt_tmod_of_pos a (show 0 < -b by omega)
      rw [e]; omega
    · intro h
      by_cases hz : a ≤ 0
      · have := Int.tmod_nonneg (a := -a) b (by omega)
        rw [Int.neg_tmod] at this; omega
      · omega
    · intro h
      by_cases hz : 0 ≤ a
      · have := Int.tmod_nonneg (a := a) b hz; omega
      · omega

theorem two_is (op a b r : Int) (h : twoM op a b = (r, 0)) (w : World) : Calls Try.prog 10 #[.int .i64 op, .int .i64 a, .int .i64 b] w fun e w' => e = .returned (.tuple #[.int .i64 r, .int .i64 0]) ∧ w = w' := by
  have := two_any op a b w; rw [h] at this; exact this

theorem divides_zero (a : Int) (w : World) : Calls Try.prog 5 #[.int .i64 a, .int .i64 0] w fun e w' => e = .returned (.bool true) ∧ w = w' := by
  have H1 := Lib.hid (fun w => show Calls Try.prog 10 #[.int .i64 9, .int .i64 a, .int .i64 0] w fun e w' => e = .returned (.tuple #[.int .i64 0, .int .i64 15]) ∧ w = w' from two_any 9 a 0 w)
  have H2 := Lib.hid (fun w => show Calls Try.prog 10 #[.int .i64 10, .int .i64 a, .int .i64 0] w fun e w' => e = .returned (.tuple #[.int .i64 0, .int .i64 15]) ∧ w = w' from two_any 10 a 0 w)
  go_enter Try.func5, Try.ntmps5
  go_wp2_with (first | (go_at_call 9; refine (lives_any _).mono ?_; rintro e w' ⟨rfl, rfl⟩) | (go_at_call 10; (first | (with_reducible refine (H1.out _).mono ?_) | (with_reducible refine (H2.out _).mono ?_)); rintro e w' ⟨rfl, rfl⟩))
  go_ret; exact ⟨rfl, rfl⟩

set_option maxHeartbeats 1000000 in
theorem divides_pos_z (a b q : Int) (hz : (b == 0) = false) (hb : 0 < b) (hb0 : decide (0 < b) = true) (hb1 : decide (b < 0) = false) (hs : wrap64 (wrap64 (q * b) + 0) = a) (w : World)
    (h1 : ∀ w, Calls Try.prog 10 #[.int .i64 9, .int .i64 a, .int .i64 b] w fun e w' => e = .returned (.tuple #[.int .i64 q, .int .i64 0]) ∧ w = w')
    (h2 : ∀ w, Calls Try.prog 10 #[.int .i64 10, .int .i64 a, .int .i64 b] w fun e w' => e = .returned (.tuple #[.int .i64 0, .int .i64 0]) ∧ w = w') :
    Calls Try.prog 5 #[.int .i64 a, .int .i64 b] w fun e w' => e = .returned (.bool true) ∧ w = w' := by
  have H1 := Lib.hid h1
  have H2 := Lib.hid h2
  clear h1 h2
  have H3 := Lib.hid (two_is 8 q b (wrap64 (q * b)) rfl)
  have H4 := Lib.hid (two_is 6 (wrap64 (q * b)) 0 a (by show (wrap64 (wrap64 (q * b) + 0), (0 : Int)) = (a, 0); rw [hs]))
  clear hs
  generalize wrap64 (q * b) = p at *
  go_enter Try.func5, Try.ntmps5
  go_wp2_with (first | (go_at_call 9; refine (lives_any _).mono ?_; rintro e w' ⟨rfl, rfl⟩) | (go_at_call 10; (first | (with_reducible refine (H1.out _).mono ?_) | (with_reducible refine (H2.out _).mono ?_) | (with_reducible refine (H3.out _).mono ?_) | (with_reducible refine (H4.out _).mono ?_)); rintro e w' ⟨rfl, rfl⟩))
  all_goals (go_ret; refine ⟨rt1 ?_, rfl⟩; first | rfl | (simp; omega))
set_option maxHeartbeats 1000000 in
theorem divides_pos_pos (a b q r : Int) (hz : (b == 0) = false) (hb : 0 < b) (hb0 : decide (0 < b) = true) (hb1 : decide (b < 0) = false) (hr : 0 < r) (c1 : r < b) (ha : decide (a < 0) = false) (hw : wrap64 (-r) = -r) (hs : wrap64 (wrap64 (q * b) + r) = a) (w : World)
    (h1 : ∀ w, Calls Try.prog 10 #[.int .i64 9, .int .i64 a, .int .i64 b] w fun e w' => e = .returned (.tuple #[.int .i64 q, .int .i64 0]) ∧ w = w')
    (h2 : ∀ w, Calls Try.prog 10 #[.int .i64 10, .int .i64 a, .int .i64 b] w fun e w' => e = .returned (.tuple #[.int .i64 r, .int .i64 0]) ∧ w = w') :
    Calls Try.prog 5 #[.int .i64 a, .int .i64 b] w fun e w' => e = .returned (.bool true) ∧ w = w' := by
  have H1 := Lib.hid h1
  have H2 := Lib.hid h2
  clear h1 h2
  have H3 := Lib.hid (two_is 8 q b (wrap64 (q * b)) rfl)
  have H4 := Lib.hid (two_is 6 (wrap64 (q * b)) r a (by show (wrap64 (wrap64 (q * b) + r), (0 : Int)) = (a, 0); rw [hs]))
  clear hs
  generalize wrap64 (q * b) = p at *
  go_enter Try.func5, Try.ntmps5
  go_wp2_with (first | (go_at_call 9; refine (lives_any _).mono ?_; rintro e w' ⟨rfl, rfl⟩) | (go_at_call 10; (first | (with_reducible refine (H1.out _).mono ?_) | (with_reducible refine (H2.out _).mono ?_) | (with_reducible refine (H3.out _).mono ?_) | (with_reducible refine (H4.out _).mono ?_)); rintro e w' ⟨rfl, rfl⟩))
  all_goals (go_ret; refine ⟨rt1 ?_, rfl⟩; first | rfl | (simp; omega))
set_option maxHeartbeats 1000000 in
theorem divides_pos_neg (a b q r : Int) (hz : (b == 0) = false) (hb : 0 < b) (hb0 : decide (0 < b) = true) (hb1 : decide (b < 0) = false) (hr : r < 0) (c1 : -r < b) (ha : decide (a < 0) = true) (hw : wrap64 (-r) = -r) (hs : wrap64 (wrap64 (q * b) + r) = a) (w : World)
    (h1 : ∀ w, Calls Try.prog 10 #[.int .i64 9, .int .i64 a, .int .i64 b] w fun e w' => e = .returned (.tuple #[.int .i64 q, .int .i64 0]) ∧ w = w')
    (h2 : ∀ w, Calls Try.prog 10 #[.int .i64 10, .int .i64 a, .int .i64 b] w fun e w' => e = .returned (.tuple #[.int .i64 r, .int .i64 0]) ∧ w = w') :
    Calls Try.prog 5 #[.int .i64 a, .int .i64 b] w fun e w' => e = .returned (.bool true) ∧ w = w' := by
  have H1 := Lib.hid h1
  have H2 := Lib.hid h2
  clear h1 h2
  have H3 := Lib.hid (two_is 8 q b (wrap64 (q * b)) rfl)
  have H4 := Lib.hid (two_is 6 (wrap64 (q * b)) r a (by show (wrap64 (wrap64 (q * b) + r), (0 : Int)) = (a, 0); rw [hs]))
  clear hs
  generalize wrap64 (q * b) = p at *
  go_enter Try.func5, Try.ntmps5
  go_wp2_with (first | (go_at_call 9; refine (lives_any _).mono ?_; rintro e w' ⟨rfl, rfl⟩) | (go_at_call 10; (first | (with_reducible refine (H1.out _).mono ?_) | (with_reducible refine (H2.out _).mono ?_) | (with_reducible refine (H3.out _).mono ?_) | (with_reducible refine (H4.out _).mono ?_)); rintro e w' ⟨rfl, rfl⟩))
  all_goals (go_ret; refine ⟨rt1 ?_, rfl⟩; first | rfl | (simp; omega))
set_option maxHeartbeats 1000000 in
theorem divides_neg_z (a b q : Int) (hz : (b == 0) = false) (hb : b < 0) (hb0 : decide (0 < b) = false) (hb1 : decide (b < 0) = true) (hs : wrap64 (wrap64 (q * b) + 0) = a) (w : World)
    (h1 : ∀ w, Calls Try.prog 10 #[.int .i64 9, .int .i64 a, .int .i64 b] w fun e w' => e = .returned (.tuple #[.int .i64 q, .int .i64 0]) ∧ w = w')
    (h2 : ∀ w, Calls Try.prog 10 #[.int .i64 10, .int .i64 a, .int .i64 b] w fun e w' => e = .returned (.tuple #[.int .i64 0, .int .i64 0]) ∧ w = w') :
    Calls Try.prog 5 #[.int .i64 a, .int .i64 b] w fun e w' => e = .returned (.bool true) ∧ w = w' := by
  have H1 := Lib.hid h1
  have H2 := Lib.hid h2
  clear h1 h2
  have H3 := Lib.hid (two_is 8 q b (wrap64 (q * b)) rfl)
  have H4 := Lib.hid (two_is 6 (wrap64 (q * b)) 0 a (by show (wrap64 (wrap64 (q * b) + 0), (0 : Int)) = (a, 0); rw [hs]))
  clear hs
  generalize wrap64 (q * b) = p at *
  go_enter Try.func5, Try.ntmps5
  go_wp2_with (first | (go_at_call 9; refine (lives_any _).mono ?_; rintro e w' ⟨rfl, rfl⟩) | (go_at_call 10; (first | (with_reducible refine (H1.out _).mono ?_) | (with_reducible refine (H2.out _).mono ?_) | (with_reducible refine (H3.out _).mono ?_) | (with_reducible refine (H4.out _).mono ?_)); rintro e w' ⟨rfl, rfl⟩))
  all_goals (go_ret; refine ⟨rt1 ?_, rfl⟩; first | rfl | (simp; omega))
set_option maxHeartbeats 1000000 in
theorem divides_neg_pos (a b q r : Int) (hz : (b == 0) = false) (hb : b < 0) (hb0 : decide (0 < b) = false) (hb1 : decide (b < 0) = true) (hr : 0 < r) (c1 : b < -r) (ha : decide (a < 0) = false) (hw : wrap64 (-r) = -r) (hs : wrap64 (wrap64 (q * b) + r) = a) (w : World)
    (h1 : ∀ w, Calls Try.prog 10 #[.int .i64 9, .int .i64 a, .int .i64 b] w fun e w' => e = .returned (.tuple #[.int .i64 q, .int .i64 0]) ∧ w = w')
    (h2 : ∀ w, Calls Try.prog 10 #[.int .i64 10, .int .i64 a, .int .i64 b] w fun e w' => e = .returned (.tuple #[.int .i64 r, .int .i64 0]) ∧ w = w') :
    Calls Try.prog 5 #[.int .i64 a, .int .i64 b] w fun e w' => e = .returned (.bool true) ∧ w = w' := by
  have H1 := Lib.hid h1
  have H2 := Lib.hid h2
  clear h1 h2
  have H3 := Lib.hid (two_is 8 q b (wrap64 (q * b)) rfl)
  have H4 := Lib.hid (two_is 6 (wrap64 (q * b)) r a (by show (wrap64 (wrap64 (q * b) + r), (0 : Int)) = (a, 0); rw [hs]))
  clear hs
  generalize wrap64 (q * b) = p at *
  go_enter Try.func5, Try.ntmps5
  go_wp2_with (first | (go_at_call 9; refine (lives_any _).mono ?_; rintro e w' ⟨rfl, rfl⟩) | (go_at_call 10; (first | (with_reducible refine (H1.out _).mono ?_) | (with_reducible refine (H2.out _).mono ?_) | (with_reducible refine (H3.out _).mono ?_) | (with_reducible refine (H4.out _).mono ?_)); rintro e w' ⟨rfl, rfl⟩))
  all_goals (go_ret; refine ⟨rt1 ?_, rfl⟩; first | rfl | (simp; omega))
set_option maxHeartbeats 1000000 in
theorem divides_neg_neg (a b q r : Int) (hz : (b == 0) = false) (hb : b < 0) (hb0 : decide (0 < b) = false) (hb1 : decide (b < 0) = true) (hr : r < 0) (c1 : b < r) (ha : decide (a < 0) = true) (hw : wrap64 (-r) = -r) (hs : wrap64 (wrap64 (q * b) + r) = a) (w : World)
    (h1 : ∀ w, Calls Try.prog 10 #[.int .i64 9, .int .i64 a, .int .i64 b] w fun e w' => e = .returned (.tuple #[.int .i64 q, .int .i64 0]) ∧ w = w')
    (h2 : ∀ w, Calls Try.prog 10 #[.int .i64 10, .int .i64 a, .int .i64 b] w fun e w' => e = .returned (.tuple #[.int .i64 r, .int .i64 0]) ∧ w = w') :
    Calls Try.prog 5 #[.int .i64 a, .int .i64 b] w fun e w' => e = .returned (.bool true) ∧ w = w' := by
  have H1 := Lib.hid h1
  have H2 := Lib.hid h2
  clear h1 h2
  have H3 := Lib.hid (two_is 8 q b (wrap64 (q * b)) rfl)
  have H4 := Lib.hid (two_is 6 (wrap64 (q * b)) r a (by show (wrap64 (wrap64 (q * b) + r), (0 : Int)) = (a, 0); rw [hs]))
  clear hs
  generalize wrap64 (q * b) = p at *
  go_enter Try.func5, Try.ntmps5
  go_wp2_with (first | (go_at_call 9; refine (lives_any _).mono ?_; rintro e w' ⟨rfl, rfl⟩) | (go_at_call 10; (first | (with_reducible refine (H1.out _).mono ?_) | (with_reducible refine (H2.out _).mono ?_) | (with_reducible refine (H3.out _).mono ?_) | (with_reducible refine (H4.out _).mono ?_)); rintro e w' ⟨rfl, rfl⟩))
  all_goals (go_ret; refine ⟨rt1 ?_, rfl⟩; first | rfl | (simp; omega))

set_option maxHeartbeats 1000000 in
theorem arithDivides_any (a b : Int) (ha : (Lit.int .i64 a).wf = true) (hb : (Lit.int .i64 b).wf = true) (w : World) :
    Calls Try.prog 5 #[.int .i64 a, .int .i64 b] w fun e w' => e = .returned (.bool true) ∧ w = w' := by
  by_cases h0 : b = 0
  · subst h0; exact divides_zero a w
  obtain ⟨q, r, hq, hr, hs, hp, hn, s1, s2⟩ := div_facts a b ha hb h0
  have ba := bounds_i64 ha
  have bb := bounds_i64 hb
  have L1 := two_is 9 a b q (by rw [← hq]; rfl)
  have L2 := two_is 10 a b r (by rw [← hr]; rfl)
  have hz : (b == 0) = false := by simpa using h0
  have hw : wrap64 (-r) = -r := by
    unfold wrap64
    rcases Int.lt_or_gt_of_ne h0 with h | h
    · have := hn h; omega
    · have := hp h; omega
  rcases Int.lt_or_gt_of_ne h0 with h | h
  · obtain ⟨n1, n2⟩ := hn h
    rcases Int.lt_trichotomy r 0 with hr0 | rfl | hr0
    · exact divides_neg_neg a b q r hz h (by simp; omega) (by simp; omega) hr0 n1 (by simp; omega) hw hs w L1 L2
    · exact divides_neg_z a b q hz h (by simp; omega) (by simp; omega) hs w L1 L2
    · exact divides_neg_pos a b q r hz h (by simp; omega) (by simp; omega) hr0 n2 (by simp; omega) hw hs w L1 L2
  · obtain ⟨n1, n2⟩ := hp h
    rcases Int.lt_trichotomy r 0 with hr0 | rfl | hr0
    · exact divides_pos_neg a b q r hz h (by simp; omega) (by simp; omega) hr0 n2 (by simp; omega) hw hs w L1 L2
    · exact divides_pos_z a b q hz h (by simp; omega) (by simp; omega) hs w L1 L2
    · exact divides_pos_pos a b q r hz h (by simp; omega) (by simp; omega) hr0 n1 (by simp; omega) hw hs w L1 L2

end Go.Proofs.Ytlmgkggdaagfnaa
