/- ArithTruths, walked: whatever the numbers, the call returns true and leaves the memory as it was. -/
import Derived.Test.YtlmgkggdaagfnaaA1
namespace Go.Proofs.Ytlmgkggdaagfnaa
open Go.RowKit
set_option linter.unusedVariables false
set_option linter.unusedSimpArgs false


theorem ofInt_zero (a : Int) (h : (Lit.int .i64 a).wf = true) (e : BitVec.ofInt 64 a = 0#64) : a = 0 := by
  have := bounds_i64 h
  have h2 := congrArg BitVec.toNat e
  rw [BitVec.toNat_ofInt] at h2
  simp at h2
  omega

theorem or_eq_zero (a b : Int) (ha : (Lit.int .i64 a).wf = true) (hb : (Lit.int .i64 b).wf = true) (e : bits .or .i64 a b = 0) : a = 0 ∧ b = 0 := by
  have h1 : ((BitVec.ofInt 64 a ||| BitVec.ofInt 64 b).toNat : Int) < 18446744073709551616 := by
    have := (BitVec.ofInt 64 a ||| BitVec.ofInt 64 b).isLt; omega
  have h2 : IntKind.i64.wrap ((BitVec.ofInt 64 a ||| BitVec.ofInt 64 b).toNat : Int) = 0 := e
  rw [IntKind.wrap_i64] at h2
  have h3 : (BitVec.ofInt 64 a ||| BitVec.ofInt 64 b).toNat = 0 := by omega
  have h4 : BitVec.ofInt 64 a ||| BitVec.ofInt 64 b = 0#64 := by apply BitVec.eq_of_toNat_eq; simpa using h3
  have h5 : ∀ i, (BitVec.ofInt 64 a).getLsbD i = false ∧ (BitVec.ofInt 64 b).getLsbD i = false := fun i => by
    have := congrArg (fun v => v.getLsbD i) h4
    simpa using this
  exact ⟨ofInt_zero a ha (by apply BitVec.eq_of_getLsbD_eq; intro i hi; simpa using (h5 i).1), ofInt_zero b hb (by apply BitVec.eq_of_getLsbD_eq; intro i hi; simpa using (h5 i).2)⟩

theorem tr_t {b : Bool} (h : b = true) : truthM b = 1 := by rw [h]; rfl
theorem tr_f {b : Bool} (h : b = false) : truthM b = 0 := by rw [h]; rfl

theorem two_is (op a b r : Int) (h : twoM op a b = (r, 0)) (w : World) : Calls Try.prog 10 #[.int .i64 op, .int .i64 a, .int .i64 b] w fun e w' => e = .returned (.tuple #[.int .i64 r, .int .i64 0]) ∧ w = w' := by
  have := two_any op a b w; rw [h] at this; exact this
theorem one_is (a r : Int) (h : truthM (a == 0) = r) (w : World) : Calls Try.prog 15 #[.int .i64 13, .int .i64 a] w fun e w' => e = .returned (.tuple #[.int .i64 r, .int .i64 0]) ∧ w = w' := by
  have := one_any 13 a w; rw [show oneM 13 a = (r, 0) by rw [← h]; rfl] at this; exact this

set_option maxHeartbeats 1000000 in
theorem truths_00  (w : World) : Calls Try.prog 8 #[.int .i64 0, .int .i64 0] w fun e w' => e = .returned (.bool true) ∧ w = w' := by
  have H1 := Lib.hid (two_is 14 0 0 0 (by show (truthM (0 != 0 && 0 != 0), (0 : Int)) = (0, 0); first | rfl | simp [truthM]))
  have H2 := Lib.hid (two_is 15 0 0 0 (by decide +kernel))
  have H3 := Lib.hid (one_is 0 1 (by rfl))
  have H4 := Lib.hid (one_is 0 1 (by rfl))
  have H5 := Lib.hid (two_is 14 1 1 1 (by decide +kernel))
  have H6 := Lib.hid (one_is 1 0 rfl)
  have H7 := Lib.hid (one_is 1 0 rfl)
  have H8 := Lib.hid (truth_any true)
  have H9 := Lib.hid (truth_any false)
  have T1 : truthM true = 1 := rfl
  have T0 : truthM false = 0 := rfl
  go_enter Try.func8, Try.ntmps8
  go_wp2_with (first | (go_at_call 9; refine (lives_any _).mono ?_; rintro e w' ⟨rfl, rfl⟩) | (go_at_call 10; (first | (with_reducible refine (H1.out _).mono ?_) | (with_reducible refine (H2.out _).mono ?_) | (with_reducible refine (H5.out _).mono ?_)); rintro e w' ⟨rfl, rfl⟩) | (go_at_call 15; (first | (with_reducible refine (H3.out _).mono ?_) | (with_reducible refine (H4.out _).mono ?_) | (with_reducible refine (H6.out _).mono ?_) | (with_reducible refine (H7.out _).mono ?_)); rintro e w' ⟨rfl, rfl⟩) | (go_at_call 17; refine (truth_any _ _).mono ?_; rintro e w' ⟨rfl, rfl⟩))
  go_ret; exact ⟨rfl, rfl⟩

set_option maxHeartbeats 1000000 in
theorem truths_01 (b : Int) (hb : (Lit.int .i64 b).wf = true) (hnb : b ≠ 0) (w : World) : Calls Try.prog 8 #[.int .i64 0, .int .i64 b] w fun e w' => e = .returned (.bool true) ∧ w = w' := by
  have fb1 : (b == 0) = false := by simpa using hnb
  have fb2 : (b != 0) = true := by simpa using hnb
  have H1 := Lib.hid (two_is 14 0 b 0 (by show (truthM (0 != 0 && b != 0), (0 : Int)) = (0, 0); first | rfl | simp [truthM]))
  have H2 := Lib.hid (two_is 15 0 b 1 (by show (truthM (bits .or .i64 0 b != 0), (0 : Int)) = (1, 0); rw [tr_t (b := _)]; rw [bne_iff_ne]; intro e; have := or_eq_zero 0 b (by decide) hb e; omega))
  have H3 := Lib.hid (one_is 0 1 (by rfl))
  have H4 := Lib.hid (one_is b 0 (by rw [fb1]; rfl))
  have H5 := Lib.hid (two_is 14 1 0 0 (by decide +kernel))
  have H6 := Lib.hid (one_is 0 1 rfl)
  have H7 := Lib.hid (one_is 1 0 rfl)
  have H8 := Lib.hid (truth_any true)
  have H9 := Lib.hid (truth_any false)
  have T1 : truthM true = 1 := rfl
  have T0 : truthM false = 0 := rfl
  clear hb hnb
  go_enter Try.func8, Try.ntmps8
  go_wp2_with (first | (go_at_call 9; refine (lives_any _).mono ?_; rintro e w' ⟨rfl, rfl⟩) | (go_at_call 10; (first | (with_reducible refine (H1.out _).mono ?_) | (with_reducible refine (H2.out _).mono ?_) | (with_reducible refine (H5.out _).mono ?_)); rintro e w' ⟨rfl, rfl⟩) | (go_at_call 15; (first | (with_reducible refine (H3.out _).mono ?_) | (with_reducible refine (H4.out _).mono ?_) | (with_reducible refine (H6.out _).mono ?_) | (with_reducible refine (H7.out _).mono ?_)); rintro e w' ⟨rfl, rfl⟩) | (go_at_call 17; refine (truth_any _ _).mono ?_; rintro e w' ⟨rfl, rfl⟩))
  go_ret; exact ⟨rfl, rfl⟩

set_option maxHeartbeats 1000000 in
theorem truths_10 (a : Int) (ha : (Lit.int .i64 a).wf = true) (hna : a ≠ 0) (w : World) : Calls Try.prog 8 #[.int .i64 a, .int .i64 0] w fun e w' => e = .returned (.bool true) ∧ w = w' := by
  have fa1 : (a == 0) = false := by simpa using hna
  have fa2 : (a != 0) = true := by simpa using hna
  have H1 := Lib.hid (two_is 14 a 0 0 (by show (truthM (a != 0 && 0 != 0), (0 : Int)) = (0, 0); rw [fa2]; first | rfl | simp [truthM]))
  have H2 := Lib.hid (two_is 15 a 0 1 (by show (truthM (bits .or .i64 a 0 != 0), (0 : Int)) = (1, 0); rw [tr_t (b := _)]; rw [bne_iff_ne]; intro e; have := or_eq_zero a 0 ha (by decide) e; omega))
  have H3 := Lib.hid (one_is a 0 (by rw [fa1]; rfl))
  have H4 := Lib.hid (one_is 0 1 (by rfl))
  have H5 := Lib.hid (two_is 14 0 1 0 (by decide +kernel))
  have H6 := Lib.hid (one_is 0 1 rfl)
  have H7 := Lib.hid (one_is 0 1 rfl)
  have H8 := Lib.hid (truth_any true)
  have H9 := Lib.hid (truth_any false)
  have T1 : truthM true = 1 := rfl
  have T0 : truthM false = 0 := rfl
  clear ha hna
  go_enter Try.func8, Try.ntmps8
  go_wp2_with (first | (go_at_call 9; refine (lives_any _).mono ?_; rintro e w' ⟨rfl, rfl⟩) | (go_at_call 10; (first | (with_reducible refine (H1.out _).mono ?_) | (with_reducible refine (H2.out _).mono ?_) | (with_reducible refine (H5.out _).mono ?_)); rintro e w' ⟨rfl, rfl⟩) | (go_at_call 15; (first | (with_reducible refine (H3.out _).mono ?_) | (with_reducible refine (H4.out _).mono ?_) | (with_reducible refine (H6.out _).mono ?_) | (with_reducible refine (H7.out _).mono ?_)); rintro e w' ⟨rfl, rfl⟩) | (go_at_call 17; refine (truth_any _ _).mono ?_; rintro e w' ⟨rfl, rfl⟩))
  go_ret; exact ⟨rfl, rfl⟩

set_option maxHeartbeats 1000000 in
theorem truths_11 (a : Int) (ha : (Lit.int .i64 a).wf = true) (hna : a ≠ 0) (b : Int) (hb : (Lit.int .i64 b).wf = true) (hnb : b ≠ 0) (w : World) : Calls Try.prog 8 #[.int .i64 a, .int .i64 b] w fun e w' => e = .returned (.bool true) ∧ w = w' := by
  have fa1 : (a == 0) = false := by simpa using hna
  have fa2 : (a != 0) = true := by simpa using hna
  have fb1 : (b == 0) = false := by simpa using hnb
  have fb2 : (b != 0) = true := by simpa using hnb
  have H1 := Lib.hid (two_is 14 a b 1 (by show (truthM (a != 0 && b != 0), (0 : Int)) = (1, 0); rw [fa2]; rw [fb2]; first | rfl | simp [truthM]))
  have H2 := Lib.hid (two_is 15 a b 1 (by show (truthM (bits .or .i64 a b != 0), (0 : Int)) = (1, 0); rw [tr_t (b := _)]; rw [bne_iff_ne]; intro e; have := or_eq_zero a b ha hb e; omega))
  have H3 := Lib.hid (one_is a 0 (by rw [fa1]; rfl))
  have H4 := Lib.hid (one_is b 0 (by rw [fb1]; rfl))
  have H5 := Lib.hid (two_is 14 0 0 0 (by decide +kernel))
  have H6 := Lib.hid (one_is 0 1 rfl)
  have H7 := Lib.hid (one_is 0 1 rfl)
  have H8 := Lib.hid (truth_any true)
  have H9 := Lib.hid (truth_any false)
  have T1 : truthM true = 1 := rfl
  have T0 : truthM false = 0 := rfl
  clear ha hna
  clear hb hnb
  go_enter Try.func8, Try.ntmps8
  go_wp2_with (first | (go_at_call 9; refine (lives_any _).mono ?_; rintro e w' ⟨rfl, rfl⟩) | (go_at_call 10; (first | (with_reducible refine (H1.out _).mono ?_) | (with_reducible refine (H2.out _).mono ?_) | (with_reducible refine (H5.out _).mono ?_)); rintro e w' ⟨rfl, rfl⟩) | (go_at_call 15; (first | (with_reducible refine (H3.out _).mono ?_) | (with_reducible refine (H4.out _).mono ?_) | (with_reducible refine (H6.out _).mono ?_) | (with_reducible refine (H7.out _).mono ?_)); rintro e w' ⟨rfl, rfl⟩) | (go_at_call 17; refine (truth_any _ _).mono ?_; rintro e w' ⟨rfl, rfl⟩))
  go_ret; exact ⟨rfl, rfl⟩

theorem arithTruths_any (a b : Int) (ha : (Lit.int .i64 a).wf = true) (hb : (Lit.int .i64 b).wf = true) (w : World) :
    Calls Try.prog 8 #[.int .i64 a, .int .i64 b] w fun e w' => e = .returned (.bool true) ∧ w = w' := by
  by_cases h1 : a = 0
  · subst h1
    by_cases h2 : b = 0
    · subst h2; exact truths_00 w
    · exact truths_01 b hb h2 w
  · by_cases h2 : b = 0
    · subst h2; exact truths_10 a ha h1 w
    · exact truths_11 a ha h1 b hb h2 w

end Go.Proofs.Ytlmgkggdaagfnaa
