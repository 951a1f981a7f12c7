/- ArithTwo, walked: whatever the numbers, the call returns true and leaves the memory as it was. -/
import Derived.Test.YtlmgkggdaagfnaaA1
namespace Go.Proofs.Ytlmgkggdaagfnaa
open Go.RowKit
set_option linter.unusedVariables false
set_option linter.unusedSimpArgs false


theorem u64_wrap_eq (x y : Int) (h : x % 18446744073709551616 = y % 18446744073709551616) (h0 : 0 ≤ y) (h1 : y < 18446744073709551616) : IntKind.u64.wrap x = y := by
  rw [IntKind.wrap_u64]; omega
theorem size_neg (a : Int) (h : a < 0) (ha : -9223372036854775808 ≤ a) (w : World) : Calls Try.prog 21 #[.int .i64 a] w fun e w' => e = .returned (.int .u64 (-a)) ∧ w = w' := by
  have hr : -(a + 1) + 1 = -a := by omega
  go_enter Try.func21, Try.ntmps21
  go_wp2
  go_ret; exact ⟨rfl, rfl⟩
theorem size_pos (a : Int) (h : 0 ≤ a) (ha : a ≤ 9223372036854775807) (w : World) : Calls Try.prog 21 #[.int .i64 a] w fun e w' => e = .returned (.int .u64 a) ∧ w = w' := by
  go_enter Try.func21, Try.ntmps21
  go_wp2
  go_ret; exact ⟨rfl, rfl⟩
theorem not_u64 (n : Nat) (h : n < 18446744073709551616) : bits .xor .u64 18446744073709551615 (n : Int) = 18446744073709551615 - n := by
  show IntKind.u64.wrap ((BitVec.ofInt 64 18446744073709551615 ^^^ BitVec.ofInt 64 (n : Int)).toNat : Int) = _
  have h1 : BitVec.ofInt 64 18446744073709551615 = BitVec.allOnes 64 := by decide
  rw [h1, BitVec.allOnes_xor, BitVec.toNat_not, ofInt_u64 n (by omega), IntKind.wrap_u64]
  omega
theorem signed_any (n : Nat) (b : Bool) (h : n < 18446744073709551616) (w : World) : Calls Try.prog 20 #[.int .u64 (n : Int), .bool b] w fun e w' => e = .returned (.int .i64 (if b then wrap64 (-(n : Int)) else wrap64 n)) ∧ w = w' := by
  have hx := not_u64 n h
  cases b
  · go_enter Try.func20, Try.ntmps20
    go_wp2
    go_ret; exact ⟨rfl, rfl⟩
  · have hm : IntKind.u64.max = 18446744073709551615 := by decide
    clear h
    have hs : IntKind.u64.signed = false := rfl
    go_enter Try.func20, Try.ntmps20
    go_wp2
    go_ret
    refine ⟨rt1 ?_, rfl⟩
    simp only [IntKind.wrap_u64, wrap64]; simp; omega

theorem mod_succ (b : Int) (k : Nat) : b % 2 ^ (k + 1) = b % 2 ^ k + 2 ^ k * (b / 2 ^ k % 2) := by
  have h2 : (2 : Int) ^ (k + 1) = 2 ^ k * 2 := Int.pow_succ ..
  have hp : (0 : Int) < 2 ^ k := Int.pow_pos (by decide)
  rw [h2]
  have e1 := Int.emod_add_mul_ediv b (2 ^ k * 2)
  have e2 := Int.emod_add_mul_ediv b (2 ^ k)
  have e3 := Int.emod_add_mul_ediv (b / 2 ^ k) 2
  have e4 : b / 2 ^ k / 2 = b / (2 ^ k * 2) := Int.ediv_ediv_of_nonneg (Int.le_of_lt hp)
  rw [e4] at e3
  have e5 : 2 ^ k * (b / 2 ^ k) = 2 ^ k * (b / 2 ^ k % 2) + 2 ^ k * 2 * (b / (2 ^ k * 2)) := by
    rw [Int.mul_assoc, ← Int.mul_add]; rw [e3]
  omega
theorem prod_step (a b : Int) (k : Nat) (h : b / 2 ^ k % 2 = 1) : (a * (b % 2 ^ (k + 1))) % 18446744073709551616 = (a * (b % 2 ^ k) % 18446744073709551616 + a * 2 ^ k % 18446744073709551616) % 18446744073709551616 := by
  rw [mod_succ, h, Int.mul_one, Int.mul_add, Int.add_emod]
theorem prod_stay (a b : Int) (k : Nat) (h : b / 2 ^ k % 2 = 0) : (a * (b % 2 ^ (k + 1))) % 18446744073709551616 = (a * (b % 2 ^ k) % 18446744073709551616) := by
  rw [mod_succ, h, Int.mul_zero, Int.add_zero]
theorem div_pow_nonneg (b : Int) (k : Nat) (hb : 0 ≤ b) : 0 ≤ b / 2 ^ k := Int.ediv_nonneg hb (Int.le_of_lt (Int.pow_pos (by decide)))
theorem tmod2 (x : Int) (h : 0 ≤ x) : x.tmod 2 = x % 2 := Int.tmod_eq_emod_of_nonneg h
theorem product_any (a b : Int) (ha0 : 0 ≤ a) (ha1 : a < 18446744073709551616) (hb0 : 0 ≤ b) (hb1 : b < 18446744073709551616) (w : World) : Calls Try.prog 19 #[.int .u64 a, .int .u64 b] w fun e w' => e = .returned (.int .u64 ((a * b) % 18446744073709551616)) ∧ w = w' := by
  go_enter Try.func19, Try.ntmps19
  go_wp2
  go_loop [5, 6] (fun n i => ∃ (k : Nat) (m : Int), k ≤ 64 ∧ i = .int .i64 k ∧ n = .int .u64 m ∧ 0 ≤ m ∧ m < 18446744073709551616 ∧ Hid (m = (a * (b % 2 ^ k)) % 18446744073709551616)) (fun _ i => 64 - (intOf i).toNat)
  case atStart => exact ⟨0, 0, by omega, rfl, rfl, by omega, by omega, by simp [Hid, Int.emod_one]⟩
  case round =>
    obtain ⟨k, m, hk, rfl, rfl, hm0, hm1, H⟩ := hrel
    by_cases hlt : k < 64
    · go_wp2
      · have ht : ((b / 2 ^ k).tmod 2 == 1) = true := by assumption
        rw [tmod2 _ (div_pow_nonneg b k hb0), beq_iff_eq] at ht
        refine ⟨⟨k + 1, (a * (b % 2 ^ (k + 1))) % 18446744073709551616, by omega, by go_num, ?_, by omega, by omega, rfl⟩, by simp [intOf]; omega⟩
        rw [prod_step a b k ht, ← H.out, IntKind.wrap_u64, IntKind.wrap_u64]
      · have ht : ((b / 2 ^ k).tmod 2 == 1) = false := by assumption
        rw [tmod2 _ (div_pow_nonneg b k hb0), beq_eq_false_iff_ne] at ht
        refine ⟨⟨k + 1, m, by omega, by go_num, rfl, hm0, hm1, ?_⟩, by simp [intOf]; omega⟩
        show m = _
        rw [prod_stay a b k (by omega)]; exact H.out
    · go_wp2
      go_ret
      refine ⟨rt1 ?_, rfl⟩
      have : k = 64 := by omega
      subst this
      show Value.int .u64 m = _
      rw [H.out, show (2 : Int) ^ 64 = 18446744073709551616 by decide, Int.emod_eq_of_lt hb0 hb1]


theorem u64w_range (x : Int) : 0 ≤ IntKind.u64.wrap x ∧ IntKind.u64.wrap x < 18446744073709551616 := by rw [IntKind.wrap_u64]; omega
theorem xor_top_nat (x : Nat) (h : x < 18446744073709551616) : x ^^^ 9223372036854775808 = (x + 9223372036854775808) % 18446744073709551616 := by
  apply Nat.eq_of_testBit_eq
  intro i
  rw [show (9223372036854775808 : Nat) = 2 ^ 63 by decide, show (18446744073709551616 : Nat) = 2 ^ 64 by decide, Nat.testBit_mod_two_pow, Nat.add_comm, Nat.testBit_xor, Nat.testBit_two_pow]
  by_cases h1 : i < 63
  · have h3 : decide (63 = i) = false := by rw [decide_eq_false_iff_not]; omega
    have h4 : decide (i < 64) = true := by rw [decide_eq_true_iff]; omega
    rw [Nat.testBit_two_pow_add_gt h1, h3, h4]; simp
  · by_cases h2 : i = 63
    · subst h2; rw [Nat.testBit_two_pow_add_eq]; simp
    · rw [Nat.testBit_lt_two_pow (i := i) (x := x) (Nat.lt_of_lt_of_le h (by rw [show (18446744073709551616 : Nat) = 2 ^ 64 by decide]; exact Nat.pow_le_pow_right (by decide) (by omega)))]
      have h3 : decide (63 = i) = false := by rw [decide_eq_false_iff_not]; omega
      have h4 : decide (i < 64) = false := by rw [decide_eq_false_iff_not]; omega
      rw [h3, h4]; simp
theorem xor_top (x : Int) (h0 : 0 ≤ x) (h : x < 18446744073709551616) : bits .xor .u64 x 9223372036854775808 = (x + 9223372036854775808) % 18446744073709551616 := by
  obtain ⟨n, rfl⟩ := Int.eq_ofNat_of_zero_le h0
  have := u64_xor_nat n 9223372036854775808 (by omega) (by omega)
  rw [show (9223372036854775808 : Int) = ((9223372036854775808 : Nat) : Int) from rfl, this, xor_top_nat n (by omega)]
  omega
theorem xor_zero (x y : Int) (h0 : 0 ≤ x) (h : x < 18446744073709551616) (h2 : 0 ≤ y) (h3 : y < 18446744073709551616) : bits .xor .u64 x y = 0 ↔ x = y := by
  obtain ⟨n, rfl⟩ := Int.eq_ofNat_of_zero_le h0
  obtain ⟨m, rfl⟩ := Int.eq_ofNat_of_zero_le h2
  rw [u64_xor_nat n m (by omega) (by omega)]
  constructor
  · intro e
    have e' : n ^^^ m = 0 := by omega
    have : n ^^^ (n ^^^ m) = n := by rw [e']; simp
    rw [← Nat.xor_assoc, Nat.xor_self, Nat.zero_xor] at this
    omega
  · intro e
    have : n = m := by omega
    subst this; simp
theorem xor_top_lt (a b : Int) (ha : -9223372036854775808 ≤ a ∧ a ≤ 9223372036854775807) (hb : -9223372036854775808 ≤ b ∧ b ≤ 9223372036854775807) :
    decide (bits .xor .u64 (IntKind.u64.wrap a) 9223372036854775808 < bits .xor .u64 (IntKind.u64.wrap b) 9223372036854775808) = decide (a < b) := by
  have h1 := u64w_range a
  have h2 := u64w_range b
  rw [xor_top _ h1.1 h1.2, xor_top _ h2.1 h2.2, decide_eq_decide, IntKind.wrap_u64, IntKind.wrap_u64]
  omega
theorem xor_eq (a b : Int) (ha : -9223372036854775808 ≤ a ∧ a ≤ 9223372036854775807) (hb : -9223372036854775808 ≤ b ∧ b ≤ 9223372036854775807) :
    (bits .xor .u64 (IntKind.u64.wrap a) (IntKind.u64.wrap b) == 0) = (a == b) := by
  have h1 := u64w_range a
  have h2 := u64w_range b
  rw [Bool.eq_iff_iff, beq_iff_eq, beq_iff_eq, xor_zero _ _ h1.1 h1.2 h2.1 h2.2, IntKind.wrap_u64, IntKind.wrap_u64]
  omega

/-- of a size and another one: what a quotient with its sign is -/
theorem div_sz (a b x y : Int) (ha : -9223372036854775808 ≤ a ∧ a ≤ 9223372036854775807) (hb : -9223372036854775808 ≤ b ∧ b ≤ 9223372036854775807) (h0 : b ≠ 0)
    (hx : x = if a < 0 then -a else a) (hy : y = if b < 0 then -b else b) : (divideM 9 a b) = (if (!decide (a < 0) == decide (b < 0)) then wrap64 (-(x / y)) else wrap64 (x / y), 0) := by
  have e1 : divideM 9 a b = (wrap64 (a.tdiv b), 0) := by
    by_cases h : b = -1
    · subst h; simp [divideM]
    · simp [divideM, h0, h]
  rw [e1]
  congr 1
  by_cases h1 : a < 0
  · by_cases h2 : b < 0
    · simp only [h1, h2, if_true] at hx hy ⊢
      subst hx hy
      simp
      rw [← Int.tdiv_eq_ediv_of_nonneg (by omega)]; simp [Int.neg_tdiv]
    · simp only [h1, h2, if_true, if_false] at hx hy ⊢
      subst hx hy
      simp
      rw [← Int.tdiv_eq_ediv_of_nonneg (by omega), Int.neg_tdiv, Int.neg_neg]
  · by_cases h2 : b < 0
    · simp only [h1, h2, if_true, if_false] at hx hy ⊢
      subst hx hy
      simp
      rw [← Int.tdiv_eq_ediv_of_nonneg (by omega)]
    · simp only [h1, h2, if_false] at hx hy ⊢
      subst hx hy
      simp
      rw [← Int.tdiv_eq_ediv_of_nonneg (by omega)]
theorem rem_sz (a b x y : Int) (ha : -9223372036854775808 ≤ a ∧ a ≤ 9223372036854775807) (hb : -9223372036854775808 ≤ b ∧ b ≤ 9223372036854775807) (h0 : b ≠ 0)
    (hx : x = if a < 0 then -a else a) (hy : y = if b < 0 then -b else b) : (divideM 10 a b) = (if decide (a < 0) then wrap64 (-(x % y)) else wrap64 (x % y), 0) := by
  have hr : a.tmod b = if a < 0 then -(x % y) else x % y := by
    have e : a.tmod b = a.tmod y := by subst hy; split <;> simp
    rw [e]
    have hy0 : 0 ≤ y := by subst hy; split <;> omega
    by_cases h1 : a < 0
    · simp only [h1, if_true] at hx ⊢
      subst hx
      rw [← Int.tmod_eq_emod_of_nonneg (by omega), Int.neg_tmod, Int.neg_neg]
    · simp only [h1, if_false] at hx ⊢
      subst hx
      rw [← Int.tmod_eq_emod_of_nonneg (by omega)]
  have hy0 : 0 < y := by subst hy; split <;> omega
  have hy1 : y ≤ 9223372036854775808 := by subst hy; split <;> omega
  have m0 := Int.emod_nonneg x (show y ≠ 0 by omega)
  have m1 := Int.emod_lt_of_pos x hy0
  have e1 : divideM 10 a b = (a.tmod b, 0) := by
    by_cases h : b = -1
    · subst h; simp [divideM]
    · simp [divideM, h0, h]
  rw [e1, hr]
  congr 1
  by_cases h1 : a < 0
  · simp only [h1, if_true, decide_true]; unfold wrap64; omega
  · simp only [h1, if_false, decide_false]; unfold wrap64; simp; omega

def sgn (c : Bool) (n : Int) : Int := if c then wrap64 (-n) else wrap64 n
theorem signed_int (n : Int) (b : Bool) (h0 : 0 ≤ n) (h : n < 18446744073709551616) (w : World) : Calls Try.prog 20 #[.int .u64 n, .bool b] w fun e w' => e = .returned (.int .i64 (sgn b n)) ∧ w = w' := by
  obtain ⟨m, rfl⟩ := Int.eq_ofNat_of_zero_le h0
  exact signed_any m b (by omega) w
theorem tuple_of {p : Int × Int} {v : Int} {w w' : World} {e : Ending} (h : p = (v, 0)) (he : e = .returned (.tuple #[.int .i64 v, .int .i64 0]) ∧ w = w') : e = .returned (.tuple #[.int .i64 p.1, .int .i64 p.2]) ∧ w = w' := by rw [h]; exact he

set_option maxHeartbeats 1000000 in
theorem ref_div9 (a b x y : Int) (hb0 : (b == 0) = false) (hx : 0 ≤ x) (hx1 : x ≤ 9223372036854775808) (hy : 0 < y) (hy1 : y ≤ 9223372036854775808)
    (hd0 : 0 ≤ x / y) (hd1 : x / y < 18446744073709551616)
    (sa : ∀ w, Calls Try.prog 21 #[.int .i64 a] w fun e w' => e = .returned (.int .u64 x) ∧ w = w')
    (sb : ∀ w, Calls Try.prog 21 #[.int .i64 b] w fun e w' => e = .returned (.int .u64 y) ∧ w = w') (w : World) :
    Calls Try.prog 11 #[.int .i64 9, .int .i64 a, .int .i64 b] w fun e w' => e = .returned (.tuple #[.int .i64 (sgn (!decide (a < 0) == decide (b < 0)) (x / y)), .int .i64 0]) ∧ w = w' := by
  have SA := Lib.hid sa
  have SB := Lib.hid sb
  have HD := Lib.hid (And.intro hd0 hd1)
  clear sa sb hd0 hd1
  go_enter Try.func11, Try.ntmps11
  go_wp2_with (first | (go_at_call 21; (first | (with_reducible refine (SA.out _).mono ?_) | (with_reducible refine (SB.out _).mono ?_)); rintro e w' ⟨rfl, rfl⟩) | (go_at_call 20; refine (signed_int _ _ HD.out.1 HD.out.2 _).mono ?_; rintro e w' ⟨rfl, rfl⟩))
  go_ret2; exact ⟨rfl, rfl⟩
set_option maxHeartbeats 1000000 in
theorem ref_div10 (a b x y : Int) (hb0 : (b == 0) = false) (hx : 0 ≤ x) (hx1 : x ≤ 9223372036854775808) (hy : 0 < y) (hy1 : y ≤ 9223372036854775808)
    (hd0 : 0 ≤ x % y) (hd1 : x % y < 18446744073709551616)
    (sa : ∀ w, Calls Try.prog 21 #[.int .i64 a] w fun e w' => e = .returned (.int .u64 x) ∧ w = w')
    (sb : ∀ w, Calls Try.prog 21 #[.int .i64 b] w fun e w' => e = .returned (.int .u64 y) ∧ w = w') (w : World) :
    Calls Try.prog 11 #[.int .i64 10, .int .i64 a, .int .i64 b] w fun e w' => e = .returned (.tuple #[.int .i64 (sgn (decide (a < 0)) (x % y)), .int .i64 0]) ∧ w = w' := by
  have SA := Lib.hid sa
  have SB := Lib.hid sb
  have HD := Lib.hid (And.intro hd0 hd1)
  clear sa sb hd0 hd1
  go_enter Try.func11, Try.ntmps11
  go_wp2_with (first | (go_at_call 21; (first | (with_reducible refine (SA.out _).mono ?_) | (with_reducible refine (SB.out _).mono ?_)); rintro e w' ⟨rfl, rfl⟩) | (go_at_call 20; refine (signed_int _ _ HD.out.1 HD.out.2 _).mono ?_; rintro e w' ⟨rfl, rfl⟩))
  go_ret2; exact ⟨rfl, rfl⟩

theorem size_any (a : Int) (ha : -9223372036854775808 ≤ a ∧ a ≤ 9223372036854775807) (w : World) : Calls Try.prog 21 #[.int .i64 a] w fun e w' => e = .returned (.int .u64 (if a < 0 then -a else a)) ∧ w = w' := by
  by_cases h : a < 0
  · rw [if_pos h]; exact size_neg a h ha.1 w
  · rw [if_neg h]; exact size_pos a (by omega) ha.2 w

theorem ofInt_zero (a : Int) (h : (Lit.int .i64 a).wf = true) (e : BitVec.ofInt 64 a = 0#64) : a = 0 := by
  have := bounds_i64 h
  have h2 := congrArg BitVec.toNat e
  rw [BitVec.toNat_ofInt] at h2
  simp at h2
  omega

theorem or_eq_zero (a b : Int) (ha : (Lit.int .i64 a).wf = true) (hb : (Lit.int .i64 b).wf = true) (e : bits .or .i64 a b = 0) : a = 0 ∧ b = 0 := by
  have h1 : ((BitVec.ofInt 64 a ||| BitVec.ofInt 64 b).toNat : Int) < 18446744073709551616 := by
    have := (BitVec.ofInt 64 a ||| BitVec.ofInt 64 b).isLt; omega
  have h2 : IntKind.i64.wrap ((BitVec.ofInt 64 a ||| BitVec.ofInt 64 b).toNat : Int) = 0 := e
  rw [IntKind.wrap_i64] at h2
  have h3 : (BitVec.ofInt 64 a ||| BitVec.ofInt 64 b).toNat = 0 := by omega
  have h4 : BitVec.ofInt 64 a ||| BitVec.ofInt 64 b = 0#64 := by apply BitVec.eq_of_toNat_eq; simpa using h3
  have h5 : ∀ i, (BitVec.ofInt 64 a).getLsbD i = false ∧ (BitVec.ofInt 64 b).getLsbD i = false := fun i => by
    have := congrArg (fun v => v.getLsbD i) h4
    simpa using this
  exact ⟨ofInt_zero a ha (by apply BitVec.eq_of_getLsbD_eq; intro i hi; simpa using (h5 i).1), ofInt_zero b hb (by apply BitVec.eq_of_getLsbD_eq; intro i hi; simpa using (h5 i).2)⟩

theorem or_ne (a b : Int) (ha : (Lit.int .i64 a).wf = true) (hb : (Lit.int .i64 b).wf = true) : (bits .or .i64 a b != 0) = (a != 0 || b != 0) := by
  by_cases h : a = 0 ∧ b = 0
  · obtain ⟨rfl, rfl⟩ := h; decide +kernel
  · have h1 : (bits .or .i64 a b != 0) = true := by rw [bne_iff_ne]; intro e; exact h (or_eq_zero a b ha hb e)
    rw [h1]
    by_cases h2 : a = 0
    · have : b ≠ 0 := fun e => h ⟨h2, e⟩
      simp [h2, this]
    · simp [h2]

set_option maxHeartbeats 1000000 in
theorem ref_any (op a b : Int) (ha : (Lit.int .i64 a).wf = true) (hb : (Lit.int .i64 b).wf = true) (w : World) : Calls Try.prog 11 #[.int .i64 op, .int .i64 a, .int .i64 b] w fun e w' => e = .returned (.tuple #[.int .i64 (twoM op a b).1, .int .i64 (twoM op a b).2]) ∧ w = w' := by
  have ba := bounds_i64 ha
  have bb := bounds_i64 hb
  by_cases h6 : op = 6
  · subst h6
    refine Calls.mono (R := fun e w' => e = .returned (.tuple #[.int .i64 (wrap64 (IntKind.u64.wrap (IntKind.u64.wrap a + IntKind.u64.wrap b))), .int .i64 0]) ∧ w = w') ?_ (fun e w' h => tuple_of (by show (wrap64 (a + b), (0 : Int)) = _; rw [IntKind.wrap_u64, IntKind.wrap_u64, IntKind.wrap_u64]; congr 1; unfold wrap64; omega) h)
    clear ha hb ba bb; go_enter Try.func11, Try.ntmps11; go_wp2; go_ret2; exact ⟨rfl, rfl⟩
  by_cases h7 : op = 7
  · subst h7
    refine Calls.mono (R := fun e w' => e = .returned (.tuple #[.int .i64 (wrap64 (IntKind.u64.wrap (IntKind.u64.wrap a - IntKind.u64.wrap b))), .int .i64 0]) ∧ w = w') ?_ (fun e w' h => tuple_of (by show (wrap64 (a - b), (0 : Int)) = _; rw [IntKind.wrap_u64, IntKind.wrap_u64, IntKind.wrap_u64]; congr 1; unfold wrap64; omega) h)
    clear ha hb ba bb; go_enter Try.func11, Try.ntmps11; go_wp2; go_ret2; exact ⟨rfl, rfl⟩
  by_cases h8 : op = 8
  · subst h8
    refine Calls.mono (R := fun e w' => e = .returned (.tuple #[.int .i64 (wrap64 (IntKind.u64.wrap a * IntKind.u64.wrap b % 18446744073709551616)), .int .i64 0]) ∧ w = w') ?_ (fun e w' h => tuple_of (by
      show (wrap64 (a * b), (0 : Int)) = _; rw [IntKind.wrap_u64, IntKind.wrap_u64, ← Int.mul_emod]; congr 1; unfold wrap64; omega) h)
    have h1 := u64w_range a
    have h2 := u64w_range b
    have HW := Lib.hid (And.intro h1 h2)
    clear ha hb ba bb h1 h2
    go_enter Try.func11, Try.ntmps11
    go_wp2_with (go_at_call 19; refine (product_any _ _ HW.out.1.1 HW.out.1.2 HW.out.2.1 HW.out.2.2 _).mono ?_; rintro e w' ⟨rfl, rfl⟩)
    go_ret2; exact ⟨rfl, rfl⟩
  by_cases h9 : op = 9
  · subst h9
    by_cases h0 : b = 0
    · subst h0;  clear ha hb; go_enter Try.func11, Try.ntmps11; go_wp2_with (fail);  go_ret2; exact ⟨rfl, rfl⟩
    · have h0b : (b == 0) = false := by simpa using h0
      have hy : 0 < (if b < 0 then -b else b) := by split <;> omega
      have hx : 0 ≤ (if a < 0 then -a else a) := by split <;> omega
      have hxu : (if a < 0 then -a else a) ≤ 9223372036854775808 := by split <;> omega
      have hyu : (if b < 0 then -b else b) ≤ 9223372036854775808 := by split <;> omega
      have hd0 := Int.ediv_nonneg hx (Int.le_of_lt hy)
      have hd1 := Int.ediv_le_self (if b < 0 then -b else b) hx
      exact (ref_div9 a b _ _ h0b hx hxu hy hyu hd0 (by omega) (size_any a ba) (size_any b bb) w).mono (fun e w' h => tuple_of (div_sz a b _ _ ba bb h0 rfl rfl) h)
  by_cases h10 : op = 10
  · subst h10
    by_cases h0 : b = 0
    · subst h0;  clear ha hb; go_enter Try.func11, Try.ntmps11; go_wp2_with (fail);  go_ret2; exact ⟨rfl, rfl⟩
    · have h0b : (b == 0) = false := by simpa using h0
      have hy : 0 < (if b < 0 then -b else b) := by split <;> omega
      have hx : 0 ≤ (if a < 0 then -a else a) := by split <;> omega
      have hxu : (if a < 0 then -a else a) ≤ 9223372036854775808 := by split <;> omega
      have hyu : (if b < 0 then -b else b) ≤ 9223372036854775808 := by split <;> omega
      have hd0 := Int.emod_nonneg (if a < 0 then -a else a) (show (if b < 0 then -b else b) ≠ 0 by omega)
      have hd1 := Int.emod_lt_of_pos (if a < 0 then -a else a) hy
      exact (ref_div10 a b _ _ h0b hx hxu hy hyu hd0 (by omega) (size_any a ba) (size_any b bb) w).mono (fun e w' h => tuple_of (rem_sz a b _ _ ba bb h0 rfl rfl) h)
  by_cases h11 : op = 11
  · subst h11
    have hx := xor_top_lt a b ba bb
    clear ha hb ba bb; go_enter Try.func11, Try.ntmps11; go_wp2_with (go_at_call 22; refine (truth22_any _ _).mono ?_; rintro e w' ⟨rfl, rfl⟩)
    go_ret2; exact ⟨rfl, rfl⟩
  by_cases h12 : op = 12
  · subst h12
    have hx := xor_eq a b ba bb
    clear ha hb ba bb; go_enter Try.func11, Try.ntmps11; go_wp2_with (go_at_call 22; refine (truth22_any _ _).mono ?_; rintro e w' ⟨rfl, rfl⟩)
    go_ret2; exact ⟨rfl, rfl⟩
  by_cases h14 : op = 14
  · subst h14
    by_cases hz : a = 0
    · subst hz; clear ha hb; go_enter Try.func11, Try.ntmps11; go_wp2_with (go_at_call 22; refine (truth22_any _ _).mono ?_; rintro e w' ⟨rfl, rfl⟩)
      go_ret2; exact ⟨rt2 (by simp [twoM]) (by simp [twoM]), rfl⟩
    · clear ha hb; go_enter Try.func11, Try.ntmps11; go_wp2_with (go_at_call 22; refine (truth22_any _ _).mono ?_; rintro e w' ⟨rfl, rfl⟩)
      go_ret2; exact ⟨rfl, rfl⟩
  by_cases h15 : op = 15
  · subst h15
    refine Calls.mono (R := fun e w' => e = .returned (.tuple #[.int .i64 (truthM (a != 0 || b != 0)), .int .i64 0]) ∧ w = w') ?_ (fun e w' h => tuple_of (by show (truthM (bits .or .i64 a b != 0), (0 : Int)) = _; rw [or_ne a b ha hb]) h)
    clear ha hb
    by_cases hz : a = 0
    · subst hz; go_enter Try.func11, Try.ntmps11; go_wp2_with (go_at_call 22; refine (truth22_any _ _).mono ?_; rintro e w' ⟨rfl, rfl⟩)
      go_ret2; exact ⟨rt2 (by simp) rfl, rfl⟩
    · have : (a != 0) = true := by simpa using hz
      go_enter Try.func11, Try.ntmps11; go_wp2_with (go_at_call 22; refine (truth22_any _ _).mono ?_; rintro e w' ⟨rfl, rfl⟩)
      go_ret2; exact ⟨rt2 (by simp [this]) rfl, rfl⟩
  clear ha hb
  go_enter Try.func11, Try.ntmps11; go_wp2; go_ret2
  simp [twoM, *]

set_option maxHeartbeats 1000000 in
theorem arithTwo_any (op a b : Int) (ha : (Lit.int .i64 a).wf = true) (hb : (Lit.int .i64 b).wf = true) (w : World) : Calls Try.prog 3 #[.int .i64 op, .int .i64 a, .int .i64 b] w fun e w' => e = .returned (.bool true) ∧ w = w' := by
  have H := Lib.hid (ref_any op a b ha hb)
  clear ha hb
  go_enter Try.func3, Try.ntmps3
  go_wp2_with (first | (go_at_call 9; refine (lives_any _).mono ?_; rintro e w' ⟨rfl, rfl⟩) | (go_at_call 10; refine (two_any _ _ _ _).mono ?_; rintro e w' ⟨rfl, rfl⟩) | (go_at_call 11; refine (H.out _).mono ?_; rintro e w' ⟨rfl, rfl⟩))
  go_ret; exact ⟨rt1 (by simp), rfl⟩

end Go.Proofs.Ytlmgkggdaagfnaa
