/- The reference's Begin. -/
import Derived.Test.YtildpjgjnfiihaaP13
namespace Go.Proofs.Ytildpjgjnfiihaa
open Go.RowKit
set_option linter.unusedVariables false
set_option linter.unusedSimpArgs false
theorem enc_on (x : Nx) : (enc x).on = decide (x ≠ .no) := by cases x <;> rfl
section
variable {w w1 : World} {c g : Nat} {q : Q}
def Bp (w : World) (c g : Nat) (q : Q) (k op : Int) (e : Ending) (w' : World) : Prop := e = .returned (.int .i64 (begin q k op).1) ∧ Rf w' c g (begin q k op).2 ∧ Fr w w' (S2 c g)
theorem mbeg_bad (h : Rf w c g q) (k op : Int) (hc : k < 0 ∨ 8 ≤ k ∨ first k op = .no) : Calls Try.prog 16 #[.pointer (some ⟨c, 0, none⟩), .int .i64 k, .int .i64 op] w (Bp w c g q k op) := by
  have e : begin q k op = (1, q) := by unfold begin; rw [if_pos hc]
  unfold Bp
  rw [e]
  have H := Lib.hid h
  clear h e
  by_cases h1 : k < 0
  · go_enter Try.func16, Try.ntmps16
    go_wp2
    go_ret
    exact ⟨rfl, H.out, Fr.refl _ _⟩
  · by_cases h2 : 8 ≤ k
    · clear hc
      go_enter Try.func16, Try.ntmps16
      go_wp2
      go_ret
      exact ⟨rfl, H.out, Fr.refl _ _⟩
    · have hf : first k op = .no := by rcases hc with h | h | h; exact absurd h h1; exact absurd h h2; exact h
      unfold first at hf
      clear hc
      by_cases h3 : 0 < k
      · rw [if_pos h3] at hf
        have h4 : op ≠ 0 := fun e => by rw [if_pos e] at hf; cases hf
        have hb : (op != 0) = true := by simp; exact h4
        clear hf h4
        go_enter Try.func16, Try.ntmps16
        go_wp2
        go_ret
        exact ⟨rfl, H.out, Fr.refl _ _⟩
      · rw [if_neg h3] at hf
        have hk : k = 0 := by omega
        subst hk
        have h5 : op < 1 ∨ 4 < op := by
          by_cases a1 : op = 1
          · rw [if_pos a1] at hf; cases hf
          · by_cases a2 : op = 2
            · rw [if_neg a1, if_pos a2] at hf; cases hf
            · by_cases a3 : op = 3
              · rw [if_neg a1, if_neg a2, if_pos a3] at hf; cases hf
              · by_cases a4 : op = 4
                · rw [if_neg a1, if_neg a2, if_neg a3, if_pos a4] at hf; cases hf
                · omega
        clear hf h1 h2 h3
        by_cases h6 : op < 1
        · clear h5
          go_enter Try.func16, Try.ntmps16
          go_wp2
          go_ret
          exact ⟨rfl, H.out, Fr.refl _ _⟩
        · have h7 : 4 < op := by omega
          clear h5
          go_enter Try.func16, Try.ntmps16
          go_wp2
          go_ret
          exact ⟨rfl, H.out, Fr.refl _ _⟩
set_option maxHeartbeats 1000000 in
theorem mbeg_wake (h : Rf w c g q) (n : Nat) (n0 : n ≠ 0) (hn : n < 8) : Calls Try.prog 16 #[.pointer (some ⟨c, 0, none⟩), .int .i64 n, .int .i64 0] w (Bp w c g q n 0) := by
  have c1 := h.c1
  have c2 := h.c2
  have hlc := h.s.lt
  have hlg := h.t.lt
  have hcg := h.cg
  have hz := zero43
  have t0 := h.t0 n (by omega)
  have t1 := h.t1 n (by omega)
  have t2 := h.t2 n (by omega)
  have t3 := h.t3 n (by omega)
  have f0 := h.fg (n * 4)
  have f1 := h.fg (n * 4 + 1)
  have f2 := h.fg (n * 4 + 2)
  have f3 := h.fg (n * 4 + 3)
  rw [enc_on] at t0
  have hk0 : ¬ (n : Int) < 0 := by omega
  have hk8 : ¬ (8 : Int) ≤ n := by omega
  have hkp : (0 : Int) < n := by omega
  have hk9 : (n : Int) < 8 := by omega
  have hkz : ((n : Int) == 0) = false := by simp; exact n0
  have H := Lib.hid h
  have hf : first n 0 = .look := by unfold first; rw [if_pos (by omega), if_pos rfl]
  by_cases hx : q.th n = .no
  · unfold Bp
    rw [beg_wake q n hn n0 hx]
    rw [decide_eq_false (by simpa using hx)] at t0
    clear h hx hf n0
    go_enter Try.func16, Try.ntmps16
    go_wp2
    go_ret
    exact ⟨rfl, H.out.set4 n hn .look, fr_set4 _ g n (enc .look) _ (.inr rfl)⟩
  · have e : begin q n 0 = (14, q) := by
      unfold begin
      rw [if_neg (by rintro (h | h | h); omega; omega; rw [hf] at h; cases h), if_pos (by rw [Int.toNat_natCast]; exact hx)]
    unfold Bp
    rw [e]
    rw [decide_eq_true hx] at t0
    clear h hx hf n0 e
    go_enter Try.func16, Try.ntmps16
    go_wp2
    go_ret
    exact ⟨rfl, H.out, Fr.refl _ _⟩
set_option maxHeartbeats 1000000 in
theorem mbeg_start (h : Rf w c g q) : Calls Try.prog 16 #[.pointer (some ⟨c, 0, none⟩), .int .i64 0, .int .i64 1] w (Bp w c g q 0 1) := by
  have c1 := h.c1
  have c2 := h.c2
  have hlc := h.s.lt
  have hlg := h.t.lt
  have hcg := h.cg
  have hz := zero43
  have t0 := h.t0 0 (by omega)
  have t1 := h.t1 0 (by omega)
  have t2 := h.t2 0 (by omega)
  have t3 := h.t3 0 (by omega)
  rw [Nat.zero_mul] at t0
  rw [Nat.zero_mul, Nat.zero_add] at t1 t2 t3
  have f0 := h.fg 0
  have f1 := h.fg 1
  have f2 := h.fg 2
  have f3 := h.fg 3
  rw [enc_on] at t0
  have H := Lib.hid h
  have hc : ¬ ((0 : Int) < 0 ∨ (8 : Int) ≤ 0 ∨ first 0 1 = .no) := by decide
  by_cases hx : q.th 0 = .no
  · rw [decide_eq_false (by simpa using hx)] at t0
    cases hh : q.held
    · have e : begin q 0 1 = (0, q.set 0 .start) := by
        unfold begin
        rw [if_neg hc, if_neg (by simpa using hx), if_neg (by rw [hh]; decide)]
        rfl
      unfold Bp
      rw [e]
      rw [hh] at c2
      clear h hx e hh hc
      go_enter Try.func16, Try.ntmps16
      go_wp2
      go_ret
      exact ⟨rfl, H.out.set4 0 (by omega) .start, fr_set4 _ g 0 (enc .start) _ (.inr rfl)⟩
    · have e : begin q 0 1 = (13, q) := by
        unfold begin
        rw [if_neg hc, if_neg (by simpa using hx), if_pos (by rw [hh]; decide)]
      unfold Bp
      rw [e]
      rw [hh] at c2
      clear h hx e hh hc
      go_enter Try.func16, Try.ntmps16
      go_wp2
      go_ret
      exact ⟨rfl, H.out, Fr.refl _ _⟩
  · have e : begin q 0 1 = (14, q) := by
      unfold begin
      rw [if_neg hc, if_pos (by simpa using hx)]
    unfold Bp
    rw [e]
    rw [decide_eq_true hx] at t0
    clear h hx e hc
    go_enter Try.func16, Try.ntmps16
    go_wp2
    go_ret
    exact ⟨rfl, H.out, Fr.refl _ _⟩
set_option maxHeartbeats 1000000 in
theorem mbeg_sleep (h : Rf w c g q) : Calls Try.prog 16 #[.pointer (some ⟨c, 0, none⟩), .int .i64 0, .int .i64 2] w (Bp w c g q 0 2) := by
  have c1 := h.c1
  have c2 := h.c2
  have hlc := h.s.lt
  have hlg := h.t.lt
  have hcg := h.cg
  have hz := zero43
  have t0 := h.t0 0 (by omega)
  have t1 := h.t1 0 (by omega)
  have t2 := h.t2 0 (by omega)
  have t3 := h.t3 0 (by omega)
  rw [Nat.zero_mul] at t0
  rw [Nat.zero_mul, Nat.zero_add] at t1 t2 t3
  have f0 := h.fg 0
  have f1 := h.fg 1
  have f2 := h.fg 2
  have f3 := h.fg 3
  rw [enc_on] at t0
  have H := Lib.hid h
  have hc : ¬ ((0 : Int) < 0 ∨ (8 : Int) ≤ 0 ∨ first 0 2 = .no) := by decide
  by_cases hx : q.th 0 = .no
  · rw [decide_eq_false (by simpa using hx)] at t0
    cases hh : q.held
    · have e : begin q 0 2 = (13, q) := by
        unfold begin
        rw [if_neg hc, if_neg (by simpa using hx), if_pos (by rw [hh]; decide)]
      unfold Bp
      rw [e]
      rw [hh] at c2
      clear h hx e hh hc
      go_enter Try.func16, Try.ntmps16
      go_wp2
      go_ret
      exact ⟨rfl, H.out, Fr.refl _ _⟩
    · have e : begin q 0 2 = (0, q.set 0 .sleep) := by
        unfold begin
        rw [if_neg hc, if_neg (by simpa using hx), if_neg (by rw [hh]; decide)]
        rfl
      unfold Bp
      rw [e]
      rw [hh] at c2
      clear h hx e hh hc
      go_enter Try.func16, Try.ntmps16
      go_wp2
      go_ret
      exact ⟨rfl, H.out.set4 0 (by omega) .sleep, fr_set4 _ g 0 (enc .sleep) _ (.inr rfl)⟩
  · have e : begin q 0 2 = (14, q) := by
      unfold begin
      rw [if_neg hc, if_pos (by simpa using hx)]
    unfold Bp
    rw [e]
    rw [decide_eq_true hx] at t0
    clear h hx e hc
    go_enter Try.func16, Try.ntmps16
    go_wp2
    go_ret
    exact ⟨rfl, H.out, Fr.refl _ _⟩
set_option maxHeartbeats 1000000 in
theorem mbeg_yield (h : Rf w c g q) : Calls Try.prog 16 #[.pointer (some ⟨c, 0, none⟩), .int .i64 0, .int .i64 3] w (Bp w c g q 0 3) := by
  have c1 := h.c1
  have c2 := h.c2
  have hlc := h.s.lt
  have hlg := h.t.lt
  have hcg := h.cg
  have hz := zero43
  have t0 := h.t0 0 (by omega)
  have t1 := h.t1 0 (by omega)
  have t2 := h.t2 0 (by omega)
  have t3 := h.t3 0 (by omega)
  rw [Nat.zero_mul] at t0
  rw [Nat.zero_mul, Nat.zero_add] at t1 t2 t3
  have f0 := h.fg 0
  have f1 := h.fg 1
  have f2 := h.fg 2
  have f3 := h.fg 3
  rw [enc_on] at t0
  have H := Lib.hid h
  have hc : ¬ ((0 : Int) < 0 ∨ (8 : Int) ≤ 0 ∨ first 0 3 = .no) := by decide
  by_cases hx : q.th 0 = .no
  · rw [decide_eq_false (by simpa using hx)] at t0
    cases hh : q.held
    · have e : begin q 0 3 = (13, q) := by
        unfold begin
        rw [if_neg hc, if_neg (by simpa using hx), if_pos (by rw [hh]; decide)]
      unfold Bp
      rw [e]
      rw [hh] at c2
      clear h hx e hh hc
      go_enter Try.func16, Try.ntmps16
      go_wp2
      go_ret
      exact ⟨rfl, H.out, Fr.refl _ _⟩
    · have e : begin q 0 3 = (0, q.set 0 .yield) := by
        unfold begin
        rw [if_neg hc, if_neg (by simpa using hx), if_neg (by rw [hh]; decide)]
        rfl
      unfold Bp
      rw [e]
      rw [hh] at c2
      clear h hx e hh hc
      go_enter Try.func16, Try.ntmps16
      go_wp2
      go_ret
      exact ⟨rfl, H.out.set4 0 (by omega) .yield, fr_set4 _ g 0 (enc .yield) _ (.inr rfl)⟩
  · have e : begin q 0 3 = (14, q) := by
      unfold begin
      rw [if_neg hc, if_pos (by simpa using hx)]
    unfold Bp
    rw [e]
    rw [decide_eq_true hx] at t0
    clear h hx e hc
    go_enter Try.func16, Try.ntmps16
    go_wp2
    go_ret
    exact ⟨rfl, H.out, Fr.refl _ _⟩
set_option maxHeartbeats 1000000 in
theorem mbeg_die (h : Rf w c g q) : Calls Try.prog 16 #[.pointer (some ⟨c, 0, none⟩), .int .i64 0, .int .i64 4] w (Bp w c g q 0 4) := by
  have c1 := h.c1
  have c2 := h.c2
  have hlc := h.s.lt
  have hlg := h.t.lt
  have hcg := h.cg
  have hz := zero43
  have t0 := h.t0 0 (by omega)
  have t1 := h.t1 0 (by omega)
  have t2 := h.t2 0 (by omega)
  have t3 := h.t3 0 (by omega)
  rw [Nat.zero_mul] at t0
  rw [Nat.zero_mul, Nat.zero_add] at t1 t2 t3
  have f0 := h.fg 0
  have f1 := h.fg 1
  have f2 := h.fg 2
  have f3 := h.fg 3
  rw [enc_on] at t0
  have H := Lib.hid h
  have hc : ¬ ((0 : Int) < 0 ∨ (8 : Int) ≤ 0 ∨ first 0 4 = .no) := by decide
  by_cases hx : q.th 0 = .no
  · rw [decide_eq_false (by simpa using hx)] at t0
    cases hh : q.held
    · have e : begin q 0 4 = (13, q) := by
        unfold begin
        rw [if_neg hc, if_neg (by simpa using hx), if_pos (by rw [hh]; decide)]
      unfold Bp
      rw [e]
      rw [hh] at c2
      clear h hx e hh hc
      go_enter Try.func16, Try.ntmps16
      go_wp2
      go_ret
      exact ⟨rfl, H.out, Fr.refl _ _⟩
    · have e : begin q 0 4 = (0, q.set 0 .die) := by
        unfold begin
        rw [if_neg hc, if_neg (by simpa using hx), if_neg (by rw [hh]; decide)]
        rfl
      unfold Bp
      rw [e]
      rw [hh] at c2
      clear h hx e hh hc
      go_enter Try.func16, Try.ntmps16
      go_wp2
      go_ret
      exact ⟨rfl, H.out.set4 0 (by omega) .die, fr_set4 _ g 0 (enc .die) _ (.inr rfl)⟩
  · have e : begin q 0 4 = (14, q) := by
      unfold begin
      rw [if_neg hc, if_pos (by simpa using hx)]
    unfold Bp
    rw [e]
    rw [decide_eq_true hx] at t0
    clear h hx e hc
    go_enter Try.func16, Try.ntmps16
    go_wp2
    go_ret
    exact ⟨rfl, H.out, Fr.refl _ _⟩
theorem mbegin_any (h : Rf w c g q) (k op : Int) : Calls Try.prog 16 #[.pointer (some ⟨c, 0, none⟩), .int .i64 k, .int .i64 op] w (Bp w c g q k op) := by
  by_cases hc : k < 0 ∨ 8 ≤ k ∨ first k op = .no
  · exact mbeg_bad h k op hc
  · obtain ⟨n, rfl⟩ : ∃ n : Nat, k = n := ⟨k.toNat, by omega⟩
    have hf : first n op ≠ .no := fun e => hc (.inr (.inr e))
    unfold first at hf
    by_cases h0 : n = 0
    · subst h0
      rw [if_neg (by omega)] at hf
      by_cases a1 : op = 1
      · subst a1; exact mbeg_start h
      · by_cases a2 : op = 2
        · subst a2; exact mbeg_sleep h
        · by_cases a3 : op = 3
          · subst a3; exact mbeg_yield h
          · by_cases a4 : op = 4
            · subst a4; exact mbeg_die h
            · rw [if_neg a1, if_neg a2, if_neg a3, if_neg a4] at hf
              exact absurd rfl hf
    · rw [if_pos (by omega)] at hf
      by_cases a0 : op = 0
      · subst a0; exact mbeg_wake h n h0 (by omega)
      · rw [if_neg a0] at hf
        exact absurd rfl hf
end
end Go.Proofs.Ytildpjgjnfiihaa
