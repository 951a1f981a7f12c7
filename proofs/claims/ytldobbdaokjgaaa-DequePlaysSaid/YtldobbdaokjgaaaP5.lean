/- The deque: Begin, Step, New. -/
import Derived.Test.YtldobbdaokjgaaaP4
namespace Go.Proofs.Ytldobbdaokjgaaa
open Go.RowKit
set_option linter.unusedVariables false
set_option linter.unusedSimpArgs false
section
variable {w w1 : World} {b p : Nat} {q : Q}
set_option maxHeartbeats 2000000 in
theorem begin_any (h : Dq w b p q) (k op v : Int) : Calls Try.prog 17 #[.pointer (some ⟨b, 0, none⟩), .int .i64 k, .int .i64 op, .int .i64 v] w fun e w' => e = .returned (.int .i64 (begin q k op v).1) ∧ Dq w' b p (begin q k op v).2 ∧ Fr w w' (S2 b p) := by
  have hf := first_any k op
  have enf := eq_nf
  have nnf := ne_nf
  have efn := eq_fn
  have nfn := ne_fn
  by_cases h1 : k < 0 ∨ 8 ≤ k
  · have e : begin q k op v = (1, q) := by unfold begin; rw [if_pos (by rcases h1 with h | h; exact .inl h; exact .inr (.inl h))]
    rw [e]
    have H := Lib.hid h
    clear h e
    generalize fv (first k op) = fvv at *
    go_enter Try.func17, Try.ntmps17
    go_wp2_with fail
    refine (thread_out b k h1 _).mono ?_
    rintro e w' ⟨rfl, rfl⟩
    go_wp2_with fail
    refine (hf _).mono ?_
    rintro e w' ⟨rfl, rfl⟩
    go_wp2
    go_ret
    exact ⟨rfl, H.out, Fr.refl _ _⟩
  · obtain ⟨n, rfl⟩ : ∃ n : Nat, k = n := ⟨k.toNat, by omega⟩
    have hn : n < 8 := by omega
    by_cases h2 : first n op = .no
    · have e : begin q n op v = (1, q) := by unfold begin; rw [if_pos (.inr (.inr h2))]
      rw [e]
      rw [h2] at hf
      have hf' : ∀ w, Calls Try.prog 28 #[.int .i64 n, .int .i64 op] w fun e w' => e = .returned .nilFunc ∧ w' = w := hf
      have H := Lib.hid h
      clear h e h1 h2 hf
      go_enter Try.func17, Try.ntmps17
      go_wp2_with fail
      refine (thread_in b n hn _).mono ?_
      rintro e w' ⟨rfl, rfl⟩
      go_wp2_with fail
      refine (hf' _).mono ?_
      rintro e w' ⟨rfl, rfl⟩
      go_wp2
      go_ret
      exact ⟨rfl, H.out, Fr.refl _ _⟩
    · obtain ⟨m, hm⟩ := fv_func h2
      have hput := h.put n hn (first n op) v
      rw [hm] at hf hput
      have HP := Lib.hid hput
      have hc : ¬ ((n : Int) < 0 ∨ 8 ≤ (n : Int) ∨ first n op = .no) := by
        rintro (h | h | h)
        · omega
        · omega
        · exact h2 h
      have t0 := h.t0 n hn
      have t1 := h.t1 n hn
      have t2 := h.t2 n hn
      have t3 := h.t3 n hn
      have t4 := h.t4 n hn
      have g0 := h.fb (3 + n * 5)
      have g1 := h.fb (3 + n * 5 + 1)
      have g2 := h.fb (3 + n * 5 + 2)
      have g3 := h.fb (3 + n * 5 + 3)
      have g4 := h.fb (3 + n * 5 + 4)
      by_cases h3 : (q.th n).nx = .no
      · have e : begin q n op v = (0, q.setT n { nx := first n op, v := v }) := by
          unfold begin; rw [if_neg hc, if_neg (by rw [Int.toNat_natCast]; simpa using h3), Int.toNat_natCast]
        rw [e]
        rw [h3] at t0
        have t0' : w.cell? ⟨b, 3 + n * 5, none⟩ = some .nilFunc := t0
        clear h e h1 h2 h3 hc hm hput t0
        go_enter Try.func17, Try.ntmps17
        go_wp2_with fail
        refine (thread_in b n hn _).mono ?_
        rintro e w' ⟨rfl, rfl⟩
        go_wp2_with fail
        refine (hf _).mono ?_
        rintro e w' ⟨rfl, rfl⟩
        go_wp2
        go_ret
        refine ⟨rfl, HP.out, ?_⟩
        (refine Fr.new ?_; repeat (first | with_reducible exact Fr.refl _ _ | with_reducible apply Fr.al | with_reducible apply Fr.dn | with_reducible apply Fr.dr | with_reducible apply Fr.sn | with_reducible apply Fr.sb | with_reducible apply Fr.sp))
      · have e : begin q n op v = (14, q) := by
          unfold begin; rw [if_neg hc, if_pos (by rw [Int.toNat_natCast]; exact h3)]
        rw [e]
        obtain ⟨m', hm'⟩ := fv_func h3
        rw [hm'] at t0
        have H := Lib.hid h
        clear h e h1 h2 h3 hc hm hput hm'
        go_enter Try.func17, Try.ntmps17
        go_wp2_with fail
        refine (thread_in b n hn _).mono ?_
        rintro e w' ⟨rfl, rfl⟩
        go_wp2_with fail
        refine (hf _).mono ?_
        rintro e w' ⟨rfl, rfl⟩
        go_wp2
        go_ret
        exact ⟨rfl, H.out, Fr.refl _ _⟩
theorem fv_shape (x : Nx) : fv x = .nilFunc ∨ ∃ m, fv x = .func (.func m) #[] #[] := by
  by_cases h : x = .no
  · subst h; exact .inl rfl
  · exact .inr (fv_func h)
/-- the function in a busy thread's cell -/
theorem cell_fn (h : Dq w b p q) (k : Nat) (hk : k < 8) (hx : (q.th k).nx ≠ .no) : ∃ n, fv (q.th k).nx = .func (.func n) #[] #[] ∧ ∀ w1, Dq w1 b p q → Calls Try.prog n #[.pointer (some ⟨b, 0, none⟩), .pointer (some ⟨b, 3 + k * 5, none⟩)] w1 (Fx w1 b p (stepA q k)) := by
  unfold stepA
  cases hn : (q.th k).nx with
  | no => exact absurd hn hx
  | a33 => exact ⟨33, rfl, fun w1 h => fn33 h k hk⟩
  | a34 => exact ⟨34, rfl, fun w1 h => fn34 h k hk⟩
  | a35 => exact ⟨35, rfl, fun w1 h => fn35 h k hk⟩
  | a37 => exact ⟨37, rfl, fun w1 h => fn37 h k hk⟩
  | a38 => exact ⟨38, rfl, fun w1 h => fn38 h k hk⟩
  | a39 => exact ⟨39, rfl, fun w1 h => fn39 h k hk⟩
  | a41 => exact ⟨41, rfl, fun w1 h => fn41 h k hk⟩
  | a42 => exact ⟨42, rfl, fun w1 h => fn42 h k hk⟩
  | a43 => exact ⟨43, rfl, fun w1 h => fn43 h k hk⟩
  | a44 => exact ⟨44, rfl, fun w1 h => fn44 h k hk⟩
  | a45 => exact ⟨45, rfl, fun w1 h => fn45 h k hk⟩
  | a46 => exact ⟨46, rfl, fun w1 h => fn46 h k hk⟩
  | a47 => exact ⟨47, rfl, fun w1 h => fn47 h k hk⟩
  | a48 => exact ⟨48, rfl, fun w1 h => fn48 h k hk⟩
theorem step_no (h : Dq w b p q) (k : Int) (h1 : k < 0 ∨ 8 ≤ k) : Calls Try.prog 14 #[.pointer (some ⟨b, 0, none⟩), .int .i64 k] w fun e w' => e = .returned (.tuple #[dv {}, .int .i64 1]) ∧ Dq w' b p q ∧ Fr w w' (S2 b p) := by
  have H := Lib.hid h
  have hlb := h.s.lt
  have hlp := h.t.lt
  have hz := zero34
  clear h
  go_enter Try.func14, Try.ntmps14
  go_wp2_with fail
  refine (thread_out b k h1 _).mono ?_
  rintro e w' ⟨rfl, rfl⟩
  go_wp2
  go_returns
  refine ⟨rfl, ?_, ?_⟩
  · (repeat (first | with_reducible refine Dq.far ?_ hlb hlp | with_reducible refine Dq.alloc ?_ _ | with_reducible refine Dq.drewN ?_ _ | with_reducible refine Dq.drew ?_))
    exact H.out
  · (refine Fr.new ?_; repeat (first | with_reducible exact Fr.refl _ _ | with_reducible apply Fr.al | with_reducible apply Fr.dn | with_reducible apply Fr.dr | with_reducible apply Fr.sn | with_reducible apply Fr.sb | with_reducible apply Fr.sp))
theorem step_off (h : Dq w b p q) (n : Nat) (hn : n < 8) (h1 : (q.th n).nx = .no) : Calls Try.prog 14 #[.pointer (some ⟨b, 0, none⟩), .int .i64 n] w fun e w' => e = .returned (.tuple #[dv {}, .int .i64 13]) ∧ Dq w' b p q ∧ Fr w w' (S2 b p) := by
  have H := Lib.hid h
  have hlb := h.s.lt
  have hlp := h.t.lt
  have hz := zero34
  have ct := h.t0 n hn
  rw [h1] at ct
  have ct' : w.cell? ⟨b, 3 + n * 5, none⟩ = some .nilFunc := ct
  have enf := eq_nf
  clear h h1 ct
  go_enter Try.func14, Try.ntmps14
  go_wp2_with fail
  refine (thread_in b n hn _).mono ?_
  rintro e w' ⟨rfl, rfl⟩
  go_wp2
  go_returns
  refine ⟨rfl, ?_, ?_⟩
  · (repeat (first | with_reducible refine Dq.far ?_ hlb hlp | with_reducible refine Dq.alloc ?_ _ | with_reducible refine Dq.drewN ?_ _ | with_reducible refine Dq.drew ?_))
    exact H.out
  · (refine Fr.new ?_; repeat (first | with_reducible exact Fr.refl _ _ | with_reducible apply Fr.al | with_reducible apply Fr.dn | with_reducible apply Fr.dr | with_reducible apply Fr.sn | with_reducible apply Fr.sb | with_reducible apply Fr.sp))
theorem step_nil (k : Int) (w : World) : Calls Try.prog 14 #[.pointer none, .int .i64 k] w fun e w' => e = .returned (.tuple #[dv {}, .int .i64 1]) ∧ Below w.heap.size w w' := by
  have hz := zero34
  go_enter Try.func14, Try.ntmps14
  go_wp2_with fail
  refine (thread_nil k _).mono ?_
  rintro e w' ⟨rfl, rfl⟩
  go_wp2
  go_returns
  exact ⟨rfl, (Below.refl _ _).alloc (Nat.le_refl _) _⟩
theorem begin_nil (k op v : Int) (w : World) : Calls Try.prog 17 #[.pointer none, .int .i64 k, .int .i64 op, .int .i64 v] w fun e w' => e = .returned (.int .i64 1) ∧ w' = w := by
  have hf := first_any k op
  generalize fv (first k op) = fvv at *
  go_enter Try.func17, Try.ntmps17
  go_wp2_with fail
  refine (thread_nil k _).mono ?_
  rintro e w' ⟨rfl, rfl⟩
  go_wp2_with fail
  refine (hf _).mono ?_
  rintro e w' ⟨rfl, rfl⟩
  go_wp2
  go_ret
  exact ⟨rfl, rfl⟩
end
end Go.Proofs.Ytldobbdaokjgaaa
