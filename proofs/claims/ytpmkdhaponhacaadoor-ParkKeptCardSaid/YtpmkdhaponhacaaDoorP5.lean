/- The lot: Work, Workers, Parked, Busy, Begin. -/
import Derived.Test.YtpmkdhaponhacaaDoorP4
namespace Go.Proofs.YtpmkdhaponhacaaDoor
open Go.RowKit
set_option linter.unusedVariables false
set_option linter.unusedSimpArgs false
def begin (q : Q) (k op : Int) : Int × Q :=
  if ¬ (0 ≤ k ∧ k < (q.n : Int)) ∨ (op ≠ 0 ∧ op ≠ 1) ∨ (op = 1 ∧ k = 0) then (1, q)
  else if (q.th k.toNat).pk = true then (13, q)
  else if (q.th k.toNat).nx ≠ .no then (14, q)
  else (0, q.setT k.toNat ((q.th k.toNat).setN (if op = 1 then .a26 else .a25)))
def stepA (q : Q) (k : Nat) : A := act q k (q.th k) (q.th k).nx
def A.fin (a : A) (k : Nat) : Q := a.q.setT k ((a.q.th k).setN a.nx)
def step (q : Q) (k : Int) : (Int × Nat × Int) × Q :=
  if ¬ (0 ≤ k ∧ k < (q.n : Int)) then ((0, 0, 1), q)
  else if (q.th k.toNat).nx = .no then ((0, 0, 13), q)
  else (((stepA q k.toNat).what, (stepA q k.toNat).who, 0), (stepA q k.toNat).fin k.toNat)
theorem ne_fn (m : Fn) (a c : Array Value) (w : World) : (binOp .neq 59 (.func m a c) .nilFunc).run Tryd.prog w = .ok (.bool true) w := by kernel_rfl
theorem eq_fn (m : Fn) (a c : Array Value) (w : World) : (binOp .eql 59 (.func m a c) .nilFunc).run Tryd.prog w = .ok (.bool false) w := by kernel_rfl
theorem ne_nf (w : World) : (binOp .neq 59 .nilFunc .nilFunc).run Tryd.prog w = .ok (.bool false) w := by kernel_rfl
theorem eq_nf (w : World) : (binOp .eql 59 .nilFunc .nilFunc).run Tryd.prog w = .ok (.bool true) w := by kernel_rfl
theorem fv_func {x : Nx} (h : x ≠ .no) : ∃ m, fv x = .func (.func m) #[] #[] := by
  cases x <;> first | exact absurd rfl h | exact ⟨_, rfl⟩
section
variable {w w1 : World} {b p : Nat} {q : Q}
theorem thread_in (h : Lq w b p q) (n : Nat) (hn : n < q.n) : Calls Tryd.prog 24 #[.pointer (some ⟨b, 0, none⟩), .int .i64 n] w fun e w' => e = .returned (.pointer (some ⟨p, n * 6, none⟩)) ∧ w' = w := by
  have := thread_any h (n : Int)
  rw [show thp q p (n : Int) = some ⟨p, n * 6, none⟩ from if_pos (by omega)] at this
  exact this
theorem thread_out (h : Lq w b p q) (k : Int) (hk : ¬ (0 ≤ k ∧ k < (q.n : Int))) : Calls Tryd.prog 24 #[.pointer (some ⟨b, 0, none⟩), .int .i64 k] w fun e w' => e = .returned (.pointer none) ∧ w' = w := by
  have := thread_any h k
  rw [show thp q p k = none from if_neg hk] at this
  exact this
theorem thread_nil (k : Int) (w : World) : Calls Tryd.prog 24 #[.pointer none, .int .i64 k] w fun e w' => e = .returned (.pointer none) ∧ w' = w := by
  go_enter Tryd.func24, Tryd.ntmps24
  go_wp2
  go_ret
  exact ⟨rfl, rfl⟩
theorem work_any (h : Lq w b p q) : Calls Tryd.prog 13 #[.pointer (some ⟨b, 0, none⟩)] w fun e w' => e = .returned (.int .i64 q.work) ∧ w' = w := by
  have c0 := h.c0
  clear h
  go_enter Tryd.func13, Tryd.ntmps13
  go_wp2
  go_ret
  exact ⟨rfl, rfl⟩
theorem work_nil (w : World) : Calls Tryd.prog 13 #[.pointer none] w fun e w' => e = .returned (.int .i64 0) ∧ w' = w := by
  go_enter Tryd.func13, Tryd.ntmps13
  go_wp2
  go_ret
  exact ⟨rfl, rfl⟩
theorem workers_nil (w : World) : Calls Tryd.prog 11 #[.pointer none] w fun e w' => e = .returned (.int .i64 0) ∧ w' = w := by
  go_enter Tryd.func11, Tryd.ntmps11
  go_wp2
  go_ret
  exact ⟨rfl, rfl⟩
theorem workers_any (h : Lq w b p q) : Calls Tryd.prog 11 #[.pointer (some ⟨b, 0, none⟩)] w fun e w' => e = .returned (.int .i64 ((q.n - 1 : Nat) : Int)) ∧ w' = w := by
  have c3 := h.c3
  have e : wrap64 ((q.n : Int) - 1) = ((q.n - 1 : Nat) : Int) := by have := h.n1; have := h.n2; unfold wrap64; omega
  rw [← e]
  clear h e
  go_enter Tryd.func11, Tryd.ntmps11
  go_wp2
  go_ret
  exact ⟨rfl, rfl⟩
theorem busy_nil (k : Int) (w : World) : Calls Tryd.prog 20 #[.pointer none, .int .i64 k] w fun e w' => e = .returned (.bool false) ∧ w' = w := by
  go_enter Tryd.func20, Tryd.ntmps20
  go_wp2_with fail
  refine (thread_nil k _).mono ?_
  rintro e w' ⟨rfl, rfl⟩
  go_wp2
  go_ret
  exact ⟨rfl, rfl⟩
theorem parked_nil (k : Int) (w : World) : Calls Tryd.prog 12 #[.pointer none, .int .i64 k] w fun e w' => e = .returned (.bool false) ∧ w' = w := by
  go_enter Tryd.func12, Tryd.ntmps12
  go_wp2_with fail
  refine (thread_nil k _).mono ?_
  rintro e w' ⟨rfl, rfl⟩
  go_wp2
  go_ret
  exact ⟨rfl, rfl⟩
theorem step_nil (k : Int) (w : World) : Calls Tryd.prog 18 #[.pointer none, .int .i64 k] w fun e w' => e = .returned (.tuple #[.int .i64 0, .int .i64 0, .int .i64 1]) ∧ w' = w := by
  go_enter Tryd.func18, Tryd.ntmps18
  go_wp2_with fail
  refine (thread_nil k _).mono ?_
  rintro e w' ⟨rfl, rfl⟩
  go_wp2
  go_returns
  exact ⟨rfl, rfl⟩
theorem begin_nil (k op : Int) (w : World) : Calls Tryd.prog 16 #[.pointer none, .int .i64 k, .int .i64 op] w fun e w' => e = .returned (.int .i64 1) ∧ w' = w := by
  go_enter Tryd.func16, Tryd.ntmps16
  go_wp2_with fail
  refine (thread_nil k _).mono ?_
  rintro e w' ⟨rfl, rfl⟩
  go_wp2
  go_ret
  exact ⟨rfl, rfl⟩
theorem busy_any (h : Lq w b p q) (k : Int) (o : Bool) (ho : o = (decide (0 ≤ k ∧ k < (q.n : Int)) && decide ((q.th k.toNat).nx ≠ .no))) : Calls Tryd.prog 20 #[.pointer (some ⟨b, 0, none⟩), .int .i64 k] w fun e w' => e = .returned (.bool o) ∧ w' = w := by
  by_cases h1 : 0 ≤ k ∧ k < (q.n : Int)
  · obtain ⟨n, rfl⟩ : ∃ n : Nat, k = n := ⟨k.toNat, by omega⟩
    have hn : n < q.n := by omega
    rw [decide_eq_true h1, Int.toNat_natCast, Bool.true_and] at ho
    have ct := h.t0 n hn
    have hth := thread_in h n hn
    by_cases h2 : (q.th n).nx = .no
    · rw [decide_eq_false (by simpa using h2)] at ho
      rw [h2] at ct
      have ct' : w.cell? ⟨p, n * 6, none⟩ = some .nilFunc := ct
      subst ho
      have e1 := ne_nf
      clear h ct h1 h2
      go_enter Tryd.func20, Tryd.ntmps20
      go_wp2_with fail
      refine hth.mono ?_
      rintro e w' ⟨rfl, rfl⟩
      go_wp2
      go_ret
      exact ⟨rfl, rfl⟩
    · rw [decide_eq_true h2] at ho
      obtain ⟨m, e⟩ := fv_func h2
      rw [e] at ct
      subst ho
      have e1 := ne_fn
      clear h e h1 h2
      go_enter Tryd.func20, Tryd.ntmps20
      go_wp2_with fail
      refine hth.mono ?_
      rintro e w' ⟨rfl, rfl⟩
      go_wp2
      go_ret
      exact ⟨rfl, rfl⟩
  · have e : o = false := by rw [ho, decide_eq_false h1]; rfl
    subst e
    have hth := thread_out h k h1
    clear ho h
    go_enter Tryd.func20, Tryd.ntmps20
    go_wp2_with fail
    refine hth.mono ?_
    rintro e w' ⟨rfl, rfl⟩
    go_wp2
    go_ret
    exact ⟨rfl, rfl⟩
theorem parked_any (h : Lq w b p q) (k : Int) (o : Bool) (ho : o = (decide (0 ≤ k ∧ k < (q.n : Int)) && (q.th k.toNat).pk)) : Calls Tryd.prog 12 #[.pointer (some ⟨b, 0, none⟩), .int .i64 k] w fun e w' => e = .returned (.bool o) ∧ w' = w := by
  by_cases h1 : 0 ≤ k ∧ k < (q.n : Int)
  · obtain ⟨n, rfl⟩ : ∃ n : Nat, k = n := ⟨k.toNat, by omega⟩
    have hn : n < q.n := by omega
    rw [decide_eq_true h1, Int.toNat_natCast, Bool.true_and] at ho
    have ct := h.t5 n hn
    have hth := thread_in h n hn
    rw [← ho] at ct
    clear h ho h1
    go_enter Tryd.func12, Tryd.ntmps12
    go_wp2_with fail
    refine hth.mono ?_
    rintro e w' ⟨rfl, rfl⟩
    go_wp2
    go_ret
    exact ⟨rfl, rfl⟩
  · have e : o = false := by rw [ho, decide_eq_false h1]; rfl
    subst e
    have hth := thread_out h k h1
    clear ho h
    go_enter Tryd.func12, Tryd.ntmps12
    go_wp2_with fail
    refine hth.mono ?_
    rintro e w' ⟨rfl, rfl⟩
    go_wp2
    go_ret
    exact ⟨rfl, rfl⟩
end
end Go.Proofs.YtpmkdhaponhacaaDoor
