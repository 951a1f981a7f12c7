/- The deque: thread, first, Top, Bottom, Size, Busy, New. -/
import Derived.Test.YtldobbdaokjgaaaP3
import Derived.Laws.EntriesVeiled
namespace Go.Proofs.Ytldobbdaokjgaaa
open Go.RowKit
set_option linter.unusedVariables false
set_option linter.unusedSimpArgs false
def first (k op : Int) : Nx := if k = 0 ∧ op = 0 then .a33 else if k = 0 ∧ op = 1 then .a34 else if 0 < k ∧ op = 2 then .a35 else .no
def begin (q : Q) (k op v : Int) : Int × Q :=
  if k < 0 ∨ 8 ≤ k ∨ first k op = .no then (1, q)
  else if (q.th k.toNat).nx ≠ .no then (14, q)
  else (0, q.setT k.toNat { nx := first k op, v := v })
def stepA (q : Q) (k : Nat) : A := act q k (q.th k) (q.th k).nx
def A.fin (a : A) (k : Nat) : Q := a.q.setT k ((a.q.th k).setN a.nx)
def step (q : Q) (k : Int) : (D × Int) × Q :=
  if k < 0 ∨ 8 ≤ k then (({}, 1), q)
  else if (q.th k.toNat).nx = .no then (({}, 13), q)
  else (((stepA q k.toNat).d, 0), (stepA q k.toNat).fin k.toNat)
theorem ne_fn (m : Fn) (a c : Array Value) (w : World) : (binOp .neq 63 (.func m a c) .nilFunc).run Try.prog w = .ok (.bool true) w := by kernel_rfl
theorem eq_fn (m : Fn) (a c : Array Value) (w : World) : (binOp .eql 63 (.func m a c) .nilFunc).run Try.prog w = .ok (.bool false) w := by kernel_rfl
theorem ne_nf (w : World) : (binOp .neq 63 .nilFunc .nilFunc).run Try.prog w = .ok (.bool false) w := by kernel_rfl
theorem eq_nf (w : World) : (binOp .eql 63 .nilFunc .nilFunc).run Try.prog w = .ok (.bool true) w := by kernel_rfl
theorem fv_func {x : Nx} (h : x ≠ .no) : ∃ m, fv x = .func (.func m) #[] #[] := by
  cases x <;> first | exact absurd rfl h | exact ⟨_, rfl⟩
section
variable {w w1 : World} {b p : Nat} {q : Q}
theorem Dq.fN (h : Dq w b p q) (k : Nat) (hk : k < 8) (x : Nx) : Dq (w.setCell ⟨b, 3 + k * 5, none⟩ (fv x)) b p (q.setT k ((q.th k).setN x)) :=
  h.setF k 0 hk (by omega) _ _ rfl (fun j hj hn => by
    have : j = 1 ∨ j = 2 ∨ j = 3 ∨ j = 4 := by omega
    rcases this with rfl | rfl | rfl | rfl <;> rfl)
theorem setT_at (q : Q) (k : Nat) (x : T) : (q.setT k x).th k = x := if_pos rfl
theorem setT_setT (q : Q) (k : Nat) (x y : T) : (q.setT k x).setT k y = q.setT k y := by
  unfold Q.setT
  congr 1
  funext j
  by_cases e : j = k
  · rw [if_pos e, if_pos e]
  · rw [if_neg e, if_neg e]; exact if_neg e
theorem Dq.put (h : Dq w b p q) (k : Nat) (hk : k < 8) (x : Nx) (v : Int) : Dq (((((w.setCell ⟨b, 3 + k * 5, none⟩ (fv x)).setCell ⟨b, 3 + k * 5 + 1, none⟩ (.int .i64 v)).setCell ⟨b, 3 + k * 5 + 2, none⟩ (.int .i64 0)).setCell ⟨b, 3 + k * 5 + 3, none⟩ (.int .i64 0)).setCell ⟨b, 3 + k * 5 + 4, none⟩ (.bool false)) b p (q.setT k { nx := x, v := v }) := by
  have g := ((((h.fN k hk x).fV k hk v).fT k hk 0).fB k hk 0).fW k hk false
  simp only [setT_setT, setT_at, T.setN, T.setV, T.setT, T.setB, T.setW] at g
  exact g
theorem thread_in (b k : Nat) (hk : k < 8) (w : World) : Calls Try.prog 26 #[.pointer (some ⟨b, 0, none⟩), .int .i64 k] w fun e w' => e = .returned (.pointer (some ⟨b, 3 + k * 5, none⟩)) ∧ w' = w := by
  have h1 : ¬ ((k : Int) < 0) := by omega
  have h2 : ¬ ((8 : Int) ≤ k) := by omega
  have h3 : (k : Int) < 8 := by omega
  have h4 : (0 : Int) ≤ k := by omega
  go_enter Try.func26, Try.ntmps26
  go_wp2
  go_ret
  exact ⟨rfl, rfl⟩
theorem thread_out (b : Nat) (k : Int) (hk : k < 0 ∨ 8 ≤ k) (w : World) : Calls Try.prog 26 #[.pointer (some ⟨b, 0, none⟩), .int .i64 k] w fun e w' => e = .returned (.pointer none) ∧ w' = w := by
  rcases hk with hk | hk
  · go_enter Try.func26, Try.ntmps26
    go_wp2
    go_ret
    exact ⟨rfl, rfl⟩
  · by_cases h : k < 0
    · omega
    · go_enter Try.func26, Try.ntmps26
      go_wp2
      go_ret
      exact ⟨rfl, rfl⟩
theorem thread_nil (k : Int) (w : World) : Calls Try.prog 26 #[.pointer none, .int .i64 k] w fun e w' => e = .returned (.pointer none) ∧ w' = w := by
  go_enter Try.func26, Try.ntmps26
  go_wp2
  go_ret
  exact ⟨rfl, rfl⟩
theorem first_any (k op : Int) (w : World) : Calls Try.prog 28 #[.int .i64 k, .int .i64 op] w fun e w' => e = .returned (fv (first k op)) ∧ w' = w := by
  by_cases h : 0 < k
  · have hz : (k == 0) = false := by simp; omega
    have hk : ¬ (k = 0) := by omega
    by_cases h2 : op = 2
    · have e : first k op = .a35 := by unfold first; rw [if_neg (by omega), if_neg (by omega), if_pos ⟨h, h2⟩]
      rw [e]
      subst h2
      clear e
      go_enter Try.func28, Try.ntmps28
      go_wp2
      go_ret
      exact ⟨rfl, rfl⟩
    · have e : first k op = .no := by unfold first; rw [if_neg (by omega), if_neg (by omega), if_neg (by omega)]
      rw [e]
      have hb : (op == 2) = false := by simp; exact h2
      clear e h2
      go_enter Try.func28, Try.ntmps28
      go_wp2
      go_ret
      exact ⟨rfl, rfl⟩
  · by_cases h0 : k = 0
    · subst h0
      by_cases h1 : op = 0
      · subst h1
        go_enter Try.func28, Try.ntmps28
        go_wp2
        go_ret
        exact ⟨rfl, rfl⟩
      · by_cases h2 : op = 1
        · subst h2
          clear h1
          go_enter Try.func28, Try.ntmps28
          go_wp2
          go_ret
          exact ⟨rfl, rfl⟩
        · have e : first 0 op = .no := by unfold first; rw [if_neg (by omega), if_neg (by omega), if_neg (by omega)]
          rw [e]
          have b1 : (op == 0) = false := by simp; exact h1
          have b2 : (op == 1) = false := by simp; exact h2
          clear e h1 h2
          go_enter Try.func28, Try.ntmps28
          go_wp2
          go_ret
          exact ⟨rfl, rfl⟩
    · have e : first k op = .no := by unfold first; rw [if_neg (by omega), if_neg (by omega), if_neg (by omega)]
      rw [e]
      have hz : (k == 0) = false := by simp; exact h0
      clear e h0
      go_enter Try.func28, Try.ntmps28
      go_wp2
      go_ret
      exact ⟨rfl, rfl⟩
theorem top_any (h : Dq w b p q) : Calls Try.prog 22 #[.pointer (some ⟨b, 0, none⟩)] w fun e w' => e = .returned (.int .i64 q.top) ∧ w' = w := by
  have c0 := h.c0
  clear h
  generalize q.top = N at *
  go_enter Try.func22, Try.ntmps22
  go_wp2
  go_ret
  exact ⟨rfl, rfl⟩
theorem top_nil (w : World) : Calls Try.prog 22 #[.pointer none] w fun e w' => e = .returned (.int .i64 0) ∧ w' = w := by
  go_enter Try.func22, Try.ntmps22
  go_wp2
  go_ret
  exact ⟨rfl, rfl⟩
theorem bot_any (h : Dq w b p q) : Calls Try.prog 23 #[.pointer (some ⟨b, 0, none⟩)] w fun e w' => e = .returned (.int .i64 q.bot) ∧ w' = w := by
  have c0 := h.c1
  clear h
  generalize q.bot = N at *
  go_enter Try.func23, Try.ntmps23
  go_wp2
  go_ret
  exact ⟨rfl, rfl⟩
theorem bot_nil (w : World) : Calls Try.prog 23 #[.pointer none] w fun e w' => e = .returned (.int .i64 0) ∧ w' = w := by
  go_enter Try.func23, Try.ntmps23
  go_wp2
  go_ret
  exact ⟨rfl, rfl⟩
theorem size_any (h : Dq w b p q) : Calls Try.prog 18 #[.pointer (some ⟨b, 0, none⟩)] w fun e w' => e = .returned (.int .i64 q.n) ∧ w' = w := by
  have c2 := h.c2
  clear h
  generalize q.n = N at *
  go_enter Try.func18, Try.ntmps18
  go_wp2
  go_ret
  exact ⟨rfl, rfl⟩
theorem size_nil (w : World) : Calls Try.prog 18 #[.pointer none] w fun e w' => e = .returned (.int .i64 0) ∧ w' = w := by
  go_enter Try.func18, Try.ntmps18
  go_wp2
  go_ret
  exact ⟨rfl, rfl⟩
theorem busy_nil (k : Int) (w : World) : Calls Try.prog 13 #[.pointer none, .int .i64 k] w fun e w' => e = .returned (.bool false) ∧ w' = w := by
  go_enter Try.func13, Try.ntmps13
  go_wp2_with fail
  refine (thread_nil k _).mono ?_
  rintro e w' ⟨rfl, rfl⟩
  go_wp2
  go_ret
  exact ⟨rfl, rfl⟩
theorem busy_any (h : Dq w b p q) (k : Int) (o : Bool) (ho : o = (decide (0 ≤ k ∧ k < 8) && decide ((q.th k.toNat).nx ≠ .no))) : Calls Try.prog 13 #[.pointer (some ⟨b, 0, none⟩), .int .i64 k] w fun e w' => e = .returned (.bool o) ∧ w' = w := by
  by_cases h1 : k < 0 ∨ 8 ≤ k
  · have e : o = false := by rw [ho, decide_eq_false (by omega)]; rfl
    subst e
    clear ho h
    go_enter Try.func13, Try.ntmps13
    go_wp2_with fail
    refine (thread_out b k h1 _).mono ?_
    rintro e w' ⟨rfl, rfl⟩
    go_wp2
    go_ret
    exact ⟨rfl, rfl⟩
  · obtain ⟨n, rfl⟩ : ∃ n : Nat, k = n := ⟨k.toNat, by omega⟩
    have hn : n < 8 := by omega
    rw [decide_eq_true (by omega), Int.toNat_natCast, Bool.true_and] at ho
    have ct := h.t0 n hn
    by_cases h2 : (q.th n).nx = .no
    · rw [decide_eq_false (by simpa using h2)] at ho
      rw [h2] at ct
      have ct' : w.cell? ⟨b, 3 + n * 5, none⟩ = some .nilFunc := ct
      subst ho
      have e1 := ne_nf
      clear h ct h1 h2
      go_enter Try.func13, Try.ntmps13
      go_wp2_with fail
      refine (thread_in b n hn _).mono ?_
      rintro e w' ⟨rfl, rfl⟩
      go_wp2
      go_ret
      exact ⟨rfl, rfl⟩
    · rw [decide_eq_true h2] at ho
      obtain ⟨m, e⟩ := fv_func h2
      rw [e] at ct
      subst ho
      have e1 := ne_fn
      clear h e h1 h2
      go_enter Try.func13, Try.ntmps13
      go_wp2_with fail
      refine (thread_in b n hn _).mono ?_
      rintro e w' ⟨rfl, rfl⟩
      go_wp2
      go_ret
      exact ⟨rfl, rfl⟩
end
end Go.Proofs.Ytldobbdaokjgaaa
