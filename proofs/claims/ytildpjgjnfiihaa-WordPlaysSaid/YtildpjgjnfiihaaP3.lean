/- The word: at, first, Begin, Step, Now, Holds, Busy, New. -/
import Derived.Test.YtildpjgjnfiihaaP2
import Derived.Laws.EntriesVeiled
namespace Go.Proofs.Ytildpjgjnfiihaa
open Go.RowKit
set_option linter.unusedVariables false
set_option linter.unusedSimpArgs false
def first (k op : Int) : Nx := if 0 < k then (if op = 0 then .look else .no) else if op = 1 then .start else if op = 2 then .sleep else if op = 3 then .yield else if op = 4 then .die else .no
def begin (q : Q) (k op : Int) : Int × Q :=
  if k < 0 ∨ 8 ≤ k ∨ first k op = .no then (1, q)
  else if q.th k.toNat ≠ .no then (14, q)
  else if k = 0 ∧ q.held = decide (op = 1) then (13, q)
  else (0, q.set k.toNat (first k op))
def stepA (q : Q) (n : Nat) : A := act q.now q.held (q.th n)
def step (q : Q) (k : Int) : (Int × Int) × Q :=
  if k < 0 ∨ 8 ≤ k then ((0, 1), q)
  else if q.th k.toNat = .no then ((0, 13), q)
  else (((stepA q k.toNat).what, 0), { now := (stepA q k.toNat).now, held := (stepA q k.toNat).held, th := fun j => if j = k.toNat then (stepA q k.toNat).nx else q.th j })
def fv : Nx → Value
  | .look => fnv 25 | .start => fnv 26 | .sleep => fnv 27 | .goes => fnv 33 | .yield => fnv 28 | .die => fnv 29 | _ => .nilFunc
theorem ne_fn (m : Fn) (a c : Array Value) (w : World) : (binOp .neq 53 (.func m a c) .nilFunc).run Try.prog w = .ok (.bool true) w := by kernel_rfl
theorem eq_fn (m : Fn) (a c : Array Value) (w : World) : (binOp .eql 53 (.func m a c) .nilFunc).run Try.prog w = .ok (.bool false) w := by kernel_rfl
theorem ne_nf (w : World) : (binOp .neq 53 .nilFunc .nilFunc).run Try.prog w = .ok (.bool false) w := by kernel_rfl
theorem eq_nf (w : World) : (binOp .eql 53 .nilFunc .nilFunc).run Try.prog w = .ok (.bool true) w := by kernel_rfl
theorem fv_stc {w : World} {b : Nat} (k op : Int) : Stc w b (fv (first k op)) (first k op) := by
  unfold first; split
  · split <;> rfl
  · split
    · rfl
    · split
      · rfl
      · split
        · rfl
        · split <;> rfl
theorem fv_func (k op : Int) (h : first k op ≠ .no) : ∃ m, fv (first k op) = fnv m := by
  unfold first at h ⊢; split
  · split
    · exact ⟨_, rfl⟩
    · simp_all
  · split
    · exact ⟨_, rfl⟩
    · split
      · exact ⟨_, rfl⟩
      · split
        · exact ⟨_, rfl⟩
        · split
          · exact ⟨_, rfl⟩
          · simp_all
theorem stc_func {w : World} {b : Nat} {v : Value} {x : Nx} (h : Stc w b v x) (hx : x ≠ .no) : ∃ m a c, v = .func m a c := by
  cases x with
  | no => exact absurd rfl hx
  | wk c => obtain ⟨b1, b2, b3, e, _⟩ := h; exact ⟨_, _, _, e⟩
  | _ => exact ⟨_, _, _, h⟩
section
variable {w w1 : World} {b now : Nat} {held : Bool} {f : Nat → Value} {v : Value} {x : Nx} {q : Q}
theorem at_in (b k : Nat) (hk : k < 8) (w : World) : Calls Try.prog 21 #[.pointer (some ⟨b, 0, none⟩), .int .i64 k] w fun e w' => e = .returned (.pointer (some ⟨b, 2 + k, none⟩)) ∧ w' = w := by
  have h1 : ¬ ((k : Int) < 0) := by omega
  have h2 : ¬ ((8 : Int) ≤ k) := by omega
  have h3 : (k : Int) < 8 := by omega
  have h4 : (0 : Int) ≤ k := by omega
  go_enter Try.func21, Try.ntmps21
  go_wp2
  go_ret
  exact ⟨rfl, rfl⟩
theorem at_out (b : Nat) (k : Int) (hk : k < 0 ∨ 8 ≤ k) (w : World) : Calls Try.prog 21 #[.pointer (some ⟨b, 0, none⟩), .int .i64 k] w fun e w' => e = .returned (.pointer none) ∧ w' = w := by
  rcases hk with hk | hk
  · go_enter Try.func21, Try.ntmps21
    go_wp2
    go_ret
    exact ⟨rfl, rfl⟩
  · by_cases h : k < 0
    · omega
    · go_enter Try.func21, Try.ntmps21
      go_wp2
      go_ret
      exact ⟨rfl, rfl⟩
theorem at_nil (k : Int) (w : World) : Calls Try.prog 21 #[.pointer none, .int .i64 k] w fun e w' => e = .returned (.pointer none) ∧ w' = w := by
  go_enter Try.func21, Try.ntmps21
  go_wp2
  go_ret
  exact ⟨rfl, rfl⟩
theorem first_any (k op : Int) (w : World) : Calls Try.prog 22 #[.int .i64 k, .int .i64 op] w fun e w' => e = .returned (fv (first k op)) ∧ w' = w := by
  unfold first
  by_cases h : 0 < k
  · rw [if_pos h]
    by_cases h0 : op = 0
    · rw [if_pos h0]; subst h0
      go_enter Try.func22, Try.ntmps22
      go_wp2
      go_ret
      exact ⟨rfl, rfl⟩
    · rw [if_neg h0]
      have hb : (op == 0) = false := by simp; exact h0
      clear h0
      go_enter Try.func22, Try.ntmps22
      go_wp2
      go_ret
      exact ⟨rfl, rfl⟩
  · rw [if_neg h]
    by_cases h1 : op = 1
    · rw [if_pos h1]; subst h1
      go_enter Try.func22, Try.ntmps22
      go_wp2
      go_ret
      exact ⟨rfl, rfl⟩
    · rw [if_neg h1]
      by_cases h2 : op = 2
      · rw [if_pos h2]; subst h2
        clear h1
        go_enter Try.func22, Try.ntmps22
        go_wp2
        go_ret
        exact ⟨rfl, rfl⟩
      · rw [if_neg h2]
        by_cases h3 : op = 3
        · rw [if_pos h3]; subst h3
          clear h1 h2
          go_enter Try.func22, Try.ntmps22
          go_wp2
          go_ret
          exact ⟨rfl, rfl⟩
        · rw [if_neg h3]
          by_cases h4 : op = 4
          · rw [if_pos h4]; subst h4
            clear h1 h2 h3
            go_enter Try.func22, Try.ntmps22
            go_wp2
            go_ret
            exact ⟨rfl, rfl⟩
          · rw [if_neg h4]
            have b1 : (op == 1) = false := by simp; exact h1
            have b2 : (op == 2) = false := by simp; exact h2
            have b3 : (op == 3) = false := by simp; exact h3
            have b4 : (op == 4) = false := by simp; exact h4
            clear h1 h2 h3 h4
            go_enter Try.func22, Try.ntmps22
            go_wp2
            go_ret
            exact ⟨rfl, rfl⟩
/-- a thread's cell is written -/
theorem Ww.put (h : Ww w b q f) (n : Nat) (hn : n < 8) (v : Value) (x : Nx) (hs : Stc w b v x) : Ww (w.setCell ⟨b, 2 + n, none⟩ v) b (q.set n x) (up f (2 + n) v) := by
  have g := fr_b w b (2 + n) v
  refine ⟨⟨h.h.s.set _ _, (if_neg (by omega)).trans h.h.f0, (if_neg (by omega)).trans h.h.f1⟩, fun k hk => ?_⟩
  unfold up Q.set
  dsimp only
  by_cases e : k = n
  · subst e; rw [if_pos rfl, if_pos rfl]; exact hs.fr g
  · rw [if_neg (by omega), if_neg e]; exact (h.t k hk).fr g
theorem Ww.frame (h : Ww w b q f) {S : Nat → Prop} (g : Fr w w1 S) (hS : ∀ k, k < w.heap.size → ¬ S k) : Ww w1 b q f :=
  ⟨⟨row_fr h.h.s g (hS _ h.h.s.lt), h.h.f0, h.h.f1⟩, fun k hk => (h.t k hk).fr ⟨g.os, g.tape, g.output, g.size, fun j hj _ => g.block j hj (hS j hj)⟩⟩
theorem Ww.below (h : Ww w b q f) (g : Below w.heap.size w w1) : Ww w1 b q f :=
  ⟨⟨row_below h.h.s g h.h.s.lt, h.h.f0, h.h.f1⟩, fun k hk => (h.t k hk).below g⟩
theorem now_any (h : Ww w b q f) : Calls Try.prog 13 #[.pointer (some ⟨b, 0, none⟩)] w fun e w' => e = .returned (.int .i64 q.now) ∧ w' = w := by
  have c0 := h.h.c0
  clear h
  generalize (q.now : Int) = N at *
  go_enter Try.func13, Try.ntmps13
  go_wp2
  go_ret
  exact ⟨rfl, rfl⟩
theorem now_nil (w : World) : Calls Try.prog 13 #[.pointer none] w fun e w' => e = .returned (.int .i64 0) ∧ w' = w := by
  go_enter Try.func13, Try.ntmps13
  go_wp2
  go_ret
  exact ⟨rfl, rfl⟩
theorem holds_any (h : Ww w b q f) : Calls Try.prog 14 #[.pointer (some ⟨b, 0, none⟩)] w fun e w' => e = .returned (.bool q.held) ∧ w' = w := by
  have c1 := h.h.c1
  clear h
  generalize q.held = o at *
  go_enter Try.func14, Try.ntmps14
  go_wp2
  go_ret
  exact ⟨rfl, rfl⟩
theorem holds_nil (w : World) : Calls Try.prog 14 #[.pointer none] w fun e w' => e = .returned (.bool false) ∧ w' = w := by
  go_enter Try.func14, Try.ntmps14
  go_wp2
  go_ret
  exact ⟨rfl, rfl⟩
theorem busy_nil (k : Int) (w : World) : Calls Try.prog 18 #[.pointer none, .int .i64 k] w fun e w' => e = .returned (.bool false) ∧ w' = w := by
  go_enter Try.func18, Try.ntmps18
  go_wp2_with fail
  refine (at_nil k _).mono ?_
  rintro e w' ⟨rfl, rfl⟩
  go_wp2
  go_ret
  exact ⟨rfl, rfl⟩
theorem busy_any (h : Ww w b q f) (k : Int) (o : Bool) (ho : o = (decide (0 ≤ k ∧ k < 8) && decide (q.th k.toNat ≠ .no))) : Calls Try.prog 18 #[.pointer (some ⟨b, 0, none⟩), .int .i64 k] w fun e w' => e = .returned (.bool o) ∧ w' = w := by
  by_cases h1 : k < 0 ∨ 8 ≤ k
  · have e : o = false := by rw [ho, decide_eq_false (by omega)]; rfl
    subst e
    clear ho h
    go_enter Try.func18, Try.ntmps18
    go_wp2_with fail
    refine (at_out b k h1 _).mono ?_
    rintro e w' ⟨rfl, rfl⟩
    go_wp2
    go_ret
    exact ⟨rfl, rfl⟩
  · obtain ⟨n, rfl⟩ : ∃ n : Nat, k = n := ⟨k.toNat, by omega⟩
    have hn : n < 8 := by omega
    rw [decide_eq_true (by omega), Int.toNat_natCast, Bool.true_and] at ho
    have ct := h.h.ct n hn
    have st := h.t n hn
    by_cases h2 : q.th n = .no
    · rw [decide_eq_false (by simpa using h2)] at ho
      rw [h2] at st
      have st' : f (2 + n) = .nilFunc := st
      rw [st'] at ct
      subst ho
      have e1 := ne_nf
      clear h st st' h1 h2
      go_enter Try.func18, Try.ntmps18
      go_wp2_with fail
      refine (at_in b n hn _).mono ?_
      rintro e w' ⟨rfl, rfl⟩
      go_wp2
      go_ret
      exact ⟨rfl, rfl⟩
    · rw [decide_eq_true h2] at ho
      obtain ⟨m, a, c, e⟩ := stc_func st h2
      rw [e] at ct
      subst ho
      have e1 := ne_fn
      clear h st e h1 h2
      go_enter Try.func18, Try.ntmps18
      go_wp2_with fail
      refine (at_in b n hn _).mono ?_
      rintro e w' ⟨rfl, rfl⟩
      go_wp2
      go_ret
      exact ⟨rfl, rfl⟩
end
end Go.Proofs.Ytildpjgjnfiihaa
