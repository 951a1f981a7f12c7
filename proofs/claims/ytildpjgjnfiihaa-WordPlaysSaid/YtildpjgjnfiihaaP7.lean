/- The word behind a first world; lives; WordNil's walk; the laws' thread and begin. -/
import Derived.Test.YtildpjgjnfiihaaP6
import Derived.Test.YtildpjgjnfiihaaO
namespace Go.Proofs.Ytildpjgjnfiihaa
open Go.RowKit Go.ChangeShapes Go.WideShapes Go.Deep
set_option linter.unusedVariables false
set_option linter.unusedSimpArgs false
structure Ws (w0 w : World) (b : Nat) (q : Q) : Prop where
  i : ∃ f, Ww w b q f
  bel : Below w0.heap.size w0 w
  lo : w0.heap.size ≤ b
section
variable {w0 w w1 : World} {b : Nat} {q q' : Q}
theorem Ws.lt (h : Ws w0 w b q) : b < w.heap.size := by obtain ⟨f, i⟩ := h.i; exact i.h.s.lt
theorem Ws.below (h : Ws w0 w b q) (g : Below w.heap.size w w1) : Ws w0 w1 b q := by
  obtain ⟨f, i⟩ := h.i
  exact ⟨⟨f, i.below g⟩, h.bel.trans (g.mono h.bel.size), h.lo⟩
theorem Ws.alloc (h : Ws w0 w b q) (o : Obj) : Ws w0 (w.alloc o) b q := h.below ((Below.refl w.heap.size w).alloc (Nat.le_refl _) o)
theorem Ws.fr (h : Ws w0 w b q) (i : ∃ f, Ww w1 b q' f) (g : Fr w w1 (fun j => j = b)) : Ws w0 w1 b q' := ⟨i, h.bel.trans (g.below h.bel.size (fun k e => by rw [e]; exact h.lo)), h.lo⟩
theorem ws_new (hb : Below w0.heap.size w0 w) : Calls Try.prog 10 #[] w fun e w' => ∃ b, e = .returned (.pointer (some ⟨b, 0, none⟩)) ∧ Ws w0 w' b Q0 ∧ Fr w w' (fun _ => False) ∧ w.heap.size ≤ b := by
  refine (new_any w).mono ?_
  rintro e w' ⟨rfl, h, g⟩
  exact ⟨_, rfl, ⟨⟨_, h⟩, hb.trans (g.below hb.size (fun k e => e.elim)), hb.size⟩, g, Nat.le_refl _⟩
theorem ws_begin (h : Ws w0 w b q) (k op e : Int) (he : begin q k op = (e, q')) : Calls Try.prog 11 #[.pointer (some ⟨b, 0, none⟩), .int .i64 k, .int .i64 op] w fun e' w' => e' = .returned (.int .i64 e) ∧ Ws w0 w' b q' ∧ Fr w w' (fun j => j = b) := by
  obtain ⟨f, i⟩ := h.i
  have hc := begin_any i k op
  rw [he] at hc
  refine hc.mono ?_
  rintro e' w' ⟨rfl, h', g⟩
  exact ⟨rfl, h.fr h' g, g⟩
theorem ws_step (h : Ws w0 w b q) (k x e : Int) (he : step q k = ((x, e), q')) : Calls Try.prog 12 #[.pointer (some ⟨b, 0, none⟩), .int .i64 k] w fun e' w' => e' = .returned (.tuple #[.int .i64 x, .int .i64 e]) ∧ Ws w0 w' b q' ∧ Fr w w' (fun j => j = b) := by
  obtain ⟨f, i⟩ := h.i
  have hc := step_any i k
  rw [he] at hc
  refine hc.mono ?_
  rintro e' w' ⟨rfl, h', g⟩
  exact ⟨rfl, h.fr h' g, g⟩
theorem ws_now (h : Ws w0 w b q) (n : Int) (hn : (q.now : Int) = n) : Calls Try.prog 13 #[.pointer (some ⟨b, 0, none⟩)] w fun e w' => e = .returned (.int .i64 n) ∧ w' = w := by
  subst hn; obtain ⟨f, i⟩ := h.i; exact now_any i
theorem ws_holds (h : Ws w0 w b q) (o : Bool) (ho : q.held = o) : Calls Try.prog 14 #[.pointer (some ⟨b, 0, none⟩)] w fun e w' => e = .returned (.bool o) ∧ w' = w := by
  subst ho; obtain ⟨f, i⟩ := h.i; exact holds_any i
theorem ws_busy (h : Ws w0 w b q) (k : Nat) (hk : k < 8) (o : Bool) (ho : decide (q.th k ≠ .no) = o) : Calls Try.prog 18 #[.pointer (some ⟨b, 0, none⟩), .int .i64 k] w fun e w' => e = .returned (.bool o) ∧ w' = w := by
  obtain ⟨f, i⟩ := h.i
  exact busy_any i k o (by rw [← ho, Int.toNat_natCast, show decide (0 ≤ (k : Int) ∧ (k : Int) < 8) = true from decide_eq_true (by omega), Bool.true_and])
end
def L1 : Q := (begin Q0 0 1).2
def L2 : Q := (step L1 0).2
def L3 : Q := (begin L2 1 0).2
def L4 : Q := (step L3 1).2
def L5 : Q := (step L4 1).2
def L6 : Q := (begin L5 0 2).2
def L7 : Q := (step L6 0).2
def L8 : Q := (step L7 0).2
set_option maxRecDepth 100000 in
set_option maxHeartbeats 2000000 in
theorem lives_any (w : World) : Calls Try.prog 9 #[] w fun e w' => e = .returned (.bool true) ∧ Below w.heap.size w w' := by
  go_enter Try.func9, Try.ntmps9
  go_wp2_with fail
  refine (ws_new (Below.refl _ _)).mono ?_
  rintro e w1 ⟨b, rfl, h0, _, _⟩
  go_wp2_with fail
  refine (ws_now h0 1 rfl).mono ?_
  rintro e w1 ⟨rfl, rfl⟩
  go_wp2_with fail
  refine (ws_begin (q' := L1) h0 0 1 0 rfl).mono ?_
  rintro e w1 ⟨rfl, h1, _⟩
  go_wp2_with fail
  refine (ws_step (q' := L2) h1 0 0 0 rfl).mono ?_
  rintro e w2 ⟨rfl, h2, _⟩
  go_wp2_with fail
  refine (ws_begin (q' := L3) h2 1 0 0 rfl).mono ?_
  rintro e w3 ⟨rfl, h3, _⟩
  go_wp2_with fail
  refine (ws_step (q' := L4) h3 1 (-1) 0 rfl).mono ?_
  rintro e w4 ⟨rfl, h4, _⟩
  go_wp2_with fail
  refine (ws_step (q' := L5) h4 1 0 0 rfl).mono ?_
  rintro e w5 ⟨rfl, h5, _⟩
  go_wp2_with fail
  refine (ws_begin (q' := L6) h5 0 2 0 rfl).mono ?_
  rintro e w6 ⟨rfl, h6, _⟩
  go_wp2_with fail
  refine (ws_step (q' := L7) h6 0 (-1) 0 rfl).mono ?_
  rintro e w7 ⟨rfl, h7, _⟩
  go_wp2_with fail
  refine (ws_step (q' := L8) h7 0 2 0 rfl).mono ?_
  rintro e w8 ⟨rfl, h8, _⟩
  go_wp2_with fail
  refine (ws_holds h8 true rfl).mono ?_
  rintro e w9 ⟨rfl, rfl⟩
  go_wp2_with fail
  refine (ws_now h8 2 rfl).mono ?_
  rintro e w9 ⟨rfl, rfl⟩
  go_wp2
  go_ret
  exact ⟨rfl, h8.bel⟩
theorem begin_nil (k op : Int) (w : World) : Calls Try.prog 11 #[.pointer none, .int .i64 k, .int .i64 op] w fun e w' => e = .returned (.int .i64 1) ∧ w' = w := by
  have hf := first_any k op
  generalize fv (first k op) = fvv at *
  go_enter Try.func11, Try.ntmps11
  go_wp2_with fail
  refine (at_nil k _).mono ?_
  rintro e w' ⟨rfl, rfl⟩
  go_wp2_with fail
  refine (hf _).mono ?_
  rintro e w' ⟨rfl, rfl⟩
  go_wp2
  go_ret
  exact ⟨rfl, rfl⟩
theorem step_nil (k : Int) (w : World) : Calls Try.prog 12 #[.pointer none, .int .i64 k] w fun e w' => e = .returned (.tuple #[.int .i64 0, .int .i64 1]) ∧ w' = w := by
  go_enter Try.func12, Try.ntmps12
  go_wp2_with fail
  refine (at_nil k _).mono ?_
  rintro e w' ⟨rfl, rfl⟩
  go_wp2
  go_ret2
  exact ⟨rfl, rfl⟩
set_option maxRecDepth 100000 in
set_option maxHeartbeats 2000000 in
theorem nil_any (bg : Bool) (t op : Int) (w : World) : Calls Try.prog 8 #[.agg #[.bool bg, .int .i64 t, .int .i64 op]] w fun e w' => e = .returned (.bool true) ∧ Below w.heap.size w w' := by
  have r3 := row_new w #[.bool bg, .int .i64 t, .int .i64 op] 37 3 (fun i => if i = 0 then .bool bg else if i = 1 then .int .i64 t else .int .i64 op) rfl (fun i hi => by match i, hi with | 0, _ => rfl | 1, _ => rfl | 2, _ => rfl)
  have hb0 := (Below.refl w.heap.size w).alloc (Nat.le_refl _) (.cells #[.bool bg, .int .i64 t, .int .i64 op] 37)
  go_enter Try.func8, Try.ntmps8
  go_wp2_with fail
  refine (lives_any _).mono ?_
  rintro e w1 ⟨rfl, g1⟩
  have r3' := row_below r3 g1 r3.lt
  have d1 := row_val r3' (i := 1) (v := .int .i64 t) (by omega) rfl
  have d2 := row_val r3' (i := 2) (v := .int .i64 op) (by omega) rfl
  have hbl := hb0.trans (g1.mono hb0.size)
  clear g1 r3 r3' hb0
  go_wp2_with fail
  refine (step_nil t _).mono ?_
  rintro e w2 ⟨rfl, rfl⟩
  go_wp2_with fail
  refine (begin_nil t op _).mono ?_
  rintro e w2 ⟨rfl, rfl⟩
  go_wp2_with fail
  refine (now_nil _).mono ?_
  rintro e w2 ⟨rfl, rfl⟩
  go_wp2_with fail
  refine (busy_nil t _).mono ?_
  rintro e w2 ⟨rfl, rfl⟩
  go_wp2_with fail
  refine (holds_nil _).mono ?_
  rintro e w2 ⟨rfl, rfl⟩
  go_wp2
  go_ret
  exact ⟨rfl, hbl⟩
end Go.Proofs.Ytildpjgjnfiihaa
