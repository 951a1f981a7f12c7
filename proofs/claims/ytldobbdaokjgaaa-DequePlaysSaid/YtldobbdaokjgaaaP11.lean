/- The deque behind a first world; lives; DequeNil's walk; the laws' thread and next. -/
import Derived.Test.YtldobbdaokjgaaaP10
namespace Go.Proofs.Ytldobbdaokjgaaa
open Go.RowKit Go.ChangeShapes Go.WideShapes Go.Deep
set_option linter.unusedVariables false
set_option linter.unusedSimpArgs false
structure Ds (w0 w : World) (b p : Nat) (q : Q) : Prop where
  i : Dq w b p q
  bel : Below w0.heap.size w0 w
  lo : w0.heap.size ≤ b
  lp : w0.heap.size ≤ p
section
variable {w0 w w1 : World} {b p : Nat} {q q' : Q}
theorem Ds.lt (h : Ds w0 w b p q) : b < w.heap.size ∧ p < w.heap.size := ⟨h.i.s.lt, h.i.t.lt⟩
theorem Ds.below (h : Ds w0 w b p q) (g : Below w.heap.size w w1) : Ds w0 w1 b p q := ⟨h.i.below g, h.bel.trans (g.mono h.bel.size), h.lo, h.lp⟩
theorem Ds.alloc (h : Ds w0 w b p q) (o : Obj) : Ds w0 (w.alloc o) b p q := h.below ((Below.refl w.heap.size w).alloc (Nat.le_refl _) o)
theorem Ds.far (h : Ds w0 w b p q) (B o : Nat) (v : Value) (h1 : b ≠ B) (h2 : p ≠ B) (h3 : w0.heap.size ≤ B) : Ds w0 (w.setCell ⟨B, o, none⟩ v) b p q :=
  ⟨h.i.frame (fr_b w B o v) h1 h2, h.bel.trans ((fr_b w B o v).below h.bel.size (fun k e => by rw [e]; exact h3)), h.lo, h.lp⟩
theorem Ds.fr (h : Ds w0 w b p q) (i : Dq w1 b p q') (g : Fr w w1 (S2 b p)) : Ds w0 w1 b p q' := ⟨i, h.bel.trans (g.below h.bel.size (fun k e => by rcases e with e | e <;> rw [e]; exact h.lo; exact h.lp)), h.lo, h.lp⟩
theorem Ds.drew (h : Ds w0 w b p q) (m : Nat) : Ds w0 (w.drewN m) b p q := ⟨h.i.drewN m, h.bel.trans ((fr_drewN w (fun _ => False) m).below h.bel.size (fun k e => e.elim)), h.lo, h.lp⟩
theorem ds_new (hb : Below w0.heap.size w0 w) (s : Int) : Calls Try.prog 10 #[.int .i64 s] w fun e w' => ∃ b p, e = .returned (.pointer (some ⟨b, 0, none⟩)) ∧ Ds w0 w' b p (Q0 (capN s)) ∧ Fr w w' (fun _ => False) ∧ w.heap.size ≤ b ∧ w.heap.size ≤ p := by
  refine (new_any s w).mono ?_
  rintro e w' ⟨rfl, h, g⟩
  have := hb.size
  exact ⟨_, _, rfl, ⟨h, hb.trans (g.below hb.size (fun k e => e.elim)), by omega, by omega⟩, g, by omega, by omega⟩
theorem ds_begin (h : Ds w0 w b p q) (k op v e : Int) (he : begin q k op v = (e, q')) : Calls Try.prog 17 #[.pointer (some ⟨b, 0, none⟩), .int .i64 k, .int .i64 op, .int .i64 v] w fun e' w' => e' = .returned (.int .i64 e) ∧ Ds w0 w' b p q' ∧ Fr w w' (S2 b p) := by
  have hc := begin_any h.i k op v
  rw [he] at hc
  refine hc.mono ?_
  rintro e' w' ⟨rfl, h', g⟩
  exact ⟨rfl, h.fr h' g, g⟩
theorem ds_step (h : Ds w0 w b p q) (k : Int) (o : Bool) (x v r e : Int) (he : step q k = (({ over := o, op := x, v := v, err := r }, e), q')) : Calls Try.prog 14 #[.pointer (some ⟨b, 0, none⟩), .int .i64 k] w fun e' w' => e' = .returned (.tuple #[.agg #[.bool o, .int .i64 x, .int .i64 v, .int .i64 r], .int .i64 e]) ∧ Ds w0 w' b p q' ∧ Fr w w' (S2 b p) := by
  have hc := step_any h.i k
  rw [he] at hc
  refine hc.mono ?_
  rintro e' w' ⟨rfl, h', g⟩
  exact ⟨rfl, h.fr h' g, g⟩
theorem ds_top (h : Ds w0 w b p q) (n : Int) (hn : q.top = n) : Calls Try.prog 22 #[.pointer (some ⟨b, 0, none⟩)] w fun e w' => e = .returned (.int .i64 n) ∧ w' = w := by
  subst hn; exact top_any h.i
theorem ds_bot (h : Ds w0 w b p q) (n : Int) (hn : q.bot = n) : Calls Try.prog 23 #[.pointer (some ⟨b, 0, none⟩)] w fun e w' => e = .returned (.int .i64 n) ∧ w' = w := by
  subst hn; exact bot_any h.i
theorem ds_busy (h : Ds w0 w b p q) (k : Nat) (hk : k < 8) (o : Bool) (ho : decide ((q.th k).nx ≠ .no) = o) : Calls Try.prog 13 #[.pointer (some ⟨b, 0, none⟩), .int .i64 k] w fun e w' => e = .returned (.bool o) ∧ w' = w := by
  exact busy_any h.i k o (by rw [← ho, Int.toNat_natCast, show decide (0 ≤ (k : Int) ∧ (k : Int) < 8) = true from decide_eq_true (by omega), Bool.true_and])
theorem ds_items (h : Ds w0 w b p q) (l : List Int) (hl : items q = l) (h0 : 0 ≤ q.top) (h1 : q.bot ≤ 1000000000000000000) (hd : q.bot - q.top ≤ 64) :
    Calls Try.prog 16 #[.pointer (some ⟨b, 0, none⟩)] w fun e w' => ∃ a cap, e = .returned (.slice a l.length cap) ∧ Own w' w.heap.size (.slice a l.length cap) l ∧ Ds w0 w' b p q ∧ Below w.heap.size w w' := by
  subst hl
  refine (items_any h.i h0 h1 hd).mono ?_
  rintro e w' ⟨v, rfl, ho, hb⟩
  obtain ⟨a, cap, rfl⟩ := own_slice ho
  exact ⟨a, cap, rfl, ho, h.below hb, hb⟩
end
def L1 : Q := (begin (Q0 2) 0 0 5).2
def L2 : Q := (step L1 0).2
def L3 : Q := (step L2 0).2
def L4 : Q := (step L3 0).2
def L5 : Q := (step L4 0).2
theorem eq_push (w : World) : (binOp .eql 34 (.agg #[.bool true, .int .i64 0, .int .i64 5, .int .i64 0]) (.agg #[.bool true, .int .i64 0, .int .i64 5, .int .i64 0])).run Try.prog w = .ok (.bool true) w := by kernel_rfl
theorem eq_zero (w : World) : (binOp .eql 34 (.agg #[.bool false, .int .i64 0, .int .i64 0, .int .i64 0]) (.agg #[.bool false, .int .i64 0, .int .i64 0, .int .i64 0])).run Try.prog w = .ok (.bool true) w := by kernel_rfl
theorem items5 : items L5 = [5] := by kernel_rfl
theorem st2 : step L1 0 = (({ over := false, op := 0, v := 0, err := 0 }, 0), L2) := by kernel_rfl
theorem st3 : step L2 0 = (({ over := false, op := 0, v := 0, err := 0 }, 0), L3) := by kernel_rfl
theorem st4 : step L3 0 = (({ over := false, op := 0, v := 0, err := 0 }, 0), L4) := by kernel_rfl
theorem st5 : step L4 0 = (({ over := true, op := 0, v := 5, err := 0 }, 0), L5) := by kernel_rfl
theorem l5 : L5.top = 0 ∧ L5.bot = 1 := ⟨by kernel_rfl, by kernel_rfl⟩
set_option maxRecDepth 100000 in
set_option maxHeartbeats 4000000 in
theorem lives_any (w : World) : Calls Try.prog 9 #[] w fun e w' => e = .returned (.bool true) ∧ Below w.heap.size w w' := by
  have hz := zero34
  have hq := eq_push
  go_enter Try.func9, Try.ntmps9
  go_wp2_with fail
  refine (ds_new (Below.refl _ _) 2).mono ?_
  rintro e w1 ⟨b, p, rfl, h0, _⟩
  go_wp2_with fail
  refine (ds_begin (q' := L1) h0 0 0 5 0 rfl).mono ?_
  rintro e w1 ⟨rfl, h1, _⟩
  go_wp2_with fail
  refine wp_loop_rounds 4 ?_
  rw [rounds_succ]
  go_wp2_with fail
  refine (ds_step (q' := L2) h1 0 false 0 0 0 0 st2).mono ?_
  rintro e w2 ⟨rfl, h2, _⟩
  have k2 := h2.alloc (.cells #[.bool false, .int .i64 0, .int .i64 0, .int .i64 0] 34)
  clear h0 h1 h2
  go_wp2_with fail
  rw [rounds_succ]
  go_wp2_with fail
  refine (ds_step (q' := L3) k2 0 false 0 0 0 0 st3).mono ?_
  rintro e w3 ⟨rfl, h3, _⟩
  have k3 := h3.alloc (.cells #[.bool false, .int .i64 0, .int .i64 0, .int .i64 0] 34)
  clear k2 h3
  go_wp2_with fail
  rw [rounds_succ]
  go_wp2_with fail
  refine (ds_step (q' := L4) k3 0 false 0 0 0 0 st4).mono ?_
  rintro e w4 ⟨rfl, h4, _⟩
  have k4 := h4.alloc (.cells #[.bool false, .int .i64 0, .int .i64 0, .int .i64 0] 34)
  clear k3 h4
  go_wp2_with fail
  rw [rounds_succ]
  go_wp2_with fail
  refine (ds_step (q' := L5) k4 0 true 0 5 0 0 st5).mono ?_
  rintro e w5 ⟨rfl, h5, _⟩
  have k5 := h5.alloc (.cells #[.bool true, .int .i64 0, .int .i64 5, .int .i64 0] 34)
  clear k4 h5
  go_wp2_with fail
  refine (ds_bot k5 1 l5.2).mono ?_
  rintro e w6 ⟨rfl, rfl⟩
  go_wp2_with fail
  refine (ds_top k5 0 l5.1).mono ?_
  rintro e w6 ⟨rfl, rfl⟩
  go_wp2_with fail
  refine (ds_items k5 [5] items5 (by rw [l5.1]; decide) (by rw [l5.2]; decide) (by rw [l5.1, l5.2]; decide)).mono ?_
  rintro e w7 ⟨a, cap, rfl, _, k7, _⟩
  go_wp2
  go_ret
  exact ⟨rfl, k7.bel⟩
set_option maxRecDepth 100000 in
set_option maxHeartbeats 4000000 in
theorem nil_any (bg : Bool) (t op v : Int) (w : World) : Calls Try.prog 8 #[.agg #[.bool bg, .int .i64 t, .int .i64 op, .int .i64 v]] w fun e w' => e = .returned (.bool true) ∧ Below w.heap.size w w' := by
  have hz := zero34
  have hq := eq_zero
  have r3 := row_new w #[.bool bg, .int .i64 t, .int .i64 op, .int .i64 v] 50 4 (fun i => if i = 0 then .bool bg else if i = 1 then .int .i64 t else if i = 2 then .int .i64 op else .int .i64 v) rfl (fun i hi => by match i, hi with | 0, _ => rfl | 1, _ => rfl | 2, _ => rfl | 3, _ => rfl)
  have hb0 := (Below.refl w.heap.size w).alloc (Nat.le_refl _) (.cells #[.bool bg, .int .i64 t, .int .i64 op, .int .i64 v] 50)
  go_enter Try.func8, Try.ntmps8
  go_wp2_with fail
  refine (lives_any _).mono ?_
  rintro e w1 ⟨rfl, g1⟩
  have r3' := row_below r3 g1 r3.lt
  have d1 := row_val r3' (i := 1) (v := .int .i64 t) (by omega) rfl
  have hbl := hb0.trans (g1.mono hb0.size)
  have R := Lib.hid r3'
  clear g1 r3 r3' hb0
  go_wp2_with fail
  refine (step_nil t _).mono ?_
  rintro e w2 ⟨rfl, g2⟩
  have hb2 := hbl.trans (g2.mono hbl.size)
  have r4 := (row_below R.out g2 R.out.lt).alloc (.cells #[.bool false, .int .i64 0, .int .i64 0, .int .i64 0] 34)
  have e1 := row_val r4 (i := 1) (v := .int .i64 t) (by omega) rfl
  have e2 := row_val r4 (i := 2) (v := .int .i64 op) (by omega) rfl
  have e3 := row_val r4 (i := 3) (v := .int .i64 v) (by omega) rfl
  have hb3 := Lib.hid (hb2.alloc hb2.size (.cells #[.bool false, .int .i64 0, .int .i64 0, .int .i64 0] 34))
  clear r4 g2 d1 hbl hb2 R
  unfold dv
  go_wp2_with fail
  refine (begin_nil t op v _).mono ?_
  rintro e w3 ⟨rfl, rfl⟩
  go_wp2_with fail
  refine (top_nil _).mono ?_
  rintro e w3 ⟨rfl, rfl⟩
  go_wp2_with fail
  refine (bot_nil _).mono ?_
  rintro e w3 ⟨rfl, rfl⟩
  go_wp2_with fail
  refine (size_nil _).mono ?_
  rintro e w3 ⟨rfl, rfl⟩
  go_wp2_with fail
  refine (busy_nil t _).mono ?_
  rintro e w3 ⟨rfl, rfl⟩
  go_wp2_with fail
  refine (items_nil _).mono ?_
  rintro e w3 ⟨rfl, rfl⟩
  go_wp2
  go_ret
  exact ⟨rfl, hb3.out⟩
end Go.Proofs.Ytldobbdaokjgaaa
