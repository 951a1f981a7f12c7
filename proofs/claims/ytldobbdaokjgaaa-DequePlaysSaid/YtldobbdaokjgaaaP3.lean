/- The deque: more accesses. -/
import Derived.Test.YtldobbdaokjgaaaP2
namespace Go.Proofs.Ytldobbdaokjgaaa
open Go.RowKit
set_option linter.unusedVariables false
set_option linter.unusedSimpArgs false
theorem Fr.new {w w' : World} {S : Nat → Prop} (h : Fr w w' (fun k => S k ∨ w.heap.size ≤ k)) : Fr w w' S :=
  ⟨h.os, h.tape, h.output, h.size, fun k hk n => h.block k hk (fun c => c.elim n (fun c => by omega))⟩
theorem Dq.far {w : World} {b p : Nat} {q : Q} (h : Dq w b p q) {B o : Nat} {v : Value} (h1 : b < B) (h2 : p < B) : Dq (w.setCell ⟨B, o, none⟩ v) b p q :=
  h.frame (fr_b w B o v) (Nat.ne_of_lt h1) (Nat.ne_of_lt h2)
theorem belD (w : World) : Below w.heap.size w w.drew := ⟨rfl, rfl, rfl, Nat.le_refl _, fun _ _ => rfl⟩
theorem Fr.al {x y : World} {S : Nat → Prop} {o : Obj} (h : Fr x y S) : Fr x (y.alloc o) S := h.trans' (fr_alloc _ _ _)
theorem Fr.dn {x y : World} {S : Nat → Prop} {n : Nat} (h : Fr x y S) : Fr x (y.drewN n) S := h.trans' (fr_drewN _ _ _)
theorem Fr.dr {x y : World} {S : Nat → Prop} (h : Fr x y S) : Fr x y.drew S := h.trans' (fr_drew _ _)
theorem Fr.sn {x y : World} {b p N o : Nat} {v : Value} (h : Fr x y (fun k => S2 b p k ∨ N ≤ k)) : Fr x (y.setCell ⟨N, o, none⟩ v) (fun k => S2 b p k ∨ N ≤ k) := h.trans' (fr_set _ _ _ _ _ (.inr (Nat.le_refl _)))
theorem Fr.sb {x y : World} {b p N o : Nat} {v : Value} (h : Fr x y (fun k => S2 b p k ∨ N ≤ k)) : Fr x (y.setCell ⟨b, o, none⟩ v) (fun k => S2 b p k ∨ N ≤ k) := h.trans' (fr_set _ _ _ _ _ (.inl (.inl rfl)))
theorem Fr.sp {x y : World} {b p N o : Nat} {v : Value} (h : Fr x y (fun k => S2 b p k ∨ N ≤ k)) : Fr x (y.setCell ⟨p, o, none⟩ v) (fun k => S2 b p k ∨ N ≤ k) := h.trans' (fr_set _ _ _ _ _ (.inl (.inr rfl)))
section
variable {w w1 : World} {b p : Nat} {q : Q}
set_option maxRecDepth 100000 in
set_option maxHeartbeats 2000000 in
theorem fn44 (h : Dq w b p q) (k : Nat) (hk : k < 8) : Calls Try.prog 44 #[.pointer (some ⟨b, 0, none⟩), .pointer (some ⟨b, 3 + k * 5, none⟩)] w (Fx w b p (act q k (q.th k) .a44)) := by
  have c0 := h.c0
  have c1 := h.c1
  have c2 := h.c2
  have t1 := h.t1 k hk
  have t2 := h.t2 k hk
  have t3 := h.t3 k hk
  have t4 := h.t4 k hk
  have f0 := h.fb 0
  have f1 := h.fb 1
  have g1 := h.fb (3 + k * 5 + 1)
  have g2 := h.fb (3 + k * 5 + 2)
  have g3 := h.fb (3 + k * 5 + 3)
  have g4 := h.fb (3 + k * 5 + 4)
  have hlb := h.s.lt
  have hlp := h.t.lt
  have hne := h.ne
  have hz := zero34
  have H := Lib.hid h
  unfold Fx act
  clear h
  go_enter Try.func44, Try.ntmps44
  go_wp2_with fail
  refine (over_any _ _ _ _).mono ?_
  rintro e w' ⟨rfl, rfl⟩
  go_wp2
  go_returns
  refine ⟨rfl, ?_, ?_⟩
  · (repeat (first | with_reducible refine Dq.far ?_ hlb hlp | with_reducible refine Dq.alloc ?_ _ | with_reducible refine Dq.drewN ?_ _ | with_reducible refine Dq.drew ?_))
    exact H.out.setBot _
  · (refine Fr.new ?_; repeat (first | with_reducible exact Fr.refl _ _ | with_reducible apply Fr.al | with_reducible apply Fr.dn | with_reducible apply Fr.dr | with_reducible apply Fr.sn | with_reducible apply Fr.sb | with_reducible apply Fr.sp))
set_option maxRecDepth 100000 in
set_option maxHeartbeats 2000000 in
theorem fn37 (h : Dq w b p q) (k : Nat) (hk : k < 8) : Calls Try.prog 37 #[.pointer (some ⟨b, 0, none⟩), .pointer (some ⟨b, 3 + k * 5, none⟩)] w (Fx w b p (act q k (q.th k) .a37)) := by
  have c0 := h.c0
  have c1 := h.c1
  have c2 := h.c2
  have t1 := h.t1 k hk
  have t2 := h.t2 k hk
  have t3 := h.t3 k hk
  have t4 := h.t4 k hk
  have f0 := h.fb 0
  have f1 := h.fb 1
  have g1 := h.fb (3 + k * 5 + 1)
  have g2 := h.fb (3 + k * 5 + 2)
  have g3 := h.fb (3 + k * 5 + 3)
  have g4 := h.fb (3 + k * 5 + 4)
  have hlb := h.s.lt
  have hlp := h.t.lt
  have hne := h.ne
  have hz := zero34
  have H := Lib.hid h
  generalize hx : q.th k = x at *
  have HX := Lib.hid hx
  have HA : Hid (x = q.th k) := Lib.hid hx.symm
  clear hx
  by_cases h0 : (q.n : Int) ≤ wrap64 (x.b - q.top)
  · unfold Fx
    have ea : act q k x .a37 = ⟨q, .no, { over := true, op := 0, v := x.v, err := 7 }⟩ := if_pos h0
    rw [ea]
    clear ea h
    go_enter Try.func37, Try.ntmps37
    go_wp2
    go_quiet (fail)
    go_wp2_with fail
    refine (over_any _ _ _ _).mono ?_
    rintro e w' ⟨rfl, rfl⟩
    go_wp2
    go_returns
    refine ⟨rfl, ?_, ?_⟩
    · (repeat (first | with_reducible refine Dq.far ?_ hlb hlp | with_reducible refine Dq.alloc ?_ _ | with_reducible refine Dq.drewN ?_ _ | with_reducible refine Dq.drew ?_))
      exact H.out
    · (refine Fr.new ?_; repeat (first | with_reducible exact Fr.refl _ _ | with_reducible apply Fr.al | with_reducible apply Fr.dn | with_reducible apply Fr.dr | with_reducible apply Fr.sn | with_reducible apply Fr.sb | with_reducible apply Fr.sp))
  · unfold Fx
    have ea : act q k x .a37 = ⟨q, .a41, {}⟩ := if_neg h0
    rw [ea]
    clear ea h
    go_enter Try.func37, Try.ntmps37
    go_wp2
    go_quiet (fail)
    go_wp2
    go_returns
    refine ⟨rfl, ?_, ?_⟩
    · (repeat (first | with_reducible refine Dq.far ?_ hlb hlp | with_reducible refine Dq.alloc ?_ _ | with_reducible refine Dq.drewN ?_ _ | with_reducible refine Dq.drew ?_))
      exact H.out
    · (refine Fr.new ?_; repeat (first | with_reducible exact Fr.refl _ _ | with_reducible apply Fr.al | with_reducible apply Fr.dn | with_reducible apply Fr.dr | with_reducible apply Fr.sn | with_reducible apply Fr.sb | with_reducible apply Fr.sp))
set_option maxRecDepth 100000 in
set_option maxHeartbeats 2000000 in
theorem fn39 (h : Dq w b p q) (k : Nat) (hk : k < 8) : Calls Try.prog 39 #[.pointer (some ⟨b, 0, none⟩), .pointer (some ⟨b, 3 + k * 5, none⟩)] w (Fx w b p (act q k (q.th k) .a39)) := by
  have c0 := h.c0
  have c1 := h.c1
  have c2 := h.c2
  have t1 := h.t1 k hk
  have t2 := h.t2 k hk
  have t3 := h.t3 k hk
  have t4 := h.t4 k hk
  have f0 := h.fb 0
  have f1 := h.fb 1
  have g1 := h.fb (3 + k * 5 + 1)
  have g2 := h.fb (3 + k * 5 + 2)
  have g3 := h.fb (3 + k * 5 + 3)
  have g4 := h.fb (3 + k * 5 + 4)
  have hlb := h.s.lt
  have hlp := h.t.lt
  have hne := h.ne
  have hz := zero34
  have H := Lib.hid h
  generalize hx : q.th k = x at *
  have HX := Lib.hid hx
  clear hx
  by_cases h0 : q.bot ≤ x.t
  · unfold Fx
    have ea : act q k x .a39 = ⟨q, .no, { over := true, op := 2, v := 0, err := 8 }⟩ := if_pos h0
    rw [ea]
    clear ea h
    go_enter Try.func39, Try.ntmps39
    go_wp2
    go_quiet (fail)
    go_wp2_with fail
    refine (over_any _ _ _ _).mono ?_
    rintro e w' ⟨rfl, rfl⟩
    go_wp2
    go_returns
    refine ⟨rfl, ?_, ?_⟩
    · (repeat (first | with_reducible refine Dq.far ?_ hlb hlp | with_reducible refine Dq.alloc ?_ _ | with_reducible refine Dq.drewN ?_ _ | with_reducible refine Dq.drew ?_))
      exact H.out
    · (refine Fr.new ?_; repeat (first | with_reducible exact Fr.refl _ _ | with_reducible apply Fr.al | with_reducible apply Fr.dn | with_reducible apply Fr.dr | with_reducible apply Fr.sn | with_reducible apply Fr.sb | with_reducible apply Fr.sp))
  · unfold Fx
    have ea : act q k x .a39 = ⟨q, .a43, {}⟩ := if_neg h0
    rw [ea]
    clear ea h
    go_enter Try.func39, Try.ntmps39
    go_wp2
    go_quiet (fail)
    go_wp2
    go_returns
    refine ⟨rfl, ?_, ?_⟩
    · (repeat (first | with_reducible refine Dq.far ?_ hlb hlp | with_reducible refine Dq.alloc ?_ _ | with_reducible refine Dq.drewN ?_ _ | with_reducible refine Dq.drew ?_))
      exact H.out
    · (refine Fr.new ?_; repeat (first | with_reducible exact Fr.refl _ _ | with_reducible apply Fr.al | with_reducible apply Fr.dn | with_reducible apply Fr.dr | with_reducible apply Fr.sn | with_reducible apply Fr.sb | with_reducible apply Fr.sp))
set_option maxRecDepth 100000 in
set_option maxHeartbeats 2000000 in
theorem fn45 (h : Dq w b p q) (k : Nat) (hk : k < 8) : Calls Try.prog 45 #[.pointer (some ⟨b, 0, none⟩), .pointer (some ⟨b, 3 + k * 5, none⟩)] w (Fx w b p (act q k (q.th k) .a45)) := by
  have c0 := h.c0
  have c1 := h.c1
  have c2 := h.c2
  have t1 := h.t1 k hk
  have t2 := h.t2 k hk
  have t3 := h.t3 k hk
  have t4 := h.t4 k hk
  have f0 := h.fb 0
  have f1 := h.fb 1
  have g1 := h.fb (3 + k * 5 + 1)
  have g2 := h.fb (3 + k * 5 + 2)
  have g3 := h.fb (3 + k * 5 + 3)
  have g4 := h.fb (3 + k * 5 + 4)
  have hlb := h.s.lt
  have hlp := h.t.lt
  have hne := h.ne
  have hz := zero34
  have H := Lib.hid h
  generalize hx : q.th k = x at *
  have HX := Lib.hid hx
  clear hx
  by_cases h0 : x.win = true
  · have hw := h0
    rw [hw] at t4
    clear hw
    unfold Fx
    have ea : act q k x .a45 = ⟨q.setBot (wrap64 (x.b + 1)), .no, { over := true, op := 1, v := x.v, err := 0 }⟩ := if_pos h0
    rw [ea]
    clear ea h h0
    go_enter Try.func45, Try.ntmps45
    go_wp2_with fail
    refine (over_any _ _ _ _).mono ?_
    rintro e w' ⟨rfl, rfl⟩
    go_wp2
    go_returns
    refine ⟨rfl, ?_, ?_⟩
    · (repeat (first | with_reducible refine Dq.far ?_ hlb hlp | with_reducible refine Dq.alloc ?_ _ | with_reducible refine Dq.drewN ?_ _ | with_reducible refine Dq.drew ?_))
      exact H.out.setBot _
    · (refine Fr.new ?_; repeat (first | with_reducible exact Fr.refl _ _ | with_reducible apply Fr.al | with_reducible apply Fr.dn | with_reducible apply Fr.dr | with_reducible apply Fr.sn | with_reducible apply Fr.sb | with_reducible apply Fr.sp))
  · have hw : x.win = false := by simpa using h0
    rw [hw] at t4
    clear hw
    unfold Fx
    have ea : act q k x .a45 = ⟨q.setBot (wrap64 (x.b + 1)), .no, { over := true, op := 1, v := 0, err := 8 }⟩ := if_neg h0
    rw [ea]
    clear ea h h0
    go_enter Try.func45, Try.ntmps45
    go_wp2_with fail
    refine (over_any _ _ _ _).mono ?_
    rintro e w' ⟨rfl, rfl⟩
    go_wp2
    go_returns
    refine ⟨rfl, ?_, ?_⟩
    · (repeat (first | with_reducible refine Dq.far ?_ hlb hlp | with_reducible refine Dq.alloc ?_ _ | with_reducible refine Dq.drewN ?_ _ | with_reducible refine Dq.drew ?_))
      exact H.out.setBot _
    · (refine Fr.new ?_; repeat (first | with_reducible exact Fr.refl _ _ | with_reducible apply Fr.al | with_reducible apply Fr.dn | with_reducible apply Fr.dr | with_reducible apply Fr.sn | with_reducible apply Fr.sb | with_reducible apply Fr.sp))
set_option maxRecDepth 100000 in
set_option maxHeartbeats 2000000 in
theorem fn47 (h : Dq w b p q) (k : Nat) (hk : k < 8) : Calls Try.prog 47 #[.pointer (some ⟨b, 0, none⟩), .pointer (some ⟨b, 3 + k * 5, none⟩)] w (Fx w b p (act q k (q.th k) .a47)) := by
  have c0 := h.c0
  have c1 := h.c1
  have c2 := h.c2
  have t1 := h.t1 k hk
  have t2 := h.t2 k hk
  have t3 := h.t3 k hk
  have t4 := h.t4 k hk
  have f0 := h.fb 0
  have f1 := h.fb 1
  have g1 := h.fb (3 + k * 5 + 1)
  have g2 := h.fb (3 + k * 5 + 2)
  have g3 := h.fb (3 + k * 5 + 3)
  have g4 := h.fb (3 + k * 5 + 4)
  have hlb := h.s.lt
  have hlp := h.t.lt
  have hne := h.ne
  have hz := zero34
  have H := Lib.hid h
  generalize hx : q.th k = x at *
  have HX := Lib.hid hx
  by_cases h0 : q.top = x.t
  · have HP := Lib.hid (win_yes (h.alloc (.cells #[.bool false, .int .i64 0, .int .i64 0, .int .i64 0] 34)) k hk (by rw [hx]; exact h0))
    clear hx
    unfold Fx
    have ea : act q k x .a47 = ⟨q.setTop (wrap64 (q.top + 1)), .no, { over := true, op := 2, v := x.v, err := 0 }⟩ := if_pos h0
    rw [ea]
    clear ea h h0
    go_enter Try.func47, Try.ntmps47
    go_wp2_with fail
    refine HP.out.mono ?_
    rintro e w' ⟨rfl, m, rfl⟩
    go_wp2_with fail
    refine (over_any _ _ _ _).mono ?_
    rintro e w' ⟨rfl, rfl⟩
    go_wp2
    go_returns
    refine ⟨rfl, ?_, ?_⟩
    · (repeat (first | with_reducible refine Dq.far ?_ hlb hlp | with_reducible refine Dq.alloc ?_ _ | with_reducible refine Dq.drewN ?_ _ | with_reducible refine Dq.drew ?_))
      exact ((H.out.alloc _).drewN m).setTop _
    · (refine Fr.new ?_; repeat (first | with_reducible exact Fr.refl _ _ | with_reducible apply Fr.al | with_reducible apply Fr.dn | with_reducible apply Fr.dr | with_reducible apply Fr.sn | with_reducible apply Fr.sb | with_reducible apply Fr.sp))
  · have HP := Lib.hid (win_no (h.alloc (.cells #[.bool false, .int .i64 0, .int .i64 0, .int .i64 0] 34)) k hk (by rw [hx]; exact h0))
    clear hx
    unfold Fx
    have ea : act q k x .a47 = ⟨q, .no, { over := true, op := 2, v := 0, err := 17 }⟩ := if_neg h0
    rw [ea]
    clear ea h h0
    go_enter Try.func47, Try.ntmps47
    go_wp2_with fail
    refine HP.out.mono ?_
    rintro e w' ⟨rfl, m, rfl⟩
    go_wp2_with fail
    refine (over_any _ _ _ _).mono ?_
    rintro e w' ⟨rfl, rfl⟩
    go_wp2
    go_returns
    refine ⟨rfl, ?_, ?_⟩
    · (repeat (first | with_reducible refine Dq.far ?_ hlb hlp | with_reducible refine Dq.alloc ?_ _ | with_reducible refine Dq.drewN ?_ _ | with_reducible refine Dq.drew ?_))
      exact H.out
    · (refine Fr.new ?_; repeat (first | with_reducible exact Fr.refl _ _ | with_reducible apply Fr.al | with_reducible apply Fr.dn | with_reducible apply Fr.dr | with_reducible apply Fr.sn | with_reducible apply Fr.sb | with_reducible apply Fr.sp))
set_option maxRecDepth 100000 in
set_option maxHeartbeats 2000000 in
theorem fn48 (h : Dq w b p q) (k : Nat) (hk : k < 8) : Calls Try.prog 48 #[.pointer (some ⟨b, 0, none⟩), .pointer (some ⟨b, 3 + k * 5, none⟩)] w (Fx w b p (act q k (q.th k) .a48)) := by
  have c0 := h.c0
  have c1 := h.c1
  have c2 := h.c2
  have t1 := h.t1 k hk
  have t2 := h.t2 k hk
  have t3 := h.t3 k hk
  have t4 := h.t4 k hk
  have f0 := h.fb 0
  have f1 := h.fb 1
  have g1 := h.fb (3 + k * 5 + 1)
  have g2 := h.fb (3 + k * 5 + 2)
  have g3 := h.fb (3 + k * 5 + 3)
  have g4 := h.fb (3 + k * 5 + 4)
  have hlb := h.s.lt
  have hlp := h.t.lt
  have hne := h.ne
  have hz := zero34
  have H := Lib.hid h
  by_cases h0 : q.top = (q.th k).t
  · have HP := Lib.hid (win_yes (h.alloc (.cells #[.bool false, .int .i64 0, .int .i64 0, .int .i64 0] 34)) k hk h0)
    unfold Fx
    have ea : act q k (q.th k) .a48 = ⟨(q.setTop (wrap64 (q.top + 1))).setT k ((q.th k).setW true), .a45, {}⟩ := if_pos h0
    rw [ea]
    clear ea h h0
    go_enter Try.func48, Try.ntmps48
    go_wp2_with fail
    refine HP.out.mono ?_
    rintro e w' ⟨rfl, m, rfl⟩
    go_wp2
    go_returns
    refine ⟨rfl, ?_, ?_⟩
    · (repeat (first | with_reducible refine Dq.far ?_ hlb hlp | with_reducible refine Dq.alloc ?_ _ | with_reducible refine Dq.drewN ?_ _ | with_reducible refine Dq.drew ?_))
      exact (((H.out.alloc _).drewN m).setTop _).fW k hk true
    · (refine Fr.new ?_; repeat (first | with_reducible exact Fr.refl _ _ | with_reducible apply Fr.al | with_reducible apply Fr.dn | with_reducible apply Fr.dr | with_reducible apply Fr.sn | with_reducible apply Fr.sb | with_reducible apply Fr.sp))
  · have HP := Lib.hid (win_no (h.alloc (.cells #[.bool false, .int .i64 0, .int .i64 0, .int .i64 0] 34)) k hk h0)
    unfold Fx
    have ea : act q k (q.th k) .a48 = ⟨q.setT k ((q.th k).setW false), .a45, {}⟩ := if_neg h0
    rw [ea]
    clear ea h h0
    go_enter Try.func48, Try.ntmps48
    go_wp2_with fail
    refine HP.out.mono ?_
    rintro e w' ⟨rfl, m, rfl⟩
    go_wp2
    go_returns
    refine ⟨rfl, ?_, ?_⟩
    · (repeat (first | with_reducible refine Dq.far ?_ hlb hlp | with_reducible refine Dq.alloc ?_ _ | with_reducible refine Dq.drewN ?_ _ | with_reducible refine Dq.drew ?_))
      exact ((H.out.alloc _).drewN m).fW k hk false
    · (refine Fr.new ?_; repeat (first | with_reducible exact Fr.refl _ _ | with_reducible apply Fr.al | with_reducible apply Fr.dn | with_reducible apply Fr.dr | with_reducible apply Fr.sn | with_reducible apply Fr.sb | with_reducible apply Fr.sp))
set_option maxRecDepth 100000 in
set_option maxHeartbeats 2000000 in
theorem fn42 (h : Dq w b p q) (k : Nat) (hk : k < 8) : Calls Try.prog 42 #[.pointer (some ⟨b, 0, none⟩), .pointer (some ⟨b, 3 + k * 5, none⟩)] w (Fx w b p (act q k (q.th k) .a42)) := by
  have c0 := h.c0
  have c1 := h.c1
  have c2 := h.c2
  have t1 := h.t1 k hk
  have t2 := h.t2 k hk
  have t3 := h.t3 k hk
  have t4 := h.t4 k hk
  have f0 := h.fb 0
  have f1 := h.fb 1
  have g1 := h.fb (3 + k * 5 + 1)
  have g2 := h.fb (3 + k * 5 + 2)
  have g3 := h.fb (3 + k * 5 + 3)
  have g4 := h.fb (3 + k * 5 + 4)
  have hlb := h.s.lt
  have hlp := h.t.lt
  have hne := h.ne
  have hz := zero34
  have H := Lib.hid h
  by_cases h0 : (q.th k).b < q.top
  · unfold Fx
    have ea : act q k (q.th k) .a42 = ⟨q.setT k ((q.th k).setT q.top), .a45, {}⟩ := if_pos h0
    rw [ea]
    clear ea h
    go_enter Try.func42, Try.ntmps42
    go_wp2
    go_quiet (fail)
    go_wp2
    go_returns
    refine ⟨rfl, ?_, ?_⟩
    · (repeat (first | with_reducible refine Dq.far ?_ hlb hlp | with_reducible refine Dq.alloc ?_ _ | with_reducible refine Dq.drewN ?_ _ | with_reducible refine Dq.drew ?_))
      exact H.out.fT k hk _
    · (refine Fr.new ?_; repeat (first | with_reducible exact Fr.refl _ _ | with_reducible apply Fr.al | with_reducible apply Fr.dn | with_reducible apply Fr.dr | with_reducible apply Fr.sn | with_reducible apply Fr.sb | with_reducible apply Fr.sp))
  · unfold Fx
    have ea : act q k (q.th k) .a42 = ⟨q.setT k ((q.th k).setT q.top), .a46, {}⟩ := if_neg h0
    rw [ea]
    clear ea h
    go_enter Try.func42, Try.ntmps42
    go_wp2
    go_quiet (fail)
    go_wp2
    go_returns
    refine ⟨rfl, ?_, ?_⟩
    · (repeat (first | with_reducible refine Dq.far ?_ hlb hlp | with_reducible refine Dq.alloc ?_ _ | with_reducible refine Dq.drewN ?_ _ | with_reducible refine Dq.drew ?_))
      exact H.out.fT k hk _
    · (refine Fr.new ?_; repeat (first | with_reducible exact Fr.refl _ _ | with_reducible apply Fr.al | with_reducible apply Fr.dn | with_reducible apply Fr.dr | with_reducible apply Fr.sn | with_reducible apply Fr.sb | with_reducible apply Fr.sp))
set_option maxRecDepth 100000 in
set_option maxHeartbeats 2000000 in
theorem fn41 (h : Dq w b p q) (k : Nat) (hk : k < 8) : Calls Try.prog 41 #[.pointer (some ⟨b, 0, none⟩), .pointer (some ⟨b, 3 + k * 5, none⟩)] w (Fx w b p (act q k (q.th k) .a41)) := by
  have c0 := h.c0
  have c1 := h.c1
  have c2 := h.c2
  have t1 := h.t1 k hk
  have t2 := h.t2 k hk
  have t3 := h.t3 k hk
  have t4 := h.t4 k hk
  have f0 := h.fb 0
  have f1 := h.fb 1
  have g1 := h.fb (3 + k * 5 + 1)
  have g2 := h.fb (3 + k * 5 + 2)
  have g3 := h.fb (3 + k * 5 + 3)
  have g4 := h.fb (3 + k * 5 + 4)
  have hlb := h.s.lt
  have hlp := h.t.lt
  have hne := h.ne
  have hz := zero34
  have H := Lib.hid h
  have HP := Lib.hid (fun (W1 : World) (hb : W1.heap = (w.alloc (.cells #[.bool false, .int .i64 0, .int .i64 0, .int .i64 0] 34)).heap) => place_any ((h.alloc (.cells #[.bool false, .int .i64 0, .int .i64 0, .int .i64 0] 34)).same hb) (q.th k).b)
  have HD := Lib.hid ((h.alloc (.cells #[.bool false, .int .i64 0, .int .i64 0, .int .i64 0] 34)).drew)
  have d3 := HD.out.t3 k hk
  have d2 := HD.out.t2 k hk
  have d1 := HD.out.t1 k hk
  have hlt := plc_lt (q.th k).b q.n h.n1
  have fp := h.fp (plc (q.th k).b q.n)
  have fc := h.cp (plc (q.th k).b q.n) hlt
  unfold Fx act
  clear h
  go_enter Try.func41, Try.ntmps41
  go_wp2
  go_region_with (go_at_call 27; refine (HP.out _ (by rfl)).mono ?_; rintro e W1 ⟨rfl, m, rfl⟩)
  all_goals
    go_wp2
    go_returns
    refine ⟨rfl, ?_, ?_⟩
    · (repeat (first | with_reducible refine Dq.far ?_ hlb hlp | with_reducible refine Dq.alloc ?_ _ | with_reducible refine Dq.drewN ?_ _ | with_reducible refine Dq.drew ?_))
      exact ((H.out.alloc _).drewN _).setPl _ _
    · (refine Fr.new ?_; repeat (first | with_reducible exact Fr.refl _ _ | with_reducible apply Fr.al | with_reducible apply Fr.dn | with_reducible apply Fr.dr | with_reducible apply Fr.sn | with_reducible apply Fr.sb | with_reducible apply Fr.sp))
set_option maxRecDepth 100000 in
set_option maxHeartbeats 2000000 in
theorem fn43 (h : Dq w b p q) (k : Nat) (hk : k < 8) : Calls Try.prog 43 #[.pointer (some ⟨b, 0, none⟩), .pointer (some ⟨b, 3 + k * 5, none⟩)] w (Fx w b p (act q k (q.th k) .a43)) := by
  have c0 := h.c0
  have c1 := h.c1
  have c2 := h.c2
  have t1 := h.t1 k hk
  have t2 := h.t2 k hk
  have t3 := h.t3 k hk
  have t4 := h.t4 k hk
  have f0 := h.fb 0
  have f1 := h.fb 1
  have g1 := h.fb (3 + k * 5 + 1)
  have g2 := h.fb (3 + k * 5 + 2)
  have g3 := h.fb (3 + k * 5 + 3)
  have g4 := h.fb (3 + k * 5 + 4)
  have hlb := h.s.lt
  have hlp := h.t.lt
  have hne := h.ne
  have hz := zero34
  have H := Lib.hid h
  have HP := Lib.hid (fun (W1 : World) (hb : W1.heap = (w.alloc (.cells #[.bool false, .int .i64 0, .int .i64 0, .int .i64 0] 34)).heap) => place_any ((h.alloc (.cells #[.bool false, .int .i64 0, .int .i64 0, .int .i64 0] 34)).same hb) (q.th k).t)
  have HD := Lib.hid ((h.alloc (.cells #[.bool false, .int .i64 0, .int .i64 0, .int .i64 0] 34)).drew)
  have d3 := HD.out.t3 k hk
  have d2 := HD.out.t2 k hk
  have d1 := HD.out.t1 k hk
  have hlt := plc_lt (q.th k).t q.n h.n1
  have fp := h.fp (plc (q.th k).t q.n)
  have fc := h.cp (plc (q.th k).t q.n) hlt
  unfold Fx act
  clear h
  go_enter Try.func43, Try.ntmps43
  go_wp2_with fail
  refine (HP.out _ rfl).mono ?_
  rintro e W1 ⟨rfl, m, rfl⟩
  go_wp2
  go_returns
  refine ⟨rfl, ?_, ?_⟩
  · (repeat (first | with_reducible refine Dq.far ?_ hlb hlp | with_reducible refine Dq.alloc ?_ _ | with_reducible refine Dq.drewN ?_ _ | with_reducible refine Dq.drew ?_))
    exact (((H.out.alloc _).drewN _).fV k hk _)
  · (refine Fr.new ?_; repeat (first | with_reducible exact Fr.refl _ _ | with_reducible apply Fr.al | with_reducible apply Fr.dn | with_reducible apply Fr.dr | with_reducible apply Fr.sn | with_reducible apply Fr.sb | with_reducible apply Fr.sp))
set_option maxRecDepth 100000 in
set_option maxHeartbeats 2000000 in
theorem fn46 (h : Dq w b p q) (k : Nat) (hk : k < 8) : Calls Try.prog 46 #[.pointer (some ⟨b, 0, none⟩), .pointer (some ⟨b, 3 + k * 5, none⟩)] w (Fx w b p (act q k (q.th k) .a46)) := by
  have c0 := h.c0
  have c1 := h.c1
  have c2 := h.c2
  have t1 := h.t1 k hk
  have t2 := h.t2 k hk
  have t3 := h.t3 k hk
  have t4 := h.t4 k hk
  have f0 := h.fb 0
  have f1 := h.fb 1
  have g1 := h.fb (3 + k * 5 + 1)
  have g2 := h.fb (3 + k * 5 + 2)
  have g3 := h.fb (3 + k * 5 + 3)
  have g4 := h.fb (3 + k * 5 + 4)
  have hlb := h.s.lt
  have hlp := h.t.lt
  have hne := h.ne
  have hz := zero34
  have H := Lib.hid h
  have HP := Lib.hid (fun (W1 : World) (hb : W1.heap = (w.alloc (.cells #[.bool false, .int .i64 0, .int .i64 0, .int .i64 0] 34)).heap) => place_any ((h.alloc (.cells #[.bool false, .int .i64 0, .int .i64 0, .int .i64 0] 34)).same hb) (q.th k).b)
  have HD := Lib.hid ((h.alloc (.cells #[.bool false, .int .i64 0, .int .i64 0, .int .i64 0] 34)).drew)
  have d3 := HD.out.t3 k hk
  have d2 := HD.out.t2 k hk
  have d1 := HD.out.t1 k hk
  have hlt := plc_lt (q.th k).b q.n h.n1
  have fp := h.fp (plc (q.th k).b q.n)
  have fc := h.cp (plc (q.th k).b q.n) hlt
  by_cases h0 : (q.th k).t < (q.th k).b
  · unfold Fx
    have ea : act q k (q.th k) .a46 = ⟨q.setT k ((q.th k).setV (q.pl (plc (q.th k).b q.n))), .no, { over := true, op := 1, v := q.pl (plc (q.th k).b q.n), err := 0 }⟩ := if_pos h0
    rw [ea]
    clear ea h
    go_enter Try.func46, Try.ntmps46
    go_wp2_with fail
    refine (HP.out _ rfl).mono ?_
    rintro e W1 ⟨rfl, m, rfl⟩
    go_wp2
    go_quiet (fail)
    go_wp2_with fail
    refine (over_any _ _ _ _).mono ?_
    rintro e w' ⟨rfl, rfl⟩
    go_wp2
    go_returns
    refine ⟨rfl, ?_, ?_⟩
    · (repeat (first | with_reducible refine Dq.far ?_ hlb hlp | with_reducible refine Dq.alloc ?_ _ | with_reducible refine Dq.drewN ?_ _ | with_reducible refine Dq.drew ?_))
      exact (((H.out.alloc _).drewN _).fV k hk _)
    · (refine Fr.new ?_; repeat (first | with_reducible exact Fr.refl _ _ | with_reducible apply Fr.al | with_reducible apply Fr.dn | with_reducible apply Fr.dr | with_reducible apply Fr.sn | with_reducible apply Fr.sb | with_reducible apply Fr.sp))
  · unfold Fx
    have ea : act q k (q.th k) .a46 = ⟨q.setT k ((q.th k).setV (q.pl (plc (q.th k).b q.n))), .a48, {}⟩ := if_neg h0
    rw [ea]
    clear ea h
    go_enter Try.func46, Try.ntmps46
    go_wp2_with fail
    refine (HP.out _ rfl).mono ?_
    rintro e W1 ⟨rfl, m, rfl⟩
    go_wp2
    go_quiet (fail)
    go_wp2
    go_returns
    refine ⟨rfl, ?_, ?_⟩
    · (repeat (first | with_reducible refine Dq.far ?_ hlb hlp | with_reducible refine Dq.alloc ?_ _ | with_reducible refine Dq.drewN ?_ _ | with_reducible refine Dq.drew ?_))
      exact (((H.out.alloc _).drewN _).fV k hk _)
    · (refine Fr.new ?_; repeat (first | with_reducible exact Fr.refl _ _ | with_reducible apply Fr.al | with_reducible apply Fr.dn | with_reducible apply Fr.dr | with_reducible apply Fr.sn | with_reducible apply Fr.sb | with_reducible apply Fr.sp))
end
end Go.Proofs.Ytldobbdaokjgaaa
