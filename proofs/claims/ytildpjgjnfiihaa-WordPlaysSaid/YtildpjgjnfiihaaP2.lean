/- The word: the other accesses. -/
import Derived.Test.YtildpjgjnfiihaaP1
namespace Go.Proofs.Ytildpjgjnfiihaa
open Go.RowKit
set_option linter.unusedVariables false
set_option linter.unusedSimpArgs false
section
variable {w w1 : World} {b now : Nat} {held : Bool} {f : Nat → Value} {v : Value} {x : Nx} {q : Q}
theorem fr_b (w : World) (b o : Nat) (v : Value) : Fr w (w.setCell ⟨b, o, none⟩ v) (fun k => k = b) := fr_set w _ b o v rfl
theorem fn_start (h : Wb w b now held f) : Calls Try.prog 26 #[.pointer (some ⟨b, 0, none⟩)] w (Fx w b now held f .start) := by
  have H := Lib.hid h
  by_cases h0 : now = 1
  · subst h0
    have hs := Lib.hid (swap_yes h 1 2 rfl)
    have c1 := h.c1
    have f1 := h.fz 1
    clear h
    go_enter Try.func26, Try.ntmps26
    go_wp2_with fail
    refine hs.out.mono ?_
    rintro e w' ⟨rfl, rfl⟩
    go_wp2
    go_ret2
    exact ⟨_, _, rfl, (H.out.set0 2).set1 true, fun j hj => (up2 _ 1 _ (by omega) j hj).trans (up2 _ 0 _ (by omega) j hj), rfl, (fr_b _ _ _ _).trans' (fr_b _ _ _ _)⟩
  · have e : act now held .start = ⟨now, held, .no, 3⟩ := if_neg h0
    unfold Fx
    rw [e]
    have hs := Lib.hid (swap_no h 1 2 h0)
    clear h h0 e
    go_enter Try.func26, Try.ntmps26
    go_wp2_with fail
    refine hs.out.mono ?_
    rintro e w' ⟨rfl, rfl⟩
    go_wp2
    go_ret2
    exact ⟨_, f, rfl, H.out, fun _ _ => rfl, rfl, Fr.refl _ _⟩
theorem fn_sleep (h : Wb w b now held f) : Calls Try.prog 27 #[.pointer (some ⟨b, 0, none⟩)] w (Fx w b now held f .sleep) := by
  have H := Lib.hid h
  by_cases h0 : now = 2
  · subst h0
    have hs := Lib.hid (swap_yes h 2 0 rfl)
    have c1 := h.c1
    have f1 := h.fz 1
    clear h
    go_enter Try.func27, Try.ntmps27
    go_wp2_with fail
    refine hs.out.mono ?_
    rintro e w' ⟨rfl, rfl⟩
    go_wp2
    go_ret2
    exact ⟨_, _, rfl, (H.out.set0 0).set1 false, fun j hj => (up2 _ 1 _ (by omega) j hj).trans (up2 _ 0 _ (by omega) j hj), rfl, (fr_b _ _ _ _).trans' (fr_b _ _ _ _)⟩
  · have e : act now held .sleep = ⟨now, held, .goes, -1⟩ := if_neg h0
    unfold Fx
    rw [e]
    have hs := Lib.hid (swap_no h 2 0 h0)
    clear h h0 e
    go_enter Try.func27, Try.ntmps27
    go_wp2_with fail
    refine hs.out.mono ?_
    rintro e w' ⟨rfl, rfl⟩
    go_wp2
    go_ret2
    exact ⟨_, f, rfl, H.out, fun _ _ => rfl, rfl, Fr.refl _ _⟩
theorem fn_goes (h : Wb w b now held f) : Calls Try.prog 33 #[.pointer (some ⟨b, 0, none⟩)] w (Fx w b now held f .goes) := by
  have H := Lib.hid h
  by_cases h0 : now = 3
  · subst h0
    have hs := Lib.hid (swap_yes h 3 2 rfl)
    clear h
    go_enter Try.func33, Try.ntmps33
    go_wp2_with fail
    refine hs.out.mono ?_
    rintro e w' ⟨rfl, rfl⟩
    go_wp2
    go_ret2
    exact ⟨_, _, rfl, H.out.set0 2, fun j hj => up2 _ 0 _ (by omega) j hj, rfl, fr_b _ _ _ _⟩
  · have e : act now held .goes = ⟨now, held, .no, 3⟩ := if_neg h0
    unfold Fx
    rw [e]
    have hs := Lib.hid (swap_no h 3 2 h0)
    clear h h0 e
    go_enter Try.func33, Try.ntmps33
    go_wp2_with fail
    refine hs.out.mono ?_
    rintro e w' ⟨rfl, rfl⟩
    go_wp2
    go_ret2
    exact ⟨_, f, rfl, H.out, fun _ _ => rfl, rfl, Fr.refl _ _⟩
theorem fn_die (h : Wb w b now held f) : Calls Try.prog 29 #[.pointer (some ⟨b, 0, none⟩)] w (Fx w b now held f .die) := by
  have H := Lib.hid h
  have c0 := h.c0
  have f0 := h.fz 0
  have c1 := h.c1
  have f1 := h.fz 1
  clear h
  go_enter Try.func29, Try.ntmps29
  go_wp2
  go_ret2
  exact ⟨_, _, rfl, (H.out.set1 false).set0 4, fun j hj => (up2 _ 0 _ (by omega) j hj).trans (up2 _ 1 _ (by omega) j hj), rfl, (fr_b _ _ _ _).trans' (fr_b _ _ _ _)⟩
theorem fn_yield (h : Wb w b now held f) : Calls Try.prog 28 #[.pointer (some ⟨b, 0, none⟩)] w (Fx w b now held f .yield) := by
  have H := Lib.hid h
  have c1 := h.c1
  have f1 := h.fz 1
  have h' := h.set1 false
  by_cases h0 : now = 2
  · subst h0
    have hs := Lib.hid (swap_yes h' 2 1 rfl)
    clear h h'
    go_enter Try.func28, Try.ntmps28
    go_wp2_with fail
    refine hs.out.mono ?_
    rintro e w' ⟨rfl, rfl⟩
    go_wp2
    go_ret2
    exact ⟨_, _, rfl, (H.out.set1 false).set0 1, fun j hj => (up2 _ 0 _ (by omega) j hj).trans (up2 _ 1 _ (by omega) j hj), rfl, (fr_b _ _ _ _).trans' (fr_b _ _ _ _)⟩
  · have hs := Lib.hid (swap_no h' 2 1 h0)
    by_cases h3 : now = 3
    · subst h3
      have hs2 := Lib.hid (swap_yes h' 3 1 rfl)
      clear h h' h0
      go_enter Try.func28, Try.ntmps28
      go_wp2_with fail
      refine hs.out.mono ?_
      rintro e w' ⟨rfl, rfl⟩
      go_wp2_with fail
      refine hs2.out.mono ?_
      rintro e w' ⟨rfl, rfl⟩
      go_wp2
      go_ret2
      exact ⟨_, _, rfl, (H.out.set1 false).set0 1, fun j hj => (up2 _ 0 _ (by omega) j hj).trans (up2 _ 1 _ (by omega) j hj), rfl, (fr_b _ _ _ _).trans' (fr_b _ _ _ _)⟩
    · have hs2 := Lib.hid (swap_no h' 3 1 h3)
      have e : act now held .yield = ⟨now, false, .no, 3⟩ := (if_neg h0).trans (if_neg h3)
      unfold Fx
      rw [e]
      clear h h' h0 h3 e
      go_enter Try.func28, Try.ntmps28
      go_wp2_with fail
      refine hs.out.mono ?_
      rintro e w' ⟨rfl, rfl⟩
      go_wp2_with fail
      refine hs2.out.mono ?_
      rintro e w' ⟨rfl, rfl⟩
      go_wp2
      go_ret2
      exact ⟨_, _, rfl, H.out.set1 false, fun j hj => up2 _ 1 _ (by omega) j hj, rfl, fr_b _ _ _ _⟩
theorem Cel.cell {c : Nat} {y : Int} (h : Cel w b c y) : w.cell? ⟨c, 0, none⟩ = some (.int .i64 y) := row_val h.2 (by omega) rfl
theorem fn_wk (h : Wb w b now held f) (c : Bool) (b1 b2 b3 : Nat) (k1 : Cel w b b1 (if c = true then 2 else 0)) (k2 : Cel w b b2 (if c = true then 3 else 1)) (k3 : Cel w b b3 (if c = true then 0 else 1)) :
    Calls Try.prog 34 #[.pointer (some ⟨b, 0, none⟩), pv b1, pv b2, pv b3] w (Fx w b now held f (.wk c)) := by
  have H := Lib.hid h
  have d1 := k1.cell
  have d2 := k2.cell
  have d3 := k3.cell
  have n1 := k1.1
  have n2 := k2.1
  have n3 := k3.1
  clear k1 k2 k3
  unfold pv
  cases c
  · simp only [Bool.false_eq_true, if_false] at d1 d2 d3
    by_cases h0 : now = 0
    · subst h0
      have hs := Lib.hid (swap_yes h 0 1 rfl)
      clear h
      go_enter Try.func34, Try.ntmps34
      go_wp2_with fail
      refine hs.out.mono ?_
      rintro e w' ⟨rfl, rfl⟩
      go_wp2
      go_quiet (fail)
      go_wp2
      go_ret2
      exact ⟨_, _, rfl, ⟨(H.out.set0 1).s, (H.out.set0 1).f0, (H.out.set0 1).f1⟩, fun j hj => up2 _ 0 _ (by omega) j hj, rfl, (fr_b _ _ _ _).trans' (fr_drewN _ _ _)⟩
    · have e : act now held (.wk false) = ⟨now, held, .look, -1⟩ := if_neg h0
      unfold Fx
      rw [e]
      have hs := Lib.hid (swap_no h 0 1 h0)
      clear h h0 e
      go_enter Try.func34, Try.ntmps34
      go_wp2_with fail
      refine hs.out.mono ?_
      rintro e w' ⟨rfl, rfl⟩
      go_wp2
      go_ret2
      exact ⟨_, f, rfl, H.out, fun _ _ => rfl, rfl, Fr.refl _ _⟩
  · simp only [if_true] at d1 d2 d3
    by_cases h0 : now = 2
    · subst h0
      have hs := Lib.hid (swap_yes h 2 3 rfl)
      clear h
      go_enter Try.func34, Try.ntmps34
      go_wp2_with fail
      refine hs.out.mono ?_
      rintro e w' ⟨rfl, rfl⟩
      go_wp2
      go_quiet (fail)
      go_wp2
      go_ret2
      exact ⟨_, _, rfl, ⟨(H.out.set0 3).s, (H.out.set0 3).f0, (H.out.set0 3).f1⟩, fun j hj => up2 _ 0 _ (by omega) j hj, rfl, (fr_b _ _ _ _).trans' (fr_drewN _ _ _)⟩
    · have e : act now held (.wk true) = ⟨now, held, .look, -1⟩ := if_neg h0
      unfold Fx
      rw [e]
      have hs := Lib.hid (swap_no h 2 3 h0)
      clear h h0 e
      go_enter Try.func34, Try.ntmps34
      go_wp2_with fail
      refine hs.out.mono ?_
      rintro e w' ⟨rfl, rfl⟩
      go_wp2
      go_ret2
      exact ⟨_, f, rfl, H.out, fun _ _ => rfl, rfl, Fr.refl _ _⟩
end
end Go.Proofs.Ytildpjgjnfiihaa
