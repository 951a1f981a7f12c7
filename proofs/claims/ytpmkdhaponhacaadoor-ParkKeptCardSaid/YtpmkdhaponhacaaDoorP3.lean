/- The lot: giveWake; thread, Begin, Step and the others. -/
import Derived.Test.YtpmkdhaponhacaaDoorP2
namespace Go.Proofs.YtpmkdhaponhacaaDoor
open Go.RowKit
set_option linter.unusedVariables false
set_option linter.unusedSimpArgs false
section
variable {w w1 : World} {b p : Nat} {q : Q}
set_option maxRecDepth 100000 in
set_option maxHeartbeats 4000000 in
theorem fn37 (h : Lq w b p q) (k : Nat) (hk : k < q.n) (hw : (q.th k).who < q.n) : Calls Tryd.prog 37 #[.pointer (some ⟨b, 0, none⟩), .pointer (some ⟨p, k * 6, none⟩)] w (Fx w b p (act q k (q.th k) .a37)) := by
  have c2 := h.c2
  have c3 := h.c3
  have t4 := h.t4 k hk
  have f2 := h.fb 2
  have hne := h.ne.1
  have hne' := Ne.symm h.ne.1
  have hi := h.i
  have hn2 := h.n2
  have hl1 : ((q.th k).who : Int) < (q.n : Int) := by omega
  have hl0 : (0 : Int) ≤ ((q.th k).who : Int) := by omega
  have H := Lib.hid h
  obtain ⟨j, hj⟩ : ∃ j, j = (q.th k).who := ⟨_, rfl⟩
  rw [← hj] at t4 hl1 hl0 hw
  have s1 := h.t1 j hw
  have s5 := h.t5 j hw
  have g5 := h.fp (j * 6 + 5)
  have m1 : k * 6 + 4 ≠ j * 6 + 5 := by omega
  have m2 : j * 6 + 5 ≠ k * 6 + 4 := by omega
  have han := and_bit q.idle hi j (by omega)
  have hor := clr_bit q.idle hi j (by omega)
  have hlt := clr_lt q.idle hi j (by omega)
  have hpos : ((2 ^ j : Nat) : Int) ≠ 0 := by have := Nat.two_pow_pos j; omega
  generalize hA : ((2 ^ j : Nat) : Int) = B2 at *
  have HJ := Lib.hid hj
  by_cases h0 : q.idle.testBit j = true
  · have e : act q k (q.th k) .a37 = ⟨(q.setI (clr q.idle j)).setT j ((q.th j).setP false), .no, 1, j⟩ := by
      have := hj; subst this; exact if_pos h0
    unfold Fx
    rw [e]
    rw [if_pos h0] at han
    have hb : (B2 == 0) = false := by simp; exact hpos
    clear h h0 hA hpos hj e
    go_enter Tryd.func37, Tryd.ntmps37
    go_wp2_with fail
    go_quiet (fail)
    generalize nq = nA at *
    go_wp2_with fail
    go_quiet (fail)
    generalize nq = nB at *
    go_wp2_with fail
    go_region
    all_goals
      go_wp2_with fail
      go_quiet (fail)
      go_wp2
      go_returns
      exact ⟨rfl, (((H.out.drewN _).sI _ hlt).fP j hw false).drewN _, (((fr_drewN _ _ _).trans' (fr_set _ _ b _ _ (.inl rfl))).trans' (fr_set _ _ p _ _ (.inr rfl))).trans' (fr_drewN _ _ _)⟩
  · have e : act q k (q.th k) .a37 = ⟨q, .a33, -1, 0⟩ := by
      have := hj; subst this; exact if_neg h0
    unfold Fx
    rw [e]
    rw [if_neg h0] at han
    clear h h0 hA hpos hj e
    go_enter Tryd.func37, Tryd.ntmps37
    go_wp2_with fail
    go_quiet (fail)
    generalize nq = nA at *
    go_wp2_with fail
    go_quiet (fail)
    go_wp2
    go_returns
    exact ⟨rfl, H.out.drewN _, fr_drewN _ _ _⟩
end
end Go.Proofs.YtpmkdhaponhacaaDoor
