/- The ring of workers behind a first world; lives; SafraNil's walk. -/
import Derived.Test.YtmagenfndbaliaaP5
namespace Go.Proofs.Ytmagenfndbaliaa
open Go.RowKit
set_option linter.unusedVariables false
set_option linter.unusedSimpArgs false
structure Sr (w0 w : World) (b g : Nat) (r : R) : Prop where
  rr : Rr w b g r
  ok : Ok r
  bel : Below w0.heap.size w0 w
  lb : w0.heap.size ≤ b
  lg : w0.heap.size ≤ g
section
variable {w0 w w1 : World} {b g : Nat} {r : R}
theorem Sr.below (h : Sr w0 w b g r) (f : Below w.heap.size w w1) : Sr w0 w1 b g r := ⟨h.rr.below f, h.ok, h.bel.trans (f.mono h.bel.size), h.lb, h.lg⟩
theorem Sr.fr (h : Sr w0 w b g r) {r' : R} (h' : Rr w1 b g r') (o : Ok r') (f : Fr w w1 (S2 b g)) : Sr w0 w1 b g r' :=
  ⟨h', o, h.bel.trans (f.below h.bel.size (fun k hk => by rcases hk with rfl | rfl; exact h.lb; exact h.lg)), h.lb, h.lg⟩
theorem Sr.frame (h : Sr w0 w b g r) {S : Nat → Prop} (f : Fr w w1 S) (hb : ¬ S b) (hg : ¬ S g) (hS : ∀ k, S k → w0.heap.size ≤ k) : Sr w0 w1 b g r :=
  ⟨h.rr.frame f hb hg, h.ok, h.bel.trans (f.below h.bel.size hS), h.lb, h.lg⟩
theorem sr_new (hb : Below w0.heap.size w0 w) (n : Int) : Calls Try.prog 9 #[.int .i64 n] w fun e w' => ∃ b g, e = .returned (.pointer (some ⟨b, 0, none⟩)) ∧ Sr w0 w' b g (R0 (size n)) ∧ w.grownBy w' none ∧ w.heap.size ≤ b ∧ w.heap.size ≤ g := by
  refine (new_any n w).mono ?_
  rintro e w' ⟨b, g, rfl, h, f, l1, l2⟩
  have := size_1 n
  exact ⟨b, g, rfl, ⟨h, ok0 _ this.1 this.2, hb.trans (gb_below f hb.size (fun k e => by cases e)), Nat.le_trans hb.size l1, Nat.le_trans hb.size l2⟩, f, l1, l2⟩
theorem sr_pass (h : Sr w0 w b g r) (i : Int) (t : Bool) (e : Int) (r' : R) (hp : pass r i = ((t, e), r')) : Calls Try.prog 14 #[.pointer (some ⟨b, 0, none⟩), .int .i64 i] w fun e' w' => e' = .returned (.tuple #[.bool t, .int .i64 e]) ∧ Sr w0 w' b g r' ∧ Fr w w' (S2 b g) := by
  have hc := pass_any h.rr h.ok i
  have ho := pass_ok h.ok i
  rw [hp] at hc ho
  refine hc.mono ?_
  rintro e' w' ⟨rfl, h', f⟩
  exact ⟨rfl, h.fr h' ho.1 f, f⟩
theorem sr_go (h : Sr w0 w b g r) (i : Int) (hi : i = r.h) (t : Bool) (ht : r.tells = t) : Calls Try.prog 14 #[.pointer (some ⟨b, 0, none⟩), .int .i64 i] w fun e' w' => e' = .returned (.tuple #[.bool t, .int .i64 0]) ∧ Sr w0 w' b g r.go ∧ Fr w w' (S2 b g) := by
  subst hi ht
  exact sr_pass h _ _ _ _ (pass_go h.ok)
theorem sr_black (h : Sr w0 w b g r) (i : Int) (e : Int) (r' : R) (hp : black r i = (e, r')) : Calls Try.prog 12 #[.pointer (some ⟨b, 0, none⟩), .int .i64 i] w fun e' w' => e' = .returned (.int .i64 e) ∧ Sr w0 w' b g r' ∧ Fr w w' (S2 b g) := by
  have hc := black_any h.rr i
  have ho := black_ok h.ok i
  rw [hp] at hc ho
  refine hc.mono ?_
  rintro e' w' ⟨rfl, h', f⟩
  exact ⟨rfl, h.fr h' ho.1 f, f⟩
theorem sr_blk (h : Sr w0 w b g r) (i : Nat) (hi : i < r.n) : Calls Try.prog 12 #[.pointer (some ⟨b, 0, none⟩), .int .i64 i] w fun e' w' => e' = .returned (.int .i64 0) ∧ Sr w0 w' b g (r.blk i) ∧ Fr w w' (S2 b g) :=
  sr_black h i 0 _ (by unfold black; rw [if_neg (by omega), Int.toNat_natCast])
theorem sr_holder (h : Sr w0 w b g r) (k : Int) (hk : (r.h : Int) = k) : Calls Try.prog 16 #[.pointer (some ⟨b, 0, none⟩)] w fun e w' => e = .returned (.int .i64 k) ∧ w' = w := by
  subst hk; exact holder_any h.rr
theorem sr_size (h : Sr w0 w b g r) (k : Int) (hk : (r.n : Int) = k) : Calls Try.prog 11 #[.pointer (some ⟨b, 0, none⟩)] w fun e w' => e = .returned (.int .i64 k) ∧ w' = w := by
  subst hk; exact size_any h.rr
end
set_option maxRecDepth 100000 in
set_option maxHeartbeats 2000000 in
theorem lives_any (w : World) : Calls Try.prog 8 #[] w fun e w' => e = .returned (.bool true) ∧ Below w.heap.size w w' := by
  go_enter Try.func8, Try.ntmps8
  go_wp2_with fail
  refine (sr_new (Below.refl _ _) 1).mono ?_
  rintro e w1 ⟨b, g, rfl, h, _, _, _⟩
  go_wp2_with fail
  refine (sr_size h 1 rfl).mono ?_
  rintro e w2 ⟨rfl, rfl⟩
  go_wp2_with fail
  refine (sr_go h 0 rfl false rfl).mono ?_
  rintro e w3 ⟨rfl, h3, _⟩
  go_wp2_with fail
  refine (sr_go h3 0 rfl true rfl).mono ?_
  rintro e w4 ⟨rfl, h4, _⟩
  go_wp2_with fail
  refine (sr_holder h4 0 rfl).mono ?_
  rintro e w5 ⟨rfl, rfl⟩
  go_wp2
  go_ret
  exact ⟨rfl, h4.bel⟩
set_option maxRecDepth 100000 in
set_option maxHeartbeats 2000000 in
theorem nil_any (i : Int) (w : World) : Calls Try.prog 6 #[.int .i64 i] w fun e w' => e = .returned (.bool true) ∧ Below w.heap.size w w' := by
  go_enter Try.func6, Try.ntmps6
  go_wp2_with fail
  refine (lives_any _).mono ?_
  rintro e w1 ⟨rfl, g1⟩
  go_wp2_with fail
  refine (pass_nil i _).mono ?_
  rintro e w2 ⟨rfl, rfl⟩
  go_wp2_with fail
  refine (black_nil i _).mono ?_
  rintro e w2 ⟨rfl, rfl⟩
  go_wp2_with fail
  refine (holder_nil _).mono ?_
  rintro e w2 ⟨rfl, rfl⟩
  go_wp2_with fail
  refine (size_nil _).mono ?_
  rintro e w2 ⟨rfl, rfl⟩
  go_wp2
  go_ret
  exact ⟨rfl, g1⟩
end Go.Proofs.Ytmagenfndbaliaa
