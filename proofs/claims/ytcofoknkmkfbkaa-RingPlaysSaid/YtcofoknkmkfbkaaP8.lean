/- RingNil's walk. -/
import Derived.Test.YtcofoknkmkfbkaaP7
namespace Go.Proofs.Ytcofoknkmkfbkaa
open Go.RowKit Go.Shelf
set_option linter.unusedVariables false
set_option linter.unusedSimpArgs false
attribute [local go_sem] Oper.semAt_some
theorem coll_any (p0 : Option Addr) (l : List Int) (w : World) (hL : GivesR w p0 l) :
    Calls Try.prog 34 #[.pointer p0] w fun e W' => ∃ v, e = .returned v ∧ Own W' w.heap.size v l ∧ Below w.heap.size w W' :=
  (callsIn_wide (n := 3)).1 (coll_in p0 l w hL)
theorem put_nil (x : Int) (w : World) : Calls Try.prog 11 #[.pointer none, .int .i64 x] w fun e w' => e = .returned (.int .i64 1) ∧ w = w' := by
  go_enter Try.func11, Try.ntmps11
  go_wp2_with fail
  refine (room_nil w).mono ?_
  rintro e w' ⟨rfl, rfl⟩
  go_wp2
  go_ret; exact ⟨rfl, rfl⟩
theorem push_nil (x : Int) (w : World) : Calls Try.prog 21 #[.pointer none, .int .i64 x] w fun e w' => e = .returned (.int .i64 1) ∧ w = w' := by
  go_enter Try.func21, Try.ntmps21
  go_wp2_with fail
  refine (room_nil w).mono ?_
  rintro e w' ⟨rfl, rfl⟩
  go_wp2
  go_ret; exact ⟨rfl, rfl⟩
theorem at_nil (i : Int) (w : World) : Calls Try.prog 38 #[.pointer none, .int .i64 i] w fun e w' => e = .returned (.tuple #[.int .i64 0, .bool false]) ∧ w = w' := by
  by_cases h : i < 0
  · go_enter Try.func38, Try.ntmps38
    go_wp2
    go_ret2; exact ⟨rfl, rfl⟩
  · have h2 : 0 ≤ i := by omega
    go_enter Try.func38, Try.ntmps38
    go_wp2_with (go_at_call 13; refine (len_nil w).mono ?_; rintro e w' ⟨rfl, rfl⟩)
    go_ret2; exact ⟨rfl, rfl⟩
set_option maxHeartbeats 1000000 in
theorem nil_any (x i : Int) (w : World) : Calls Try.prog 8 #[.int .i64 x, .int .i64 i] w fun e w' => e = .returned (.bool true) ∧ Below w.heap.size w w' := by
  go_enter Try.func8, Try.ntmps8
  go_wp2_with fail
  refine (lives_any _).mono ?_
  rintro e w1 ⟨rfl, g1⟩
  go_wp2_with fail
  refine (take_nil _).mono ?_
  rintro e w' ⟨rfl, rfl⟩
  go_wp2_with fail
  refine (pop_nil _).mono ?_
  rintro e w' ⟨rfl, rfl⟩
  go_wp2_with fail
  refine (at_nil _ _).mono ?_
  rintro e w' ⟨rfl, rfl⟩
  go_wp2_with fail
  refine (put_nil _ _).mono ?_
  rintro e w' ⟨rfl, rfl⟩
  go_wp2_with fail
  refine (push_nil _ _).mono ?_
  rintro e w' ⟨rfl, rfl⟩
  go_wp2_with fail
  refine (len_nil _).mono ?_
  rintro e w' ⟨rfl, rfl⟩
  go_wp2_with fail
  refine (size_nil _).mono ?_
  rintro e w' ⟨rfl, rfl⟩
  go_wp2_with fail
  refine (coll_any none [] _ (.inl ⟨rfl, rfl⟩)).mono ?_
  rintro e w2 ⟨v, rfl, ho, hb⟩
  obtain ⟨a, cap, rfl⟩ := own_slice ho
  go_wp2
  go_ret
  exact ⟨rfl, g1.trans (hb.mono g1.size)⟩
end Go.Proofs.Ytcofoknkmkfbkaa
