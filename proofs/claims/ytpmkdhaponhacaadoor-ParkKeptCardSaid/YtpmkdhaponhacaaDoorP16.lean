/- The laws' begin. -/
import Derived.Test.YtpmkdhaponhacaaDoorP15
namespace Go.Proofs.YtpmkdhaponhacaaDoor
open Go.RowKit
set_option linter.unusedVariables false
set_option linter.unusedSimpArgs false
theorem Ow.alloc {w wr : World} {b p : Nat} {q : Q} (h : Ow w wr b p q) (ob : Obj) : Ow w (wr.alloc ob) b p q := h.to (h.l.alloc ob) h.wf (fr_alloc _ _ _)
set_option maxRecDepth 100000 in
set_option maxHeartbeats 8000000 in
theorem beg_any {w wr : World} {b p N : Nat} {q : Q} (M : Ow w wr b p q) (hn : q.n = N + 1) (ti : Int) (o : Bool) (k : Nat) (hk : k < N + 1) (ek : wrap64 ((IntKind.u64.wrap ti).tmod ((N : Int) + 1)) = (k : Int)) :
    Calls Tryd.prog 21 #[.pointer (some ⟨b, 0, none⟩), .agg #[.int .i64 ti, .bool o]] wr fun e w' => e = .returned (.tuple #[.int .i64 k, .bool (nxt q k o).1]) ∧ Ow w w' b p (nxt q k o).2 := by
  have r0 : (wr.alloc (.cells #[.int .i64 ti, .bool o] 28)).rowIs wr.heap.size 28 2 (fun i => if i = 0 then .int .i64 ti else .bool o) := row_new wr _ 28 2 _ rfl (fun i hi => by match i, hi with | 0, _ => rfl | 1, _ => rfl)
  have MA := M.alloc (.cells #[.int .i64 ti, .bool o] 28)
  have c1 : (wr.alloc (.cells #[.int .i64 ti, .bool o] 28)).cell? ⟨wr.heap.size, 1, none⟩ = some (.bool o) := row_val r0 (by omega) rfl
  have c0 : (wr.alloc (.cells #[.int .i64 ti, .bool o] 28)).cell? ⟨wr.heap.size, 0, none⟩ = some (.int .i64 ti) := row_val r0 (by omega) rfl
  have HC1 : Hid (∀ nq, ((wr.alloc (.cells #[.int .i64 ti, .bool o] 28)).drewN nq).cell? ⟨wr.heap.size, 1, none⟩ = some (.bool o)) := Lib.hid (fun nq => c1)
  have HW : Hid (∀ W1 : World, W1.heap = (wr.alloc (.cells #[.int .i64 ti, .bool o] 28)).heap → Calls Tryd.prog 11 #[.pointer (some ⟨b, 0, none⟩)] W1 fun e w' => e = .returned (.int .i64 (N : Int)) ∧ w' = W1) := Lib.hid (fun W1 e => by
    have := workers_any (MA.l.same e)
    rw [hn] at this
    exact this)
  have MM : Hid (∀ nq, Ow w ((wr.alloc (.cells #[.int .i64 ti, .bool o] 28)).drewN nq) b p q) := Lib.hid (fun nq => MA.drewN nq)
  have EK := Lib.hid ek
  have HN := Lib.hid hn
  have n2 := M.l.n2
  rw [hn] at n2
  unfold nxt
  clear M MA c1 ek hn r0
  cases hpk : (q.th k).pk
  · rw [if_neg (by decide)]
    have HPK := Lib.hid hpk
    clear hpk
    by_cases hg : o = true ∨ k = 0
    · rw [if_pos hg]
      have HG := Lib.hid hg
      clear hg
      go_enter Tryd.func21, Tryd.ntmps21
      go_wp2_with fail
      go_quiet (first | (go_at_call 11; exact Calls.quiet_of_same (HW.out _ (by rfl))))
      rw [EK.out]
      have c1 := HC1.out nq
      have MD := Lib.hid (MM.out nq)
      clear c0 HC1 HW MM EK
      generalize (wr.alloc (.cells #[.int .i64 ti, .bool o] 28)).drewN nq = W at *
      generalize wr.heap.size = Z at *
      have hkn : k < q.n := by have := HN.out; omega
      have HP := Lib.hid (ow_parked MD.out k hkn _ HPK.out)
      go_wp2_with fail
      refine HP.out.mono ?_
      rintro e w3 ⟨rfl, rfl⟩
      have HB := Lib.hid (ow_begin MD.out k 0)
      rcases HG.out with rfl | rfl
      · clear HG
        go_wp2_with fail
        refine HB.out.mono ?_
        rintro e w4 ⟨rfl, M4⟩
        go_wp2
        go_returns
        exact ⟨rfl, M4⟩
      · clear HG
        cases o
        all_goals
          go_wp2_with fail
          refine HB.out.mono ?_
          rintro e w4 ⟨rfl, M4⟩
          go_wp2
          go_returns
          exact ⟨rfl, M4⟩
    · rw [if_neg hg]
      have hoi : o = false := by cases o; rfl; exact absurd (.inl rfl) hg
      have hkb : ((k : Int) == 0) = false := by simp; exact fun e => hg (.inr e)
      subst hoi
      clear hg
      go_enter Tryd.func21, Tryd.ntmps21
      go_wp2_with fail
      go_quiet (first | (go_at_call 11; exact Calls.quiet_of_same (HW.out _ (by rfl))))
      rw [EK.out]
      have c1 := HC1.out nq
      have MD := Lib.hid (MM.out nq)
      clear c0 HC1 HW MM EK
      generalize (wr.alloc (.cells #[.int .i64 ti, .bool false] 28)).drewN nq = W at *
      generalize wr.heap.size = Z at *
      have hkn : k < q.n := by have := HN.out; omega
      have HP := Lib.hid (ow_parked MD.out k hkn _ HPK.out)
      go_wp2_with fail
      refine HP.out.mono ?_
      rintro e w3 ⟨rfl, rfl⟩
      have HB := Lib.hid (ow_begin MD.out k 1)
      go_wp2_with fail
      refine HB.out.mono ?_
      rintro e w4 ⟨rfl, M4⟩
      go_wp2
      go_returns
      exact ⟨rfl, M4⟩
  · rw [if_pos rfl]
    have HPK := Lib.hid hpk
    clear hpk
    go_enter Tryd.func21, Tryd.ntmps21
    go_wp2_with fail
    go_quiet (first | (go_at_call 11; exact Calls.quiet_of_same (HW.out _ (by rfl))))
    rw [EK.out]
    have c1 := HC1.out nq
    have MD := Lib.hid (MM.out nq)
    clear c0 HC1 HW MM EK
    generalize (wr.alloc (.cells #[.int .i64 ti, .bool o] 28)).drewN nq = W at *
    generalize wr.heap.size = Z at *
    have hkn : k < q.n := by have := HN.out; omega
    have HP := Lib.hid (ow_parked MD.out k hkn _ HPK.out)
    go_wp2_with fail
    refine HP.out.mono ?_
    rintro e w3 ⟨rfl, rfl⟩
    go_wp2
    go_returns
    exact ⟨rfl, MD.out⟩
end Go.Proofs.YtpmkdhaponhacaaDoor
