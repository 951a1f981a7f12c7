/- The lot lives; the law Nil. -/
import Derived.Test.YtpmkdhaponhacaaDoorP8
namespace Go.Proofs.YtpmkdhaponhacaaDoor
open Go.RowKit
set_option linter.unusedVariables false
set_option linter.unusedSimpArgs false
theorem bel_fr {w w1 w2 : World} {b p n : Nat} (h : Below n w w1) (f : Fr w1 w2 (S2 b p)) (hn : n ≤ w1.heap.size) (hb : n ≤ b) (hp : n ≤ p) : Below n w w2 :=
  ⟨f.os.trans h.os, f.tape.trans h.tape, f.output.trans h.output, Nat.le_trans h.size f.size, fun k hk => (f.block k (by omega) (fun s => by rcases s with s | s <;> omega)).trans (h.block k hk)⟩
theorem bel_trans {a b c : World} {n : Nat} (h : Below n a b) (g : Below n b c) : Below n a c :=
  ⟨g.os.trans h.os, g.tape.trans h.tape, g.output.trans h.output, Nat.le_trans h.size g.size, fun k hk => (g.block k hk).trans (h.block k hk)⟩
/-- a lot of the call's own -/
structure Ow (w wr : World) (b p : Nat) (q : Q) : Prop where
  l : Lq wr b p q
  wf : Wf q
  bel : Below w.heap.size w wr
  hb : w.heap.size ≤ b
  hp : w.heap.size ≤ p
theorem ow_new {w w' : World} {s : Int} (h : Lq w' (w.heap.size + 1) w.heap.size (Q0 (nw s + 1)) ∧ Below w.heap.size w w') : Ow w w' (w.heap.size + 1) w.heap.size (Q0 (nw s + 1)) :=
  ⟨h.1, wf0 _ (by omega) (by have := nw_hi s; omega), h.2, by omega, Nat.le_refl _⟩
theorem Ow.to {w wr w' : World} {b p : Nat} {q q' : Q} (h : Ow w wr b p q) (l : Lq w' b p q') (hf : Wf q') (f : Fr wr w' (S2 b p)) : Ow w w' b p q' :=
  ⟨l, hf, bel_fr h.bel f h.bel.size h.hb h.hp, h.hb, h.hp⟩
theorem ow_whole {w wr : World} {b p : Nat} {q : Q} (h : Ow w wr b p q) (k op : Int) : Calls Tryd.prog 14 #[.pointer (some ⟨b, 0, none⟩), .int .i64 k, .int .i64 op] wr fun e w' => e = .returned (.tuple #[.int .i64 (wholeF q k op).1.1, .int .i64 ((wholeF q k op).1.2 : Int)]) ∧ Ow w w' b p (wholeF q k op).2 :=
  (whole_any h.l h.wf k op).mono (fun e w' ⟨a, b, c⟩ => ⟨a, h.to b (wf_whole h.wf k op) c⟩)
theorem ow_begin {w wr : World} {b p : Nat} {q : Q} (h : Ow w wr b p q) (k op : Int) : Calls Tryd.prog 16 #[.pointer (some ⟨b, 0, none⟩), .int .i64 k, .int .i64 op] wr fun e w' => e = .returned (.int .i64 (begin q k op).1) ∧ Ow w w' b p (begin q k op).2 :=
  (begin_any h.l k op).mono (fun e w' ⟨a, b, c⟩ => ⟨a, h.to b (wf_begin h.wf k op) c⟩)
theorem ow_step {w wr : World} {b p : Nat} {q : Q} (h : Ow w wr b p q) (k : Int) : Calls Tryd.prog 18 #[.pointer (some ⟨b, 0, none⟩), .int .i64 k] wr fun e w' => e = .returned (.tuple #[.int .i64 (step q k).1.1, .int .i64 ((step q k).1.2.1 : Int), .int .i64 (step q k).1.2.2]) ∧ Ow w w' b p (step q k).2 :=
  (step_any h.l k h.wf.who).mono (fun e w' ⟨a, b, c⟩ => ⟨a, h.to b (wf_step h.wf k) c⟩)
theorem ow_newc (s : Int) (w : World) (hT : Tab w 1) : Calls Tryd.prog 10 #[.int .i64 s] w fun e w' => ∃ b p, e = .returned (.pointer (some ⟨b, 0, none⟩)) ∧ Ow w w' b p (Q0 (nw s + 1)) :=
  (new_any s w hT).mono (fun e w' ⟨a, b⟩ => ⟨_, _, a, ow_new b⟩)
def L1 : (Int × Nat) × Q := wholeF (Q0 3) 2 1
def L2 : (Int × Nat) × Q := wholeF L1.2 0 0
def L3 : (Int × Nat) × Q := wholeF L2.2 2 1
theorem l1_1 : L1.1 = (3, 0) := by decide +kernel
theorem l1_2 : (L1.2.th 2).pk = true := by decide +kernel
theorem l1_3 : L1.2.n = 3 := by decide +kernel
theorem l2_1 : L2.1 = (1, 2) := by decide +kernel
theorem l3_1 : L3.1 = (2, 0) := by decide +kernel
theorem l3_2 : L3.2.work = 0 := by decide +kernel
set_option maxRecDepth 100000 in
set_option maxHeartbeats 4000000 in
theorem lives_any (w : World) (hT : Tab w 1) : Calls Tryd.prog 9 #[] w fun e w' => e = .returned (.bool true) ∧ Below w.heap.size w w' := by
  have hN := Lib.hid (ow_newc 2 w hT)
  clear hT
  go_enter Tryd.func9, Tryd.ntmps9
  go_wp2_with fail
  refine hN.out.mono ?_
  rintro e w1 ⟨b, p, rfl, o1⟩
  rw [show nw 2 + 1 = 3 by decide] at o1
  have hW := Lib.hid (workers_any o1.l)
  have H1 := Lib.hid o1
  clear hN o1
  go_wp2_with fail
  refine hW.out.mono ?_
  rintro e w2 ⟨rfl, rfl⟩
  rw [show (Q0 3).n - 1 = 2 by rfl]
  have c1 := Lib.hid (ow_whole H1.out 2 1)
  clear H1
  rw [show wholeF (Q0 3) 2 1 = L1 by rfl, l1_1] at c1
  go_wp2_with fail
  refine c1.out.mono ?_
  rintro e w2 ⟨rfl, o2⟩
  have cp := Lib.hid (parked_any o2.l 2 true (by rw [l1_3, show Int.toNat 2 = 2 by rfl, l1_2]; rfl))
  have c2 := Lib.hid (ow_whole o2 0 0)
  rw [show wholeF L1.2 0 0 = L2 by rfl, l2_1] at c2
  clear c1 o2
  go_wp2_with fail
  refine cp.out.mono ?_
  rintro e w3 ⟨rfl, rfl⟩
  go_wp2_with fail
  refine c2.out.mono ?_
  rintro e w3 ⟨rfl, o3⟩
  have c3 := Lib.hid (ow_whole o3 2 1)
  rw [show wholeF L2.2 2 1 = L3 by rfl, l3_1] at c3
  clear c2 cp o3
  go_wp2_with fail
  refine c3.out.mono ?_
  rintro e w4 ⟨rfl, o4⟩
  have c4 := Lib.hid (work_any o4.l)
  rw [l3_2] at c4
  have O4 := Lib.hid o4
  clear c3 o4
  go_wp2_with fail
  refine c4.out.mono ?_
  rintro e w5 ⟨rfl, rfl⟩
  go_wp2
  go_ret
  exact ⟨rfl, O4.out.bel⟩
set_option maxRecDepth 100000 in
set_option maxHeartbeats 4000000 in
theorem nil_any (bg : Bool) (th op : Int) (w : World) (hT : Tab w 1) : Calls Tryd.prog 8 #[.agg #[.bool bg, .int .i64 th, .int .i64 op]] w fun e w' => e = .returned (.bool true) ∧ Below w.heap.size w w' := by
  have hL := Lib.hid (lives_any (w.alloc (.cells #[.bool bg, .int .i64 th, .int .i64 op] 42)) (tab_below (n := w.heap.size) hT ((Below.refl _ _).alloc (Nat.le_refl _) _) (tab_lt hT)))
  have hR := Lib.hid (row_new w #[.bool bg, .int .i64 th, .int .i64 op] 42 3 (fun i => if i = 0 then .bool bg else if i = 1 then .int .i64 th else .int .i64 op) rfl (fun i hi => by match i, hi with | 0, _ => rfl | 1, _ => rfl | 2, _ => rfl))
  clear hT
  go_enter Tryd.func8, Tryd.ntmps8
  go_wp2_with fail
  refine hL.out.mono ?_
  rintro e w1 ⟨rfl, g1⟩
  have r1 := row_below hR.out g1 (by simp)
  have c1 := row_val r1 (i := 1) (by omega) rfl
  have c2 := row_val r1 (i := 2) (by omega) rfl
  rw [if_neg (by omega), if_pos rfl] at c1
  rw [if_neg (by omega), if_neg (by omega)] at c2
  have G1 := Lib.hid g1
  clear hL hR g1 r1
  go_wp2_with fail
  refine (step_nil th _).mono ?_
  rintro e w2 ⟨rfl, rfl⟩
  go_wp2_with fail
  refine (begin_nil th op _).mono ?_
  rintro e w2 ⟨rfl, rfl⟩
  go_wp2_with fail
  refine (work_nil _).mono ?_
  rintro e w2 ⟨rfl, rfl⟩
  go_wp2_with fail
  refine (parked_nil th _).mono ?_
  rintro e w2 ⟨rfl, rfl⟩
  go_wp2_with fail
  refine (busy_nil th _).mono ?_
  rintro e w2 ⟨rfl, rfl⟩
  go_wp2_with fail
  refine (workers_nil _).mono ?_
  rintro e w2 ⟨rfl, rfl⟩
  go_wp2
  go_ret
  refine ⟨rfl, ?_⟩
  have g := G1.out
  exact bel_trans ((Below.refl w.heap.size w).alloc (Nat.le_refl _) _) ⟨g.os, g.tape, g.output, g.size, fun k hk => g.block k (by simp; omega)⟩
end Go.Proofs.YtpmkdhaponhacaaDoor
