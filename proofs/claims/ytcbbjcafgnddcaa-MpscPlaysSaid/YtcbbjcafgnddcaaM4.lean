/- The queue's take. -/
import Derived.Test.YtcbbjcafgnddcaaM3
import Derived.LaidEqlPtr
namespace Go.Proofs.Ytcbbjcafgnddcaa
open Go.RowKit
set_option linter.unusedVariables false
set_option linter.unusedSimpArgs false
theorem pz_ptr (nd : Nat → Nat) (i : Nat) : ∃ p, pz nd i = .pointer p := by unfold pz pn; split <;> exact ⟨_, rfl⟩
theorem Rw.drewN {w : World} {b : Nat} {S : Nat → Prop} {q : Q} {nd : Nat → Nat} {f : Nat → Value} (h : Rw w b S q nd f) (m : Nat) : Rw (w.drewN m) b S q nd f := { h with s := h.s, nodes := h.nodes }
theorem info61 : ∃ j : TypeInfo, Try.prog.info? 61 = some j ∧ j.size ≠ 0 := by
  have h : (Try.prog.info? 61).map (fun i => i.size) = some 2 := by kernel_rfl
  obtain ⟨i0, h1, h2⟩ := Option.map_eq_some_iff.1 h
  exact ⟨i0, h1, by omega⟩
section
variable {w w1 : World} {b : Nat} {S S' : Nat → Prop} {q q' : Q} {nd : Nat → Nat} {f f' : Nat → Value}
set_option maxRecDepth 100000 in
set_option maxHeartbeats 2000000 in
theorem take1 (h : Rw w b S q nd f) (hT : q.tail < q.n) (hm : f 4 = .int .i64 1) :
    Calls Try.prog 23 #[.pointer (some ⟨b, 0, none⟩), .pointer (some ⟨b, 3, none⟩)] w fun e w' => e = .returned (.agg #[.bool false, .bool false, .int .i64 0, .int .i64 0]) ∧ Rw w' b S q nd (fun j => if j = 6 then pz nd (q.nx q.tail) else f j) ∧ Fr w w' S := by
  have hz := zero29
  have c0 := h.cell 4 (by omega)
  have c1 := h.cell 1 (by omega)
  have c3 := h.cell 6 (by omega)
  rw [hm] at c0
  rw [h.f1] at c1
  unfold pn at c1
  have z3 := h.froz 6
  have x1 := h.nxt q.tail hT
  have nt := h.ne q.tail hT
  have hl := h.lt
  have hlt := h.ltN q.tail hT
  obtain ⟨p, hp⟩ := pz_ptr nd (q.nx q.tail)
  rw [hp] at x1
  have HP := Lib.hid hp
  have H := Lib.hid h
  clear h hm hp
  go_enter Try.func23, Try.ntmps23
  go_wp2
  go_returns
  rw [HP.out]
  exact ⟨rfl, (H.out.setT 6 (.pointer p) (by omega)).alloc _, (fr_set w S b 6 (.pointer p) H.out.sb).trans' (fr_alloc _ _ _)⟩
set_option maxRecDepth 100000 in
set_option maxHeartbeats 2000000 in
theorem take2v (h : Rw w b S q nd f) (i : Nat) (hi : i < q.n) (hi0 : i ≠ 0) (hm : f 4 = .int .i64 2) (ha : f 6 = pz nd i) :
    Calls Try.prog 23 #[.pointer (some ⟨b, 0, none⟩), .pointer (some ⟨b, 3, none⟩)] w fun e w' => e = .returned (.agg #[.bool true, .bool true, .int .i64 (q.v i), .int .i64 0]) ∧ Rw w' b S { q with tail := i } nd (fun j => if j = 1 then pn nd i else if j = 3 then .bool false else f j) ∧ Fr w w' S := by
  have hz := zero29
  have c0 := h.cell 4 (by omega)
  have c1 := h.cell 1 (by omega)
  have c3 := h.cell 6 (by omega)
  have c4 := h.cell 3 (by omega)
  have e1 : pz nd i = pn nd i := by unfold pz; rw [if_neg hi0]
  rw [hm] at c0
  rw [ha, e1] at c3
  unfold pn at c3
  have z3 := h.froz 3
  have z1 := h.froz 1
  have x1 := h.val i hi
  have nt := h.ne i hi
  have hl := h.lt
  have hlt := h.ltN i hi
  have H := Lib.hid h
  clear h hm ha e1
  go_enter Try.func23, Try.ntmps23
  go_wp2
  go_returns
  have R := ((H.out.setT 3 (.bool false) (by omega)).setTail i)
  have G := (fr_set w S b 3 (.bool false) H.out.sb).trans' (fr_set _ S b 1 (pn nd i) H.out.sb)
  exact ⟨rfl, (R.alloc _).alloc _, (G.trans' (fr_alloc _ _ _)).trans' (fr_alloc _ _ _)⟩
set_option maxRecDepth 100000 in
set_option maxHeartbeats 2000000 in
theorem take2e (h : Rw w b S q nd f) (hh : q.head < q.n) (ht : q.tail < q.n) (hm : f 4 = .int .i64 2) (ha : f 6 = .pointer none) (E : Int) (hE : E = if q.head = q.tail then 8 else 14) :
    Calls Try.prog 23 #[.pointer (some ⟨b, 0, none⟩), .pointer (some ⟨b, 3, none⟩)] w fun e w' => e = .returned (.agg #[.bool true, .bool true, .int .i64 0, .int .i64 E]) ∧ Rw w' b S q nd (fun j => if j = 3 then .bool false else f j) ∧ Fr w w' S := by
  have hz := zero29
  have c0 := h.cell 4 (by omega)
  have c3 := h.cell 6 (by omega)
  have c4 := h.cell 3 (by omega)
  rw [hm] at c0
  rw [ha] at c3
  have z3 := h.froz 3
  have hl := h.lt
  have H := Lib.hid h
  have u0 := h.cell 0 (by omega)
  have u1 := h.cell 1 (by omega)
  rw [h.f0] at u0
  rw [h.f1] at u1
  unfold pn at u0 u1
  have hinj := h.inj q.head q.tail hh ht
  have HL := Lib.hid (fun i hi => h.ltN i hi)
  have W0r := h.setT 3 (.bool false) (by omega)
  have W0g := fr_set w S b 3 (.bool false) h.sb
  have hsz : (w.setCell ⟨b, 3, none⟩ (.bool false)).heap.size = w.heap.size := World.size_setCell _ _ _
  have H1 := (W0r.alloc (.cells #[.bool false, .bool false, .int .i64 0, .int .i64 0] 29)).alloc (.cells #[.bool true, .bool true, .int .i64 0, .int .i64 0] 29)
  have G1 := (W0g.trans' (fr_alloc _ S (.cells #[.bool false, .bool false, .int .i64 0, .int .i64 0] 29))).trans' (fr_alloc _ S (.cells #[.bool true, .bool true, .int .i64 0, .int .i64 0] 29))
  have r4 := (row_new (w.setCell ⟨b, 3, none⟩ (.bool false)) #[.bool false, .bool false, .int .i64 0, .int .i64 0] 29 4 (fun i => if i < 2 then .bool false else .int .i64 0) rfl (fun i hi => by match i, hi with | 0, _ => rfl | 1, _ => rfl | 2, _ => rfl | 3, _ => rfl)).alloc (.cells #[.bool true, .bool true, .int .i64 0, .int .i64 0] 29)
  have r5 := row_new ((w.setCell ⟨b, 3, none⟩ (.bool false)).alloc (.cells #[.bool false, .bool false, .int .i64 0, .int .i64 0] 29)) #[.bool true, .bool true, .int .i64 0, .int .i64 0] 29 4 (fun i => if i < 2 then .bool true else .int .i64 0) rfl (fun i hi => by match i, hi with | 0, _ => rfl | 1, _ => rfl | 2, _ => rfl | 3, _ => rfl)
  rw [World.size_alloc] at r5
  rw [hsz] at r4 r5
  clear h hm ha W0r W0g hsz
  go_enter Try.func23, Try.ntmps23
  go_wp2_with fail
  clear c0 c3 c4 u0 u1 z3
  generalize ((w.setCell ⟨b, 3, none⟩ (.bool false)).alloc (.cells #[.bool false, .bool false, .int .i64 0, .int .i64 0] 29)).alloc (.cells #[.bool true, .bool true, .int .i64 0, .int .i64 0] 29) = W1 at *
  have hn4 : ∀ i, i < q.n → nd i ≠ w.heap.size := fun i hi => by have := HL.out i hi; omega
  have HN4 := Lib.hid hn4
  have hn5 : ∀ i, i < q.n → nd i ≠ w.heap.size + 1 := fun i hi => by have := HL.out i hi; omega
  have HN5 := Lib.hid hn5
  have FN := Lib.hid (fun (m : Nat) (v v0 v1 v2 v3 : Value) => fr_new (fr_new (fr_new (fr_new (fr_new (k := w.heap.size + 1) (G1.trans' (fr_drewN W1 S m)) (Nat.le_succ _) 3 v) (Nat.le_refl _) 0 v0) (Nat.le_refl _) 1 v1) (Nat.le_refl _) 2 v2) (Nat.le_refl _) 3 v3)
  have bn4 : b ≠ w.heap.size := by omega
  have bn5 : b ≠ w.heap.size + 1 := by omega
  have s45 : w.heap.size ≠ w.heap.size + 1 := by omega
  have s54 : w.heap.size + 1 ≠ w.heap.size := by omega
  clear hn4 hn5 G1
  generalize w.heap.size + 1 = S5 at *
  generalize w.heap.size = S4 at *
  have s40 := row_val r4 (i := 0) (v := .bool false) (by omega) rfl
  have s41 := row_val r4 (i := 1) (v := .bool false) (by omega) rfl
  have s42 := row_val r4 (i := 2) (v := .int .i64 0) (by omega) rfl
  have s43 := row_val r4 (i := 3) (v := .int .i64 0) (by omega) rfl
  have z40 := World.rowIs.frozen r4 0
  have z41 := World.rowIs.frozen r4 1
  have z42 := World.rowIs.frozen r4 2
  have z43 := World.rowIs.frozen r4 3
  have s50 := row_val r5 (i := 0) (v := .bool true) (by omega) rfl
  have s51 := row_val r5 (i := 1) (v := .bool true) (by omega) rfl
  have s52 := row_val r5 (i := 2) (v := .int .i64 0) (by omega) rfl
  have s53 := row_val r5 (i := 3) (v := .int .i64 0) (by omega) rfl
  have z53 := World.rowIs.frozen r5 3
  have u0 := H1.cell 0 (by omega)
  have u1 := H1.cell 1 (by omega)
  rw [H1.f0] at u0
  rw [H1.f1] at u1
  unfold pn at u0 u1
  have H := Lib.hid H1
  clear H1 r4 r5
  by_cases e : q.head = q.tail
  · obtain rfl : E = 8 := hE.trans (if_pos e)
    clear hE
    rw [e] at u0
    clear hinj e
    obtain ⟨j61, hj61, _⟩ := info61
    have he : ∀ m, (binOp .eql 59 (.pointer (some ⟨nd q.tail, 0, none⟩)) (.pointer (some ⟨nd q.tail, 0, none⟩))).run Try.prog (W1.drewN m) = .ok (.bool true) (W1.drewN m) := fun m => run_eql_ptr_same _ _ Try.underlying59 hj61
    go_quiet (fail)
    go_wp2
    generalize hW : World.setCell _ _ _ = W4
    have q0 : W4.cell? ⟨S4, 0, none⟩ = some (.bool true) := by subst hW; go_cell
    have q1 : W4.cell? ⟨S4, 1, none⟩ = some (.bool true) := by subst hW; go_cell
    have q2 : W4.cell? ⟨S4, 2, none⟩ = some (.int .i64 0) := by subst hW; go_cell
    have q3 : W4.cell? ⟨S4, 3, none⟩ = some (.int .i64 8) := by subst hW; go_cell
    refine bodyPost_ret (by simp [results, Try.results23, go_sem, q0, q1, q2, q3]; try rfl) rfl ?_
    rw [← hW]
    have R5 := ((((((H.out.drewN nq).oth bn5 HN5.out 3 (.int .i64 8)).oth bn4 HN4.out 0 (.bool true)).oth bn4 HN4.out 1 (.bool true)).oth bn4 HN4.out 2 (.int .i64 0)).oth bn4 HN4.out 3 (.int .i64 8))
    exact ⟨rfl, R5, FN.out nq _ _ _ _ _⟩
  · obtain rfl : E = 14 := hE.trans (if_neg e)
    clear hE
    have hne : nd q.head ≠ nd q.tail := fun x => e (hinj x)
    obtain ⟨j61, hj61, hsz61⟩ := info61
    obtain ⟨ca, hca, _⟩ := H.out.nodes q.head hh
    obtain ⟨cb, hcb, _⟩ := H.out.nodes q.tail ht
    have he : ∀ m, (binOp .eql 59 (.pointer (some ⟨nd q.head, 0, none⟩)) (.pointer (some ⟨nd q.tail, 0, none⟩))).run Try.prog (W1.drewN m) = .ok (.bool false) (W1.drewN m) := fun m => run_eql_ptr_other _ Try.underlying59 hj61 hsz61 (by simp [hne]) hca hcb
    clear hinj e hca hcb hne
    go_quiet (fail)
    go_wp2
    generalize hW : World.setCell _ _ _ = W4
    have q0 : W4.cell? ⟨S4, 0, none⟩ = some (.bool true) := by subst hW; go_cell
    have q1 : W4.cell? ⟨S4, 1, none⟩ = some (.bool true) := by subst hW; go_cell
    have q2 : W4.cell? ⟨S4, 2, none⟩ = some (.int .i64 0) := by subst hW; go_cell
    have q3 : W4.cell? ⟨S4, 3, none⟩ = some (.int .i64 14) := by subst hW; go_cell
    refine bodyPost_ret (by simp [results, Try.results23, go_sem, q0, q1, q2, q3]; try rfl) rfl ?_
    rw [← hW]
    have R5 := ((((((H.out.drewN nq).oth bn5 HN5.out 3 (.int .i64 14)).oth bn4 HN4.out 0 (.bool true)).oth bn4 HN4.out 1 (.bool true)).oth bn4 HN4.out 2 (.int .i64 0)).oth bn4 HN4.out 3 (.int .i64 14))
    exact ⟨rfl, R5, FN.out nq _ _ _ _ _⟩
end
end Go.Proofs.Ytcbbjcafgnddcaa
