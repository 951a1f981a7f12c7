/- The queue's put and take. -/
import Derived.Test.YtcbbjcafgnddcaaM2
namespace Go.Proofs.Ytcbbjcafgnddcaa
open Go.RowKit
set_option linter.unusedVariables false
set_option linter.unusedSimpArgs false
structure D where
  over : Bool := false
  take : Bool := false
  v : Int := 0
  err : Int := 0
deriving DecidableEq
def dv (d : D) : Value := .agg #[.bool d.over, .bool d.take, .int .i64 d.v, .int .i64 d.err]
theorem fr_new {w W : World} {S : Nat → Prop} (g : Fr w W S) {k : Nat} (hk : w.heap.size ≤ k) (o : Nat) (v : Value) : Fr w (W.setCell ⟨k, o, none⟩ v) S :=
  ⟨g.os, g.tape, g.output, by rw [World.size_setCell]; exact g.size, fun j hj n => (Below.heap_setCell _ _ _ _ (by show j ≠ k; omega)).trans (g.block j hj n)⟩
theorem Rw.oth {w : World} {b : Nat} {S : Nat → Prop} {q : Q} {nd : Nat → Nat} {f : Nat → Value} (h : Rw w b S q nd f) {k : Nat} (hb : b ≠ k) (hn : ∀ i, i < q.n → nd i ≠ k) (o : Nat) (v : Value) : Rw (w.setCell ⟨k, o, none⟩ v) b S q nd f :=
  { h with s := h.s.setOther hb v, nodes := fun i hi => (h.nodes i hi).setOther (hn i hi) v }
theorem Rw.drew {w : World} {b : Nat} {S : Nat → Prop} {q : Q} {nd : Nat → Nat} {f : Nat → Value} (h : Rw w b S q nd f) : Rw w.drew b S q nd f := { h with s := h.s, nodes := h.nodes }
section
variable {w w1 : World} {b : Nat} {S S' : Nat → Prop} {q q' : Q} {nd : Nat → Nat} {f f' : Nat → Value}
set_option maxRecDepth 100000 in
set_option maxHeartbeats 2000000 in
theorem put1 (h : Rw w b S q nd f) (n : Nat) (hn : n < 8) (i : Nat) (hi : i < q.n) (hm : f (3 + n * 4 + 1) = .int .i64 1) (ho : f (3 + n * 4 + 2) = pn nd i) :
    Calls Try.prog 22 #[.pointer (some ⟨b, 0, none⟩), .pointer (some ⟨b, 3 + n * 4, none⟩)] w fun e w' => e = .returned (.agg #[.bool false, .bool false, .int .i64 0, .int .i64 0]) ∧ Rw w' b S { q with nx := fun j => if j = i then 0 else q.nx j } nd f ∧ Fr w w' S := by
  have hz := zero29
  have c1 := h.cell (3 + n * 4 + 1) (by omega)
  have c2 := h.cell (3 + n * 4 + 2) (by omega)
  rw [hm] at c1
  rw [ho] at c2
  have x1 := h.nxt i hi
  have z1 := h.frozN i hi 1
  have hl := h.lt
  have hli := h.ltN i hi
  have H := Lib.hid h
  unfold pn at c2
  clear h hm ho
  go_enter Try.func22, Try.ntmps22
  go_wp2
  go_returns
  exact ⟨rfl, (H.out.setNx i hi 0).alloc _, (fr_set w S _ _ _ (H.out.sn i hi)).trans' (fr_alloc _ _ _)⟩
def g2 (f : Nat → Value) (nd : Nat → Nat) (n i hd : Nat) (j : Nat) : Value := if j = 0 then pn nd i else if j = 3 + n * 4 + 3 then pn nd hd else f j
theorem Rw.cg (h : Rw w b S q nd f) (e : ∀ i, f i = f' i) : Rw w b S q nd f' := by
  have : f = f' := funext e
  subst this; exact h
set_option maxRecDepth 100000 in
set_option maxHeartbeats 2000000 in
theorem put2 (h : Rw w b S q nd f) (n : Nat) (hn : n < 8) (i : Nat) (hi : i < q.n) (hm : f (3 + n * 4 + 1) = .int .i64 2) (ho : f (3 + n * 4 + 2) = pn nd i) :
    Calls Try.prog 22 #[.pointer (some ⟨b, 0, none⟩), .pointer (some ⟨b, 3 + n * 4, none⟩)] w fun e w' => e = .returned (.agg #[.bool false, .bool false, .int .i64 0, .int .i64 0]) ∧ Rw w' b S { q with head := i } nd (g2 f nd n i q.head) ∧ Fr w w' S := by
  have hz := zero29
  have r4 := row_new w #[.bool false, .bool false, .int .i64 0, .int .i64 0] 29 4 (fun i => if i < 2 then .bool false else .int .i64 0) rfl (fun i hi => by match i, hi with | 0, _ => rfl | 1, _ => rfl | 2, _ => rfl | 3, _ => rfl)
  have hl := h.lt
  have H1 := h.alloc (.cells #[.bool false, .bool false, .int .i64 0, .int .i64 0] 29)
  have G1 := fr_alloc w S (.cells #[.bool false, .bool false, .int .i64 0, .int .i64 0] 29)
  have HL := Lib.hid (fun i hi => h.ltN i hi)
  have k1 := h.cell (3 + n * 4 + 1) (by omega)
  rw [hm] at k1
  clear h
  go_enter Try.func22, Try.ntmps22
  go_wp2_with fail
  clear k1
  generalize w.alloc (.cells #[.bool false, .bool false, .int .i64 0, .int .i64 0] 29) = W1 at *
  have hn4 : ∀ i, i < q.n → nd i ≠ w.heap.size := fun i hi => by have := HL.out i hi; omega
  have HN4 := Lib.hid hn4
  have FN := Lib.hid (fun (W : World) (g : Fr W1 W S) (v0 v1 v2 v3 : Value) => fr_new (fr_new (fr_new (fr_new (G1.trans' g) (Nat.le_refl _) 0 v0) (Nat.le_refl _) 1 v1) (Nat.le_refl _) 2 v2) (Nat.le_refl _) 3 v3)
  have bn4 : b ≠ w.heap.size := by omega
  have s40 := row_val r4 (i := 0) (v := .bool false) (by omega) rfl
  have s41 := row_val r4 (i := 1) (v := .bool false) (by omega) rfl
  have s42 := row_val r4 (i := 2) (v := .int .i64 0) (by omega) rfl
  have s43 := row_val r4 (i := 3) (v := .int .i64 0) (by omega) rfl
  have z40 := World.rowIs.frozen r4 0
  have z41 := World.rowIs.frozen r4 1
  have z42 := World.rowIs.frozen r4 2
  have z43 := World.rowIs.frozen r4 3
  clear hn4 r4 G1
  generalize w.heap.size = S4 at *
  have c1 := H1.cell (3 + n * 4 + 1) (by omega)
  have c2 := H1.cell (3 + n * 4 + 2) (by omega)
  have c3 := H1.cell (3 + n * 4 + 3) (by omega)
  have c0 := H1.cell 0 (by omega)
  rw [hm] at c1
  rw [ho] at c2
  rw [H1.f0] at c0
  unfold pn at c0 c2
  have z3 := H1.froz (3 + n * 4 + 3)
  have z0 := H1.froz 0
  have H := Lib.hid H1
  clear H1 hm ho
  go_region
  all_goals go_wp2
  all_goals
    generalize hW : World.setCell _ _ _ = W4
    have q0 : W4.cell? ⟨S4, 0, none⟩ = some (.bool false) := by subst hW; go_cell
    have q1 : W4.cell? ⟨S4, 1, none⟩ = some (.bool false) := by subst hW; go_cell
    have q2 : W4.cell? ⟨S4, 2, none⟩ = some (.int .i64 0) := by subst hW; go_cell
    have q3 : W4.cell? ⟨S4, 3, none⟩ = some (.int .i64 0) := by subst hW; go_cell
    refine bodyPost_ret (by simp [results, Try.results22, go_sem, q0, q1, q2, q3]; try rfl) rfl ?_
    rw [← hW]
  have R := ((H.out.setT (3 + n * 4 + 3) (pn nd q.head) (by omega)).setHead i)
  have R5 := (((R.oth bn4 HN4.out 0 (.bool false)).oth bn4 HN4.out 1 (.bool false)).oth bn4 HN4.out 2 (.int .i64 0)).oth bn4 HN4.out 3 (.int .i64 0)
  have G5 := FN.out _ ((fr_set W1 S b (3 + n * 4 + 3) (pn nd q.head) H.out.sb).trans' (fr_set _ S b 0 (pn nd i) H.out.sb)) (.bool false) (.bool false) (.int .i64 0) (.int .i64 0)
  exact ⟨rfl, R5.drew, G5.trans' (fr_drew _ _)⟩
set_option maxRecDepth 100000 in
set_option maxHeartbeats 2000000 in
theorem put3 (h : Rw w b S q nd f) (n : Nat) (hn : n < 8) (i p : Nat) (hi : i < q.n) (hp : p < q.n) (hi0 : i ≠ 0) (hm : f (3 + n * 4 + 1) = .int .i64 3) (ho : f (3 + n * 4 + 2) = pn nd i) (ha : f (3 + n * 4 + 3) = pn nd p) :
    Calls Try.prog 22 #[.pointer (some ⟨b, 0, none⟩), .pointer (some ⟨b, 3 + n * 4, none⟩)] w fun e w' => e = .returned (.agg #[.bool true, .bool false, .int .i64 (q.v i), .int .i64 0]) ∧ Rw w' b S { q with nx := fun j => if j = p then i else q.nx j } nd (fun j => if j = 3 + n * 4 then .bool false else f j) ∧ Fr w w' S := by
  have hz := zero29
  have r4 := row_new w #[.bool false, .bool false, .int .i64 0, .int .i64 0] 29 4 (fun i => if i < 2 then .bool false else .int .i64 0) rfl (fun i hi => by match i, hi with | 0, _ => rfl | 1, _ => rfl | 2, _ => rfl | 3, _ => rfl)
  have hl := h.lt
  have H1 := h.alloc (.cells #[.bool false, .bool false, .int .i64 0, .int .i64 0] 29)
  have G1 := fr_alloc w S (.cells #[.bool false, .bool false, .int .i64 0, .int .i64 0] 29)
  have HL := Lib.hid (fun i hi => h.ltN i hi)
  have k1 := h.cell (3 + n * 4 + 1) (by omega)
  rw [hm] at k1
  clear h
  go_enter Try.func22, Try.ntmps22
  go_wp2_with fail
  clear k1
  generalize w.alloc (.cells #[.bool false, .bool false, .int .i64 0, .int .i64 0] 29) = W1 at *
  have hn4 : ∀ i, i < q.n → nd i ≠ w.heap.size := fun i hi => by have := HL.out i hi; omega
  have HN4 := Lib.hid hn4
  have FN := Lib.hid (fun (W : World) (g : Fr W1 W S) (v0 v1 v2 v3 : Value) => fr_new (fr_new (fr_new (fr_new (G1.trans' g) (Nat.le_refl _) 0 v0) (Nat.le_refl _) 1 v1) (Nat.le_refl _) 2 v2) (Nat.le_refl _) 3 v3)
  have bn4 : b ≠ w.heap.size := by omega
  have s40 := row_val r4 (i := 0) (v := .bool false) (by omega) rfl
  have s41 := row_val r4 (i := 1) (v := .bool false) (by omega) rfl
  have s42 := row_val r4 (i := 2) (v := .int .i64 0) (by omega) rfl
  have s43 := row_val r4 (i := 3) (v := .int .i64 0) (by omega) rfl
  have z40 := World.rowIs.frozen r4 0
  have z41 := World.rowIs.frozen r4 1
  have z42 := World.rowIs.frozen r4 2
  have z43 := World.rowIs.frozen r4 3
  clear hn4 r4 G1
  generalize w.heap.size = S4 at *
  have c1 := H1.cell (3 + n * 4 + 1) (by omega)
  have c2 := H1.cell (3 + n * 4 + 2) (by omega)
  have c3 := H1.cell (3 + n * 4 + 3) (by omega)
  have c0 := H1.cell (3 + n * 4) (by omega)
  rw [hm] at c1
  rw [ho] at c2
  rw [ha] at c3
  unfold pn at c2 c3
  have z0 := H1.froz (3 + n * 4)
  have x1 := H1.nxt p hp
  have z1 := H1.frozN p hp 1
  have x0 := H1.val i hi
  have ni := H1.ne i hi
  have np := H1.ne p hp
  have ni4 := HN4.out i hi
  have np4 := HN4.out p hp
  have H := Lib.hid H1
  clear H1 hm ho ha
  go_region
  all_goals go_wp2
  all_goals
    generalize hW : World.setCell _ _ _ = W4
    have q0 : W4.cell? ⟨S4, 0, none⟩ = some (.bool true) := by subst hW; go_cell
    have q1 : W4.cell? ⟨S4, 1, none⟩ = some (.bool false) := by subst hW; go_cell
    have q2 : W4.cell? ⟨S4, 2, none⟩ = some (.int .i64 (q.v i)) := by subst hW; go_cell
    have q3 : W4.cell? ⟨S4, 3, none⟩ = some (.int .i64 0) := by subst hW; go_cell
    refine bodyPost_ret (by simp [results, Try.results22, go_sem, q0, q1, q2, q3]; try rfl) rfl ?_
    rw [← hW]
  have R := (H.out.setNx p hp i).setT (3 + n * 4) (.bool false) (by omega)
  have e1 : pz nd i = pn nd i := by unfold pz; rw [if_neg hi0]
  rw [e1] at R
  have R5 := (((R.oth bn4 HN4.out 0 (.bool true)).oth bn4 HN4.out 1 (.bool false)).oth bn4 HN4.out 2 (.int .i64 (q.v i))).oth bn4 HN4.out 3 (.int .i64 0)
  have G5 := FN.out _ ((fr_set W1 S (nd p) 1 (pn nd i) (H.out.sn p hp)).trans' (fr_set _ S b (3 + n * 4) (.bool false) H.out.sb)) (.bool true) (.bool false) (.int .i64 (q.v i)) (.int .i64 0)
  exact ⟨rfl, R5.drew, G5.trans' (fr_drew _ _)⟩
end
end Go.Proofs.Ytcbbjcafgnddcaa
