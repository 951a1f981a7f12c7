/- The queue's Step and Busy. -/
import Derived.Test.YtcbbjcafgnddcaaM5
namespace Go.Proofs.Ytcbbjcafgnddcaa
open Go.RowKit
set_option linter.unusedVariables false
set_option linter.unusedSimpArgs false
section
variable {w w1 : World} {b : Nat} {S S' : Nat → Prop} {q q' : Q} {nd : Nat → Nat} {f f' : Nat → Value}
theorem dv_eq (d : D) : dv d = .agg #[.bool d.over, .bool d.take, .int .i64 d.v, .int .i64 d.err] := rfl
set_option maxRecDepth 100000 in
set_option maxHeartbeats 2000000 in
theorem step_any (h : IsQ w b S q nd f) (V : Val q) (k : Int) : Calls Try.prog 12 #[.pointer (some ⟨b, 0, none⟩), .int .i64 k] w fun e w' => e = .returned (.tuple #[.agg #[.bool (step q k).1.1.over, .bool (step q k).1.1.take, .int .i64 (step q k).1.1.v, .int .i64 (step q k).1.1.err], .int .i64 (step q k).1.2]) ∧ (∃ f', IsQ w' b S (step q k).2 nd f') ∧ Fr w w' S := by
  by_cases h1 : k < 0 ∨ 8 ≤ k
  · have e : step q k = (({}, 1), q) := by unfold step; rw [if_pos h1]
    rw [e]
    have hz := zero29
    have H := Lib.hid h
    clear h e
    go_enter Try.func12, Try.ntmps12
    go_wp2_with fail
    refine (thread_out b k h1 _).mono ?_
    rintro e w' ⟨rfl, rfl⟩
    go_wp2
    go_returns
    exact ⟨rfl, ⟨f, H.out.r.alloc _, H.out.t⟩, fr_alloc _ _ _⟩
  · obtain ⟨n, rfl⟩ : ∃ n : Nat, k = n := ⟨k.toNat, by omega⟩
    have hn : n < 8 := by omega
    have ht := h.t n hn
    have t0 := h.r.cell (3 + n * 4) (by omega)
    rw [ht.1] at t0
    have hl := h.r.lt
    by_cases h2 : (q.th n).on = false
    · have e : step q n = (({}, 13), q) := by unfold step; rw [if_neg h1, if_pos (by simpa using h2)]
      rw [e]
      rw [h2] at t0
      have hz := zero29
      have H := Lib.hid h
      clear h e ht h1 h2
      go_enter Try.func12, Try.ntmps12
      go_wp2_with fail
      refine (thread_in b n hn _).mono ?_
      rintro e w' ⟨rfl, rfl⟩
      go_wp2
      go_returns
      exact ⟨rfl, ⟨f, H.out.r.alloc _, H.out.t⟩, fr_alloc _ _ _⟩
    · have h2' : (q.th n).on = true := by simpa using h2
      rw [h2'] at t0
      have t1 := h.r.cell (3 + n * 4 + 1) (by omega)
      rw [(ht.2 h2').1] at t1
      have z1 := h.r.froz (3 + n * 4 + 1)
      have hm := V.made n hn h2'
      have hm3 : (q.th n).made < 3 := by split at hm <;> omega
      have hR := ((h.r.tight).setT (3 + n * 4 + 1) (.int .i64 ((q.th n).made + 1)) (by omega)).alloc (.cells #[.bool false, .bool false, .int .i64 0, .int .i64 0] 29)
      have r4 := row_new (w.setCell ⟨b, 3 + n * 4 + 1, none⟩ (.int .i64 ((q.th n).made + 1))) #[.bool false, .bool false, .int .i64 0, .int .i64 0] 29 4 (fun i => if i < 2 then .bool false else .int .i64 0) rfl (fun i hi => by match i, hi with | 0, _ => rfl | 1, _ => rfl | 2, _ => rfl | 3, _ => rfl)
      rw [World.size_setCell] at r4
      have G1 := (fr_set w S b (3 + n * 4 + 1) (.int .i64 ((q.th n).made + 1)) h.r.sb).trans' (fr_alloc _ S (.cells #[.bool false, .bool false, .int .i64 0, .int .i64 0] 29))
      have HS := Lib.hid (fun k hk => h.r.sub k hk)
      have hfp : ¬ fp b nd q.n w.heap.size := fun x => by
        rcases x with e | ⟨i, hi, e⟩
        · omega
        · have := h.r.ltN i hi; omega
      have HFP := Lib.hid hfp
      have hz := zero29
      by_cases h3 : n = 0
      · subst h3
        have e : step q (0 : Nat) = (((take q).1, 0), (take q).2) := by unfold step; rw [if_neg h1, if_neg (by simpa using h2)]; simp
        rw [e]
        have HT := Lib.hid (fun (W1 : World) (hw : Rw W1 b (fp b nd q.n) q nd (fm f 4 ((q.th 0).made + 1))) => take_any h V h2' hw)
        have HTQ : Hid ((take q).2.n = q.n) := Lib.hid (by unfold take; split; rfl; split <;> rfl)
        clear h e ht h1 h2 h2' hm hfp
        generalize (q.th 0).made = m0 at *
        generalize take q = tq at HT HTQ ⊢
        go_enter Try.func12, Try.ntmps12
        go_wp2_with fail
        refine (thread_in b 0 hn _).mono ?_
        rintro e w' ⟨rfl, rfl⟩
        go_wp2_with fail
        refine (HT.out _ hR).mono ?_
        rintro e w2 ⟨he, hq, g⟩
        rw [dv_eq] at he
        subst he
        have r4' := row_fr r4 g HFP.out
        have G2 := G1.trans' (g.mono HS.out)
        have FN := Lib.hid (fun (v0 v1 v2 v3 : Value) => fr_new (fr_new (fr_new (fr_new G2 (Nat.le_refl _) 0 v0) (Nat.le_refl _) 1 v1) (Nat.le_refl _) 2 v2) (Nat.le_refl _) 3 v3)
        have bn4 : b ≠ w.heap.size := by omega
        have hn4 : ∀ i, i < q.n → nd i ≠ w.heap.size := fun i hi e => HFP.out (.inr ⟨i, hi, e.symm⟩)
        have HN4 := Lib.hid hn4
        clear hn4 r4 g G1 G2 hR t0 t1 z1
        have s40 := row_val r4' (i := 0) (v := .bool false) (by omega) rfl
        have s41 := row_val r4' (i := 1) (v := .bool false) (by omega) rfl
        have s42 := row_val r4' (i := 2) (v := .int .i64 0) (by omega) rfl
        have s43 := row_val r4' (i := 3) (v := .int .i64 0) (by omega) rfl
        have z40 := World.rowIs.frozen r4' 0
        have z41 := World.rowIs.frozen r4' 1
        have z42 := World.rowIs.frozen r4' 2
        have z43 := World.rowIs.frozen r4' 3
        have HQ := Lib.hid hq
        clear hq r4'
        generalize w.heap.size = S4 at *
        go_wp2
        generalize hW : World.setCell _ _ _ = W4
        have q0 : W4.cell? ⟨S4, 0, none⟩ = some (.bool tq.1.over) := by subst hW; go_cell
        have q1 : W4.cell? ⟨S4, 1, none⟩ = some (.bool tq.1.take) := by subst hW; go_cell
        have q2 : W4.cell? ⟨S4, 2, none⟩ = some (.int .i64 tq.1.v) := by subst hW; go_cell
        have q3 : W4.cell? ⟨S4, 3, none⟩ = some (.int .i64 tq.1.err) := by subst hW; go_cell
        refine bodyPost_ret (by simp [results, Try.results12, go_sem, q0, q1, q2, q3]; try rfl) rfl ?_
        rw [← hW]
        obtain ⟨f', hq⟩ := HQ.out
        refine ⟨rfl, ⟨f', IsQ.mono ⟨?_, hq.t⟩ HS.out⟩, FN.out _ _ _ _⟩
        exact (((hq.r.oth bn4 (fun i hi => HN4.out i (by rw [← HTQ.out]; exact hi)) 0 _).oth bn4 (fun i hi => HN4.out i (by rw [← HTQ.out]; exact hi)) 1 _).oth bn4 (fun i hi => HN4.out i (by rw [← HTQ.out]; exact hi)) 2 _).oth bn4 (fun i hi => HN4.out i (by rw [← HTQ.out]; exact hi)) 3 _
      · have e : step q n = (((put q n).1, 0), (put q n).2) := by unfold step; rw [if_neg h1, if_neg (by simpa using h2), if_neg (by omega)]; simp
        rw [e]
        have HT := Lib.hid (fun (W1 : World) (hw : Rw W1 b (fp b nd q.n) q nd (fm f (3 + n * 4 + 1) ((q.th n).made + 1))) => put_any h V n hn h3 h2' hw)
        have HTQ : Hid ((put q n).2.n = q.n) := Lib.hid (by unfold put; split; rfl; split <;> rfl)
        have hnp : (0 : Int) < (n : Int) := by omega
        clear h e ht h1 h2 h2' hm hfp
        generalize (q.th n).made = m0 at *
        generalize put q n = tq at HT HTQ ⊢
        go_enter Try.func12, Try.ntmps12
        go_wp2_with fail
        refine (thread_in b n hn _).mono ?_
        rintro e w' ⟨rfl, rfl⟩
        go_wp2_with fail
        refine (HT.out _ hR).mono ?_
        rintro e w2 ⟨he, hq, g⟩
        rw [dv_eq] at he
        subst he
        have r4' := row_fr r4 g HFP.out
        have G2 := G1.trans' (g.mono HS.out)
        have FN := Lib.hid (fun (v0 v1 v2 v3 : Value) => fr_new (fr_new (fr_new (fr_new G2 (Nat.le_refl _) 0 v0) (Nat.le_refl _) 1 v1) (Nat.le_refl _) 2 v2) (Nat.le_refl _) 3 v3)
        have bn4 : b ≠ w.heap.size := by omega
        have hn4 : ∀ i, i < q.n → nd i ≠ w.heap.size := fun i hi e => HFP.out (.inr ⟨i, hi, e.symm⟩)
        have HN4 := Lib.hid hn4
        clear hn4 r4 g G1 G2 hR t0 t1 z1
        have s40 := row_val r4' (i := 0) (v := .bool false) (by omega) rfl
        have s41 := row_val r4' (i := 1) (v := .bool false) (by omega) rfl
        have s42 := row_val r4' (i := 2) (v := .int .i64 0) (by omega) rfl
        have s43 := row_val r4' (i := 3) (v := .int .i64 0) (by omega) rfl
        have z40 := World.rowIs.frozen r4' 0
        have z41 := World.rowIs.frozen r4' 1
        have z42 := World.rowIs.frozen r4' 2
        have z43 := World.rowIs.frozen r4' 3
        have HQ := Lib.hid hq
        clear hq r4'
        generalize w.heap.size = S4 at *
        go_wp2
        generalize hW : World.setCell _ _ _ = W4
        have q0 : W4.cell? ⟨S4, 0, none⟩ = some (.bool tq.1.over) := by subst hW; go_cell
        have q1 : W4.cell? ⟨S4, 1, none⟩ = some (.bool tq.1.take) := by subst hW; go_cell
        have q2 : W4.cell? ⟨S4, 2, none⟩ = some (.int .i64 tq.1.v) := by subst hW; go_cell
        have q3 : W4.cell? ⟨S4, 3, none⟩ = some (.int .i64 tq.1.err) := by subst hW; go_cell
        refine bodyPost_ret (by simp [results, Try.results12, go_sem, q0, q1, q2, q3]; try rfl) rfl ?_
        rw [← hW]
        obtain ⟨f', hq⟩ := HQ.out
        refine ⟨rfl, ⟨f', IsQ.mono ⟨?_, hq.t⟩ HS.out⟩, FN.out _ _ _ _⟩
        exact (((hq.r.oth bn4 (fun i hi => HN4.out i (by rw [← HTQ.out]; exact hi)) 0 _).oth bn4 (fun i hi => HN4.out i (by rw [← HTQ.out]; exact hi)) 1 _).oth bn4 (fun i hi => HN4.out i (by rw [← HTQ.out]; exact hi)) 2 _).oth bn4 (fun i hi => HN4.out i (by rw [← HTQ.out]; exact hi)) 3 _
theorem busy_any (h : IsQ w b S q nd f) (k : Int) (o : Bool) (ho : o = (decide (0 ≤ k ∧ k < 8) && (q.th k.toNat).on)) : Calls Try.prog 19 #[.pointer (some ⟨b, 0, none⟩), .int .i64 k] w fun e w' => e = .returned (.bool o) ∧ w' = w := by
  by_cases h1 : k < 0 ∨ 8 ≤ k
  · have e : o = false := by rw [ho, decide_eq_false (by omega)]; rfl
    rw [e]
    clear h ho e
    go_enter Try.func19, Try.ntmps19
    go_wp2_with fail
    refine (thread_out b k h1 _).mono ?_
    rintro e w' ⟨rfl, rfl⟩
    go_wp2
    go_ret
    exact ⟨rfl, rfl⟩
  · obtain ⟨n, rfl⟩ : ∃ n : Nat, k = n := ⟨k.toNat, by omega⟩
    have hn : n < 8 := by omega
    have e : o = (q.th n).on := by rw [ho, decide_eq_true (by omega)]; simp
    have t0 := h.r.cell (3 + n * 4) (by omega)
    rw [(h.t n hn).1, ← e] at t0
    clear h ho e
    go_enter Try.func19, Try.ntmps19
    go_wp2_with fail
    refine (thread_in b n hn _).mono ?_
    rintro e w' ⟨rfl, rfl⟩
    go_wp2
    go_ret
    exact ⟨rfl, rfl⟩
end
end Go.Proofs.Ytcbbjcafgnddcaa
