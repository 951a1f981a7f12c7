/- The reference's Step, Begin, Items. -/
import Derived.Test.YtldobbdaokjgaaaP23
import Derived.Deep.RegionLaw
namespace Go.Proofs.Ytldobbdaokjgaaa
open Go.RowKit
set_option linter.unusedVariables false
set_option linter.unusedSimpArgs false
section
variable {w w1 : World} {c g p : Nat} {r : R}
set_option maxRecDepth 100000 in
set_option maxHeartbeats 8000000 in
theorem mstep_push (h : Rf w c g p r) (m m' yv yt yb : Int) (yw : Bool) (hth : r.th 0 = { on := true, op := 0, made := m, v := yv, t := yt, b := yb, won := yw }) (hm : IntKind.i64.wrap (m + 1) = m') (r' : R) (d : D)
    (hcall : ∀ W, Rf W c g p r → Calls Try.prog 29 #[.pointer (some ⟨c, 0, none⟩), .agg #[.bool true, .int .i64 0, .int .i64 m', .int .i64 yv, .int .i64 yt, .int .i64 yb, .bool yw]] W (Pd W c g p r' d)) :
    Calls Try.prog 21 #[.pointer (some ⟨c, 0, none⟩), .int .i64 0] w fun e w' => e = .returned (.tuple #[dv d, .int .i64 0]) ∧ Rf w' c g p r' ∧ Fr w w' (S3 c g p) := by
  have hz := zero51
  have hz5 := zero55
  have c3 := h.c3
  have t0 := h.t0 0 (by omega)
  have t1 := h.t1 0 (by omega)
  have t2 := h.t2 0 (by omega)
  have t3 := h.t3 0 (by omega)
  have t4 := h.t4 0 (by omega)
  have t5 := h.t5 0 (by omega)
  have t6 := h.t6 0 (by omega)
  rw [hth] at t0 t1 t2 t3 t4 t5 t6
  rw [Nat.zero_mul] at t0
  rw [Nat.zero_mul, Nat.zero_add] at t1 t2 t3 t4 t5 t6
  dsimp only at t0 t1 t2 t3 t4 t5 t6
  have hlc := h.s.lt
  have hlg := h.t.lt
  have hlp := h.u.lt
  have n1 : c ≠ w.heap.size := by omega
  have n2 : g ≠ w.heap.size := by omega
  have HC := Lib.hid (hcall _ (((h.alloc (.cells #[.bool false, .int .i64 0, .int .i64 0, .int .i64 0] 51)).alloc (.cells #[.bool true, .int .i64 0, .int .i64 m', .int .i64 yv, .int .i64 yt, .int .i64 yb, .bool yw] 55)).alloc (.cells #[.bool false, .int .i64 0, .int .i64 0, .int .i64 0] 51)))
  have F0 := Lib.hid (((fr_alloc w (S3 c g p) (.cells #[.bool false, .int .i64 0, .int .i64 0, .int .i64 0] 51)).trans' (fr_alloc _ _ (.cells #[.bool true, .int .i64 0, .int .i64 m', .int .i64 yv, .int .i64 yt, .int .i64 yb, .bool yw] 55))).trans' (fr_alloc _ _ (.cells #[.bool false, .int .i64 0, .int .i64 0, .int .i64 0] 51)))
  have rs := ((row_new w #[.bool false, .int .i64 0, .int .i64 0, .int .i64 0] 51 4 (bxg {}) rfl (fun i hi => by match i, hi with | 0, _ => rfl | 1, _ => rfl | 2, _ => rfl | 3, _ => rfl)).alloc (.cells #[.bool true, .int .i64 0, .int .i64 m', .int .i64 yv, .int .i64 yt, .int .i64 yb, .bool yw] 55)).alloc (.cells #[.bool false, .int .i64 0, .int .i64 0, .int .i64 0] 51)
  have rx := row_new ((w.alloc (.cells #[.bool false, .int .i64 0, .int .i64 0, .int .i64 0] 51)).alloc (.cells #[.bool true, .int .i64 0, .int .i64 m', .int .i64 yv, .int .i64 yt, .int .i64 yb, .bool yw] 55)) #[.bool false, .int .i64 0, .int .i64 0, .int .i64 0] 51 4 (bxg {}) rfl (fun i hi => by match i, hi with | 0, _ => rfl | 1, _ => rfl | 2, _ => rfl | 3, _ => rfl)
  rw [World.size_alloc, World.size_alloc] at rx
  have HRS := Lib.hid (And.intro rs rx)
  clear h hth hcall rs rx
  go_enter Try.func21, Try.ntmps21
  go_wp2_with fail
  refine HC.out.mono ?_
  rintro e W2 ⟨rfl, k1, k2⟩
  have rs := row_fr HRS.out.1 k2 (by unfold S3; omega)
  have rx := row_fr HRS.out.2 k2 (by unfold S3; omega)
  have KK := Lib.hid (And.intro k1 (F0.out.trans' k2))
  obtain ⟨dO, dX, dV, dR⟩ := d
  have nn1 : w.heap.size ≠ w.heap.size + 1 + 1 := by omega
  have nn2 : w.heap.size + 1 + 1 ≠ w.heap.size := by omega
  have x0 := row_val rx (i := 0) (v := .bool false) (by omega) rfl
  have y0 := World.rowIs.frozen rx 0
  have u0 := row_val rs (i := 0) (v := .bool false) (by omega) rfl
  have s0 := World.rowIs.frozen rs 0
  have x1 := row_val rx (i := 1) (v := .int .i64 0) (by omega) rfl
  have y1 := World.rowIs.frozen rx 1
  have u1 := row_val rs (i := 1) (v := .int .i64 0) (by omega) rfl
  have s1 := World.rowIs.frozen rs 1
  have x2 := row_val rx (i := 2) (v := .int .i64 0) (by omega) rfl
  have y2 := World.rowIs.frozen rx 2
  have u2 := row_val rs (i := 2) (v := .int .i64 0) (by omega) rfl
  have s2 := World.rowIs.frozen rs 2
  have x3 := row_val rx (i := 3) (v := .int .i64 0) (by omega) rfl
  have y3 := World.rowIs.frozen rx 3
  have u3 := row_val rs (i := 3) (v := .int .i64 0) (by omega) rfl
  have s3 := World.rowIs.frozen rs 3
  have rz : ((((((((W2.setCell ⟨w.heap.size + 1 + 1, 0, none⟩ (.bool dO)).setCell ⟨w.heap.size + 1 + 1, 1, none⟩ (.int .i64 dX)).setCell ⟨w.heap.size + 1 + 1, 2, none⟩ (.int .i64 dV)).setCell ⟨w.heap.size + 1 + 1, 3, none⟩ (.int .i64 dR)).setCell ⟨w.heap.size, 0, none⟩ (.bool dO)).setCell ⟨w.heap.size, 1, none⟩ (.int .i64 dX)).setCell ⟨w.heap.size, 2, none⟩ (.int .i64 dV)).setCell ⟨w.heap.size, 3, none⟩ (.int .i64 dR)).rowIs w.heap.size 51 4 (bxg { over := dO, op := dX, v := dV, err := dR }) := ((((((((row_fr (row_fr (row_fr (row_fr rs (fr_b _ (w.heap.size + 1 + 1) 0 _) (by omega)) (fr_b _ (w.heap.size + 1 + 1) 1 _) (by omega)) (fr_b _ (w.heap.size + 1 + 1) 2 _) (by omega)) (fr_b _ (w.heap.size + 1 + 1) 3 _) (by omega))))).set 0 _).set 1 _).set 2 _).set 3 _).congr (fun i hi => by match i, hi with | 0, _ => rfl | 1, _ => rfl | 2, _ => rfl | 3, _ => rfl)
  have w0 := row_val rz (i := 0) (v := .bool dO) (by omega) rfl
  have w1 := row_val rz (i := 1) (v := .int .i64 dX) (by omega) rfl
  have w2 := row_val rz (i := 2) (v := .int .i64 dV) (by omega) rfl
  have w3 := row_val rz (i := 3) (v := .int .i64 dR) (by omega) rfl
  clear rs rx rz k1 k2 HRS HC F0 t0 t1 t2 t3 t4 t5 t6 c3
  unfold dv
  go_wp2
  refine bodyPost_ret (by simp [results, Try.results21, go_sem, w0, w1, w2, w3]; try rfl) rfl ?_
  refine ⟨rfl, ?_, ?_⟩
  · (repeat (first | with_reducible refine Rf.far ?_ hlc hlg hlp | with_reducible refine Rf.far ?_ (Nat.lt_succ_of_lt (Nat.lt_succ_of_lt hlc)) (Nat.lt_succ_of_lt (Nat.lt_succ_of_lt hlg)) (Nat.lt_succ_of_lt (Nat.lt_succ_of_lt hlp))))
    exact KK.out.1
  · refine Fr.new ?_
    (repeat (first | with_reducible refine Fr.far ?_ (Nat.le_refl _) | with_reducible refine Fr.far ?_ (Nat.le_succ_of_le (Nat.le_succ _))))
    exact KK.out.2.up
set_option maxRecDepth 100000 in
set_option maxHeartbeats 8000000 in
theorem mstep_pop (h : Rf w c g p r) (m m' yv yt yb : Int) (yw : Bool) (hth : r.th 0 = { on := true, op := 1, made := m, v := yv, t := yt, b := yb, won := yw }) (hm : IntKind.i64.wrap (m + 1) = m') (r' : R) (d : D)
    (hcall : ∀ W, Rf W c g p r → Calls Try.prog 30 #[.pointer (some ⟨c, 0, none⟩), .agg #[.bool true, .int .i64 1, .int .i64 m', .int .i64 yv, .int .i64 yt, .int .i64 yb, .bool yw]] W (Pd W c g p r' d)) :
    Calls Try.prog 21 #[.pointer (some ⟨c, 0, none⟩), .int .i64 0] w fun e w' => e = .returned (.tuple #[dv d, .int .i64 0]) ∧ Rf w' c g p r' ∧ Fr w w' (S3 c g p) := by
  have hz := zero51
  have hz5 := zero55
  have c3 := h.c3
  have t0 := h.t0 0 (by omega)
  have t1 := h.t1 0 (by omega)
  have t2 := h.t2 0 (by omega)
  have t3 := h.t3 0 (by omega)
  have t4 := h.t4 0 (by omega)
  have t5 := h.t5 0 (by omega)
  have t6 := h.t6 0 (by omega)
  rw [hth] at t0 t1 t2 t3 t4 t5 t6
  rw [Nat.zero_mul] at t0
  rw [Nat.zero_mul, Nat.zero_add] at t1 t2 t3 t4 t5 t6
  dsimp only at t0 t1 t2 t3 t4 t5 t6
  have hlc := h.s.lt
  have hlg := h.t.lt
  have hlp := h.u.lt
  have n1 : c ≠ w.heap.size := by omega
  have n2 : g ≠ w.heap.size := by omega
  have HC := Lib.hid (hcall _ (((h.alloc (.cells #[.bool false, .int .i64 0, .int .i64 0, .int .i64 0] 51)).alloc (.cells #[.bool true, .int .i64 1, .int .i64 m', .int .i64 yv, .int .i64 yt, .int .i64 yb, .bool yw] 55)).alloc (.cells #[.bool false, .int .i64 0, .int .i64 0, .int .i64 0] 51)))
  have F0 := Lib.hid (((fr_alloc w (S3 c g p) (.cells #[.bool false, .int .i64 0, .int .i64 0, .int .i64 0] 51)).trans' (fr_alloc _ _ (.cells #[.bool true, .int .i64 1, .int .i64 m', .int .i64 yv, .int .i64 yt, .int .i64 yb, .bool yw] 55))).trans' (fr_alloc _ _ (.cells #[.bool false, .int .i64 0, .int .i64 0, .int .i64 0] 51)))
  have rs := ((row_new w #[.bool false, .int .i64 0, .int .i64 0, .int .i64 0] 51 4 (bxg {}) rfl (fun i hi => by match i, hi with | 0, _ => rfl | 1, _ => rfl | 2, _ => rfl | 3, _ => rfl)).alloc (.cells #[.bool true, .int .i64 1, .int .i64 m', .int .i64 yv, .int .i64 yt, .int .i64 yb, .bool yw] 55)).alloc (.cells #[.bool false, .int .i64 0, .int .i64 0, .int .i64 0] 51)
  have rx := row_new ((w.alloc (.cells #[.bool false, .int .i64 0, .int .i64 0, .int .i64 0] 51)).alloc (.cells #[.bool true, .int .i64 1, .int .i64 m', .int .i64 yv, .int .i64 yt, .int .i64 yb, .bool yw] 55)) #[.bool false, .int .i64 0, .int .i64 0, .int .i64 0] 51 4 (bxg {}) rfl (fun i hi => by match i, hi with | 0, _ => rfl | 1, _ => rfl | 2, _ => rfl | 3, _ => rfl)
  rw [World.size_alloc, World.size_alloc] at rx
  have HRS := Lib.hid (And.intro rs rx)
  clear h hth hcall rs rx
  go_enter Try.func21, Try.ntmps21
  go_wp2_with fail
  refine HC.out.mono ?_
  rintro e W2 ⟨rfl, k1, k2⟩
  have rs := row_fr HRS.out.1 k2 (by unfold S3; omega)
  have rx := row_fr HRS.out.2 k2 (by unfold S3; omega)
  have KK := Lib.hid (And.intro k1 (F0.out.trans' k2))
  obtain ⟨dO, dX, dV, dR⟩ := d
  have nn1 : w.heap.size ≠ w.heap.size + 1 + 1 := by omega
  have nn2 : w.heap.size + 1 + 1 ≠ w.heap.size := by omega
  have x0 := row_val rx (i := 0) (v := .bool false) (by omega) rfl
  have y0 := World.rowIs.frozen rx 0
  have u0 := row_val rs (i := 0) (v := .bool false) (by omega) rfl
  have s0 := World.rowIs.frozen rs 0
  have x1 := row_val rx (i := 1) (v := .int .i64 0) (by omega) rfl
  have y1 := World.rowIs.frozen rx 1
  have u1 := row_val rs (i := 1) (v := .int .i64 0) (by omega) rfl
  have s1 := World.rowIs.frozen rs 1
  have x2 := row_val rx (i := 2) (v := .int .i64 0) (by omega) rfl
  have y2 := World.rowIs.frozen rx 2
  have u2 := row_val rs (i := 2) (v := .int .i64 0) (by omega) rfl
  have s2 := World.rowIs.frozen rs 2
  have x3 := row_val rx (i := 3) (v := .int .i64 0) (by omega) rfl
  have y3 := World.rowIs.frozen rx 3
  have u3 := row_val rs (i := 3) (v := .int .i64 0) (by omega) rfl
  have s3 := World.rowIs.frozen rs 3
  have rz : ((((((((W2.setCell ⟨w.heap.size + 1 + 1, 0, none⟩ (.bool dO)).setCell ⟨w.heap.size + 1 + 1, 1, none⟩ (.int .i64 dX)).setCell ⟨w.heap.size + 1 + 1, 2, none⟩ (.int .i64 dV)).setCell ⟨w.heap.size + 1 + 1, 3, none⟩ (.int .i64 dR)).setCell ⟨w.heap.size, 0, none⟩ (.bool dO)).setCell ⟨w.heap.size, 1, none⟩ (.int .i64 dX)).setCell ⟨w.heap.size, 2, none⟩ (.int .i64 dV)).setCell ⟨w.heap.size, 3, none⟩ (.int .i64 dR)).rowIs w.heap.size 51 4 (bxg { over := dO, op := dX, v := dV, err := dR }) := ((((((((row_fr (row_fr (row_fr (row_fr rs (fr_b _ (w.heap.size + 1 + 1) 0 _) (by omega)) (fr_b _ (w.heap.size + 1 + 1) 1 _) (by omega)) (fr_b _ (w.heap.size + 1 + 1) 2 _) (by omega)) (fr_b _ (w.heap.size + 1 + 1) 3 _) (by omega))))).set 0 _).set 1 _).set 2 _).set 3 _).congr (fun i hi => by match i, hi with | 0, _ => rfl | 1, _ => rfl | 2, _ => rfl | 3, _ => rfl)
  have w0 := row_val rz (i := 0) (v := .bool dO) (by omega) rfl
  have w1 := row_val rz (i := 1) (v := .int .i64 dX) (by omega) rfl
  have w2 := row_val rz (i := 2) (v := .int .i64 dV) (by omega) rfl
  have w3 := row_val rz (i := 3) (v := .int .i64 dR) (by omega) rfl
  clear rs rx rz k1 k2 HRS HC F0 t0 t1 t2 t3 t4 t5 t6 c3
  unfold dv
  go_wp2
  refine bodyPost_ret (by simp [results, Try.results21, go_sem, w0, w1, w2, w3]; try rfl) rfl ?_
  refine ⟨rfl, ?_, ?_⟩
  · (repeat (first | with_reducible refine Rf.far ?_ hlc hlg hlp | with_reducible refine Rf.far ?_ (Nat.lt_succ_of_lt (Nat.lt_succ_of_lt hlc)) (Nat.lt_succ_of_lt (Nat.lt_succ_of_lt hlg)) (Nat.lt_succ_of_lt (Nat.lt_succ_of_lt hlp))))
    exact KK.out.1
  · refine Fr.new ?_
    (repeat (first | with_reducible refine Fr.far ?_ (Nat.le_refl _) | with_reducible refine Fr.far ?_ (Nat.le_succ_of_le (Nat.le_succ _))))
    exact KK.out.2.up
set_option maxRecDepth 100000 in
set_option maxHeartbeats 8000000 in
theorem mstep_steal (h : Rf w c g p r) (n : Nat) (hn : n < 8) (hn0 : n ≠ 0) (m m' yv yt yb : Int) (yw : Bool) (hth : r.th n = { on := true, op := 2, made := m, v := yv, t := yt, b := yb, won := yw }) (hm : IntKind.i64.wrap (m + 1) = m') (r' : R) (d : D)
    (hcall : ∀ W, Rf W c g p r → Calls Try.prog 31 #[.pointer (some ⟨c, 0, none⟩), .int .i64 n, .agg #[.bool true, .int .i64 2, .int .i64 m', .int .i64 yv, .int .i64 yt, .int .i64 yb, .bool yw]] W (Pd W c g p r' d)) :
    Calls Try.prog 21 #[.pointer (some ⟨c, 0, none⟩), .int .i64 n] w fun e w' => e = .returned (.tuple #[dv d, .int .i64 0]) ∧ Rf w' c g p r' ∧ Fr w w' (S3 c g p) := by
  have hz := zero51
  have hz5 := zero55
  have c3 := h.c3
  have t0 := h.t0 n hn
  have t1 := h.t1 n hn
  have t2 := h.t2 n hn
  have t3 := h.t3 n hn
  have t4 := h.t4 n hn
  have t5 := h.t5 n hn
  have t6 := h.t6 n hn
  rw [hth] at t0 t1 t2 t3 t4 t5 t6
  dsimp only at t0 t1 t2 t3 t4 t5 t6
  have hk8 : (n : Int) < 8 := by omega
  have hk0 : (0 : Int) ≤ (n : Int) := by omega
  have hlc := h.s.lt
  have hlg := h.t.lt
  have hlp := h.u.lt
  have n1 : c ≠ w.heap.size := by omega
  have n2 : g ≠ w.heap.size := by omega
  have HC := Lib.hid (hcall _ (((h.alloc (.cells #[.bool false, .int .i64 0, .int .i64 0, .int .i64 0] 51)).alloc (.cells #[.bool true, .int .i64 2, .int .i64 m', .int .i64 yv, .int .i64 yt, .int .i64 yb, .bool yw] 55)).alloc (.cells #[.bool false, .int .i64 0, .int .i64 0, .int .i64 0] 51)))
  have F0 := Lib.hid (((fr_alloc w (S3 c g p) (.cells #[.bool false, .int .i64 0, .int .i64 0, .int .i64 0] 51)).trans' (fr_alloc _ _ (.cells #[.bool true, .int .i64 2, .int .i64 m', .int .i64 yv, .int .i64 yt, .int .i64 yb, .bool yw] 55))).trans' (fr_alloc _ _ (.cells #[.bool false, .int .i64 0, .int .i64 0, .int .i64 0] 51)))
  have rs := ((row_new w #[.bool false, .int .i64 0, .int .i64 0, .int .i64 0] 51 4 (bxg {}) rfl (fun i hi => by match i, hi with | 0, _ => rfl | 1, _ => rfl | 2, _ => rfl | 3, _ => rfl)).alloc (.cells #[.bool true, .int .i64 2, .int .i64 m', .int .i64 yv, .int .i64 yt, .int .i64 yb, .bool yw] 55)).alloc (.cells #[.bool false, .int .i64 0, .int .i64 0, .int .i64 0] 51)
  have rx := row_new ((w.alloc (.cells #[.bool false, .int .i64 0, .int .i64 0, .int .i64 0] 51)).alloc (.cells #[.bool true, .int .i64 2, .int .i64 m', .int .i64 yv, .int .i64 yt, .int .i64 yb, .bool yw] 55)) #[.bool false, .int .i64 0, .int .i64 0, .int .i64 0] 51 4 (bxg {}) rfl (fun i hi => by match i, hi with | 0, _ => rfl | 1, _ => rfl | 2, _ => rfl | 3, _ => rfl)
  rw [World.size_alloc, World.size_alloc] at rx
  have HRS := Lib.hid (And.intro rs rx)
  clear h hth hcall rs rx
  go_enter Try.func21, Try.ntmps21
  go_wp2_with fail
  refine HC.out.mono ?_
  rintro e W2 ⟨rfl, k1, k2⟩
  have rs := row_fr HRS.out.1 k2 (by unfold S3; omega)
  have rx := row_fr HRS.out.2 k2 (by unfold S3; omega)
  have KK := Lib.hid (And.intro k1 (F0.out.trans' k2))
  obtain ⟨dO, dX, dV, dR⟩ := d
  have nn1 : w.heap.size ≠ w.heap.size + 1 + 1 := by omega
  have nn2 : w.heap.size + 1 + 1 ≠ w.heap.size := by omega
  have x0 := row_val rx (i := 0) (v := .bool false) (by omega) rfl
  have y0 := World.rowIs.frozen rx 0
  have u0 := row_val rs (i := 0) (v := .bool false) (by omega) rfl
  have s0 := World.rowIs.frozen rs 0
  have x1 := row_val rx (i := 1) (v := .int .i64 0) (by omega) rfl
  have y1 := World.rowIs.frozen rx 1
  have u1 := row_val rs (i := 1) (v := .int .i64 0) (by omega) rfl
  have s1 := World.rowIs.frozen rs 1
  have x2 := row_val rx (i := 2) (v := .int .i64 0) (by omega) rfl
  have y2 := World.rowIs.frozen rx 2
  have u2 := row_val rs (i := 2) (v := .int .i64 0) (by omega) rfl
  have s2 := World.rowIs.frozen rs 2
  have x3 := row_val rx (i := 3) (v := .int .i64 0) (by omega) rfl
  have y3 := World.rowIs.frozen rx 3
  have u3 := row_val rs (i := 3) (v := .int .i64 0) (by omega) rfl
  have s3 := World.rowIs.frozen rs 3
  have rz : ((((((((W2.setCell ⟨w.heap.size + 1 + 1, 0, none⟩ (.bool dO)).setCell ⟨w.heap.size + 1 + 1, 1, none⟩ (.int .i64 dX)).setCell ⟨w.heap.size + 1 + 1, 2, none⟩ (.int .i64 dV)).setCell ⟨w.heap.size + 1 + 1, 3, none⟩ (.int .i64 dR)).setCell ⟨w.heap.size, 0, none⟩ (.bool dO)).setCell ⟨w.heap.size, 1, none⟩ (.int .i64 dX)).setCell ⟨w.heap.size, 2, none⟩ (.int .i64 dV)).setCell ⟨w.heap.size, 3, none⟩ (.int .i64 dR)).rowIs w.heap.size 51 4 (bxg { over := dO, op := dX, v := dV, err := dR }) := ((((((((row_fr (row_fr (row_fr (row_fr rs (fr_b _ (w.heap.size + 1 + 1) 0 _) (by omega)) (fr_b _ (w.heap.size + 1 + 1) 1 _) (by omega)) (fr_b _ (w.heap.size + 1 + 1) 2 _) (by omega)) (fr_b _ (w.heap.size + 1 + 1) 3 _) (by omega))))).set 0 _).set 1 _).set 2 _).set 3 _).congr (fun i hi => by match i, hi with | 0, _ => rfl | 1, _ => rfl | 2, _ => rfl | 3, _ => rfl)
  have w0 := row_val rz (i := 0) (v := .bool dO) (by omega) rfl
  have w1 := row_val rz (i := 1) (v := .int .i64 dX) (by omega) rfl
  have w2 := row_val rz (i := 2) (v := .int .i64 dV) (by omega) rfl
  have w3 := row_val rz (i := 3) (v := .int .i64 dR) (by omega) rfl
  clear rs rx rz k1 k2 HRS HC F0 t0 t1 t2 t3 t4 t5 t6 c3
  unfold dv
  go_wp2
  refine bodyPost_ret (by simp [results, Try.results21, go_sem, w0, w1, w2, w3]; try rfl) rfl ?_
  refine ⟨rfl, ?_, ?_⟩
  · (repeat (first | with_reducible refine Rf.far ?_ hlc hlg hlp | with_reducible refine Rf.far ?_ (Nat.lt_succ_of_lt (Nat.lt_succ_of_lt hlc)) (Nat.lt_succ_of_lt (Nat.lt_succ_of_lt hlg)) (Nat.lt_succ_of_lt (Nat.lt_succ_of_lt hlp))))
    exact KK.out.1
  · refine Fr.new ?_
    (repeat (first | with_reducible refine Fr.far ?_ (Nat.le_refl _) | with_reducible refine Fr.far ?_ (Nat.le_succ_of_le (Nat.le_succ _))))
    exact KK.out.2.up
/-- Begin, as the reference has it -/
def rbegin (r : R) (k op v : Int) : Int × R :=
  if k < 0 ∨ 8 ≤ k ∨ first k op = .no then (1, r)
  else if (r.th k.toNat).on = true then (14, r)
  else (0, r.setY k.toNat { on := true, op := op, v := if op = 0 then v else 0 })
def Bp (w : World) (c g p : Nat) (r : R) (k op v : Int) (e : Ending) (w' : World) : Prop := e = .returned (.int .i64 (rbegin r k op v).1) ∧ Rf w' c g p (rbegin r k op v).2 ∧ Fr w w' (S3 c g p)
theorem mbeg_bad (h : Rf w c g p r) (k op v : Int) (hc : k < 0 ∨ 8 ≤ k ∨ first k op = .no) : Calls Try.prog 20 #[.pointer (some ⟨c, 0, none⟩), .int .i64 k, .int .i64 op, .int .i64 v] w (Bp w c g p r k op v) := by
  have e : rbegin r k op v = (1, r) := by unfold rbegin; rw [if_pos hc]
  unfold Bp
  rw [e]
  have H := Lib.hid h
  clear h e
  by_cases h1 : k < 0
  · clear hc
    go_enter Try.func20, Try.ntmps20
    go_wp2
    go_ret
    exact ⟨rfl, H.out, Fr.refl _ _⟩
  · by_cases h2 : 8 ≤ k
    · clear hc
      go_enter Try.func20, Try.ntmps20
      go_wp2
      go_ret
      exact ⟨rfl, H.out, Fr.refl _ _⟩
    · have hf : first k op = .no := by rcases hc with h | h | h; exact absurd h h1; exact absurd h h2; exact h
      unfold first at hf
      clear hc
      by_cases h3 : k = 0
      · subst h3
        have b0 : (op != 0) = true := by
          simp; intro e; rw [if_pos ⟨rfl, e⟩] at hf; cases hf
        have b1 : (op != 1) = true := by
          simp; intro e
          rw [if_neg (by omega), if_pos ⟨rfl, e⟩] at hf; cases hf
        clear hf h1 h2
        go_enter Try.func20, Try.ntmps20
        go_wp2
        go_ret
        exact ⟨rfl, H.out, Fr.refl _ _⟩
      · have hz : (k == 0) = false := by simp; exact h3
        have h4 : 0 < k := by omega
        have b2 : (op != 2) = true := by
          simp; intro e
          rw [if_neg (by omega), if_neg (by omega), if_pos ⟨h4, e⟩] at hf; cases hf
        clear hf h3
        go_enter Try.func20, Try.ntmps20
        go_wp2
        go_ret
        exact ⟨rfl, H.out, Fr.refl _ _⟩
theorem first_cases {k : Nat} {op : Int} (h : first k op ≠ .no) : (k = 0 ∧ (op = 0 ∨ op = 1)) ∨ (0 < k ∧ op = 2) := by
  unfold first at h
  by_cases h1 : (k : Int) = 0 ∧ op = 0
  · exact .inl ⟨by omega, .inl h1.2⟩
  · rw [if_neg h1] at h
    by_cases h2 : (k : Int) = 0 ∧ op = 1
    · exact .inl ⟨by omega, .inr h2.2⟩
    · rw [if_neg h2] at h
      by_cases h3 : 0 < (k : Int) ∧ op = 2
      · exact .inr ⟨by omega, h3.2⟩
      · rw [if_neg h3] at h; exact absurd rfl h
set_option maxRecDepth 100000 in
set_option maxHeartbeats 8000000 in
theorem mbeg_good (h : Rf w c g p r) (n : Nat) (hn : n < 8) (op v : Int) (hf : first n op ≠ .no) : Calls Try.prog 20 #[.pointer (some ⟨c, 0, none⟩), .int .i64 n, .int .i64 op, .int .i64 v] w (Bp w c g p r n op v) := by
  have hc : ¬ ((n : Int) < 0 ∨ 8 ≤ (n : Int) ∨ first n op = .no) := by
    rintro (h | h | h)
    · omega
    · omega
    · exact hf h
  have hz5 := zero55
  have c3 := h.c3
  have hcg := h.cg
  have t0 := h.t0 n hn
  have t1 := h.t1 n hn
  have t2 := h.t2 n hn
  have t3 := h.t3 n hn
  have t4 := h.t4 n hn
  have t5 := h.t5 n hn
  have t6 := h.t6 n hn
  have f0 := h.fg (n * 7)
  have f1 := h.fg (n * 7 + 1)
  have f2 := h.fg (n * 7 + 2)
  have f3 := h.fg (n * 7 + 3)
  have f4 := h.fg (n * 7 + 4)
  have f5 := h.fg (n * 7 + 5)
  have f6 := h.fg (n * 7 + 6)
  have hk8 : (n : Int) < 8 := by omega
  have hk0 : (0 : Int) ≤ (n : Int) := by omega
  have hcs := first_cases hf
  cases hx : (r.th n).on
  · have e : rbegin r n op v = (0, r.setY n { on := true, op := op, v := if op = 0 then v else 0 }) := by
      unfold rbegin; rw [if_neg hc, Int.toNat_natCast, if_neg (by rw [hx]; decide)]
    unfold Bp
    rw [e]
    rw [hx] at t0
    have H := Lib.hid h
    clear h e hc hf hx
    generalize (r.th n).op = o1 at t1
    generalize (r.th n).made = o2 at t2
    generalize (r.th n).v = o3 at t3
    generalize (r.th n).t = o4 at t4
    generalize (r.th n).b = o5 at t5
    generalize (r.th n).won = o6 at t6
    rcases hcs with ⟨rfl, rfl | rfl⟩ | ⟨h0, rfl⟩
    · rw [Nat.zero_mul] at t0 f0
      rw [Nat.zero_mul, Nat.zero_add] at t1 t2 t3 t4 t5 t6 f1 f2 f3 f4 f5 f6
      go_enter Try.func20, Try.ntmps20
      go_wp2
      go_ret
      exact ⟨rfl, H.out.set7 0 (by omega) { on := true, op := 0, v := v }, fr_set7 _ g 0 { on := true, op := 0, v := v } _ (.inr (.inl rfl))⟩
    · rw [Nat.zero_mul] at t0 f0
      rw [Nat.zero_mul, Nat.zero_add] at t1 t2 t3 t4 t5 t6 f1 f2 f3 f4 f5 f6
      go_enter Try.func20, Try.ntmps20
      go_wp2
      go_ret
      exact ⟨rfl, H.out.set7 0 (by omega) { on := true, op := 1, v := 0 }, fr_set7 _ g 0 { on := true, op := 1, v := 0 } _ (.inr (.inl rfl))⟩
    · have hz : ((n : Int) == 0) = false := by simp; omega
      have hp : (0 : Int) < (n : Int) := by omega
      go_enter Try.func20, Try.ntmps20
      go_wp2
      go_ret
      exact ⟨rfl, H.out.set7 n hn { on := true, op := 2, v := 0 }, fr_set7 _ g n { on := true, op := 2, v := 0 } _ (.inr (.inl rfl))⟩
  · have e : rbegin r n op v = (14, r) := by
      unfold rbegin; rw [if_neg hc, Int.toNat_natCast, if_pos hx]
    unfold Bp
    rw [e]
    rw [hx] at t0
    have H := Lib.hid h
    clear h e hc hf hx
    generalize (r.th n).op = o1 at t1
    generalize (r.th n).made = o2 at t2
    generalize (r.th n).v = o3 at t3
    generalize (r.th n).t = o4 at t4
    generalize (r.th n).b = o5 at t5
    generalize (r.th n).won = o6 at t6
    rcases hcs with ⟨rfl, rfl | rfl⟩ | ⟨h0, rfl⟩
    · rw [Nat.zero_mul] at t0 f0
      go_enter Try.func20, Try.ntmps20
      go_wp2
      go_ret
      exact ⟨rfl, H.out, Fr.refl _ _⟩
    · rw [Nat.zero_mul] at t0 f0
      go_enter Try.func20, Try.ntmps20
      go_wp2
      go_ret
      exact ⟨rfl, H.out, Fr.refl _ _⟩
    · have hz : ((n : Int) == 0) = false := by simp; omega
      have hp : (0 : Int) < (n : Int) := by omega
      go_enter Try.func20, Try.ntmps20
      go_wp2
      go_ret
      exact ⟨rfl, H.out, Fr.refl _ _⟩
theorem mbegin_any (h : Rf w c g p r) (k op v : Int) : Calls Try.prog 20 #[.pointer (some ⟨c, 0, none⟩), .int .i64 k, .int .i64 op, .int .i64 v] w (Bp w c g p r k op v) := by
  by_cases hc : k < 0 ∨ 8 ≤ k ∨ first k op = .no
  · exact mbeg_bad h k op v hc
  · obtain ⟨n, rfl⟩ : ∃ n : Nat, k = n := ⟨k.toNat, by omega⟩
    exact mbeg_good h n (by omega) op v (fun e => hc (.inr (.inr e)))
theorem own_same {w w1 : World} {B : Nat} {v : Value} {n : Nat} {xs : List Value} {e : TypeId} {k : Nat} (h : w.ownsRow B e k v n xs) (he : w1.heap = w.heap) : w1.ownsRow B e k v n xs := by
  unfold World.ownsRow at *; rw [he]; exact h
theorem step_append_own {P : Program} {ops : Array Oper} {o : Oper} {a : Act} {w : World} {K : Act → World → Prop} {Q : Exit → Act → World → Prop} {E : Prop}
    (hg : o.guard = none) (s x : Operand) (t : TypeId) (hop : o.op = Op.call { callee := Callee.builtin Builtin.append, args := #[s, x], argTypes := #[t, t] })
    (base : Nat) (e : TypeId) (i : TypeInfo) (z : Value) (size bytes : Nat) (h1 : P.underlying t = some (.slice e)) (h2 : P.info? e = some i) (h3 : i.zero = some z) (h4 : i.size = size) (h5 : i.bytes = bytes) (h6 : z.cells.size = size) (h7 : 0 < size)
    (v : Value) (n : Nat) (xs : List Value) (hs : a.eval s = v) (hown : w.ownsRow base e size v n xs)
    (ad : Addr) (m c : Nat) (news : List Value) (hx : a.eval x = .slice (some ad) m c) (hn : news.length = m * size) (hc : ∀ j u, news[j]? = some u → w.cell? (ad.add j) = some u) (h1c : ∀ u ∈ news, u.oneCell' = true)
    (b1 : n + m ≤ maxLen) (b2 : (n + m) * bytes ≤ 140737488355328) (b3 : base ≤ w.heap.size)
    (hK : ∀ v' w', w'.ownsRow base e size v' (n + m) (xs ++ news) → w.grownBy w' v.ownBlock → K (a.put o.dst v') w') :
    if Region.wanted o (yielded ops a.tmps) = true then Oper.wp P o a w K Q else E := by
  have hw : Region.wanted o (yielded ops a.tmps) = true := by simp [Region.wanted, hg]
  rw [if_pos hw]
  obtain ⟨v', w', hrun, r1, r2, _⟩ := run_append_own (P := P) w base t o.type e i z size bytes h1 h2 h3 h4 h5 h6 h7 v n xs hown ad m c news hn hc h1c b1 b2 b3
  unfold Oper.wp
  simp [execOp, hop, resolve, invoke, builtin, hs, hx, hrun, Result.andThen]
  exact hK v' w' r1 r2
def ritems (r : R) : List Int := (List.range (r.bot - r.top).toNat).map fun (i : Nat) => r.pl (plc (r.top + (i : Int)) r.n)
theorem ritems_at (r : R) (n : Nat) (h : n < (ritems r).length) : (ritems r).take (n + 1) = (ritems r).take n ++ [r.pl (plc (r.top + n) r.n)] := by
  have hl : (ritems r).length = (r.bot - r.top).toNat := by unfold ritems; simp
  rw [List.take_add_one]
  congr 1
  unfold ritems
  rw [List.getElem?_map, List.getElem?_range (by omega)]
  rfl
set_option maxRecDepth 100000 in
set_option maxHeartbeats 4000000 in
theorem mitems_any (h : Rf w c g p r) (h0 : 0 ≤ r.top) (h1 : r.bot ≤ 1000000000000000000) (hd : r.bot - r.top ≤ 64) :
    Calls Try.prog 24 #[.pointer (some ⟨c, 0, none⟩)] w fun e w' => ∃ v, e = .returned v ∧ Own w' w.heap.size v (ritems r) ∧ Below w.heap.size w w' := by
  obtain ⟨i0, hi, hz0, hz1, hz2⟩ := info2
  have H := Lib.hid h
  have HN := Lib.hid (ritems_at r)
  have hlen' : (ritems r).length = (r.bot - r.top).toNat := by unfold ritems; simp
  have hlt := fun x => plc_lt x r.n h.n1
  have HLTP := Lib.hid hlt
  have c0 := h.c0
  clear h hlt
  generalize ritems r = l at *
  generalize htp : r.top = tp at *
  generalize hbt : r.bot = bt at *
  have HQ := Lib.hid (And.intro htp hbt)
  clear htp
  go_enter Try.func24, Try.ntmps24
  go_wp2_with fail
  go_loopw [3, 4] (fun v k wr => ∃ n : Nat, n ≤ l.length ∧ k = .int .i64 (tp + (n : Int)) ∧ Own wr w.heap.size v (l.take n) ∧ Below w.heap.size w wr) (fun v k wr => (bt - intOf k).toNat)
  case atStart => exact ⟨0, by omega, by rw [show tp + ((0 : Nat) : Int) = tp by omega], World.ownsRow_nil _ _ _ _, Below.refl _ _⟩
  case round =>
    obtain ⟨n, hn, rfl, hown, hb⟩ := hrel
    have H2 := H.out.below hb
    have c1 := H2.c1
    have c2 := H2.c2
    rw [hbt] at c1
    clear c0 hbt
    by_cases hlt : n < l.length
    · have hlt2 : tp + (n : Int) < bt := by omega
      have hadd := HN.out n hlt
      have hpl := HLTP.out (tp + (n : Int))
      have hpl' : ((plc (tp + (n : Int)) r.n : Nat) : Int) < (r.n : Int) := by omega
      have cu := H2.cu (plc (tp + (n : Int)) r.n) hpl
      have HAT := Lib.hid (fun (W1 : World) (e : W1.heap = wr.heap) => at_any (H2.same e) (tp + (n : Int)))
      have hn64 : r.n ≤ 64 := H2.n2
      generalize plc (tp + (n : Int)) r.n = P at *
      generalize r.pl P = X at *
      generalize r.n = N at *
      have HX := Lib.hid hadd
      have hln : (l.take n).length = n := by rw [List.length_take]; omega
      have hown' : Own wr w.heap.size u3 (l.take n) := hown
      obtain ⟨la, lc, rfl⟩ := own_slice hown'
      have ho : wr.ownsRow w.heap.size 2 1 (.slice la (l.take n).length lc) (l.take n).length ((l.take n).map (Value.int .i64)) := hown
      have HLN := Lib.hid hln
      have HO := Lib.hid ho
      have HB := Lib.hid hb
      have HLT := Lib.hid (And.intro hlt (And.intro hn hlen'))
      have hn64' : n < 64 := by omega
      clear hown hown' hb hadd hln hlt hn hlen' ho H2
      have hsz5 : w.heap.size ≤ wr.heap.size := HB.out.size
      go_wp2_with fail
      go_region_law (first | (refine step_append_own rfl (.tmp 17) (.tmp 27) 37 rfl w.heap.size 2 i0 (.int .i64 0) 1 8 Try.underlying37 hi hz0 hz1 hz2 rfl (by decide) _ _ _ (by simp [Act.eval, Act.put]) (World.ownsRow.alloc (own_same HO.out (by rfl)) _) ⟨wr.heap.size, 0, none⟩ 1 1 [.int .i64 X] (by simp [Act.eval, Act.put]) rfl (cell_one_new _ _ _) (by simp [Value.oneCell']) (by have := HLN.out; unfold maxLen; omega) (by have := HLN.out; omega) (by simp; omega) ?_; intro v' w1 hown1 hgrow) | (go_simp; go_at_call 32; refine (HAT.out _ (by rfl)).mono ?_; rintro e w' ⟨rfl, rfl⟩))
      all_goals go_wp2
      all_goals
        have hbm := below_append (own_same HO.out (show (wr.drewN 1).heap = wr.heap from rfl)) (HB.out.trans (gb_below (gb_drewN wr 1 none) HB.out.size (fun k e => by cases e))) (Nat.le_refl _) hgrow
        have hl := HLT.out
        have hw2 : wrap64 (tp + (n : Int) + 1) = tp + (n : Int) + 1 := wrE _ (by omega) (by omega)
        refine ⟨⟨n + 1, by omega, by first | (rw [hw2]; congr 1; omega) | (congr 1; omega), ?_, hbm⟩, by simp only [intOf]; (try rw [hw2]); omega⟩
        show w1.ownsRow _ _ _ _ _ _
        rw [HX.out]; simpa using hown1
    · have hlt2 : ¬ (tp + (n : Int) < bt) := by omega
      obtain rfl : n = l.length := by omega
      rw [List.take_length] at hown
      have HO := Lib.hid hown
      have HB := Lib.hid hb
      clear hown hb hlen' hn hlt H2
      go_wp2
      go_ret
      exact ⟨_, rfl, HO.out, HB.out⟩
end
end Go.Proofs.Ytldobbdaokjgaaa
