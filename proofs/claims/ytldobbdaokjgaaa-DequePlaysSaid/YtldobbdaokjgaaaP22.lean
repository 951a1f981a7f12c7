/- The reference's push, pop, steal. -/
import Derived.Test.YtldobbdaokjgaaaP21
import Derived.Deep.RegionHeld3
import Derived.StillTailTactics
namespace Go.Proofs.Ytldobbdaokjgaaa
open Go.RowKit
set_option linter.unusedVariables false
set_option linter.unusedSimpArgs false
def bxg (d : D) (i : Nat) : Value := if i = 0 then .bool d.over else if i = 1 then .int .i64 d.op else if i = 2 then .int .i64 d.v else .int .i64 d.err
theorem roverk {w : World} {c g p : Nat} {r : R} (h : Rf w c g p r) (k : Nat) (hk : k < 8) (o v e : Int) (ho : (r.th k).op = o) : Calls Try.prog 36 #[.pointer (some ⟨c, 0, none⟩), .int .i64 k, .int .i64 v, .int .i64 e] w (Pd w c g p (r.setY k {}) { over := true, op := o, v := v, err := e }) := by subst ho; exact rover_any h k hk v e
theorem rover0 {w : World} {c g p : Nat} {r : R} (h : Rf w c g p r) (o v e : Int) (ho : (r.th 0).op = o) : Calls Try.prog 36 #[.pointer (some ⟨c, 0, none⟩), .int .i64 0, .int .i64 v, .int .i64 e] w (Pd w c g p (r.setY 0 {}) { over := true, op := o, v := v, err := e }) := roverk h 0 (by omega) o v e ho
theorem Fr.al' {x y : World} {S : Nat → Prop} {o : Obj} (h : Fr x y S) : Fr x (y.alloc o) S := h.trans' (fr_alloc _ _ _)
/-- within a call: the reference's deque, and the two boxes -/
structure Lc (w W : World) (c g p Z : Nat) (r : R) : Prop where
  rf : Rf W c g p r
  fr : Fr w W (fun k => S3 c g p k ∨ Z ≤ k)
  rs : W.rowIs (Z + 1) 51 4 (bxg {})
  z : c < Z ∧ g < Z ∧ p < Z ∧ w.heap.size = Z
section
variable {w W : World} {c g p Z : Nat} {r : R}
theorem Lc.new (h : Rf w c g p r) (y : Y) : Lc w ((w.alloc (.cells #[.bool y.on, .int .i64 y.op, .int .i64 y.made, .int .i64 y.v, .int .i64 y.t, .int .i64 y.b, .bool y.won] 55)).alloc (.cells #[.bool false, .int .i64 0, .int .i64 0, .int .i64 0] 51)) c g p w.heap.size r ∧ ((w.alloc (.cells #[.bool y.on, .int .i64 y.op, .int .i64 y.made, .int .i64 y.v, .int .i64 y.t, .int .i64 y.b, .bool y.won] 55)).alloc (.cells #[.bool false, .int .i64 0, .int .i64 0, .int .i64 0] 51)).rowIs w.heap.size 55 7 (ycell y) := by
  have rr := row_new (w.alloc (.cells #[.bool y.on, .int .i64 y.op, .int .i64 y.made, .int .i64 y.v, .int .i64 y.t, .int .i64 y.b, .bool y.won] 55)) #[.bool false, .int .i64 0, .int .i64 0, .int .i64 0] 51 4 (bxg {}) rfl (fun i hi => by match i, hi with | 0, _ => rfl | 1, _ => rfl | 2, _ => rfl | 3, _ => rfl)
  rw [World.size_alloc] at rr
  exact ⟨⟨(h.alloc _).alloc _, ((fr_alloc _ _ _).trans' (fr_alloc _ _ _)).up, rr, h.s.lt, h.t.lt, h.u.lt, rfl⟩, (row_new w _ 55 7 (ycell y) rfl (fun i hi => by match i, hi with | 0, _ => rfl | 1, _ => rfl | 2, _ => rfl | 3, _ => rfl | 4, _ => rfl | 5, _ => rfl | 6, _ => rfl)).alloc _⟩
theorem Lc.drew (h : Lc w W c g p Z r) : Lc w W.drew c g p Z r := ⟨h.rf.drew, h.fr.trans' (fr_drew _ _), h.rs, h.z⟩
theorem Lc.drewN (h : Lc w W c g p Z r) (m : Nat) : Lc w (W.drewN m) c g p Z r := ⟨h.rf.drewN m, h.fr.trans' (fr_drewN _ _ _), h.rs, h.z⟩
theorem Lc.bset (h : Lc w W c g p Z r) (i : Nat) (v : Value) : Lc w (W.setCell ⟨Z, i, none⟩ v) c g p Z r :=
  ⟨h.rf.far h.z.1 h.z.2.1 h.z.2.2.1, h.fr.trans' (fr_set _ _ _ _ _ (.inr (Nat.le_refl _))), row_fr h.rs (fr_b W Z i v) (by omega), h.z⟩
theorem Lc.sTop (h : Lc w W c g p Z r) (x : Int) : Lc w (W.setCell ⟨c, 0, none⟩ (.int .i64 x)) c g p Z (r.setTop x) :=
  ⟨h.rf.sTop x, h.fr.trans' (fr_set _ _ _ _ _ (.inl (.inl rfl))), row_fr h.rs (fr_b W c _ _) (by have := h.z; omega), h.z⟩
theorem Lc.sBot (h : Lc w W c g p Z r) (x : Int) : Lc w (W.setCell ⟨c, 1, none⟩ (.int .i64 x)) c g p Z (r.setBot x) :=
  ⟨h.rf.sBot x, h.fr.trans' (fr_set _ _ _ _ _ (.inl (.inl rfl))), row_fr h.rs (fr_b W c _ _) (by have := h.z; omega), h.z⟩
theorem Lc.sPl (h : Lc w W c g p Z r) (i : Nat) (x : Int) : Lc w (W.setCell ⟨p, i, none⟩ (.int .i64 x)) c g p Z (r.setPl i x) :=
  ⟨h.rf.sPl i x, h.fr.trans' (fr_set _ _ _ _ _ (.inl (.inr (.inr rfl)))), row_fr h.rs (fr_b W p _ _) (by have := h.z; omega), h.z⟩
theorem Lc.set7 (h : Lc w W c g p Z r) (k : Nat) (hk : k < 8) (y : Y) : Lc w (set7 W g k y) c g p Z (r.setY k y) :=
  ⟨h.rf.set7 k hk y, h.fr.trans' (fr_set7 W g k y _ (.inl (.inr (.inl rfl)))), row_fr h.rs (fr_set7 W g k y (fun b => b = g) rfl) (by have := h.z; omega), h.z⟩
/-- the end of a call: its answer -/
def set4 (W : World) (B : Nat) (d : D) : World := (((W.setCell ⟨B, 0, none⟩ (.bool d.over)).setCell ⟨B, 1, none⟩ (.int .i64 d.op)).setCell ⟨B, 2, none⟩ (.int .i64 d.v)).setCell ⟨B, 3, none⟩ (.int .i64 d.err)
theorem Lc.ans (h : Lc w W c g p Z r) (d : D) : (set4 W (Z + 1) d).rowIs (Z + 1) 51 4 (bxg d) ∧ Rf (set4 W (Z + 1) d) c g p r ∧ Fr w (set4 W (Z + 1) d) (S3 c g p) := by
  obtain ⟨z1, z2, z3, z4⟩ := h.z
  refine ⟨((((h.rs.set 0 _).set 1 _).set 2 _).set 3 _).congr (fun i hi => by match i, hi with | 0, _ => rfl | 1, _ => rfl | 2, _ => rfl | 3, _ => rfl), ((((h.rf.far (by omega) (by omega) (by omega)).far (by omega) (by omega) (by omega)).far (by omega) (by omega) (by omega)).far (by omega) (by omega) (by omega)), Fr.new ?_⟩
  rw [z4]
  exact (((h.fr.trans' (fr_set _ _ _ _ _ (.inr (by omega)))).trans' (fr_set _ _ _ _ _ (.inr (by omega)))).trans' (fr_set _ _ _ _ _ (.inr (by omega)))).trans' (fr_set _ _ _ _ _ (.inr (by omega)))
/-- behind over -/
theorem Lc.over {W2 : World} {r2 : R} (h : Lc w W c g p Z r) (k1 : Rf W2 c g p r2) (k2 : Fr W W2 (S3 c g p)) : Lc w W2 c g p Z r2 :=
  ⟨k1, h.fr.trans' k2.up, row_fr h.rs k2 (by unfold S3; have := h.z; omega), h.z⟩
end
section
variable {w w1 : World} {c g p : Nat} {r : R}
set_option maxRecDepth 100000 in
set_option maxHeartbeats 8000000 in
theorem rp0_1 (h : Rf w c g p r) (yv yt yb : Int) (yw : Bool) : Calls Try.prog 29 #[.pointer (some ⟨c, 0, none⟩), .agg #[.bool true, .int .i64 0, .int .i64 1, .int .i64 yv, .int .i64 yt, .int .i64 yb, .bool yw]] w (Pd w c g p ((r).setY 0 { on := true, op := 0, made := 1, v := yv, t := yt, b := r.bot, won := yw }) {}) := by
  have hz := zero51
  have hz5 := zero55
  have HN := Lc.new h { on := true, op := 0, made := 1, v := yv, t := yt, b := yb, won := yw }
  dsimp only at HN
  have H := Lib.hid h
  have hlt := fun x => plc_lt x r.n h.n1
  have HLT := Lib.hid hlt
  clear hlt
  clear h
  unfold Pd
  go_enter Try.func29, Try.ntmps29
  go_upto_region 1 with fail
  obtain ⟨L4, rb⟩ := HN
  have hsz : w.heap.size + 1 = w.heap.size + 1 := rfl
  generalize (w.alloc (.cells #[.bool true, .int .i64 0, .int .i64 1, .int .i64 yv, .int .i64 yt, .int .i64 yb, .bool yw] 55)).alloc (.cells #[.bool false, .int .i64 0, .int .i64 0, .int .i64 0] 51) = W4 at *
  clear hsz
  have HZZ := Lib.hid (show w.heap.size = w.heap.size from rfl)
  generalize hZ : w.heap.size = Z at *
  clear HZZ hZ
  have c0 := L4.rf.c0
  have c1 := L4.rf.c1
  have c2 := L4.rf.c2
  have c3 := L4.rf.c3
  have z0 := L4.rf.fc 0
  have z1 := L4.rf.fc 1
  have q1 := L4.rf.cg
  have q2 := L4.rf.cp
  have q3 := L4.rf.gp
  have n1 : c ≠ Z := by have := L4.z; omega
  have n2 : g ≠ Z := by have := L4.z; omega
  have n3 : p ≠ Z := by have := L4.z; omega
  have n4 : Z ≠ c := by omega
  have n5 : Z ≠ g := by omega
  have n6 : Z ≠ p := by omega
  have f0 := L4.rf.fg (0)
  have f1 := L4.rf.fg (1)
  have f2 := L4.rf.fg (2)
  have f3 := L4.rf.fg (3)
  have f4 := L4.rf.fg (4)
  have f5 := L4.rf.fg (5)
  have f6 := L4.rf.fg (6)
  have t0 := L4.rf.t0 0 (by omega)
  have t1 := L4.rf.t1 0 (by omega)
  have t2 := L4.rf.t2 0 (by omega)
  have t3 := L4.rf.t3 0 (by omega)
  have t4 := L4.rf.t4 0 (by omega)
  have t5 := L4.rf.t5 0 (by omega)
  have t6 := L4.rf.t6 0 (by omega)
  rw [Nat.zero_mul] at t0
  rw [Nat.zero_mul, Nat.zero_add] at t1 t2 t3 t4 t5 t6
  have b0 := row_val rb (i := 0) (v := .bool true) (by omega) rfl
  have a0 := World.rowIs.frozen rb 0
  have b1 := row_val rb (i := 1) (v := .int .i64 0) (by omega) rfl
  have a1 := World.rowIs.frozen rb 1
  have b2 := row_val rb (i := 2) (v := .int .i64 1) (by omega) rfl
  have a2 := World.rowIs.frozen rb 2
  have b3 := row_val rb (i := 3) (v := .int .i64 yv) (by omega) rfl
  have a3 := World.rowIs.frozen rb 3
  have b4 := row_val rb (i := 4) (v := .int .i64 yt) (by omega) rfl
  have a4 := World.rowIs.frozen rb 4
  have b5 := row_val rb (i := 5) (v := .int .i64 yb) (by omega) rfl
  have a5 := World.rowIs.frozen rb 5
  have b6 := row_val rb (i := 6) (v := .bool yw) (by omega) rfl
  have a6 := World.rowIs.frozen rb 6
  generalize (r.th 0).op = o1 at t1
  generalize (r.th 0).on = o0 at t0
  generalize (r.th 0).made = o2 at t2
  generalize (r.th 0).v = o3 at t3
  generalize (r.th 0).t = o4 at t4
  generalize (r.th 0).b = o5 at t5
  generalize (r.th 0).won = o6 at t6
  have HL4 := Lib.hid L4
  clear rb L4
  go_wp2_with fail
  go_region
  all_goals
    have L7 := ((HL4.out.bset 5 (.int .i64 r.bot)).set7 0 (by omega) { on := true, op := 0, made := 1, v := yv, t := yt, b := r.bot, won := yw }).drew
    refine (show Exit.then _ _ Exit.normal _ ((set7 (W4.setCell ⟨Z, 5, none⟩ (.int .i64 r.bot)) g 0 { on := true, op := 0, made := 1, v := yv, t := yt, b := r.bot, won := yw }).drew) from ?_)
    clear f0 f1 f2 f3 f4 f5 f6 t0 t1 t2 t3 t4 t5 t6 c0 c1 c2 c3 z0 z1 b0 b1 b2 b3 b4 b5 b6 a0 a1 a2 a3 a4 a5 a6 n1 n2 n3 n4 n5 n6 q1 q2 q3 HL4
    generalize (set7 (W4.setCell ⟨Z, 5, none⟩ (.int .i64 r.bot)) g 0 { on := true, op := 0, made := 1, v := yv, t := yt, b := r.bot, won := yw }).drew = W7 at *
    have x0 := row_val L7.rs (i := 0) (v := .bool false) (by omega) rfl
    have x1 := row_val L7.rs (i := 1) (v := .int .i64 0) (by omega) rfl
    have x2 := row_val L7.rs (i := 2) (v := .int .i64 0) (by omega) rfl
    have x3 := row_val L7.rs (i := 3) (v := .int .i64 0) (by omega) rfl
    have y0 := World.rowIs.frozen L7.rs 0
    have y1 := World.rowIs.frozen L7.rs 1
    have y2 := World.rowIs.frozen L7.rs 2
    have y3 := World.rowIs.frozen L7.rs 3
    obtain ⟨g1, g2, g3⟩ := L7.ans {}
    unfold Ytldobbdaokjgaaa.set4 at g1 g2 g3
    dsimp only at g1 g2 g3
    have w0 := row_val g1 (i := 0) (v := .bool false) (by omega) rfl
    have w1 := row_val g1 (i := 1) (v := .int .i64 0) (by omega) rfl
    have w2 := row_val g1 (i := 2) (v := .int .i64 0) (by omega) rfl
    have w3 := row_val g1 (i := 3) (v := .int .i64 0) (by omega) rfl
    have HA9 := Lib.hid (And.intro g2 g3)
    clear g1 g2 g3 L7
    go_wp2
    refine bodyPost_ret (by simp [results, Try.results29, go_sem, w0, w1, w2, w3]; try rfl) rfl ?_
    exact ⟨rfl, HA9.out⟩
set_option maxRecDepth 100000 in
set_option maxHeartbeats 8000000 in
theorem rp0_2o (h : Rf w c g p r) (yv yt yb : Int) (yw : Bool) (hc : (r.n : Int) ≤ wrap64 (yb - r.top)) (ho : (r.th 0).op = 0) : Calls Try.prog 29 #[.pointer (some ⟨c, 0, none⟩), .agg #[.bool true, .int .i64 0, .int .i64 2, .int .i64 yv, .int .i64 yt, .int .i64 yb, .bool yw]] w (Pd w c g p ((r).setY 0 {}) { over := true, op := 0, v := yv, err := 7 }) := by
  have hz := zero51
  have hz5 := zero55
  have HN := Lc.new h { on := true, op := 0, made := 2, v := yv, t := yt, b := yb, won := yw }
  dsimp only at HN
  have H := Lib.hid h
  have hlt := fun x => plc_lt x r.n h.n1
  have HLT := Lib.hid hlt
  clear hlt
  have HOQ := Lib.hid ho
  clear ho
  clear h
  unfold Pd
  go_enter Try.func29, Try.ntmps29
  go_upto_region 1 with fail
  obtain ⟨L4, rb⟩ := HN
  have hsz : w.heap.size + 1 = w.heap.size + 1 := rfl
  generalize (w.alloc (.cells #[.bool true, .int .i64 0, .int .i64 2, .int .i64 yv, .int .i64 yt, .int .i64 yb, .bool yw] 55)).alloc (.cells #[.bool false, .int .i64 0, .int .i64 0, .int .i64 0] 51) = W4 at *
  clear hsz
  have HZZ := Lib.hid (show w.heap.size = w.heap.size from rfl)
  generalize hZ : w.heap.size = Z at *
  clear HZZ hZ
  have c0 := L4.rf.c0
  have c1 := L4.rf.c1
  have c2 := L4.rf.c2
  have c3 := L4.rf.c3
  have z0 := L4.rf.fc 0
  have z1 := L4.rf.fc 1
  have q1 := L4.rf.cg
  have q2 := L4.rf.cp
  have q3 := L4.rf.gp
  have n1 : c ≠ Z := by have := L4.z; omega
  have n2 : g ≠ Z := by have := L4.z; omega
  have n3 : p ≠ Z := by have := L4.z; omega
  have n4 : Z ≠ c := by omega
  have n5 : Z ≠ g := by omega
  have n6 : Z ≠ p := by omega
  have f0 := L4.rf.fg (0)
  have f1 := L4.rf.fg (1)
  have f2 := L4.rf.fg (2)
  have f3 := L4.rf.fg (3)
  have f4 := L4.rf.fg (4)
  have f5 := L4.rf.fg (5)
  have f6 := L4.rf.fg (6)
  have t0 := L4.rf.t0 0 (by omega)
  have t1 := L4.rf.t1 0 (by omega)
  have t2 := L4.rf.t2 0 (by omega)
  have t3 := L4.rf.t3 0 (by omega)
  have t4 := L4.rf.t4 0 (by omega)
  have t5 := L4.rf.t5 0 (by omega)
  have t6 := L4.rf.t6 0 (by omega)
  rw [Nat.zero_mul] at t0
  rw [Nat.zero_mul, Nat.zero_add] at t1 t2 t3 t4 t5 t6
  have b0 := row_val rb (i := 0) (v := .bool true) (by omega) rfl
  have a0 := World.rowIs.frozen rb 0
  have b1 := row_val rb (i := 1) (v := .int .i64 0) (by omega) rfl
  have a1 := World.rowIs.frozen rb 1
  have b2 := row_val rb (i := 2) (v := .int .i64 2) (by omega) rfl
  have a2 := World.rowIs.frozen rb 2
  have b3 := row_val rb (i := 3) (v := .int .i64 yv) (by omega) rfl
  have a3 := World.rowIs.frozen rb 3
  have b4 := row_val rb (i := 4) (v := .int .i64 yt) (by omega) rfl
  have a4 := World.rowIs.frozen rb 4
  have b5 := row_val rb (i := 5) (v := .int .i64 yb) (by omega) rfl
  have a5 := World.rowIs.frozen rb 5
  have b6 := row_val rb (i := 6) (v := .bool yw) (by omega) rfl
  have a6 := World.rowIs.frozen rb 6
  generalize (r.th 0).op = o1 at t1
  generalize (r.th 0).on = o0 at t0
  generalize (r.th 0).made = o2 at t2
  generalize (r.th 0).v = o3 at t3
  generalize (r.th 0).t = o4 at t4
  generalize (r.th 0).b = o5 at t5
  generalize (r.th 0).won = o6 at t6
  have HL4 := Lib.hid L4
  clear rb L4
  go_wp2_with fail
  go_quiet (fail)
  go_wp2_with fail
  all_goals
    have LX := (HL4.out.bset 4 (.int .i64 r.top)).drewN nq
    refine (rover0 LX.rf 0 yv 7 HOQ.out).mono ?_
    rintro e W2 ⟨rfl, k1, k2⟩
    have L7 := LX.over k1 k2
    have x0 := row_val L7.rs (i := 0) (v := .bool false) (by omega) rfl
    have x1 := row_val L7.rs (i := 1) (v := .int .i64 0) (by omega) rfl
    have x2 := row_val L7.rs (i := 2) (v := .int .i64 0) (by omega) rfl
    have x3 := row_val L7.rs (i := 3) (v := .int .i64 0) (by omega) rfl
    have y0 := World.rowIs.frozen L7.rs 0
    have y1 := World.rowIs.frozen L7.rs 1
    have y2 := World.rowIs.frozen L7.rs 2
    have y3 := World.rowIs.frozen L7.rs 3
    have zz : Z + 1 < W2.heap.size := L7.rs.lt
    have m1 : Z + 1 ≠ W2.heap.size := by omega
    have m2 : W2.heap.size ≠ Z + 1 := by omega
    obtain ⟨g1, g2, g3⟩ := L7.ans { over := true, op := 0, v := yv, err := 7 }
    unfold Ytldobbdaokjgaaa.set4 at g1 g2 g3
    dsimp only at g1 g2 g3
    have w0 := fun a : Array Value => row_val (g1.alloc (.cells a 51)) (i := 0) (v := .bool true) (by omega) rfl
    have w1 := fun a : Array Value => row_val (g1.alloc (.cells a 51)) (i := 1) (v := .int .i64 0) (by omega) rfl
    have w2 := fun a : Array Value => row_val (g1.alloc (.cells a 51)) (i := 2) (v := .int .i64 yv) (by omega) rfl
    have w3 := fun a : Array Value => row_val (g1.alloc (.cells a 51)) (i := 3) (v := .int .i64 7) (by omega) rfl
    have HA9 := Lib.hid (And.intro g2 g3)
    clear g1 g2 g3 L7 k1 k2 LX f0 f1 f2 f3 f4 f5 f6 t0 t1 t2 t3 t4 t5 t6 c0 c1 c2 c3 z0 z1 b0 b1 b2 b3 b4 b5 b6 a0 a1 a2 a3 a4 a5 a6 n1 n2 n3 n4 n5 n6 q1 q2 q3 HL4
    unfold dv
    go_wp2
    refine bodyPost_ret (by simp [results, Try.results29, go_sem, w0, w1, w2, w3]; try rfl) rfl ?_
    exact ⟨rfl, HA9.out.1.alloc _, HA9.out.2.al'⟩
set_option maxRecDepth 100000 in
set_option maxHeartbeats 8000000 in
theorem rp0_2k (h : Rf w c g p r) (yv yt yb : Int) (yw : Bool) (hc : ¬ (r.n : Int) ≤ wrap64 (yb - r.top)) : Calls Try.prog 29 #[.pointer (some ⟨c, 0, none⟩), .agg #[.bool true, .int .i64 0, .int .i64 2, .int .i64 yv, .int .i64 yt, .int .i64 yb, .bool yw]] w (Pd w c g p ((r).setY 0 { on := true, op := 0, made := 2, v := yv, t := r.top, b := yb, won := yw }) {}) := by
  have hz := zero51
  have hz5 := zero55
  have HN := Lc.new h { on := true, op := 0, made := 2, v := yv, t := yt, b := yb, won := yw }
  dsimp only at HN
  have H := Lib.hid h
  have hlt := fun x => plc_lt x r.n h.n1
  have HLT := Lib.hid hlt
  clear hlt
  clear h
  unfold Pd
  go_enter Try.func29, Try.ntmps29
  go_upto_region 1 with fail
  obtain ⟨L4, rb⟩ := HN
  have hsz : w.heap.size + 1 = w.heap.size + 1 := rfl
  generalize (w.alloc (.cells #[.bool true, .int .i64 0, .int .i64 2, .int .i64 yv, .int .i64 yt, .int .i64 yb, .bool yw] 55)).alloc (.cells #[.bool false, .int .i64 0, .int .i64 0, .int .i64 0] 51) = W4 at *
  clear hsz
  have HZZ := Lib.hid (show w.heap.size = w.heap.size from rfl)
  generalize hZ : w.heap.size = Z at *
  clear HZZ hZ
  have c0 := L4.rf.c0
  have c1 := L4.rf.c1
  have c2 := L4.rf.c2
  have c3 := L4.rf.c3
  have z0 := L4.rf.fc 0
  have z1 := L4.rf.fc 1
  have q1 := L4.rf.cg
  have q2 := L4.rf.cp
  have q3 := L4.rf.gp
  have n1 : c ≠ Z := by have := L4.z; omega
  have n2 : g ≠ Z := by have := L4.z; omega
  have n3 : p ≠ Z := by have := L4.z; omega
  have n4 : Z ≠ c := by omega
  have n5 : Z ≠ g := by omega
  have n6 : Z ≠ p := by omega
  have f0 := L4.rf.fg (0)
  have f1 := L4.rf.fg (1)
  have f2 := L4.rf.fg (2)
  have f3 := L4.rf.fg (3)
  have f4 := L4.rf.fg (4)
  have f5 := L4.rf.fg (5)
  have f6 := L4.rf.fg (6)
  have t0 := L4.rf.t0 0 (by omega)
  have t1 := L4.rf.t1 0 (by omega)
  have t2 := L4.rf.t2 0 (by omega)
  have t3 := L4.rf.t3 0 (by omega)
  have t4 := L4.rf.t4 0 (by omega)
  have t5 := L4.rf.t5 0 (by omega)
  have t6 := L4.rf.t6 0 (by omega)
  rw [Nat.zero_mul] at t0
  rw [Nat.zero_mul, Nat.zero_add] at t1 t2 t3 t4 t5 t6
  have b0 := row_val rb (i := 0) (v := .bool true) (by omega) rfl
  have a0 := World.rowIs.frozen rb 0
  have b1 := row_val rb (i := 1) (v := .int .i64 0) (by omega) rfl
  have a1 := World.rowIs.frozen rb 1
  have b2 := row_val rb (i := 2) (v := .int .i64 2) (by omega) rfl
  have a2 := World.rowIs.frozen rb 2
  have b3 := row_val rb (i := 3) (v := .int .i64 yv) (by omega) rfl
  have a3 := World.rowIs.frozen rb 3
  have b4 := row_val rb (i := 4) (v := .int .i64 yt) (by omega) rfl
  have a4 := World.rowIs.frozen rb 4
  have b5 := row_val rb (i := 5) (v := .int .i64 yb) (by omega) rfl
  have a5 := World.rowIs.frozen rb 5
  have b6 := row_val rb (i := 6) (v := .bool yw) (by omega) rfl
  have a6 := World.rowIs.frozen rb 6
  generalize (r.th 0).op = o1 at t1
  generalize (r.th 0).on = o0 at t0
  generalize (r.th 0).made = o2 at t2
  generalize (r.th 0).v = o3 at t3
  generalize (r.th 0).t = o4 at t4
  generalize (r.th 0).b = o5 at t5
  generalize (r.th 0).won = o6 at t6
  have HL4 := Lib.hid L4
  clear rb L4
  go_wp2_with fail
  go_quiet (fail)
  go_wp2_with fail
  go_region
  all_goals
    have L7 := (((HL4.out.bset 4 (.int .i64 r.top)).drewN (nq + 1)).set7 0 (by omega) { on := true, op := 0, made := 2, v := yv, t := r.top, b := yb, won := yw })
    refine (show Exit.then _ _ Exit.normal _ ((set7 ((W4.setCell ⟨Z, 4, none⟩ (.int .i64 r.top)).drewN (nq + 1)) g 0 { on := true, op := 0, made := 2, v := yv, t := r.top, b := yb, won := yw })) from ?_)
    clear f0 f1 f2 f3 f4 f5 f6 t0 t1 t2 t3 t4 t5 t6 c0 c1 c2 c3 z0 z1 b0 b1 b2 b3 b4 b5 b6 a0 a1 a2 a3 a4 a5 a6 n1 n2 n3 n4 n5 n6 q1 q2 q3 HL4
    generalize (set7 ((W4.setCell ⟨Z, 4, none⟩ (.int .i64 r.top)).drewN (nq + 1)) g 0 { on := true, op := 0, made := 2, v := yv, t := r.top, b := yb, won := yw }) = W7 at *
    have x0 := row_val L7.rs (i := 0) (v := .bool false) (by omega) rfl
    have x1 := row_val L7.rs (i := 1) (v := .int .i64 0) (by omega) rfl
    have x2 := row_val L7.rs (i := 2) (v := .int .i64 0) (by omega) rfl
    have x3 := row_val L7.rs (i := 3) (v := .int .i64 0) (by omega) rfl
    have y0 := World.rowIs.frozen L7.rs 0
    have y1 := World.rowIs.frozen L7.rs 1
    have y2 := World.rowIs.frozen L7.rs 2
    have y3 := World.rowIs.frozen L7.rs 3
    obtain ⟨g1, g2, g3⟩ := L7.ans {}
    unfold Ytldobbdaokjgaaa.set4 at g1 g2 g3
    dsimp only at g1 g2 g3
    have w0 := row_val g1 (i := 0) (v := .bool false) (by omega) rfl
    have w1 := row_val g1 (i := 1) (v := .int .i64 0) (by omega) rfl
    have w2 := row_val g1 (i := 2) (v := .int .i64 0) (by omega) rfl
    have w3 := row_val g1 (i := 3) (v := .int .i64 0) (by omega) rfl
    have HA9 := Lib.hid (And.intro g2 g3)
    clear g1 g2 g3 L7
    go_wp2
    refine bodyPost_ret (by simp [results, Try.results29, go_sem, w0, w1, w2, w3]; try rfl) rfl ?_
    exact ⟨rfl, HA9.out⟩
set_option maxRecDepth 100000 in
set_option maxHeartbeats 8000000 in
theorem rp0_3 (h : Rf w c g p r) (yv yt yb : Int) (yw : Bool) : Calls Try.prog 29 #[.pointer (some ⟨c, 0, none⟩), .agg #[.bool true, .int .i64 0, .int .i64 3, .int .i64 yv, .int .i64 yt, .int .i64 yb, .bool yw]] w (Pd w c g p ((r.setPl (plc yb r.n) yv).setY 0 { on := true, op := 0, made := 3, v := yv, t := yt, b := yb, won := yw }) {}) := by
  have hz := zero51
  have hz5 := zero55
  have HN := Lc.new h { on := true, op := 0, made := 3, v := yv, t := yt, b := yb, won := yw }
  dsimp only at HN
  have H := Lib.hid h
  have hlt := fun x => plc_lt x r.n h.n1
  have HLT := Lib.hid hlt
  clear hlt
  clear h
  unfold Pd
  go_enter Try.func29, Try.ntmps29
  go_upto_region 1 with fail
  obtain ⟨L4, rb⟩ := HN
  have hsz : w.heap.size + 1 = w.heap.size + 1 := rfl
  generalize (w.alloc (.cells #[.bool true, .int .i64 0, .int .i64 3, .int .i64 yv, .int .i64 yt, .int .i64 yb, .bool yw] 55)).alloc (.cells #[.bool false, .int .i64 0, .int .i64 0, .int .i64 0] 51) = W4 at *
  clear hsz
  have HZZ := Lib.hid (show w.heap.size = w.heap.size from rfl)
  generalize hZ : w.heap.size = Z at *
  clear HZZ hZ
  have c0 := L4.rf.c0
  have c1 := L4.rf.c1
  have c2 := L4.rf.c2
  have c3 := L4.rf.c3
  have z0 := L4.rf.fc 0
  have z1 := L4.rf.fc 1
  have q1 := L4.rf.cg
  have q2 := L4.rf.cp
  have q3 := L4.rf.gp
  have n1 : c ≠ Z := by have := L4.z; omega
  have n2 : g ≠ Z := by have := L4.z; omega
  have n3 : p ≠ Z := by have := L4.z; omega
  have n4 : Z ≠ c := by omega
  have n5 : Z ≠ g := by omega
  have n6 : Z ≠ p := by omega
  have f0 := L4.rf.fg (0)
  have f1 := L4.rf.fg (1)
  have f2 := L4.rf.fg (2)
  have f3 := L4.rf.fg (3)
  have f4 := L4.rf.fg (4)
  have f5 := L4.rf.fg (5)
  have f6 := L4.rf.fg (6)
  have t0 := L4.rf.t0 0 (by omega)
  have t1 := L4.rf.t1 0 (by omega)
  have t2 := L4.rf.t2 0 (by omega)
  have t3 := L4.rf.t3 0 (by omega)
  have t4 := L4.rf.t4 0 (by omega)
  have t5 := L4.rf.t5 0 (by omega)
  have t6 := L4.rf.t6 0 (by omega)
  rw [Nat.zero_mul] at t0
  rw [Nat.zero_mul, Nat.zero_add] at t1 t2 t3 t4 t5 t6
  have b0 := row_val rb (i := 0) (v := .bool true) (by omega) rfl
  have a0 := World.rowIs.frozen rb 0
  have b1 := row_val rb (i := 1) (v := .int .i64 0) (by omega) rfl
  have a1 := World.rowIs.frozen rb 1
  have b2 := row_val rb (i := 2) (v := .int .i64 3) (by omega) rfl
  have a2 := World.rowIs.frozen rb 2
  have b3 := row_val rb (i := 3) (v := .int .i64 yv) (by omega) rfl
  have a3 := World.rowIs.frozen rb 3
  have b4 := row_val rb (i := 4) (v := .int .i64 yt) (by omega) rfl
  have a4 := World.rowIs.frozen rb 4
  have b5 := row_val rb (i := 5) (v := .int .i64 yb) (by omega) rfl
  have a5 := World.rowIs.frozen rb 5
  have b6 := row_val rb (i := 6) (v := .bool yw) (by omega) rfl
  have a6 := World.rowIs.frozen rb 6
  generalize (r.th 0).op = o1 at t1
  generalize (r.th 0).on = o0 at t0
  generalize (r.th 0).made = o2 at t2
  generalize (r.th 0).v = o3 at t3
  generalize (r.th 0).t = o4 at t4
  generalize (r.th 0).b = o5 at t5
  generalize (r.th 0).won = o6 at t6
  have HL4 := Lib.hid L4
  clear rb L4
  go_wp2_with fail
  have HAT := at_any HL4.out.rf.drew yb
  refine wp_region_still_tail 11 (by kernel_rfl) (by kernel_rfl) ?_
  simp only [List.take_succ_cons, List.take_zero, List.drop_succ_cons, List.drop_zero]
  have hlt := HLT.out yb
  have hlt' : ((plc yb r.n : Nat) : Int) < (r.n : Int) := by omega
  have cu := HL4.out.rf.cu (plc yb r.n) hlt
  have fu := HL4.out.rf.fp (plc yb r.n)
  repeat still_step
  still_call HAT
  repeat still_step
  refine wpStill_nil ?_
  refine (show wpList _ _ _ _ _ W4.drew from ?_)
  clear HAT
  go_wp2_with fail
  go_region
  all_goals
    have L7 := ((HL4.out.sPl (plc yb r.n) yv).set7 0 (by omega) { on := true, op := 0, made := 3, v := yv, t := yt, b := yb, won := yw }).drew.drew
    refine (show Exit.then _ _ Exit.normal _ ((set7 (W4.setCell ⟨p, plc yb r.n, none⟩ (.int .i64 yv)) g 0 { on := true, op := 0, made := 3, v := yv, t := yt, b := yb, won := yw }).drew.drew) from ?_)
    clear f0 f1 f2 f3 f4 f5 f6 t0 t1 t2 t3 t4 t5 t6 c0 c1 c2 c3 z0 z1 b0 b1 b2 b3 b4 b5 b6 a0 a1 a2 a3 a4 a5 a6 n1 n2 n3 n4 n5 n6 q1 q2 q3 HL4
    generalize (set7 (W4.setCell ⟨p, plc yb r.n, none⟩ (.int .i64 yv)) g 0 { on := true, op := 0, made := 3, v := yv, t := yt, b := yb, won := yw }).drew.drew = W7 at *
    have x0 := row_val L7.rs (i := 0) (v := .bool false) (by omega) rfl
    have x1 := row_val L7.rs (i := 1) (v := .int .i64 0) (by omega) rfl
    have x2 := row_val L7.rs (i := 2) (v := .int .i64 0) (by omega) rfl
    have x3 := row_val L7.rs (i := 3) (v := .int .i64 0) (by omega) rfl
    have y0 := World.rowIs.frozen L7.rs 0
    have y1 := World.rowIs.frozen L7.rs 1
    have y2 := World.rowIs.frozen L7.rs 2
    have y3 := World.rowIs.frozen L7.rs 3
    obtain ⟨g1, g2, g3⟩ := L7.ans {}
    unfold Ytldobbdaokjgaaa.set4 at g1 g2 g3
    dsimp only at g1 g2 g3
    have w0 := row_val g1 (i := 0) (v := .bool false) (by omega) rfl
    have w1 := row_val g1 (i := 1) (v := .int .i64 0) (by omega) rfl
    have w2 := row_val g1 (i := 2) (v := .int .i64 0) (by omega) rfl
    have w3 := row_val g1 (i := 3) (v := .int .i64 0) (by omega) rfl
    have HA9 := Lib.hid (And.intro g2 g3)
    clear g1 g2 g3 L7
    go_wp2
    refine bodyPost_ret (by simp [results, Try.results29, go_sem, w0, w1, w2, w3]; try rfl) rfl ?_
    exact ⟨rfl, HA9.out⟩
set_option maxRecDepth 100000 in
set_option maxHeartbeats 8000000 in
theorem rp0_4 (h : Rf w c g p r) (yv yt yb : Int) (yw : Bool) (ho : (r.th 0).op = 0) : Calls Try.prog 29 #[.pointer (some ⟨c, 0, none⟩), .agg #[.bool true, .int .i64 0, .int .i64 4, .int .i64 yv, .int .i64 yt, .int .i64 yb, .bool yw]] w (Pd w c g p ((r.setBot (wrap64 (yb + 1))).setY 0 {}) { over := true, op := 0, v := yv, err := 0 }) := by
  have hz := zero51
  have hz5 := zero55
  have HN := Lc.new h { on := true, op := 0, made := 4, v := yv, t := yt, b := yb, won := yw }
  dsimp only at HN
  have H := Lib.hid h
  have hlt := fun x => plc_lt x r.n h.n1
  have HLT := Lib.hid hlt
  clear hlt
  have HOQ := Lib.hid ho
  clear ho
  clear h
  unfold Pd
  go_enter Try.func29, Try.ntmps29
  go_upto_region 1 with fail
  obtain ⟨L4, rb⟩ := HN
  have hsz : w.heap.size + 1 = w.heap.size + 1 := rfl
  generalize (w.alloc (.cells #[.bool true, .int .i64 0, .int .i64 4, .int .i64 yv, .int .i64 yt, .int .i64 yb, .bool yw] 55)).alloc (.cells #[.bool false, .int .i64 0, .int .i64 0, .int .i64 0] 51) = W4 at *
  clear hsz
  have HZZ := Lib.hid (show w.heap.size = w.heap.size from rfl)
  generalize hZ : w.heap.size = Z at *
  clear HZZ hZ
  have c0 := L4.rf.c0
  have c1 := L4.rf.c1
  have c2 := L4.rf.c2
  have c3 := L4.rf.c3
  have z0 := L4.rf.fc 0
  have z1 := L4.rf.fc 1
  have q1 := L4.rf.cg
  have q2 := L4.rf.cp
  have q3 := L4.rf.gp
  have n1 : c ≠ Z := by have := L4.z; omega
  have n2 : g ≠ Z := by have := L4.z; omega
  have n3 : p ≠ Z := by have := L4.z; omega
  have n4 : Z ≠ c := by omega
  have n5 : Z ≠ g := by omega
  have n6 : Z ≠ p := by omega
  have f0 := L4.rf.fg (0)
  have f1 := L4.rf.fg (1)
  have f2 := L4.rf.fg (2)
  have f3 := L4.rf.fg (3)
  have f4 := L4.rf.fg (4)
  have f5 := L4.rf.fg (5)
  have f6 := L4.rf.fg (6)
  have t0 := L4.rf.t0 0 (by omega)
  have t1 := L4.rf.t1 0 (by omega)
  have t2 := L4.rf.t2 0 (by omega)
  have t3 := L4.rf.t3 0 (by omega)
  have t4 := L4.rf.t4 0 (by omega)
  have t5 := L4.rf.t5 0 (by omega)
  have t6 := L4.rf.t6 0 (by omega)
  rw [Nat.zero_mul] at t0
  rw [Nat.zero_mul, Nat.zero_add] at t1 t2 t3 t4 t5 t6
  have b0 := row_val rb (i := 0) (v := .bool true) (by omega) rfl
  have a0 := World.rowIs.frozen rb 0
  have b1 := row_val rb (i := 1) (v := .int .i64 0) (by omega) rfl
  have a1 := World.rowIs.frozen rb 1
  have b2 := row_val rb (i := 2) (v := .int .i64 4) (by omega) rfl
  have a2 := World.rowIs.frozen rb 2
  have b3 := row_val rb (i := 3) (v := .int .i64 yv) (by omega) rfl
  have a3 := World.rowIs.frozen rb 3
  have b4 := row_val rb (i := 4) (v := .int .i64 yt) (by omega) rfl
  have a4 := World.rowIs.frozen rb 4
  have b5 := row_val rb (i := 5) (v := .int .i64 yb) (by omega) rfl
  have a5 := World.rowIs.frozen rb 5
  have b6 := row_val rb (i := 6) (v := .bool yw) (by omega) rfl
  have a6 := World.rowIs.frozen rb 6
  generalize (r.th 0).op = o1 at t1
  generalize (r.th 0).on = o0 at t0
  generalize (r.th 0).made = o2 at t2
  generalize (r.th 0).v = o3 at t3
  generalize (r.th 0).t = o4 at t4
  generalize (r.th 0).b = o5 at t5
  generalize (r.th 0).won = o6 at t6
  have HL4 := Lib.hid L4
  clear rb L4
  go_wp2_with fail
  all_goals
    have LX := HL4.out.sBot (wrap64 (yb + 1))
    refine (rover0 LX.rf 0 yv 0 HOQ.out).mono ?_
    rintro e W2 ⟨rfl, k1, k2⟩
    have L7 := LX.over k1 k2
    have x0 := row_val L7.rs (i := 0) (v := .bool false) (by omega) rfl
    have x1 := row_val L7.rs (i := 1) (v := .int .i64 0) (by omega) rfl
    have x2 := row_val L7.rs (i := 2) (v := .int .i64 0) (by omega) rfl
    have x3 := row_val L7.rs (i := 3) (v := .int .i64 0) (by omega) rfl
    have y0 := World.rowIs.frozen L7.rs 0
    have y1 := World.rowIs.frozen L7.rs 1
    have y2 := World.rowIs.frozen L7.rs 2
    have y3 := World.rowIs.frozen L7.rs 3
    have zz : Z + 1 < W2.heap.size := L7.rs.lt
    have m1 : Z + 1 ≠ W2.heap.size := by omega
    have m2 : W2.heap.size ≠ Z + 1 := by omega
    obtain ⟨g1, g2, g3⟩ := L7.ans { over := true, op := 0, v := yv, err := 0 }
    unfold Ytldobbdaokjgaaa.set4 at g1 g2 g3
    dsimp only at g1 g2 g3
    have w0 := fun a : Array Value => row_val (g1.alloc (.cells a 51)) (i := 0) (v := .bool true) (by omega) rfl
    have w1 := fun a : Array Value => row_val (g1.alloc (.cells a 51)) (i := 1) (v := .int .i64 0) (by omega) rfl
    have w2 := fun a : Array Value => row_val (g1.alloc (.cells a 51)) (i := 2) (v := .int .i64 yv) (by omega) rfl
    have w3 := fun a : Array Value => row_val (g1.alloc (.cells a 51)) (i := 3) (v := .int .i64 0) (by omega) rfl
    have HA9 := Lib.hid (And.intro g2 g3)
    clear g1 g2 g3 L7 k1 k2 LX f0 f1 f2 f3 f4 f5 f6 t0 t1 t2 t3 t4 t5 t6 c0 c1 c2 c3 z0 z1 b0 b1 b2 b3 b4 b5 b6 a0 a1 a2 a3 a4 a5 a6 n1 n2 n3 n4 n5 n6 q1 q2 q3 HL4
    unfold dv
    go_wp2
    refine bodyPost_ret (by simp [results, Try.results29, go_sem, w0, w1, w2, w3]; try rfl) rfl ?_
    exact ⟨rfl, HA9.out.1.alloc _, HA9.out.2.al'⟩
set_option maxRecDepth 100000 in
set_option maxHeartbeats 8000000 in
theorem rp1_1 (h : Rf w c g p r) (yv yt yb : Int) (yw : Bool) : Calls Try.prog 30 #[.pointer (some ⟨c, 0, none⟩), .agg #[.bool true, .int .i64 1, .int .i64 1, .int .i64 yv, .int .i64 yt, .int .i64 yb, .bool yw]] w (Pd w c g p ((r).setY 0 { on := true, op := 1, made := 1, v := yv, t := yt, b := (wrap64 (r.bot - 1)), won := yw }) {}) := by
  have hz := zero51
  have hz5 := zero55
  have HN := Lc.new h { on := true, op := 1, made := 1, v := yv, t := yt, b := yb, won := yw }
  dsimp only at HN
  have H := Lib.hid h
  have hlt := fun x => plc_lt x r.n h.n1
  have HLT := Lib.hid hlt
  clear hlt
  clear h
  unfold Pd
  go_enter Try.func30, Try.ntmps30
  go_upto_region 1 with fail
  obtain ⟨L4, rb⟩ := HN
  have hsz : w.heap.size + 1 = w.heap.size + 1 := rfl
  generalize (w.alloc (.cells #[.bool true, .int .i64 1, .int .i64 1, .int .i64 yv, .int .i64 yt, .int .i64 yb, .bool yw] 55)).alloc (.cells #[.bool false, .int .i64 0, .int .i64 0, .int .i64 0] 51) = W4 at *
  clear hsz
  have HZZ := Lib.hid (show w.heap.size = w.heap.size from rfl)
  generalize hZ : w.heap.size = Z at *
  clear HZZ hZ
  have c0 := L4.rf.c0
  have c1 := L4.rf.c1
  have c2 := L4.rf.c2
  have c3 := L4.rf.c3
  have z0 := L4.rf.fc 0
  have z1 := L4.rf.fc 1
  have q1 := L4.rf.cg
  have q2 := L4.rf.cp
  have q3 := L4.rf.gp
  have n1 : c ≠ Z := by have := L4.z; omega
  have n2 : g ≠ Z := by have := L4.z; omega
  have n3 : p ≠ Z := by have := L4.z; omega
  have n4 : Z ≠ c := by omega
  have n5 : Z ≠ g := by omega
  have n6 : Z ≠ p := by omega
  have f0 := L4.rf.fg (0)
  have f1 := L4.rf.fg (1)
  have f2 := L4.rf.fg (2)
  have f3 := L4.rf.fg (3)
  have f4 := L4.rf.fg (4)
  have f5 := L4.rf.fg (5)
  have f6 := L4.rf.fg (6)
  have t0 := L4.rf.t0 0 (by omega)
  have t1 := L4.rf.t1 0 (by omega)
  have t2 := L4.rf.t2 0 (by omega)
  have t3 := L4.rf.t3 0 (by omega)
  have t4 := L4.rf.t4 0 (by omega)
  have t5 := L4.rf.t5 0 (by omega)
  have t6 := L4.rf.t6 0 (by omega)
  rw [Nat.zero_mul] at t0
  rw [Nat.zero_mul, Nat.zero_add] at t1 t2 t3 t4 t5 t6
  have b0 := row_val rb (i := 0) (v := .bool true) (by omega) rfl
  have a0 := World.rowIs.frozen rb 0
  have b1 := row_val rb (i := 1) (v := .int .i64 1) (by omega) rfl
  have a1 := World.rowIs.frozen rb 1
  have b2 := row_val rb (i := 2) (v := .int .i64 1) (by omega) rfl
  have a2 := World.rowIs.frozen rb 2
  have b3 := row_val rb (i := 3) (v := .int .i64 yv) (by omega) rfl
  have a3 := World.rowIs.frozen rb 3
  have b4 := row_val rb (i := 4) (v := .int .i64 yt) (by omega) rfl
  have a4 := World.rowIs.frozen rb 4
  have b5 := row_val rb (i := 5) (v := .int .i64 yb) (by omega) rfl
  have a5 := World.rowIs.frozen rb 5
  have b6 := row_val rb (i := 6) (v := .bool yw) (by omega) rfl
  have a6 := World.rowIs.frozen rb 6
  generalize (r.th 0).op = o1 at t1
  generalize (r.th 0).on = o0 at t0
  generalize (r.th 0).made = o2 at t2
  generalize (r.th 0).v = o3 at t3
  generalize (r.th 0).t = o4 at t4
  generalize (r.th 0).b = o5 at t5
  generalize (r.th 0).won = o6 at t6
  have HL4 := Lib.hid L4
  clear rb L4
  go_wp2_with fail
  go_region
  all_goals
    have L7 := ((HL4.out.bset 5 (.int .i64 (wrap64 (r.bot - 1)))).set7 0 (by omega) { on := true, op := 1, made := 1, v := yv, t := yt, b := (wrap64 (r.bot - 1)), won := yw }).drew
    refine (show Exit.then _ _ Exit.normal _ ((set7 (W4.setCell ⟨Z, 5, none⟩ (.int .i64 (wrap64 (r.bot - 1)))) g 0 { on := true, op := 1, made := 1, v := yv, t := yt, b := (wrap64 (r.bot - 1)), won := yw }).drew) from ?_)
    clear f0 f1 f2 f3 f4 f5 f6 t0 t1 t2 t3 t4 t5 t6 c0 c1 c2 c3 z0 z1 b0 b1 b2 b3 b4 b5 b6 a0 a1 a2 a3 a4 a5 a6 n1 n2 n3 n4 n5 n6 q1 q2 q3 HL4
    generalize (set7 (W4.setCell ⟨Z, 5, none⟩ (.int .i64 (wrap64 (r.bot - 1)))) g 0 { on := true, op := 1, made := 1, v := yv, t := yt, b := (wrap64 (r.bot - 1)), won := yw }).drew = W7 at *
    have x0 := row_val L7.rs (i := 0) (v := .bool false) (by omega) rfl
    have x1 := row_val L7.rs (i := 1) (v := .int .i64 0) (by omega) rfl
    have x2 := row_val L7.rs (i := 2) (v := .int .i64 0) (by omega) rfl
    have x3 := row_val L7.rs (i := 3) (v := .int .i64 0) (by omega) rfl
    have y0 := World.rowIs.frozen L7.rs 0
    have y1 := World.rowIs.frozen L7.rs 1
    have y2 := World.rowIs.frozen L7.rs 2
    have y3 := World.rowIs.frozen L7.rs 3
    obtain ⟨g1, g2, g3⟩ := L7.ans {}
    unfold Ytldobbdaokjgaaa.set4 at g1 g2 g3
    dsimp only at g1 g2 g3
    have w0 := row_val g1 (i := 0) (v := .bool false) (by omega) rfl
    have w1 := row_val g1 (i := 1) (v := .int .i64 0) (by omega) rfl
    have w2 := row_val g1 (i := 2) (v := .int .i64 0) (by omega) rfl
    have w3 := row_val g1 (i := 3) (v := .int .i64 0) (by omega) rfl
    have HA9 := Lib.hid (And.intro g2 g3)
    clear g1 g2 g3 L7
    go_wp2
    refine bodyPost_ret (by simp [results, Try.results30, go_sem, w0, w1, w2, w3]; try rfl) rfl ?_
    exact ⟨rfl, HA9.out⟩
set_option maxRecDepth 100000 in
set_option maxHeartbeats 8000000 in
theorem rp1_2 (h : Rf w c g p r) (yv yt yb : Int) (yw : Bool) : Calls Try.prog 30 #[.pointer (some ⟨c, 0, none⟩), .agg #[.bool true, .int .i64 1, .int .i64 2, .int .i64 yv, .int .i64 yt, .int .i64 yb, .bool yw]] w (Pd w c g p ((r.setBot yb).setY 0 { on := true, op := 1, made := 2, v := yv, t := yt, b := yb, won := yw }) {}) := by
  have hz := zero51
  have hz5 := zero55
  have HN := Lc.new h { on := true, op := 1, made := 2, v := yv, t := yt, b := yb, won := yw }
  dsimp only at HN
  have H := Lib.hid h
  have hlt := fun x => plc_lt x r.n h.n1
  have HLT := Lib.hid hlt
  clear hlt
  clear h
  unfold Pd
  go_enter Try.func30, Try.ntmps30
  go_upto_region 1 with fail
  obtain ⟨L4, rb⟩ := HN
  have hsz : w.heap.size + 1 = w.heap.size + 1 := rfl
  generalize (w.alloc (.cells #[.bool true, .int .i64 1, .int .i64 2, .int .i64 yv, .int .i64 yt, .int .i64 yb, .bool yw] 55)).alloc (.cells #[.bool false, .int .i64 0, .int .i64 0, .int .i64 0] 51) = W4 at *
  clear hsz
  have HZZ := Lib.hid (show w.heap.size = w.heap.size from rfl)
  generalize hZ : w.heap.size = Z at *
  clear HZZ hZ
  have c0 := L4.rf.c0
  have c1 := L4.rf.c1
  have c2 := L4.rf.c2
  have c3 := L4.rf.c3
  have z0 := L4.rf.fc 0
  have z1 := L4.rf.fc 1
  have q1 := L4.rf.cg
  have q2 := L4.rf.cp
  have q3 := L4.rf.gp
  have n1 : c ≠ Z := by have := L4.z; omega
  have n2 : g ≠ Z := by have := L4.z; omega
  have n3 : p ≠ Z := by have := L4.z; omega
  have n4 : Z ≠ c := by omega
  have n5 : Z ≠ g := by omega
  have n6 : Z ≠ p := by omega
  have f0 := L4.rf.fg (0)
  have f1 := L4.rf.fg (1)
  have f2 := L4.rf.fg (2)
  have f3 := L4.rf.fg (3)
  have f4 := L4.rf.fg (4)
  have f5 := L4.rf.fg (5)
  have f6 := L4.rf.fg (6)
  have t0 := L4.rf.t0 0 (by omega)
  have t1 := L4.rf.t1 0 (by omega)
  have t2 := L4.rf.t2 0 (by omega)
  have t3 := L4.rf.t3 0 (by omega)
  have t4 := L4.rf.t4 0 (by omega)
  have t5 := L4.rf.t5 0 (by omega)
  have t6 := L4.rf.t6 0 (by omega)
  rw [Nat.zero_mul] at t0
  rw [Nat.zero_mul, Nat.zero_add] at t1 t2 t3 t4 t5 t6
  have b0 := row_val rb (i := 0) (v := .bool true) (by omega) rfl
  have a0 := World.rowIs.frozen rb 0
  have b1 := row_val rb (i := 1) (v := .int .i64 1) (by omega) rfl
  have a1 := World.rowIs.frozen rb 1
  have b2 := row_val rb (i := 2) (v := .int .i64 2) (by omega) rfl
  have a2 := World.rowIs.frozen rb 2
  have b3 := row_val rb (i := 3) (v := .int .i64 yv) (by omega) rfl
  have a3 := World.rowIs.frozen rb 3
  have b4 := row_val rb (i := 4) (v := .int .i64 yt) (by omega) rfl
  have a4 := World.rowIs.frozen rb 4
  have b5 := row_val rb (i := 5) (v := .int .i64 yb) (by omega) rfl
  have a5 := World.rowIs.frozen rb 5
  have b6 := row_val rb (i := 6) (v := .bool yw) (by omega) rfl
  have a6 := World.rowIs.frozen rb 6
  generalize (r.th 0).op = o1 at t1
  generalize (r.th 0).on = o0 at t0
  generalize (r.th 0).made = o2 at t2
  generalize (r.th 0).v = o3 at t3
  generalize (r.th 0).t = o4 at t4
  generalize (r.th 0).b = o5 at t5
  generalize (r.th 0).won = o6 at t6
  have HL4 := Lib.hid L4
  clear rb L4
  go_wp2_with fail
  go_region
  all_goals
    have L7 := ((HL4.out.sBot yb).set7 0 (by omega) { on := true, op := 1, made := 2, v := yv, t := yt, b := yb, won := yw }).drew
    refine (show Exit.then _ _ Exit.normal _ ((set7 (W4.setCell ⟨c, 1, none⟩ (.int .i64 yb)) g 0 { on := true, op := 1, made := 2, v := yv, t := yt, b := yb, won := yw }).drew) from ?_)
    clear f0 f1 f2 f3 f4 f5 f6 t0 t1 t2 t3 t4 t5 t6 c0 c1 c2 c3 z0 z1 b0 b1 b2 b3 b4 b5 b6 a0 a1 a2 a3 a4 a5 a6 n1 n2 n3 n4 n5 n6 q1 q2 q3 HL4
    generalize (set7 (W4.setCell ⟨c, 1, none⟩ (.int .i64 yb)) g 0 { on := true, op := 1, made := 2, v := yv, t := yt, b := yb, won := yw }).drew = W7 at *
    have x0 := row_val L7.rs (i := 0) (v := .bool false) (by omega) rfl
    have x1 := row_val L7.rs (i := 1) (v := .int .i64 0) (by omega) rfl
    have x2 := row_val L7.rs (i := 2) (v := .int .i64 0) (by omega) rfl
    have x3 := row_val L7.rs (i := 3) (v := .int .i64 0) (by omega) rfl
    have y0 := World.rowIs.frozen L7.rs 0
    have y1 := World.rowIs.frozen L7.rs 1
    have y2 := World.rowIs.frozen L7.rs 2
    have y3 := World.rowIs.frozen L7.rs 3
    obtain ⟨g1, g2, g3⟩ := L7.ans {}
    unfold Ytldobbdaokjgaaa.set4 at g1 g2 g3
    dsimp only at g1 g2 g3
    have w0 := row_val g1 (i := 0) (v := .bool false) (by omega) rfl
    have w1 := row_val g1 (i := 1) (v := .int .i64 0) (by omega) rfl
    have w2 := row_val g1 (i := 2) (v := .int .i64 0) (by omega) rfl
    have w3 := row_val g1 (i := 3) (v := .int .i64 0) (by omega) rfl
    have HA9 := Lib.hid (And.intro g2 g3)
    clear g1 g2 g3 L7
    go_wp2
    refine bodyPost_ret (by simp [results, Try.results30, go_sem, w0, w1, w2, w3]; try rfl) rfl ?_
    exact ⟨rfl, HA9.out⟩
set_option maxRecDepth 100000 in
set_option maxHeartbeats 8000000 in
theorem rp1_3 (h : Rf w c g p r) (yv yt yb : Int) (yw : Bool) : Calls Try.prog 30 #[.pointer (some ⟨c, 0, none⟩), .agg #[.bool true, .int .i64 1, .int .i64 3, .int .i64 yv, .int .i64 yt, .int .i64 yb, .bool yw]] w (Pd w c g p ((r).setY 0 { on := true, op := 1, made := 3, v := yv, t := r.top, b := yb, won := yw }) {}) := by
  have hz := zero51
  have hz5 := zero55
  have HN := Lc.new h { on := true, op := 1, made := 3, v := yv, t := yt, b := yb, won := yw }
  dsimp only at HN
  have H := Lib.hid h
  have hlt := fun x => plc_lt x r.n h.n1
  have HLT := Lib.hid hlt
  clear hlt
  clear h
  unfold Pd
  go_enter Try.func30, Try.ntmps30
  go_upto_region 1 with fail
  obtain ⟨L4, rb⟩ := HN
  have hsz : w.heap.size + 1 = w.heap.size + 1 := rfl
  generalize (w.alloc (.cells #[.bool true, .int .i64 1, .int .i64 3, .int .i64 yv, .int .i64 yt, .int .i64 yb, .bool yw] 55)).alloc (.cells #[.bool false, .int .i64 0, .int .i64 0, .int .i64 0] 51) = W4 at *
  clear hsz
  have HZZ := Lib.hid (show w.heap.size = w.heap.size from rfl)
  generalize hZ : w.heap.size = Z at *
  clear HZZ hZ
  have c0 := L4.rf.c0
  have c1 := L4.rf.c1
  have c2 := L4.rf.c2
  have c3 := L4.rf.c3
  have z0 := L4.rf.fc 0
  have z1 := L4.rf.fc 1
  have q1 := L4.rf.cg
  have q2 := L4.rf.cp
  have q3 := L4.rf.gp
  have n1 : c ≠ Z := by have := L4.z; omega
  have n2 : g ≠ Z := by have := L4.z; omega
  have n3 : p ≠ Z := by have := L4.z; omega
  have n4 : Z ≠ c := by omega
  have n5 : Z ≠ g := by omega
  have n6 : Z ≠ p := by omega
  have f0 := L4.rf.fg (0)
  have f1 := L4.rf.fg (1)
  have f2 := L4.rf.fg (2)
  have f3 := L4.rf.fg (3)
  have f4 := L4.rf.fg (4)
  have f5 := L4.rf.fg (5)
  have f6 := L4.rf.fg (6)
  have t0 := L4.rf.t0 0 (by omega)
  have t1 := L4.rf.t1 0 (by omega)
  have t2 := L4.rf.t2 0 (by omega)
  have t3 := L4.rf.t3 0 (by omega)
  have t4 := L4.rf.t4 0 (by omega)
  have t5 := L4.rf.t5 0 (by omega)
  have t6 := L4.rf.t6 0 (by omega)
  rw [Nat.zero_mul] at t0
  rw [Nat.zero_mul, Nat.zero_add] at t1 t2 t3 t4 t5 t6
  have b0 := row_val rb (i := 0) (v := .bool true) (by omega) rfl
  have a0 := World.rowIs.frozen rb 0
  have b1 := row_val rb (i := 1) (v := .int .i64 1) (by omega) rfl
  have a1 := World.rowIs.frozen rb 1
  have b2 := row_val rb (i := 2) (v := .int .i64 3) (by omega) rfl
  have a2 := World.rowIs.frozen rb 2
  have b3 := row_val rb (i := 3) (v := .int .i64 yv) (by omega) rfl
  have a3 := World.rowIs.frozen rb 3
  have b4 := row_val rb (i := 4) (v := .int .i64 yt) (by omega) rfl
  have a4 := World.rowIs.frozen rb 4
  have b5 := row_val rb (i := 5) (v := .int .i64 yb) (by omega) rfl
  have a5 := World.rowIs.frozen rb 5
  have b6 := row_val rb (i := 6) (v := .bool yw) (by omega) rfl
  have a6 := World.rowIs.frozen rb 6
  generalize (r.th 0).op = o1 at t1
  generalize (r.th 0).on = o0 at t0
  generalize (r.th 0).made = o2 at t2
  generalize (r.th 0).v = o3 at t3
  generalize (r.th 0).t = o4 at t4
  generalize (r.th 0).b = o5 at t5
  generalize (r.th 0).won = o6 at t6
  have HL4 := Lib.hid L4
  clear rb L4
  go_wp2_with fail
  go_region
  all_goals
    have L7 := ((HL4.out.bset 4 (.int .i64 r.top)).set7 0 (by omega) { on := true, op := 1, made := 3, v := yv, t := r.top, b := yb, won := yw }).drew
    refine (show Exit.then _ _ Exit.normal _ ((set7 (W4.setCell ⟨Z, 4, none⟩ (.int .i64 r.top)) g 0 { on := true, op := 1, made := 3, v := yv, t := r.top, b := yb, won := yw }).drew) from ?_)
    clear f0 f1 f2 f3 f4 f5 f6 t0 t1 t2 t3 t4 t5 t6 c0 c1 c2 c3 z0 z1 b0 b1 b2 b3 b4 b5 b6 a0 a1 a2 a3 a4 a5 a6 n1 n2 n3 n4 n5 n6 q1 q2 q3 HL4
    generalize (set7 (W4.setCell ⟨Z, 4, none⟩ (.int .i64 r.top)) g 0 { on := true, op := 1, made := 3, v := yv, t := r.top, b := yb, won := yw }).drew = W7 at *
    have x0 := row_val L7.rs (i := 0) (v := .bool false) (by omega) rfl
    have x1 := row_val L7.rs (i := 1) (v := .int .i64 0) (by omega) rfl
    have x2 := row_val L7.rs (i := 2) (v := .int .i64 0) (by omega) rfl
    have x3 := row_val L7.rs (i := 3) (v := .int .i64 0) (by omega) rfl
    have y0 := World.rowIs.frozen L7.rs 0
    have y1 := World.rowIs.frozen L7.rs 1
    have y2 := World.rowIs.frozen L7.rs 2
    have y3 := World.rowIs.frozen L7.rs 3
    obtain ⟨g1, g2, g3⟩ := L7.ans {}
    unfold Ytldobbdaokjgaaa.set4 at g1 g2 g3
    dsimp only at g1 g2 g3
    have w0 := row_val g1 (i := 0) (v := .bool false) (by omega) rfl
    have w1 := row_val g1 (i := 1) (v := .int .i64 0) (by omega) rfl
    have w2 := row_val g1 (i := 2) (v := .int .i64 0) (by omega) rfl
    have w3 := row_val g1 (i := 3) (v := .int .i64 0) (by omega) rfl
    have HA9 := Lib.hid (And.intro g2 g3)
    clear g1 g2 g3 L7
    go_wp2
    refine bodyPost_ret (by simp [results, Try.results30, go_sem, w0, w1, w2, w3]; try rfl) rfl ?_
    exact ⟨rfl, HA9.out⟩
set_option maxRecDepth 100000 in
set_option maxHeartbeats 8000000 in
theorem rp1_4e (h : Rf w c g p r) (yv yt yb : Int) (yw : Bool) (hc : yb < yt) (ho : (r.th 0).op = 1) : Calls Try.prog 30 #[.pointer (some ⟨c, 0, none⟩), .agg #[.bool true, .int .i64 1, .int .i64 4, .int .i64 yv, .int .i64 yt, .int .i64 yb, .bool yw]] w (Pd w c g p ((r.setBot (wrap64 (yb + 1))).setY 0 {}) { over := true, op := 1, v := 0, err := 8 }) := by
  have hz := zero51
  have hz5 := zero55
  have HN := Lc.new h { on := true, op := 1, made := 4, v := yv, t := yt, b := yb, won := yw }
  dsimp only at HN
  have H := Lib.hid h
  have hlt := fun x => plc_lt x r.n h.n1
  have HLT := Lib.hid hlt
  clear hlt
  have HOQ := Lib.hid ho
  clear ho
  clear h
  unfold Pd
  go_enter Try.func30, Try.ntmps30
  go_upto_region 1 with fail
  obtain ⟨L4, rb⟩ := HN
  have hsz : w.heap.size + 1 = w.heap.size + 1 := rfl
  generalize (w.alloc (.cells #[.bool true, .int .i64 1, .int .i64 4, .int .i64 yv, .int .i64 yt, .int .i64 yb, .bool yw] 55)).alloc (.cells #[.bool false, .int .i64 0, .int .i64 0, .int .i64 0] 51) = W4 at *
  clear hsz
  have HZZ := Lib.hid (show w.heap.size = w.heap.size from rfl)
  generalize hZ : w.heap.size = Z at *
  clear HZZ hZ
  have c0 := L4.rf.c0
  have c1 := L4.rf.c1
  have c2 := L4.rf.c2
  have c3 := L4.rf.c3
  have z0 := L4.rf.fc 0
  have z1 := L4.rf.fc 1
  have q1 := L4.rf.cg
  have q2 := L4.rf.cp
  have q3 := L4.rf.gp
  have n1 : c ≠ Z := by have := L4.z; omega
  have n2 : g ≠ Z := by have := L4.z; omega
  have n3 : p ≠ Z := by have := L4.z; omega
  have n4 : Z ≠ c := by omega
  have n5 : Z ≠ g := by omega
  have n6 : Z ≠ p := by omega
  have f0 := L4.rf.fg (0)
  have f1 := L4.rf.fg (1)
  have f2 := L4.rf.fg (2)
  have f3 := L4.rf.fg (3)
  have f4 := L4.rf.fg (4)
  have f5 := L4.rf.fg (5)
  have f6 := L4.rf.fg (6)
  have t0 := L4.rf.t0 0 (by omega)
  have t1 := L4.rf.t1 0 (by omega)
  have t2 := L4.rf.t2 0 (by omega)
  have t3 := L4.rf.t3 0 (by omega)
  have t4 := L4.rf.t4 0 (by omega)
  have t5 := L4.rf.t5 0 (by omega)
  have t6 := L4.rf.t6 0 (by omega)
  rw [Nat.zero_mul] at t0
  rw [Nat.zero_mul, Nat.zero_add] at t1 t2 t3 t4 t5 t6
  have b0 := row_val rb (i := 0) (v := .bool true) (by omega) rfl
  have a0 := World.rowIs.frozen rb 0
  have b1 := row_val rb (i := 1) (v := .int .i64 1) (by omega) rfl
  have a1 := World.rowIs.frozen rb 1
  have b2 := row_val rb (i := 2) (v := .int .i64 4) (by omega) rfl
  have a2 := World.rowIs.frozen rb 2
  have b3 := row_val rb (i := 3) (v := .int .i64 yv) (by omega) rfl
  have a3 := World.rowIs.frozen rb 3
  have b4 := row_val rb (i := 4) (v := .int .i64 yt) (by omega) rfl
  have a4 := World.rowIs.frozen rb 4
  have b5 := row_val rb (i := 5) (v := .int .i64 yb) (by omega) rfl
  have a5 := World.rowIs.frozen rb 5
  have b6 := row_val rb (i := 6) (v := .bool yw) (by omega) rfl
  have a6 := World.rowIs.frozen rb 6
  generalize (r.th 0).op = o1 at t1
  generalize (r.th 0).on = o0 at t0
  generalize (r.th 0).made = o2 at t2
  generalize (r.th 0).v = o3 at t3
  generalize (r.th 0).t = o4 at t4
  generalize (r.th 0).b = o5 at t5
  generalize (r.th 0).won = o6 at t6
  have HL4 := Lib.hid L4
  clear rb L4
  go_wp2_with fail
  all_goals
    have LX := HL4.out.sBot (wrap64 (yb + 1))
    refine (rover0 LX.rf 1 0 8 HOQ.out).mono ?_
    rintro e W2 ⟨rfl, k1, k2⟩
    have L7 := LX.over k1 k2
    have x0 := row_val L7.rs (i := 0) (v := .bool false) (by omega) rfl
    have x1 := row_val L7.rs (i := 1) (v := .int .i64 0) (by omega) rfl
    have x2 := row_val L7.rs (i := 2) (v := .int .i64 0) (by omega) rfl
    have x3 := row_val L7.rs (i := 3) (v := .int .i64 0) (by omega) rfl
    have y0 := World.rowIs.frozen L7.rs 0
    have y1 := World.rowIs.frozen L7.rs 1
    have y2 := World.rowIs.frozen L7.rs 2
    have y3 := World.rowIs.frozen L7.rs 3
    have zz : Z + 1 < W2.heap.size := L7.rs.lt
    have m1 : Z + 1 ≠ W2.heap.size := by omega
    have m2 : W2.heap.size ≠ Z + 1 := by omega
    obtain ⟨g1, g2, g3⟩ := L7.ans { over := true, op := 1, v := 0, err := 8 }
    unfold Ytldobbdaokjgaaa.set4 at g1 g2 g3
    dsimp only at g1 g2 g3
    have w0 := fun a : Array Value => row_val (g1.alloc (.cells a 51)) (i := 0) (v := .bool true) (by omega) rfl
    have w1 := fun a : Array Value => row_val (g1.alloc (.cells a 51)) (i := 1) (v := .int .i64 1) (by omega) rfl
    have w2 := fun a : Array Value => row_val (g1.alloc (.cells a 51)) (i := 2) (v := .int .i64 0) (by omega) rfl
    have w3 := fun a : Array Value => row_val (g1.alloc (.cells a 51)) (i := 3) (v := .int .i64 8) (by omega) rfl
    have HA9 := Lib.hid (And.intro g2 g3)
    clear g1 g2 g3 L7 k1 k2 LX f0 f1 f2 f3 f4 f5 f6 t0 t1 t2 t3 t4 t5 t6 c0 c1 c2 c3 z0 z1 b0 b1 b2 b3 b4 b5 b6 a0 a1 a2 a3 a4 a5 a6 n1 n2 n3 n4 n5 n6 q1 q2 q3 HL4
    unfold dv
    go_wp2
    refine bodyPost_ret (by simp [results, Try.results30, go_sem, w0, w1, w2, w3]; try rfl) rfl ?_
    exact ⟨rfl, HA9.out.1.alloc _, HA9.out.2.al'⟩
set_option maxRecDepth 100000 in
set_option maxHeartbeats 8000000 in
theorem rp1_4o (h : Rf w c g p r) (yv yt yb : Int) (yw : Bool) (hc : ¬ yb < yt) (hd : yt < yb) (ho : (r.th 0).op = 1) : Calls Try.prog 30 #[.pointer (some ⟨c, 0, none⟩), .agg #[.bool true, .int .i64 1, .int .i64 4, .int .i64 yv, .int .i64 yt, .int .i64 yb, .bool yw]] w (Pd w c g p ((r).setY 0 {}) { over := true, op := 1, v := (r.pl (plc yb r.n)), err := 0 }) := by
  have hz := zero51
  have hz5 := zero55
  have HN := Lc.new h { on := true, op := 1, made := 4, v := yv, t := yt, b := yb, won := yw }
  dsimp only at HN
  have H := Lib.hid h
  have hlt := fun x => plc_lt x r.n h.n1
  have HLT := Lib.hid hlt
  clear hlt
  have HOQ := Lib.hid ho
  clear ho
  clear h
  unfold Pd
  go_enter Try.func30, Try.ntmps30
  go_upto_region 1 with fail
  obtain ⟨L4, rb⟩ := HN
  have hsz : w.heap.size + 1 = w.heap.size + 1 := rfl
  generalize (w.alloc (.cells #[.bool true, .int .i64 1, .int .i64 4, .int .i64 yv, .int .i64 yt, .int .i64 yb, .bool yw] 55)).alloc (.cells #[.bool false, .int .i64 0, .int .i64 0, .int .i64 0] 51) = W4 at *
  clear hsz
  have HZZ := Lib.hid (show w.heap.size = w.heap.size from rfl)
  generalize hZ : w.heap.size = Z at *
  clear HZZ hZ
  have c0 := L4.rf.c0
  have c1 := L4.rf.c1
  have c2 := L4.rf.c2
  have c3 := L4.rf.c3
  have z0 := L4.rf.fc 0
  have z1 := L4.rf.fc 1
  have q1 := L4.rf.cg
  have q2 := L4.rf.cp
  have q3 := L4.rf.gp
  have n1 : c ≠ Z := by have := L4.z; omega
  have n2 : g ≠ Z := by have := L4.z; omega
  have n3 : p ≠ Z := by have := L4.z; omega
  have n4 : Z ≠ c := by omega
  have n5 : Z ≠ g := by omega
  have n6 : Z ≠ p := by omega
  have f0 := L4.rf.fg (0)
  have f1 := L4.rf.fg (1)
  have f2 := L4.rf.fg (2)
  have f3 := L4.rf.fg (3)
  have f4 := L4.rf.fg (4)
  have f5 := L4.rf.fg (5)
  have f6 := L4.rf.fg (6)
  have t0 := L4.rf.t0 0 (by omega)
  have t1 := L4.rf.t1 0 (by omega)
  have t2 := L4.rf.t2 0 (by omega)
  have t3 := L4.rf.t3 0 (by omega)
  have t4 := L4.rf.t4 0 (by omega)
  have t5 := L4.rf.t5 0 (by omega)
  have t6 := L4.rf.t6 0 (by omega)
  rw [Nat.zero_mul] at t0
  rw [Nat.zero_mul, Nat.zero_add] at t1 t2 t3 t4 t5 t6
  have b0 := row_val rb (i := 0) (v := .bool true) (by omega) rfl
  have a0 := World.rowIs.frozen rb 0
  have b1 := row_val rb (i := 1) (v := .int .i64 1) (by omega) rfl
  have a1 := World.rowIs.frozen rb 1
  have b2 := row_val rb (i := 2) (v := .int .i64 4) (by omega) rfl
  have a2 := World.rowIs.frozen rb 2
  have b3 := row_val rb (i := 3) (v := .int .i64 yv) (by omega) rfl
  have a3 := World.rowIs.frozen rb 3
  have b4 := row_val rb (i := 4) (v := .int .i64 yt) (by omega) rfl
  have a4 := World.rowIs.frozen rb 4
  have b5 := row_val rb (i := 5) (v := .int .i64 yb) (by omega) rfl
  have a5 := World.rowIs.frozen rb 5
  have b6 := row_val rb (i := 6) (v := .bool yw) (by omega) rfl
  have a6 := World.rowIs.frozen rb 6
  generalize (r.th 0).op = o1 at t1
  generalize (r.th 0).on = o0 at t0
  generalize (r.th 0).made = o2 at t2
  generalize (r.th 0).v = o3 at t3
  generalize (r.th 0).t = o4 at t4
  generalize (r.th 0).b = o5 at t5
  generalize (r.th 0).won = o6 at t6
  have HL4 := Lib.hid L4
  clear rb L4
  go_wp2_with fail
  have HAT := at_any HL4.out.rf.drew yb
  refine wp_region_still_tail 11 (by kernel_rfl) (by kernel_rfl) ?_
  simp only [List.take_succ_cons, List.take_zero, List.drop_succ_cons, List.drop_zero]
  have hlt := HLT.out yb
  have hlt' : ((plc yb r.n : Nat) : Int) < (r.n : Int) := by omega
  have cu := HL4.out.rf.cu (plc yb r.n) hlt
  have fu := HL4.out.rf.fp (plc yb r.n)
  repeat still_step
  still_call HAT
  repeat still_step
  refine wpStill_nil ?_
  refine (show wpList _ _ _ _ _ W4.drew from ?_)
  clear HAT
  go_wp2_with fail
  all_goals
    have LX := (HL4.out.bset 3 (.int .i64 (r.pl (plc yb r.n)))).drew
    refine (rover0 LX.rf 1 (r.pl (plc yb r.n)) 0 HOQ.out).mono ?_
    rintro e W2 ⟨rfl, k1, k2⟩
    have L7 := LX.over k1 k2
    have x0 := row_val L7.rs (i := 0) (v := .bool false) (by omega) rfl
    have x1 := row_val L7.rs (i := 1) (v := .int .i64 0) (by omega) rfl
    have x2 := row_val L7.rs (i := 2) (v := .int .i64 0) (by omega) rfl
    have x3 := row_val L7.rs (i := 3) (v := .int .i64 0) (by omega) rfl
    have y0 := World.rowIs.frozen L7.rs 0
    have y1 := World.rowIs.frozen L7.rs 1
    have y2 := World.rowIs.frozen L7.rs 2
    have y3 := World.rowIs.frozen L7.rs 3
    have zz : Z + 1 < W2.heap.size := L7.rs.lt
    have m1 : Z + 1 ≠ W2.heap.size := by omega
    have m2 : W2.heap.size ≠ Z + 1 := by omega
    obtain ⟨g1, g2, g3⟩ := L7.ans { over := true, op := 1, v := (r.pl (plc yb r.n)), err := 0 }
    unfold Ytldobbdaokjgaaa.set4 at g1 g2 g3
    dsimp only at g1 g2 g3
    have w0 := fun a : Array Value => row_val (g1.alloc (.cells a 51)) (i := 0) (v := .bool true) (by omega) rfl
    have w1 := fun a : Array Value => row_val (g1.alloc (.cells a 51)) (i := 1) (v := .int .i64 1) (by omega) rfl
    have w2 := fun a : Array Value => row_val (g1.alloc (.cells a 51)) (i := 2) (v := .int .i64 (r.pl (plc yb r.n))) (by omega) rfl
    have w3 := fun a : Array Value => row_val (g1.alloc (.cells a 51)) (i := 3) (v := .int .i64 0) (by omega) rfl
    have HA9 := Lib.hid (And.intro g2 g3)
    clear g1 g2 g3 L7 k1 k2 LX f0 f1 f2 f3 f4 f5 f6 t0 t1 t2 t3 t4 t5 t6 c0 c1 c2 c3 z0 z1 b0 b1 b2 b3 b4 b5 b6 a0 a1 a2 a3 a4 a5 a6 n1 n2 n3 n4 n5 n6 q1 q2 q3 HL4
    unfold dv
    go_wp2
    refine bodyPost_ret (by simp [results, Try.results30, go_sem, w0, w1, w2, w3]; try rfl) rfl ?_
    exact ⟨rfl, HA9.out.1.alloc _, HA9.out.2.al'⟩
set_option maxRecDepth 100000 in
set_option maxHeartbeats 8000000 in
theorem rp1_4k (h : Rf w c g p r) (yv yt yb : Int) (yw : Bool) (hc : ¬ yb < yt) (hd : ¬ yt < yb) : Calls Try.prog 30 #[.pointer (some ⟨c, 0, none⟩), .agg #[.bool true, .int .i64 1, .int .i64 4, .int .i64 yv, .int .i64 yt, .int .i64 yb, .bool yw]] w (Pd w c g p ((r).setY 0 { on := true, op := 1, made := 4, v := (r.pl (plc yb r.n)), t := yt, b := yb, won := yw }) {}) := by
  have hz := zero51
  have hz5 := zero55
  have HN := Lc.new h { on := true, op := 1, made := 4, v := yv, t := yt, b := yb, won := yw }
  dsimp only at HN
  have H := Lib.hid h
  have hlt := fun x => plc_lt x r.n h.n1
  have HLT := Lib.hid hlt
  clear hlt
  clear h
  unfold Pd
  go_enter Try.func30, Try.ntmps30
  go_upto_region 1 with fail
  obtain ⟨L4, rb⟩ := HN
  have hsz : w.heap.size + 1 = w.heap.size + 1 := rfl
  generalize (w.alloc (.cells #[.bool true, .int .i64 1, .int .i64 4, .int .i64 yv, .int .i64 yt, .int .i64 yb, .bool yw] 55)).alloc (.cells #[.bool false, .int .i64 0, .int .i64 0, .int .i64 0] 51) = W4 at *
  clear hsz
  have HZZ := Lib.hid (show w.heap.size = w.heap.size from rfl)
  generalize hZ : w.heap.size = Z at *
  clear HZZ hZ
  have c0 := L4.rf.c0
  have c1 := L4.rf.c1
  have c2 := L4.rf.c2
  have c3 := L4.rf.c3
  have z0 := L4.rf.fc 0
  have z1 := L4.rf.fc 1
  have q1 := L4.rf.cg
  have q2 := L4.rf.cp
  have q3 := L4.rf.gp
  have n1 : c ≠ Z := by have := L4.z; omega
  have n2 : g ≠ Z := by have := L4.z; omega
  have n3 : p ≠ Z := by have := L4.z; omega
  have n4 : Z ≠ c := by omega
  have n5 : Z ≠ g := by omega
  have n6 : Z ≠ p := by omega
  have f0 := L4.rf.fg (0)
  have f1 := L4.rf.fg (1)
  have f2 := L4.rf.fg (2)
  have f3 := L4.rf.fg (3)
  have f4 := L4.rf.fg (4)
  have f5 := L4.rf.fg (5)
  have f6 := L4.rf.fg (6)
  have t0 := L4.rf.t0 0 (by omega)
  have t1 := L4.rf.t1 0 (by omega)
  have t2 := L4.rf.t2 0 (by omega)
  have t3 := L4.rf.t3 0 (by omega)
  have t4 := L4.rf.t4 0 (by omega)
  have t5 := L4.rf.t5 0 (by omega)
  have t6 := L4.rf.t6 0 (by omega)
  rw [Nat.zero_mul] at t0
  rw [Nat.zero_mul, Nat.zero_add] at t1 t2 t3 t4 t5 t6
  have b0 := row_val rb (i := 0) (v := .bool true) (by omega) rfl
  have a0 := World.rowIs.frozen rb 0
  have b1 := row_val rb (i := 1) (v := .int .i64 1) (by omega) rfl
  have a1 := World.rowIs.frozen rb 1
  have b2 := row_val rb (i := 2) (v := .int .i64 4) (by omega) rfl
  have a2 := World.rowIs.frozen rb 2
  have b3 := row_val rb (i := 3) (v := .int .i64 yv) (by omega) rfl
  have a3 := World.rowIs.frozen rb 3
  have b4 := row_val rb (i := 4) (v := .int .i64 yt) (by omega) rfl
  have a4 := World.rowIs.frozen rb 4
  have b5 := row_val rb (i := 5) (v := .int .i64 yb) (by omega) rfl
  have a5 := World.rowIs.frozen rb 5
  have b6 := row_val rb (i := 6) (v := .bool yw) (by omega) rfl
  have a6 := World.rowIs.frozen rb 6
  generalize (r.th 0).op = o1 at t1
  generalize (r.th 0).on = o0 at t0
  generalize (r.th 0).made = o2 at t2
  generalize (r.th 0).v = o3 at t3
  generalize (r.th 0).t = o4 at t4
  generalize (r.th 0).b = o5 at t5
  generalize (r.th 0).won = o6 at t6
  have HL4 := Lib.hid L4
  clear rb L4
  go_wp2_with fail
  have HAT := at_any HL4.out.rf.drew yb
  refine wp_region_still_tail 11 (by kernel_rfl) (by kernel_rfl) ?_
  simp only [List.take_succ_cons, List.take_zero, List.drop_succ_cons, List.drop_zero]
  have hlt := HLT.out yb
  have hlt' : ((plc yb r.n : Nat) : Int) < (r.n : Int) := by omega
  have cu := HL4.out.rf.cu (plc yb r.n) hlt
  have fu := HL4.out.rf.fp (plc yb r.n)
  repeat still_step
  still_call HAT
  repeat still_step
  refine wpStill_nil ?_
  refine (show wpList _ _ _ _ _ W4.drew from ?_)
  clear HAT
  go_wp2_with fail
  go_region
  all_goals
    have L7 := ((HL4.out.bset 3 (.int .i64 (r.pl (plc yb r.n)))).set7 0 (by omega) { on := true, op := 1, made := 4, v := (r.pl (plc yb r.n)), t := yt, b := yb, won := yw }).drew.drew
    refine (show Exit.then _ _ Exit.normal _ ((set7 (W4.setCell ⟨Z, 3, none⟩ (.int .i64 (r.pl (plc yb r.n)))) g 0 { on := true, op := 1, made := 4, v := (r.pl (plc yb r.n)), t := yt, b := yb, won := yw }).drew.drew) from ?_)
    clear f0 f1 f2 f3 f4 f5 f6 t0 t1 t2 t3 t4 t5 t6 c0 c1 c2 c3 z0 z1 b0 b1 b2 b3 b4 b5 b6 a0 a1 a2 a3 a4 a5 a6 n1 n2 n3 n4 n5 n6 q1 q2 q3 HL4
    generalize (set7 (W4.setCell ⟨Z, 3, none⟩ (.int .i64 (r.pl (plc yb r.n)))) g 0 { on := true, op := 1, made := 4, v := (r.pl (plc yb r.n)), t := yt, b := yb, won := yw }).drew.drew = W7 at *
    have x0 := row_val L7.rs (i := 0) (v := .bool false) (by omega) rfl
    have x1 := row_val L7.rs (i := 1) (v := .int .i64 0) (by omega) rfl
    have x2 := row_val L7.rs (i := 2) (v := .int .i64 0) (by omega) rfl
    have x3 := row_val L7.rs (i := 3) (v := .int .i64 0) (by omega) rfl
    have y0 := World.rowIs.frozen L7.rs 0
    have y1 := World.rowIs.frozen L7.rs 1
    have y2 := World.rowIs.frozen L7.rs 2
    have y3 := World.rowIs.frozen L7.rs 3
    obtain ⟨g1, g2, g3⟩ := L7.ans {}
    unfold Ytldobbdaokjgaaa.set4 at g1 g2 g3
    dsimp only at g1 g2 g3
    have w0 := row_val g1 (i := 0) (v := .bool false) (by omega) rfl
    have w1 := row_val g1 (i := 1) (v := .int .i64 0) (by omega) rfl
    have w2 := row_val g1 (i := 2) (v := .int .i64 0) (by omega) rfl
    have w3 := row_val g1 (i := 3) (v := .int .i64 0) (by omega) rfl
    have HA9 := Lib.hid (And.intro g2 g3)
    clear g1 g2 g3 L7
    go_wp2
    refine bodyPost_ret (by simp [results, Try.results30, go_sem, w0, w1, w2, w3]; try rfl) rfl ?_
    exact ⟨rfl, HA9.out⟩
set_option maxRecDepth 100000 in
set_option maxHeartbeats 8000000 in
theorem rp1_5y (h : Rf w c g p r) (yv yt yb : Int) (yw : Bool) (hc : r.top = yt) : Calls Try.prog 30 #[.pointer (some ⟨c, 0, none⟩), .agg #[.bool true, .int .i64 1, .int .i64 5, .int .i64 yv, .int .i64 yt, .int .i64 yb, .bool yw]] w (Pd w c g p ((r.setTop (wrap64 (yt + 1))).setY 0 { on := true, op := 1, made := 5, v := yv, t := yt, b := yb, won := true }) {}) := by
  have hz := zero51
  have hz5 := zero55
  have HN := Lc.new h { on := true, op := 1, made := 5, v := yv, t := yt, b := yb, won := yw }
  dsimp only at HN
  have H := Lib.hid h
  have hlt := fun x => plc_lt x r.n h.n1
  have HLT := Lib.hid hlt
  clear hlt
  clear h
  unfold Pd
  go_enter Try.func30, Try.ntmps30
  go_upto_region 1 with fail
  obtain ⟨L4, rb⟩ := HN
  have hsz : w.heap.size + 1 = w.heap.size + 1 := rfl
  generalize (w.alloc (.cells #[.bool true, .int .i64 1, .int .i64 5, .int .i64 yv, .int .i64 yt, .int .i64 yb, .bool yw] 55)).alloc (.cells #[.bool false, .int .i64 0, .int .i64 0, .int .i64 0] 51) = W4 at *
  clear hsz
  have HZZ := Lib.hid (show w.heap.size = w.heap.size from rfl)
  generalize hZ : w.heap.size = Z at *
  clear HZZ hZ
  have c0 := L4.rf.c0
  have c1 := L4.rf.c1
  have c2 := L4.rf.c2
  have c3 := L4.rf.c3
  have z0 := L4.rf.fc 0
  have z1 := L4.rf.fc 1
  have q1 := L4.rf.cg
  have q2 := L4.rf.cp
  have q3 := L4.rf.gp
  have n1 : c ≠ Z := by have := L4.z; omega
  have n2 : g ≠ Z := by have := L4.z; omega
  have n3 : p ≠ Z := by have := L4.z; omega
  have n4 : Z ≠ c := by omega
  have n5 : Z ≠ g := by omega
  have n6 : Z ≠ p := by omega
  have f0 := L4.rf.fg (0)
  have f1 := L4.rf.fg (1)
  have f2 := L4.rf.fg (2)
  have f3 := L4.rf.fg (3)
  have f4 := L4.rf.fg (4)
  have f5 := L4.rf.fg (5)
  have f6 := L4.rf.fg (6)
  have t0 := L4.rf.t0 0 (by omega)
  have t1 := L4.rf.t1 0 (by omega)
  have t2 := L4.rf.t2 0 (by omega)
  have t3 := L4.rf.t3 0 (by omega)
  have t4 := L4.rf.t4 0 (by omega)
  have t5 := L4.rf.t5 0 (by omega)
  have t6 := L4.rf.t6 0 (by omega)
  rw [Nat.zero_mul] at t0
  rw [Nat.zero_mul, Nat.zero_add] at t1 t2 t3 t4 t5 t6
  have b0 := row_val rb (i := 0) (v := .bool true) (by omega) rfl
  have a0 := World.rowIs.frozen rb 0
  have b1 := row_val rb (i := 1) (v := .int .i64 1) (by omega) rfl
  have a1 := World.rowIs.frozen rb 1
  have b2 := row_val rb (i := 2) (v := .int .i64 5) (by omega) rfl
  have a2 := World.rowIs.frozen rb 2
  have b3 := row_val rb (i := 3) (v := .int .i64 yv) (by omega) rfl
  have a3 := World.rowIs.frozen rb 3
  have b4 := row_val rb (i := 4) (v := .int .i64 yt) (by omega) rfl
  have a4 := World.rowIs.frozen rb 4
  have b5 := row_val rb (i := 5) (v := .int .i64 yb) (by omega) rfl
  have a5 := World.rowIs.frozen rb 5
  have b6 := row_val rb (i := 6) (v := .bool yw) (by omega) rfl
  have a6 := World.rowIs.frozen rb 6
  generalize (r.th 0).op = o1 at t1
  generalize (r.th 0).on = o0 at t0
  generalize (r.th 0).made = o2 at t2
  generalize (r.th 0).v = o3 at t3
  generalize (r.th 0).t = o4 at t4
  generalize (r.th 0).b = o5 at t5
  generalize (r.th 0).won = o6 at t6
  rw [hc] at c0
  have HL4 := Lib.hid L4
  clear rb L4
  go_wp2_with fail
  go_region
  all_goals go_wp2_with fail
  go_region
  all_goals
    have L7 := (((HL4.out.bset 6 (.bool true)).sTop (wrap64 (yt + 1))).set7 0 (by omega) { on := true, op := 1, made := 5, v := yv, t := yt, b := yb, won := true }).drew.drew
    refine (show Exit.then _ _ Exit.normal _ ((set7 ((W4.setCell ⟨Z, 6, none⟩ (.bool true)).setCell ⟨c, 0, none⟩ (.int .i64 (wrap64 (yt + 1)))) g 0 { on := true, op := 1, made := 5, v := yv, t := yt, b := yb, won := true }).drew.drew) from ?_)
    clear f0 f1 f2 f3 f4 f5 f6 t0 t1 t2 t3 t4 t5 t6 c0 c1 c2 c3 z0 z1 b0 b1 b2 b3 b4 b5 b6 a0 a1 a2 a3 a4 a5 a6 n1 n2 n3 n4 n5 n6 q1 q2 q3 HL4
    generalize (set7 ((W4.setCell ⟨Z, 6, none⟩ (.bool true)).setCell ⟨c, 0, none⟩ (.int .i64 (wrap64 (yt + 1)))) g 0 { on := true, op := 1, made := 5, v := yv, t := yt, b := yb, won := true }).drew.drew = W7 at *
    have x0 := row_val L7.rs (i := 0) (v := .bool false) (by omega) rfl
    have x1 := row_val L7.rs (i := 1) (v := .int .i64 0) (by omega) rfl
    have x2 := row_val L7.rs (i := 2) (v := .int .i64 0) (by omega) rfl
    have x3 := row_val L7.rs (i := 3) (v := .int .i64 0) (by omega) rfl
    have y0 := World.rowIs.frozen L7.rs 0
    have y1 := World.rowIs.frozen L7.rs 1
    have y2 := World.rowIs.frozen L7.rs 2
    have y3 := World.rowIs.frozen L7.rs 3
    obtain ⟨g1, g2, g3⟩ := L7.ans {}
    unfold Ytldobbdaokjgaaa.set4 at g1 g2 g3
    dsimp only at g1 g2 g3
    have w0 := row_val g1 (i := 0) (v := .bool false) (by omega) rfl
    have w1 := row_val g1 (i := 1) (v := .int .i64 0) (by omega) rfl
    have w2 := row_val g1 (i := 2) (v := .int .i64 0) (by omega) rfl
    have w3 := row_val g1 (i := 3) (v := .int .i64 0) (by omega) rfl
    have HA9 := Lib.hid (And.intro g2 g3)
    clear g1 g2 g3 L7
    go_wp2
    refine bodyPost_ret (by simp [results, Try.results30, go_sem, w0, w1, w2, w3]; try rfl) rfl ?_
    exact ⟨rfl, HA9.out⟩
set_option maxRecDepth 100000 in
set_option maxHeartbeats 8000000 in
theorem rp1_5n (h : Rf w c g p r) (yv yt yb : Int) (yw : Bool) (hc : r.top ≠ yt) : Calls Try.prog 30 #[.pointer (some ⟨c, 0, none⟩), .agg #[.bool true, .int .i64 1, .int .i64 5, .int .i64 yv, .int .i64 yt, .int .i64 yb, .bool yw]] w (Pd w c g p ((r).setY 0 { on := true, op := 1, made := 5, v := yv, t := yt, b := yb, won := false }) {}) := by
  have hz := zero51
  have hz5 := zero55
  have HN := Lc.new h { on := true, op := 1, made := 5, v := yv, t := yt, b := yb, won := yw }
  dsimp only at HN
  have H := Lib.hid h
  have hlt := fun x => plc_lt x r.n h.n1
  have HLT := Lib.hid hlt
  clear hlt
  clear h
  unfold Pd
  go_enter Try.func30, Try.ntmps30
  go_upto_region 1 with fail
  obtain ⟨L4, rb⟩ := HN
  have hsz : w.heap.size + 1 = w.heap.size + 1 := rfl
  generalize (w.alloc (.cells #[.bool true, .int .i64 1, .int .i64 5, .int .i64 yv, .int .i64 yt, .int .i64 yb, .bool yw] 55)).alloc (.cells #[.bool false, .int .i64 0, .int .i64 0, .int .i64 0] 51) = W4 at *
  clear hsz
  have HZZ := Lib.hid (show w.heap.size = w.heap.size from rfl)
  generalize hZ : w.heap.size = Z at *
  clear HZZ hZ
  have c0 := L4.rf.c0
  have c1 := L4.rf.c1
  have c2 := L4.rf.c2
  have c3 := L4.rf.c3
  have z0 := L4.rf.fc 0
  have z1 := L4.rf.fc 1
  have q1 := L4.rf.cg
  have q2 := L4.rf.cp
  have q3 := L4.rf.gp
  have n1 : c ≠ Z := by have := L4.z; omega
  have n2 : g ≠ Z := by have := L4.z; omega
  have n3 : p ≠ Z := by have := L4.z; omega
  have n4 : Z ≠ c := by omega
  have n5 : Z ≠ g := by omega
  have n6 : Z ≠ p := by omega
  have f0 := L4.rf.fg (0)
  have f1 := L4.rf.fg (1)
  have f2 := L4.rf.fg (2)
  have f3 := L4.rf.fg (3)
  have f4 := L4.rf.fg (4)
  have f5 := L4.rf.fg (5)
  have f6 := L4.rf.fg (6)
  have t0 := L4.rf.t0 0 (by omega)
  have t1 := L4.rf.t1 0 (by omega)
  have t2 := L4.rf.t2 0 (by omega)
  have t3 := L4.rf.t3 0 (by omega)
  have t4 := L4.rf.t4 0 (by omega)
  have t5 := L4.rf.t5 0 (by omega)
  have t6 := L4.rf.t6 0 (by omega)
  rw [Nat.zero_mul] at t0
  rw [Nat.zero_mul, Nat.zero_add] at t1 t2 t3 t4 t5 t6
  have b0 := row_val rb (i := 0) (v := .bool true) (by omega) rfl
  have a0 := World.rowIs.frozen rb 0
  have b1 := row_val rb (i := 1) (v := .int .i64 1) (by omega) rfl
  have a1 := World.rowIs.frozen rb 1
  have b2 := row_val rb (i := 2) (v := .int .i64 5) (by omega) rfl
  have a2 := World.rowIs.frozen rb 2
  have b3 := row_val rb (i := 3) (v := .int .i64 yv) (by omega) rfl
  have a3 := World.rowIs.frozen rb 3
  have b4 := row_val rb (i := 4) (v := .int .i64 yt) (by omega) rfl
  have a4 := World.rowIs.frozen rb 4
  have b5 := row_val rb (i := 5) (v := .int .i64 yb) (by omega) rfl
  have a5 := World.rowIs.frozen rb 5
  have b6 := row_val rb (i := 6) (v := .bool yw) (by omega) rfl
  have a6 := World.rowIs.frozen rb 6
  generalize (r.th 0).op = o1 at t1
  generalize (r.th 0).on = o0 at t0
  generalize (r.th 0).made = o2 at t2
  generalize (r.th 0).v = o3 at t3
  generalize (r.th 0).t = o4 at t4
  generalize (r.th 0).b = o5 at t5
  generalize (r.th 0).won = o6 at t6
  have hb : (r.top == yt) = false := by simp; exact hc
  have HL4 := Lib.hid L4
  clear rb L4
  clear hc
  go_wp2_with fail
  go_region
  all_goals go_wp2_with fail
  go_region
  all_goals
    have L7 := ((HL4.out.bset 6 (.bool false)).set7 0 (by omega) { on := true, op := 1, made := 5, v := yv, t := yt, b := yb, won := false }).drew.drew
    refine (show Exit.then _ _ Exit.normal _ ((set7 (W4.setCell ⟨Z, 6, none⟩ (.bool false)) g 0 { on := true, op := 1, made := 5, v := yv, t := yt, b := yb, won := false }).drew.drew) from ?_)
    clear f0 f1 f2 f3 f4 f5 f6 t0 t1 t2 t3 t4 t5 t6 c0 c1 c2 c3 z0 z1 b0 b1 b2 b3 b4 b5 b6 a0 a1 a2 a3 a4 a5 a6 n1 n2 n3 n4 n5 n6 q1 q2 q3 HL4
    generalize (set7 (W4.setCell ⟨Z, 6, none⟩ (.bool false)) g 0 { on := true, op := 1, made := 5, v := yv, t := yt, b := yb, won := false }).drew.drew = W7 at *
    have x0 := row_val L7.rs (i := 0) (v := .bool false) (by omega) rfl
    have x1 := row_val L7.rs (i := 1) (v := .int .i64 0) (by omega) rfl
    have x2 := row_val L7.rs (i := 2) (v := .int .i64 0) (by omega) rfl
    have x3 := row_val L7.rs (i := 3) (v := .int .i64 0) (by omega) rfl
    have y0 := World.rowIs.frozen L7.rs 0
    have y1 := World.rowIs.frozen L7.rs 1
    have y2 := World.rowIs.frozen L7.rs 2
    have y3 := World.rowIs.frozen L7.rs 3
    obtain ⟨g1, g2, g3⟩ := L7.ans {}
    unfold Ytldobbdaokjgaaa.set4 at g1 g2 g3
    dsimp only at g1 g2 g3
    have w0 := row_val g1 (i := 0) (v := .bool false) (by omega) rfl
    have w1 := row_val g1 (i := 1) (v := .int .i64 0) (by omega) rfl
    have w2 := row_val g1 (i := 2) (v := .int .i64 0) (by omega) rfl
    have w3 := row_val g1 (i := 3) (v := .int .i64 0) (by omega) rfl
    have HA9 := Lib.hid (And.intro g2 g3)
    clear g1 g2 g3 L7
    go_wp2
    refine bodyPost_ret (by simp [results, Try.results30, go_sem, w0, w1, w2, w3]; try rfl) rfl ?_
    exact ⟨rfl, HA9.out⟩
set_option maxRecDepth 100000 in
set_option maxHeartbeats 8000000 in
theorem rp1_6y (h : Rf w c g p r) (yv yt yb : Int) (yw : Bool) (ho : (r.th 0).op = 1) : Calls Try.prog 30 #[.pointer (some ⟨c, 0, none⟩), .agg #[.bool true, .int .i64 1, .int .i64 6, .int .i64 yv, .int .i64 yt, .int .i64 yb, .bool true]] w (Pd w c g p ((r.setBot (wrap64 (yb + 1))).setY 0 {}) { over := true, op := 1, v := yv, err := 0 }) := by
  have hz := zero51
  have hz5 := zero55
  have HN := Lc.new h { on := true, op := 1, made := 6, v := yv, t := yt, b := yb, won := true }
  dsimp only at HN
  have H := Lib.hid h
  have hlt := fun x => plc_lt x r.n h.n1
  have HLT := Lib.hid hlt
  clear hlt
  have HOQ := Lib.hid ho
  clear ho
  clear h
  unfold Pd
  go_enter Try.func30, Try.ntmps30
  go_upto_region 1 with fail
  obtain ⟨L4, rb⟩ := HN
  have hsz : w.heap.size + 1 = w.heap.size + 1 := rfl
  generalize (w.alloc (.cells #[.bool true, .int .i64 1, .int .i64 6, .int .i64 yv, .int .i64 yt, .int .i64 yb, .bool true] 55)).alloc (.cells #[.bool false, .int .i64 0, .int .i64 0, .int .i64 0] 51) = W4 at *
  clear hsz
  have HZZ := Lib.hid (show w.heap.size = w.heap.size from rfl)
  generalize hZ : w.heap.size = Z at *
  clear HZZ hZ
  have c0 := L4.rf.c0
  have c1 := L4.rf.c1
  have c2 := L4.rf.c2
  have c3 := L4.rf.c3
  have z0 := L4.rf.fc 0
  have z1 := L4.rf.fc 1
  have q1 := L4.rf.cg
  have q2 := L4.rf.cp
  have q3 := L4.rf.gp
  have n1 : c ≠ Z := by have := L4.z; omega
  have n2 : g ≠ Z := by have := L4.z; omega
  have n3 : p ≠ Z := by have := L4.z; omega
  have n4 : Z ≠ c := by omega
  have n5 : Z ≠ g := by omega
  have n6 : Z ≠ p := by omega
  have f0 := L4.rf.fg (0)
  have f1 := L4.rf.fg (1)
  have f2 := L4.rf.fg (2)
  have f3 := L4.rf.fg (3)
  have f4 := L4.rf.fg (4)
  have f5 := L4.rf.fg (5)
  have f6 := L4.rf.fg (6)
  have t0 := L4.rf.t0 0 (by omega)
  have t1 := L4.rf.t1 0 (by omega)
  have t2 := L4.rf.t2 0 (by omega)
  have t3 := L4.rf.t3 0 (by omega)
  have t4 := L4.rf.t4 0 (by omega)
  have t5 := L4.rf.t5 0 (by omega)
  have t6 := L4.rf.t6 0 (by omega)
  rw [Nat.zero_mul] at t0
  rw [Nat.zero_mul, Nat.zero_add] at t1 t2 t3 t4 t5 t6
  have b0 := row_val rb (i := 0) (v := .bool true) (by omega) rfl
  have a0 := World.rowIs.frozen rb 0
  have b1 := row_val rb (i := 1) (v := .int .i64 1) (by omega) rfl
  have a1 := World.rowIs.frozen rb 1
  have b2 := row_val rb (i := 2) (v := .int .i64 6) (by omega) rfl
  have a2 := World.rowIs.frozen rb 2
  have b3 := row_val rb (i := 3) (v := .int .i64 yv) (by omega) rfl
  have a3 := World.rowIs.frozen rb 3
  have b4 := row_val rb (i := 4) (v := .int .i64 yt) (by omega) rfl
  have a4 := World.rowIs.frozen rb 4
  have b5 := row_val rb (i := 5) (v := .int .i64 yb) (by omega) rfl
  have a5 := World.rowIs.frozen rb 5
  have b6 := row_val rb (i := 6) (v := .bool true) (by omega) rfl
  have a6 := World.rowIs.frozen rb 6
  generalize (r.th 0).op = o1 at t1
  generalize (r.th 0).on = o0 at t0
  generalize (r.th 0).made = o2 at t2
  generalize (r.th 0).v = o3 at t3
  generalize (r.th 0).t = o4 at t4
  generalize (r.th 0).b = o5 at t5
  generalize (r.th 0).won = o6 at t6
  have HL4 := Lib.hid L4
  clear rb L4
  go_wp2_with fail
  all_goals
    have LX := HL4.out.sBot (wrap64 (yb + 1))
    refine (rover0 LX.rf 1 yv 0 HOQ.out).mono ?_
    rintro e W2 ⟨rfl, k1, k2⟩
    have L7 := LX.over k1 k2
    have x0 := row_val L7.rs (i := 0) (v := .bool false) (by omega) rfl
    have x1 := row_val L7.rs (i := 1) (v := .int .i64 0) (by omega) rfl
    have x2 := row_val L7.rs (i := 2) (v := .int .i64 0) (by omega) rfl
    have x3 := row_val L7.rs (i := 3) (v := .int .i64 0) (by omega) rfl
    have y0 := World.rowIs.frozen L7.rs 0
    have y1 := World.rowIs.frozen L7.rs 1
    have y2 := World.rowIs.frozen L7.rs 2
    have y3 := World.rowIs.frozen L7.rs 3
    have zz : Z + 1 < W2.heap.size := L7.rs.lt
    have m1 : Z + 1 ≠ W2.heap.size := by omega
    have m2 : W2.heap.size ≠ Z + 1 := by omega
    obtain ⟨g1, g2, g3⟩ := L7.ans { over := true, op := 1, v := yv, err := 0 }
    unfold Ytldobbdaokjgaaa.set4 at g1 g2 g3
    dsimp only at g1 g2 g3
    have w0 := fun a : Array Value => row_val (g1.alloc (.cells a 51)) (i := 0) (v := .bool true) (by omega) rfl
    have w1 := fun a : Array Value => row_val (g1.alloc (.cells a 51)) (i := 1) (v := .int .i64 1) (by omega) rfl
    have w2 := fun a : Array Value => row_val (g1.alloc (.cells a 51)) (i := 2) (v := .int .i64 yv) (by omega) rfl
    have w3 := fun a : Array Value => row_val (g1.alloc (.cells a 51)) (i := 3) (v := .int .i64 0) (by omega) rfl
    have HA9 := Lib.hid (And.intro g2 g3)
    clear g1 g2 g3 L7 k1 k2 LX f0 f1 f2 f3 f4 f5 f6 t0 t1 t2 t3 t4 t5 t6 c0 c1 c2 c3 z0 z1 b0 b1 b2 b3 b4 b5 b6 a0 a1 a2 a3 a4 a5 a6 n1 n2 n3 n4 n5 n6 q1 q2 q3 HL4
    unfold dv
    go_wp2
    refine bodyPost_ret (by simp [results, Try.results30, go_sem, w0, w1, w2, w3]; try rfl) rfl ?_
    exact ⟨rfl, HA9.out.1.alloc _, HA9.out.2.al'⟩
set_option maxRecDepth 100000 in
set_option maxHeartbeats 8000000 in
theorem rp1_6n (h : Rf w c g p r) (yv yt yb : Int) (yw : Bool) (ho : (r.th 0).op = 1) : Calls Try.prog 30 #[.pointer (some ⟨c, 0, none⟩), .agg #[.bool true, .int .i64 1, .int .i64 6, .int .i64 yv, .int .i64 yt, .int .i64 yb, .bool false]] w (Pd w c g p ((r.setBot (wrap64 (yb + 1))).setY 0 {}) { over := true, op := 1, v := 0, err := 8 }) := by
  have hz := zero51
  have hz5 := zero55
  have HN := Lc.new h { on := true, op := 1, made := 6, v := yv, t := yt, b := yb, won := false }
  dsimp only at HN
  have H := Lib.hid h
  have hlt := fun x => plc_lt x r.n h.n1
  have HLT := Lib.hid hlt
  clear hlt
  have HOQ := Lib.hid ho
  clear ho
  clear h
  unfold Pd
  go_enter Try.func30, Try.ntmps30
  go_upto_region 1 with fail
  obtain ⟨L4, rb⟩ := HN
  have hsz : w.heap.size + 1 = w.heap.size + 1 := rfl
  generalize (w.alloc (.cells #[.bool true, .int .i64 1, .int .i64 6, .int .i64 yv, .int .i64 yt, .int .i64 yb, .bool false] 55)).alloc (.cells #[.bool false, .int .i64 0, .int .i64 0, .int .i64 0] 51) = W4 at *
  clear hsz
  have HZZ := Lib.hid (show w.heap.size = w.heap.size from rfl)
  generalize hZ : w.heap.size = Z at *
  clear HZZ hZ
  have c0 := L4.rf.c0
  have c1 := L4.rf.c1
  have c2 := L4.rf.c2
  have c3 := L4.rf.c3
  have z0 := L4.rf.fc 0
  have z1 := L4.rf.fc 1
  have q1 := L4.rf.cg
  have q2 := L4.rf.cp
  have q3 := L4.rf.gp
  have n1 : c ≠ Z := by have := L4.z; omega
  have n2 : g ≠ Z := by have := L4.z; omega
  have n3 : p ≠ Z := by have := L4.z; omega
  have n4 : Z ≠ c := by omega
  have n5 : Z ≠ g := by omega
  have n6 : Z ≠ p := by omega
  have f0 := L4.rf.fg (0)
  have f1 := L4.rf.fg (1)
  have f2 := L4.rf.fg (2)
  have f3 := L4.rf.fg (3)
  have f4 := L4.rf.fg (4)
  have f5 := L4.rf.fg (5)
  have f6 := L4.rf.fg (6)
  have t0 := L4.rf.t0 0 (by omega)
  have t1 := L4.rf.t1 0 (by omega)
  have t2 := L4.rf.t2 0 (by omega)
  have t3 := L4.rf.t3 0 (by omega)
  have t4 := L4.rf.t4 0 (by omega)
  have t5 := L4.rf.t5 0 (by omega)
  have t6 := L4.rf.t6 0 (by omega)
  rw [Nat.zero_mul] at t0
  rw [Nat.zero_mul, Nat.zero_add] at t1 t2 t3 t4 t5 t6
  have b0 := row_val rb (i := 0) (v := .bool true) (by omega) rfl
  have a0 := World.rowIs.frozen rb 0
  have b1 := row_val rb (i := 1) (v := .int .i64 1) (by omega) rfl
  have a1 := World.rowIs.frozen rb 1
  have b2 := row_val rb (i := 2) (v := .int .i64 6) (by omega) rfl
  have a2 := World.rowIs.frozen rb 2
  have b3 := row_val rb (i := 3) (v := .int .i64 yv) (by omega) rfl
  have a3 := World.rowIs.frozen rb 3
  have b4 := row_val rb (i := 4) (v := .int .i64 yt) (by omega) rfl
  have a4 := World.rowIs.frozen rb 4
  have b5 := row_val rb (i := 5) (v := .int .i64 yb) (by omega) rfl
  have a5 := World.rowIs.frozen rb 5
  have b6 := row_val rb (i := 6) (v := .bool false) (by omega) rfl
  have a6 := World.rowIs.frozen rb 6
  generalize (r.th 0).op = o1 at t1
  generalize (r.th 0).on = o0 at t0
  generalize (r.th 0).made = o2 at t2
  generalize (r.th 0).v = o3 at t3
  generalize (r.th 0).t = o4 at t4
  generalize (r.th 0).b = o5 at t5
  generalize (r.th 0).won = o6 at t6
  have HL4 := Lib.hid L4
  clear rb L4
  go_wp2_with fail
  all_goals
    have LX := HL4.out.sBot (wrap64 (yb + 1))
    refine (rover0 LX.rf 1 0 8 HOQ.out).mono ?_
    rintro e W2 ⟨rfl, k1, k2⟩
    have L7 := LX.over k1 k2
    have x0 := row_val L7.rs (i := 0) (v := .bool false) (by omega) rfl
    have x1 := row_val L7.rs (i := 1) (v := .int .i64 0) (by omega) rfl
    have x2 := row_val L7.rs (i := 2) (v := .int .i64 0) (by omega) rfl
    have x3 := row_val L7.rs (i := 3) (v := .int .i64 0) (by omega) rfl
    have y0 := World.rowIs.frozen L7.rs 0
    have y1 := World.rowIs.frozen L7.rs 1
    have y2 := World.rowIs.frozen L7.rs 2
    have y3 := World.rowIs.frozen L7.rs 3
    have zz : Z + 1 < W2.heap.size := L7.rs.lt
    have m1 : Z + 1 ≠ W2.heap.size := by omega
    have m2 : W2.heap.size ≠ Z + 1 := by omega
    obtain ⟨g1, g2, g3⟩ := L7.ans { over := true, op := 1, v := 0, err := 8 }
    unfold Ytldobbdaokjgaaa.set4 at g1 g2 g3
    dsimp only at g1 g2 g3
    have w0 := fun a : Array Value => row_val (g1.alloc (.cells a 51)) (i := 0) (v := .bool true) (by omega) rfl
    have w1 := fun a : Array Value => row_val (g1.alloc (.cells a 51)) (i := 1) (v := .int .i64 1) (by omega) rfl
    have w2 := fun a : Array Value => row_val (g1.alloc (.cells a 51)) (i := 2) (v := .int .i64 0) (by omega) rfl
    have w3 := fun a : Array Value => row_val (g1.alloc (.cells a 51)) (i := 3) (v := .int .i64 8) (by omega) rfl
    have HA9 := Lib.hid (And.intro g2 g3)
    clear g1 g2 g3 L7 k1 k2 LX f0 f1 f2 f3 f4 f5 f6 t0 t1 t2 t3 t4 t5 t6 c0 c1 c2 c3 z0 z1 b0 b1 b2 b3 b4 b5 b6 a0 a1 a2 a3 a4 a5 a6 n1 n2 n3 n4 n5 n6 q1 q2 q3 HL4
    unfold dv
    go_wp2
    refine bodyPost_ret (by simp [results, Try.results30, go_sem, w0, w1, w2, w3]; try rfl) rfl ?_
    exact ⟨rfl, HA9.out.1.alloc _, HA9.out.2.al'⟩
set_option maxRecDepth 100000 in
set_option maxHeartbeats 8000000 in
theorem rp2_1 (h : Rf w c g p r) (k : Nat) (hk : k < 8) (k0 : k ≠ 0) (yv yt yb : Int) (yw : Bool) : Calls Try.prog 31 #[.pointer (some ⟨c, 0, none⟩), .int .i64 k, .agg #[.bool true, .int .i64 2, .int .i64 1, .int .i64 yv, .int .i64 yt, .int .i64 yb, .bool yw]] w (Pd w c g p ((r).setY k { on := true, op := 2, made := 1, v := yv, t := r.top, b := yb, won := yw }) {}) := by
  have hz := zero51
  have hz5 := zero55
  have HN := Lc.new h { on := true, op := 2, made := 1, v := yv, t := yt, b := yb, won := yw }
  dsimp only at HN
  have H := Lib.hid h
  have hk8 : (k : Int) < 8 := by omega
  have hk0 : (0 : Int) ≤ (k : Int) := by omega
  have hlt := fun x => plc_lt x r.n h.n1
  have HLT := Lib.hid hlt
  clear hlt
  clear h
  unfold Pd
  go_enter Try.func31, Try.ntmps31
  go_upto_region 1 with fail
  obtain ⟨L4, rb⟩ := HN
  have hsz : w.heap.size + 1 = w.heap.size + 1 := rfl
  generalize (w.alloc (.cells #[.bool true, .int .i64 2, .int .i64 1, .int .i64 yv, .int .i64 yt, .int .i64 yb, .bool yw] 55)).alloc (.cells #[.bool false, .int .i64 0, .int .i64 0, .int .i64 0] 51) = W4 at *
  clear hsz
  have HZZ := Lib.hid (show w.heap.size = w.heap.size from rfl)
  generalize hZ : w.heap.size = Z at *
  clear HZZ hZ
  have c0 := L4.rf.c0
  have c1 := L4.rf.c1
  have c2 := L4.rf.c2
  have c3 := L4.rf.c3
  have z0 := L4.rf.fc 0
  have z1 := L4.rf.fc 1
  have q1 := L4.rf.cg
  have q2 := L4.rf.cp
  have q3 := L4.rf.gp
  have n1 : c ≠ Z := by have := L4.z; omega
  have n2 : g ≠ Z := by have := L4.z; omega
  have n3 : p ≠ Z := by have := L4.z; omega
  have n4 : Z ≠ c := by omega
  have n5 : Z ≠ g := by omega
  have n6 : Z ≠ p := by omega
  have f0 := L4.rf.fg (k * 7)
  have f1 := L4.rf.fg (k * 7 + 1)
  have f2 := L4.rf.fg (k * 7 + 2)
  have f3 := L4.rf.fg (k * 7 + 3)
  have f4 := L4.rf.fg (k * 7 + 4)
  have f5 := L4.rf.fg (k * 7 + 5)
  have f6 := L4.rf.fg (k * 7 + 6)
  have t0 := L4.rf.t0 k hk
  have t1 := L4.rf.t1 k hk
  have t2 := L4.rf.t2 k hk
  have t3 := L4.rf.t3 k hk
  have t4 := L4.rf.t4 k hk
  have t5 := L4.rf.t5 k hk
  have t6 := L4.rf.t6 k hk
  have b0 := row_val rb (i := 0) (v := .bool true) (by omega) rfl
  have a0 := World.rowIs.frozen rb 0
  have b1 := row_val rb (i := 1) (v := .int .i64 2) (by omega) rfl
  have a1 := World.rowIs.frozen rb 1
  have b2 := row_val rb (i := 2) (v := .int .i64 1) (by omega) rfl
  have a2 := World.rowIs.frozen rb 2
  have b3 := row_val rb (i := 3) (v := .int .i64 yv) (by omega) rfl
  have a3 := World.rowIs.frozen rb 3
  have b4 := row_val rb (i := 4) (v := .int .i64 yt) (by omega) rfl
  have a4 := World.rowIs.frozen rb 4
  have b5 := row_val rb (i := 5) (v := .int .i64 yb) (by omega) rfl
  have a5 := World.rowIs.frozen rb 5
  have b6 := row_val rb (i := 6) (v := .bool yw) (by omega) rfl
  have a6 := World.rowIs.frozen rb 6
  generalize (r.th k).op = o1 at t1
  generalize (r.th k).on = o0 at t0
  generalize (r.th k).made = o2 at t2
  generalize (r.th k).v = o3 at t3
  generalize (r.th k).t = o4 at t4
  generalize (r.th k).b = o5 at t5
  generalize (r.th k).won = o6 at t6
  have HL4 := Lib.hid L4
  clear rb L4
  go_wp2_with fail
  go_region
  all_goals
    have L7 := ((HL4.out.bset 4 (.int .i64 r.top)).set7 k hk { on := true, op := 2, made := 1, v := yv, t := r.top, b := yb, won := yw }).drew
    refine (show Exit.then _ _ Exit.normal _ ((set7 (W4.setCell ⟨Z, 4, none⟩ (.int .i64 r.top)) g k { on := true, op := 2, made := 1, v := yv, t := r.top, b := yb, won := yw }).drew) from ?_)
    clear f0 f1 f2 f3 f4 f5 f6 t0 t1 t2 t3 t4 t5 t6 c0 c1 c2 c3 z0 z1 b0 b1 b2 b3 b4 b5 b6 a0 a1 a2 a3 a4 a5 a6 n1 n2 n3 n4 n5 n6 q1 q2 q3 HL4
    generalize (set7 (W4.setCell ⟨Z, 4, none⟩ (.int .i64 r.top)) g k { on := true, op := 2, made := 1, v := yv, t := r.top, b := yb, won := yw }).drew = W7 at *
    have x0 := row_val L7.rs (i := 0) (v := .bool false) (by omega) rfl
    have x1 := row_val L7.rs (i := 1) (v := .int .i64 0) (by omega) rfl
    have x2 := row_val L7.rs (i := 2) (v := .int .i64 0) (by omega) rfl
    have x3 := row_val L7.rs (i := 3) (v := .int .i64 0) (by omega) rfl
    have y0 := World.rowIs.frozen L7.rs 0
    have y1 := World.rowIs.frozen L7.rs 1
    have y2 := World.rowIs.frozen L7.rs 2
    have y3 := World.rowIs.frozen L7.rs 3
    obtain ⟨g1, g2, g3⟩ := L7.ans {}
    unfold Ytldobbdaokjgaaa.set4 at g1 g2 g3
    dsimp only at g1 g2 g3
    have w0 := row_val g1 (i := 0) (v := .bool false) (by omega) rfl
    have w1 := row_val g1 (i := 1) (v := .int .i64 0) (by omega) rfl
    have w2 := row_val g1 (i := 2) (v := .int .i64 0) (by omega) rfl
    have w3 := row_val g1 (i := 3) (v := .int .i64 0) (by omega) rfl
    have HA9 := Lib.hid (And.intro g2 g3)
    clear g1 g2 g3 L7
    go_wp2
    refine bodyPost_ret (by simp [results, Try.results31, go_sem, w0, w1, w2, w3]; try rfl) rfl ?_
    exact ⟨rfl, HA9.out⟩
set_option maxRecDepth 100000 in
set_option maxHeartbeats 8000000 in
theorem rp2_2o (h : Rf w c g p r) (k : Nat) (hk : k < 8) (k0 : k ≠ 0) (yv yt yb : Int) (yw : Bool) (hc : r.bot ≤ yt) (ho : (r.th k).op = 2) : Calls Try.prog 31 #[.pointer (some ⟨c, 0, none⟩), .int .i64 k, .agg #[.bool true, .int .i64 2, .int .i64 2, .int .i64 yv, .int .i64 yt, .int .i64 yb, .bool yw]] w (Pd w c g p ((r).setY k {}) { over := true, op := 2, v := 0, err := 8 }) := by
  have hz := zero51
  have hz5 := zero55
  have HN := Lc.new h { on := true, op := 2, made := 2, v := yv, t := yt, b := yb, won := yw }
  dsimp only at HN
  have H := Lib.hid h
  have hk8 : (k : Int) < 8 := by omega
  have hk0 : (0 : Int) ≤ (k : Int) := by omega
  have hlt := fun x => plc_lt x r.n h.n1
  have HLT := Lib.hid hlt
  clear hlt
  have HOQ := Lib.hid ho
  clear ho
  clear h
  unfold Pd
  go_enter Try.func31, Try.ntmps31
  go_upto_region 1 with fail
  obtain ⟨L4, rb⟩ := HN
  have hsz : w.heap.size + 1 = w.heap.size + 1 := rfl
  generalize (w.alloc (.cells #[.bool true, .int .i64 2, .int .i64 2, .int .i64 yv, .int .i64 yt, .int .i64 yb, .bool yw] 55)).alloc (.cells #[.bool false, .int .i64 0, .int .i64 0, .int .i64 0] 51) = W4 at *
  clear hsz
  have HZZ := Lib.hid (show w.heap.size = w.heap.size from rfl)
  generalize hZ : w.heap.size = Z at *
  clear HZZ hZ
  have c0 := L4.rf.c0
  have c1 := L4.rf.c1
  have c2 := L4.rf.c2
  have c3 := L4.rf.c3
  have z0 := L4.rf.fc 0
  have z1 := L4.rf.fc 1
  have q1 := L4.rf.cg
  have q2 := L4.rf.cp
  have q3 := L4.rf.gp
  have n1 : c ≠ Z := by have := L4.z; omega
  have n2 : g ≠ Z := by have := L4.z; omega
  have n3 : p ≠ Z := by have := L4.z; omega
  have n4 : Z ≠ c := by omega
  have n5 : Z ≠ g := by omega
  have n6 : Z ≠ p := by omega
  have f0 := L4.rf.fg (k * 7)
  have f1 := L4.rf.fg (k * 7 + 1)
  have f2 := L4.rf.fg (k * 7 + 2)
  have f3 := L4.rf.fg (k * 7 + 3)
  have f4 := L4.rf.fg (k * 7 + 4)
  have f5 := L4.rf.fg (k * 7 + 5)
  have f6 := L4.rf.fg (k * 7 + 6)
  have t0 := L4.rf.t0 k hk
  have t1 := L4.rf.t1 k hk
  have t2 := L4.rf.t2 k hk
  have t3 := L4.rf.t3 k hk
  have t4 := L4.rf.t4 k hk
  have t5 := L4.rf.t5 k hk
  have t6 := L4.rf.t6 k hk
  have b0 := row_val rb (i := 0) (v := .bool true) (by omega) rfl
  have a0 := World.rowIs.frozen rb 0
  have b1 := row_val rb (i := 1) (v := .int .i64 2) (by omega) rfl
  have a1 := World.rowIs.frozen rb 1
  have b2 := row_val rb (i := 2) (v := .int .i64 2) (by omega) rfl
  have a2 := World.rowIs.frozen rb 2
  have b3 := row_val rb (i := 3) (v := .int .i64 yv) (by omega) rfl
  have a3 := World.rowIs.frozen rb 3
  have b4 := row_val rb (i := 4) (v := .int .i64 yt) (by omega) rfl
  have a4 := World.rowIs.frozen rb 4
  have b5 := row_val rb (i := 5) (v := .int .i64 yb) (by omega) rfl
  have a5 := World.rowIs.frozen rb 5
  have b6 := row_val rb (i := 6) (v := .bool yw) (by omega) rfl
  have a6 := World.rowIs.frozen rb 6
  generalize (r.th k).op = o1 at t1
  generalize (r.th k).on = o0 at t0
  generalize (r.th k).made = o2 at t2
  generalize (r.th k).v = o3 at t3
  generalize (r.th k).t = o4 at t4
  generalize (r.th k).b = o5 at t5
  generalize (r.th k).won = o6 at t6
  have HL4 := Lib.hid L4
  clear rb L4
  go_wp2_with fail
  all_goals
    have LX := HL4.out.bset 5 (.int .i64 r.bot)
    refine (roverk LX.rf k hk 2 0 8 HOQ.out).mono ?_
    rintro e W2 ⟨rfl, k1, k2⟩
    have L7 := LX.over k1 k2
    have x0 := row_val L7.rs (i := 0) (v := .bool false) (by omega) rfl
    have x1 := row_val L7.rs (i := 1) (v := .int .i64 0) (by omega) rfl
    have x2 := row_val L7.rs (i := 2) (v := .int .i64 0) (by omega) rfl
    have x3 := row_val L7.rs (i := 3) (v := .int .i64 0) (by omega) rfl
    have y0 := World.rowIs.frozen L7.rs 0
    have y1 := World.rowIs.frozen L7.rs 1
    have y2 := World.rowIs.frozen L7.rs 2
    have y3 := World.rowIs.frozen L7.rs 3
    have zz : Z + 1 < W2.heap.size := L7.rs.lt
    have m1 : Z + 1 ≠ W2.heap.size := by omega
    have m2 : W2.heap.size ≠ Z + 1 := by omega
    obtain ⟨g1, g2, g3⟩ := L7.ans { over := true, op := 2, v := 0, err := 8 }
    unfold Ytldobbdaokjgaaa.set4 at g1 g2 g3
    dsimp only at g1 g2 g3
    have w0 := fun a : Array Value => row_val (g1.alloc (.cells a 51)) (i := 0) (v := .bool true) (by omega) rfl
    have w1 := fun a : Array Value => row_val (g1.alloc (.cells a 51)) (i := 1) (v := .int .i64 2) (by omega) rfl
    have w2 := fun a : Array Value => row_val (g1.alloc (.cells a 51)) (i := 2) (v := .int .i64 0) (by omega) rfl
    have w3 := fun a : Array Value => row_val (g1.alloc (.cells a 51)) (i := 3) (v := .int .i64 8) (by omega) rfl
    have HA9 := Lib.hid (And.intro g2 g3)
    clear g1 g2 g3 L7 k1 k2 LX f0 f1 f2 f3 f4 f5 f6 t0 t1 t2 t3 t4 t5 t6 c0 c1 c2 c3 z0 z1 b0 b1 b2 b3 b4 b5 b6 a0 a1 a2 a3 a4 a5 a6 n1 n2 n3 n4 n5 n6 q1 q2 q3 HL4
    unfold dv
    go_wp2
    refine bodyPost_ret (by simp [results, Try.results31, go_sem, w0, w1, w2, w3]; try rfl) rfl ?_
    exact ⟨rfl, HA9.out.1.alloc _, HA9.out.2.al'⟩
set_option maxRecDepth 100000 in
set_option maxHeartbeats 8000000 in
theorem rp2_2k (h : Rf w c g p r) (k : Nat) (hk : k < 8) (k0 : k ≠ 0) (yv yt yb : Int) (yw : Bool) (hc : ¬ r.bot ≤ yt) : Calls Try.prog 31 #[.pointer (some ⟨c, 0, none⟩), .int .i64 k, .agg #[.bool true, .int .i64 2, .int .i64 2, .int .i64 yv, .int .i64 yt, .int .i64 yb, .bool yw]] w (Pd w c g p ((r).setY k { on := true, op := 2, made := 2, v := yv, t := yt, b := r.bot, won := yw }) {}) := by
  have hz := zero51
  have hz5 := zero55
  have HN := Lc.new h { on := true, op := 2, made := 2, v := yv, t := yt, b := yb, won := yw }
  dsimp only at HN
  have H := Lib.hid h
  have hk8 : (k : Int) < 8 := by omega
  have hk0 : (0 : Int) ≤ (k : Int) := by omega
  have hlt := fun x => plc_lt x r.n h.n1
  have HLT := Lib.hid hlt
  clear hlt
  clear h
  unfold Pd
  go_enter Try.func31, Try.ntmps31
  go_upto_region 1 with fail
  obtain ⟨L4, rb⟩ := HN
  have hsz : w.heap.size + 1 = w.heap.size + 1 := rfl
  generalize (w.alloc (.cells #[.bool true, .int .i64 2, .int .i64 2, .int .i64 yv, .int .i64 yt, .int .i64 yb, .bool yw] 55)).alloc (.cells #[.bool false, .int .i64 0, .int .i64 0, .int .i64 0] 51) = W4 at *
  clear hsz
  have HZZ := Lib.hid (show w.heap.size = w.heap.size from rfl)
  generalize hZ : w.heap.size = Z at *
  clear HZZ hZ
  have c0 := L4.rf.c0
  have c1 := L4.rf.c1
  have c2 := L4.rf.c2
  have c3 := L4.rf.c3
  have z0 := L4.rf.fc 0
  have z1 := L4.rf.fc 1
  have q1 := L4.rf.cg
  have q2 := L4.rf.cp
  have q3 := L4.rf.gp
  have n1 : c ≠ Z := by have := L4.z; omega
  have n2 : g ≠ Z := by have := L4.z; omega
  have n3 : p ≠ Z := by have := L4.z; omega
  have n4 : Z ≠ c := by omega
  have n5 : Z ≠ g := by omega
  have n6 : Z ≠ p := by omega
  have f0 := L4.rf.fg (k * 7)
  have f1 := L4.rf.fg (k * 7 + 1)
  have f2 := L4.rf.fg (k * 7 + 2)
  have f3 := L4.rf.fg (k * 7 + 3)
  have f4 := L4.rf.fg (k * 7 + 4)
  have f5 := L4.rf.fg (k * 7 + 5)
  have f6 := L4.rf.fg (k * 7 + 6)
  have t0 := L4.rf.t0 k hk
  have t1 := L4.rf.t1 k hk
  have t2 := L4.rf.t2 k hk
  have t3 := L4.rf.t3 k hk
  have t4 := L4.rf.t4 k hk
  have t5 := L4.rf.t5 k hk
  have t6 := L4.rf.t6 k hk
  have b0 := row_val rb (i := 0) (v := .bool true) (by omega) rfl
  have a0 := World.rowIs.frozen rb 0
  have b1 := row_val rb (i := 1) (v := .int .i64 2) (by omega) rfl
  have a1 := World.rowIs.frozen rb 1
  have b2 := row_val rb (i := 2) (v := .int .i64 2) (by omega) rfl
  have a2 := World.rowIs.frozen rb 2
  have b3 := row_val rb (i := 3) (v := .int .i64 yv) (by omega) rfl
  have a3 := World.rowIs.frozen rb 3
  have b4 := row_val rb (i := 4) (v := .int .i64 yt) (by omega) rfl
  have a4 := World.rowIs.frozen rb 4
  have b5 := row_val rb (i := 5) (v := .int .i64 yb) (by omega) rfl
  have a5 := World.rowIs.frozen rb 5
  have b6 := row_val rb (i := 6) (v := .bool yw) (by omega) rfl
  have a6 := World.rowIs.frozen rb 6
  generalize (r.th k).op = o1 at t1
  generalize (r.th k).on = o0 at t0
  generalize (r.th k).made = o2 at t2
  generalize (r.th k).v = o3 at t3
  generalize (r.th k).t = o4 at t4
  generalize (r.th k).b = o5 at t5
  generalize (r.th k).won = o6 at t6
  have HL4 := Lib.hid L4
  clear rb L4
  go_wp2_with fail
  go_region
  all_goals
    have L7 := ((HL4.out.bset 5 (.int .i64 r.bot)).set7 k hk { on := true, op := 2, made := 2, v := yv, t := yt, b := r.bot, won := yw }).drew
    refine (show Exit.then _ _ Exit.normal _ ((set7 (W4.setCell ⟨Z, 5, none⟩ (.int .i64 r.bot)) g k { on := true, op := 2, made := 2, v := yv, t := yt, b := r.bot, won := yw }).drew) from ?_)
    clear f0 f1 f2 f3 f4 f5 f6 t0 t1 t2 t3 t4 t5 t6 c0 c1 c2 c3 z0 z1 b0 b1 b2 b3 b4 b5 b6 a0 a1 a2 a3 a4 a5 a6 n1 n2 n3 n4 n5 n6 q1 q2 q3 HL4
    generalize (set7 (W4.setCell ⟨Z, 5, none⟩ (.int .i64 r.bot)) g k { on := true, op := 2, made := 2, v := yv, t := yt, b := r.bot, won := yw }).drew = W7 at *
    have x0 := row_val L7.rs (i := 0) (v := .bool false) (by omega) rfl
    have x1 := row_val L7.rs (i := 1) (v := .int .i64 0) (by omega) rfl
    have x2 := row_val L7.rs (i := 2) (v := .int .i64 0) (by omega) rfl
    have x3 := row_val L7.rs (i := 3) (v := .int .i64 0) (by omega) rfl
    have y0 := World.rowIs.frozen L7.rs 0
    have y1 := World.rowIs.frozen L7.rs 1
    have y2 := World.rowIs.frozen L7.rs 2
    have y3 := World.rowIs.frozen L7.rs 3
    obtain ⟨g1, g2, g3⟩ := L7.ans {}
    unfold Ytldobbdaokjgaaa.set4 at g1 g2 g3
    dsimp only at g1 g2 g3
    have w0 := row_val g1 (i := 0) (v := .bool false) (by omega) rfl
    have w1 := row_val g1 (i := 1) (v := .int .i64 0) (by omega) rfl
    have w2 := row_val g1 (i := 2) (v := .int .i64 0) (by omega) rfl
    have w3 := row_val g1 (i := 3) (v := .int .i64 0) (by omega) rfl
    have HA9 := Lib.hid (And.intro g2 g3)
    clear g1 g2 g3 L7
    go_wp2
    refine bodyPost_ret (by simp [results, Try.results31, go_sem, w0, w1, w2, w3]; try rfl) rfl ?_
    exact ⟨rfl, HA9.out⟩
set_option maxRecDepth 100000 in
set_option maxHeartbeats 8000000 in
theorem rp2_3 (h : Rf w c g p r) (k : Nat) (hk : k < 8) (k0 : k ≠ 0) (yv yt yb : Int) (yw : Bool) : Calls Try.prog 31 #[.pointer (some ⟨c, 0, none⟩), .int .i64 k, .agg #[.bool true, .int .i64 2, .int .i64 3, .int .i64 yv, .int .i64 yt, .int .i64 yb, .bool yw]] w (Pd w c g p ((r).setY k { on := true, op := 2, made := 3, v := (r.pl (plc yt r.n)), t := yt, b := yb, won := yw }) {}) := by
  have hz := zero51
  have hz5 := zero55
  have HN := Lc.new h { on := true, op := 2, made := 3, v := yv, t := yt, b := yb, won := yw }
  dsimp only at HN
  have H := Lib.hid h
  have hk8 : (k : Int) < 8 := by omega
  have hk0 : (0 : Int) ≤ (k : Int) := by omega
  have hlt := fun x => plc_lt x r.n h.n1
  have HLT := Lib.hid hlt
  clear hlt
  clear h
  unfold Pd
  go_enter Try.func31, Try.ntmps31
  go_upto_region 1 with fail
  obtain ⟨L4, rb⟩ := HN
  have hsz : w.heap.size + 1 = w.heap.size + 1 := rfl
  generalize (w.alloc (.cells #[.bool true, .int .i64 2, .int .i64 3, .int .i64 yv, .int .i64 yt, .int .i64 yb, .bool yw] 55)).alloc (.cells #[.bool false, .int .i64 0, .int .i64 0, .int .i64 0] 51) = W4 at *
  clear hsz
  have HZZ := Lib.hid (show w.heap.size = w.heap.size from rfl)
  generalize hZ : w.heap.size = Z at *
  clear HZZ hZ
  have c0 := L4.rf.c0
  have c1 := L4.rf.c1
  have c2 := L4.rf.c2
  have c3 := L4.rf.c3
  have z0 := L4.rf.fc 0
  have z1 := L4.rf.fc 1
  have q1 := L4.rf.cg
  have q2 := L4.rf.cp
  have q3 := L4.rf.gp
  have n1 : c ≠ Z := by have := L4.z; omega
  have n2 : g ≠ Z := by have := L4.z; omega
  have n3 : p ≠ Z := by have := L4.z; omega
  have n4 : Z ≠ c := by omega
  have n5 : Z ≠ g := by omega
  have n6 : Z ≠ p := by omega
  have f0 := L4.rf.fg (k * 7)
  have f1 := L4.rf.fg (k * 7 + 1)
  have f2 := L4.rf.fg (k * 7 + 2)
  have f3 := L4.rf.fg (k * 7 + 3)
  have f4 := L4.rf.fg (k * 7 + 4)
  have f5 := L4.rf.fg (k * 7 + 5)
  have f6 := L4.rf.fg (k * 7 + 6)
  have t0 := L4.rf.t0 k hk
  have t1 := L4.rf.t1 k hk
  have t2 := L4.rf.t2 k hk
  have t3 := L4.rf.t3 k hk
  have t4 := L4.rf.t4 k hk
  have t5 := L4.rf.t5 k hk
  have t6 := L4.rf.t6 k hk
  have b0 := row_val rb (i := 0) (v := .bool true) (by omega) rfl
  have a0 := World.rowIs.frozen rb 0
  have b1 := row_val rb (i := 1) (v := .int .i64 2) (by omega) rfl
  have a1 := World.rowIs.frozen rb 1
  have b2 := row_val rb (i := 2) (v := .int .i64 3) (by omega) rfl
  have a2 := World.rowIs.frozen rb 2
  have b3 := row_val rb (i := 3) (v := .int .i64 yv) (by omega) rfl
  have a3 := World.rowIs.frozen rb 3
  have b4 := row_val rb (i := 4) (v := .int .i64 yt) (by omega) rfl
  have a4 := World.rowIs.frozen rb 4
  have b5 := row_val rb (i := 5) (v := .int .i64 yb) (by omega) rfl
  have a5 := World.rowIs.frozen rb 5
  have b6 := row_val rb (i := 6) (v := .bool yw) (by omega) rfl
  have a6 := World.rowIs.frozen rb 6
  generalize (r.th k).op = o1 at t1
  generalize (r.th k).on = o0 at t0
  generalize (r.th k).made = o2 at t2
  generalize (r.th k).v = o3 at t3
  generalize (r.th k).t = o4 at t4
  generalize (r.th k).b = o5 at t5
  generalize (r.th k).won = o6 at t6
  have HL4 := Lib.hid L4
  clear rb L4
  go_wp2_with fail
  have HAT := at_any HL4.out.rf.drew yt
  refine wp_region_still_tail 11 (by kernel_rfl) (by kernel_rfl) ?_
  simp only [List.take_succ_cons, List.take_zero, List.drop_succ_cons, List.drop_zero]
  have hlt := HLT.out yt
  have hlt' : ((plc yt r.n : Nat) : Int) < (r.n : Int) := by omega
  have cu := HL4.out.rf.cu (plc yt r.n) hlt
  have fu := HL4.out.rf.fp (plc yt r.n)
  repeat still_step
  still_call HAT
  repeat still_step
  refine wpStill_nil ?_
  refine (show wpList _ _ _ _ _ W4.drew from ?_)
  clear HAT
  go_wp2_with fail
  go_region
  all_goals
    have L7 := ((HL4.out.bset 3 (.int .i64 (r.pl (plc yt r.n)))).set7 k hk { on := true, op := 2, made := 3, v := (r.pl (plc yt r.n)), t := yt, b := yb, won := yw }).drew.drew
    refine (show Exit.then _ _ Exit.normal _ ((set7 (W4.setCell ⟨Z, 3, none⟩ (.int .i64 (r.pl (plc yt r.n)))) g k { on := true, op := 2, made := 3, v := (r.pl (plc yt r.n)), t := yt, b := yb, won := yw }).drew.drew) from ?_)
    clear f0 f1 f2 f3 f4 f5 f6 t0 t1 t2 t3 t4 t5 t6 c0 c1 c2 c3 z0 z1 b0 b1 b2 b3 b4 b5 b6 a0 a1 a2 a3 a4 a5 a6 n1 n2 n3 n4 n5 n6 q1 q2 q3 HL4
    generalize (set7 (W4.setCell ⟨Z, 3, none⟩ (.int .i64 (r.pl (plc yt r.n)))) g k { on := true, op := 2, made := 3, v := (r.pl (plc yt r.n)), t := yt, b := yb, won := yw }).drew.drew = W7 at *
    have x0 := row_val L7.rs (i := 0) (v := .bool false) (by omega) rfl
    have x1 := row_val L7.rs (i := 1) (v := .int .i64 0) (by omega) rfl
    have x2 := row_val L7.rs (i := 2) (v := .int .i64 0) (by omega) rfl
    have x3 := row_val L7.rs (i := 3) (v := .int .i64 0) (by omega) rfl
    have y0 := World.rowIs.frozen L7.rs 0
    have y1 := World.rowIs.frozen L7.rs 1
    have y2 := World.rowIs.frozen L7.rs 2
    have y3 := World.rowIs.frozen L7.rs 3
    obtain ⟨g1, g2, g3⟩ := L7.ans {}
    unfold Ytldobbdaokjgaaa.set4 at g1 g2 g3
    dsimp only at g1 g2 g3
    have w0 := row_val g1 (i := 0) (v := .bool false) (by omega) rfl
    have w1 := row_val g1 (i := 1) (v := .int .i64 0) (by omega) rfl
    have w2 := row_val g1 (i := 2) (v := .int .i64 0) (by omega) rfl
    have w3 := row_val g1 (i := 3) (v := .int .i64 0) (by omega) rfl
    have HA9 := Lib.hid (And.intro g2 g3)
    clear g1 g2 g3 L7
    go_wp2
    refine bodyPost_ret (by simp [results, Try.results31, go_sem, w0, w1, w2, w3]; try rfl) rfl ?_
    exact ⟨rfl, HA9.out⟩
set_option maxRecDepth 100000 in
set_option maxHeartbeats 8000000 in
theorem rp2_4n (h : Rf w c g p r) (k : Nat) (hk : k < 8) (k0 : k ≠ 0) (yv yt yb : Int) (yw : Bool) (hc : r.top ≠ yt) (ho : (r.th k).op = 2) : Calls Try.prog 31 #[.pointer (some ⟨c, 0, none⟩), .int .i64 k, .agg #[.bool true, .int .i64 2, .int .i64 4, .int .i64 yv, .int .i64 yt, .int .i64 yb, .bool yw]] w (Pd w c g p ((r).setY k {}) { over := true, op := 2, v := 0, err := 17 }) := by
  have hz := zero51
  have hz5 := zero55
  have HN := Lc.new h { on := true, op := 2, made := 4, v := yv, t := yt, b := yb, won := yw }
  dsimp only at HN
  have H := Lib.hid h
  have hk8 : (k : Int) < 8 := by omega
  have hk0 : (0 : Int) ≤ (k : Int) := by omega
  have hlt := fun x => plc_lt x r.n h.n1
  have HLT := Lib.hid hlt
  clear hlt
  have HOQ := Lib.hid ho
  clear ho
  clear h
  unfold Pd
  go_enter Try.func31, Try.ntmps31
  go_upto_region 1 with fail
  obtain ⟨L4, rb⟩ := HN
  have hsz : w.heap.size + 1 = w.heap.size + 1 := rfl
  generalize (w.alloc (.cells #[.bool true, .int .i64 2, .int .i64 4, .int .i64 yv, .int .i64 yt, .int .i64 yb, .bool yw] 55)).alloc (.cells #[.bool false, .int .i64 0, .int .i64 0, .int .i64 0] 51) = W4 at *
  clear hsz
  have HZZ := Lib.hid (show w.heap.size = w.heap.size from rfl)
  generalize hZ : w.heap.size = Z at *
  clear HZZ hZ
  have c0 := L4.rf.c0
  have c1 := L4.rf.c1
  have c2 := L4.rf.c2
  have c3 := L4.rf.c3
  have z0 := L4.rf.fc 0
  have z1 := L4.rf.fc 1
  have q1 := L4.rf.cg
  have q2 := L4.rf.cp
  have q3 := L4.rf.gp
  have n1 : c ≠ Z := by have := L4.z; omega
  have n2 : g ≠ Z := by have := L4.z; omega
  have n3 : p ≠ Z := by have := L4.z; omega
  have n4 : Z ≠ c := by omega
  have n5 : Z ≠ g := by omega
  have n6 : Z ≠ p := by omega
  have f0 := L4.rf.fg (k * 7)
  have f1 := L4.rf.fg (k * 7 + 1)
  have f2 := L4.rf.fg (k * 7 + 2)
  have f3 := L4.rf.fg (k * 7 + 3)
  have f4 := L4.rf.fg (k * 7 + 4)
  have f5 := L4.rf.fg (k * 7 + 5)
  have f6 := L4.rf.fg (k * 7 + 6)
  have t0 := L4.rf.t0 k hk
  have t1 := L4.rf.t1 k hk
  have t2 := L4.rf.t2 k hk
  have t3 := L4.rf.t3 k hk
  have t4 := L4.rf.t4 k hk
  have t5 := L4.rf.t5 k hk
  have t6 := L4.rf.t6 k hk
  have b0 := row_val rb (i := 0) (v := .bool true) (by omega) rfl
  have a0 := World.rowIs.frozen rb 0
  have b1 := row_val rb (i := 1) (v := .int .i64 2) (by omega) rfl
  have a1 := World.rowIs.frozen rb 1
  have b2 := row_val rb (i := 2) (v := .int .i64 4) (by omega) rfl
  have a2 := World.rowIs.frozen rb 2
  have b3 := row_val rb (i := 3) (v := .int .i64 yv) (by omega) rfl
  have a3 := World.rowIs.frozen rb 3
  have b4 := row_val rb (i := 4) (v := .int .i64 yt) (by omega) rfl
  have a4 := World.rowIs.frozen rb 4
  have b5 := row_val rb (i := 5) (v := .int .i64 yb) (by omega) rfl
  have a5 := World.rowIs.frozen rb 5
  have b6 := row_val rb (i := 6) (v := .bool yw) (by omega) rfl
  have a6 := World.rowIs.frozen rb 6
  generalize (r.th k).op = o1 at t1
  generalize (r.th k).on = o0 at t0
  generalize (r.th k).made = o2 at t2
  generalize (r.th k).v = o3 at t3
  generalize (r.th k).t = o4 at t4
  generalize (r.th k).b = o5 at t5
  generalize (r.th k).won = o6 at t6
  have hb : (r.top != yt) = true := by simp; exact hc
  have HL4 := Lib.hid L4
  clear rb L4
  clear hc
  go_wp2_with fail
  go_quiet (fail)
  go_wp2_with fail
  all_goals
    have LX := HL4.out.drewN nq
    refine (roverk LX.rf k hk 2 0 17 HOQ.out).mono ?_
    rintro e W2 ⟨rfl, k1, k2⟩
    have L7 := LX.over k1 k2
    have x0 := row_val L7.rs (i := 0) (v := .bool false) (by omega) rfl
    have x1 := row_val L7.rs (i := 1) (v := .int .i64 0) (by omega) rfl
    have x2 := row_val L7.rs (i := 2) (v := .int .i64 0) (by omega) rfl
    have x3 := row_val L7.rs (i := 3) (v := .int .i64 0) (by omega) rfl
    have y0 := World.rowIs.frozen L7.rs 0
    have y1 := World.rowIs.frozen L7.rs 1
    have y2 := World.rowIs.frozen L7.rs 2
    have y3 := World.rowIs.frozen L7.rs 3
    have zz : Z + 1 < W2.heap.size := L7.rs.lt
    have m1 : Z + 1 ≠ W2.heap.size := by omega
    have m2 : W2.heap.size ≠ Z + 1 := by omega
    obtain ⟨g1, g2, g3⟩ := L7.ans { over := true, op := 2, v := 0, err := 17 }
    unfold Ytldobbdaokjgaaa.set4 at g1 g2 g3
    dsimp only at g1 g2 g3
    have w0 := fun a : Array Value => row_val (g1.alloc (.cells a 51)) (i := 0) (v := .bool true) (by omega) rfl
    have w1 := fun a : Array Value => row_val (g1.alloc (.cells a 51)) (i := 1) (v := .int .i64 2) (by omega) rfl
    have w2 := fun a : Array Value => row_val (g1.alloc (.cells a 51)) (i := 2) (v := .int .i64 0) (by omega) rfl
    have w3 := fun a : Array Value => row_val (g1.alloc (.cells a 51)) (i := 3) (v := .int .i64 17) (by omega) rfl
    have HA9 := Lib.hid (And.intro g2 g3)
    clear g1 g2 g3 L7 k1 k2 LX f0 f1 f2 f3 f4 f5 f6 t0 t1 t2 t3 t4 t5 t6 c0 c1 c2 c3 z0 z1 b0 b1 b2 b3 b4 b5 b6 a0 a1 a2 a3 a4 a5 a6 n1 n2 n3 n4 n5 n6 q1 q2 q3 HL4
    unfold dv
    go_wp2
    refine bodyPost_ret (by simp [results, Try.results31, go_sem, w0, w1, w2, w3]; try rfl) rfl ?_
    exact ⟨rfl, HA9.out.1.alloc _, HA9.out.2.al'⟩
set_option maxRecDepth 100000 in
set_option maxHeartbeats 8000000 in
theorem rp2_4y (h : Rf w c g p r) (k : Nat) (hk : k < 8) (k0 : k ≠ 0) (yv yt yb : Int) (yw : Bool) (hc : r.top = yt) (ho : (r.th k).op = 2) : Calls Try.prog 31 #[.pointer (some ⟨c, 0, none⟩), .int .i64 k, .agg #[.bool true, .int .i64 2, .int .i64 4, .int .i64 yv, .int .i64 yt, .int .i64 yb, .bool yw]] w (Pd w c g p ((r.setTop (wrap64 (yt + 1))).setY k {}) { over := true, op := 2, v := yv, err := 0 }) := by
  have hz := zero51
  have hz5 := zero55
  have HN := Lc.new h { on := true, op := 2, made := 4, v := yv, t := yt, b := yb, won := yw }
  dsimp only at HN
  have H := Lib.hid h
  have hk8 : (k : Int) < 8 := by omega
  have hk0 : (0 : Int) ≤ (k : Int) := by omega
  have hlt := fun x => plc_lt x r.n h.n1
  have HLT := Lib.hid hlt
  clear hlt
  have HOQ := Lib.hid ho
  clear ho
  clear h
  unfold Pd
  go_enter Try.func31, Try.ntmps31
  go_upto_region 1 with fail
  obtain ⟨L4, rb⟩ := HN
  have hsz : w.heap.size + 1 = w.heap.size + 1 := rfl
  generalize (w.alloc (.cells #[.bool true, .int .i64 2, .int .i64 4, .int .i64 yv, .int .i64 yt, .int .i64 yb, .bool yw] 55)).alloc (.cells #[.bool false, .int .i64 0, .int .i64 0, .int .i64 0] 51) = W4 at *
  clear hsz
  have HZZ := Lib.hid (show w.heap.size = w.heap.size from rfl)
  generalize hZ : w.heap.size = Z at *
  clear HZZ hZ
  have c0 := L4.rf.c0
  have c1 := L4.rf.c1
  have c2 := L4.rf.c2
  have c3 := L4.rf.c3
  have z0 := L4.rf.fc 0
  have z1 := L4.rf.fc 1
  have q1 := L4.rf.cg
  have q2 := L4.rf.cp
  have q3 := L4.rf.gp
  have n1 : c ≠ Z := by have := L4.z; omega
  have n2 : g ≠ Z := by have := L4.z; omega
  have n3 : p ≠ Z := by have := L4.z; omega
  have n4 : Z ≠ c := by omega
  have n5 : Z ≠ g := by omega
  have n6 : Z ≠ p := by omega
  have f0 := L4.rf.fg (k * 7)
  have f1 := L4.rf.fg (k * 7 + 1)
  have f2 := L4.rf.fg (k * 7 + 2)
  have f3 := L4.rf.fg (k * 7 + 3)
  have f4 := L4.rf.fg (k * 7 + 4)
  have f5 := L4.rf.fg (k * 7 + 5)
  have f6 := L4.rf.fg (k * 7 + 6)
  have t0 := L4.rf.t0 k hk
  have t1 := L4.rf.t1 k hk
  have t2 := L4.rf.t2 k hk
  have t3 := L4.rf.t3 k hk
  have t4 := L4.rf.t4 k hk
  have t5 := L4.rf.t5 k hk
  have t6 := L4.rf.t6 k hk
  have b0 := row_val rb (i := 0) (v := .bool true) (by omega) rfl
  have a0 := World.rowIs.frozen rb 0
  have b1 := row_val rb (i := 1) (v := .int .i64 2) (by omega) rfl
  have a1 := World.rowIs.frozen rb 1
  have b2 := row_val rb (i := 2) (v := .int .i64 4) (by omega) rfl
  have a2 := World.rowIs.frozen rb 2
  have b3 := row_val rb (i := 3) (v := .int .i64 yv) (by omega) rfl
  have a3 := World.rowIs.frozen rb 3
  have b4 := row_val rb (i := 4) (v := .int .i64 yt) (by omega) rfl
  have a4 := World.rowIs.frozen rb 4
  have b5 := row_val rb (i := 5) (v := .int .i64 yb) (by omega) rfl
  have a5 := World.rowIs.frozen rb 5
  have b6 := row_val rb (i := 6) (v := .bool yw) (by omega) rfl
  have a6 := World.rowIs.frozen rb 6
  generalize (r.th k).op = o1 at t1
  generalize (r.th k).on = o0 at t0
  generalize (r.th k).made = o2 at t2
  generalize (r.th k).v = o3 at t3
  generalize (r.th k).t = o4 at t4
  generalize (r.th k).b = o5 at t5
  generalize (r.th k).won = o6 at t6
  rw [hc] at c0
  have HL4 := Lib.hid L4
  clear rb L4
  go_wp2_with fail
  go_quiet (fail)
  go_wp2_with fail
  all_goals
    have LX := (HL4.out.drewN nq).sTop (wrap64 (yt + 1))
    refine (roverk LX.rf k hk 2 yv 0 HOQ.out).mono ?_
    rintro e W2 ⟨rfl, k1, k2⟩
    have L7 := LX.over k1 k2
    have x0 := row_val L7.rs (i := 0) (v := .bool false) (by omega) rfl
    have x1 := row_val L7.rs (i := 1) (v := .int .i64 0) (by omega) rfl
    have x2 := row_val L7.rs (i := 2) (v := .int .i64 0) (by omega) rfl
    have x3 := row_val L7.rs (i := 3) (v := .int .i64 0) (by omega) rfl
    have y0 := World.rowIs.frozen L7.rs 0
    have y1 := World.rowIs.frozen L7.rs 1
    have y2 := World.rowIs.frozen L7.rs 2
    have y3 := World.rowIs.frozen L7.rs 3
    have zz : Z + 1 < W2.heap.size := L7.rs.lt
    have m1 : Z + 1 ≠ W2.heap.size := by omega
    have m2 : W2.heap.size ≠ Z + 1 := by omega
    obtain ⟨g1, g2, g3⟩ := L7.ans { over := true, op := 2, v := yv, err := 0 }
    unfold Ytldobbdaokjgaaa.set4 at g1 g2 g3
    dsimp only at g1 g2 g3
    have w0 := fun a : Array Value => row_val (g1.alloc (.cells a 51)) (i := 0) (v := .bool true) (by omega) rfl
    have w1 := fun a : Array Value => row_val (g1.alloc (.cells a 51)) (i := 1) (v := .int .i64 2) (by omega) rfl
    have w2 := fun a : Array Value => row_val (g1.alloc (.cells a 51)) (i := 2) (v := .int .i64 yv) (by omega) rfl
    have w3 := fun a : Array Value => row_val (g1.alloc (.cells a 51)) (i := 3) (v := .int .i64 0) (by omega) rfl
    have HA9 := Lib.hid (And.intro g2 g3)
    clear g1 g2 g3 L7 k1 k2 LX f0 f1 f2 f3 f4 f5 f6 t0 t1 t2 t3 t4 t5 t6 c0 c1 c2 c3 z0 z1 b0 b1 b2 b3 b4 b5 b6 a0 a1 a2 a3 a4 a5 a6 n1 n2 n3 n4 n5 n6 q1 q2 q3 HL4
    unfold dv
    go_wp2
    refine bodyPost_ret (by simp [results, Try.results31, go_sem, w0, w1, w2, w3]; try rfl) rfl ?_
    exact ⟨rfl, HA9.out.1.alloc _, HA9.out.2.al'⟩
end
end Go.Proofs.Ytldobbdaokjgaaa
