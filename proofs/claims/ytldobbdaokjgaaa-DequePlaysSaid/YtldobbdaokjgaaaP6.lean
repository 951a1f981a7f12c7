/- The deque: Step. -/
import Derived.Test.YtldobbdaokjgaaaP5
namespace Go.Proofs.Ytldobbdaokjgaaa
open Go.RowKit
set_option linter.unusedVariables false
set_option linter.unusedSimpArgs false
section
variable {w w1 : World} {b p : Nat} {q : Q}
theorem Fr.mono' {w w' : World} {S T : Nat → Prop} (h : Fr w w' S) (g : ∀ k, S k → T k) : Fr w w' T := ⟨h.os, h.tape, h.output, h.size, fun k hk n => h.block k hk (fun s => n (g k s))⟩
def Fns (m : Nat) : Prop := m = 33 ∨ m = 34 ∨ m = 35 ∨ m = 37 ∨ m = 38 ∨ m = 39 ∨ m = 41 ∨ m = 42 ∨ m = 43 ∨ m = 44 ∨ m = 45 ∨ m = 46 ∨ m = 47 ∨ m = 48
theorem fv_fns {x : Nx} {m : Nat} (h : fv x = .func (.func m) #[] #[]) : Fns m := by
  unfold Fns
  cases x <;> simp_all [fv, fnv]
set_option maxRecDepth 100000 in
set_option maxHeartbeats 8000000 in
theorem step_on (h : Dq w b p q) (n : Nat) (hn : n < 8) (hx : (q.th n).nx ≠ .no) : Calls Try.prog 14 #[.pointer (some ⟨b, 0, none⟩), .int .i64 n] w fun e w' => e = .returned (.tuple #[dv (stepA q n).d, .int .i64 0]) ∧ Dq w' b p ((stepA q n).fin n) ∧ Fr w w' (S2 b p) := by
  have H := Lib.hid h
  have hlb := h.s.lt
  have hlp := h.t.lt
  have hz := zero34
  have ct := h.t0 n hn
  obtain ⟨m, e, hf⟩ := cell_fn h n hn hx
  rw [e] at ct
  have efn := eq_fn
  have hfx := Lib.hid (hf _ (h.alloc (.cells #[.bool false, .int .i64 0, .int .i64 0, .int .i64 0] 34)))
  have hm := fv_fns e
  have HR := Lib.hid (row_new w #[.bool false, .int .i64 0, .int .i64 0, .int .i64 0] 34 4 (fun i => if i = 0 then .bool false else .int .i64 0) rfl (fun i hi => by match i, hi with | 0, _ => rfl | 1, _ => rfl | 2, _ => rfl | 3, _ => rfl))
  clear h hx e hf
  generalize stepA q n = a at *
  unfold Fns at hm
  rcases hm with rfl | rfl | rfl | rfl | rfl | rfl | rfl | rfl | rfl | rfl | rfl | rfl | rfl | rfl
  all_goals
    go_enter Try.func14, Try.ntmps14
    go_wp2_with fail
    refine (thread_in b n hn _).mono ?_
    rintro e w' ⟨rfl, rfl⟩
    go_wp2_with fail
    refine hfx.out.mono ?_
    rintro e w2 ⟨rfl, k1, k2⟩
    have t0 : ∀ c : Array Value, (w2.alloc (.cells c 34)).cell? ⟨b, 3 + n * 5, none⟩ = some (fv (a.q.th n).nx) := fun c => (k1.alloc _).t0 n hn
    have g0 : ∀ c : Array Value, (w2.alloc (.cells c 34)).frozen? ⟨b, 3 + n * 5, none⟩ = false := fun c => (k1.alloc _).fb (3 + n * 5)
    have KF := Lib.hid (fun (c : Array Value) => (k1.alloc (.cells c 34)).fN n hn a.nx)
    have r2 := row_fr HR.out k2 (by unfold S2; omega)
    have x0 := row_val r2 (i := 0) (v := .bool false) (by omega) rfl
    have x1 := row_val r2 (i := 1) (v := .int .i64 0) (by omega) rfl
    have x2 := row_val r2 (i := 2) (v := .int .i64 0) (by omega) rfl
    have x3 := row_val r2 (i := 3) (v := .int .i64 0) (by omega) rfl
    have y0 := World.rowIs.frozen r2 0
    have y1 := World.rowIs.frozen r2 1
    have y2 := World.rowIs.frozen r2 2
    have y3 := World.rowIs.frozen r2 3
    have fz : ∀ (c : Array Value) (v : Value) (i : Nat), ((w2.alloc (.cells c 34)).setCell ⟨b, 3 + n * 5, none⟩ v).frozen? ⟨w.heap.size, i, none⟩ = false := fun c v i => World.rowIs.frozen (row_fr (r2.alloc _) (fr_b _ _ _ _) (by omega)) i
    have rz : ∀ (c : Array Value) (v : Value), ((w2.alloc (.cells c 34)).setCell ⟨b, 3 + n * 5, none⟩ v).rowIs w.heap.size 34 4 (fun i => if i = 0 then .bool false else .int .i64 0) := fun c v => row_fr (r2.alloc _) (fr_b _ _ _ _) (by omega)
    have z0 : ∀ (c : Array Value) (v : Value), ((w2.alloc (.cells c 34)).setCell ⟨b, 3 + n * 5, none⟩ v).cell? ⟨w.heap.size, 0, none⟩ = some (.bool false) := fun c v => row_val (rz c v) (i := 0) (by omega) rfl
    have z1 : ∀ (c : Array Value) (v : Value), ((w2.alloc (.cells c 34)).setCell ⟨b, 3 + n * 5, none⟩ v).cell? ⟨w.heap.size, 1, none⟩ = some (.int .i64 0) := fun c v => row_val (rz c v) (i := 1) (by omega) rfl
    have z2 : ∀ (c : Array Value) (v : Value), ((w2.alloc (.cells c 34)).setCell ⟨b, 3 + n * 5, none⟩ v).cell? ⟨w.heap.size, 2, none⟩ = some (.int .i64 0) := fun c v => row_val (rz c v) (i := 2) (by omega) rfl
    have z3 : ∀ (c : Array Value) (v : Value), ((w2.alloc (.cells c 34)).setCell ⟨b, 3 + n * 5, none⟩ v).cell? ⟨w.heap.size, 3, none⟩ = some (.int .i64 0) := fun c v => row_val (rz c v) (i := 3) (by omega) rfl
    clear rz
    have KR := Lib.hid k2
    have zz : w.heap.size < w2.heap.size := by have := k2.size; simp at this; omega
    have hlb2 : b < w2.heap.size := by omega
    have hlp2 : p < w2.heap.size := by omega
    have n1 : b ≠ w2.heap.size := by omega
    have n2 : w.heap.size ≠ w2.heap.size := by omega
    have n3 : b ≠ w.heap.size := by omega
    have n4 : w.heap.size ≠ b := by omega
    have HX := Lib.hid (And.intro hlb hlp)
    clear k1 k2 r2 ct hlb hlp zz hlb2 hlp2 hfx HR
    generalize hZ : w.heap.size = Z at *
    have HZ := Lib.hid hZ
    clear hZ
    unfold dv
    rcases fv_shape a.nx with hs | ⟨m, hs⟩
    · rw [hs] at KF ⊢
      have HS := Lib.hid hs
      clear hs
      go_wp2
      refine bodyPost_ret (by simp [results, Try.results14, go_sem, z0, z1, z2, z3]; try rfl) rfl ?_
      obtain ⟨l1, l2⟩ := HX.out
      have hZ := HZ.out
      subst hZ
      refine ⟨rfl, ?_, ?_⟩
      · (repeat (first | with_reducible refine Dq.far ?_ l1 l2 | with_reducible refine Dq.alloc ?_ _ | with_reducible refine Dq.drewN ?_ _ | with_reducible refine Dq.drew ?_))
        exact KF.out _
      · (refine Fr.new ?_; repeat (first | with_reducible exact Fr.refl _ _ | with_reducible apply Fr.al | with_reducible apply Fr.dn | with_reducible apply Fr.dr | with_reducible apply Fr.sn | with_reducible apply Fr.sb | with_reducible apply Fr.sp))
        exact ((fr_alloc _ _ _).trans' KR.out).mono' (fun k h => .inl h)
    · rw [hs] at KF ⊢
      have HS := Lib.hid hs
      clear hs
      go_wp2
      refine bodyPost_ret (by simp [results, Try.results14, go_sem, z0, z1, z2, z3]; try rfl) rfl ?_
      obtain ⟨l1, l2⟩ := HX.out
      have hZ := HZ.out
      subst hZ
      refine ⟨rfl, ?_, ?_⟩
      · (repeat (first | with_reducible refine Dq.far ?_ l1 l2 | with_reducible refine Dq.alloc ?_ _ | with_reducible refine Dq.drewN ?_ _ | with_reducible refine Dq.drew ?_))
        exact KF.out _
      · (refine Fr.new ?_; repeat (first | with_reducible exact Fr.refl _ _ | with_reducible apply Fr.al | with_reducible apply Fr.dn | with_reducible apply Fr.dr | with_reducible apply Fr.sn | with_reducible apply Fr.sb | with_reducible apply Fr.sp))
        exact ((fr_alloc _ _ _).trans' KR.out).mono' (fun k h => .inl h)
theorem step_any (h : Dq w b p q) (k : Int) : Calls Try.prog 14 #[.pointer (some ⟨b, 0, none⟩), .int .i64 k] w fun e w' => e = .returned (.tuple #[dv (step q k).1.1, .int .i64 (step q k).1.2]) ∧ Dq w' b p (step q k).2 ∧ Fr w w' (S2 b p) := by
  by_cases h1 : k < 0 ∨ 8 ≤ k
  · have e : step q k = (({}, 1), q) := by unfold step; rw [if_pos h1]
    rw [e]
    exact step_no h k h1
  · obtain ⟨n, rfl⟩ : ∃ n : Nat, k = n := ⟨k.toNat, by omega⟩
    have hn : n < 8 := by omega
    by_cases h2 : (q.th n).nx = .no
    · have e : step q n = (({}, 13), q) := by unfold step; rw [if_neg h1, if_pos (by rw [Int.toNat_natCast]; exact h2)]
      rw [e]
      exact step_off h n hn h2
    · unfold step
      rw [if_neg h1, if_neg (by rw [Int.toNat_natCast]; exact h2), Int.toNat_natCast]
      exact step_on h n hn h2
end
end Go.Proofs.Ytldobbdaokjgaaa
