/- The reference's New, Begin, Step, Items. -/
import Derived.Test.YtldobbdaokjgaaaP22
namespace Go.Proofs.Ytldobbdaokjgaaa
open Go.RowKit
set_option linter.unusedVariables false
set_option linter.unusedSimpArgs false
def R0 (n : Nat) : R := { top := 0, bot := 0, n := n, pl := fun _ => 0, th := fun _ => {} }
theorem make46 (w : World) : (Instr.makeSlice 46 (.int .i64 8) (.int .i64 8)).run Try.prog w = .ok (.slice (some ⟨w.heap.size, 0, none⟩) 8 8) (w.alloc (.cells (madeCells #[.bool false, .int .i64 0, .int .i64 0, .int .i64 0, .int .i64 0, .int .i64 0, .bool false] 56) 55)) := by
  have h : (Try.prog.info? 55).map (fun i => (i.zero, i.size, i.bytes)) = some (some (.agg #[.bool false, .int .i64 0, .int .i64 0, .int .i64 0, .int .i64 0, .int .i64 0, .bool false]), 7, 56) := by kernel_rfl
  obtain ⟨i, hi, hzz⟩ := Option.map_eq_some_iff.1 h
  simp only [Prod.mk.injEq] at hzz
  obtain ⟨hz, hs, hb⟩ := hzz
  have := run_make (P := Try.prog) w 46 55 i _ Try.underlying46 hi hz .i64 .i64 8 8 (by omega) (Int.le_refl _) (by rw [hb]; omega) (by omega)
  rw [hs] at this
  exact this
theorem made56 (i : Nat) (hi : i < 56) : (madeCells #[.bool false, .int .i64 0, .int .i64 0, .int .i64 0, .int .i64 0, .int .i64 0, .bool false] 56)[i]? = some (thf (fun _ => {}) i) := by
  have h : i % 7 = 0 ∨ i % 7 = 1 ∨ i % 7 = 2 ∨ i % 7 = 3 ∨ i % 7 = 4 ∨ i % 7 = 5 ∨ i % 7 = 6 := by omega
  rcases h with e | e | e | e | e | e | e <;> simp [madeCells, hi, thf, ycell, e]
def hd48 (p g n : Nat) : Array Value := #[.int .i64 0, .int .i64 0, .slice (some ⟨p, 0, none⟩) n n, .slice (some ⟨g, 0, none⟩) 8 8]
theorem rf_new1 (w : World) (n : Nat) (h1 : 1 ≤ n) (h2 : n ≤ 64) (A B : Array Value) (hA : A = madeCells #[.int .i64 0] n) (hB : B = madeCells #[.bool false, .int .i64 0, .int .i64 0, .int .i64 0, .int .i64 0, .int .i64 0, .bool false] 56) :
    Rf (((w.alloc (.cells A 2)).alloc (.cells B 55)).alloc (.cells (hd48 w.heap.size (w.heap.size + 1) n) 48)) (w.heap.size + 2) (w.heap.size + 1) w.heap.size (R0 n) := by
  subst hA hB
  have r1 : (w.alloc (.cells (madeCells #[.int .i64 0] n) 2)).rowIs w.heap.size 2 n (fun _ => .int .i64 0) := World.rowIs_made _ _ _ _
  have r2 := row_new (w.alloc (.cells (madeCells #[.int .i64 0] n) 2)) (madeCells #[.bool false, .int .i64 0, .int .i64 0, .int .i64 0, .int .i64 0, .int .i64 0, .bool false] 56) 55 56 (thf (fun _ => {})) (size_madeCells _ _) made56
  have r3 := row_new ((w.alloc (.cells (madeCells #[.int .i64 0] n) 2)).alloc (.cells (madeCells #[.bool false, .int .i64 0, .int .i64 0, .int .i64 0, .int .i64 0, .int .i64 0, .bool false] 56) 55)) (hd48 w.heap.size (w.heap.size + 1) n) 48 4 (hdf 0 0 n (w.heap.size + 1) w.heap.size) rfl (fun i hi => by match i, hi with | 0, _ => rfl | 1, _ => rfl | 2, _ => rfl | 3, _ => rfl)
  rw [World.size_alloc] at r2
  rw [World.size_alloc, World.size_alloc] at r3
  exact ⟨r3, r2.alloc _, (r1.alloc _).alloc _, by omega, by omega, by omega, h1, h2⟩
theorem rf_new2 (w : World) (n : Nat) (h1 : 1 ≤ n) (h2 : n ≤ 64) (A B : Array Value) (hA : A = madeCells #[.int .i64 0] n) (hB : B = madeCells #[.bool false, .int .i64 0, .int .i64 0, .int .i64 0, .int .i64 0, .int .i64 0, .bool false] 56) :
    Rf (((w.alloc (.cells B 55)).alloc (.cells A 2)).alloc (.cells (hd48 (w.heap.size + 1) w.heap.size n) 48)) (w.heap.size + 2) w.heap.size (w.heap.size + 1) (R0 n) := by
  subst hA hB
  have r1 := row_new w (madeCells #[.bool false, .int .i64 0, .int .i64 0, .int .i64 0, .int .i64 0, .int .i64 0, .bool false] 56) 55 56 (thf (fun _ => {})) (size_madeCells _ _) made56
  have r2 : ((w.alloc (.cells (madeCells #[.bool false, .int .i64 0, .int .i64 0, .int .i64 0, .int .i64 0, .int .i64 0, .bool false] 56) 55)).alloc (.cells (madeCells #[.int .i64 0] n) 2)).rowIs (w.alloc (.cells (madeCells #[.bool false, .int .i64 0, .int .i64 0, .int .i64 0, .int .i64 0, .int .i64 0, .bool false] 56) 55)).heap.size 2 n (fun _ => .int .i64 0) := World.rowIs_made _ _ _ _
  have r3 := row_new ((w.alloc (.cells (madeCells #[.bool false, .int .i64 0, .int .i64 0, .int .i64 0, .int .i64 0, .int .i64 0, .bool false] 56) 55)).alloc (.cells (madeCells #[.int .i64 0] n) 2)) (hd48 (w.heap.size + 1) w.heap.size n) 48 4 (hdf 0 0 n w.heap.size (w.heap.size + 1)) rfl (fun i hi => by match i, hi with | 0, _ => rfl | 1, _ => rfl | 2, _ => rfl | 3, _ => rfl)
  rw [World.size_alloc] at r2
  rw [World.size_alloc, World.size_alloc] at r3
  exact ⟨r3, (r1.alloc _).alloc _, r2.alloc _, by omega, by omega, by omega, h1, h2⟩
theorem rf_drew {w : World} {c g p : Nat} {r : R} (h : Rf w c g p r) (m : Nat) : Rf (w.drewN m) c g p r := h.drewN m
set_option maxRecDepth 100000 in
set_option maxHeartbeats 2000000 in
theorem rnew_any (s : Int) (w : World) : Calls Try.prog 19 #[.int .i64 s] w fun e w' => ∃ c g p, e = .returned (.pointer (some ⟨c, 0, none⟩)) ∧ Rf w' c g p (R0 (capN s)) ∧ Fr w w' (fun _ => False) ∧ w.heap.size ≤ c ∧ w.heap.size ≤ g ∧ w.heap.size ≤ p := by
  obtain ⟨i0, hi, hz0, hz1, hz2⟩ := info2
  have hmk : ∀ w, (Instr.makeSlice 37 (.int .i64 (capN s)) (.int .i64 (capN s))).run Try.prog w = .ok (.slice (some ⟨w.heap.size, 0, none⟩) (capN s) (capN s)) (w.alloc (.cells (madeCells #[.int .i64 0] (capN s)) 2)) := fun w => by
    have := run_make w 37 2 i0 (.int .i64 0) Try.underlying37 hi hz0 .i64 .i64 (capN s) (capN s) (by omega) (Int.le_refl _) (by have := capN_hi s; rw [hz2]; omega) (by have := capN_hi s; omega)
    simpa [hz1, Value.cells] using this
  have hm46 := make46
  generalize hB : madeCells #[.bool false, .int .i64 0, .int .i64 0, .int .i64 0, .int .i64 0, .int .i64 0, .bool false] 56 = Bc at *
  generalize hA : madeCells #[.int .i64 0] (capN s) = Ac at *
  have HF1 := Lib.hid (rf_new1 w (capN s) (capN_lo s) (capN_hi s) Ac Bc hA.symm hB.symm)
  have HF2 := Lib.hid (rf_new2 w (capN s) (capN_lo s) (capN_hi s) Ac Bc hA.symm hB.symm)
  have hz := zero48
  clear hi hA hB
  have hN : ∃ c : Int, c = capN s ∧ ((s < 1 ∧ c = 1) ∨ (s = c ∧ 1 ≤ c ∧ c ≤ 64) ∨ (1 ≤ s ∧ 64 < s ∧ c = 64)) := by
    unfold capN
    by_cases h1 : s < 1
    · exact ⟨1, by simp [h1], .inl ⟨h1, rfl⟩⟩
    · by_cases h2 : s ≤ 64
      · exact ⟨s, by simp [h1, h2]; omega, .inr (.inl ⟨rfl, by omega, h2⟩)⟩
      · exact ⟨64, by simp [h1, h2], .inr (.inr ⟨by omega, by omega, rfl⟩)⟩
  obtain ⟨c, hc, hN⟩ := hN
  rw [← hc] at hmk
  generalize capN s = C at *
  clear hc
  unfold hd48 at HF1 HF2
  rcases hN with ⟨h1, rfl⟩ | ⟨rfl, h1, h2⟩ | ⟨h1, h2, rfl⟩
  all_goals
    go_enter Try.func19, Try.ntmps19
    go_wp2
    go_region
    all_goals
      go_wp2
      go_ret
      first
      | exact ⟨_, _, _, rfl, rf_drew HF1.out 1, (((fr_alloc _ _ _).trans' (fr_alloc _ _ _)).trans' (fr_alloc _ _ _)).trans' (fr_drewN _ _ 1), by omega, by omega, by omega⟩
      | exact ⟨_, _, _, rfl, rf_drew HF2.out 1, (((fr_alloc _ _ _).trans' (fr_alloc _ _ _)).trans' (fr_alloc _ _ _)).trans' (fr_drewN _ _ 1), by omega, by omega, by omega⟩
section
variable {w w1 : World} {c g p : Nat} {r : R}
theorem mstep_no (h : Rf w c g p r) (k : Int) (h1 : k < 0 ∨ 8 ≤ k) : Calls Try.prog 21 #[.pointer (some ⟨c, 0, none⟩), .int .i64 k] w fun e w' => e = .returned (.tuple #[dv {}, .int .i64 1]) ∧ Rf w' c g p r ∧ Fr w w' (S3 c g p) := by
  have H := Lib.hid h
  have hz := zero51
  clear h
  rcases h1 with h1 | h1
  · go_enter Try.func21, Try.ntmps21
    go_wp2
    go_returns
    exact ⟨rfl, H.out.alloc _, fr_alloc _ _ _⟩
  · by_cases h2 : k < 0
    · omega
    · go_enter Try.func21, Try.ntmps21
      go_wp2
      go_returns
      exact ⟨rfl, H.out.alloc _, fr_alloc _ _ _⟩
set_option maxRecDepth 100000 in
set_option maxHeartbeats 4000000 in
theorem mstep_off (h : Rf w c g p r) (k : Nat) (hk : k < 8) (ho : (r.th k).on = false) : Calls Try.prog 21 #[.pointer (some ⟨c, 0, none⟩), .int .i64 k] w fun e w' => e = .returned (.tuple #[dv {}, .int .i64 13]) ∧ Rf w' c g p r ∧ Fr w w' (S3 c g p) := by
  have H := Lib.hid h
  have hz := zero51
  have hz5 := zero55
  have c3 := h.c3
  have t0 := h.t0 k hk
  have t1 := h.t1 k hk
  have t2 := h.t2 k hk
  have t3 := h.t3 k hk
  have t4 := h.t4 k hk
  have t5 := h.t5 k hk
  have t6 := h.t6 k hk
  rw [ho] at t0
  have hlc := h.s.lt
  have hlg := h.t.lt
  have n1 : c ≠ w.heap.size := by omega
  have n2 : g ≠ w.heap.size := by omega
  have hk8 : (k : Int) < 8 := by omega
  have hk0 : (0 : Int) ≤ (k : Int) := by omega
  clear h ho
  generalize (r.th k).op = o1 at t1
  generalize (r.th k).made = o2 at t2
  generalize (r.th k).v = o3 at t3
  generalize (r.th k).t = o4 at t4
  generalize (r.th k).b = o5 at t5
  generalize (r.th k).won = o6 at t6
  go_enter Try.func21, Try.ntmps21
  go_wp2
  go_returns
  exact ⟨rfl, (H.out.alloc _).alloc _, (fr_alloc _ _ _).trans' (fr_alloc _ _ _)⟩
end
end Go.Proofs.Ytldobbdaokjgaaa
