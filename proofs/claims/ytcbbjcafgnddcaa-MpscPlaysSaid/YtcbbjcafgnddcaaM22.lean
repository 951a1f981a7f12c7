/- The reference's New. -/
import Derived.Test.YtcbbjcafgnddcaaM21
namespace Go.Proofs.Ytcbbjcafgnddcaa
open Go.RowKit Go.Shelf
set_option linter.unusedVariables false
set_option linter.unusedSimpArgs false
theorem zero48 (w : World) : (zeroValue 48).run Try.prog w = .ok (.agg #[.bool false, .int .i64 0, .int .i64 0, .int .i64 0]) w := by kernel_rfl
theorem zero43 (w : World) : (zeroValue 43).run Try.prog w = .ok (.agg #[.bool false, .bool false, .int .i64 0, .int .i64 0]) w := by kernel_rfl
theorem zero51 (w : World) : (zeroValue 51).run Try.prog w = .ok (.agg #[.slice none 0 0, .slice none 0 0, .int .i64 0, .int .i64 0, .slice none 0 0]) w := by kernel_rfl
theorem make1 (w : World) : (Instr.makeSlice 22 (.int .i64 1) (.int .i64 1)).run Try.prog w = .ok (.slice (some ⟨w.heap.size, 0, none⟩) 1 1) (w.alloc (.cells (madeCells #[.int .i64 0] 1) 2)) := by
  have h : (Try.prog.info? 2).map (fun i => (i.zero, i.size, i.bytes)) = some (some (.int .i64 0), 1, 8) := by kernel_rfl
  exact run_make_row' 22 2 (.int .i64 0) 8 Try.underlying22 h rfl .i64 .i64 1 (by omega) (by omega) w
theorem make49 (w : World) : (Instr.makeSlice 49 (.int .i64 8) (.int .i64 8)).run Try.prog w = .ok (.slice (some ⟨w.heap.size, 0, none⟩) 8 8) (w.alloc (.cells (madeCells #[.bool false, .int .i64 0, .int .i64 0, .int .i64 0] 32) 48)) := by
  have h : (Try.prog.info? 48).map (fun i => (i.zero, i.size, i.bytes)) = some (some (.agg #[.bool false, .int .i64 0, .int .i64 0, .int .i64 0]), 4, 32) := by kernel_rfl
  obtain ⟨i, hi, hzz⟩ := Option.map_eq_some_iff.1 h
  simp only [Prod.mk.injEq] at hzz
  obtain ⟨hz, hs, hb⟩ := hzz
  have := run_make (P := Try.prog) w 49 48 i _ Try.underlying49 hi hz .i64 .i64 8 8 (by omega) (Int.le_refl _) (by rw [hb]; omega) (by omega)
  rw [hs] at this
  exact this
theorem made32 (i : Nat) (hi : i < 32) : (madeCells #[.bool false, .int .i64 0, .int .i64 0, .int .i64 0] 32)[i]? = some (tc4f Q0.th i) := by
  have h : i % 4 = 0 ∨ i % 4 = 1 ∨ i % 4 = 2 ∨ i % 4 = 3 := by omega
  rcases h with e | e | e | e <;> simp [madeCells, hi, tc4f, e, Q0]
theorem rf_new (w : World) (c g a b : Nat) (hc : w.heap[c]? = some (.cells #[.slice (some ⟨a, 0, none⟩) 1 1, .slice (some ⟨b, 0, none⟩) 1 1, .int .i64 0, .int .i64 0, .slice (some ⟨g, 0, none⟩) 8 8] 51)) (hg : w.heap[g]? = some (.cells (madeCells #[.bool false, .int .i64 0, .int .i64 0, .int .i64 0] 32) 48)) (ha : w.heap[a]? = some (.cells (madeCells #[.int .i64 0] 1) 2)) (hb : w.heap[b]? = some (.cells (madeCells #[.int .i64 0] 1) 2)) (h1 : c ≠ g) (h2 : a ≠ c ∧ a ≠ g ∧ b ≠ a) (h3 : b ≠ c ∧ b ≠ g) :
    Rf w c g (.slice (some ⟨a, 0, none⟩) 1 1) (.slice (some ⟨b, 0, none⟩) 1 1) Q0 := by
  have hs : (madeCells #[Value.int .i64 0] 1).size = 1 := size_madeCells _ _
  have hv : ∀ i, i < 1 → (madeCells #[Value.int .i64 0] 1)[0 + i]? = some (.int .i64 0) := fun i hi => by
    have : i = 0 := by omega
    subst this; simp [madeCells]
  refine ⟨⟨_, hc, rfl, fun i hi => ?_⟩, ⟨_, hg, size_madeCells _ _, made32⟩, .inr ⟨a, 0, 1, _, rfl, ha, Nat.le_refl _, ?_, ?_⟩, .inr ⟨b, 0, 1, _, rfl, hb, Nat.le_refl _, ?_, ?_⟩, h1, fun k e => ?_, fun k e => ?_⟩
  · match i, hi with
    | 0, _ => rfl
    | 1, _ => rfl
    | 2, _ => rfl
    | 3, _ => rfl
    | 4, _ => rfl
  · rw [hs]; omega
  · intro i hi
    have hi' : i < 1 := hi
    rw [hv i hi']
    have : i = 0 := by omega
    subst this; rfl
  · rw [hs]; omega
  · intro i hi
    have hi' : i < 1 := hi
    rw [hv i hi']
    have : i = 0 := by omega
    subst this; rfl
  · have e' : a = k := by simpa [blk] using e
    subst e'
    exact ⟨h2.1, h2.2.1, fun x => h2.2.2 (by simpa [blk] using x)⟩
  · have e' : b = k := by simpa [blk] using e
    subst e'
    exact ⟨h3.1, h3.2, fun x => h2.2.2 (by have : a = b := by simpa [blk] using x
                                           exact this.symm)⟩
theorem hp4 (w : World) (o0 o1 o2 o3 : Obj) : ((((w.alloc o0).alloc o1).alloc o2).alloc o3).drew.heap[w.heap.size]? = some o0 ∧ ((((w.alloc o0).alloc o1).alloc o2).alloc o3).drew.heap[w.heap.size + 1]? = some o1 ∧ ((((w.alloc o0).alloc o1).alloc o2).alloc o3).drew.heap[w.heap.size + 1 + 1]? = some o2 ∧ ((((w.alloc o0).alloc o1).alloc o2).alloc o3).drew.heap[w.heap.size + 1 + 1 + 1]? = some o3 := by
  have e : ((((w.alloc o0).alloc o1).alloc o2).alloc o3).drew.heap = (((w.heap.push o0).push o1).push o2).push o3 := rfl
  rw [e]
  refine ⟨?_, ?_, ?_, ?_⟩ <;> simp only [Array.getElem?_push, Array.size_push]
  · rw [if_neg (by omega), if_neg (by omega), if_neg (by omega), if_pos trivial]
  · rw [if_neg (by omega), if_neg (by omega), if_pos trivial]
  · rw [if_neg (by omega), if_pos trivial]
  · rw [if_pos trivial]
theorem gb4 (w : World) (o0 o1 o2 o3 : Obj) : w.grownBy ((((w.alloc o0).alloc o1).alloc o2).alloc o3).drew none := gb_trans (gb_trans (gb_trans (gb_trans (gb_alloc _ _ _) (gb_alloc _ _ _)) (gb_alloc _ _ _)) (gb_alloc _ _ _)) (gb_drew _ _)
set_option maxRecDepth 100000 in
set_option maxHeartbeats 2000000 in
theorem mnew_any (w : World) : Calls Try.prog 16 #[] w fun e w' => ∃ c g vv vn, e = .returned (.pointer (some ⟨c, 0, none⟩)) ∧ Rf w' c g vv vn Q0 ∧ w.grownBy w' none ∧ ∀ k, S0 c g vv vn k → w.heap.size ≤ k := by
  have hz := zero51
  have hm1 := make1
  have hm49 := make49
  go_enter Try.func16, Try.ntmps16
  go_wp2
  go_region
  all_goals go_wp2
  all_goals go_ret
  all_goals
    refine ⟨_, _, _, _, rfl, rf_new _ _ _ _ _ (hp4 _ _ _ _ _).2.2.2 ?_ ?_ ?_ (by omega) (by omega) (by omega), gb4 _ _ _ _ _, fun k hk => ?_⟩
  all_goals first
    | exact (hp4 _ _ _ _ _).1
    | exact (hp4 _ _ _ _ _).2.1
    | exact (hp4 _ _ _ _ _).2.2.1
    | (unfold S0 at hk
       simp only [blk, Option.some.injEq] at hk
       omega)
end Go.Proofs.Ytcbbjcafgnddcaa
