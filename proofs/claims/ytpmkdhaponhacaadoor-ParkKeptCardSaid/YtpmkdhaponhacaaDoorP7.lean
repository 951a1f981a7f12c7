/- The lot: New. -/
import Derived.Test.YtpmkdhaponhacaaDoorP6
namespace Go.Proofs.YtpmkdhaponhacaaDoor
open Go.RowKit
set_option linter.unusedVariables false
set_option linter.unusedSimpArgs false
/-- how many workers there are -/
def nw (s : Int) : Nat := if s < 1 then 1 else if s ≤ 7 then s.toNat else 7
theorem nw_lo (s : Int) : 1 ≤ nw s := by unfold nw; split; exact Nat.le_refl _; split <;> omega
theorem nw_hi (s : Int) : nw s ≤ 7 := by unfold nw; split; omega; split <;> omega
def Q0 (m : Nat) : Q := { work := 0, seq := 0, idle := 0, n := m, th := fun _ => {} }
def thr0 : Array Value := #[.nilFunc, .int .u64 0, .int .i64 0, .int .i64 0, .int .i64 0, .bool false]
/-- the threads while their bits are laid -/
def nf (i j : Nat) : Value := if j % 6 = 1 then (if j / 6 < i then .int .u64 ((2 ^ (j / 6) : Nat) : Int) else .int .u64 0) else tcell (j / 6) {} (j % 6)
theorem make55 (n : Nat) (hn : n ≤ 8) (w : World) : (Instr.makeSlice 55 (.int .i64 n) (.int .i64 n)).run Tryd.prog w = .ok (.slice (some ⟨w.heap.size, 0, none⟩) n n) (w.alloc (.cells (madeCells thr0 (n * 6)) 61)) := by
  have h : (Tryd.prog.info? 61).map (fun i => (i.zero, i.size, i.bytes)) = some (some (.agg thr0), 6, 48) := by kernel_rfl
  obtain ⟨i, hi, hzz⟩ := Option.map_eq_some_iff.1 h
  simp only [Prod.mk.injEq] at hzz
  obtain ⟨hz, hs, hb⟩ := hzz
  have := run_make (P := Tryd.prog) w 55 61 i _ Tryd.underlying55 hi hz .i64 .i64 n n (by omega) (Int.le_refl _) (by rw [hb]; omega) (by omega)
  rw [hs] at this
  exact this
theorem made0 (n i : Nat) (hi : i < n * 6) : (madeCells thr0 (n * 6))[i]? = some (nf 0 i) := by
  have h : i % 6 = 0 ∨ i % 6 = 1 ∨ i % 6 = 2 ∨ i % 6 = 3 ∨ i % 6 = 4 ∨ i % 6 = 5 := by omega
  rcases h with e | e | e | e | e | e <;> simp [madeCells, hi, nf, tcell, thr0, e, fv]
theorem two_at : ∀ k : Nat, k < 8 → IntKind.u64.wrap ((2 : Int) ^ k) = ((2 ^ k : Nat) : Int) := by decide +kernel
theorem zero57 (w : World) : (zeroValue 57).run Tryd.prog w = .ok (.agg #[.int .i64 0, .int .i64 0, .int .u64 0, .slice none 0 0]) w := by kernel_rfl
/-- the lot half made -/
structure Mk (w wr : World) (b p m i : Nat) : Prop where
  s : wr.rowIs b 57 4 (hdf (Q0 m) p)
  t : wr.rowIs p 61 (m * 6) (nf i)
  f : Below w.heap.size w wr
theorem mk_c3 {w wr : World} {b p m i : Nat} (h : Mk w wr b p m i) : wr.cell? ⟨b, 3, none⟩ = some (.slice (some ⟨p, 0, none⟩) m m) := row_val h.s (by omega) rfl
theorem mk_t1 {w wr : World} {b p m i : Nat} (h : Mk w wr b p m i) (hi : i < m) : ∃ v, wr.cell? ⟨p, i * 6 + 1, none⟩ = some (.int .u64 v) := by
  refine ⟨0, row_val h.t (by omega) ?_⟩
  unfold nf
  rw [if_pos (by omega), if_neg (by omega)]
theorem mk_set {w wr : World} {b p m i : Nat} (h : Mk w wr b p m i) (hi : i < m) (hb : b ≠ p) (hp : w.heap.size ≤ p) : Mk w ((wr.setCell ⟨p, i * 6 + 1, none⟩ (.int .u64 ((2 ^ i : Nat) : Int))).drew) b p m (i + 1) := by
  refine ⟨row_fr (row_fr h.s (fr_b wr p _ _) hb) (fr_drew _ (fun _ => False)) id, ?_, ?_⟩
  · refine row_fr (S := fun _ => False) ((h.t.set _ _).congr (fun j hj => ?_)) (fr_drew _ _) id
    unfold nf
    by_cases e : j = i * 6 + 1
    · subst e
      rw [if_pos rfl, if_pos (by omega), show (i * 6 + 1) / 6 = i by omega, if_pos (by omega)]
    · rw [if_neg e]
      by_cases e1 : j % 6 = 1
      · rw [if_pos e1, if_pos e1]
        by_cases e2 : j / 6 < i
        · rw [if_pos e2, if_pos (by omega)]
        · rw [if_neg e2, if_neg (by omega)]
      · rw [if_neg e1, if_neg e1]
  · have g := fr_b wr p (i * 6 + 1) (.int .u64 ((2 ^ i : Nat) : Int))
    exact ⟨g.os.trans h.f.os, g.tape.trans h.f.tape, g.output.trans h.f.output, Nat.le_trans h.f.size g.size, fun k hk => (g.block k (by have := h.f.size; omega) (by omega)).trans (h.f.block k hk)⟩
theorem mk_fin {w wr : World} {b p m : Nat} (h : Mk w wr b p m m) (hb : b ≠ p) (hp : w.heap.size ≤ p ∧ w.heap.size ≤ b) (h1 : 2 ≤ m) (h2 : m ≤ 8) (hT : Tab w 1) : Lq wr b p (Q0 m) := by
  have hl := tab_lt hT
  refine ⟨h.s, h.t.congr (fun j hj => ?_), tab_below hT h.f hl, by omega, h1, h2, by show (0 : Nat) < 256; decide⟩
  unfold nf
  show _ = thf (fun _ => {}) j
  unfold thf
  by_cases e1 : j % 6 = 1
  · rw [if_pos e1, if_pos (by omega), e1]; rfl
  · rw [if_neg e1]
theorem mk_new (w : World) (m : Nat) : Mk w ((w.alloc (.cells (madeCells thr0 (m * 6)) 61)).alloc (.cells #[.int .i64 0, .int .i64 0, .int .u64 0, .slice (some ⟨w.heap.size, 0, none⟩) m m] 57)) (w.heap.size + 1) w.heap.size m 0 := by
  have r1 := row_new w (madeCells thr0 (m * 6)) 61 (m * 6) (nf 0) (size_madeCells _ _) (made0 m)
  have r2 := row_new (w.alloc (.cells (madeCells thr0 (m * 6)) 61)) #[.int .i64 0, .int .i64 0, .int .u64 0, .slice (some ⟨w.heap.size, 0, none⟩) m m] 57 4 (hdf (Q0 m) w.heap.size) rfl (fun i hi => by match i, hi with | 0, _ => rfl | 1, _ => rfl | 2, _ => rfl | 3, _ => rfl)
  rw [World.size_alloc] at r2
  exact ⟨r2, r1.alloc _, ((Below.refl w.heap.size w).alloc (Nat.le_refl _) _).alloc (by simp) _⟩
set_option maxRecDepth 100000 in
set_option maxHeartbeats 2000000 in
theorem new_any (s : Int) (w : World) (hT : Tab w 1) : Calls Tryd.prog 10 #[.int .i64 s] w fun e w' => e = .returned (.pointer (some ⟨w.heap.size + 1, 0, none⟩)) ∧ Lq w' (w.heap.size + 1) w.heap.size (Q0 (nw s + 1)) ∧ Below w.heap.size w w' := by
  have hmk := make55 (nw s + 1) (by have := nw_hi s; omega)
  have HF := Lib.hid (mk_new w (nw s + 1))
  have hz := zero57
  have hTT := Lib.hid hT
  have hm1 : 2 ≤ nw s + 1 := by have := nw_lo s; omega
  have hm2 : nw s + 1 ≤ 8 := by have := nw_hi s; omega
  have hN : (s < 1 ∧ ((nw s + 1 : Nat) : Int) = 2) ∨ (1 ≤ s ∧ s ≤ 7 ∧ ((nw s + 1 : Nat) : Int) = s + 1) ∨ (1 ≤ s ∧ 7 < s ∧ ((nw s + 1 : Nat) : Int) = 8) := by
    unfold nw
    by_cases h1 : s < 1
    · exact .inl ⟨h1, by rw [if_pos h1]; rfl⟩
    · by_cases h2 : s ≤ 7
      · exact .inr (.inl ⟨by omega, h2, by rw [if_neg h1, if_pos h2]; omega⟩)
      · exact .inr (.inr ⟨by omega, by omega, by rw [if_neg h1, if_neg h2]; rfl⟩)
  clear hT
  generalize nw s + 1 = C at *
  rcases hN with ⟨h1, hC⟩ | ⟨h1, h2, hC⟩ | ⟨h1, h2, hC⟩
  all_goals
    rw [hC] at hmk
    go_enter Tryd.func10, Tryd.ntmps10
    go_wp2
    rw [← hC]
    have HG := Lib.hid (And.intro hm1 hm2)
    clear hmk hz
    go_loopw [17] (fun kv wr => ∃ i : Nat, i ≤ C ∧ kv = .int .i64 i ∧ Mk w wr (w.heap.size + 1) w.heap.size C i) (fun kv wr => C - (intOf kv).toNat)
    case atStart => exact ⟨0, by omega, rfl, HF.out⟩
    case round =>
      obtain ⟨i, hi, rfl, hM⟩ := hrel
      have c3 := mk_c3 hM
      by_cases hlt : i < C
      · obtain ⟨vv, c1⟩ := mk_t1 hM hlt
        have g1 : wr.frozen? ⟨w.heap.size, i * 6 + 1, none⟩ = false := World.rowIs.frozen hM.t _
        have h2i := Lib.hid (two_at i (by omega))
        have hl1 : (i : Int) < (C : Int) := by omega
        have hl0 : (0 : Int) ≤ (i : Int) := by omega
        have MS := Lib.hid (mk_set hM hlt (by omega) (Nat.le_refl _))
        clear hM
        go_wp2
        go_region
        all_goals
          go_wp2
          exact ⟨⟨i + 1, by omega, by go_num, by rw [h2i.out]; exact MS.out⟩, by simp [intOf]; omega⟩
      · have hge : ¬ ((i : Int) < (C : Int)) := by omega
        obtain rfl : i = C := by omega
        have L := Lib.hid (mk_fin hM (by omega) ⟨Nat.le_refl _, by omega⟩ HG.out.1 HG.out.2 hTT.out)
        have LB := Lib.hid hM.f
        clear hM
        go_wp2
        go_ret
        exact ⟨rfl, L.out, LB.out⟩
end Go.Proofs.YtpmkdhaponhacaaDoor
