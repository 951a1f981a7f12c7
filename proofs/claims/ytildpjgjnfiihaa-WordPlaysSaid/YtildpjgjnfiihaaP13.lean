/- The reference's word: its blocks, New, change, Begin. -/
import Derived.Test.YtildpjgjnfiihaaP8
namespace Go.Proofs.Ytildpjgjnfiihaa
open Go.RowKit
set_option linter.unusedVariables false
set_option linter.unusedSimpArgs false
structure T where
  on : Bool
  op : Nat
  made : Nat
  read : Nat
def enc : Nx → T
  | .no => ⟨false, 0, 0, 0⟩
  | .look => ⟨true, 0, 0, 0⟩
  | .wk c => ⟨true, 0, 1, if c = true then 2 else 0⟩
  | .start => ⟨true, 1, 0, 0⟩
  | .sleep => ⟨true, 2, 0, 0⟩
  | .goes => ⟨true, 2, 1, 0⟩
  | .yield => ⟨true, 3, 0, 0⟩
  | .die => ⟨true, 4, 0, 0⟩
def hd3 (now g : Nat) (held : Bool) (j : Nat) : Value := if j = 0 then .int .i64 now else if j = 1 then .slice (some ⟨g, 0, none⟩) 8 8 else .bool held
def tcf (th : Nat → Nx) (j : Nat) : Value := if j % 4 = 0 then .bool (enc (th (j / 4))).on else if j % 4 = 1 then .int .i64 (enc (th (j / 4))).op else if j % 4 = 2 then .int .i64 (enc (th (j / 4))).made else .int .i64 (enc (th (j / 4))).read
structure Rf (w : World) (c g : Nat) (q : Q) : Prop where
  s : w.rowIs c 40 3 (hd3 q.now g q.held)
  t : w.rowIs g 43 32 (tcf q.th)
  cg : c ≠ g
def S2 (c g : Nat) (k : Nat) : Prop := k = c ∨ k = g
section
variable {w w1 : World} {c g : Nat} {q : Q}
theorem Rf.frame (h : Rf w c g q) {S : Nat → Prop} (f : Fr w w1 S) (hc : ¬ S c) (hg : ¬ S g) : Rf w1 c g q := ⟨row_fr h.s f hc, row_fr h.t f hg, h.cg⟩
theorem Rf.same (h : Rf w c g q) (e : w1.heap = w.heap) : Rf w1 c g q := ⟨h.s.of_block (by rw [e]), h.t.of_block (by rw [e]), h.cg⟩
theorem Rf.below (h : Rf w c g q) (f : Below w.heap.size w w1) : Rf w1 c g q := ⟨row_below h.s f h.s.lt, row_below h.t f h.t.lt, h.cg⟩
theorem Rf.alloc (h : Rf w c g q) (o : Obj) : Rf (w.alloc o) c g q := ⟨h.s.alloc o, h.t.alloc o, h.cg⟩
theorem Rf.c0 (h : Rf w c g q) : w.cell? ⟨c, 0, none⟩ = some (.int .i64 q.now) := row_val h.s (by omega) rfl
theorem Rf.c1 (h : Rf w c g q) : w.cell? ⟨c, 1, none⟩ = some (.slice (some ⟨g, 0, none⟩) 8 8) := row_val h.s (by omega) rfl
theorem Rf.c2 (h : Rf w c g q) : w.cell? ⟨c, 2, none⟩ = some (.bool q.held) := row_val h.s (by omega) rfl
theorem Rf.fc (h : Rf w c g q) (i : Nat) : w.frozen? ⟨c, i, none⟩ = false := World.rowIs.frozen h.s i
theorem Rf.fg (h : Rf w c g q) (i : Nat) : w.frozen? ⟨g, i, none⟩ = false := World.rowIs.frozen h.t i
theorem Rf.t0 (h : Rf w c g q) (k : Nat) (hk : k < 8) : w.cell? ⟨g, k * 4, none⟩ = some (.bool (enc (q.th k)).on) := by
  refine row_val h.t (by omega) ?_
  unfold tcf; rw [if_pos (by omega), show k * 4 / 4 = k by omega]
theorem Rf.t1 (h : Rf w c g q) (k : Nat) (hk : k < 8) : w.cell? ⟨g, k * 4 + 1, none⟩ = some (.int .i64 (enc (q.th k)).op) := by
  refine row_val h.t (by omega) ?_
  unfold tcf; rw [if_neg (by omega), if_pos (by omega), show (k * 4 + 1) / 4 = k by omega]
theorem Rf.t2 (h : Rf w c g q) (k : Nat) (hk : k < 8) : w.cell? ⟨g, k * 4 + 2, none⟩ = some (.int .i64 (enc (q.th k)).made) := by
  refine row_val h.t (by omega) ?_
  unfold tcf; rw [if_neg (by omega), if_neg (by omega), if_pos (by omega), show (k * 4 + 2) / 4 = k by omega]
theorem Rf.t3 (h : Rf w c g q) (k : Nat) (hk : k < 8) : w.cell? ⟨g, k * 4 + 3, none⟩ = some (.int .i64 (enc (q.th k)).read) := by
  refine row_val h.t (by omega) ?_
  unfold tcf; rw [if_neg (by omega), if_neg (by omega), if_neg (by omega), show (k * 4 + 3) / 4 = k by omega]
def set4 (w : World) (g k : Nat) (t : T) : World := (((w.setCell ⟨g, k * 4, none⟩ (.bool t.on)).setCell ⟨g, k * 4 + 1, none⟩ (.int .i64 t.op)).setCell ⟨g, k * 4 + 2, none⟩ (.int .i64 t.made)).setCell ⟨g, k * 4 + 3, none⟩ (.int .i64 t.read)
theorem fr_set4 (w : World) (g k : Nat) (t : T) (S : Nat → Prop) (h : S g) : Fr w (set4 w g k t) S :=
  (((fr_set w S g _ _ h).trans' (fr_set _ S g _ _ h)).trans' (fr_set _ S g _ _ h)).trans' (fr_set _ S g _ _ h)
theorem Rf.set4 (h : Rf w c g q) (k : Nat) (hk : k < 8) (x : Nx) : Rf (set4 w g k (enc x)) c g (q.set k x) := by
  have f : Fr w (Ytildpjgjnfiihaa.set4 w g k (enc x)) (fun b => b = g) := fr_set4 w g k _ _ rfl
  refine ⟨row_fr h.s f h.cg, ?_, h.cg⟩
  refine ((((h.t.set _ _).set _ _).set _ _).set _ _).congr (fun i hi => ?_)
  unfold tcf Q.set
  dsimp only
  by_cases e : i / 4 = k
  · rw [if_pos e]
    have h4 : i = k * 4 ∨ i = k * 4 + 1 ∨ i = k * 4 + 2 ∨ i = k * 4 + 3 := by omega
    rcases h4 with e | e | e | e
    · rw [if_neg (by omega), if_neg (by omega), if_neg (by omega), if_pos e, if_pos (by omega)]
    · rw [if_neg (by omega), if_neg (by omega), if_pos e, if_neg (by omega), if_pos (by omega)]
    · rw [if_neg (by omega), if_pos e, if_neg (by omega), if_neg (by omega), if_pos (by omega)]
    · rw [if_pos e, if_neg (by omega), if_neg (by omega), if_neg (by omega)]
  · rw [if_neg e, if_neg (by omega), if_neg (by omega), if_neg (by omega), if_neg (by omega)]
theorem Rf.setNow (h : Rf w c g q) (i : Nat) : Rf (w.setCell ⟨c, 0, none⟩ (.int .i64 i)) c g { now := i, held := q.held, th := q.th } := by
  refine ⟨(h.s.set 0 _).congr (fun j hj => by match j, hj with | 0, _ => rfl | 1, _ => rfl | 2, _ => rfl), row_fr h.t (fr_b w c 0 _) (Ne.symm h.cg), h.cg⟩
theorem Rf.setHeld (h : Rf w c g q) (b : Bool) : Rf (w.setCell ⟨c, 2, none⟩ (.bool b)) c g { now := q.now, held := b, th := q.th } := by
  refine ⟨(h.s.set 2 _).congr (fun j hj => by match j, hj with | 0, _ => rfl | 1, _ => rfl | 2, _ => rfl), row_fr h.t (fr_b w c 2 _) (Ne.symm h.cg), h.cg⟩
end
theorem zero40 (w : World) : (zeroValue 40).run Try.prog w = .ok (.agg #[.int .i64 0, .slice none 0 0, .bool false]) w := by kernel_rfl
theorem zero43 (w : World) : (zeroValue 43).run Try.prog w = .ok (.agg #[.bool false, .int .i64 0, .int .i64 0, .int .i64 0]) w := by kernel_rfl
theorem make38 (w : World) : (Instr.makeSlice 38 (.int .i64 8) (.int .i64 8)).run Try.prog w = .ok (.slice (some ⟨w.heap.size, 0, none⟩) 8 8) (w.alloc (.cells (madeCells #[.bool false, .int .i64 0, .int .i64 0, .int .i64 0] 32) 43)) := by
  have h : (Try.prog.info? 43).map (fun i => (i.zero, i.size, i.bytes)) = some (some (.agg #[.bool false, .int .i64 0, .int .i64 0, .int .i64 0]), 4, 32) := by kernel_rfl
  obtain ⟨i, hi, hzz⟩ := Option.map_eq_some_iff.1 h
  simp only [Prod.mk.injEq] at hzz
  obtain ⟨hz, hs, hb⟩ := hzz
  have := run_make (P := Try.prog) w 38 43 i _ Try.underlying38 hi hz .i64 .i64 8 8 (by omega) (Int.le_refl _) (by rw [hb]; omega) (by omega)
  rw [hs] at this
  exact this
theorem made32 (i : Nat) (hi : i < 32) : (madeCells #[.bool false, .int .i64 0, .int .i64 0, .int .i64 0] 32)[i]? = some (tcf Q0.th i) := by
  have h : i % 4 = 0 ∨ i % 4 = 1 ∨ i % 4 = 2 ∨ i % 4 = 3 := by omega
  rcases h with e | e | e | e <;> simp [madeCells, hi, tcf, e, Q0, enc]
theorem mnew_any (w : World) : Calls Try.prog 15 #[] w fun e w' => ∃ c g, e = .returned (.pointer (some ⟨c, 0, none⟩)) ∧ Rf w' c g Q0 ∧ Fr w w' (fun _ => False) ∧ w.heap.size ≤ c ∧ w.heap.size ≤ g := by
  have hz := zero40
  have hm := make38
  have r1 := row_new w (madeCells #[.bool false, .int .i64 0, .int .i64 0, .int .i64 0] 32) 43 32 (tcf Q0.th) (size_madeCells _ _) made32
  have r2 := row_new (w.alloc (.cells (madeCells #[.bool false, .int .i64 0, .int .i64 0, .int .i64 0] 32) 43)) #[.int .i64 1, .slice (some ⟨w.heap.size, 0, none⟩) 8 8, .bool false] 40 3 (hd3 1 w.heap.size false) rfl (fun i hi => by match i, hi with | 0, _ => rfl | 1, _ => rfl | 2, _ => rfl)
  rw [World.size_alloc] at r2
  have HR := Lib.hid (Rf.mk (q := Q0) r2 (r1.alloc _) (by omega))
  clear r1 r2
  go_enter Try.func15, Try.ntmps15
  go_wp2
  go_ret
  exact ⟨w.heap.size + 1, w.heap.size, rfl, HR.out, (fr_alloc _ _ _).trans' (fr_alloc _ _ _), by omega, Nat.le_refl _⟩
section
variable {w w1 : World} {c g : Nat} {q : Q}
theorem change_no (h : Rf w c g q) (a d : Nat) (ha : q.now ≠ a) : Calls Try.prog 30 #[.pointer (some ⟨c, 0, none⟩), .int .i64 a, .int .i64 d] w fun e w' => e = .returned (.bool false) ∧ w' = w := by
  have c0 := h.c0
  have hb : ((q.now : Int) == a) = false := by simp; omega
  clear h ha
  generalize (q.now : Int) = n at *
  go_enter Try.func30, Try.ntmps30
  go_wp2
  go_ret
  exact ⟨rfl, rfl⟩
theorem change_yes (h : Rf w c g q) (a d : Nat) (ha : q.now = a) : Calls Try.prog 30 #[.pointer (some ⟨c, 0, none⟩), .int .i64 a, .int .i64 d] w fun e w' => e = .returned (.bool true) ∧ w' = w.setCell ⟨c, 0, none⟩ (.int .i64 d) := by
  have c0 := h.c0
  have f0 := h.fc 0
  rw [ha] at c0
  clear h ha
  go_enter Try.func30, Try.ntmps30
  go_wp2
  go_ret
  exact ⟨rfl, rfl⟩
end
end Go.Proofs.Ytildpjgjnfiihaa
