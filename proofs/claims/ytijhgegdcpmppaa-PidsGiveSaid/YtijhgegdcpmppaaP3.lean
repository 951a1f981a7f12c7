/- The reference's table: the same record, in the reference's own blocks; what its methods come to. -/
import Derived.Test.YtijhgegdcpmppaaP2
namespace Go.Proofs.Ytijhgegdcpmppaa
open Go.RowKit
set_option linter.unusedVariables false
set_option linter.unusedSimpArgs false

namespace Tb
/-- the pid of a slot; 0: it is free -/
def pid (t : Tb) (s : Nat) : Int := if t.tk s then t.num s else 0
/-- the pids of the first n slots that are live -/
def pids (t : Tb) (n : Nat) : List Int := ((List.range n).filter t.tk).map t.num
theorem pids_succ (t : Tb) (n : Nat) : t.pids (n + 1) = if t.tk n then t.pids n ++ [t.num n] else t.pids n := by
  unfold pids; rw [List.range_succ, List.filter_append]
  cases h : t.tk n <;> simp [List.filter_cons, h]
theorem pids_le (t : Tb) (n : Nat) : (t.pids n).length ≤ n := by
  unfold pids; rw [List.length_map]
  have := List.length_filter_le t.tk (List.range n); simpa using this
theorem num_pos (t : Tb) (ok : t.Ok) (s : Nat) (hs : s < 32) : 1 ≤ t.num s ∧ t.num s ≤ 33554464 := by
  have := ok.g0 s hs; have := ok.g1 s hs; unfold num; omega
theorem at_num (t : Tb) (ok : t.Ok) (s : Nat) (hs : s < 32) : at_ (t.num s) = s := by
  have := ok.g0 s hs; unfold num at_; omega
theorem pid_has (t : Tb) (ok : t.Ok) (p : Int) (hp : p ≠ 0) (s : Nat) (hs : s < 32) (h : t.pid s = p) : t.has p = true ∧ at_ p = s := by
  unfold pid at h
  cases ht : t.tk s
  · rw [ht] at h; simp at h; exact absurd h.symm hp
  · rw [ht] at h; simp at h
    have e := t.at_num ok s hs
    rw [h] at e
    refine ⟨?_, e⟩
    unfold has; rw [e, ht, h]
    have := t.num_pos ok s hs
    simp; omega
theorem has_pid (t : Tb) (ok : t.Ok) (p : Int) (h : t.has p = true) : p ≠ 0 ∧ t.pid (at_ p) = p := by
  unfold has at h; simp at h
  exact ⟨by omega, by unfold pid; rw [if_pos h.2.1]; exact h.2.2⟩
end Tb

def Own (w : World) (B : Nat) (v : Value) (l : List Int) : Prop := w.ownsRow B 2 1 v l.length (l.map (Value.int .i64))

structure IsRf (w : World) (bm bp bg : Nat) (t : Tb) : Prop where
  m : w.rowIs bm 61 2 (fun i => if i = 0 then .slice (some ⟨bp, 0, none⟩) 32 32 else .slice (some ⟨bg, 0, none⟩) 32 32)
  p : w.rowIs bp 2 32 (fun s => .int .i64 (t.pid s))
  g : w.rowIs bg 2 32 (fun s => .int .i64 (t.gen s))
  mp : bm ≠ bp
  mg : bm ≠ bg
  pg : bp ≠ bg
theorem IsRf.c0 {w : World} {bm bp bg : Nat} {t : Tb} (h : IsRf w bm bp bg t) : w.cell? ⟨bm, 0, none⟩ = some (.slice (some ⟨bp, 0, none⟩) 32 32) := row_val h.m (by omega) rfl
theorem IsRf.c1 {w : World} {bm bp bg : Nat} {t : Tb} (h : IsRf w bm bp bg t) : w.cell? ⟨bm, 1, none⟩ = some (.slice (some ⟨bg, 0, none⟩) 32 32) := row_val h.m (by omega) rfl
theorem IsRf.below {w w' : World} {bm bp bg B : Nat} {t : Tb} (h : IsRf w bm bp bg t) (g : Below B w w') (h1 : bm < B) (h2 : bp < B) (h3 : bg < B) : IsRf w' bm bp bg t :=
  ⟨row_below h.m g h1, row_below h.p g h2, row_below h.g g h3, h.mp, h.mg, h.pg⟩
theorem IsRf.kept {w w' : World} {bm bp bg : Nat} {t : Tb} {r : Option Nat} (h : IsRf w bm bp bg t) (g : w.grownBy w' r) (h1 : some bm ≠ r) (h2 : some bp ≠ r) (h3 : some bg ≠ r) : IsRf w' bm bp bg t :=
  ⟨row_kept h.m g h1, row_kept h.p g h2, row_kept h.g g h3, h.mp, h.mg, h.pg⟩

/-- of what lay only blocks p and q may have changed -/
structure Fr2 (p q : Nat) (w w' : World) : Prop where
  os : w'.os = w.os
  tape : w'.tape = w.tape
  output : w'.output = w.output
  size : w.heap.size ≤ w'.heap.size
  block : ∀ k, k < w.heap.size → k ≠ p → k ≠ q → w'.heap[k]? = w.heap[k]?
theorem Fr2.below {p q B : Nat} {w w' : World} (h : Fr2 p q w w') (hB : B ≤ w.heap.size) (hp : B ≤ p) (hq : B ≤ q) : Below B w w' :=
  ⟨h.os, h.tape, h.output, h.size, fun k hk => h.block k (by omega) (by omega) (by omega)⟩

theorem info2 : (Try.prog.info? 2).map (fun i => (i.zero, i.size, i.bytes)) = some (some (.int .i64 0), 1, 8) := by kernel_rfl
def zeros32 : Array Value := madeCells #[.int .i64 0] 32
theorem rf_new (w : World) (Z : Array Value) (h1 : Z.size = 32) (h2 : ∀ i, i < 32 → Z[i]? = some (.int .i64 0)) :
    IsRf (((w.alloc (.cells Z 2)).alloc (.cells Z 2)).alloc (.cells #[.slice (some ⟨w.heap.size, 0, none⟩) 32 32, .slice (some ⟨w.heap.size + 1, 0, none⟩) 32 32] 61)).drew (w.heap.size + 1 + 1) w.heap.size (w.heap.size + 1) Tb.new := by
  refine ⟨?_, ?_, ?_, by omega, by omega, by omega⟩
  · have := row_new ((w.alloc (.cells Z 2)).alloc (.cells Z 2)) #[.slice (some ⟨w.heap.size, 0, none⟩) 32 32, .slice (some ⟨w.heap.size + 1, 0, none⟩) 32 32] 61 2 (fun i => if i = 0 then .slice (some ⟨w.heap.size, 0, none⟩) 32 32 else .slice (some ⟨w.heap.size + 1, 0, none⟩) 32 32) rfl (fun i hi => by
      match i, hi with
      | 0, _ => rfl
      | 1, _ => rfl)
    simp only [World.size_alloc] at this
    exact this
  · exact ((row_new w Z 2 32 _ h1 h2).alloc _).alloc _
  · have := (row_new (w.alloc (.cells Z 2)) Z 2 32 (fun _ => .int .i64 0) h1 h2).alloc (.cells #[.slice (some ⟨w.heap.size, 0, none⟩) 32 32, .slice (some ⟨w.heap.size + 1, 0, none⟩) 32 32] 61)
    simp only [World.size_alloc] at this
    exact this
theorem rf_new' (w : World) (Z : Array Value) (h1 : Z.size = 32) (h2 : ∀ i, i < 32 → Z[i]? = some (.int .i64 0)) :
    IsRf (((w.alloc (.cells Z 2)).alloc (.cells Z 2)).alloc (.cells #[.slice (some ⟨w.heap.size + 1, 0, none⟩) 32 32, .slice (some ⟨w.heap.size, 0, none⟩) 32 32] 61)).drew (w.heap.size + 1 + 1) (w.heap.size + 1) w.heap.size Tb.new := by
  refine ⟨?_, ?_, ?_, by omega, by omega, by omega⟩
  · have := row_new ((w.alloc (.cells Z 2)).alloc (.cells Z 2)) #[.slice (some ⟨w.heap.size + 1, 0, none⟩) 32 32, .slice (some ⟨w.heap.size, 0, none⟩) 32 32] 61 2 (fun i => if i = 0 then .slice (some ⟨w.heap.size + 1, 0, none⟩) 32 32 else .slice (some ⟨w.heap.size, 0, none⟩) 32 32) rfl (fun i hi => by
      match i, hi with
      | 0, _ => rfl
      | 1, _ => rfl)
    simp only [World.size_alloc] at this
    exact this
  · have := (row_new (w.alloc (.cells Z 2)) Z 2 32 (fun _ => .int .i64 0) h1 h2).alloc (.cells #[.slice (some ⟨w.heap.size + 1, 0, none⟩) 32 32, .slice (some ⟨w.heap.size, 0, none⟩) 32 32] 61)
    simp only [World.size_alloc] at this
    exact this
  · exact ((row_new w Z 2 32 _ h1 h2).alloc _).alloc _

set_option maxHeartbeats 1000000 in
theorem rnew_any (w : World) :
    Calls Try.prog 13 #[] w fun e w' => ∃ bm bp bg, e = .returned (.pointer (some ⟨bm, 0, none⟩)) ∧ IsRf w' bm bp bg Tb.new ∧ w.heap.size ≤ bm ∧ w.heap.size ≤ bp ∧ w.heap.size ≤ bg ∧ w.grownBy w' none := by
  have hmk : ∀ w, (Instr.makeSlice 39 (.int .i64 32) (.int .i64 32)).run Try.prog w = .ok (.slice (some ⟨w.heap.size, 0, none⟩) 32 32) (w.alloc (.cells zeros32 2)) :=
    fun w => run_make_row' (P := Try.prog) 39 2 (.int .i64 0) 8 Try.underlying39 info2 rfl .i64 .i64 32 (by decide) (by decide) w
  have hz : ∀ w, (zeroValue 61).run Try.prog w = .ok (.agg #[.slice none 0 0, .slice none 0 0]) w := fun w => by kernel_rfl
  go_enter Try.func13, Try.ntmps13
  go_wp2
  have hz32 : zeros32.size = 32 := by simp [zeros32, madeCells]
  have hzc : ∀ i, i < 32 → zeros32[i]? = some (.int .i64 0) := fun i hi => by simp [zeros32, madeCells, hi, Nat.mod_one]
  have HZ := Lib.hid (And.intro hz32 hzc)
  clear hz32 hzc
  go_region
  all_goals go_wp2
  all_goals go_ret
  · exact ⟨w.heap.size + 1 + 1, w.heap.size, w.heap.size + 1, rfl, rf_new w zeros32 HZ.out.1 HZ.out.2, by omega, by omega, by omega, gb_trans (gb_trans (gb_trans (gb_alloc _ _ _) (gb_alloc _ _ _)) (gb_alloc _ _ _)) (gb_drew _ _)⟩
  · exact ⟨w.heap.size + 1 + 1, w.heap.size + 1, w.heap.size, rfl, rf_new' w zeros32 HZ.out.1 HZ.out.2, by omega, by omega, by omega, gb_trans (gb_trans (gb_trans (gb_alloc _ _ _) (gb_alloc _ _ _)) (gb_alloc _ _ _)) (gb_drew _ _)⟩

def Miss (t : Tb) (p : Int) (n : Nat) : Prop := ∀ j, j < n → t.pid j ≠ p
theorem Miss.succ {t : Tb} {p : Int} {n : Nat} (h : Miss t p n) (e : (t.pid n == p) = false) : Miss t p (n + 1) := fun j hj => by
  by_cases e' : j = n
  · subst e'; simpa using e
  · exact h j (by omega)
theorem Miss.has {t : Tb} (ok : t.Ok) {p : Int} (h : Miss t p 32) : t.has p = false := by
  cases hh : t.has p
  · rfl
  · exact absurd (t.has_pid ok p hh).2 (h _ (Tb.at_lt p))

set_option maxHeartbeats 1000000 in
theorem rslot_pos (bm bp bg : Nat) (t : Tb) (p : Int) (w : World) (h : IsRf w bm bp bg t) (ok : t.Ok) (hp : (p != 0) = true) :
    Calls Try.prog 17 #[.pointer (some ⟨bm, 0, none⟩), .int .i64 p] w fun e w' => e = .returned (.tuple #[.int .i64 (t.slotV p), .bool (t.has p)]) ∧ w = w' := by
  have c0 := h.c0
  go_enter Try.func17, Try.ntmps17
  go_wp2
  go_loop [6] (fun k => ∃ n : Nat, n ≤ 32 ∧ k = .int .i64 n ∧ Miss t p n) (fun k => 32 - (intOf k).toNat)
  case atStart => exact ⟨0, by omega, rfl, fun j hj => by omega⟩
  case round =>
    obtain ⟨n, hn, rfl, hb⟩ := hrel
    by_cases hlt : n < 32
    · have c2 := h.p.cell hlt
      cases hq : (t.pid n == p)
      · go_wp2
        exact ⟨⟨n + 1, by omega, by go_num, hb.succ hq⟩, by simp [intOf]; omega⟩
      · go_wp2
        go_ret2
        have e := t.pid_has ok p (by simpa using hp) n hlt (by simpa using hq)
        exact ⟨rt2 (ri (by unfold Tb.slotV; rw [if_pos e.1, e.2])) (rb e.1.symm), rfl⟩
    · obtain rfl : n = 32 := by omega
      go_wp2
      go_ret2
      have e := hb.has ok
      exact ⟨rt2 (ri (by unfold Tb.slotV; rw [e]; rfl)) (rb e.symm), rfl⟩
set_option maxHeartbeats 1000000 in
theorem rslot_zero (bm : Nat) (w : World) :
    Calls Try.prog 17 #[.pointer (some ⟨bm, 0, none⟩), .int .i64 0] w fun e w' => e = .returned (.tuple #[.int .i64 0, .bool false]) ∧ w = w' := by
  go_enter Try.func17, Try.ntmps17
  go_wp2
  go_loop [6] (fun k => ∃ n : Nat, n ≤ 32 ∧ k = .int .i64 n) (fun k => 32 - (intOf k).toNat)
  case atStart => exact ⟨0, by omega, rfl⟩
  case round =>
    obtain ⟨n, hn, rfl⟩ := hrel
    by_cases hlt : n < 32
    · go_wp2
      exact ⟨⟨n + 1, by omega, by go_num⟩, by simp [intOf]; omega⟩
    · obtain rfl : n = 32 := by omega
      go_wp2
      go_ret2
      exact ⟨rfl, rfl⟩
theorem rslot_any (bm bp bg : Nat) (t : Tb) (p : Int) (w : World) (h : IsRf w bm bp bg t) (ok : t.Ok) :
    Calls Try.prog 17 #[.pointer (some ⟨bm, 0, none⟩), .int .i64 p] w fun e w' => e = .returned (.tuple #[.int .i64 (t.slotV p), .bool (t.has p)]) ∧ w = w' := by
  by_cases hp : p = 0
  · subst hp
    have e : t.has 0 = false := by unfold Tb.has; simp
    have e2 : t.slotV 0 = 0 := by unfold Tb.slotV; rw [e]; rfl
    rw [e, e2]; exact rslot_zero bm w
  · exact rslot_pos bm bp bg t p w h ok (by simpa using hp)

theorem free_pid (t : Tb) (ok : t.Ok) (s : Nat) (hs : s < 32) : ((t.pid s == 0) = true ↔ t.tk s = false) := by
  have := t.num_pos ok s hs
  unfold Tb.pid
  cases t.tk s
  · simp
  · simp; omega

theorem rallocT_is {w : World} {bm bp bg n : Nat} {t : Tb} (h : IsRf w bm bp bg t) (hn : n < 32) (hf : t.first = n) :
    IsRf (w.setCell ⟨bp, n, none⟩ (.int .i64 (32 * t.gen n + ↑n + 1))).drew bm bp bg t.allocT := by
  have e1 : t.allocT = { t with tk := fun s => if s = n then true else t.tk s, live := t.live + 1 } := by unfold Tb.allocT; rw [hf, if_pos hn]
  rw [e1]
  refine ⟨World.rowIs.drew (h.m.setOther h.mp _), World.rowIs.drew ((h.p.set _ _).congr (fun i hi => ?_)), World.rowIs.drew (h.g.setOther h.pg.symm _), h.mp, h.mg, h.pg⟩
  unfold Tb.pid Tb.num
  by_cases c : i = n
  · subst c; simp; omega
  · simp only [if_neg c]

set_option maxHeartbeats 1000000 in
theorem ralloc_any (bm bp bg : Nat) (t : Tb) (w : World) (h : IsRf w bm bp bg t) (ok : t.Ok) :
    Calls Try.prog 14 #[.pointer (some ⟨bm, 0, none⟩)] w fun e w' => e = .returned (.tuple #[.int .i64 t.allocV, .int .i64 t.allocE]) ∧ IsRf w' bm bp bg t.allocT ∧ Fr2 bp bg w w' := by
  have c0 := h.c0
  have c1 := h.c1
  have fp := h.p.frozen
  have nmp := h.mp
  go_enter Try.func14, Try.ntmps14
  go_wp2
  go_loop [4] (fun k => ∃ n : Nat, n ≤ 32 ∧ k = .int .i64 n ∧ Hid (∀ j, j < n → t.free j = false)) (fun k => 32 - (intOf k).toNat)
  case atStart => exact ⟨0, by omega, rfl, fun j hj => by omega⟩
  case round =>
    obtain ⟨n, hn, rfl, hb⟩ := hrel
    by_cases hlt : n < 32
    · have c2 := h.p.cell hlt
      have c3 := h.g.cell hlt
      have g0 := ok.g0 n hlt
      have g1 := ok.g1 n hlt
      cases hq : (t.pid n == 0)
      · have hf : Hid (t.free n = false) := Lib.hid (by
          unfold Tb.free; cases ht : t.tk n
          · have := (free_pid t ok n hlt).2 ht; rw [hq] at this; cases this
          · rfl)
        go_wp2
        exact ⟨⟨n + 1, by omega, by go_num, fun j hj => by by_cases e : j = n; (subst e; exact hf.out); exact hb.out j (by omega)⟩, by simp [intOf]; omega⟩
      · have ht := (free_pid t ok n hlt).1 hq
        by_cases hg : t.gen n < 1048576
        · have hf : Hid (t.free n = true) := Lib.hid (by unfold Tb.free; simp [ht, hg])
          have HT := Lib.hid ht
          clear ht
          go_wp2
          go_region
          all_goals go_wp2
          go_ret2
          have e := t.first_spec n hlt hf.out hb.out
          refine ⟨rt2 (ri ?_) (ri ?_), rallocT_is h hlt e, ⟨rfl, rfl, rfl, by simp [World.setCell], fun k hk n1 _ => Below.heap_setCell _ _ _ _ n1⟩⟩
          · unfold Tb.allocV Tb.num; rw [e, if_pos hlt]; show 32 * t.gen n + ↑n + 1 = _; omega
          · unfold Tb.allocE; rw [e, if_pos hlt]
        · have hf : Hid (t.free n = false) := Lib.hid (by unfold Tb.free; simp [hg])
          go_wp2
          exact ⟨⟨n + 1, by omega, by go_num, fun j hj => by by_cases e : j = n; (subst e; exact hf.out); exact hb.out j (by omega)⟩, by simp [intOf]; omega⟩
    · obtain rfl : n = 32 := by omega
      go_wp2
      go_ret2
      have e := t.first_none hb.out
      have e1 : t.allocT = t := by unfold Tb.allocT; rw [e]; rfl
      refine ⟨rt2 (ri ?_) (ri ?_), ?_, ⟨rfl, rfl, rfl, Nat.le_refl _, fun _ _ _ _ => rfl⟩⟩
      · unfold Tb.allocV; rw [e]; rfl
      · unfold Tb.allocE; rw [e]; rfl
      · rw [e1]; exact h

set_option maxHeartbeats 1000000 in
theorem rfree_raw (bm bp bg : Nat) (t : Tb) (p : Int) (w : World) (h : IsRf w bm bp bg t) (ok : t.Ok) (s : Nat) (hs : s < 32) (hg2 : t.gen s ≤ 1048575)
    (HS : ∀ w', w' = w → Calls Try.prog 17 #[.pointer (some ⟨bm, 0, none⟩), .int .i64 p] w' fun e w'' => e = .returned (.tuple #[.int .i64 s, .bool true]) ∧ w' = w'') :
    Calls Try.prog 16 #[.pointer (some ⟨bm, 0, none⟩), .int .i64 p] w fun e w' => e = .returned (.int .i64 0) ∧ w' = ((w.setCell ⟨bp, s, none⟩ (.int .i64 0)).setCell ⟨bg, s, none⟩ (.int .i64 (t.gen s + 1))) := by
  have H := Lib.hid HS
  have c0 := h.c0
  have c1 := h.c1
  have fp := h.p.frozen
  have fg := h.g.frozen
  have c2 := h.p.cell hs
  have c3 := h.g.cell hs
  have g0 := ok.g0 s hs
  have n1 := h.mp
  have n2 := h.mg
  have n3 := h.pg
  have n4 := h.pg.symm
  have n5 := h.mp.symm
  have n6 := h.mg.symm
  clear HS
  go_enter Try.func16, Try.ntmps16
  go_wp2_with (go_at_call 17; refine (H.out _ rfl).mono ?_; rintro e w' ⟨rfl, rfl⟩)
  go_ret; exact ⟨rfl, rfl⟩

theorem info2' : ∃ i0, Try.prog.info? 2 = some i0 ∧ i0.zero = some (.int .i64 0) ∧ i0.size = 1 ∧ i0.bytes = 8 := by
  obtain ⟨i0, hi, hz0, hz1, hz2⟩ := info_parts info2
  exact ⟨i0, hi, hz0, hz1, hz2⟩
set_option maxHeartbeats 1000000 in
theorem rall_any (bm bp bg : Nat) (t : Tb) (w : World) (h : IsRf w bm bp bg t) (ok : t.Ok) :
    Calls Try.prog 19 #[.pointer (some ⟨bm, 0, none⟩)] w fun e w' => ∃ v, e = .returned v ∧ Own w' w.heap.size v (t.pids 32) ∧ Below w.heap.size w w' := by
  obtain ⟨i0, hi, hz0, hz1, hz2⟩ := info2'
  go_enter Try.func19, Try.ntmps19
  go_wp2
  go_loopw [3, 4] (fun v k wr => ∃ n : Nat, n ≤ 32 ∧ k = .int .i64 n ∧ Own wr w.heap.size v (t.pids n) ∧ Below w.heap.size w wr) (fun v k wr => 32 - (intOf k).toNat)
  case atStart => exact ⟨0, by omega, rfl, World.ownsRow_nil _ _ _ _, Below.refl _ _⟩
  case round =>
    obtain ⟨n, hn, rfl, hown, hbl⟩ := hrel
    have hr : IsRf wr bm bp bg t := h.below hbl h.m.lt h.p.lt h.g.lt
    have c0 := hr.c0
    by_cases hlt : n < 32
    · have c2 := hr.p.cell hlt
      cases hq : (t.pid n == 0)
      · have hq2 : (t.pid n != 0) = true := by simpa using hq
        have hown2 : wr.ownsRow w.heap.size 2 1 u3 (t.pids n).length ((t.pids n).map (Value.int .i64)) := hown
        have hle := t.pids_le n
        have hsz := hbl.size
        have HB := Lib.hid hbl
        have HE : Hid (t.pids (n + 1) = t.pids n ++ [t.pid n]) := Lib.hid (by
          have e : t.tk n = true := by
            cases ht : t.tk n
            · have := (free_pid t ok n hlt).2 ht; rw [hq] at this; cases this
            · rfl
          rw [t.pids_succ, e]; simp [Tb.pid, e])
        clear hown hbl
        go_wp2_with (at_builtin; refine wpList_append_own _ rfl _ _ 39 rfl w.heap.size 2 i0 (.int .i64 0) 1 8 Try.underlying39 hi hz0 hz1 hz2 rfl (by decide) _ _ _ rfl (hown2.alloc _) ⟨wr.heap.size, 0, none⟩ 1 1 [.int .i64 (t.pid n)] rfl rfl (cell_one_new _ _ _) (by simp [Value.oneCell']) (by unfold maxLen; omega) (by omega) (by simp; omega) ?_; intro v' w1 hown1 hgrow _)
        have hg : (wr.alloc (.cells #[.int .i64 (t.pid n)] 2)).grownBy w1 u3.ownBlock := hgrow
        refine ⟨⟨n + 1, by omega, by go_num, ?_, below_append hown2 HB.out (Nat.le_refl _) hg⟩, by simp [intOf]; omega⟩
        show w1.ownsRow _ _ _ _ _ _
        rw [HE.out]; simpa using hown1
      · have hq2 : (t.pid n != 0) = false := by simpa using hq
        have HE : Hid (t.pids (n + 1) = t.pids n) := Lib.hid (by
          have e := (free_pid t ok n hlt).1 hq
          rw [t.pids_succ, e]; simp)
        go_wp2
        exact ⟨⟨n + 1, by omega, by go_num, by rw [HE.out]; exact hown, hbl⟩, by simp [intOf]; omega⟩
    · obtain rfl : n = 32 := by omega
      go_wp2
      go_ret
      exact ⟨_, rfl, hown, hbl⟩

theorem rfree_no (bm : Nat) (p : Int) (w : World)
    (HS : ∀ w', w' = w → Calls Try.prog 17 #[.pointer (some ⟨bm, 0, none⟩), .int .i64 p] w' fun e w'' => e = .returned (.tuple #[.int .i64 0, .bool false]) ∧ w' = w'') :
    Calls Try.prog 16 #[.pointer (some ⟨bm, 0, none⟩), .int .i64 p] w fun e w' => e = .returned (.int .i64 6) ∧ w = w' := by
  have H := Lib.hid HS
  clear HS
  go_enter Try.func16, Try.ntmps16
  go_wp2_with (go_at_call 17; refine (H.out _ rfl).mono ?_; rintro e w' ⟨rfl, rfl⟩)
  go_ret; exact ⟨rfl, rfl⟩

theorem rfree_any (bm bp bg : Nat) (t : Tb) (p : Int) (w : World) (h : IsRf w bm bp bg t) (ok : t.Ok) :
    Calls Try.prog 16 #[.pointer (some ⟨bm, 0, none⟩), .int .i64 p] w fun e w' => e = .returned (.int .i64 (t.freeE p)) ∧ IsRf w' bm bp bg (t.freeT p) ∧ Fr2 bp bg w w' := by
  have HS := rslot_any bm bp bg t p w h ok
  cases hh : t.has p
  · have e2 : t.slotV p = 0 := by unfold Tb.slotV; simp [hh]
    rw [hh, e2] at HS
    refine (rfree_no bm p w (fun w' e => e ▸ HS)).mono ?_
    rintro e w' ⟨rfl, rfl⟩
    refine ⟨by unfold Tb.freeE; simp [hh], ?_, ⟨rfl, rfl, rfl, Nat.le_refl _, fun _ _ _ _ => rfl⟩⟩
    have e1 : t.freeT p = t := by unfold Tb.freeT; simp [hh]
    rw [e1]; exact h
  · have e2 : t.slotV p = (Tb.at_ p : Int) := by unfold Tb.slotV; simp [hh]
    rw [hh, e2] at HS
    have ha := Tb.at_lt p
    have htk : t.tk (Tb.at_ p) = true := by unfold Tb.has at hh; simp at hh; exact hh.2.1
    refine (rfree_raw bm bp bg t p w h ok (Tb.at_ p) ha (by have := ok.g2 _ ha htk; omega) (fun w' e => e ▸ HS)).mono ?_
    rintro e w' ⟨rfl, rfl⟩
    refine ⟨by unfold Tb.freeE; simp [hh], ?_, ⟨rfl, rfl, rfl, by simp [World.setCell], fun k hk n1 n2 => (Below.heap_setCell _ _ _ _ n2).trans (Below.heap_setCell _ _ _ _ n1)⟩⟩
    have e1 : t.freeT p = ⟨fun s => if s = Tb.at_ p then t.gen s + 1 else t.gen s, fun s => if s = Tb.at_ p then false else t.tk s, t.live - 1⟩ := by unfold Tb.freeT; simp [hh]
    rw [e1]
    refine ⟨(h.m.setOther h.mp _).setOther h.mg _, ((h.p.set _ _).setOther h.pg _).congr (fun i hi => ?_), (((h.g.setOther h.pg.symm _)).set _ _).congr (fun i hi => ?_), h.mp, h.mg, h.pg⟩
    · unfold Tb.pid Tb.num
      by_cases c : i = Tb.at_ p
      · subst c; simp
      · simp only [if_neg c]
    · by_cases c : i = Tb.at_ p
      · subst c; simp
      · simp only [if_neg c]

/-! ### what is kept -/
theorem new_ok : Tb.new.Ok := ⟨fun _ _ => Int.le_refl _, fun _ _ => (by simp [Tb.new]), fun _ _ h => (by cases h), (by show (0 : Int) = ((List.range 32).countP (fun _ => false) : Nat); simp)⟩
theorem countP_upd (f : Nat → Bool) (n k : Nat) (hk : k < n) (b : Bool) :
    ((List.range n).countP (fun s => if s = k then b else f s)) + (if f k then 1 else 0) = (List.range n).countP f + (if b then 1 else 0) := by
  induction n with
  | zero => omega
  | succ n ih =>
    rw [List.range_succ, List.countP_append, List.countP_append]
    by_cases e : k = n
    · subst e
      have : (List.range k).countP (fun s => if s = k then b else f s) = (List.range k).countP f := by
        refine List.countP_congr (fun x hx => ?_)
        have := List.mem_range.1 hx
        rw [if_neg (by omega)]
      rw [this]
      simp [List.countP_cons]
      omega
    · have := ih (by omega)
      have e2 : ¬ n = k := fun h => e h.symm
      simp only [List.countP_cons, List.countP_nil, if_neg e2]
      omega
theorem alloc_ok (t : Tb) (ok : t.Ok) : t.allocT.Ok := by
  unfold Tb.allocT
  split
  · rename_i hlt
    have hf : t.free t.first = true := by
      unfold Tb.first at hlt ⊢
      cases hfi : (List.range 32).find? t.free with
      | none => rw [hfi] at hlt; simp at hlt
      | some k => simpa using List.find?_some hfi
    have h1 : t.tk t.first = false := by unfold Tb.free at hf; simp at hf; exact hf.1
    have h2 : t.gen t.first < 1048576 := by unfold Tb.free at hf; simp at hf; exact hf.2
    refine ⟨ok.g0, ok.g1, fun s hs hk => ?_, ?_⟩
    · by_cases e : s = t.first
      · subst e; exact h2
      · exact ok.g2 s hs (by simpa [e] using hk)
    · have := countP_upd t.tk 32 t.first hlt true
      rw [h1] at this
      have := ok.l
      simp at *
      omega
  · exact ok
theorem free_ok (t : Tb) (ok : t.Ok) (p : Int) : (t.freeT p).Ok := by
  unfold Tb.freeT
  split
  · rename_i hh
    have ha := Tb.at_lt p
    have htk : t.tk (Tb.at_ p) = true := by unfold Tb.has at hh; simp at hh; exact hh.2.1
    have hg := ok.g2 _ ha htk
    refine ⟨fun s hs => ?_, fun s hs => ?_, fun s hs hk => ?_, ?_⟩
    · have := ok.g0 s hs; show 0 ≤ (if s = Tb.at_ p then t.gen s + 1 else t.gen s); split <;> omega
    · have := ok.g1 s hs
      show (if s = Tb.at_ p then t.gen s + 1 else t.gen s) ≤ 1048576
      split
      · subst s; omega
      · omega
    · by_cases e : s = Tb.at_ p
      · simp [e] at hk
      · simp [e] at hk ⊢; exact ok.g2 s hs hk
    · have := countP_upd t.tk 32 (Tb.at_ p) ha false
      rw [htk] at this
      have := ok.l
      have := countP_pos t.tk _ ha htk
      simp at *
      omega
  · exact ok
theorem pids_len (t : Tb) (ok : t.Ok) : ((t.pids 32).length : Int) = t.live := by
  rw [ok.l]; unfold Tb.pids; rw [List.length_map, List.countP_eq_length_filter]
end Go.Proofs.Ytijhgegdcpmppaa
