/- The deque: its blocks; place, win, over. -/
import Derived.Test.YtldobbdaokjgaaaK
namespace Go.Proofs.Ytldobbdaokjgaaa
open Go.RowKit
set_option linter.unusedVariables false
set_option linter.unusedSimpArgs false
/-- nothing old turned outside S -/
structure Fr (w w' : World) (S : Nat → Prop) : Prop where
  os : w'.os = w.os
  tape : w'.tape = w.tape
  output : w'.output = w.output
  size : w.heap.size ≤ w'.heap.size
  block : ∀ k, k < w.heap.size → ¬ S k → w'.heap[k]? = w.heap[k]?
theorem Fr.refl (w : World) (S : Nat → Prop) : Fr w w S := ⟨rfl, rfl, rfl, Nat.le_refl _, fun _ _ _ => rfl⟩
theorem Fr.trans' {x y z : World} {S : Nat → Prop} (h : Fr x y S) (g : Fr y z S) : Fr x z S :=
  ⟨g.os.trans h.os, g.tape.trans h.tape, g.output.trans h.output, Nat.le_trans h.size g.size, fun k hk n => (g.block k (Nat.lt_of_lt_of_le hk h.size) n).trans (h.block k hk n)⟩
theorem Fr.below {x y : World} {S : Nat → Prop} (h : Fr x y S) {n : Nat} (hn : n ≤ x.heap.size) (hS : ∀ k, S k → n ≤ k) : Below n x y :=
  ⟨h.os, h.tape, h.output, h.size, fun k hk => h.block k (by omega) (fun s => by have := hS k s; omega)⟩
theorem fr_set (w : World) (S : Nat → Prop) (b o : Nat) (v : Value) (h : S b) : Fr w (w.setCell ⟨b, o, none⟩ v) S :=
  ⟨rfl, rfl, rfl, by simp [World.setCell], fun k hk n => Below.heap_setCell _ _ _ _ (fun e => n (by have e' : k = b := e; rw [e']; exact h))⟩
theorem fr_alloc (w : World) (S : Nat → Prop) (o : Obj) : Fr w (w.alloc o) S := ⟨rfl, rfl, rfl, by simp, fun k hk _ => Below.heap_alloc w o k hk⟩
theorem fr_drew (w : World) (S : Nat → Prop) : Fr w w.drew S := ⟨rfl, rfl, rfl, Nat.le_refl _, fun _ _ _ => rfl⟩
theorem fr_drewN (w : World) (S : Nat → Prop) (n : Nat) : Fr w (w.drewN n) S := ⟨rfl, rfl, rfl, Nat.le_refl _, fun _ _ _ => rfl⟩
theorem row_fr {w w' : World} {S : Nat → Prop} {k : Nat} {t : TypeId} {n : Nat} {f : Nat → Value} (h : w.rowIs k t n f) (g : Fr w w' S) (hk : ¬ S k) : w'.rowIs k t n f := h.of_block (g.block k h.lt hk)
theorem fr_b (w : World) (b o : Nat) (v : Value) : Fr w (w.setCell ⟨b, o, none⟩ v) (fun k => k = b) := fr_set w _ b o v rfl
/-- a thread's next access, by the number of its function -/
inductive Nx where
  | no | a33 | a34 | a35 | a37 | a38 | a39 | a41 | a42 | a43 | a44 | a45 | a46 | a47 | a48
deriving DecidableEq
def fnv (n : Nat) : Value := .func (.func n) #[] #[]
def fv : Nx → Value
  | .no => .nilFunc | .a33 => fnv 33 | .a34 => fnv 34 | .a35 => fnv 35 | .a37 => fnv 37 | .a38 => fnv 38 | .a39 => fnv 39 | .a41 => fnv 41 | .a42 => fnv 42 | .a43 => fnv 43 | .a44 => fnv 44 | .a45 => fnv 45 | .a46 => fnv 46 | .a47 => fnv 47 | .a48 => fnv 48
structure T where
  nx : Nx := .no
  v : Int := 0
  t : Int := 0
  b : Int := 0
  win : Bool := false
structure Q where
  top : Int
  bot : Int
  n : Nat
  pl : Nat → Int
  th : Nat → T
def Q.setT (q : Q) (k : Nat) (x : T) : Q := { top := q.top, bot := q.bot, n := q.n, pl := q.pl, th := fun j => if j = k then x else q.th j }
def tcell (x : T) (i : Nat) : Value := if i = 0 then fv x.nx else if i = 1 then .int .i64 x.v else if i = 2 then .int .i64 x.t else if i = 3 then .int .i64 x.b else .bool x.win
def dqf (top bot : Int) (n p : Nat) (th : Nat → T) (j : Nat) : Value := if j = 0 then .int .i64 top else if j = 1 then .int .i64 bot else if j = 2 then .slice (some ⟨p, 0, none⟩) n n else tcell (th ((j - 3) / 5)) ((j - 3) % 5)
structure Dq (w : World) (b p : Nat) (q : Q) : Prop where
  s : w.rowIs b 68 43 (dqf q.top q.bot q.n p q.th)
  t : w.rowIs p 2 q.n (fun j => .int .i64 (q.pl j))
  ne : b ≠ p
  n1 : 1 ≤ q.n
  n2 : q.n ≤ 64
def S2 (b p : Nat) (k : Nat) : Prop := k = b ∨ k = p
section
variable {w w1 : World} {b p : Nat} {q : Q}
theorem Dq.frame (h : Dq w b p q) {S : Nat → Prop} (f : Fr w w1 S) (hb : ¬ S b) (hp : ¬ S p) : Dq w1 b p q := { h with s := row_fr h.s f hb, t := row_fr h.t f hp }
theorem Dq.below (h : Dq w b p q) (f : Below w.heap.size w w1) : Dq w1 b p q := { h with s := row_below h.s f h.s.lt, t := row_below h.t f h.t.lt }
theorem Dq.same (h : Dq w b p q) (e : w1.heap = w.heap) : Dq w1 b p q := { h with s := h.s.of_block (by rw [e]), t := h.t.of_block (by rw [e]) }
theorem Dq.alloc (h : Dq w b p q) (o : Obj) : Dq (w.alloc o) b p q := { h with s := h.s.alloc o, t := h.t.alloc o }
theorem Dq.drew (h : Dq w b p q) : Dq w.drew b p q := { h with s := h.s, t := h.t }
theorem Dq.drewN (h : Dq w b p q) (m : Nat) : Dq (w.drewN m) b p q := { h with s := h.s, t := h.t }
theorem Dq.c0 (h : Dq w b p q) : w.cell? ⟨b, 0, none⟩ = some (.int .i64 q.top) := row_val h.s (by omega) rfl
theorem Dq.c1 (h : Dq w b p q) : w.cell? ⟨b, 1, none⟩ = some (.int .i64 q.bot) := row_val h.s (by omega) rfl
theorem Dq.c2 (h : Dq w b p q) : w.cell? ⟨b, 2, none⟩ = some (.slice (some ⟨p, 0, none⟩) q.n q.n) := row_val h.s (by omega) rfl
theorem Dq.cp (h : Dq w b p q) (i : Nat) (hi : i < q.n) : w.cell? ⟨p, i, none⟩ = some (.int .i64 (q.pl i)) := row_val h.t hi rfl
theorem Dq.fb (h : Dq w b p q) (i : Nat) : w.frozen? ⟨b, i, none⟩ = false := World.rowIs.frozen h.s i
theorem Dq.fp (h : Dq w b p q) (i : Nat) : w.frozen? ⟨p, i, none⟩ = false := World.rowIs.frozen h.t i
theorem Dq.ct (h : Dq w b p q) (k : Nat) (hk : k < 8) (i : Nat) (hi : i < 5) : w.cell? ⟨b, 3 + k * 5 + i, none⟩ = some (tcell (q.th k) i) := by
  refine row_val h.s (by omega) ?_
  unfold dqf
  rw [if_neg (by omega), if_neg (by omega), if_neg (by omega), show (3 + k * 5 + i - 3) / 5 = k by omega, show (3 + k * 5 + i - 3) % 5 = i by omega]
theorem Dq.t0 (h : Dq w b p q) (k : Nat) (hk : k < 8) : w.cell? ⟨b, 3 + k * 5, none⟩ = some (fv (q.th k).nx) := h.ct k hk 0 (by omega)
theorem Dq.t1 (h : Dq w b p q) (k : Nat) (hk : k < 8) : w.cell? ⟨b, 3 + k * 5 + 1, none⟩ = some (.int .i64 (q.th k).v) := h.ct k hk 1 (by omega)
theorem Dq.t2 (h : Dq w b p q) (k : Nat) (hk : k < 8) : w.cell? ⟨b, 3 + k * 5 + 2, none⟩ = some (.int .i64 (q.th k).t) := h.ct k hk 2 (by omega)
theorem Dq.t3 (h : Dq w b p q) (k : Nat) (hk : k < 8) : w.cell? ⟨b, 3 + k * 5 + 3, none⟩ = some (.int .i64 (q.th k).b) := h.ct k hk 3 (by omega)
theorem Dq.t4 (h : Dq w b p q) (k : Nat) (hk : k < 8) : w.cell? ⟨b, 3 + k * 5 + 4, none⟩ = some (.bool (q.th k).win) := h.ct k hk 4 (by omega)
theorem Dq.setTop (h : Dq w b p q) (x : Int) : Dq (w.setCell ⟨b, 0, none⟩ (.int .i64 x)) b p { top := x, bot := q.bot, n := q.n, pl := q.pl, th := q.th } := by
  refine { h with s := (h.s.set 0 _).congr (fun j hj => ?_), t := row_fr h.t (fr_b w b 0 _) (Ne.symm h.ne) }
  unfold dqf
  by_cases e : j = 0
  · rw [if_pos e, if_pos e]
  · rw [if_neg e, if_neg e, if_neg e]
theorem Dq.setBot (h : Dq w b p q) (x : Int) : Dq (w.setCell ⟨b, 1, none⟩ (.int .i64 x)) b p { top := q.top, bot := x, n := q.n, pl := q.pl, th := q.th } := by
  refine { h with s := (h.s.set 1 _).congr (fun j hj => ?_), t := row_fr h.t (fr_b w b 1 _) (Ne.symm h.ne) }
  unfold dqf
  by_cases e : j = 1
  · rw [if_pos e, if_neg (by omega), if_pos e]
  · rw [if_neg e, if_neg e, if_neg e]
theorem Dq.setPl (h : Dq w b p q) (i : Nat) (x : Int) : Dq (w.setCell ⟨p, i, none⟩ (.int .i64 x)) b p { top := q.top, bot := q.bot, n := q.n, pl := fun j => if j = i then x else q.pl j, th := q.th } := by
  refine { h with s := row_fr h.s (fr_b w p i _) h.ne, t := (h.t.set i _).congr (fun j hj => ?_) }
  dsimp only
  split <;> rfl
/-- a field of a thread -/
theorem Dq.setF (h : Dq w b p q) (k i : Nat) (hk : k < 8) (hi : i < 5) (x : T) (v : Value) (hv : v = tcell x i) (he : ∀ j, j < 5 → j ≠ i → tcell x j = tcell (q.th k) j) : Dq (w.setCell ⟨b, 3 + k * 5 + i, none⟩ v) b p (q.setT k x) := by
  subst hv
  refine { h with s := (h.s.set _ _).congr (fun j hj => ?_), t := row_fr h.t (fr_b w b _ _) (Ne.symm h.ne) }
  unfold dqf Q.setT
  dsimp only
  by_cases e : j = 3 + k * 5 + i
  · subst e
    rw [if_pos rfl, if_neg (by omega), if_neg (by omega), if_neg (by omega), show (3 + k * 5 + i - 3) / 5 = k by omega, show (3 + k * 5 + i - 3) % 5 = i by omega, if_pos rfl]
  · rw [if_neg e]
    by_cases e0 : j = 0
    · rw [if_pos e0, if_pos e0]
    · by_cases e1 : j = 1
      · rw [if_neg e0, if_pos e1, if_neg e0, if_pos e1]
      · by_cases e2 : j = 2
        · rw [if_neg e0, if_neg e1, if_pos e2, if_neg e0, if_neg e1, if_pos e2]
        · rw [if_neg e0, if_neg e1, if_neg e2, if_neg e0, if_neg e1, if_neg e2]
          by_cases ek : (j - 3) / 5 = k
          · rw [if_pos ek, ek]
            exact (he _ (by omega) (by omega)).symm
          · rw [if_neg ek]
end
theorem neg_lt_tmod (x : Int) (n : Int) (h : 0 < n) : -n < x.tmod n := by
  have h1 := Int.tmod_lt_of_pos (-x) h
  rw [Int.neg_tmod] at h1
  omega
/-- the place of a number -/
def plc (x : Int) (n : Nat) : Nat := ((x.tmod n + n).tmod n).toNat
theorem plc_lt (x : Int) (n : Nat) (h : 1 ≤ n) : plc x n < n := by
  unfold plc
  have h4 := Int.tmod_lt_of_pos (x.tmod n + n) (show (0 : Int) < n by omega)
  omega
theorem plc_eq (x : Int) (n : Nat) (h : 1 ≤ n) : (x.tmod n + n).tmod n = (plc x n : Int) := by
  unfold plc
  have h1 := neg_lt_tmod x n (by omega)
  have h3 := Int.tmod_nonneg (n : Int) (show (0 : Int) ≤ x.tmod n + n by omega)
  omega
theorem tmod_b (x : Int) (n : Nat) (h : 1 ≤ n) : -(n : Int) < x.tmod n ∧ x.tmod n < n := ⟨neg_lt_tmod x n (by omega), Int.tmod_lt_of_pos x (by omega)⟩
theorem zero34 (w : World) : (zeroValue 34).run Try.prog w = .ok (.agg #[.bool false, .int .i64 0, .int .i64 0, .int .i64 0]) w := by kernel_rfl
theorem zero65 (w : World) : (zeroValue 65).run Try.prog w = .ok (.agg #[.nilFunc, .int .i64 0, .int .i64 0, .int .i64 0, .bool false]) w := by kernel_rfl
section
variable {w w1 : World} {b p : Nat} {q : Q}
theorem over_any (o v e : Int) (w : World) : Calls Try.prog 40 #[.int .i64 o, .int .i64 v, .int .i64 e] w fun r w' => r = .returned (.tuple #[.nilFunc, .agg #[.bool true, .int .i64 o, .int .i64 v, .int .i64 e]]) ∧ w' = w.alloc (.cells #[.bool true, .int .i64 o, .int .i64 v, .int .i64 e] 34) := by
  have hz := zero34
  go_enter Try.func40, Try.ntmps40
  go_wp2
  go_returns
  exact ⟨rfl, rfl⟩
set_option maxHeartbeats 1000000 in
theorem place_any (h : Dq w b p q) (x : Int) : Calls Try.prog 27 #[.pointer (some ⟨b, 0, none⟩), .int .i64 x] w fun r w' => r = .returned (.pointer (some ⟨p, plc x q.n, none⟩)) ∧ ∃ m, w' = w.drewN m := by
  have c2 := h.c2
  have n1 := h.n1
  have n2 := h.n2
  have hlt := plc_lt x q.n n1
  have heq := plc_eq x q.n n1
  obtain ⟨b1, b2⟩ := tmod_b x q.n n1
  clear h
  generalize q.n = N at *
  have hw1 : IntKind.i64.wrap (x.tmod N) = x.tmod N := IntWalk.i64_in _ (by omega)
  have hw2 : IntKind.i64.wrap (x.tmod N + N) = x.tmod N + N := IntWalk.i64_in _ (by omega)
  have hw3 : IntKind.i64.wrap ((x.tmod N + N).tmod N) = (plc x N : Int) := by rw [heq]; exact IntWalk.i64_in _ (by omega)
  have hz : ((N : Int) == 0) = false := by simp; omega
  have hl : ((plc x N : Nat) : Int) < N := by omega
  have hN0 : ¬ (N = 0) := by omega
  have HW := Lib.hid (And.intro b1 b2)
  clear b1 b2 hw3
  generalize plc x N = P at *
  go_enter Try.func27, Try.ntmps27
  go_wp2
  go_quiet (fail)
  go_wp2
  go_ret
  exact ⟨rfl, _, rfl⟩
set_option maxHeartbeats 1000000 in
theorem win_yes (h : Dq w b p q) (k : Nat) (hk : k < 8) (e : q.top = (q.th k).t) : Calls Try.prog 49 #[.pointer (some ⟨b, 0, none⟩), .pointer (some ⟨b, 3 + k * 5, none⟩)] w fun r w' => r = .returned (.bool true) ∧ ∃ m, w' = (w.drewN m).setCell ⟨b, 0, none⟩ (.int .i64 (wrap64 (q.top + 1))) := by
  have c0 := h.c0
  have t2 := h.t2 k hk
  have f0 := h.fb 0
  rw [← e] at t2
  clear h e
  generalize q.top = tp at *
  go_enter Try.func49, Try.ntmps49
  go_wp2
  go_quiet (fail)
  go_wp2
  go_ret
  exact ⟨rfl, _, rfl⟩
set_option maxHeartbeats 1000000 in
theorem win_no (h : Dq w b p q) (k : Nat) (hk : k < 8) (e : q.top ≠ (q.th k).t) : Calls Try.prog 49 #[.pointer (some ⟨b, 0, none⟩), .pointer (some ⟨b, 3 + k * 5, none⟩)] w fun r w' => r = .returned (.bool false) ∧ ∃ m, w' = w.drewN m := by
  have c0 := h.c0
  have t2 := h.t2 k hk
  have f0 := h.fb 0
  clear h
  generalize q.top = tp at *
  generalize (q.th k).t = tt at *
  have hb : (tp != tt) = true := by simp; exact e
  clear e
  go_enter Try.func49, Try.ntmps49
  go_wp2
  go_quiet (fail)
  go_wp2
  go_ret
  exact ⟨rfl, _, rfl⟩
end
end Go.Proofs.Ytldobbdaokjgaaa
