/- The lot of workers: its blocks; bits. -/
import Derived.Test.YtpmkdhaponhacaaDoorK
import Derived.Shelf.Spec.TrailingZeros
import Derived.Laws.EntriesVeiled
namespace Go.Proofs.YtpmkdhaponhacaaDoor
open Go.RowKit
set_option linter.unusedVariables false
set_option linter.unusedSimpArgs false
/-- nothing old turned outside S -/
structure Fr (w w' : World) (S : Nat → Prop) : Prop where
  os : w'.os = w.os
  tape : w'.tape = w.tape
  output : w'.output = w.output
  size : w.heap.size ≤ w'.heap.size
  block : ∀ k, k < w.heap.size → ¬ S k → w'.heap[k]? = w.heap[k]?
theorem Fr.refl (w : World) (S : Nat → Prop) : Fr w w S := ⟨rfl, rfl, rfl, Nat.le_refl _, fun _ _ _ => rfl⟩
theorem Fr.trans' {x y z : World} {S : Nat → Prop} (h : Fr x y S) (g : Fr y z S) : Fr x z S :=
  ⟨g.os.trans h.os, g.tape.trans h.tape, g.output.trans h.output, Nat.le_trans h.size g.size, fun k hk n => (g.block k (Nat.lt_of_lt_of_le hk h.size) n).trans (h.block k hk n)⟩
theorem Fr.below {x y : World} {S : Nat → Prop} (h : Fr x y S) {n : Nat} (hn : n ≤ x.heap.size) (hS : ∀ k, S k → n ≤ k) : Below n x y :=
  ⟨h.os, h.tape, h.output, h.size, fun k hk => h.block k (by omega) (fun s => by have := hS k s; omega)⟩
theorem fr_set (w : World) (S : Nat → Prop) (b o : Nat) (v : Value) (h : S b) : Fr w (w.setCell ⟨b, o, none⟩ v) S :=
  ⟨rfl, rfl, rfl, by simp [World.setCell], fun k hk n => Below.heap_setCell _ _ _ _ (fun e => n (by have e' : k = b := e; rw [e']; exact h))⟩
theorem fr_alloc (w : World) (S : Nat → Prop) (o : Obj) : Fr w (w.alloc o) S := ⟨rfl, rfl, rfl, by simp, fun k hk _ => Below.heap_alloc w o k hk⟩
theorem fr_drew (w : World) (S : Nat → Prop) : Fr w w.drew S := ⟨rfl, rfl, rfl, Nat.le_refl _, fun _ _ _ => rfl⟩
theorem fr_drewN (w : World) (S : Nat → Prop) (n : Nat) : Fr w (w.drewN n) S := ⟨rfl, rfl, rfl, Nat.le_refl _, fun _ _ _ => rfl⟩
theorem row_fr {w w' : World} {S : Nat → Prop} {k : Nat} {t : TypeId} {n : Nat} {f : Nat → Value} (h : w.rowIs k t n f) (g : Fr w w' S) (hk : ¬ S k) : w'.rowIs k t n f := h.of_block (g.block k h.lt hk)
theorem fr_b (w : World) (b o : Nat) (v : Value) : Fr w (w.setCell ⟨b, o, none⟩ v) (fun k => k = b) := fr_set w _ b o v rfl
theorem Fr.cell {w w' : World} {S : Nat → Prop} (g : Fr w w' S) {p : Addr} (hp : p.block < w.heap.size) (hs : ¬ S p.block) : w'.cell? p = w.cell? p := by
  unfold World.cell?
  rw [g.block _ hp hs]
/-- a bit taken off -/
def clr (v k : Nat) : Nat := if v.testBit k = true then v - 2 ^ k else v
def bset (v k : Nat) : Nat := v ||| 2 ^ k
theorem and_bit : ∀ v : Nat, v < 256 → ∀ k : Nat, k < 8 → bits BinOp.and IntKind.u64 (v : Int) ((2 ^ k : Nat) : Int) = if v.testBit k = true then ((2 ^ k : Nat) : Int) else 0 := by decide +kernel
theorem or_bit : ∀ v : Nat, v < 256 → ∀ k : Nat, k < 8 → bits BinOp.or IntKind.u64 (v : Int) ((2 ^ k : Nat) : Int) = ((bset v k : Nat) : Int) := by decide +kernel
theorem clr_bit : ∀ v : Nat, v < 256 → ∀ k : Nat, k < 8 → bits BinOp.andNot IntKind.u64 (v : Int) ((2 ^ k : Nat) : Int) = ((clr v k : Nat) : Int) := by decide +kernel
theorem bset_at : ∀ v : Nat, v < 256 → ∀ k : Nat, k < 8 → ∀ j : Nat, j < 8 → (bset v k).testBit j = (decide (j = k) || v.testBit j) := by decide +kernel
theorem clr_at : ∀ v : Nat, v < 256 → ∀ k : Nat, k < 8 → ∀ j : Nat, j < 8 → (clr v k).testBit j = (!decide (j = k) && v.testBit j) := by decide +kernel
theorem bset_lt : ∀ v : Nat, v < 256 → ∀ k : Nat, k < 8 → bset v k < 256 := by decide +kernel
theorem clr_lt : ∀ v : Nat, v < 256 → ∀ k : Nat, k < 8 → clr v k < 256 := by decide +kernel
theorem ctz_at : ∀ v : Nat, v < 256 → v ≠ 0 → Lib.ctz 64 v < 8 ∧ v.testBit (Lib.ctz 64 v) = true ∧ ∀ j, j < 8 → j < Lib.ctz 64 v → v.testBit j = false := by decide +kernel
theorem zero_at : ∀ v : Nat, v < 256 → (∀ j, j < 8 → v.testBit j = false) → v = 0 := by decide +kernel
/-- the library's table, as far as it is read -/
def Tab (w : World) (g : Nat) : Prop := ∀ i, i < 64 → w.cell? ⟨g, i, none⟩ = some (.int .u8 ((Lib.deBruijn64tab.getD i 0 : Nat) : Int))
theorem tab_lt {w : World} {g : Nat} (h : Tab w g) : g < w.heap.size := by
  have h0 := h 0 (by omega)
  unfold World.cell? at h0
  by_cases hb : g < w.heap.size
  · exact hb
  · rw [Array.getElem?_eq_none (by simpa using hb)] at h0; cases h0
theorem tab_fr {w w' : World} {g : Nat} {S : Nat → Prop} (h : Tab w g) (f : Fr w w' S) (hg : ¬ S g) : Tab w' g := fun i hi => (f.cell (p := ⟨g, i, none⟩) (tab_lt h) hg).trans (h i hi)
theorem tab_below {w w' : World} {g : Nat} {n : Nat} (h : Tab w g) (f : Below n w w') (hg : g < n) : Tab w' g := fun i hi => (f.cell (p := ⟨g, i, none⟩) hg).trans (h i hi)
/-- a thread's next access, by the number of its function -/
inductive Nx where
  | no | a25 | a29 | a33 | a37 | a26 | a30 | a34 | a35 | a38 | a41 | a42
deriving DecidableEq
def fnv (n : Nat) : Value := .func (.func n) #[] #[]
def fv : Nx → Value
  | .no => .nilFunc | .a25 => fnv 25 | .a29 => fnv 29 | .a33 => fnv 33 | .a37 => fnv 37 | .a26 => fnv 26 | .a30 => fnv 30 | .a34 => fnv 34 | .a35 => fnv 35 | .a38 => fnv 38 | .a41 => fnv 41 | .a42 => fnv 42
structure T where
  nx : Nx := .no
  seq : Int := 0
  work : Int := 0
  who : Nat := 0
  pk : Bool := false
structure Q where
  work : Int
  seq : Int
  idle : Nat
  n : Nat
  th : Nat → T
def Q.setT (q : Q) (k : Nat) (x : T) : Q := { work := q.work, seq := q.seq, idle := q.idle, n := q.n, th := fun j => if j = k then x else q.th j }
def Q.setW (q : Q) (x : Int) : Q := { work := x, seq := q.seq, idle := q.idle, n := q.n, th := q.th }
def Q.setS (q : Q) (x : Int) : Q := { work := q.work, seq := x, idle := q.idle, n := q.n, th := q.th }
def Q.setI (q : Q) (x : Nat) : Q := { work := q.work, seq := q.seq, idle := x, n := q.n, th := q.th }
def tcell (k : Nat) (x : T) (i : Nat) : Value := if i = 0 then fv x.nx else if i = 1 then .int .u64 ((2 ^ k : Nat) : Int) else if i = 2 then .int .i64 x.seq else if i = 3 then .int .i64 x.work else if i = 4 then .int .i64 (x.who : Int) else .bool x.pk
def hdf (q : Q) (p : Nat) (j : Nat) : Value := if j = 0 then .int .i64 q.work else if j = 1 then .int .i64 q.seq else if j = 2 then .int .u64 (q.idle : Int) else .slice (some ⟨p, 0, none⟩) q.n q.n
def thf (th : Nat → T) (j : Nat) : Value := tcell (j / 6) (th (j / 6)) (j % 6)
structure Lq (w : World) (b p : Nat) (q : Q) : Prop where
  s : w.rowIs b 57 4 (hdf q p)
  t : w.rowIs p 61 (q.n * 6) (thf q.th)
  tab : Tab w 1
  ne : b ≠ p ∧ 1 ≠ b ∧ 1 ≠ p
  n1 : 2 ≤ q.n
  n2 : q.n ≤ 8
  i : q.idle < 256
def S2 (b p : Nat) (k : Nat) : Prop := k = b ∨ k = p
section
variable {w w1 : World} {b p : Nat} {q : Q}
theorem Lq.frame (h : Lq w b p q) {S : Nat → Prop} (f : Fr w w1 S) (hb : ¬ S b) (hp : ¬ S p) (hg : ¬ S 1) : Lq w1 b p q := { h with s := row_fr h.s f hb, t := row_fr h.t f hp, tab := tab_fr h.tab f hg }
theorem Lq.below (h : Lq w b p q) (f : Below w.heap.size w w1) : Lq w1 b p q := { h with s := row_below h.s f h.s.lt, t := row_below h.t f h.t.lt, tab := tab_below h.tab f (tab_lt h.tab) }
theorem Lq.alloc (h : Lq w b p q) (o : Obj) : Lq (w.alloc o) b p q := h.below ((Below.refl w.heap.size w).alloc (Nat.le_refl _) o)
theorem Lq.same (h : Lq w b p q) (e : w1.heap = w.heap) : Lq w1 b p q := { h with s := h.s.of_block (by rw [e]), t := h.t.of_block (by rw [e]), tab := fun i hi => by have := h.tab i hi; unfold World.cell? at *; rw [e]; exact this }
theorem Lq.drew (h : Lq w b p q) : Lq w.drew b p q := h.same rfl
theorem Lq.drewN (h : Lq w b p q) (m : Nat) : Lq (w.drewN m) b p q := h.same rfl
theorem Lq.c0 (h : Lq w b p q) : w.cell? ⟨b, 0, none⟩ = some (.int .i64 q.work) := row_val h.s (by omega) rfl
theorem Lq.c1 (h : Lq w b p q) : w.cell? ⟨b, 1, none⟩ = some (.int .i64 q.seq) := row_val h.s (by omega) rfl
theorem Lq.c2 (h : Lq w b p q) : w.cell? ⟨b, 2, none⟩ = some (.int .u64 (q.idle : Int)) := row_val h.s (by omega) rfl
theorem Lq.c3 (h : Lq w b p q) : w.cell? ⟨b, 3, none⟩ = some (.slice (some ⟨p, 0, none⟩) q.n q.n) := row_val h.s (by omega) rfl
theorem Lq.fb (h : Lq w b p q) (i : Nat) : w.frozen? ⟨b, i, none⟩ = false := World.rowIs.frozen h.s i
theorem Lq.fp (h : Lq w b p q) (i : Nat) : w.frozen? ⟨p, i, none⟩ = false := World.rowIs.frozen h.t i
theorem Lq.ct (h : Lq w b p q) (k : Nat) (hk : k < q.n) (i : Nat) (hi : i < 6) : w.cell? ⟨p, k * 6 + i, none⟩ = some (tcell k (q.th k) i) := by
  refine row_val h.t (by omega) ?_
  unfold thf
  rw [show (k * 6 + i) / 6 = k by omega, show (k * 6 + i) % 6 = i by omega]
theorem Lq.t0 (h : Lq w b p q) (k : Nat) (hk : k < q.n) : w.cell? ⟨p, k * 6, none⟩ = some (fv (q.th k).nx) := h.ct k hk 0 (by omega)
theorem Lq.t1 (h : Lq w b p q) (k : Nat) (hk : k < q.n) : w.cell? ⟨p, k * 6 + 1, none⟩ = some (.int .u64 ((2 ^ k : Nat) : Int)) := h.ct k hk 1 (by omega)
theorem Lq.t2 (h : Lq w b p q) (k : Nat) (hk : k < q.n) : w.cell? ⟨p, k * 6 + 2, none⟩ = some (.int .i64 (q.th k).seq) := h.ct k hk 2 (by omega)
theorem Lq.t3 (h : Lq w b p q) (k : Nat) (hk : k < q.n) : w.cell? ⟨p, k * 6 + 3, none⟩ = some (.int .i64 (q.th k).work) := h.ct k hk 3 (by omega)
theorem Lq.t4 (h : Lq w b p q) (k : Nat) (hk : k < q.n) : w.cell? ⟨p, k * 6 + 4, none⟩ = some (.int .i64 ((q.th k).who : Int)) := h.ct k hk 4 (by omega)
theorem Lq.t5 (h : Lq w b p q) (k : Nat) (hk : k < q.n) : w.cell? ⟨p, k * 6 + 5, none⟩ = some (.bool (q.th k).pk) := h.ct k hk 5 (by omega)
theorem Lq.sW (h : Lq w b p q) (x : Int) : Lq (w.setCell ⟨b, 0, none⟩ (.int .i64 x)) b p (q.setW x) :=
  { h with s := (h.s.set 0 _).congr (fun j hj => by match j, hj with | 0, _ => rfl | 1, _ => rfl | 2, _ => rfl | 3, _ => rfl), t := row_fr h.t (fr_b w b 0 _) (Ne.symm h.ne.1), tab := tab_fr h.tab (fr_b w b 0 _) h.ne.2.1 }
theorem Lq.sS (h : Lq w b p q) (x : Int) : Lq (w.setCell ⟨b, 1, none⟩ (.int .i64 x)) b p (q.setS x) :=
  { h with s := (h.s.set 1 _).congr (fun j hj => by match j, hj with | 0, _ => rfl | 1, _ => rfl | 2, _ => rfl | 3, _ => rfl), t := row_fr h.t (fr_b w b 1 _) (Ne.symm h.ne.1), tab := tab_fr h.tab (fr_b w b 1 _) h.ne.2.1 }
theorem Lq.sI (h : Lq w b p q) (x : Nat) (hx : x < 256) : Lq (w.setCell ⟨b, 2, none⟩ (.int .u64 (x : Int))) b p (q.setI x) :=
  { h with s := (h.s.set 2 _).congr (fun j hj => by match j, hj with | 0, _ => rfl | 1, _ => rfl | 2, _ => rfl | 3, _ => rfl), t := row_fr h.t (fr_b w b 2 _) (Ne.symm h.ne.1), tab := tab_fr h.tab (fr_b w b 2 _) h.ne.2.1, i := hx }
/-- a field of a thread -/
theorem Lq.setF (h : Lq w b p q) (k i : Nat) (hk : k < q.n) (hi : i < 6) (x : T) (v : Value) (hv : v = tcell k x i) (he : ∀ j, j < 6 → j ≠ i → tcell k x j = tcell k (q.th k) j) : Lq (w.setCell ⟨p, k * 6 + i, none⟩ v) b p (q.setT k x) := by
  subst hv
  refine { h with s := row_fr h.s (fr_b w p _ _) h.ne.1, t := (h.t.set _ _).congr (fun j hj => ?_), tab := tab_fr h.tab (fr_b w p _ _) h.ne.2.2 }
  unfold thf Q.setT
  dsimp only
  by_cases e : j = k * 6 + i
  · subst e
    rw [if_pos rfl, show (k * 6 + i) / 6 = k by omega, show (k * 6 + i) % 6 = i by omega, if_pos rfl]
  · rw [if_neg e]
    by_cases ek : j / 6 = k
    · rw [if_pos ek, ek]
      exact (he _ (by omega) (by omega)).symm
    · rw [if_neg ek]
def T.setN (x : T) (n : Nx) : T := { nx := n, seq := x.seq, work := x.work, who := x.who, pk := x.pk }
def T.setS (x : T) (n : Int) : T := { nx := x.nx, seq := n, work := x.work, who := x.who, pk := x.pk }
def T.setW (x : T) (n : Int) : T := { nx := x.nx, seq := x.seq, work := n, who := x.who, pk := x.pk }
def T.setK (x : T) (n : Nat) : T := { nx := x.nx, seq := x.seq, work := x.work, who := n, pk := x.pk }
def T.setP (x : T) (n : Bool) : T := { nx := x.nx, seq := x.seq, work := x.work, who := x.who, pk := n }
theorem Lq.fN (h : Lq w b p q) (k : Nat) (hk : k < q.n) (x : Nx) : Lq (w.setCell ⟨p, k * 6, none⟩ (fv x)) b p (q.setT k ((q.th k).setN x)) :=
  h.setF k 0 hk (by omega) _ _ rfl (fun j hj hn => by
    have : j = 1 ∨ j = 2 ∨ j = 3 ∨ j = 4 ∨ j = 5 := by omega
    rcases this with rfl | rfl | rfl | rfl | rfl <;> rfl)
theorem Lq.fS (h : Lq w b p q) (k : Nat) (hk : k < q.n) (x : Int) : Lq (w.setCell ⟨p, k * 6 + 2, none⟩ (.int .i64 x)) b p (q.setT k ((q.th k).setS x)) :=
  h.setF k 2 hk (by omega) _ _ rfl (fun j hj hn => by
    have : j = 0 ∨ j = 1 ∨ j = 3 ∨ j = 4 ∨ j = 5 := by omega
    rcases this with rfl | rfl | rfl | rfl | rfl <;> rfl)
theorem Lq.fW (h : Lq w b p q) (k : Nat) (hk : k < q.n) (x : Int) : Lq (w.setCell ⟨p, k * 6 + 3, none⟩ (.int .i64 x)) b p (q.setT k ((q.th k).setW x)) :=
  h.setF k 3 hk (by omega) _ _ rfl (fun j hj hn => by
    have : j = 0 ∨ j = 1 ∨ j = 2 ∨ j = 4 ∨ j = 5 := by omega
    rcases this with rfl | rfl | rfl | rfl | rfl <;> rfl)
theorem Lq.fK (h : Lq w b p q) (k : Nat) (hk : k < q.n) (x : Nat) : Lq (w.setCell ⟨p, k * 6 + 4, none⟩ (.int .i64 (x : Int))) b p (q.setT k ((q.th k).setK x)) :=
  h.setF k 4 hk (by omega) _ _ rfl (fun j hj hn => by
    have : j = 0 ∨ j = 1 ∨ j = 2 ∨ j = 3 ∨ j = 5 := by omega
    rcases this with rfl | rfl | rfl | rfl | rfl <;> rfl)
theorem Lq.fP (h : Lq w b p q) (k : Nat) (hk : k < q.n) (x : Bool) : Lq (w.setCell ⟨p, k * 6 + 5, none⟩ (.bool x)) b p (q.setT k ((q.th k).setP x)) :=
  h.setF k 5 hk (by omega) _ _ rfl (fun j hj hn => by
    have : j = 0 ∨ j = 1 ∨ j = 2 ∨ j = 3 ∨ j = 4 := by omega
    rcases this with rfl | rfl | rfl | rfl | rfl <;> rfl)
end
theorem setT_at (q : Q) (k : Nat) (x : T) : (q.setT k x).th k = x := if_pos rfl
theorem setT_ne (q : Q) (k j : Nat) (x : T) (h : j ≠ k) : (q.setT k x).th j = q.th j := if_neg h
theorem setT_setT (q : Q) (k : Nat) (x y : T) : (q.setT k x).setT k y = q.setT k y := by
  unfold Q.setT
  congr 1
  funext j
  by_cases e : j = k
  · rw [if_pos e, if_pos e]
  · rw [if_neg e, if_neg e]; exact if_neg e
end Go.Proofs.YtpmkdhaponhacaaDoor
