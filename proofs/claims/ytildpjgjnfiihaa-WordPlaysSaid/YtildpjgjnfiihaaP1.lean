/- The word: its block, and what each access is. -/
import Derived.Test.YtildpjgjnfiihaaK
namespace Go.Proofs.Ytildpjgjnfiihaa
open Go.RowKit
set_option linter.unusedVariables false
set_option linter.unusedSimpArgs false
/-- nothing old turned outside S -/
structure Fr (w w' : World) (S : Nat → Prop) : Prop where
  os : w'.os = w.os
  tape : w'.tape = w.tape
  output : w'.output = w.output
  size : w.heap.size ≤ w'.heap.size
  block : ∀ k, k < w.heap.size → ¬ S k → w'.heap[k]? = w.heap[k]?
theorem Fr.refl (w : World) (S : Nat → Prop) : Fr w w S := ⟨rfl, rfl, rfl, Nat.le_refl _, fun _ _ _ => rfl⟩
theorem Fr.trans' {x y z : World} {S : Nat → Prop} (h : Fr x y S) (g : Fr y z S) : Fr x z S :=
  ⟨g.os.trans h.os, g.tape.trans h.tape, g.output.trans h.output, Nat.le_trans h.size g.size, fun k hk n => (g.block k (Nat.lt_of_lt_of_le hk h.size) n).trans (h.block k hk n)⟩
theorem Fr.below {x y : World} {S : Nat → Prop} (h : Fr x y S) {n : Nat} (hn : n ≤ x.heap.size) (hS : ∀ k, S k → n ≤ k) : Below n x y :=
  ⟨h.os, h.tape, h.output, h.size, fun k hk => h.block k (by omega) (fun s => by have := hS k s; omega)⟩
theorem fr_set (w : World) (S : Nat → Prop) (b o : Nat) (v : Value) (h : S b) : Fr w (w.setCell ⟨b, o, none⟩ v) S :=
  ⟨rfl, rfl, rfl, by simp [World.setCell], fun k hk n => Below.heap_setCell _ _ _ _ (fun e => n (by have e' : k = b := e; rw [e']; exact h))⟩
theorem fr_alloc (w : World) (S : Nat → Prop) (o : Obj) : Fr w (w.alloc o) S := ⟨rfl, rfl, rfl, by simp, fun k hk _ => Below.heap_alloc w o k hk⟩
theorem fr_drew (w : World) (S : Nat → Prop) : Fr w w.drew S := ⟨rfl, rfl, rfl, Nat.le_refl _, fun _ _ _ => rfl⟩
theorem fr_drewN (w : World) (S : Nat → Prop) (n : Nat) : Fr w (w.drewN n) S := ⟨rfl, rfl, rfl, Nat.le_refl _, fun _ _ _ => rfl⟩
theorem row_fr {w w' : World} {S : Nat → Prop} {k : Nat} {t : TypeId} {n : Nat} {f : Nat → Value} (h : w.rowIs k t n f) (g : Fr w w' S) (hk : ¬ S k) : w'.rowIs k t n f := h.of_block (g.block k h.lt hk)
/-- a thread's next access -/
inductive Nx where
  | no | look | wk (c : Bool) | start | sleep | goes | yield | die
deriving DecidableEq
structure Q where
  now : Nat
  held : Bool
  th : Nat → Nx
def Q.set (q : Q) (k : Nat) (x : Nx) : Q := { now := q.now, held := q.held, th := fun j => if j = k then x else q.th j }
structure A where
  now : Nat
  held : Bool
  nx : Nx
  what : Int
def act (now : Nat) (held : Bool) : Nx → A
  | .no => ⟨now, held, .no, 0⟩
  | .look => if now = 0 then ⟨now, held, .wk false, -1⟩ else if now = 2 then ⟨now, held, .wk true, -1⟩ else ⟨now, held, .no, 0⟩
  | .wk false => if now = 0 then ⟨1, held, .no, 1⟩ else ⟨now, held, .look, -1⟩
  | .wk true => if now = 2 then ⟨3, held, .no, 0⟩ else ⟨now, held, .look, -1⟩
  | .start => if now = 1 then ⟨2, true, .no, 0⟩ else ⟨now, held, .no, 3⟩
  | .sleep => if now = 2 then ⟨0, false, .no, 0⟩ else ⟨now, held, .goes, -1⟩
  | .goes => if now = 3 then ⟨2, held, .no, 2⟩ else ⟨now, held, .no, 3⟩
  | .yield => if now = 2 then ⟨1, false, .no, 1⟩ else if now = 3 then ⟨1, false, .no, 1⟩ else ⟨now, false, .no, 3⟩
  | .die => ⟨4, false, .no, 0⟩
def fnv (n : Nat) : Value := .func (.func n) #[] #[]
def pv (b : Nat) : Value := .pointer (some ⟨b, 0, none⟩)
def Cel (w : World) (b c : Nat) (x : Int) : Prop := c ≠ b ∧ w.rowIs c 3 1 (fun _ => .int .i64 x)
/-- what lies in a thread's cell -/
def Stc (w : World) (b : Nat) (v : Value) : Nx → Prop
  | .no => v = .nilFunc
  | .look => v = fnv 25
  | .wk c => ∃ b1 b2 b3, v = .func (.func 34) #[] #[pv b1, pv b2, pv b3] ∧ Cel w b b1 (if c = true then 2 else 0) ∧ Cel w b b2 (if c = true then 3 else 1) ∧ Cel w b b3 (if c = true then 0 else 1)
  | .start => v = fnv 26
  | .sleep => v = fnv 27
  | .goes => v = fnv 33
  | .yield => v = fnv 28
  | .die => v = fnv 29
structure Wb (w : World) (b now : Nat) (held : Bool) (f : Nat → Value) : Prop where
  s : w.rowIs b 56 10 f
  f0 : f 0 = .int .i64 now
  f1 : f 1 = .bool held
structure Ww (w : World) (b : Nat) (q : Q) (f : Nat → Value) : Prop where
  h : Wb w b q.now q.held f
  t : ∀ k, k < 8 → Stc w b (f (2 + k)) (q.th k)
section
variable {w w1 : World} {b now : Nat} {held : Bool} {f : Nat → Value} {v : Value} {x : Nx} {q : Q}
theorem Cel.fr {c : Nat} {y : Int} (h : Cel w b c y) (g : Fr w w1 (fun k => k = b)) : Cel w1 b c y := ⟨h.1, row_fr h.2 g h.1⟩
theorem Stc.fr (h : Stc w b v x) (g : Fr w w1 (fun k => k = b)) : Stc w1 b v x := by
  cases x with
  | wk c =>
    obtain ⟨b1, b2, b3, e, h1, h2, h3⟩ := h
    exact ⟨b1, b2, b3, e, h1.fr g, h2.fr g, h3.fr g⟩
  | _ => exact h
theorem Stc.below (h : Stc w b v x) (g : Below w.heap.size w w1) : Stc w1 b v x := h.fr ⟨g.os, g.tape, g.output, g.size, fun k hk _ => g.block k hk⟩
theorem Wb.c0 (h : Wb w b now held f) : w.cell? ⟨b, 0, none⟩ = some (.int .i64 now) := row_val h.s (by omega) h.f0
theorem Wb.c1 (h : Wb w b now held f) : w.cell? ⟨b, 1, none⟩ = some (.bool held) := row_val h.s (by omega) h.f1
theorem Wb.ct (h : Wb w b now held f) (k : Nat) (hk : k < 8) : w.cell? ⟨b, 2 + k, none⟩ = some (f (2 + k)) := World.rowIs.cell h.s (by omega)
theorem Wb.fz (h : Wb w b now held f) (i : Nat) : w.frozen? ⟨b, i, none⟩ = false := World.rowIs.frozen h.s i
def up (f : Nat → Value) (o : Nat) (v : Value) (j : Nat) : Value := if j = o then v else f j
theorem Wb.set0 (h : Wb w b now held f) (c : Nat) : Wb (w.setCell ⟨b, 0, none⟩ (.int .i64 c)) b c held (up f 0 (.int .i64 c)) :=
  ⟨h.s.set 0 _, if_pos rfl, (if_neg (by omega)).trans h.f1⟩
theorem Wb.set1 (h : Wb w b now held f) (c : Bool) : Wb (w.setCell ⟨b, 1, none⟩ (.bool c)) b now c (up f 1 (.bool c)) :=
  ⟨h.s.set 1 _, (if_neg (by omega)).trans h.f0, if_pos rfl⟩
theorem Wb.alloc (h : Wb w b now held f) (o : Obj) : Wb (w.alloc o) b now held f := ⟨h.s.alloc o, h.f0, h.f1⟩
theorem Wb.drew (h : Wb w b now held f) : Wb w.drew b now held f := ⟨h.s, h.f0, h.f1⟩
/-- swap -/
theorem swap_no (h : Wb w b now held f) (a c : Nat) (ha : now ≠ a) : Calls Try.prog 32 #[.pointer (some ⟨b, 0, none⟩), .int .i64 a, .int .i64 c] w fun e w' => e = .returned (.bool false) ∧ w' = w := by
  have c0 := h.c0
  have hb : ((now : Int) == a) = false := by simp; omega
  clear h ha
  go_enter Try.func32, Try.ntmps32
  go_wp2
  go_ret
  exact ⟨rfl, rfl⟩
theorem swap_yes (h : Wb w b now held f) (a c : Nat) (ha : now = a) : Calls Try.prog 32 #[.pointer (some ⟨b, 0, none⟩), .int .i64 a, .int .i64 c] w fun e w' => e = .returned (.bool true) ∧ w' = w.setCell ⟨b, 0, none⟩ (.int .i64 c) := by
  have c0 := h.c0
  have f0 := h.fz 0
  subst ha
  clear h
  go_enter Try.func32, Try.ntmps32
  go_wp2
  go_ret
  exact ⟨rfl, rfl⟩
/-- what an access leaves -/
def Fx (w : World) (b now : Nat) (held : Bool) (f : Nat → Value) (x : Nx) (e : Ending) (w' : World) : Prop :=
  ∃ v' f', e = .returned (.tuple #[v', .int .i64 (act now held x).what]) ∧ Wb w' b (act now held x).now (act now held x).held f' ∧ (∀ j, 2 ≤ j → f' j = f j) ∧ Stc w' b v' (act now held x).nx ∧ Fr w w' (fun k => k = b)
theorem up2 (f : Nat → Value) (o : Nat) (v : Value) (ho : o < 2) : ∀ j, 2 ≤ j → up f o v j = f j := fun j hj => if_neg (by omega)
theorem wakes_any (a c x : Int) (w : World) : Calls Try.prog 31 #[.int .i64 a, .int .i64 c, .int .i64 x] w fun e w' => e = .returned (.func (.func 34) #[] #[pv w.heap.size, pv (w.heap.size + 1), pv (w.heap.size + 2)]) ∧ w' = ((w.alloc (.cells #[.int .i64 a] 3)).alloc (.cells #[.int .i64 c] 3)).alloc (.cells #[.int .i64 x] 3) := by
  go_enter Try.func31, Try.ntmps31
  go_wp2
  go_ret
  exact ⟨rfl, rfl⟩
theorem cel3 (w : World) (b : Nat) (hb : b < w.heap.size) (a c x : Int) : Cel (((w.alloc (.cells #[.int .i64 a] 3)).alloc (.cells #[.int .i64 c] 3)).alloc (.cells #[.int .i64 x] 3)) b w.heap.size a ∧ Cel (((w.alloc (.cells #[.int .i64 a] 3)).alloc (.cells #[.int .i64 c] 3)).alloc (.cells #[.int .i64 x] 3)) b (w.heap.size + 1) c ∧ Cel (((w.alloc (.cells #[.int .i64 a] 3)).alloc (.cells #[.int .i64 c] 3)).alloc (.cells #[.int .i64 x] 3)) b (w.heap.size + 2) x := by
  have one : ∀ (W : World) (y : Int), (W.alloc (.cells #[.int .i64 y] 3)).rowIs W.heap.size 3 1 (fun _ => .int .i64 y) := fun W y => row_new W _ 3 1 _ rfl (fun i hi => by match i, hi with | 0, _ => rfl)
  have h1 := one w a
  have h2 := one (w.alloc (.cells #[.int .i64 a] 3)) c
  have h3 := one ((w.alloc (.cells #[.int .i64 a] 3)).alloc (.cells #[.int .i64 c] 3)) x
  rw [World.size_alloc] at h2
  rw [World.size_alloc, World.size_alloc] at h3
  exact ⟨⟨by omega, (h1.alloc _).alloc _⟩, ⟨by omega, h2.alloc _⟩, ⟨by omega, h3⟩⟩
theorem fn_look (h : Wb w b now held f) : Calls Try.prog 25 #[.pointer (some ⟨b, 0, none⟩)] w (Fx w b now held f .look) := by
  have c0 := h.c0
  have hl := h.s.lt
  have H := Lib.hid h
  by_cases h0 : now = 0
  · subst h0
    clear h
    go_enter Try.func25, Try.ntmps25
    go_wp2_with fail
    refine (wakes_any 0 1 1 _).mono ?_
    rintro e w' ⟨rfl, rfl⟩
    go_wp2
    go_ret2
    obtain ⟨q1, q2, q3⟩ := cel3 w b hl 0 1 1
    exact ⟨_, f, rfl, ((H.out.alloc _).alloc _).alloc _, fun _ _ => rfl, ⟨_, _, _, rfl, q1, q2, q3⟩, ((fr_alloc _ _ _).trans' (fr_alloc _ _ _)).trans' (fr_alloc _ _ _)⟩
  · by_cases h2 : now = 2
    · subst h2
      clear h
      go_enter Try.func25, Try.ntmps25
      go_wp2_with fail
      refine (wakes_any 2 3 0 _).mono ?_
      rintro e w' ⟨rfl, rfl⟩
      go_wp2
      go_ret2
      obtain ⟨q1, q2, q3⟩ := cel3 w b hl 2 3 0
      exact ⟨_, f, rfl, ((H.out.alloc _).alloc _).alloc _, fun _ _ => rfl, ⟨_, _, _, rfl, q1, q2, q3⟩, ((fr_alloc _ _ _).trans' (fr_alloc _ _ _)).trans' (fr_alloc _ _ _)⟩
    · have e : act now held .look = ⟨now, held, .no, 0⟩ := by unfold act; rw [if_neg h0, if_neg h2]
      unfold Fx
      rw [e]
      have b0 : ((now : Int) == 0) = false := by simp; omega
      have b2 : ((now : Int) == 2) = false := by simp; omega
      clear h h0 h2 e
      go_enter Try.func25, Try.ntmps25
      go_wp2
      go_ret2
      exact ⟨_, f, rfl, H.out, fun _ _ => rfl, rfl, Fr.refl _ _⟩
end
end Go.Proofs.Ytildpjgjnfiihaa
