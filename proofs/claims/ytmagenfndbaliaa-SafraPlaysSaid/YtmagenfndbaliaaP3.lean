/- The ring of workers: its blocks, its methods. -/
import Derived.Test.YtmagenfndbaliaaP1
import Derived.Test.YtmagenfndbaliaaP2
namespace Go.Proofs.Ytmagenfndbaliaa
open Go.RowKit
set_option linter.unusedVariables false
set_option linter.unusedSimpArgs false
/-- nothing old turned outside S -/
structure Fr (w w' : World) (S : Nat → Prop) : Prop where
  os : w'.os = w.os
  tape : w'.tape = w.tape
  output : w'.output = w.output
  size : w.heap.size ≤ w'.heap.size
  block : ∀ k, k < w.heap.size → ¬ S k → w'.heap[k]? = w.heap[k]?
theorem Fr.refl (w : World) (S : Nat → Prop) : Fr w w S := ⟨rfl, rfl, rfl, Nat.le_refl _, fun _ _ _ => rfl⟩
theorem Fr.trans' {x y z : World} {S : Nat → Prop} (h : Fr x y S) (g : Fr y z S) : Fr x z S :=
  ⟨g.os.trans h.os, g.tape.trans h.tape, g.output.trans h.output, Nat.le_trans h.size g.size, fun k hk n => (g.block k (Nat.lt_of_lt_of_le hk h.size) n).trans (h.block k hk n)⟩
theorem Fr.below {x y : World} {S : Nat → Prop} (h : Fr x y S) {n : Nat} (hn : n ≤ x.heap.size) (hS : ∀ k, S k → n ≤ k) : Below n x y :=
  ⟨h.os, h.tape, h.output, h.size, fun k hk => h.block k (by omega) (fun s => by have := hS k s; omega)⟩
theorem fr_set (w : World) (S : Nat → Prop) (b o : Nat) (v : Value) (h : S b) : Fr w (w.setCell ⟨b, o, none⟩ v) S :=
  ⟨rfl, rfl, rfl, by simp [World.setCell], fun k hk n => Below.heap_setCell _ _ _ _ (fun e => n (by have e' : k = b := e; rw [e']; exact h))⟩
theorem fr_alloc (w : World) (S : Nat → Prop) (o : Obj) : Fr w (w.alloc o) S := ⟨rfl, rfl, rfl, by simp, fun k hk _ => Below.heap_alloc w o k hk⟩
theorem fr_drew (w : World) (S : Nat → Prop) : Fr w w.drew S := ⟨rfl, rfl, rfl, Nat.le_refl _, fun _ _ _ => rfl⟩
theorem fr_drewN (w : World) (S : Nat → Prop) (n : Nat) : Fr w (w.drewN n) S := ⟨rfl, rfl, rfl, Nat.le_refl _, fun _ _ _ => rfl⟩
theorem row_fr {w w' : World} {S : Nat → Prop} {k : Nat} {t : TypeId} {n : Nat} {f : Nat → Value} (h : w.rowIs k t n f) (g : Fr w w' S) (hk : ¬ S k) : w'.rowIs k t n f := h.of_block (g.block k h.lt hk)
def col (c : Bool) : Value := .int .i64 (if c = true then 1 else 0)
def rgf (g n : Nat) (tk : Bool) (h : Nat) (rd : Bool) (j : Nat) : Value := if j = 0 then .slice (some ⟨g, 0, none⟩) n n else if j = 1 then col tk else if j = 2 then .int .i64 h else col rd
structure Rr (w : World) (b g : Nat) (r : R) : Prop where
  s : w.rowIs b 50 4 (rgf g r.n r.tk r.h r.rd)
  t : w.rowIs g 48 r.n (fun j => col (r.bl j))
  ne : b ≠ g
def S2 (b g : Nat) (k : Nat) : Prop := k = b ∨ k = g
section
variable {w w1 : World} {b g : Nat} {r : R}
theorem Rr.frame (h : Rr w b g r) {S : Nat → Prop} (f : Fr w w1 S) (hb : ¬ S b) (hg : ¬ S g) : Rr w1 b g r := ⟨row_fr h.s f hb, row_fr h.t f hg, h.ne⟩
theorem Rr.below (h : Rr w b g r) (f : Below w.heap.size w w1) : Rr w1 b g r := ⟨row_below h.s f h.s.lt, row_below h.t f h.t.lt, h.ne⟩
theorem Rr.same (h : Rr w b g r) (e : w1.heap = w.heap) : Rr w1 b g r := ⟨h.s.of_block (by rw [e]), h.t.of_block (by rw [e]), h.ne⟩
theorem Rr.c0 (h : Rr w b g r) : w.cell? ⟨b, 0, none⟩ = some (.slice (some ⟨g, 0, none⟩) r.n r.n) := row_val h.s (by omega) rfl
theorem Rr.c1 (h : Rr w b g r) : w.cell? ⟨b, 1, none⟩ = some (col r.tk) := row_val h.s (by omega) rfl
theorem Rr.c2 (h : Rr w b g r) : w.cell? ⟨b, 2, none⟩ = some (.int .i64 r.h) := row_val h.s (by omega) rfl
theorem Rr.c3 (h : Rr w b g r) : w.cell? ⟨b, 3, none⟩ = some (col r.rd) := row_val h.s (by omega) rfl
theorem Rr.ct (h : Rr w b g r) (i : Nat) (hi : i < r.n) : w.cell? ⟨g, i, none⟩ = some (col (r.bl i)) := row_val h.t hi rfl
theorem Rr.fb (h : Rr w b g r) (i : Nat) : w.frozen? ⟨b, i, none⟩ = false := World.rowIs.frozen h.s i
theorem Rr.fg (h : Rr w b g r) (i : Nat) : w.frozen? ⟨g, i, none⟩ = false := World.rowIs.frozen h.t i
theorem Rr.setBl (h : Rr w b g r) (i : Nat) (c : Bool) : Rr (w.setCell ⟨g, i, none⟩ (col c)) b g { n := r.n, bl := fun j => if j = i then c else r.bl j, tk := r.tk, h := r.h, rd := r.rd } := by
  refine ⟨row_fr h.s (fr_set w (fun k => k = g) g i _ rfl) h.ne, (h.t.set i _).congr (fun j hj => ?_), h.ne⟩
  dsimp only
  split <;> rfl
theorem Rr.setTk (h : Rr w b g r) (c : Bool) : Rr (w.setCell ⟨b, 1, none⟩ (col c)) b g { n := r.n, bl := r.bl, tk := c, h := r.h, rd := r.rd } := by
  refine ⟨(h.s.set 1 _).congr (fun j hj => ?_), row_fr h.t (fr_set w (fun k => k = b) b 1 _ rfl) (Ne.symm h.ne), h.ne⟩
  match j, hj with | 0, _ => rfl | 1, _ => rfl | 2, _ => rfl | 3, _ => rfl
theorem Rr.setH (h : Rr w b g r) (k : Nat) : Rr (w.setCell ⟨b, 2, none⟩ (.int .i64 k)) b g { n := r.n, bl := r.bl, tk := r.tk, h := k, rd := r.rd } := by
  refine ⟨(h.s.set 2 _).congr (fun j hj => ?_), row_fr h.t (fr_set w (fun k => k = b) b 2 _ rfl) (Ne.symm h.ne), h.ne⟩
  match j, hj with | 0, _ => rfl | 1, _ => rfl | 2, _ => rfl | 3, _ => rfl
theorem Rr.setRd (h : Rr w b g r) (c : Bool) : Rr (w.setCell ⟨b, 3, none⟩ (col c)) b g { n := r.n, bl := r.bl, tk := r.tk, h := r.h, rd := c } := by
  refine ⟨(h.s.set 3 _).congr (fun j hj => ?_), row_fr h.t (fr_set w (fun k => k = b) b 3 _ rfl) (Ne.symm h.ne), h.ne⟩
  match j, hj with | 0, _ => rfl | 1, _ => rfl | 2, _ => rfl | 3, _ => rfl
end
theorem zero50 (w : World) : (zeroValue 50).run Try.prog w = .ok (.agg #[.slice none 0 0, .int .i64 0, .int .i64 0, .int .i64 0]) w := by kernel_rfl
theorem new_fin {w w2 : World} {n : Nat} (hn : 1 ≤ n) (hr : w2.rowIs (w.heap.size + 1) 48 n (fun _ => .int .i64 1)) (hg : (w.alloc (.cells #[.int .i64 1] 48)).grownBy w2 none) :
    Rr (w2.alloc (.cells #[.slice (some ⟨w.heap.size + 1, 0, none⟩) n n, .int .i64 1, .int .i64 0, .int .i64 0] 50)) w2.heap.size (w.heap.size + 1) (R0 n) ∧ w.grownBy (w2.alloc (.cells #[.slice (some ⟨w.heap.size + 1, 0, none⟩) n n, .int .i64 1, .int .i64 0, .int .i64 0] 50)) none ∧ w.heap.size ≤ w2.heap.size := by
  have h1 := hg.size
  rw [World.size_alloc] at h1
  refine ⟨⟨row_new w2 _ 50 4 _ rfl (fun i hi => by match i, hi with | 0, _ => rfl | 1, _ => rfl | 2, _ => rfl | 3, _ => rfl), hr.alloc _, ?_⟩, gb_trans (gb_trans (gb_alloc _ _ _) hg) (gb_alloc _ _ _), by omega⟩
  have := hr.lt; omega
set_option maxRecDepth 100000 in
set_option maxHeartbeats 2000000 in
theorem new_any (n : Int) (w : World) : Calls Try.prog 9 #[.int .i64 n] w fun e w' => ∃ b g, e = .returned (.pointer (some ⟨b, 0, none⟩)) ∧ Rr w' b g (R0 (size n)) ∧ w.grownBy w' none ∧ w.heap.size ≤ b ∧ w.heap.size ≤ g := by
  have hz := zero50
  have hx := row_val (row_new w #[.int .i64 1] 48 1 (fun _ => .int .i64 1) rfl (fun i hi => by match i, hi with | 0, _ => rfl)) (i := 0) (v := .int .i64 1) (by omega) rfl
  have hl : w.heap.size < (w.alloc (.cells #[.int .i64 1] 48)).heap.size := by simp
  obtain ⟨h1, h2⟩ := size_1 n
  have HR := Lib.hid (repeat_any (w.alloc (.cells #[.int .i64 1] 48)) w.heap.size (size n) hx hl h1 h2)
  have h3 : (n < 1 ∧ size n = 1) ∨ (1 ≤ n ∧ 64 < n ∧ size n = 64) ∨ (1 ≤ n ∧ n ≤ 64 ∧ (size n : Int) = n) := by
    unfold size
    split
    · exact .inl ⟨by assumption, rfl⟩
    · split
      · exact .inr (.inl ⟨by omega, by omega, rfl⟩)
      · exact .inr (.inr ⟨by omega, by omega, by omega⟩)
  generalize size n = N at *
  rcases h3 with ⟨h3, rfl⟩ | ⟨h3, h4, rfl⟩ | ⟨h3, h4, rfl⟩
  · go_enter Try.func9, Try.ntmps9
    go_wp2_with fail
    refine HR.out.mono ?_
    rintro e w2 ⟨rfl, hr, hg⟩
    rw [World.size_alloc] at hr
    obtain ⟨f1, f2, f3⟩ := new_fin (by omega) hr hg
    go_wp2
    go_ret
    exact ⟨_, _, rfl, f1, f2, f3, by omega⟩
  · go_enter Try.func9, Try.ntmps9
    go_wp2_with fail
    refine HR.out.mono ?_
    rintro e w2 ⟨rfl, hr, hg⟩
    rw [World.size_alloc] at hr
    obtain ⟨f1, f2, f3⟩ := new_fin (by omega) hr hg
    go_wp2
    go_ret
    exact ⟨_, _, rfl, f1, f2, f3, by omega⟩
  · go_enter Try.func9, Try.ntmps9
    go_wp2_with fail
    refine HR.out.mono ?_
    rintro e w2 ⟨rfl, hr, hg⟩
    rw [World.size_alloc] at hr
    obtain ⟨f1, f2, f3⟩ := new_fin (by omega) hr hg
    go_wp2
    go_ret
    exact ⟨_, _, rfl, f1, f2, f3, by omega⟩
end Go.Proofs.Ytmagenfndbaliaa
