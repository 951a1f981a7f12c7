/- The queue: its block, its nodes, and what New, thread and Begin come to. -/
import Derived.Test.YtcbbjcafgnddcaaK
namespace Go.Proofs.Ytcbbjcafgnddcaa
open Go.RowKit
set_option linter.unusedVariables false
set_option linter.unusedSimpArgs false

/-- nothing old turned outside S -/
structure Fr (w w' : World) (S : Nat → Prop) : Prop where
  os : w'.os = w.os
  tape : w'.tape = w.tape
  output : w'.output = w.output
  size : w.heap.size ≤ w'.heap.size
  block : ∀ k, k < w.heap.size → ¬ S k → w'.heap[k]? = w.heap[k]?
def ext (S : Nat → Prop) (w w' : World) : Nat → Prop := fun k => S k ∨ (w.heap.size ≤ k ∧ k < w'.heap.size)
theorem Fr.refl (w : World) (S : Nat → Prop) : Fr w w S := ⟨rfl, rfl, rfl, Nat.le_refl _, fun _ _ _ => rfl⟩
theorem Fr.trans {x y z : World} {S : Nat → Prop} (h : Fr x y S) (g : Fr y z (ext S x y)) : Fr x z S :=
  ⟨g.os.trans h.os, g.tape.trans h.tape, g.output.trans h.output, Nat.le_trans h.size g.size, fun k hk n => (g.block k (Nat.lt_of_lt_of_le hk h.size) (fun e => e.elim n (fun e => by omega))).trans (h.block k hk n)⟩
theorem Fr.trans' {x y z : World} {S : Nat → Prop} (h : Fr x y S) (g : Fr y z S) : Fr x z S :=
  ⟨g.os.trans h.os, g.tape.trans h.tape, g.output.trans h.output, Nat.le_trans h.size g.size, fun k hk n => (g.block k (Nat.lt_of_lt_of_le hk h.size) n).trans (h.block k hk n)⟩
theorem Fr.below {x y : World} {S : Nat → Prop} (h : Fr x y S) {n : Nat} (hn : n ≤ x.heap.size) (hS : ∀ k, S k → n ≤ k) : Below n x y :=
  ⟨h.os, h.tape, h.output, h.size, fun k hk => h.block k (by omega) (fun s => by have := hS k s; omega)⟩
theorem fr_set (w : World) (S : Nat → Prop) (b o : Nat) (v : Value) (h : S b) : Fr w (w.setCell ⟨b, o, none⟩ v) S :=
  ⟨rfl, rfl, rfl, by simp [World.setCell], fun k hk n => Below.heap_setCell _ _ _ _ (fun e => n (by have e' : k = b := e; rw [e']; exact h))⟩
theorem fr_alloc (w : World) (S : Nat → Prop) (o : Obj) : Fr w (w.alloc o) S := ⟨rfl, rfl, rfl, by simp, fun k hk _ => Below.heap_alloc w o k hk⟩
theorem fr_drew (w : World) (S : Nat → Prop) : Fr w w.drew S := ⟨rfl, rfl, rfl, Nat.le_refl _, fun _ _ _ => rfl⟩
theorem fr_drewN (w : World) (S : Nat → Prop) (n : Nat) : Fr w (w.drewN n) S := ⟨rfl, rfl, rfl, Nat.le_refl _, fun _ _ _ => rfl⟩
theorem row_fr {w w' : World} {S : Nat → Prop} {k : Nat} {t : TypeId} {n : Nat} {f : Nat → Value} (h : w.rowIs k t n f) (g : Fr w w' S) (hk : ¬ S k) : w'.rowIs k t n f := h.of_block (g.block k h.lt hk)
theorem Fr.of_below {w w' : World} {n : Nat} (g : Below n w w') : Fr w w' (fun k => n ≤ k) := ⟨g.os, g.tape, g.output, g.size, fun k _ h => g.block k (by omega)⟩

structure T where
  on : Bool := false
  made : Nat := 0
  node : Nat := 0
  prev : Nat := 0
structure Q where
  n : Nat
  v : Nat → Int
  nx : Nat → Nat
  head : Nat
  tail : Nat
  th : Nat → T
def Q.set (q : Q) (k : Nat) (t : T) : Q := { q with th := fun j => if j = k then t else q.th j }
/-- what is well formed -/
structure Val (q : Q) : Prop where
  n1 : 1 ≤ q.n
  n2 : q.n ≤ 65537
  head : q.head < q.n
  tail : q.tail < q.n
  nx : ∀ i, i < q.n → q.nx i < q.n
  node : ∀ k, k < 8 → (q.th k).on = true → (q.th k).node < q.n
  own : ∀ k, k < 8 → k ≠ 0 → (q.th k).on = true → (q.th k).node ≠ 0
  prev : ∀ k, k < 8 → (q.th k).on = true → (q.th k).prev < q.n
  made : ∀ k, k < 8 → (q.th k).on = true → (q.th k).made < if k = 0 then 2 else 3
def pn (nd : Nat → Nat) (i : Nat) : Value := .pointer (some ⟨nd i, 0, none⟩)
def pz (nd : Nat → Nat) (i : Nat) : Value := if i = 0 then .pointer none else pn nd i
def tc (f : Nat → Value) (nd : Nat → Nat) (k : Nat) (t : T) : Prop :=
  f (3 + k * 4) = .bool t.on ∧ (t.on = true → f (3 + k * 4 + 1) = .int .i64 t.made ∧ (k ≠ 0 → f (3 + k * 4 + 2) = pn nd t.node ∧ (t.made = 2 → f (3 + k * 4 + 3) = pn nd t.prev)) ∧ (k = 0 → t.made = 1 → f (3 + k * 4 + 3) = pz nd t.node))
/-- the rows of the queue and of its nodes, no word about the threads -/
structure Rw (w : World) (b : Nat) (S : Nat → Prop) (q : Q) (nd : Nat → Nat) (f : Nat → Value) : Prop where
  s : w.rowIs b 66 35 f
  f0 : f 0 = pn nd q.head
  f1 : f 1 = pn nd q.tail
  f2 : f 2 = .int .i64 ((q.n : Int) - 1)
  nodes : ∀ i, i < q.n → w.rowIs (nd i) 61 2 (fun j => if j = 0 then .int .i64 (q.v i) else pz nd (q.nx i))
  sb : S b
  sn : ∀ i, i < q.n → S (nd i)
  ne : ∀ i, i < q.n → nd i ≠ b
  inj : ∀ i j, i < q.n → j < q.n → nd i = nd j → i = j
structure IsQ (w : World) (b : Nat) (S : Nat → Prop) (q : Q) (nd : Nat → Nat) (f : Nat → Value) : Prop where
  r : Rw w b S q nd f
  t : ∀ k, k < 8 → tc f nd k (q.th k)
section
variable {w w1 : World} {b : Nat} {S S' : Nat → Prop} {q q' : Q} {nd : Nat → Nat} {f f' : Nat → Value}
theorem Rw.same (h : Rw w b S q nd f) (e : w1.heap = w.heap) : Rw w1 b S q nd f := { h with s := h.s.of_block (by rw [e]), nodes := fun i hi => (h.nodes i hi).of_block (by rw [e]) }
theorem Rw.frame (h : Rw w b S q nd f) (g : Fr w w1 S') (hS : ∀ k, S k → ¬ S' k) : Rw w1 b S q nd f := { h with s := row_fr h.s g (hS _ h.sb), nodes := fun i hi => row_fr (h.nodes i hi) g (hS _ (h.sn i hi)) }
theorem Rw.mono (h : Rw w b S q nd f) (hS : ∀ k, S k → S' k) : Rw w b S' q nd f := { h with sb := hS _ h.sb, sn := fun i hi => hS _ (h.sn i hi) }
theorem Rw.below (h : Rw w b S q nd f) (g : Below w.heap.size w w1) : Rw w1 b S q nd f := { h with s := row_below h.s g h.s.lt, nodes := fun i hi => row_below (h.nodes i hi) g (h.nodes i hi).lt }
theorem Rw.froz (h : Rw w b S q nd f) (i : Nat) : w.frozen? ⟨b, i, none⟩ = false := World.rowIs.frozen h.s i
theorem Rw.cell (h : Rw w b S q nd f) (i : Nat) (hi : i < 35) : w.cell? ⟨b, i, none⟩ = some (f i) := World.rowIs.cell h.s hi
theorem Rw.val (h : Rw w b S q nd f) (i : Nat) (hi : i < q.n) : w.cell? ⟨nd i, 0, none⟩ = some (.int .i64 (q.v i)) := row_val (h.nodes i hi) (by omega) rfl
theorem Rw.nxt (h : Rw w b S q nd f) (i : Nat) (hi : i < q.n) : w.cell? ⟨nd i, 1, none⟩ = some (pz nd (q.nx i)) := row_val (h.nodes i hi) (by omega) rfl
theorem Rw.frozN (h : Rw w b S q nd f) (i : Nat) (hi : i < q.n) (j : Nat) : w.frozen? ⟨nd i, j, none⟩ = false := World.rowIs.frozen (h.nodes i hi) j
theorem Rw.lt (h : Rw w b S q nd f) : b < w.heap.size := h.s.lt
theorem Rw.ltN (h : Rw w b S q nd f) (i : Nat) (hi : i < q.n) : nd i < w.heap.size := (h.nodes i hi).lt
theorem Rw.alloc (h : Rw w b S q nd f) (o : Obj) : Rw (w.alloc o) b S q nd f := { h with s := h.s.alloc o, nodes := fun i hi => (h.nodes i hi).alloc o }
theorem Rw.other (h : Rw w b S q nd f) {k : Nat} (hk : ¬ S k) (o : Nat) (v : Value) : Rw (w.setCell ⟨k, o, none⟩ v) b S q nd f :=
  { h with s := h.s.setOther (fun e => hk (by have e' : b = k := e; rw [← e']; exact h.sb)) v, nodes := fun i hi => (h.nodes i hi).setOther (fun e => hk (by have e' : nd i = k := e; rw [← e']; exact h.sn i hi)) v }
/-- a cell of a thread -/
theorem Rw.setT (h : Rw w b S q nd f) (o : Nat) (v : Value) (ho : 3 ≤ o) : Rw (w.setCell ⟨b, o, none⟩ v) b S q nd (fun j => if j = o then v else f j) :=
  { h with s := h.s.set o v, nodes := fun i hi => (h.nodes i hi).setOther (h.ne i hi) v, f0 := by rw [if_neg (by omega)]; exact h.f0, f1 := by rw [if_neg (by omega)]; exact h.f1, f2 := by rw [if_neg (by omega)]; exact h.f2 }
theorem Rw.setHead (h : Rw w b S q nd f) (i : Nat) : Rw (w.setCell ⟨b, 0, none⟩ (pn nd i)) b S { q with head := i } nd (fun j => if j = 0 then pn nd i else f j) :=
  { h with s := h.s.set 0 _, nodes := fun i hi => (h.nodes i hi).setOther (h.ne i hi) _, f0 := rfl }
theorem Rw.setTail (h : Rw w b S q nd f) (i : Nat) : Rw (w.setCell ⟨b, 1, none⟩ (pn nd i)) b S { q with tail := i } nd (fun j => if j = 1 then pn nd i else f j) :=
  { h with s := h.s.set 1 _, nodes := fun i hi => (h.nodes i hi).setOther (h.ne i hi) _, f1 := rfl }
theorem Rw.setNx (h : Rw w b S q nd f) (i : Nat) (hi : i < q.n) (k : Nat) : Rw (w.setCell ⟨nd i, 1, none⟩ (pz nd k)) b S { q with nx := fun j => if j = i then k else q.nx j } nd f :=
  { h with
    s := h.s.setOther (fun e => h.ne i hi (by have e' : b = nd i := e; exact e'.symm)) _
    nodes := fun j hj => by
      by_cases e : j = i
      · subst e
        refine ((h.nodes j hj).set 1 (pz nd k)).congr (fun x hx => ?_)
        match x, hx with
        | 0, _ => simp
        | 1, _ => simp
      · refine ((h.nodes j hj).setOther (fun e' => e (h.inj j i hj hi e')) _).congr (fun x hx => ?_)
        simp [e] }
theorem IsQ.same (h : IsQ w b S q nd f) (e : w1.heap = w.heap) : IsQ w1 b S q nd f := ⟨h.r.same e, h.t⟩
theorem IsQ.frame (h : IsQ w b S q nd f) (g : Fr w w1 S') (hS : ∀ k, S k → ¬ S' k) : IsQ w1 b S q nd f := ⟨h.r.frame g hS, h.t⟩
theorem IsQ.mono (h : IsQ w b S q nd f) (hS : ∀ k, S k → S' k) : IsQ w b S' q nd f := ⟨h.r.mono hS, h.t⟩
theorem IsQ.below (h : IsQ w b S q nd f) (g : Below w.heap.size w w1) : IsQ w1 b S q nd f := ⟨h.r.below g, h.t⟩
theorem tc_same {k : Nat} {t : T} (h : tc f nd k t) (e : ∀ i, i < 4 → f' (3 + k * 4 + i) = f (3 + k * 4 + i)) : tc f' nd k t := by
  have e0 := e 0 (by omega); have e1 := e 1 (by omega); have e2 := e 2 (by omega); have e3 := e 3 (by omega)
  unfold tc at *
  rw [Nat.add_zero] at e0
  rw [e0, e1, e2, e3]; exact h
end
theorem zero61 (w : World) : (zeroValue 61).run Try.prog w = .ok (.agg #[.int .i64 0, .pointer none]) w := by kernel_rfl
theorem zero63 (w : World) : (zeroValue 63).run Try.prog w = .ok (.agg #[.bool false, .int .i64 0, .pointer none, .pointer none]) w := by kernel_rfl
theorem zero29 (w : World) : (zeroValue 29).run Try.prog w = .ok (.agg #[.bool false, .bool false, .int .i64 0, .int .i64 0]) w := by kernel_rfl
set_option maxHeartbeats 1000000 in
/-- thread: the k-th -/
theorem thread_in (b k : Nat) (hk : k < 8) (w : World) : Calls Try.prog 21 #[.pointer (some ⟨b, 0, none⟩), .int .i64 k] w fun e w' => e = .returned (.pointer (some ⟨b, 3 + k * 4, none⟩)) ∧ w' = w := by
  have h1 : ¬ ((k : Int) < 0) := by omega
  have h2 : ¬ ((8 : Int) ≤ (k : Int)) := by omega
  go_enter Try.func21, Try.ntmps21
  go_wp2
  go_ret
  exact ⟨rfl, rfl⟩
theorem thread_out (b : Nat) (k : Int) (hk : k < 0 ∨ 8 ≤ k) (w : World) : Calls Try.prog 21 #[.pointer (some ⟨b, 0, none⟩), .int .i64 k] w fun e w' => e = .returned (.pointer none) ∧ w' = w := by
  rcases hk with h1 | h2
  · go_enter Try.func21, Try.ntmps21
    go_wp2
    go_ret
    exact ⟨rfl, rfl⟩
  · have h1 : ¬ (k < 0) := by omega
    go_enter Try.func21, Try.ntmps21
    go_wp2
    go_ret
    exact ⟨rfl, rfl⟩
theorem thread_nil (k : Int) (w : World) : Calls Try.prog 21 #[.pointer none, .int .i64 k] w fun e w' => e = .returned (.pointer none) ∧ w' = w := by
  go_enter Try.func21, Try.ntmps21
  go_wp2
  go_ret
  exact ⟨rfl, rfl⟩
def Q0 : Q := { n := 1, v := fun _ => 0, nx := fun _ => 0, head := 0, tail := 0, th := fun _ => {} }
theorem zero66 (w : World) : (zeroValue 66).run Try.prog w = .ok (.agg #[.pointer none, .pointer none, .int .i64 0, .bool false, .int .i64 0, .pointer none, .pointer none, .bool false, .int .i64 0, .pointer none, .pointer none, .bool false, .int .i64 0, .pointer none, .pointer none, .bool false, .int .i64 0, .pointer none, .pointer none, .bool false, .int .i64 0, .pointer none, .pointer none, .bool false, .int .i64 0, .pointer none, .pointer none, .bool false, .int .i64 0, .pointer none, .pointer none, .bool false, .int .i64 0, .pointer none, .pointer none]) w := by kernel_rfl
def qz (v : Value) (i : Nat) : Value := if i < 2 then v else if i = 2 then .int .i64 0 else if (i - 3) % 4 = 0 then .bool false else if (i - 3) % 4 = 1 then .int .i64 0 else .pointer none
set_option maxRecDepth 100000 in
set_option maxHeartbeats 1000000 in
theorem new_any (w : World) : Calls Try.prog 10 #[] w fun e w' => e = .returned (.pointer (some ⟨w.heap.size + 1, 0, none⟩)) ∧ IsQ w' (w.heap.size + 1) (fun k => w.heap.size ≤ k) Q0 (fun _ => w.heap.size) (qz (.pointer (some ⟨w.heap.size, 0, none⟩))) ∧ w.grownBy w' none := by
  have hz := zero61
  have hz2 := zero66
  have hn := row_new w #[.int .i64 0, .pointer none] 61 2 (fun j => if j = 0 then .int .i64 0 else pz (fun _ => w.heap.size) 0) rfl (fun j hj => by match j, hj with | 0, _ => rfl | 1, _ => rfl)
  have hfin : IsQ ((w.alloc (.cells #[.int .i64 0, .pointer none] 61)).alloc (.cells #[.pointer (some ⟨w.heap.size, 0, none⟩), .pointer (some ⟨w.heap.size, 0, none⟩), .int .i64 0, .bool false, .int .i64 0, .pointer none, .pointer none, .bool false, .int .i64 0, .pointer none, .pointer none, .bool false, .int .i64 0, .pointer none, .pointer none, .bool false, .int .i64 0, .pointer none, .pointer none, .bool false, .int .i64 0, .pointer none, .pointer none, .bool false, .int .i64 0, .pointer none, .pointer none, .bool false, .int .i64 0, .pointer none, .pointer none, .bool false, .int .i64 0, .pointer none, .pointer none] 66)) (w.heap.size + 1) (fun k => w.heap.size ≤ k) Q0 (fun _ => w.heap.size) (qz (.pointer (some ⟨w.heap.size, 0, none⟩))) := by
    have hs := row_new (w.alloc (.cells #[.int .i64 0, .pointer none] 61)) #[.pointer (some ⟨w.heap.size, 0, none⟩), .pointer (some ⟨w.heap.size, 0, none⟩), .int .i64 0, .bool false, .int .i64 0, .pointer none, .pointer none, .bool false, .int .i64 0, .pointer none, .pointer none, .bool false, .int .i64 0, .pointer none, .pointer none, .bool false, .int .i64 0, .pointer none, .pointer none, .bool false, .int .i64 0, .pointer none, .pointer none, .bool false, .int .i64 0, .pointer none, .pointer none, .bool false, .int .i64 0, .pointer none, .pointer none, .bool false, .int .i64 0, .pointer none, .pointer none] 66 35 (qz (.pointer (some ⟨w.heap.size, 0, none⟩))) rfl (fun i hi => by
      rcases i with _ | _ | _ | i
      iterate 3 rfl
      iterate 32 (rcases i with _ | i; rfl)
      omega)
    rw [World.size_alloc] at hs
    refine ⟨⟨hs, rfl, rfl, rfl, fun i hi => hn.alloc _, by omega, fun i hi => Nat.le_refl _, fun i hi => by omega, fun i j hi hj _ => ?_⟩, fun k hk => ⟨?_, fun h => by cases h⟩⟩
    · have h1 : i < 1 := hi
      have h2 : j < 1 := hj
      omega
    · unfold qz
      rw [if_neg (by omega), if_neg (by omega), if_pos (by omega)]; rfl
  have HF := Lib.hid hfin
  clear hfin hn
  go_enter Try.func10, Try.ntmps10
  go_wp2
  go_ret
  exact ⟨by simp, HF.out, gb_trans (gb_alloc _ _ _) (gb_alloc _ _ _)⟩
end Go.Proofs.Ytcbbjcafgnddcaa
