/- The queue and the reference side by side. -/
import Derived.Test.YtcbbjcafgnddcaaM26
import Derived.Test.YtcbbjcafgnddcaaM10
import Derived.Deep.DeepCutAuto
namespace Go.Proofs.Ytcbbjcafgnddcaa
open Go.RowKit Go.ChangeShapes Go.WideShapes Go.Deep Go.Shelf
set_option linter.unusedVariables false
set_option linter.unusedSimpArgs false
/-- the script -/
def Mvs (w : World) (a : Option Addr) (len : Nat) (bg : Nat → Bool) (th : Nat → Int) (x : Nat → Int) : Prop :=
  ∀ i, i < len → ∃ b off, a = some ⟨b, off, none⟩ ∧ b < w.heap.size ∧ w.cell? ⟨b, off + i * 3, none⟩ = some (.bool (bg i)) ∧ w.cell? ⟨b, off + i * 3 + 1, none⟩ = some (.int .i64 (th i)) ∧ w.cell? ⟨b, off + i * 3 + 2, none⟩ = some (.int .i64 (x i))
theorem moves_read {H : Type} {enc : TypeId × Value → H} {w : World} {v : Value} {d : DataW H} {p : List MemPlace} (h : DataW.Trod enc Try.prog w 0 (fun _ => true) true 38 v d p) (hv : ∃ a len cap, v = .slice a len cap) :
    ∃ (a : Option Addr) (len cap : Nat) (bg : Nat → Bool) (th x : Nat → Int), v = .slice a len cap ∧ Mvs w a len bg th x ∧ (len = 0 ∨ ∃ el sp, d = .slice el sp ∧ el.length = len) := by
  obtain ⟨a, len, cap, rfl, _, hr, hd0⟩ := slice_reads Try.underlying38 3 (by kernel_rfl) (by omega) h hv
  have key : ∀ i, i < len → ∃ x : Bool × Int × Int, ∃ b off, a = some ⟨b, off, none⟩ ∧ b < w.heap.size ∧ w.cell? ⟨b, off + i * 3, none⟩ = some (.bool x.1) ∧ w.cell? ⟨b, off + i * 3 + 1, none⟩ = some (.int .i64 x.2.1) ∧ w.cell? ⟨b, off + i * 3 + 2, none⟩ = some (.int .i64 x.2.2) := fun i hi => by
    obtain ⟨b, off, cs, n, x, rfl, hb, hlen, hc, hd⟩ := hr i hi
    obtain ⟨xs, n', rfl, _, _, hxs, hf⟩ := DataW.trod_struct Try.underlying42 hd
    have hxl : xs.length = 3 := hxs
    match cs, hlen with
    | [c0, c1, c2], _ =>
      have f0 := hf 0 _ rfl
      have f1 := hf 1 _ rfl
      have f2 := hf 2 _ rfl
      rw [List.getElem?_eq_getElem (by omega)] at f0 f1 f2
      have h4 := cells4
      have h3 := cells3
      have h2 := cells2
      simp [h4, h3, h2] at f0 f1 f2
      obtain ⟨b0, e0, _⟩ := DataW.trod_bool Try.underlying4 f0
      obtain ⟨n1, e1, _, _⟩ := DataW.trod_int Try.underlying3 f1
      obtain ⟨n2, e2, _, _⟩ := DataW.trod_int Try.underlying2 f2
      have e0' : c0 = .bool b0 := by simpa using e0
      have e1' : c1 = .int .i64 n1 := by simpa using e1
      have e2' : c2 = .int .i64 n2 := by simpa using e2
      have k0 := hc 0 (by omega)
      have k1 := hc 1 (by omega)
      have k2 := hc 2 (by omega)
      refine ⟨(b0, n1, n2), b, off, rfl, hb, ?_, ?_, ?_⟩
      · rw [← e0']; simpa using k0
      · rw [← e1', show off + i * 3 + 1 = off + (i * 3 + 1) by omega]; simpa using k1
      · rw [← e2', show off + i * 3 + 2 = off + (i * 3 + 2) by omega]; simpa using k2
  obtain ⟨z, hz⟩ := Go.Deep.choose_lt key
  exact ⟨a, len, cap, fun i => (z i).1, fun i => (z i).2.1, fun i => (z i).2.2, rfl, hz, hd0⟩
structure Ms (w0 w : World) (b c : Nat) (S S' : Nat → Prop) (qa qb : Q) : Prop where
  qs : Qs w0 w b S qa
  rf : ∃ g vv vn, Rf w c g vv vn qb ∧ S' = S0 c g vv vn
  lo : ∀ k, S' k → w0.heap.size ≤ k
  dj : ∀ k, S k → ¬ S' k
section
variable {w0 w w1 : World} {b c : Nat} {S S' S1 : Nat → Prop} {qa qb qa' qb' : Q}
theorem Ms.hi (h : Ms w0 w b c S S' qa qb) : ∀ k, S' k → k < w.heap.size := by
  obtain ⟨g, vv, vn, hr, rfl⟩ := h.rf
  exact hr.hi
theorem Ms.below (h : Ms w0 w b c S S' qa qb) (g : Below w.heap.size w w1) : Ms w0 w1 b c S S' qa qb := by
  obtain ⟨gg, vv, vn, hr, e⟩ := h.rf
  exact ⟨h.qs.below g, ⟨gg, vv, vn, hr.below g, e⟩, h.lo, h.dj⟩
theorem Ms.q (h : Ms w0 w b c S S' qa qb) (h' : Qs w0 w1 b S1 qa') (g : Nx w w1 S S1) : Ms w0 w1 b c S1 S' qa' qb := by
  obtain ⟨gg, vv, vn, hr, e⟩ := h.rf
  refine ⟨h', ⟨gg, vv, vn, hr.frame g.fr (fun k hk hs => h.dj k hs (by rw [e]; exact hk)), e⟩, h.lo, fun k hk hs => h.dj k (g.old k (h.hi k hs) hk) hs⟩
theorem Ms.r {g : Nat} {vv vn vv' vn' : Value} (h : Ms w0 w b c S (S0 c g vv vn) qa qb) (hr : Rf w1 c g vv' vn' qb') (n : Nr w w1 (S0 c g vv vn) (S0 c g vv' vn')) : Ms w0 w1 b c S (S0 c g vv' vn') qa qb' := by
  refine ⟨h.qs.frD n.fr h.dj h.lo, ⟨g, vv', vn', hr, rfl⟩, fun k hk => ?_, fun k hk hs => ?_⟩
  · rcases n.new k hk with y | y
    · exact h.lo k y
    · exact Nat.le_trans h.qs.bel.size y
  · rcases n.new k hs with y | y
    · exact h.dj k hk y
    · have := h.qs.hi k hk; omega
end
def mvf (bg : Bool) (k x : Int) (j : Nat) : Value := if j = 0 then .bool bg else if j = 1 then .int .i64 k else .int .i64 x
structure Mb (w0 w : World) (b c : Nat) (S S' : Nat → Prop) (qa qb : Q) (Bx : Nat) (bg : Bool) (k x : Int) : Prop where
  m : Ms w0 w b c S S' qa qb
  bx : w.rowIs Bx 42 3 (mvf bg k x)
  n1 : ¬ S Bx
  n2 : ¬ S' Bx
section
variable {w0 w w1 : World} {b c : Nat} {S S' S1 : Nat → Prop} {qa qb qa' qb' : Q} {Bx : Nat} {bg : Bool} {k x : Int}
theorem Mb.new (h : Ms w0 w b c S S' qa qb) (bg : Bool) (k x : Int) : Mb w0 (w.alloc (.cells #[.bool bg, .int .i64 k, .int .i64 x] 42)) b c S S' qa qb w.heap.size bg k x :=
  ⟨h.below ((Below.refl w.heap.size w).alloc (Nat.le_refl _) _), row_new w _ 42 3 _ rfl (fun i hi => by match i, hi with | 0, _ => rfl | 1, _ => rfl | 2, _ => rfl), fun y => by have := h.qs.hi _ y; omega, fun y => by have := h.hi _ y; omega⟩
theorem Mb.below (h : Mb w0 w b c S S' qa qb Bx bg k x) (g : Below w.heap.size w w1) : Mb w0 w1 b c S S' qa qb Bx bg k x :=
  ⟨h.m.below g, row_below h.bx g h.bx.lt, h.n1, h.n2⟩
theorem Mb.c0 (h : Mb w0 w b c S S' qa qb Bx bg k x) : w.cell? ⟨Bx, 0, none⟩ = some (.bool bg) := row_val h.bx (by omega) rfl
theorem Mb.c1 (h : Mb w0 w b c S S' qa qb Bx bg k x) : w.cell? ⟨Bx, 1, none⟩ = some (.int .i64 k) := row_val h.bx (by omega) rfl
theorem Mb.c2 (h : Mb w0 w b c S S' qa qb Bx bg k x) : w.cell? ⟨Bx, 2, none⟩ = some (.int .i64 x) := row_val h.bx (by omega) rfl
theorem mb_begin1 (h : Mb w0 w b c S S' qa qb Bx bg k x) (K v e : Int) (he : begin qa K v = (e, qa')) : Calls Try.prog 11 #[.pointer (some ⟨b, 0, none⟩), .int .i64 K, .int .i64 v] w fun e' w' => e' = .returned (.int .i64 e) ∧ ∃ S1, Mb w0 w' b c S1 S' qa' qb Bx bg k x := by
  refine (q_begin h.m.qs K v e qa' he).mono ?_
  rintro e' w' ⟨rfl, S1, h1, g⟩
  obtain ⟨r1, r2⟩ := row_nx h.bx h.n1 g
  exact ⟨rfl, S1, h.m.q h1 g, r1, r2, h.n2⟩
theorem mb_step1 (h : Mb w0 w b c S S' qa qb Bx bg k x) (K : Int) (o t : Bool) (v e cc : Int) (he : step qa K = (({ over := o, take := t, v := v, err := e }, cc), qa')) : Calls Try.prog 12 #[.pointer (some ⟨b, 0, none⟩), .int .i64 K] w fun e' w' => e' = .returned (.tuple #[.agg #[.bool o, .bool t, .int .i64 v, .int .i64 e], .int .i64 cc]) ∧ Mb w0 w' b c S S' qa' qb Bx bg k x := by
  refine (q_step h.m.qs K o t v e cc qa' he).mono ?_
  rintro e' w' ⟨rfl, h1, g⟩
  obtain ⟨r1, r2⟩ := row_nx h.bx h.n1 g
  exact ⟨rfl, h.m.q h1 g, r1, r2, h.n2⟩
theorem mb_begin2 (h : Mb w0 w b c S S' qa qb Bx bg k x) (V : Val qb) (K v e : Int) (he : begin qb K v = (e, qb')) : Calls Try.prog 17 #[.pointer (some ⟨c, 0, none⟩), .int .i64 K, .int .i64 v] w fun e' w' => e' = .returned (.int .i64 e) ∧ ∃ S1', Mb w0 w' b c S S1' qa qb' Bx bg k x := by
  obtain ⟨h1, h2, h3, h4⟩ := h
  obtain ⟨g, vv, vn, hr, rfl⟩ := h1.rf
  have hc := mbegin_any hr V K v
  rw [he] at hc
  refine hc.mono ?_
  rintro e' w' ⟨rfl, vv', vn', hr', n⟩
  exact ⟨rfl, _, h1.r hr' n, row_fr h2 n.fr h4, h3, fun y => (n.new _ y).elim h4 (fun z => by have := h2.lt; omega)⟩
theorem mb_step2 (h : Mb w0 w b c S S' qa qb Bx bg k x) (V : Val qb) (Z : Pz qb) (K : Int) (o t : Bool) (v e cc : Int) (he : step qb K = (({ over := o, take := t, v := v, err := e }, cc), qb')) : Calls Try.prog 18 #[.pointer (some ⟨c, 0, none⟩), .int .i64 K] w fun e' w' => e' = .returned (.tuple #[.agg #[.bool o, .bool t, .int .i64 v, .int .i64 e], .int .i64 cc]) ∧ Mb w0 w' b c S S' qa qb' Bx bg k x ∧ Fr w w' S' := by
  obtain ⟨h1, h2, h3, h4⟩ := h
  obtain ⟨g, vv, vn, hr, rfl⟩ := h1.rf
  have hc := mstep_any hr V Z K
  rw [he] at hc
  refine hc.mono ?_
  rintro e' w' ⟨rfl, hr', n⟩
  exact ⟨rfl, ⟨h1.r hr' ⟨n, fun _ y => .inl y⟩, row_fr h2 n h4, h3, h4⟩, n⟩
end
theorem belD (w : World) : Below w.heap.size w w.drew := gb_below (gb_drew w none) (Nat.le_refl _) (fun k e => by cases e)
theorem ms_new {w0 w : World} (hb : Below w0.heap.size w0 w) {w1 : World} {b : Nat} {S : Nat → Prop} (h1 : Qs w0 w1 b S Q0) : Calls Try.prog 16 #[] w1 fun e w' => ∃ c S', e = .returned (.pointer (some ⟨c, 0, none⟩)) ∧ Ms w0 w' b c S S' Q0 Q0 := by
  refine (mnew_any w1).mono ?_
  rintro e w' ⟨c, g, vv, vn, rfl, hr, gb, hk⟩
  have hB : Below w1.heap.size w1 w' := gb_below gb (Nat.le_refl _) (fun k e => by cases e)
  exact ⟨c, _, rfl, h1.below hB, ⟨g, vv, vn, hr, rfl⟩, fun k y => Nat.le_trans h1.bel.size (hk k y), fun k y z => by have := hk k z; have := h1.hi k y; omega⟩
end Go.Proofs.Ytcbbjcafgnddcaa
