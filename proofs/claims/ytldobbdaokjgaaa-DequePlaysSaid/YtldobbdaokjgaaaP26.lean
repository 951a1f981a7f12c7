/- DequePlays' walk. -/
import Derived.Test.YtldobbdaokjgaaaP25
import Derived.Deep.DeepCutAuto
import Derived.Deep.RegionHeld3
namespace Go.Proofs.Ytldobbdaokjgaaa
open Go.RowKit Go.ChangeShapes Go.WideShapes Go.Deep
set_option linter.unusedVariables false
set_option linter.unusedSimpArgs false
/-- the deque and the reference's one, side by side -/
structure Ps (w0 w : World) (b p c g u : Nat) (q : Q) (r : R) : Prop where
  ds : Ds w0 w b p q
  rf : Rf w c g u r
  d : c ≠ b ∧ c ≠ p ∧ g ≠ b ∧ g ≠ p ∧ u ≠ b ∧ u ≠ p
  l : w0.heap.size ≤ c ∧ w0.heap.size ≤ g ∧ w0.heap.size ≤ u
section
variable {w0 w w1 : World} {b p c g u : Nat} {q q' : Q} {r r' : R}
theorem Ps.below (h : Ps w0 w b p c g u q r) (f : Below w.heap.size w w1) : Ps w0 w1 b p c g u q r := { h with ds := h.ds.below f, rf := h.rf.below f }
theorem Ps.ours (h : Ps w0 w b p c g u q r) (h' : Ds w0 w1 b p q') (f : Fr w w1 (S2 b p)) : Ps w0 w1 b p c g u q' r :=
  { h with ds := h', rf := h.rf.frame f (by unfold S2; have := h.d; omega) (by unfold S2; have := h.d; omega) (by unfold S2; have := h.d; omega) }
theorem Ps.theirs (h : Ps w0 w b p c g u q r) (h' : Rf w1 c g u r') (f : Fr w w1 (S3 c g u)) : Ps w0 w1 b p c g u q r' :=
  { h with rf := h', ds := h.ds.fr2 f (by unfold S3; have := h.d; omega) (by unfold S3; have := h.d; omega) (fun k e => by have := h.l; rcases e with e | e | e <;> omega) }
end
def mvf (bg : Bool) (k x y : Int) (j : Nat) : Value := if j = 0 then .bool bg else if j = 1 then .int .i64 k else if j = 2 then .int .i64 x else .int .i64 y
structure Px (w0 w : World) (b p c g u : Nat) (q : Q) (r : R) (B : Nat) (bg : Bool) (k x y : Int) : Prop where
  ps : Ps w0 w b p c g u q r
  bx : w.rowIs B 50 4 (mvf bg k x y)
  nb : B ≠ b ∧ B ≠ p ∧ B ≠ c ∧ B ≠ g ∧ B ≠ u
section
variable {w0 w w1 : World} {b p c g u : Nat} {q q' : Q} {r r' : R} {B : Nat} {bg : Bool} {k x y : Int}
theorem Px.new (h : Ps w0 w b p c g u q r) (bg : Bool) (k x y : Int) : Px w0 (w.alloc (.cells #[.bool bg, .int .i64 k, .int .i64 x, .int .i64 y] 50)) b p c g u q r w.heap.size bg k x y :=
  ⟨h.below ((Below.refl w.heap.size w).alloc (Nat.le_refl _) _), row_new w _ 50 4 _ rfl (fun i hi => by match i, hi with | 0, _ => rfl | 1, _ => rfl | 2, _ => rfl | 3, _ => rfl),
    by have := h.ds.lt; have := h.rf.s.lt; have := h.rf.t.lt; have := h.rf.u.lt; omega⟩
theorem Px.c0 (h : Px w0 w b p c g u q r B bg k x y) : w.cell? ⟨B, 0, none⟩ = some (.bool bg) := row_val h.bx (by omega) rfl
theorem Px.c1 (h : Px w0 w b p c g u q r B bg k x y) : w.cell? ⟨B, 1, none⟩ = some (.int .i64 k) := row_val h.bx (by omega) rfl
theorem Px.c2 (h : Px w0 w b p c g u q r B bg k x y) : w.cell? ⟨B, 2, none⟩ = some (.int .i64 x) := row_val h.bx (by omega) rfl
theorem Px.c3 (h : Px w0 w b p c g u q r B bg k x y) : w.cell? ⟨B, 3, none⟩ = some (.int .i64 y) := row_val h.bx (by omega) rfl
theorem Px.below (h : Px w0 w b p c g u q r B bg k x y) (f : Below w.heap.size w w1) : Px w0 w1 b p c g u q r B bg k x y := { h with ps := h.ps.below f, bx := row_below h.bx f h.bx.lt }
theorem Px.alloc (h : Px w0 w b p c g u q r B bg k x y) (o : Obj) : Px w0 (w.alloc o) b p c g u q r B bg k x y := h.below ((Below.refl w.heap.size w).alloc (Nat.le_refl _) o)
theorem px_begin1 (h : Px w0 w b p c g u q r B bg k x y) (K o v e : Int) (he : begin q K o v = (e, q')) : Calls Try.prog 17 #[.pointer (some ⟨b, 0, none⟩), .int .i64 K, .int .i64 o, .int .i64 v] w fun e' w' => e' = .returned (.int .i64 e) ∧ Px w0 w' b p c g u q' r B bg k x y := by
  refine (ds_begin h.ps.ds K o v e he).mono ?_
  rintro e' w' ⟨rfl, h', f⟩
  exact ⟨rfl, h.ps.ours h' f, row_fr h.bx f (by unfold S2; have := h.nb; omega), h.nb⟩
theorem px_step1 (h : Px w0 w b p c g u q r B bg k x y) (K : Int) (o : Bool) (x' v r' e : Int) (he : step q K = (({ over := o, op := x', v := v, err := r' }, e), q')) : Calls Try.prog 14 #[.pointer (some ⟨b, 0, none⟩), .int .i64 K] w fun e' w' => e' = .returned (.tuple #[.agg #[.bool o, .int .i64 x', .int .i64 v, .int .i64 r'], .int .i64 e]) ∧ Px w0 w' b p c g u q' r B bg k x y := by
  refine (ds_step h.ps.ds K o x' v r' e he).mono ?_
  rintro e' w' ⟨rfl, h', f⟩
  exact ⟨rfl, h.ps.ours h' f, row_fr h.bx f (by unfold S2; have := h.nb; omega), h.nb⟩
theorem px_begin2 (h : Px w0 w b p c g u q r B bg k x y) {qo : Q} (R0 : Rel qo r) (K o v e : Int) (he : begin qo K o v = (e, q')) : Calls Try.prog 20 #[.pointer (some ⟨c, 0, none⟩), .int .i64 K, .int .i64 o, .int .i64 v] w fun e' w' => e' = .returned (.int .i64 e) ∧ ∃ r', Px w0 w' b p c g u q r' B bg k x y ∧ Rel q' r' := by
  have hc := mbegin_any h.ps.rf K o v
  have hr := rel_begin R0 K o v
  unfold Bp at hc
  rw [he] at hr
  rw [hr.1] at hc
  refine hc.mono ?_
  rintro e' w' ⟨rfl, h', f⟩
  exact ⟨rfl, _, ⟨h.ps.theirs h' f, row_fr h.bx f (by unfold S3; have := h.nb; omega), h.nb⟩, hr.2⟩
theorem px_step2 (h : Px w0 w b p c g u q r B bg k x y) {qo : Q} (R0 : Rel qo r) {i : Nat} (I : Ir qo i) (K : Int) (o : Bool) (x' v r' e : Int) (he : step qo K = (({ over := o, op := x', v := v, err := r' }, e), q')) : Calls Try.prog 21 #[.pointer (some ⟨c, 0, none⟩), .int .i64 K] w fun e' w' => e' = .returned (.tuple #[.agg #[.bool o, .int .i64 x', .int .i64 v, .int .i64 r'], .int .i64 e]) ∧ ∃ r', Px w0 w' b p c g u q r' B bg k x y ∧ Rel q' r' ∧ Fr w w' (S3 c g u) := by
  obtain ⟨L, tk, I', _⟩ := I
  have hc := mstep_any h.ps.rf R0 I' K
  rw [he] at hc
  refine hc.mono ?_
  rintro e' w' ⟨r2, rfl, h', f, hr⟩
  exact ⟨rfl, r2, ⟨h.ps.theirs h' f, row_fr h.bx f (by unfold S3; have := h.nb; omega), h.nb⟩, hr, f⟩
end
/-- the script -/
def Mvs (w : World) (a : Option Addr) (len : Nat) (bg : Nat → Bool) (th x y : Nat → Int) : Prop :=
  ∀ i, i < len → ∃ b off, a = some ⟨b, off, none⟩ ∧ b < w.heap.size ∧ w.cell? ⟨b, off + i * 4, none⟩ = some (.bool (bg i)) ∧ w.cell? ⟨b, off + i * 4 + 1, none⟩ = some (.int .i64 (th i)) ∧ w.cell? ⟨b, off + i * 4 + 2, none⟩ = some (.int .i64 (x i)) ∧ w.cell? ⟨b, off + i * 4 + 3, none⟩ = some (.int .i64 (y i))
theorem moves_read {H : Type} {enc : TypeId × Value → H} {w : World} {v : Value} {d : DataW H} {p : List MemPlace} (h : DataW.Trod enc Try.prog w 0 (fun _ => true) true 43 v d p) (hv : ∃ a len cap, v = .slice a len cap) :
    ∃ (a : Option Addr) (len cap : Nat) (bg : Nat → Bool) (th x y : Nat → Int), v = .slice a len cap ∧ Mvs w a len bg th x y ∧ (len = 0 ∨ ∃ el sp, d = .slice el sp ∧ el.length = len) := by
  obtain ⟨a, len, cap, rfl, _, hr, hd0⟩ := slice_reads Try.underlying43 4 (by kernel_rfl) (by omega) h hv
  have key : ∀ i, i < len → ∃ x : Bool × Int × Int × Int, ∃ b off, a = some ⟨b, off, none⟩ ∧ b < w.heap.size ∧ w.cell? ⟨b, off + i * 4, none⟩ = some (.bool x.1) ∧ w.cell? ⟨b, off + i * 4 + 1, none⟩ = some (.int .i64 x.2.1) ∧ w.cell? ⟨b, off + i * 4 + 2, none⟩ = some (.int .i64 x.2.2.1) ∧ w.cell? ⟨b, off + i * 4 + 3, none⟩ = some (.int .i64 x.2.2.2) := fun i hi => by
    obtain ⟨b, off, cs, n, x, rfl, hb, hlen, hc, hd⟩ := hr i hi
    obtain ⟨xs, n', rfl, _, _, hxs, hf⟩ := DataW.trod_struct Try.underlying50 hd
    have hxl : xs.length = 4 := hxs
    match cs, hlen with
    | [c0, c1, c2, c3], _ =>
      have f0 := hf 0 _ rfl
      have f1 := hf 1 _ rfl
      have f2 := hf 2 _ rfl
      have f3 := hf 3 _ rfl
      rw [List.getElem?_eq_getElem (by omega)] at f0 f1 f2 f3
      have h4 := cells4
      have h3 := cells3
      have h2 := cells2
      simp [h4, h3, h2] at f0 f1 f2 f3
      obtain ⟨b0, e0, _⟩ := DataW.trod_bool Try.underlying4 f0
      obtain ⟨n1, e1, _, _⟩ := DataW.trod_int Try.underlying3 f1
      obtain ⟨n2, e2, _, _⟩ := DataW.trod_int Try.underlying3 f2
      obtain ⟨n3, e3, _, _⟩ := DataW.trod_int Try.underlying2 f3
      have e0' : c0 = .bool b0 := by simpa using e0
      have e1' : c1 = .int .i64 n1 := by simpa using e1
      have e2' : c2 = .int .i64 n2 := by simpa using e2
      have e3' : c3 = .int .i64 n3 := by simpa using e3
      have k0 := hc 0 (by omega)
      have k1 := hc 1 (by omega)
      have k2 := hc 2 (by omega)
      have k3 := hc 3 (by omega)
      refine ⟨(b0, n1, n2, n3), b, off, rfl, hb, ?_, ?_, ?_, ?_⟩
      · rw [← e0']; simpa using k0
      · rw [← e1', show off + i * 4 + 1 = off + (i * 4 + 1) by omega]; simpa using k1
      · rw [← e2', show off + i * 4 + 2 = off + (i * 4 + 2) by omega]; simpa using k2
      · rw [← e3', show off + i * 4 + 3 = off + (i * 4 + 3) by omega]; simpa using k3
  obtain ⟨z, hz⟩ := Go.Deep.choose_lt key
  exact ⟨a, len, cap, fun i => (z i).1, fun i => (z i).2.1, fun i => (z i).2.2.1, fun i => (z i).2.2.2, rfl, hz, hd0⟩
section
variable {w0 w w1 : World} {b p : Nat} {q : Q}
theorem top_same (h : Ds w0 w b p q) (e : w1.heap = w.heap) : Calls Try.prog 22 #[.pointer (some ⟨b, 0, none⟩)] w1 fun e w' => e = .returned (.int .i64 q.top) ∧ w' = w1 := top_any (h.i.same e)
theorem bot_same (h : Ds w0 w b p q) (e : w1.heap = w.heap) : Calls Try.prog 23 #[.pointer (some ⟨b, 0, none⟩)] w1 fun e w' => e = .returned (.int .i64 q.bot) ∧ w' = w1 := bot_any (h.i.same e)
theorem size_same (h : Ds w0 w b p q) (e : w1.heap = w.heap) : Calls Try.prog 18 #[.pointer (some ⟨b, 0, none⟩)] w1 fun e w' => e = .returned (.int .i64 q.n) ∧ w' = w1 := size_any (h.i.same e)
theorem busy_same (h : Ds w0 w b p q) (e : w1.heap = w.heap) (k : Int) (o : Bool) (ho : o = (decide (0 ≤ k ∧ k < 8) && decide ((q.th k.toNat).nx ≠ .no))) : Calls Try.prog 13 #[.pointer (some ⟨b, 0, none⟩), .int .i64 k] w1 fun e w' => e = .returned (.bool o) ∧ w' = w1 := busy_any (h.i.same e) k o ho
end
theorem busy_out (q : Q) (k : Int) (h : ¬ (0 ≤ k ∧ k < 8)) : false = (decide (0 ≤ k ∧ k < 8) && decide ((q.th k.toNat).nx ≠ .no)) := by rw [decide_eq_false h]; rfl
theorem busy_in (q : Q) (n : Nat) (h : n < 8) : decide ((q.th n).nx ≠ .no) = (decide (0 ≤ (n : Int) ∧ (n : Int) < 8) && decide ((q.th (n : Int).toNat).nx ≠ .no)) := by
  rw [show decide (0 ≤ (n : Int) ∧ (n : Int) < 8) = true from decide_eq_true (by omega), Int.toNat_natCast, Bool.true_and]
theorem belN (w : World) (n : Nat) : Below w.heap.size w (w.drewN n) := gb_below (gb_drewN w n none) (Nat.le_refl _) (fun k e => by cases e)
theorem zero50 (w : World) : (zeroValue 50).run Try.prog w = .ok (.agg #[.bool false, .int .i64 0, .int .i64 0, .int .i64 0]) w := by kernel_rfl
theorem ir_new (n : Nat) (h1 : 1 ≤ n) (h2 : n ≤ 64) : Ir (Q0 n) 0 := ⟨[], none, iv_new n h1 h2, by show (0 : Int) + 0 ≤ 0; omega⟩
theorem belF {w w1 : World} {S : Nat → Prop} {w0 : World} (h : Fr w w1 (fun _ => False)) : Below w.heap.size w w1 := h.below (Nat.le_refl _) (fun k e => e.elim)
def Inv26 (q : Q) (r : R) (i : Nat) : Prop := Rel q r ∧ Ir q i
set_option maxRecDepth 100000 in
set_option maxHeartbeats 16000000 in
theorem plays_any (s : Int) (a : Option Addr) (len cap : Nat) (bg : Nat → Bool) (th x y : Nat → Int) (w : World) (hr : Mvs w a len bg th x y) (hlen : len ≤ 1000000000000000) :
    Calls Try.prog 6 #[.int .i64 s, .slice a len cap] w fun e w' => e = .returned (.bool true) ∧ Below w.heap.size w w' := by
  have hz50 := zero50
  have hz34 := zero34
  have hz51 := zero51
  have HI0 := Lib.hid (And.intro (rel_new (capN s)) (ir_new (capN s) (capN_lo s) (capN_hi s)))
  go_enter Try.func6, Try.ntmps6
  go_wp2_with fail
  refine (lives_any _).mono ?_
  rintro e w1 ⟨rfl, g1⟩
  go_wp2_with fail
  refine (ds_new g1 s).mono ?_
  rintro e w2 ⟨b, p, rfl, h2, _, _⟩
  go_wp2_with fail
  refine (rnew_any s w2).mono ?_
  rintro e w3 ⟨c, g, u, rfl, h3, f3, l1, l2, l3⟩
  have P0 : Ps w w3 b p c g u (Q0 (capN s)) (R0 (capN s)) := by
    have q1 := h2.lt
    have q2 := h2.bel.size
    exact ⟨h2.below (f3.below (Nat.le_refl _) (fun k e => e.elim)), h3, by omega, by omega⟩
  have c2 : w3.cell? ⟨c, 2, none⟩ = some (.slice (some ⟨u, 0, none⟩) (capN s) (capN s)) := h3.c2
  have hsz : Hid (∀ (W1 : World), W1.heap = w3.heap → Calls Try.prog 18 #[.pointer (some ⟨b, 0, none⟩)] W1 fun e w' => e = .returned (.int .i64 (capN s)) ∧ w' = W1) := Lib.hid (fun (W1 : World) (e : W1.heap = w3.heap) => size_same P0.ds e)
  have HP0 := Lib.hid P0
  clear h2 h3 f3 l1 l2 l3 g1 P0
  generalize capN s = N at *
  go_wp2_with fail
  go_quiet (first | (go_at_call 18; exact Calls.quiet_of_same (hsz.out _ (by rfl))))
  have P1 := HP0.out.below (belN w3 nq)
  clear HP0 hsz c2
  generalize w3.drewN nq = W1 at *
  go_wp2_with fail
  go_loopw [7] (fun kv wr => ∃ (i : Nat) (q : Q) (r : R), i ≤ len ∧ kv = .int .i64 i ∧ Ps w wr b p c g u q r ∧ Hid (Inv26 q r i)) (fun kv wr => len - (intOf kv).toNat)
  case atStart => exact ⟨0, _, _, Nat.zero_le _, rfl, P1, HI0⟩
  case round =>
    clear P1 HI0
    obtain ⟨i, q, r, hi, rfl, M, HI⟩ := hrel
    by_cases hlt : i < len
    · obtain ⟨sb, so, rfl, hsb, k0, k1, k2, k3⟩ := hr i hlt
      have c0 := (M.ds.bel.cell (p := ⟨sb, so + i * 4, none⟩) hsb).trans k0
      have c1 := (M.ds.bel.cell (p := ⟨sb, so + i * 4 + 1, none⟩) hsb).trans k1
      have c2 := (M.ds.bel.cell (p := ⟨sb, so + i * 4 + 2, none⟩) hsb).trans k2
      have c3 := (M.ds.bel.cell (p := ⟨sb, so + i * 4 + 3, none⟩) hsb).trans k3
      have hi3 : (i : Int) < (len : Int) := by omega
      have hi0 : (0 : Int) ≤ (i : Int) := by omega
      have HR := Lib.hid hr
      have HLT := Lib.hid (And.intro hlt hlen)
      have K0 := Px.new M (bg i) (th i) (x i) (y i)
      clear k0 k1 k2 k3 hr hlt M
      generalize bg i = bgi at *
      generalize th i = k at *
      generalize x i = o at *
      generalize y i = v at *
      go_upto_if 43 with fail
      have hBlt : wr.heap.size < (wr.alloc (.cells #[.bool bgi, .int .i64 k, .int .i64 o, .int .i64 v] 50)).heap.size := by simp
      generalize wr.alloc (.cells #[.bool bgi, .int .i64 k, .int .i64 o, .int .i64 v] 50) = W0 at *
      generalize wr.heap.size = Bx at *
      clear c0 c1 c2 c3
      go_cut [] (fun wx => ∃ (q' : Q) (r' : R), Px w wx b p c g u q' r' Bx bgi k o v ∧ Hid (Inv26 q' r' (i + 1)))
      case first =>
        have d0 := K0.c0
        have d1 := K0.c1
        have d2 := K0.c2
        have d3 := K0.c3
        cases bgi
        · obtain ⟨dO, dX, dV, dR, e1, q1, hs⟩ : ∃ dO dX dV dR e1 q1, step q k = (({ over := dO, op := dX, v := dV, err := dR }, e1), q1) := ⟨_, _, _, _, _, _, rfl⟩
          have I1 := ir_step HI.out.2 k (by have := HLT.out; omega)
          rw [hs] at I1
          have HI1 := Lib.hid I1
          have HS := Lib.hid hs
          clear I1 hs
          go_wp2_with fail
          refine (px_step1 K0 k dO dX dV dR e1 HS.out).mono ?_
          rintro e W1' ⟨rfl, K1⟩
          have K2 := K1.alloc (.cells #[.bool dO, .int .i64 dX, .int .i64 dV, .int .i64 dR] 34)
          have y1 := K2.c1
          have ra := row_new W1' #[.bool dO, .int .i64 dX, .int .i64 dV, .int .i64 dR] 34 4 (bxf { over := dO, op := dX, v := dV, err := dR }) rfl (fun i hi => by match i, hi with | 0, _ => rfl | 1, _ => rfl | 2, _ => rfl | 3, _ => rfl)
          have hAn : W1'.heap.size ≠ c ∧ W1'.heap.size ≠ g ∧ W1'.heap.size ≠ u := by
            have := K1.ps.rf.s.lt; have := K1.ps.rf.t.lt; have := K1.ps.rf.u.lt; omega
          have HRA := Lib.hid (And.intro ra hAn)
          have hAl : W1'.heap.size < (W1'.alloc (.cells #[.bool dO, .int .i64 dX, .int .i64 dV, .int .i64 dR] 34)).heap.size := by simp
          clear K0 K1 ra hAn
          go_upto_region 14 with fail
          generalize W1'.alloc (.cells #[.bool dO, .int .i64 dX, .int .i64 dV, .int .i64 dR] 34) = W2 at *
          generalize W1'.heap.size = Ab at *
          go_wp2_with fail
          refine (px_step2 K2 HI.out.1 HI.out.2 k dO dX dV dR e1 HS.out).mono ?_
          rintro e W3 ⟨rfl, r2, K3, R2, f3⟩
          have ra := row_fr HRA.out.1 f3 (by unfold S3; have := HRA.out.2; omega)
          have a0 := fun c : Array Value => row_val (ra.alloc (.cells c 51)) (i := 0) (v := .bool dO) (by omega) rfl
          have a1 := fun c : Array Value => row_val (ra.alloc (.cells c 51)) (i := 1) (v := .int .i64 dX) (by omega) rfl
          have a2 := fun c : Array Value => row_val (ra.alloc (.cells c 51)) (i := 2) (v := .int .i64 dV) (by omega) rfl
          have a3 := fun c : Array Value => row_val (ra.alloc (.cells c 51)) (i := 3) (v := .int .i64 dR) (by omega) rfl
          have hAl3 := ra.lt
          have hne : Ab ≠ W3.heap.size := by omega
          have hne2 : W3.heap.size ≠ Ab := by omega
          have HK3 := Lib.hid (K3.alloc (.cells #[.bool dO, .int .i64 dX, .int .i64 dV, .int .i64 dR] 51))
          have HR2 := Lib.hid R2
          clear K2 K3 R2 f3 ra HRA y1 hAl hAl3
          go_wp2
          go_meet
          exact ⟨q1, r2, HK3.out, Lib.hid ⟨HR2.out, HI1.out⟩⟩
        · obtain ⟨e1, q1, hs⟩ : ∃ e1 q1, begin q k o v = (e1, q1) := ⟨_, _, rfl⟩
          have I1 := ir_begin HI.out.2 k o v
          rw [hs] at I1
          have HI1 := Lib.hid I1
          have HS := Lib.hid hs
          clear I1 hs
          have HP := Lib.hid (fun (W1 : World) (hb : Below W0.heap.size W0 W1) => px_begin1 (K0.below hb) k o v e1 HS.out)
          have HM := Lib.hid (fun (W1 : World) (hm : Px w W1 b p c g u q1 r Bx true k o v) => px_begin2 hm HI.out.1 k o v e1 HS.out)
          clear K0
          go_wp2
          go_region_held3 (fun w' => w'.cell? ⟨Bx, 1, none⟩ = some (.int .i64 k) ∧ w'.cell? ⟨Bx, 2, none⟩ = some (.int .i64 o) ∧ w'.cell? ⟨Bx, 3, none⟩ = some (.int .i64 v)) (first | exact ⟨d1, d2, d3⟩ | exact ⟨f1, f2, f3⟩ | exact ⟨y1, y2, y3⟩) (first | (go_at_call 17; refine (HP.out _ (belD _)).mono ?_; rintro e W1 ⟨rfl, K1⟩; have f1 := K1.c1; have f2 := K1.c2; have f3 := K1.c3; have HK1 := Lib.hid K1; clear K1) | (go_at_call 20; refine (HM.out _ HK1.out).mono ?_; rintro e W2 ⟨rfl, r2, K2, R2⟩; have y1 := K2.c1; have y2 := K2.c2; have y3 := K2.c3; have HK2 := Lib.hid (And.intro K2 R2); clear K2 R2))
          all_goals go_wp2
          all_goals go_meet
          all_goals exact ⟨q1, r2, HK2.out.1, Lib.hid ⟨HK2.out.2, HI1.out⟩⟩
      case rest =>
        obtain ⟨q1, r1, K, HI1⟩ := hcut
        have d1 := K.c1
        have m0 := K.ps.rf.c0
        have m1 := K.ps.rf.c1
        have m3 := K.ps.rf.c3
        rw [HI1.out.1.top] at m0
        rw [HI1.out.1.bot] at m1
        have htop := Lib.hid (fun (W1 : World) (e : W1.heap = wc.heap) => top_same K.ps.ds e)
        have hbot := Lib.hid (fun (W1 : World) (e : W1.heap = wc.heap) => bot_same K.ps.ds e)
        have hbel := Lib.hid (fun (W1 : World) (hb : Below wc.heap.size wc W1) => K.ps.below hb)
        have hbu := Lib.hid (fun (k : Int) (o : Bool) (ho : o = (decide (0 ≤ k ∧ k < 8) && decide ((q1.th k.toNat).nx ≠ .no))) (W1 : World) (e : W1.heap = wc.heap) => busy_same K.ps.ds e k o ho)
        have hth := Lib.hid (fun n hn => K.ps.rf.t0 n hn)
        have hwi : wrap64 ((i : Int) + 1) = (i : Int) + 1 := wrE _ (by have := HLT.out; omega) (by have := HLT.out; omega)
        have HWI := Lib.hid hwi
        clear K0 HI K hwi
        generalize q1.top = tp at *
        generalize q1.bot = bt at *
        by_cases h1 : k < 0
        · have hbz := Lib.hid (fun (W1 : World) (e : W1.heap = wc.heap) => hbu.out k false (busy_out q1 k (by omega)) W1 e)
          have hk0 : decide (0 ≤ k) = false := decide_eq_false (by omega)
          clear h1 hbu
          go_wp2_with fail
          go_quiet (first | (go_at_call 22; exact Calls.quiet_of_same (htop.out _ (by rfl))) | (go_at_call 23; exact Calls.quiet_of_same (hbot.out _ (by rfl))) | (go_at_call 13; exact Calls.quiet_of_same (hbz.out _ (by rfl))))
          obtain ⟨wd, hwd⟩ : ∃ wd, wd = wc.drewN nq := ⟨_, rfl⟩
          have hh : wd.heap = wc.heap := by rw [hwd]; rfl
          have htop2 := Lib.hid (fun (W1 : World) (e : W1.heap = wd.heap) => htop.out W1 (e.trans hh))
          have hbot2 := Lib.hid (fun (W1 : World) (e : W1.heap = wd.heap) => hbot.out W1 (e.trans hh))
          have hbz2 := Lib.hid (fun (W1 : World) (e : W1.heap = wd.heap) => hbz.out W1 (e.trans hh))
          have hbel2 := Lib.hid (fun (n : Nat) => hbel.out (wd.drewN n) (by rw [hwd]; exact (belN wc nq).trans ((belN _ n).mono (Nat.le_refl _))))
          have d1 : wd.cell? ⟨Bx, 1, none⟩ = _ := (show wd.cell? _ = wc.cell? _ by rw [hwd]; rfl).trans d1
          have m0 : wd.cell? ⟨c, 0, none⟩ = _ := (show wd.cell? _ = wc.cell? _ by rw [hwd]; rfl).trans m0
          have m1 : wd.cell? ⟨c, 1, none⟩ = _ := (show wd.cell? _ = wc.cell? _ by rw [hwd]; rfl).trans m1
          rw [← hwd]
          clear hwd hh htop hbot hbz hbel
          go_wp2_with fail
          go_quiet (first | (go_at_call 22; exact Calls.quiet_of_same (htop2.out _ (by rfl))) | (go_at_call 23; exact Calls.quiet_of_same (hbot2.out _ (by rfl))) | (go_at_call 13; exact Calls.quiet_of_same (hbz2.out _ (by rfl))))
          go_wp2
          have hwi := HWI.out
          go_roundw
          case rel => exact ⟨i + 1, q1, r1, HLT.out.1, by first | rfl | (rw [hwi]; rfl), hbel2.out _, HI1⟩
          case measure => first | exact meas1 len i HLT.out.1 | (rw [hwi]; exact meas1 len i HLT.out.1)
        · by_cases h2 : 8 ≤ k
          · have hbz := Lib.hid (fun (W1 : World) (e : W1.heap = wc.heap) => hbu.out k false (busy_out q1 k (by omega)) W1 e)
            have hk0 : decide (0 ≤ k) = true := decide_eq_true (by omega)
            have hk8 : decide (k < 8) = false := decide_eq_false (by omega)
            clear h1 h2 hbu
            go_wp2_with fail
            go_quiet (first | (go_at_call 22; exact Calls.quiet_of_same (htop.out _ (by rfl))) | (go_at_call 23; exact Calls.quiet_of_same (hbot.out _ (by rfl))) | (go_at_call 13; exact Calls.quiet_of_same (hbz.out _ (by rfl))))
            obtain ⟨wd, hwd⟩ : ∃ wd, wd = wc.drewN nq := ⟨_, rfl⟩
            have hh : wd.heap = wc.heap := by rw [hwd]; rfl
            have htop2 := Lib.hid (fun (W1 : World) (e : W1.heap = wd.heap) => htop.out W1 (e.trans hh))
            have hbot2 := Lib.hid (fun (W1 : World) (e : W1.heap = wd.heap) => hbot.out W1 (e.trans hh))
            have hbz2 := Lib.hid (fun (W1 : World) (e : W1.heap = wd.heap) => hbz.out W1 (e.trans hh))
            have hbel2 := Lib.hid (fun (n : Nat) => hbel.out (wd.drewN n) (by rw [hwd]; exact (belN wc nq).trans ((belN _ n).mono (Nat.le_refl _))))
            have d1 : wd.cell? ⟨Bx, 1, none⟩ = _ := (show wd.cell? _ = wc.cell? _ by rw [hwd]; rfl).trans d1
            have m0 : wd.cell? ⟨c, 0, none⟩ = _ := (show wd.cell? _ = wc.cell? _ by rw [hwd]; rfl).trans m0
            have m1 : wd.cell? ⟨c, 1, none⟩ = _ := (show wd.cell? _ = wc.cell? _ by rw [hwd]; rfl).trans m1
            rw [← hwd]
            clear hwd hh htop hbot hbz hbel
            go_wp2_with fail
            go_quiet (first | (go_at_call 22; exact Calls.quiet_of_same (htop2.out _ (by rfl))) | (go_at_call 23; exact Calls.quiet_of_same (hbot2.out _ (by rfl))) | (go_at_call 13; exact Calls.quiet_of_same (hbz2.out _ (by rfl))))
            go_wp2
            have hwi := HWI.out
            go_roundw
            case rel => exact ⟨i + 1, q1, r1, HLT.out.1, by first | rfl | (rw [hwi]; rfl), hbel2.out _, HI1⟩
            case measure => first | exact meas1 len i HLT.out.1 | (rw [hwi]; exact meas1 len i HLT.out.1)
          · obtain ⟨n, rfl⟩ : ∃ n : Nat, k = n := ⟨k.toNat, by omega⟩
            have hn : n < 8 := by omega
            have hbz := Lib.hid (fun (W1 : World) (e : W1.heap = wc.heap) => hbu.out n _ (busy_in q1 n hn) W1 e)
            have t0 := hth.out n hn
            rw [rl_on (HI1.out.1.th n hn)] at t0
            have hk0 : decide (0 ≤ (n : Int)) = true := decide_eq_true (by omega)
            have hk8 : decide ((n : Int) < 8) = true := decide_eq_true (by omega)
            have hk9 : (n : Int) < 8 := by omega
            have hkp : (0 : Int) ≤ n := by omega
            clear h1 h2 hbu
            generalize decide ((q1.th n).nx ≠ .no) = ob at *
            go_wp2_with fail
            go_quiet (first | (go_at_call 22; exact Calls.quiet_of_same (htop.out _ (by rfl))) | (go_at_call 23; exact Calls.quiet_of_same (hbot.out _ (by rfl))) | (go_at_call 13; exact Calls.quiet_of_same (hbz.out _ (by rfl))))
            obtain ⟨wd, hwd⟩ : ∃ wd, wd = wc.drewN nq := ⟨_, rfl⟩
            have hh : wd.heap = wc.heap := by rw [hwd]; rfl
            have htop2 := Lib.hid (fun (W1 : World) (e : W1.heap = wd.heap) => htop.out W1 (e.trans hh))
            have hbot2 := Lib.hid (fun (W1 : World) (e : W1.heap = wd.heap) => hbot.out W1 (e.trans hh))
            have hbz2 := Lib.hid (fun (W1 : World) (e : W1.heap = wd.heap) => hbz.out W1 (e.trans hh))
            have hbel2 := Lib.hid (fun (n : Nat) => hbel.out (wd.drewN n) (by rw [hwd]; exact (belN wc nq).trans ((belN _ n).mono (Nat.le_refl _))))
            have d1 : wd.cell? ⟨Bx, 1, none⟩ = _ := (show wd.cell? _ = wc.cell? _ by rw [hwd]; rfl).trans d1
            have m0 : wd.cell? ⟨c, 0, none⟩ = _ := (show wd.cell? _ = wc.cell? _ by rw [hwd]; rfl).trans m0
            have m1 : wd.cell? ⟨c, 1, none⟩ = _ := (show wd.cell? _ = wc.cell? _ by rw [hwd]; rfl).trans m1
            rw [← hwd]
            clear hwd hh htop hbot hbz hbel
            go_wp2_with fail
            go_quiet (first | (go_at_call 22; exact Calls.quiet_of_same (htop2.out _ (by rfl))) | (go_at_call 23; exact Calls.quiet_of_same (hbot2.out _ (by rfl))) | (go_at_call 13; exact Calls.quiet_of_same (hbz2.out _ (by rfl))))
            go_wp2
            have hwi := HWI.out
            go_roundw
            case rel => exact ⟨i + 1, q1, r1, HLT.out.1, by first | rfl | (rw [hwi]; rfl), hbel2.out _, HI1⟩
            case measure => first | exact meas1 len i HLT.out.1 | (rw [hwi]; exact meas1 len i HLT.out.1)
    · obtain rfl : i = len := Nat.le_antisymm hi (Nat.le_of_not_lt hlt)
      have hbd := ir_bounds HI.out.2 (by omega)
      have hl := items_len q
      have hri := rel_items HI.out.1
      have HT := HI.out.1.top
      have HBt := HI.out.1.bot
      have hl64 : (items q).length ≤ 64 := by omega
      have HA := Lib.hid (ds_items M.ds (items q) rfl hbd.1 hbd.2.1 hbd.2.2)
      have HM := Lib.hid (fun (W1 : World) (hb : Below wr.heap.size wr W1) => mitems_any (M.rf.below hb) (by rw [HT]; exact hbd.1) (by rw [HBt]; exact hbd.2.1) (by rw [HT, HBt]; exact hbd.2.2))
      rw [hri] at HM
      clear hr hlt hbd hl hri HT HBt M
      generalize items q = l at *
      go_wp2_with fail
      refine HA.out.mono ?_
      rintro e w7 ⟨ia, ic, rfl, ho7, M7, g7⟩
      go_wp2_with fail
      refine (HM.out _ g7).mono ?_
      rintro e w8 ⟨v8, rfl, ho8, g8⟩
      obtain ⟨ja, jc, rfl⟩ := own_slice ho8
      have HL := (ls_own ho7).below g8
      have HS := Lib.hid (same_any l l ia ja l.length l.length ic jc w8 (fun x hx => ls_cell HL x hx) (fun x hx => own_cell ho8 x hx) rfl rfl (by omega))
      have HB := Lib.hid (M7.below g8).bel
      clear ho7 M7 g7 ho8 g8 HL HA HM
      go_wp2_with fail
      refine HS.out.mono ?_
      rintro e w9 ⟨rfl, mm, rfl⟩
      go_wp2
      go_ret
      exact ⟨rfl, HB.out.trans ((fr_drewN w8 (fun _ => False) mm).below HB.out.size (fun k e => e.elim))⟩
end Go.Proofs.Ytldobbdaokjgaaa
