/- ParkPlays' walk. -/
import Derived.Test.YtpmkdhaponhacaaDoorP21
import Derived.Test.YtpmkdhaponhacaaDoorP16
import Derived.Deep.DeepCutAuto
import Derived.Deep.RegionHeld3
namespace Go.Proofs.YtpmkdhaponhacaaDoor
open Go.RowKit Go.ChangeShapes Go.WideShapes Go.Deep
set_option linter.unusedVariables false
set_option linter.unusedSimpArgs false
theorem belN (w : World) (n : Nat) : Below w.heap.size w (w.drewN n) := gb_below (gb_drewN w n none) (Nat.le_refl _) (fun k e => by cases e)
theorem belD (w : World) : Below w.heap.size w w.drew := ⟨rfl, rfl, rfl, Nat.le_refl _, fun _ _ => rfl⟩
theorem Ow.below {w wr w1 : World} {b p : Nat} {q : Q} (h : Ow w wr b p q) (f : Below wr.heap.size wr w1) : Ow w w1 b p q :=
  ⟨h.l.below f, h.wf, ⟨f.os.trans h.bel.os, f.tape.trans h.bel.tape, f.output.trans h.bel.output, Nat.le_trans h.bel.size f.size, fun k hk => (f.block k (by have := h.bel.size; omega)).trans (h.bel.block k hk)⟩, h.hb, h.hp⟩
theorem Ow.far {w wr w1 : World} {b p c g : Nat} {q : Q} (h : Ow w wr b p q) (f : Fr wr w1 (S2 c g)) (d : c ≠ b ∧ c ≠ p ∧ g ≠ b ∧ g ≠ p) (l : w.heap.size ≤ c ∧ w.heap.size ≤ g) (h1 : 1 < w.heap.size) : Ow w w1 b p q :=
  ⟨h.l.frame f (by unfold S2; omega) (by unfold S2; omega) (by unfold S2; omega), h.wf, bel_fr h.bel f h.bel.size l.1 l.2, h.hb, h.hp⟩
/-- the lot and the reference's one, side by side -/
structure Bo (w0 w : World) (b p c g : Nat) (q : Q) (r : R) : Prop where
  ow : Ow w0 w b p q
  rf : Rf w c g r
  d : c ≠ b ∧ c ≠ p ∧ g ≠ b ∧ g ≠ p
  l : w0.heap.size ≤ c ∧ w0.heap.size ≤ g
  one : 1 < w0.heap.size
section
variable {w0 w w1 : World} {b p c g : Nat} {q q' : Q} {r r' : R}
theorem Bo.below (h : Bo w0 w b p c g q r) (f : Below w.heap.size w w1) : Bo w0 w1 b p c g q r := { h with ow := h.ow.below f, rf := h.rf.below f }
theorem Bo.ours (h : Bo w0 w b p c g q r) (h' : Lq w1 b p q') (hf : Wf q') (f : Fr w w1 (S2 b p)) : Bo w0 w1 b p c g q' r :=
  { h with ow := h.ow.to h' hf f, rf := h.rf.frame f (by unfold S2; have := h.d; omega) (by unfold S2; have := h.d; omega) }
theorem Bo.theirs (h : Bo w0 w b p c g q r) (h' : Rf w1 c g r') (f : Fr w w1 (S2 c g)) : Bo w0 w1 b p c g q r' :=
  { h with rf := h', ow := h.ow.far f h.d h.l h.one }
end
def mvf (bg : Bool) (k x : Int) (j : Nat) : Value := if j = 0 then .bool bg else if j = 1 then .int .i64 k else .int .i64 x
structure Px (w0 w : World) (b p c g : Nat) (q : Q) (r : R) (B : Nat) (bg : Bool) (k x : Int) : Prop where
  bo : Bo w0 w b p c g q r
  bx : w.rowIs B 42 3 (mvf bg k x)
  nb : B ≠ b ∧ B ≠ p ∧ B ≠ c ∧ B ≠ g
section
variable {w0 w w1 : World} {b p c g : Nat} {q q' : Q} {r r' : R} {B : Nat} {bg : Bool} {k x : Int}
theorem Px.new (h : Bo w0 w b p c g q r) (bg : Bool) (k x : Int) : Px w0 (w.alloc (.cells #[.bool bg, .int .i64 k, .int .i64 x] 42)) b p c g q r w.heap.size bg k x :=
  ⟨h.below ((Below.refl w.heap.size w).alloc (Nat.le_refl _) _), row_new w _ 42 3 _ rfl (fun i hi => by match i, hi with | 0, _ => rfl | 1, _ => rfl | 2, _ => rfl),
    by have := h.ow.l.s.lt; have := h.ow.l.t.lt; have := h.rf.s.lt; have := h.rf.t.lt; omega⟩
theorem Px.c0 (h : Px w0 w b p c g q r B bg k x) : w.cell? ⟨B, 0, none⟩ = some (.bool bg) := row_val h.bx (by omega) rfl
theorem Px.c1 (h : Px w0 w b p c g q r B bg k x) : w.cell? ⟨B, 1, none⟩ = some (.int .i64 k) := row_val h.bx (by omega) rfl
theorem Px.c2 (h : Px w0 w b p c g q r B bg k x) : w.cell? ⟨B, 2, none⟩ = some (.int .i64 x) := row_val h.bx (by omega) rfl
theorem Px.below (h : Px w0 w b p c g q r B bg k x) (f : Below w.heap.size w w1) : Px w0 w1 b p c g q r B bg k x := { h with bo := h.bo.below f, bx := row_below h.bx f h.bx.lt }
theorem px_begin1 (h : Px w0 w b p c g q r B bg k x) (K o e : Int) (he : begin q K o = (e, q')) : Calls Tryd.prog 16 #[.pointer (some ⟨b, 0, none⟩), .int .i64 K, .int .i64 o] w fun e' w' => e' = .returned (.int .i64 e) ∧ Px w0 w' b p c g q' r B bg k x := by
  have hc := begin_any h.bo.ow.l K o
  have hf := wf_begin h.bo.ow.wf K o
  rw [he] at hc hf
  refine hc.mono ?_
  rintro e' w' ⟨rfl, h', f⟩
  exact ⟨rfl, h.bo.ours h' hf f, row_fr h.bx f (by unfold S2; have := h.nb; omega), h.nb⟩
theorem px_step1 (h : Px w0 w b p c g q r B bg k x) (K s1 : Int) (s2 : Nat) (s3 : Int) (he : step q K = ((s1, s2, s3), q')) : Calls Tryd.prog 18 #[.pointer (some ⟨b, 0, none⟩), .int .i64 K] w fun e' w' => e' = .returned (.tuple #[.int .i64 s1, .int .i64 (s2 : Int), .int .i64 s3]) ∧ Px w0 w' b p c g q' r B bg k x := by
  have hc := step_any h.bo.ow.l K h.bo.ow.wf.who
  have hf := wf_step h.bo.ow.wf K
  rw [he] at hc hf
  refine hc.mono ?_
  rintro e' w' ⟨rfl, h', f⟩
  exact ⟨rfl, h.bo.ours h' hf f, row_fr h.bx f (by unfold S2; have := h.nb; omega), h.nb⟩
theorem px_begin2 (h : Px w0 w b p c g q r B bg k x) {qo : Q} {i : Nat} (R0 : Rel qo r i) (K o e : Int) (he : begin qo K o = (e, q')) : Calls Tryd.prog 17 #[.pointer (some ⟨c, 0, none⟩), .int .i64 K, .int .i64 o] w fun e' w' => e' = .returned (.int .i64 e) ∧ ∃ r', Px w0 w' b p c g q r' B bg k x ∧ Rel q' r' i := by
  have hc := rbegin_any h.bo.rf K o
  have hr := rel_begin R0 K o
  rw [he] at hr
  unfold Pk at hc
  rw [hr.1] at hc
  refine hc.mono ?_
  rintro e' w' ⟨rfl, h', f⟩
  exact ⟨rfl, _, ⟨h.bo.theirs h' f, row_fr h.bx f (by unfold S2; have := h.nb; omega), h.nb⟩, hr.2⟩
theorem px_step2 (h : Px w0 w b p c g q r B bg k x) {qo : Q} {i : Nat} (R0 : Rel qo r i) (hi : i ≤ 100000000000000) (K s1 : Int) (s2 : Nat) (s3 : Int) (he : step qo K = ((s1, s2, s3), q')) : Calls Tryd.prog 19 #[.pointer (some ⟨c, 0, none⟩), .int .i64 K] w fun e' w' => e' = .returned (.tuple #[.int .i64 s1, .int .i64 (s2 : Int), .int .i64 s3]) ∧ ∃ r', Px w0 w' b p c g q r' B bg k x ∧ Rel q' r' (i + 1) := by
  have hc := rstep_any h.bo.rf K (mq qo) (rel_least R0) (rel_ok R0)
  have hr := rel_step R0 K hi
  rw [he] at hr
  unfold Ps at hc
  rw [hr.1] at hc
  refine hc.mono ?_
  rintro e' w' ⟨rfl, h', f⟩
  exact ⟨rfl, _, ⟨h.bo.theirs h' f, row_fr h.bx f (by unfold S2; have := h.nb; omega), h.nb⟩, hr.2⟩
end
/-- the script -/
def Mvs (w : World) (a : Option Addr) (len : Nat) (bg : Nat → Bool) (th x : Nat → Int) : Prop :=
  ∀ i, i < len → ∃ b off, a = some ⟨b, off, none⟩ ∧ b < w.heap.size ∧ w.cell? ⟨b, off + i * 3, none⟩ = some (.bool (bg i)) ∧ w.cell? ⟨b, off + i * 3 + 1, none⟩ = some (.int .i64 (th i)) ∧ w.cell? ⟨b, off + i * 3 + 2, none⟩ = some (.int .i64 (x i))
theorem moves_read {H : Type} {enc : TypeId × Value → H} {w : World} {v : Value} {d : DataW H} {p : List MemPlace} (h : DataW.Trod enc Tryd.prog w 0 (fun _ => true) true 35 v d p) (hv : ∃ a len cap, v = .slice a len cap) :
    ∃ (a : Option Addr) (len cap : Nat) (bg : Nat → Bool) (th x : Nat → Int), v = .slice a len cap ∧ Mvs w a len bg th x ∧ (len = 0 ∨ ∃ el sp, d = .slice el sp ∧ el.length = len) := by
  obtain ⟨a, len, cap, rfl, _, hr, hd0⟩ := slice_reads Tryd.underlying35 3 (by kernel_rfl) (by omega) h hv
  have key : ∀ i, i < len → ∃ x : Bool × Int × Int, ∃ b off, a = some ⟨b, off, none⟩ ∧ b < w.heap.size ∧ w.cell? ⟨b, off + i * 3, none⟩ = some (.bool x.1) ∧ w.cell? ⟨b, off + i * 3 + 1, none⟩ = some (.int .i64 x.2.1) ∧ w.cell? ⟨b, off + i * 3 + 2, none⟩ = some (.int .i64 x.2.2) := fun i hi => by
    obtain ⟨b, off, cs, n, x, rfl, hb, hlen, hc, hd⟩ := hr i hi
    obtain ⟨xs, n', rfl, _, _, hxs, hf⟩ := DataW.trod_struct Tryd.underlying42 hd
    have hxl : xs.length = 3 := hxs
    match cs, hlen with
    | [c0, c1, c2], _ =>
      have f0 := hf 0 _ rfl
      have f1 := hf 1 _ rfl
      have f2 := hf 2 _ rfl
      rw [List.getElem?_eq_getElem (by omega)] at f0 f1 f2
      have h4 := cells4
      have h3 := cells3
      simp [h4, h3] at f0 f1 f2
      obtain ⟨b0, e0, _⟩ := DataW.trod_bool Tryd.underlying4 f0
      obtain ⟨n1, e1, _, _⟩ := DataW.trod_int Tryd.underlying3 f1
      obtain ⟨n2, e2, _, _⟩ := DataW.trod_int Tryd.underlying3 f2
      have e0' : c0 = .bool b0 := by simpa using e0
      have e1' : c1 = .int .i64 n1 := by simpa using e1
      have e2' : c2 = .int .i64 n2 := by simpa using e2
      have k0 := hc 0 (by omega)
      have k1 := hc 1 (by omega)
      have k2 := hc 2 (by omega)
      refine ⟨(b0, n1, n2), b, off, rfl, hb, ?_, ?_, ?_⟩
      · rw [← e0']; simpa using k0
      · rw [← e1', show off + i * 3 + 1 = off + (i * 3 + 1) by omega]; simpa using k1
      · rw [← e2', show off + i * 3 + 2 = off + (i * 3 + 2) by omega]; simpa using k2
  obtain ⟨z, hz⟩ := Go.Deep.choose_lt key
  exact ⟨a, len, cap, fun i => (z i).1, fun i => (z i).2.1, fun i => (z i).2.2, rfl, hz, hd0⟩
theorem busy_out (q : Q) (k : Int) (h : ¬ (0 ≤ k ∧ k < (q.n : Int))) : false = (decide (0 ≤ k ∧ k < (q.n : Int)) && decide ((q.th k.toNat).nx ≠ .no)) := by rw [decide_eq_false h]; rfl
theorem busy_in (q : Q) (n : Nat) (h : n < q.n) : decide ((q.th n).nx ≠ .no) = (decide (0 ≤ (n : Int) ∧ (n : Int) < (q.n : Int)) && decide ((q.th (n : Int).toNat).nx ≠ .no)) := by
  rw [show decide (0 ≤ (n : Int) ∧ (n : Int) < (q.n : Int)) = true from decide_eq_true (by omega), Int.toNat_natCast, Bool.true_and]
theorem parked_out (q : Q) (k : Int) (h : ¬ (0 ≤ k ∧ k < (q.n : Int))) : false = (decide (0 ≤ k ∧ k < (q.n : Int)) && (q.th k.toNat).pk) := by rw [decide_eq_false h]; rfl
theorem parked_in (q : Q) (n : Nat) (h : n < q.n) : (q.th n).pk = (decide (0 ≤ (n : Int) ∧ (n : Int) < (q.n : Int)) && (q.th (n : Int).toNat).pk) := by
  rw [show decide (0 ≤ (n : Int) ∧ (n : Int) < (q.n : Int)) = true from decide_eq_true (by omega), Int.toNat_natCast, Bool.true_and]
theorem zero42 (w : World) : (zeroValue 42).run Tryd.prog w = .ok (.agg #[.bool false, .int .i64 0, .int .i64 0]) w := by kernel_rfl
theorem rel_more {q : Q} {r : R} {i : Nat} (h : Rel q r i) : Rel q r (i + 1) := { h with wi := by have := h.wi; omega }
set_option maxRecDepth 100000 in
set_option maxHeartbeats 16000000 in
theorem plays_any (s : Int) (a : Option Addr) (len cap : Nat) (bg : Nat → Bool) (th x : Nat → Int) (w : World) (hT : Tab w 1) (hr : Mvs w a len bg th x) (hlen : len ≤ 100000000000000) :
    Calls Tryd.prog 5 #[.int .i64 s, .slice a len cap] w fun e w' => e = .returned (.bool true) ∧ Below w.heap.size w w' := by
  have hz42 := zero42
  have HI0 := Lib.hid (rel_new s)
  have hone := tab_lt hT
  have HL := Lib.hid (lives_any w hT)
  have HT := Lib.hid hT
  clear hT
  go_enter Tryd.func5, Tryd.ntmps5
  go_wp2_with fail
  refine HL.out.mono ?_
  rintro e w1 ⟨rfl, g1⟩
  have t1 := tab_below HT.out g1 hone
  clear HL HT
  go_wp2_with fail
  refine (ow_newc s w1 t1).mono ?_
  rintro e w2 ⟨b, p, rfl, h2⟩
  go_wp2_with fail
  refine (rnew_any s w2).mono ?_
  rintro e w3 ⟨c, g, rfl, h3, f3, l1, l2⟩
  have P0 : Bo w w3 b p c g (Q0 (nw s + 1)) (R0 (nw s + 1)) := by
    have q1 := h2.l.s.lt
    have q2 := h2.l.t.lt
    have q3 := h2.bel.size
    have q4 := g1.size
    have h4 := h2.below (f3.below (Nat.le_refl _) (fun k e => e.elim))
    exact ⟨⟨h4.l, h4.wf, bel_trans g1 ⟨h4.bel.os, h4.bel.tape, h4.bel.output, h4.bel.size, fun k hk => h4.bel.block k (by omega)⟩, by have := h4.hb; omega, by have := h4.hp; omega⟩, h3, by omega, by omega, hone⟩
  have c2 := h3.c2
  have en : (R0 (nw s + 1)).n = nw s + 1 := rfl
  have en2 : (Q0 (nw s + 1)).n = nw s + 1 := rfl
  rw [en] at c2
  have hsz : Hid (∀ (W1 : World), W1.heap = w3.heap → Calls Tryd.prog 11 #[.pointer (some ⟨b, 0, none⟩)] W1 fun e w' => e = .returned (.int .i64 ((nw s : Nat) : Int)) ∧ w' = W1) := Lib.hid (fun (W1 : World) (e : W1.heap = w3.heap) => workers_any (P0.ow.l.same e))
  have HP0 := Lib.hid P0
  have hne : (((nw s : Nat) : Int) != wrap64 ((nw s : Nat) : Int)) = false := by
    have : wrap64 ((nw s : Nat) : Int) = ((nw s : Nat) : Int) := by have := nw_hi s; unfold wrap64; omega
    rw [this]
    simp
  clear h2 h3 f3 l1 l2 g1 P0 en en2 t1
  generalize hQ0 : Q0 (nw s + 1) = qz at *
  generalize hR0 : R0 (nw s + 1) = rz at *
  clear hQ0 hR0
  generalize nw s = M at *
  go_wp2_with fail
  go_quiet (first | (go_at_call 11; exact Calls.quiet_of_same (hsz.out _ (by rfl))))
  have P1 := HP0.out.below (belN w3 nq)
  clear HP0 hsz c2
  generalize w3.drewN nq = W1 at *
  go_wp2
  clear hne
  go_loopw [7] (fun kv wr => ∃ (i : Nat) (q : Q) (r : R), i ≤ len ∧ kv = .int .i64 i ∧ Bo w wr b p c g q r ∧ Hid (Rel q r i)) (fun kv wr => len - (intOf kv).toNat)
  case atStart => exact ⟨0, _, _, Nat.zero_le _, rfl, P1, HI0⟩
  case round =>
    clear P1 HI0
    obtain ⟨i, q, r, hi, rfl, M, HI⟩ := hrel
    by_cases hlt : i < len
    · obtain ⟨sb, so, rfl, hsb, k0, k1, k2⟩ := hr i hlt
      have c0 := (M.ow.bel.cell (p := ⟨sb, so + i * 3, none⟩) hsb).trans k0
      have c1 := (M.ow.bel.cell (p := ⟨sb, so + i * 3 + 1, none⟩) hsb).trans k1
      have c2 := (M.ow.bel.cell (p := ⟨sb, so + i * 3 + 2, none⟩) hsb).trans k2
      have hi3 : (i : Int) < (len : Int) := by omega
      have hi0 : (0 : Int) ≤ (i : Int) := by omega
      have HR := Lib.hid hr
      have HLT := Lib.hid (And.intro hlt hlen)
      have HO := Lib.hid hone
      have K0 := Px.new M (bg i) (th i) (x i)
      clear k0 k1 k2 hr hlt M hone
      generalize bg i = bgi at *
      generalize th i = k at *
      generalize x i = o at *
      go_upto_if 42 with fail
      generalize wr.alloc (.cells #[.bool bgi, .int .i64 k, .int .i64 o] 42) = W0 at *
      generalize wr.heap.size = Bx at *
      clear c0 c1 c2
      go_cut [] (fun wx => ∃ (q' : Q) (r' : R), Px w wx b p c g q' r' Bx bgi k o ∧ Hid (Rel q' r' (i + 1)))
      case first =>
        have d0 := K0.c0
        have d1 := K0.c1
        have d2 := K0.c2
        cases bgi
        · obtain ⟨s1, s2, s3, q1, hs⟩ : ∃ s1 s2 s3 q1, step q k = ((s1, s2, s3), q1) := ⟨_, _, _, _, rfl⟩
          have HS := Lib.hid hs
          clear hs
          go_wp2_with fail
          refine (px_step1 K0 k s1 s2 s3 HS.out).mono ?_
          rintro e W1' ⟨rfl, K1⟩
          have y1 := K1.c1
          clear K0
          go_wp2_with fail
          refine (px_step2 K1 HI.out (by have := HLT.out; omega) k s1 s2 s3 HS.out).mono ?_
          rintro e W3 ⟨rfl, r2, K3, R2⟩
          have HK3 := Lib.hid K3
          have HR2 := Lib.hid R2
          clear K1 K3 R2 y1
          go_wp2
          go_meet
          exact ⟨q1, r2, HK3.out, HR2⟩
        · obtain ⟨e1, q1, hs⟩ : ∃ e1 q1, begin q k o = (e1, q1) := ⟨_, _, rfl⟩
          have HS := Lib.hid hs
          clear hs
          have HP := Lib.hid (fun (W1 : World) (hb : Below W0.heap.size W0 W1) => px_begin1 (K0.below hb) k o e1 HS.out)
          have HM := Lib.hid (fun (W1 : World) (hm : Px w W1 b p c g q1 r Bx true k o) => px_begin2 hm HI.out k o e1 HS.out)
          clear K0
          go_wp2
          go_region_held3 (fun w' => w'.cell? ⟨Bx, 1, none⟩ = some (.int .i64 k) ∧ w'.cell? ⟨Bx, 2, none⟩ = some (.int .i64 o)) (first | exact ⟨d1, d2⟩ | exact ⟨f1, f2⟩ | exact ⟨y1, y2⟩) (first | (go_at_call 16; refine (HP.out _ (belD _)).mono ?_; rintro e W1 ⟨rfl, K1⟩; have f1 := K1.c1; have f2 := K1.c2; have HK1 := Lib.hid K1; clear K1) | (go_at_call 17; refine (HM.out _ HK1.out).mono ?_; rintro e W2 ⟨rfl, r2, K2, R2⟩; have y1 := K2.c1; have y2 := K2.c2; have HK2 := Lib.hid (And.intro K2 R2); clear K2 R2))
          all_goals go_wp2
          all_goals go_meet
          all_goals exact ⟨q1, r2, HK2.out.1, Lib.hid (rel_more HK2.out.2)⟩
      case rest =>
        obtain ⟨q1, r1, K, HI1⟩ := hcut
        have d1 := K.c1
        have m0 := K.bo.rf.c0
        have m2 := K.bo.rf.c2
        rw [HI1.out.work] at m0
        rw [HI1.out.n] at m2
        have hwork := Lib.hid (fun (W1 : World) (e : W1.heap = wc.heap) => work_any (K.bo.ow.l.same e))
        have hbel := Lib.hid (fun (W1 : World) (hb : Below wc.heap.size wc W1) => K.below hb)
        have hbu := Lib.hid (fun (k : Int) (o : Bool) (ho : o = (decide (0 ≤ k ∧ k < (q1.n : Int)) && decide ((q1.th k.toNat).nx ≠ .no))) (W1 : World) (e : W1.heap = wc.heap) => busy_any (K.bo.ow.l.same e) k o ho)
        have hpu := Lib.hid (fun (k : Int) (o : Bool) (ho : o = (decide (0 ≤ k ∧ k < (q1.n : Int)) && (q1.th k.toNat).pk)) (W1 : World) (e : W1.heap = wc.heap) => parked_any (K.bo.ow.l.same e) k o ho)
        have hth := Lib.hid (fun n hn => K.bo.rf.t0 n hn)
        have htp := Lib.hid (fun n hn => K.bo.rf.t7 n hn)
        have hwi : wrap64 ((i : Int) + 1) = (i : Int) + 1 := wrE _ (by have := HLT.out; omega) (by have := HLT.out; omega)
        have HWI := Lib.hid hwi
        clear K0 HI K hwi
        generalize q1.work = wk at *
        by_cases h1 : k < 0
        · have hbz := Lib.hid (fun (W1 : World) (e : W1.heap = wc.heap) => hbu.out k false (busy_out q1 k (by omega)) W1 e)
          have hpz := Lib.hid (fun (W1 : World) (e : W1.heap = wc.heap) => hpu.out k false (parked_out q1 k (by omega)) W1 e)
          have hk0 : decide (0 ≤ k) = false := decide_eq_false (by omega)
          clear h1 hbu hpu hth htp
          generalize q1.n = NN at *
          go_wp2_with fail
          go_quiet (fail)
          obtain ⟨wd, hwd⟩ : ∃ wd, wd = wc.drewN nq := ⟨_, rfl⟩
          have hh : wd.heap = wc.heap := by rw [hwd]; rfl
          have hwork2 := Lib.hid (fun (W1 : World) (e : W1.heap = wd.heap) => hwork.out W1 (e.trans hh))
          have hpz2 := Lib.hid (fun (W1 : World) (e : W1.heap = wd.heap) => hpz.out W1 (e.trans hh))
          have hbz2 := Lib.hid (fun (W1 : World) (e : W1.heap = wd.heap) => hbz.out W1 (e.trans hh))
          have hbel2 := Lib.hid (fun (n : Nat) => hbel.out (wd.drewN n) (by rw [hwd]; exact (belN wc nq).trans ((belN _ n).mono (Nat.le_refl _))))
          have d1 : wd.cell? ⟨Bx, 1, none⟩ = _ := (show wd.cell? _ = wc.cell? _ by rw [hwd]; rfl).trans d1
          have m0 : wd.cell? ⟨c, 0, none⟩ = _ := (show wd.cell? _ = wc.cell? _ by rw [hwd]; rfl).trans m0
          have m2 : wd.cell? ⟨c, 2, none⟩ = _ := (show wd.cell? _ = wc.cell? _ by rw [hwd]; rfl).trans m2
          rw [← hwd]
          clear hwd hh hwork hbz hpz hbel
          go_wp2_with fail
          go_quiet (first | (go_at_call 13; exact Calls.quiet_of_same (hwork2.out _ (by rfl))) | (go_at_call 12; exact Calls.quiet_of_same (hpz2.out _ (by rfl))) | (go_at_call 20; exact Calls.quiet_of_same (hbz2.out _ (by rfl))))
          go_wp2
          have hwi := HWI.out
          go_roundw
          case rel => exact ⟨i + 1, q1, r1, HLT.out.1, by first | rfl | (rw [hwi]; rfl), (hbel2.out _).bo, HI1⟩
          case measure => first | exact meas1 len i HLT.out.1 | (rw [hwi]; exact meas1 len i HLT.out.1)
        · by_cases h2 : (q1.n : Int) ≤ k
          · have hbz := Lib.hid (fun (W1 : World) (e : W1.heap = wc.heap) => hbu.out k false (busy_out q1 k (by omega)) W1 e)
            have hpz := Lib.hid (fun (W1 : World) (e : W1.heap = wc.heap) => hpu.out k false (parked_out q1 k (by omega)) W1 e)
            have hk0 : decide (0 ≤ k) = true := decide_eq_true (by omega)
            have hk8 : decide (k < (q1.n : Int)) = false := decide_eq_false (by omega)
            clear h1 h2 hbu hpu hth htp
            generalize q1.n = NN at *
            go_wp2_with fail
            go_quiet (fail)
            obtain ⟨wd, hwd⟩ : ∃ wd, wd = wc.drewN nq := ⟨_, rfl⟩
            have hh : wd.heap = wc.heap := by rw [hwd]; rfl
            have hwork2 := Lib.hid (fun (W1 : World) (e : W1.heap = wd.heap) => hwork.out W1 (e.trans hh))
            have hpz2 := Lib.hid (fun (W1 : World) (e : W1.heap = wd.heap) => hpz.out W1 (e.trans hh))
            have hbz2 := Lib.hid (fun (W1 : World) (e : W1.heap = wd.heap) => hbz.out W1 (e.trans hh))
            have hbel2 := Lib.hid (fun (n : Nat) => hbel.out (wd.drewN n) (by rw [hwd]; exact (belN wc nq).trans ((belN _ n).mono (Nat.le_refl _))))
            have d1 : wd.cell? ⟨Bx, 1, none⟩ = _ := (show wd.cell? _ = wc.cell? _ by rw [hwd]; rfl).trans d1
            have m0 : wd.cell? ⟨c, 0, none⟩ = _ := (show wd.cell? _ = wc.cell? _ by rw [hwd]; rfl).trans m0
            have m2 : wd.cell? ⟨c, 2, none⟩ = _ := (show wd.cell? _ = wc.cell? _ by rw [hwd]; rfl).trans m2
            rw [← hwd]
            clear hwd hh hwork hbz hpz hbel
            go_wp2_with fail
            go_quiet (first | (go_at_call 13; exact Calls.quiet_of_same (hwork2.out _ (by rfl))) | (go_at_call 12; exact Calls.quiet_of_same (hpz2.out _ (by rfl))) | (go_at_call 20; exact Calls.quiet_of_same (hbz2.out _ (by rfl))))
            go_wp2
            have hwi := HWI.out
            go_roundw
            case rel => exact ⟨i + 1, q1, r1, HLT.out.1, by first | rfl | (rw [hwi]; rfl), (hbel2.out _).bo, HI1⟩
            case measure => first | exact meas1 len i HLT.out.1 | (rw [hwi]; exact meas1 len i HLT.out.1)
          · obtain ⟨n, rfl⟩ : ∃ n : Nat, k = n := ⟨k.toNat, by omega⟩
            have hn : n < q1.n := by omega
            have hbz := Lib.hid (fun (W1 : World) (e : W1.heap = wc.heap) => hbu.out n _ (busy_in q1 n hn) W1 e)
            have hpz := Lib.hid (fun (W1 : World) (e : W1.heap = wc.heap) => hpu.out n _ (parked_in q1 n hn) W1 e)
            have t0 := hth.out n (by rw [HI1.out.n]; exact hn)
            have t7 := htp.out n (by rw [HI1.out.n]; exact hn)
            rw [rn_on (HI1.out.th n hn).nx] at t0
            rw [(HI1.out.th n hn).pk] at t7
            have hk0 : decide (0 ≤ (n : Int)) = true := decide_eq_true (by omega)
            have hk8 : decide ((n : Int) < (q1.n : Int)) = true := decide_eq_true (by omega)
            have hk9 : (n : Int) < (q1.n : Int) := by omega
            have hkp : (0 : Int) ≤ n := by omega
            clear h1 h2 hbu hpu hth htp hn
            generalize decide ((q1.th n).nx ≠ .no) = ob at *
            generalize (q1.th n).pk = op at *
            generalize q1.n = NN at *
            go_wp2_with fail
            go_quiet (fail)
            obtain ⟨wd, hwd⟩ : ∃ wd, wd = wc.drewN nq := ⟨_, rfl⟩
            have hh : wd.heap = wc.heap := by rw [hwd]; rfl
            have hwork2 := Lib.hid (fun (W1 : World) (e : W1.heap = wd.heap) => hwork.out W1 (e.trans hh))
            have hpz2 := Lib.hid (fun (W1 : World) (e : W1.heap = wd.heap) => hpz.out W1 (e.trans hh))
            have hbz2 := Lib.hid (fun (W1 : World) (e : W1.heap = wd.heap) => hbz.out W1 (e.trans hh))
            have hbel2 := Lib.hid (fun (n : Nat) => hbel.out (wd.drewN n) (by rw [hwd]; exact (belN wc nq).trans ((belN _ n).mono (Nat.le_refl _))))
            have d1 : wd.cell? ⟨Bx, 1, none⟩ = _ := (show wd.cell? _ = wc.cell? _ by rw [hwd]; rfl).trans d1
            have m0 : wd.cell? ⟨c, 0, none⟩ = _ := (show wd.cell? _ = wc.cell? _ by rw [hwd]; rfl).trans m0
            have m2 : wd.cell? ⟨c, 2, none⟩ = _ := (show wd.cell? _ = wc.cell? _ by rw [hwd]; rfl).trans m2
            have t0 : wd.cell? ⟨g, n * 9, none⟩ = _ := (show wd.cell? _ = wc.cell? _ by rw [hwd]; rfl).trans t0
            have t7 : wd.cell? ⟨g, n * 9 + 7, none⟩ = _ := (show wd.cell? _ = wc.cell? _ by rw [hwd]; rfl).trans t7
            rw [← hwd]
            clear hwd hh hwork hbz hpz hbel
            go_wp2_with fail
            go_quiet (first | (go_at_call 13; exact Calls.quiet_of_same (hwork2.out _ (by rfl))) | (go_at_call 12; exact Calls.quiet_of_same (hpz2.out _ (by rfl))) | (go_at_call 20; exact Calls.quiet_of_same (hbz2.out _ (by rfl))))
            go_wp2
            have hwi := HWI.out
            go_roundw
            case rel => exact ⟨i + 1, q1, r1, HLT.out.1, by first | rfl | (rw [hwi]; rfl), (hbel2.out _).bo, HI1⟩
            case measure => first | exact meas1 len i HLT.out.1 | (rw [hwi]; exact meas1 len i HLT.out.1)
    · obtain rfl : i = len := Nat.le_antisymm hi (Nat.le_of_not_lt hlt)
      have HB := Lib.hid M.ow.bel
      clear hr hlt M
      go_wp2
      go_ret
      exact ⟨rfl, HB.out⟩
end Go.Proofs.YtpmkdhaponhacaaDoor
