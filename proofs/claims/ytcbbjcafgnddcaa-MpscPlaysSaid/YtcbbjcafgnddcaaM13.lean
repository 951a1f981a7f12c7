/- MpscCalm's walk. -/
import Derived.Test.YtcbbjcafgnddcaaM12
namespace Go.Proofs.Ytcbbjcafgnddcaa
open Go.RowKit Go.Shelf
set_option linter.unusedVariables false
set_option linter.unusedSimpArgs false
/-- the numbers that came in -/
def Ins (w : World) (a : Option Addr) (len : Nat) (z : Nat → Int) : Prop :=
  ∀ i, i < len → ∃ b off, a = some ⟨b, off, none⟩ ∧ b < w.heap.size ∧ w.cell? ⟨b, off + i, none⟩ = some (.int .i64 (z i))
/-- between two rounds: a calm queue, and its values in a list -/
structure Cl (w W : World) (b : Nat) (S : Nat → Prop) (q : Q) (r : List Nat) (v : Value) (l : List Int) : Prop where
  qs : Qs w W b S q
  I : Inv q r
  off : Off q
  ls : Ls W v l
  eq : l = r.map q.v
  ns : ∀ g, blk v = some g → ¬ S g ∧ w.heap.size ≤ g
/-- the box of an answer: four cells of one's own -/
def Bxr (W : World) (B : Nat) (o t : Bool) (v e : Int) : Prop := W.rowIs B 29 4 (fun i => if i = 0 then .bool o else if i = 1 then .bool t else if i = 2 then .int .i64 v else .int .i64 e)
theorem bx_new {w W : World} {b : Nat} {S : Nat → Prop} {q : Q} (h : Qs w W b S q) (o t : Bool) (v e : Int) : Bxr (W.alloc (.cells #[.bool o, .bool t, .int .i64 v, .int .i64 e] 29)) W.heap.size o t v e ∧ ¬ S W.heap.size ∧ Qs w (W.alloc (.cells #[.bool o, .bool t, .int .i64 v, .int .i64 e] 29)) b S q :=
  ⟨row_new W _ 29 4 _ rfl (fun i hi => by match i, hi with | 0, _ => rfl | 1, _ => rfl | 2, _ => rfl | 3, _ => rfl), h.new, h.alloc _⟩
theorem Bxr.c0 {W : World} {B : Nat} {o t : Bool} {v e : Int} (h : Bxr W B o t v e) : W.cell? ⟨B, 0, none⟩ = some (.bool o) := row_val (show World.rowIs _ _ _ _ _ from h) (by omega) rfl
theorem Bxr.c1 {W : World} {B : Nat} {o t : Bool} {v e : Int} (h : Bxr W B o t v e) : W.cell? ⟨B, 1, none⟩ = some (.bool t) := row_val (show World.rowIs _ _ _ _ _ from h) (by omega) rfl
theorem Bxr.c2 {W : World} {B : Nat} {o t : Bool} {v e : Int} (h : Bxr W B o t v e) : W.cell? ⟨B, 2, none⟩ = some (.int .i64 v) := row_val (show World.rowIs _ _ _ _ _ from h) (by omega) rfl
theorem Bxr.c3 {W : World} {B : Nat} {o t : Bool} {v e : Int} (h : Bxr W B o t v e) : W.cell? ⟨B, 3, none⟩ = some (.int .i64 e) := row_val (show World.rowIs _ _ _ _ _ from h) (by omega) rfl
theorem Bxr.fz {W : World} {B : Nat} {o t : Bool} {v e : Int} (h : Bxr W B o t v e) (i : Nat) : W.frozen? ⟨B, i, none⟩ = false := World.rowIs.frozen h i
/-- a new answer laid into the box -/
theorem bx_set {w W : World} {b B : Nat} {S : Nat → Prop} {q : Q} {o t o' t' : Bool} {v e v' e' : Int} (h : Qs w W b S q) (bx : Bxr W B o t v e) (nb : ¬ S B) (hl : w.heap.size ≤ B) :
    Qs w ((((W.setCell ⟨B, 0, none⟩ (.bool o')).setCell ⟨B, 1, none⟩ (.bool t')).setCell ⟨B, 2, none⟩ (.int .i64 v')).setCell ⟨B, 3, none⟩ (.int .i64 e')) b S q ∧
    Bxr ((((W.setCell ⟨B, 0, none⟩ (.bool o')).setCell ⟨B, 1, none⟩ (.bool t')).setCell ⟨B, 2, none⟩ (.int .i64 v')).setCell ⟨B, 3, none⟩ (.int .i64 e')) B o' t' v' e' :=
  ⟨(((h.set nb hl 0 _).set nb hl 1 _).set nb hl 2 _).set nb hl 3 _, ((((World.rowIs.set bx 0 _).set 1 _).set 2 _).set 3 _).congr (fun i hi => by match i, hi with | 0, _ => rfl | 1, _ => rfl | 2, _ => rfl | 3, _ => rfl)⟩
theorem ls_set4 {W : World} {B : Nat} {v : Value} {l : List Int} (h : Ls W v l) (hn : ∀ g, blk v = some g → g < B) (u0 u1 u2 u3 : Value) :
    Ls ((((W.setCell ⟨B, 0, none⟩ u0).setCell ⟨B, 1, none⟩ u1).setCell ⟨B, 2, none⟩ u2).setCell ⟨B, 3, none⟩ u3) v l :=
  h.of (fun g hg _ => by
    have := hn g hg
    rw [Below.heap_setCell _ _ _ _ (show g ≠ B by omega), Below.heap_setCell _ _ _ _ (show g ≠ B by omega), Below.heap_setCell _ _ _ _ (show g ≠ B by omega), Below.heap_setCell _ _ _ _ (show g ≠ B by omega)])
def Busy0 (q : Q) (k : Nat) : Prop := (q.th k).on = false
structure Bq (w W : World) (b : Nat) (S : Nat → Prop) (q : Q) (B : Nat) (o t : Bool) (v e : Int) (vl : Value) (l : List Int) : Prop where
  qs : Qs w W b S q
  bx : Bxr W B o t v e
  nb : ¬ S B
  hl : w.heap.size ≤ B
  ls : Ls W vl l
  ns : ∀ g, blk vl = some g → ¬ S g ∧ w.heap.size ≤ g ∧ g < B
section
variable {w W W' : World} {b : Nat} {S S' : Nat → Prop} {q q' : Q} {B : Nat} {o t : Bool} {v e : Int} {vl : Value} {l : List Int}
theorem Bq.nx (k : Bq w W b S q B o t v e vl l) (h : Qs w W' b S q') (g : Nx W W' S S) : Bq w W' b S q' B o t v e vl l :=
  ⟨h, (row_nx k.bx k.nb g).1, k.nb, k.hl, k.ls.nx g (fun x hx => (k.ns x hx).1), k.ns⟩
theorem Bq.put (k : Bq w W b S q B o t v e vl l) (o' t' : Bool) (v' e' : Int) : Bq w ((((W.setCell ⟨B, 0, none⟩ (.bool o')).setCell ⟨B, 1, none⟩ (.bool t')).setCell ⟨B, 2, none⟩ (.int .i64 v')).setCell ⟨B, 3, none⟩ (.int .i64 e')) b S q B o' t' v' e' vl l := by
  obtain ⟨h1, h2⟩ := bx_set (o' := o') (t' := t') (v' := v') (e' := e') k.qs k.bx k.nb k.hl
  exact ⟨h1, h2, k.nb, k.hl, ls_set4 k.ls (fun g hg => (k.ns g hg).2.2) _ _ _ _, k.ns⟩
theorem Bq.mk0 (h : Qs w W b S q) (g : Nx W W' S S') (h' : Qs w W' b S' q') (ls : Ls W vl l) (ns : ∀ g, blk vl = some g → ¬ S g ∧ w.heap.size ≤ g) (o t : Bool) (v e : Int) : Bq w (W'.alloc (.cells #[.bool o, .bool t, .int .i64 v, .int .i64 e] 29)) b S' q' W'.heap.size o t v e vl l := by
  obtain ⟨bx, nb, H1⟩ := bx_new h' o t v e
  have hls := ls.nx g (fun k hk => (ns k hk).1)
  exact ⟨H1, bx, nb, h'.bel.size, hls.below ((Below.refl W'.heap.size W').alloc (Nat.le_refl _) _), fun x hx => ⟨fun y => (ns x hx).1 (g.old x (ls_lt ls hx) y), (ns x hx).2, ls_lt hls hx⟩⟩
end
theorem Qs.frD {w0 w w' : World} {b : Nat} {S T : Nat → Prop} {q : Q} (h : Qs w0 w b S q) (g : Fr w w' T) (hd : ∀ k, S k → ¬ T k) (hl : ∀ k, T k → w0.heap.size ≤ k) : Qs w0 w' b S q := by
  obtain ⟨nd, f, i⟩ := h.i
  exact ⟨⟨nd, f, i.frame g hd⟩, h.V, h.bel.trans (g.below h.bel.size hl), h.lo, fun k hk => Nat.lt_of_lt_of_le (h.hi k hk) g.size⟩
/-- a number more in the list -/
theorem Bq.app {w W : World} {b : Nat} {S : Nat → Prop} {q : Q} {B : Nat} {o t : Bool} {v e : Int} {vl : Value} {l : List Int} (k : Bq w W b S q B o t v e vl l) (x : Int) (hl : l.length ≤ 100000) :
    ∃ v' w', (Builtin.append_ #[22, 22] 22 #[vl, .slice (some ⟨W.heap.size, 0, none⟩) 1 1]).run Try.prog (W.alloc (.cells #[.int .i64 x] 2)) = .ok v' w' ∧ Qs w w' b S q ∧ Ls w' v' (l ++ [x]) ∧ ∀ g, blk v' = some g → ¬ S g ∧ w.heap.size ≤ g := by
  have h1 := k.ls.below ((Below.refl W.heap.size W).alloc (Nat.le_refl _) (.cells #[.int .i64 x] 2))
  obtain ⟨v', w', e1, e2, e3, e4⟩ := ls_append h1 22 ⟨W.heap.size, 0, none⟩ x (Boxed.new W 2 (.int .i64 x)).cell hl
  refine ⟨v', w', e1, (k.qs.alloc _).frD e3 (fun j hj e => (k.ns j e).1 hj) (fun j e => (k.ns j e).2.1), e2, fun g hg => ?_⟩
  rcases e4 g hg with h | h
  · exact ⟨(k.ns g h).1, (k.ns g h).2.1⟩
  · rw [World.size_alloc] at h
    refine ⟨fun x => ?_, ?_⟩
    · have := k.qs.hi g x; omega
    · have := k.qs.bel.size; omega
set_option maxRecDepth 100000 in
set_option maxHeartbeats 8000000 in
theorem calm_any (a : Option Addr) (len cap : Nat) (z : Nat → Int) (w : World) (hr : Ins w a len z) (hlen : len ≤ 9223372036854775807) :
    Calls Try.prog 8 #[.slice a len cap] w fun e w' => e = .returned (.bool true) ∧ Below w.heap.size w w' := by
  have hz := zero29
  go_enter Try.func8, Try.ntmps8
  go_wp2_with fail
  refine (lives_any _).mono ?_
  rintro e w1 ⟨rfl, g1⟩
  go_wp2_with fail
  refine (q_new g1).mono ?_
  rintro e w2 ⟨b, S0, rfl, h2⟩
  have C0 : Cl w w2 b S0 Q0 [] (.slice none 0 0) [] := ⟨h2, inv0, fun k _ => rfl, .inl ⟨rfl, rfl⟩, rfl, fun g hg => by cases hg⟩
  clear h2 g1
  have HR := Lib.hid hr
  clear hr
  go_wp2_with fail
  go_loopw [4, 5] (fun v k wr => ∃ (i : Nat) (S : Nat → Prop) (q : Q) (r : List Nat) (l : List Int), i ≤ len ∧ i ≤ 50000 ∧ k = .int .i64 i ∧ Cl w wr b S q r v l ∧ q.n ≤ i + 1 ∧ l.length ≤ i) (fun v k wr => len - (intOf k).toNat)
  case atStart => exact ⟨0, S0, Q0, [], [], by omega, by omega, rfl, C0, by decide, by simp⟩
  case round =>
    clear C0
    obtain ⟨i, S, q, r, l, hi, hi5, rfl, C, hqn, hll⟩ := hrel
    by_cases hlt : i < len ∧ i < 50000
    · obtain ⟨sb, so, rfl, hsb, c0⟩ := HR.out i hlt.1
      have HC0 := Lib.hid c0
      have c0 := (C.qs.bel.cell (p := ⟨sb, so + i, none⟩) hsb).trans c0
      have h1 : (i : Int) < (len : Int) := by omega
      have h2 : (i : Int) < 50000 := by omega
      by_cases hpos : 0 < z i
      · have hk7 := Nat.mod_lt i (show 7 > 0 by omega)
        have hkm : (i : Int) % 7 = ((i % 7 : Nat) : Int) := by simp
        obtain ⟨qa, qb, qc, qd, T⟩ := whole_put C.qs.V C.I C.off (by omega) (1 + i % 7) (by omega) (by omega) (z i)
        generalize z i = zi at *
        have HT := Lib.hid T
        have ht0 := T.e0
        have ht1 := T.e1
        have ht2 := T.e2
        have ht3 := T.e3
        have hcast : ((1 + i % 7 : Nat) : Int) = 1 + ((i % 7 : Nat) : Int) := by omega
        rw [hcast] at ht0 ht1 ht2 ht3
        have HT0 := Lib.hid ht0
        have HT1 := Lib.hid ht1
        have HT2 := Lib.hid ht2
        have HT3 := Lib.hid ht3
        clear ht0 ht1 ht2 ht3 T hcast
        have HB : Hid (Busy0 qd (1 + i % 7)) := Lib.hid (HT.out.off _ (by omega))
        generalize i % 7 = km at *
        obtain ⟨av, cv, rfl⟩ := ls_slice C.ls
        have HC := Lib.hid C
        clear C
        go_wp2_with fail
        have H50 := Lib.hid (And.intro hi5 hlt)
        clear hi5 hlt h2
        refine (q_begin HC.out.qs (1 + (km : Int)) zi 0 qa HT0.out).mono ?_
        rintro e W1 ⟨rfl, S1, hh1, g1⟩
        have K0 := Bq.mk0 HC.out.qs g1 hh1 HC.out.ls HC.out.ns false false 0 0
        clear hh1 g1 c0
        go_wp2_with fail
        generalize W1.alloc (.cells #[.bool false, .bool false, .int .i64 0, .int .i64 0] 29) = W2 at *
        generalize W1.heap.size = Bx at *
        refine wp_loop_rounds 4 ?_
        rw [rounds_succ]
        go_wp2_with fail
        refine (q_step K0.qs (1 + (km : Int)) false false 0 0 0 qb HT1.out).mono ?_
        rintro e W3 ⟨rfl, Hn, gn⟩
        have K1' := K0.nx Hn gn
        clear K0 Hn gn
        have b0 := K1'.bx.c0
        have b1 := K1'.bx.c1
        have b2 := K1'.bx.c2
        have b3 := K1'.bx.c3
        have f0 := K1'.bx.fz 0
        have f1 := K1'.bx.fz 1
        have f2 := K1'.bx.fz 2
        have f3 := K1'.bx.fz 3
        go_wp2_with fail
        have K1 := K1'.put false false 0 0
        clear K1' b0 b1 b2 b3 f0 f1 f2 f3
        generalize (((W3.setCell ⟨Bx, 0, none⟩ (.bool false)).setCell ⟨Bx, 1, none⟩ (.bool false)).setCell ⟨Bx, 2, none⟩ (.int .i64 0)).setCell ⟨Bx, 3, none⟩ (.int .i64 0) = W4 at *
        rw [rounds_succ]
        go_wp2_with fail
        refine (q_step K1.qs (1 + (km : Int)) false false 0 0 0 qc HT2.out).mono ?_
        rintro e W5 ⟨rfl, Hn, gn⟩
        have K2' := K1.nx Hn gn
        clear K1 Hn gn
        have b0 := K2'.bx.c0
        have b1 := K2'.bx.c1
        have b2 := K2'.bx.c2
        have b3 := K2'.bx.c3
        have f0 := K2'.bx.fz 0
        have f1 := K2'.bx.fz 1
        have f2 := K2'.bx.fz 2
        have f3 := K2'.bx.fz 3
        go_wp2_with fail
        have K2 := K2'.put false false 0 0
        clear K2' b0 b1 b2 b3 f0 f1 f2 f3
        generalize (((W5.setCell ⟨Bx, 0, none⟩ (.bool false)).setCell ⟨Bx, 1, none⟩ (.bool false)).setCell ⟨Bx, 2, none⟩ (.int .i64 0)).setCell ⟨Bx, 3, none⟩ (.int .i64 0) = W6 at *
        rw [rounds_succ]
        go_wp2_with fail
        refine (q_step K2.qs (1 + (km : Int)) true false zi 0 0 qd HT3.out).mono ?_
        rintro e W7 ⟨rfl, Hn, gn⟩
        have K3' := K2.nx Hn gn
        clear K2 Hn gn
        have b0 := K3'.bx.c0
        have b1 := K3'.bx.c1
        have b2 := K3'.bx.c2
        have b3 := K3'.bx.c3
        have f0 := K3'.bx.fz 0
        have f1 := K3'.bx.fz 1
        have f2 := K3'.bx.fz 2
        have f3 := K3'.bx.fz 3
        go_wp2_with fail
        have K3 := K3'.put true false zi 0
        clear K3' b0 b1 b2 b3 f0 f1 f2 f3
        generalize (((W7.setCell ⟨Bx, 0, none⟩ (.bool true)).setCell ⟨Bx, 1, none⟩ (.bool false)).setCell ⟨Bx, 2, none⟩ (.int .i64 zi)).setCell ⟨Bx, 3, none⟩ (.int .i64 0) = W8 at *
        rw [rounds_succ]
        have b0 := K3.bx.c0
        have c0 := (K3.qs.bel.cell (p := ⟨sb, so + i, none⟩) hsb).trans HC0.out
        go_wp2_with fail
        refine (q_busy K3.qs _ false (by have := HB.out; unfold Busy0 at this; rw [show ((1 : Int) + (km : Int)).toNat = 1 + km by omega, this]; simp)).mono ?_
        rintro e W9 ⟨rfl, rfl⟩
        obtain ⟨v8, w8, h8, qs8, ls8, ns8⟩ := K3.app zi (by have := H50.out; omega)
        have H8 := Lib.hid h8
        have HQ8 := Lib.hid qs8
        have HL8 := Lib.hid ls8
        have HN8 := Lib.hid ns8
        clear h8 qs8 ls8 ns8 K3
        go_wp2_with (at_builtin; refine wpList_append_run rfl _ _ 22 rfl _ _ rfl rfl _ w8 H8.out ?_)
        have hC : Cl w w8 b S1 qd (r ++ [q.n]) v8 (l ++ [zi]) := ⟨HQ8.out, HT.out.I, HT.out.off, HL8.out, by
          rw [HC.out.eq, List.map_append, List.map_congr_left (fun x hx => HT.out.vv x (HC.out.I.lt x hx))]
          simp [HT.out.vn], HN8.out⟩
        have := H50.out
        refine ⟨⟨i + 1, S1, qd, r ++ [q.n], l ++ [zi], ?_, ?_, ?_, hC, ?_, ?_⟩, ?_⟩
        · omega
        · omega
        · go_num
        · rw [HT.out.nn]; omega
        · simp; omega
        · simp [intOf]; omega
      · obtain ⟨r', tv, te, qa, qb, qc, T, hT⟩ := whole_take C.qs.V C.I C.off
        have hx : ¬ (0 < z i) := hpos
        generalize z i = zi at *
        have HC := Lib.hid C
        clear C hpos
        go_wp2_with fail
        have H50 := Lib.hid (And.intro hi5 hlt)
        clear hi5 hlt h2
        refine (q_begin HC.out.qs 0 zi 0 qa (T.e0 zi)).mono ?_
        rintro e W1 ⟨rfl, S1, hh1, g1⟩
        have K0 := Bq.mk0 HC.out.qs g1 hh1 HC.out.ls HC.out.ns false false 0 0
        clear hh1 g1 c0
        go_wp2_with fail
        generalize W1.alloc (.cells #[.bool false, .bool false, .int .i64 0, .int .i64 0] 29) = W2 at *
        generalize W1.heap.size = Bx at *
        refine wp_loop_rounds 3 ?_
        rw [rounds_succ]
        go_wp2_with fail
        refine (q_step K0.qs 0 false false 0 0 0 qb T.e1).mono ?_
        rintro e W3 ⟨rfl, Hn, gn⟩
        have K1' := K0.nx Hn gn
        clear K0 Hn gn
        have b0 := K1'.bx.c0
        have b1 := K1'.bx.c1
        have b2 := K1'.bx.c2
        have b3 := K1'.bx.c3
        have f0 := K1'.bx.fz 0
        have f1 := K1'.bx.fz 1
        have f2 := K1'.bx.fz 2
        have f3 := K1'.bx.fz 3
        go_wp2_with fail
        have K1 := K1'.put false false 0 0
        clear K1' b0 b1 b2 b3 f0 f1 f2 f3
        generalize (((W3.setCell ⟨Bx, 0, none⟩ (.bool false)).setCell ⟨Bx, 1, none⟩ (.bool false)).setCell ⟨Bx, 2, none⟩ (.int .i64 0)).setCell ⟨Bx, 3, none⟩ (.int .i64 0) = W4 at *
        rw [rounds_succ]
        go_wp2_with fail
        refine (q_step K1.qs 0 true true tv te 0 qc T.e2).mono ?_
        rintro e W5 ⟨rfl, Hn, gn⟩
        have K2' := K1.nx Hn gn
        clear K1 Hn gn
        have b0 := K2'.bx.c0
        have b1 := K2'.bx.c1
        have b2 := K2'.bx.c2
        have b3 := K2'.bx.c3
        have f0 := K2'.bx.fz 0
        have f1 := K2'.bx.fz 1
        have f2 := K2'.bx.fz 2
        have f3 := K2'.bx.fz 3
        go_wp2_with fail
        have K2 := K2'.put true true tv te
        clear K2' b0 b1 b2 b3 f0 f1 f2 f3
        generalize (((W5.setCell ⟨Bx, 0, none⟩ (.bool true)).setCell ⟨Bx, 1, none⟩ (.bool true)).setCell ⟨Bx, 2, none⟩ (.int .i64 tv)).setCell ⟨Bx, 3, none⟩ (.int .i64 te) = W6 at *
        rw [rounds_succ]
        have b0 := K2.bx.c0
        have b2 := K2.bx.c2
        have b3 := K2.bx.c3
        have c0 := (K2.qs.bel.cell (p := ⟨sb, so + i, none⟩) hsb).trans HC0.out
        go_wp2_with fail
        refine (q_busy K2.qs 0 false (by have := T.off 0 (by omega); show false = (decide _ && (qc.th 0).on); rw [this]; simp)).mono ?_
        rintro e W9 ⟨rfl, rfl⟩
        have HT := Lib.hid T
        have HK := Lib.hid K2
        clear T K2
        rcases hT with ⟨rfl, rfl, rfl, rfl⟩ | ⟨x, rfl, rfl, rfl⟩
        · obtain rfl : l = [] := by simpa using HC.out.eq
          obtain ⟨av, cv, rfl⟩ := ls_slice HC.out.ls
          go_wp2
          have hC : Cl w W9 b S1 qc [] (.slice av [].length cv) [] := ⟨HK.out.qs, HT.out.I, HT.out.off, HK.out.ls, rfl, fun g hg => ⟨(HK.out.ns g hg).1, (HK.out.ns g hg).2.1⟩⟩
          have := H50.out
          refine ⟨⟨i + 1, S1, qc, [], [], ?_, ?_, ?_, hC, ?_, ?_⟩, ?_⟩
          · omega
          · omega
          · go_num
          · rw [HT.out.nn]; omega
          · simp
          · simp [intOf]; omega
        · have he : l = q.v x :: r'.map q.v := by simpa using HC.out.eq
          obtain ⟨av, cv, rfl⟩ := ls_slice HC.out.ls
          have hc := ls_cell HK.out.ls 0 (by rw [he]; simp)
          obtain ⟨gg, oo, rfl, hcell⟩ := hc
          subst he
          have htl := ls_tail HK.out.ls
          have hcell : W9.cell? ⟨gg, oo, none⟩ = some (.int .i64 (q.v x)) := hcell
          have HTL := Lib.hid htl
          have hcap := htl.2.2
          clear htl
          have hln : (q.v x :: r'.map q.v).length = (r'.map q.v).length + 1 := rfl
          rw [hln] at HK HC ⊢
          have hn0 : ((((r'.map q.v).length + 1 : Nat) : Int) == 0) = false := by simp; omega
          have hb2 := b2
          generalize q.v x = X at *
          generalize hM : (r'.map q.v).length = M at *
          have HM := Lib.hid hM
          clear hM hln
          go_wp2_with fail
          go_quiet (fail)
          go_wp2
          by_cases e1 : cv = 1
          · obtain rfl : M = 0 := by omega
            subst e1
            rw [if_pos rfl]
            have hC : Cl w (W9.drewN nq) b S1 qc r' (.slice (some ⟨gg, oo, none⟩) 0 0) (r'.map q.v) := ⟨HK.out.qs.drewN nq, HT.out.I, HT.out.off, (HTL.out.2.1 rfl).2.below (gb_below (gb_drewN W9 nq none) (Nat.le_refl _) (fun k e => by cases e)), by rw [HT.out.vv], fun g hg => ⟨(HK.out.ns g hg).1, (HK.out.ns g hg).2.1⟩⟩
            have := H50.out
            refine ⟨⟨i + 1, S1, qc, r', r'.map q.v, ?_, ?_, ?_, hC, ?_, ?_⟩, ?_⟩
            · omega
            · omega
            · go_num
            · rw [HT.out.nn]; omega
            · simp at hll ⊢; omega
            · simp [intOf]; omega
          · rw [if_neg e1]
            have hC : Cl w (W9.drewN nq) b S1 qc r' (.slice (some ⟨gg, oo + 1, none⟩) M (cv - 1)) (r'.map q.v) := ⟨HK.out.qs.drewN nq, HT.out.I, HT.out.off, (HTL.out.1 e1).below (gb_below (gb_drewN W9 nq none) (Nat.le_refl _) (fun k e => by cases e)), by rw [HT.out.vv], fun g hg => ⟨(HK.out.ns g hg).1, (HK.out.ns g hg).2.1⟩⟩
            have := H50.out
            refine ⟨⟨i + 1, S1, qc, r', r'.map q.v, ?_, ?_, ?_, hC, ?_, ?_⟩, ?_⟩
            · omega
            · omega
            · go_num
            · rw [HT.out.nn]; omega
            · simp at hll ⊢; omega
            · simp [intOf]; omega
    · have HC := Lib.hid C
      have hl5 : r.length ≤ 100000 := by have := congrArg List.length HC.out.eq; simp at this; omega
      have HG := Lib.hid (C.qs.gives C.I)
      rw [lnk_off C.off r q.tail C.I.lk, ← C.eq] at HG
      obtain ⟨av, cv, rfl⟩ := ls_slice C.ls
      have hl6 : l.length ≤ 100000 := by omega
      clear C
      by_cases hA : i < len
      · have h1 : (i : Int) < (len : Int) := by omega
        have h2 : ¬ ((i : Int) < 50000) := by omega
        clear hi hi5 hlt hqn hll
        go_wp2_with fail
        refine (coll_is _ _ _ HG.out).mono ?_
        rintro e W5 ⟨a5, k5, rfl, ho, g5⟩
        have hls5 := HC.out.ls.below g5
        have hbl := HC.out.qs.bel.trans (g5.mono HC.out.qs.bel.size)
        have H5 := Lib.hid (And.intro (ls_own ho) (And.intro hls5 hbl))
        clear ho g5 hls5 hbl
        go_wp2_with fail
        refine (same_any l l _ _ _ _ _ _ _ (fun j hj => ls_cell H5.out.1 j hj) (fun j hj => ls_cell H5.out.2.1 j hj) rfl rfl (by omega)).mono ?_
        rintro e W6 ⟨rfl, m, rfl⟩
        go_wp2
        go_ret
        exact ⟨rfl, H5.out.2.2.trans (gb_below (gb_drewN W5 m none) H5.out.2.2.size (fun k e => by cases e))⟩
      · have h1 : ¬ ((i : Int) < (len : Int)) := by omega
        clear hi hi5 hlt hqn hll
        go_wp2_with fail
        refine (coll_is _ _ _ HG.out).mono ?_
        rintro e W5 ⟨a5, k5, rfl, ho, g5⟩
        have hls5 := HC.out.ls.below g5
        have hbl := HC.out.qs.bel.trans (g5.mono HC.out.qs.bel.size)
        have H5 := Lib.hid (And.intro (ls_own ho) (And.intro hls5 hbl))
        clear ho g5 hls5 hbl
        go_wp2_with fail
        refine (same_any l l _ _ _ _ _ _ _ (fun j hj => ls_cell H5.out.1 j hj) (fun j hj => ls_cell H5.out.2.1 j hj) rfl rfl (by omega)).mono ?_
        rintro e W6 ⟨rfl, m, rfl⟩
        go_wp2
        go_ret
        exact ⟨rfl, H5.out.2.2.trans (gb_below (gb_drewN W5 m none) H5.out.2.2.size (fun k e => by cases e))⟩
end Go.Proofs.Ytcbbjcafgnddcaa
