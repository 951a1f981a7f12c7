/- RingBound's walk. -/
import Derived.Test.YtcofoknkmkfbkaaP4
import Derived.Test.YtcofoknkmkfbkaaP8
namespace Go.Proofs.Ytcofoknkmkfbkaa
open Go.RowKit Go.Shelf
set_option linter.unusedVariables false
set_option linter.unusedSimpArgs false

set_option maxHeartbeats 1000000 in
theorem same_any (la lb : List Int) (a b : Option Addr) (ca cb : Nat) (w : World) (B B2 : Nat) (ha : Own w B (.slice a la.length ca) la) (hb : Own w B2 (.slice b lb.length cb) lb) (he : la = lb) (hl : la.length ≤ 9223372036854775807) :
    Calls Try.prog 35 #[.slice a la.length ca, .slice b lb.length cb] w fun e w' => e = .returned (.bool true) ∧ ∃ m, w' = w.drewN m := by
  subst he
  go_enter Try.func35, Try.ntmps35
  go_wp2
  go_loopw [5] (fun k wr => ∃ n m : Nat, n ≤ la.length ∧ k = .int .i64 n ∧ wr = w.drewN m) (fun k wr => la.length - (intOf k).toNat)
  case atStart => exact ⟨0, 0, by omega, rfl, rfl⟩
  case round =>
    obtain ⟨n, m, hn, rfl, rfl⟩ := hrel
    by_cases hlt : n < la.length
    · obtain ⟨b1, rfl, _, _, c1⟩ := own_cell ha n hlt
      obtain ⟨b2, rfl, _, _, c2⟩ := own_cell hb n hlt
      clear ha hb
      generalize la.getD n 0 = X at c1 c2
      have hi : (n : Int) < (la.length : Int) := by omega
      have hi0 : (0 : Int) ≤ (n : Int) := by omega
      go_wp2
      go_quiet (fail)
      go_wp2
      exact ⟨⟨n + 1, m + nq, by omega, by go_num, rfl⟩, by simp [intOf]; omega⟩
    · go_wp2
      go_ret
      exact ⟨rfl, m, rfl⟩
theorem kind_is (kd x K : Int) (hK : wrap64 ((IntKind.u64.wrap kd).tmod 4) = K) (w : World) : Calls Try.prog 18 #[.agg #[.int .i64 kd, .int .i64 x]] w fun e w' => e = .returned (.int .i64 K) ∧ Below w.heap.size w w' := by
  go_enter Try.func18, Try.ntmps18
  go_wp2
  go_ret
  exact ⟨rt1 (ri hK), (Below.refl _ _).alloc (Nat.le_refl _) _⟩
theorem zero42 (w : World) : (zeroValue 42).run Try.prog w = .ok (.agg #[.int .i64 0, .int .i64 0]) w := by kernel_rfl

/-- the steps that came in -/
def Ops (w : World) (a : Option Addr) (len : Nat) (kd xv : Nat → Int) : Prop :=
  ∀ i, i < len → ∃ b off, a = some ⟨b, off, none⟩ ∧ b < w.heap.size ∧ w.cell? ⟨b, off + i * 2, none⟩ = some (.int .i64 (kd i)) ∧ w.cell? ⟨b, off + i * 2 + 1, none⟩ = some (.int .i64 (xv i))

/-- within a round: the ring, the step's box, what the ring gave ahead -/
structure Rd (w W : World) (b d N : Nat) (l : List Int) (Bo : Nat) (kd xv : Int) (B : Nat) (v : Value) (lw : List Int) : Prop where
  i : Iv w W b d N l
  box : W.rowIs Bo 42 2 (fun j => if j = 0 then .int .i64 kd else .int .i64 xv)
  own : Own W B v lw
  b1 : b < Bo
  d1 : d < Bo
  o1 : Bo < B
section
variable {w W W' : World} {b d N : Nat} {l l' : List Int} {Bo : Nat} {kd xv : Int} {B : Nat} {v : Value} {lw : List Int}
theorem Rd.c0 (R : Rd w W b d N l Bo kd xv B v lw) : W.cell? ⟨Bo, 0, none⟩ = some (.int .i64 kd) := row_val R.box (by omega) rfl
theorem Rd.c1 (R : Rd w W b d N l Bo kd xv B v lw) : W.cell? ⟨Bo, 1, none⟩ = some (.int .i64 xv) := row_val R.box (by omega) rfl
theorem own_ch (h : Own W B v lw) (g : Ch W W' b d) (h1 : b < B) (h2 : d < B) : Own W' B v lw := by
  rcases h with ⟨e1, e2 | ⟨s, cap, cur, e, hb, hg, hr⟩⟩
  · exact ⟨e1, .inl e2⟩
  · refine ⟨e1, .inr ⟨s, cap, cur, e, hb, ?_, hr⟩⟩
    rw [g.block s (by
      by_cases hlt : s < W.heap.size
      · exact hlt
      · rw [Array.getElem?_eq_none (by simpa using hlt)] at hg; cases hg) (by omega) (by omega)]
    exact hg
theorem Rd.below (R : Rd w W b d N l Bo kd xv B v lw) (g : Below W.heap.size W W') : Rd w W' b d N l Bo kd xv B v lw :=
  { R with
    i := ⟨R.i.r.below g R.i.r.bl R.i.r.dl, R.i.bel.trans (g.mono R.i.bel.size), R.i.hb, R.i.hd⟩
    box := row_below R.box g (World.rowIs.lt R.box)
    own := own_below R.own g (Nat.le_refl _) }
theorem Rd.op (R : Rd w W b d N l Bo kd xv B v lw) (r : IsR W' b d N l') (g : Ch W W' b d) : Rd w W' b d N l' Bo kd xv B v lw :=
  { R with
    i := R.i.step r g
    box := row_ch R.box g (by have := R.b1; omega) (by have := R.d1; omega)
    own := own_ch R.own g (by have := R.b1; have := R.o1; omega) (by have := R.d1; have := R.o1; omega) }
end

theorem push_is {w : World} {b d N : Nat} {l : List Int} (h : IsR w b d N l) (x e : Int) (l' : List Int) (he : putE N l = e) (hl : pushL N l x = l') : Calls Try.prog 21 #[.pointer (some ⟨b, 0, none⟩), .int .i64 x] w fun e' w' => e' = .returned (.int .i64 e) ∧ IsR w' b d N l' ∧ Ch w w' b d := by
  subst he hl; exact r_push h x
theorem take0' {w : World} {b d N : Nat} (h : IsR w b d N []) : Calls Try.prog 12 #[.pointer (some ⟨b, 0, none⟩)] w fun e w' => e = .returned (.tuple #[.int .i64 0, .bool false]) ∧ IsR w' b d N [] ∧ Ch w w' b d := r_take h
theorem pop0' {w : World} {b d N : Nat} (h : IsR w b d N []) : Calls Try.prog 15 #[.pointer (some ⟨b, 0, none⟩)] w fun e w' => e = .returned (.tuple #[.int .i64 0, .bool false]) ∧ IsR w' b d N [] ∧ Ch w w' b d := r_pop h
set_option maxRecDepth 100000 in
set_option maxHeartbeats 8000000 in
theorem bound_any (s : Int) (a : Option Addr) (len cap : Nat) (kd xv : Nat → Int) (w : World) (hs : I64 s) (hr : Ops w a len kd xv) (hlen : len ≤ 9223372036854775807) :
    Calls Try.prog 6 #[.int .i64 s, .slice a len cap] w fun e w' => e = .returned (.bool true) ∧ Below w.heap.size w w' := by
  have hz := zero42
  go_enter Try.func6, Try.ntmps6
  go_wp2_with fail
  refine (lives_any _).mono ?_
  rintro e w1 ⟨rfl, g1⟩
  go_wp2_with fail
  refine (r_new s _ hs).mono ?_
  rintro e w2 ⟨rfl, h3, g3⟩
  have I0 : Iv w w2 (w1.heap.size + 1) w1.heap.size (capN s) [] := ⟨h3, g1.trans (gb_below g3 g1.size (fun k e => by cases e)), by have := g1.size; omega, g1.size⟩
  clear h3 g3 g1
  go_wp2_with fail
  have n2N := I0.r.n2
  generalize w1.heap.size + 1 = b at *
  generalize w1.heap.size = d at *
  generalize capN s = N at *
  have HR := Lib.hid hr
  clear hr
  go_loopw [6, 7] (fun n k wr => ∃ (i : Nat) (l : List Int), i ≤ len ∧ k = .int .i64 i ∧ n = .int .i64 l.length ∧ Iv w wr b d N l) (fun n k wr => len - (intOf k).toNat)
  case atStart => exact ⟨0, [], by omega, rfl, rfl, I0⟩
  case round =>
    clear I0
    obtain ⟨i, l, hi, rfl, rfl, I⟩ := hrel
    by_cases hlt : i < len
    · obtain ⟨sb, so, rfl, hsb, c0, c1⟩ := HR.out i hlt
      have c0 := (I.bel.cell (p := ⟨sb, so + i * 2, none⟩) hsb).trans c0
      have c1 := (I.bel.cell (p := ⟨sb, so + i * 2 + 1, none⟩) hsb).trans c1
      obtain ⟨K, hK4, hK⟩ : ∃ K : Nat, K < 4 ∧ wrap64 ((IntKind.u64.wrap (kd i)).tmod 4) = (K : Int) := modn (kd i) 4 (by omega) (by omega)
      have R0 : Rd w (wr.alloc (.cells #[.int .i64 (kd i), .int .i64 (xv i)] 42)) b d N l wr.heap.size (kd i) (xv i) (wr.heap.size + 1) (.slice none 0 0) [] :=
        ⟨⟨I.r.below ((Below.refl wr.heap.size wr).alloc (Nat.le_refl _) _) I.r.bl I.r.dl, I.bel.alloc I.bel.size _, I.hb, I.hd⟩, row_new _ _ _ _ _ rfl (fun j hj => by match j, hj with | 0, _ => rfl | 1, _ => rfl), World.ownsRow_nil _ _ _ _, I.r.bl, I.r.dl, by omega⟩
      have hll := I.r.le
      clear I
      generalize kd i = kk at *
      generalize xv i = xx at *
      have HKK := Lib.hid hK
      clear hK
      go_wp2_with fail
      refine (coll_any (some ⟨b, 0, none⟩) l _ (.inr ⟨b, d, N, rfl, R0.i.r⟩)).mono ?_
      rintro e W1 ⟨v, rfl, ho, hb⟩
      obtain ⟨av, cv, rfl⟩ := own_slice ho
      have R1 : Rd w W1 b d N l wr.heap.size kk xx (wr.alloc (.cells #[.int .i64 kk, .int .i64 xx] 42)).heap.size (.slice av l.length cv) l := { R0.below hb with own := ho, o1 := by simp }
      have c0 := R1.c0
      have c1 := R1.c1
      generalize (wr.alloc (.cells #[.int .i64 kk, .int .i64 xx] 42)).heap.size = B at R1
      clear R0 ho hb
      generalize wr.heap.size = Bo at *
      have hK' : K = 0 ∨ K = 1 ∨ K = 2 ∨ K = 3 := by omega
      go_wp2_with fail
      refine (kind_is kk xx K HKK.out W1).mono ?_
      rintro e W2 ⟨rfl, hb2⟩
      have R2 := R1.below hb2
      have c0 := R2.c0
      have c1 := R2.c1
      clear R1 hb2
      rcases hK' with rfl | rfl | rfl | rfl
      · by_cases hf : l.length = N
        · have hnl : ¬ (l.length : Int) < (N : Int) := by omega
          have hng : ¬ (N : Int) < (l.length : Int) := by omega
          have HF := Lib.hid hf
          clear hf
          go_wp2_with fail
          refine (put_is R2.i.r xx 7 l (by unfold putE; rw [if_pos HF.out]) (by unfold putL; rw [if_pos HF.out])).mono ?_
          rintro e W3 ⟨rfl, r3, g3⟩
          have R3 := R2.op r3 g3
          have c0 := R3.c0
          have c1 := R3.c1
          clear R2 r3 g3
          go_wp2_with fail
          refine (kind_is kk xx _ HKK.out W3).mono ?_
          rintro e W4 ⟨rfl, hb4⟩
          have R4 := R3.below hb4
          have c0 := R4.c0
          have c1 := R4.c1
          clear R3 hb4
          go_wp2_with fail
          refine (r_size R4.i.r).mono ?_
          rintro e w' ⟨rfl, rfl⟩
          go_wp2_with fail
          refine (len_is R4.i.r l.length rfl).mono ?_
          rintro e w' ⟨rfl, rfl⟩
          go_wp2_with fail
          refine (r_size R4.i.r).mono ?_
          rintro e w' ⟨rfl, rfl⟩
          go_wp2_with fail
          refine (coll_any (some ⟨b, 0, none⟩) l _ (.inr ⟨b, d, N, rfl, R4.i.r⟩)).mono ?_
          rintro e W5 ⟨v2, rfl, ho2, hb5⟩
          obtain ⟨av2, cv2, rfl⟩ := own_slice ho2
          have R5 := R4.below hb5
          clear R4 hb5
          go_wp2_with fail
          refine (same_any l l _ _ _ _ _ _ _ ho2 R5.own rfl (by first | omega | simp)).mono ?_
          rintro e W6 ⟨rfl, m, rfl⟩
          go_wp2
          exact ⟨⟨i + 1, l, by omega, by go_num, rfl, (R5.below ((Below.refl _ _).trans (gb_below (gb_drewN _ m none) (Nat.le_refl _) (fun k e => by cases e)))).i⟩, by simp [intOf]; omega⟩
        · have hnl : (l.length : Int) < (N : Int) := by omega
          have hng : ¬ (N : Int) < (l.length : Int) + 1 := by omega
          have HF := Lib.hid hf
          clear hf
          go_wp2_with fail
          refine (put_is R2.i.r xx 0 (l ++ [xx]) (by unfold putE; rw [if_neg HF.out]) (by unfold putL; rw [if_neg HF.out])).mono ?_
          rintro e W3 ⟨rfl, r3, g3⟩
          have R3 := R2.op r3 g3
          have c0 := R3.c0
          have c1 := R3.c1
          clear R2 r3 g3
          go_wp2_with fail
          refine (kind_is kk xx _ HKK.out W3).mono ?_
          rintro e W4 ⟨rfl, hb4⟩
          have R4 := R3.below hb4
          have c0 := R4.c0
          have c1 := R4.c1
          clear R3 hb4
          go_wp2_with fail
          refine (r_size R4.i.r).mono ?_
          rintro e w' ⟨rfl, rfl⟩
          go_wp2_with fail
          refine (len_is R4.i.r ((l.length : Int) + 1) (by simp)).mono ?_
          rintro e w' ⟨rfl, rfl⟩
          go_wp2_with fail
          refine (r_size R4.i.r).mono ?_
          rintro e w' ⟨rfl, rfl⟩
          go_wp2
          exact ⟨⟨i + 1, (l ++ [xx]), by omega, by go_num, by first | rfl | simp, R4.i⟩, by simp [intOf]; omega⟩
      · by_cases hf : l.length = N
        · have hnl : ¬ (l.length : Int) < (N : Int) := by omega
          have hng : ¬ (N : Int) < (l.length : Int) := by omega
          have HF := Lib.hid hf
          clear hf
          go_wp2_with fail
          refine (push_is R2.i.r xx 7 l (by unfold putE; rw [if_pos HF.out]) (by unfold pushL; rw [if_pos HF.out])).mono ?_
          rintro e W3 ⟨rfl, r3, g3⟩
          have R3 := R2.op r3 g3
          have c0 := R3.c0
          have c1 := R3.c1
          clear R2 r3 g3
          go_wp2_with fail
          refine (kind_is kk xx _ HKK.out W3).mono ?_
          rintro e W4 ⟨rfl, hb4⟩
          have R4 := R3.below hb4
          have c0 := R4.c0
          have c1 := R4.c1
          clear R3 hb4
          go_wp2_with fail
          refine (kind_is kk xx _ HKK.out W4).mono ?_
          rintro e W5 ⟨rfl, hb5⟩
          have R5 := R4.below hb5
          have c0 := R5.c0
          have c1 := R5.c1
          clear R4 hb5
          go_wp2_with fail
          refine (r_size R5.i.r).mono ?_
          rintro e w' ⟨rfl, rfl⟩
          go_wp2_with fail
          refine (len_is R5.i.r l.length rfl).mono ?_
          rintro e w' ⟨rfl, rfl⟩
          go_wp2_with fail
          refine (r_size R5.i.r).mono ?_
          rintro e w' ⟨rfl, rfl⟩
          go_wp2_with fail
          refine (coll_any (some ⟨b, 0, none⟩) l _ (.inr ⟨b, d, N, rfl, R5.i.r⟩)).mono ?_
          rintro e W6 ⟨v2, rfl, ho2, hb6⟩
          obtain ⟨av2, cv2, rfl⟩ := own_slice ho2
          have R6 := R5.below hb6
          clear R5 hb6
          go_wp2_with fail
          refine (same_any l l _ _ _ _ _ _ _ ho2 R6.own rfl (by first | omega | simp)).mono ?_
          rintro e W7 ⟨rfl, m, rfl⟩
          go_wp2
          exact ⟨⟨i + 1, l, by omega, by go_num, rfl, (R6.below ((Below.refl _ _).trans (gb_below (gb_drewN _ m none) (Nat.le_refl _) (fun k e => by cases e)))).i⟩, by simp [intOf]; omega⟩
        · have hnl : (l.length : Int) < (N : Int) := by omega
          have hng : ¬ (N : Int) < (l.length : Int) + 1 := by omega
          have HF := Lib.hid hf
          clear hf
          go_wp2_with fail
          refine (push_is R2.i.r xx 0 (xx :: l) (by unfold putE; rw [if_neg HF.out]) (by unfold pushL; rw [if_neg HF.out])).mono ?_
          rintro e W3 ⟨rfl, r3, g3⟩
          have R3 := R2.op r3 g3
          have c0 := R3.c0
          have c1 := R3.c1
          clear R2 r3 g3
          go_wp2_with fail
          refine (kind_is kk xx _ HKK.out W3).mono ?_
          rintro e W4 ⟨rfl, hb4⟩
          have R4 := R3.below hb4
          have c0 := R4.c0
          have c1 := R4.c1
          clear R3 hb4
          go_wp2_with fail
          refine (kind_is kk xx _ HKK.out W4).mono ?_
          rintro e W5 ⟨rfl, hb5⟩
          have R5 := R4.below hb5
          have c0 := R5.c0
          have c1 := R5.c1
          clear R4 hb5
          go_wp2_with fail
          refine (r_size R5.i.r).mono ?_
          rintro e w' ⟨rfl, rfl⟩
          go_wp2_with fail
          refine (len_is R5.i.r ((l.length : Int) + 1) (by simp)).mono ?_
          rintro e w' ⟨rfl, rfl⟩
          go_wp2_with fail
          refine (r_size R5.i.r).mono ?_
          rintro e w' ⟨rfl, rfl⟩
          go_wp2
          exact ⟨⟨i + 1, (xx :: l), by omega, by go_num, by first | rfl | simp, R5.i⟩, by simp [intOf]; omega⟩
      · by_cases hf : l = []
        · subst hf
          simp only [List.length_nil] at *
          have hng : ¬ (N : Int) < 0 := by omega
          go_wp2_with fail
          refine (take0' R2.i.r).mono ?_
          rintro e W3 ⟨rfl, r3, g3⟩
          have R3 := R2.op r3 g3
          have c0 := R3.c0
          have c1 := R3.c1
          clear R2 r3 g3
          go_wp2_with fail
          refine (kind_is kk xx _ HKK.out W3).mono ?_
          rintro e W4 ⟨rfl, hb4⟩
          have R4 := R3.below hb4
          have c0 := R4.c0
          have c1 := R4.c1
          clear R3 hb4
          go_wp2_with fail
          refine (kind_is kk xx _ HKK.out W4).mono ?_
          rintro e W5 ⟨rfl, hb5⟩
          have R5 := R4.below hb5
          have c0 := R5.c0
          have c1 := R5.c1
          clear R4 hb5
          go_wp2_with fail
          refine (len_is R5.i.r 0 rfl).mono ?_
          rintro e w' ⟨rfl, rfl⟩
          go_wp2_with fail
          refine (r_size R5.i.r).mono ?_
          rintro e w' ⟨rfl, rfl⟩
          go_wp2_with fail
          refine (coll_any (some ⟨b, 0, none⟩) [] _ (.inr ⟨b, d, N, rfl, R5.i.r⟩)).mono ?_
          rintro e W6 ⟨v2, rfl, ho2, hb6⟩
          obtain ⟨av2, cv2, rfl⟩ := own_slice ho2
          have R6 := R5.below hb6
          clear R5 hb6
          go_wp2_with fail
          refine (same_any [] [] _ _ _ _ _ _ _ ho2 R6.own rfl (by first | omega | simp)).mono ?_
          rintro e W7 ⟨rfl, m, rfl⟩
          go_wp2
          exact ⟨⟨i + 1, [], by omega, by go_num, rfl, (R6.below ((Below.refl _ _).trans (gb_below (gb_drewN _ m none) (Nat.le_refl _) (fun k e => by cases e)))).i⟩, by simp [intOf]; omega⟩
        · obtain ⟨y, l', rfl⟩ : ∃ y l', l = y :: l' := by cases l with | nil => exact absurd rfl hf | cons y l' => exact ⟨y, l', rfl⟩
          have hlen1 : (y :: l').length = l'.length + 1 := by simp
          have hlN : l'.length ≤ N := by omega
          rw [hlen1]
          have hcast : ((l'.length + 1 : Nat) : Int) = (l'.length : Int) + 1 := by omega
          rw [hcast]
          have hpos : (0 : Int) < (l'.length : Int) + 1 := by omega
          have hsub : (l'.length : Int) + 1 - 1 = (l'.length : Int) := by omega
          have hng : ¬ (N : Int) < (l'.length : Int) := by omega
          have hng0 : ¬ (l'.length : Int) < 0 := by omega
          go_wp2_with fail
          refine (take_is R2.i.r).mono ?_
          rintro e W3 ⟨rfl, r3, g3⟩
          have R3 := R2.op r3 g3
          have c0 := R3.c0
          have c1 := R3.c1
          clear R2 r3 g3
          go_wp2_with fail
          refine (kind_is kk xx _ HKK.out W3).mono ?_
          rintro e W4 ⟨rfl, hb4⟩
          have R4 := R3.below hb4
          have c0 := R4.c0
          have c1 := R4.c1
          clear R3 hb4
          go_wp2_with fail
          refine (kind_is kk xx _ HKK.out W4).mono ?_
          rintro e W5 ⟨rfl, hb5⟩
          have R5 := R4.below hb5
          have c0 := R5.c0
          have c1 := R5.c1
          clear R4 hb5
          go_wp2_with fail
          refine (len_is R5.i.r l'.length rfl).mono ?_
          rintro e w' ⟨rfl, rfl⟩
          go_wp2_with fail
          refine (r_size R5.i.r).mono ?_
          rintro e w' ⟨rfl, rfl⟩
          go_wp2
          exact ⟨⟨i + 1, l', by omega, by go_num, by first | rfl | simp, R5.i⟩, by simp [intOf]; omega⟩
      · by_cases hf : l = []
        · subst hf
          simp only [List.length_nil] at *
          have hng : ¬ (N : Int) < 0 := by omega
          go_wp2_with fail
          refine (pop0' R2.i.r).mono ?_
          rintro e W3 ⟨rfl, r3, g3⟩
          have R3 := R2.op r3 g3
          have c0 := R3.c0
          have c1 := R3.c1
          clear R2 r3 g3
          go_wp2_with fail
          refine (kind_is kk xx _ HKK.out W3).mono ?_
          rintro e W4 ⟨rfl, hb4⟩
          have R4 := R3.below hb4
          have c0 := R4.c0
          have c1 := R4.c1
          clear R3 hb4
          go_wp2_with fail
          refine (kind_is kk xx _ HKK.out W4).mono ?_
          rintro e W5 ⟨rfl, hb5⟩
          have R5 := R4.below hb5
          have c0 := R5.c0
          have c1 := R5.c1
          clear R4 hb5
          go_wp2_with fail
          refine (len_is R5.i.r 0 rfl).mono ?_
          rintro e w' ⟨rfl, rfl⟩
          go_wp2_with fail
          refine (r_size R5.i.r).mono ?_
          rintro e w' ⟨rfl, rfl⟩
          go_wp2_with fail
          refine (coll_any (some ⟨b, 0, none⟩) [] _ (.inr ⟨b, d, N, rfl, R5.i.r⟩)).mono ?_
          rintro e W6 ⟨v2, rfl, ho2, hb6⟩
          obtain ⟨av2, cv2, rfl⟩ := own_slice ho2
          have R6 := R5.below hb6
          clear R5 hb6
          go_wp2_with fail
          refine (same_any [] [] _ _ _ _ _ _ _ ho2 R6.own rfl (by first | omega | simp)).mono ?_
          rintro e W7 ⟨rfl, m, rfl⟩
          go_wp2
          exact ⟨⟨i + 1, [], by omega, by go_num, rfl, (R6.below ((Below.refl _ _).trans (gb_below (gb_drewN _ m none) (Nat.le_refl _) (fun k e => by cases e)))).i⟩, by simp [intOf]; omega⟩
        · obtain ⟨l', y, rfl⟩ : ∃ l' y, l = l' ++ [y] := ⟨l.dropLast, l.getLast hf, (List.dropLast_concat_getLast hf).symm⟩
          have hlen1 : (l' ++ [y]).length = l'.length + 1 := by simp
          have hlN : l'.length ≤ N := by omega
          rw [hlen1]
          have hcast : ((l'.length + 1 : Nat) : Int) = (l'.length : Int) + 1 := by omega
          rw [hcast]
          have hpos : (0 : Int) < (l'.length : Int) + 1 := by omega
          have hsub : (l'.length : Int) + 1 - 1 = (l'.length : Int) := by omega
          have hng : ¬ (N : Int) < (l'.length : Int) := by omega
          have hng0 : ¬ (l'.length : Int) < 0 := by omega
          go_wp2_with fail
          refine (pop_is R2.i.r).mono ?_
          rintro e W3 ⟨rfl, r3, g3⟩
          have R3 := R2.op r3 g3
          have c0 := R3.c0
          have c1 := R3.c1
          clear R2 r3 g3
          go_wp2_with fail
          refine (kind_is kk xx _ HKK.out W3).mono ?_
          rintro e W4 ⟨rfl, hb4⟩
          have R4 := R3.below hb4
          have c0 := R4.c0
          have c1 := R4.c1
          clear R3 hb4
          go_wp2_with fail
          refine (kind_is kk xx _ HKK.out W4).mono ?_
          rintro e W5 ⟨rfl, hb5⟩
          have R5 := R4.below hb5
          have c0 := R5.c0
          have c1 := R5.c1
          clear R4 hb5
          go_wp2_with fail
          refine (len_is R5.i.r l'.length rfl).mono ?_
          rintro e w' ⟨rfl, rfl⟩
          go_wp2_with fail
          refine (r_size R5.i.r).mono ?_
          rintro e w' ⟨rfl, rfl⟩
          go_wp2
          exact ⟨⟨i + 1, l', by omega, by go_num, by first | rfl | simp, R5.i⟩, by simp [intOf]; omega⟩
    · go_wp2
      go_ret
      exact ⟨rfl, I.bel⟩

end Go.Proofs.Ytcofoknkmkfbkaa
