/- RingOrder's walk. -/
import Derived.Test.YtcofoknkmkfbkaaP3
namespace Go.Proofs.Ytcofoknkmkfbkaa
open Go.RowKit
set_option linter.unusedVariables false
set_option linter.unusedSimpArgs false

/-- between two steps of a law: its ring, and nothing of what lay there turned -/
structure Iv (w wr : World) (b d N : Nat) (l : List Int) : Prop where
  r : IsR wr b d N l
  bel : Below w.heap.size w wr
  hb : w.heap.size ≤ b
  hd : w.heap.size ≤ d
theorem Iv.step {w wr w1 : World} {b d N : Nat} {l l' : List Int} (I : Iv w wr b d N l) (r : IsR w1 b d N l') (g : Ch wr w1 b d) : Iv w w1 b d N l' :=
  ⟨r, I.bel.trans (g.below I.bel.size I.hb I.hd), I.hb, I.hd⟩
/-- a slice of numbers that came in -/
def SL (w : World) (a : Option Addr) (len : Nat) (z : Nat → Int) : Prop := ∀ i, i < len → ∃ b off, a = some ⟨b, off, none⟩ ∧ b < w.heap.size ∧ w.cell? ⟨b, off + i, none⟩ = some (.int .i64 (z i))
theorem SL.alloc {w : World} {a : Option Addr} {len : Nat} {z : Nat → Int} (h : SL w a len z) (o : Obj) : SL (w.alloc o) a len z := fun i hi => by
  obtain ⟨b, off, e, hb, hc⟩ := h i hi
  exact ⟨b, off, e, by simp; omega, by rw [World.cell?_alloc_past _ _ _ hb]; exact hc⟩
/-- n of z from a on -/
def sg (z : Nat → Int) (a n : Nat) : List Int := (List.range n).map (fun i => z (a + i))
theorem sg_len (z : Nat → Int) (a n : Nat) : (sg z a n).length = n := by simp [sg]
theorem sg_snoc (z : Nat → Int) (a n : Nat) : sg z a (n + 1) = sg z a n ++ [z (a + n)] := by simp [sg, List.range_succ]
theorem sg_cons (z : Nat → Int) (a n : Nat) : sg z a (n + 1) = z a :: sg z (a + 1) n := by
  simp [sg, List.range_succ_eq_map, Function.comp_def]; intro i hi; congr 1; omega

theorem modn (x : Int) (n : Nat) (hn : 0 < n) (hn2 : n ≤ 9223372036854775807) : ∃ S : Nat, S < n ∧ wrap64 ((IntKind.u64.wrap x).tmod n) = (S : Int) := by
  have h0 : 0 ≤ IntKind.u64.wrap x := by rw [IntKind.wrap_u64]; omega
  have h1 := Int.emod_nonneg (IntKind.u64.wrap x) (show (n : Int) ≠ 0 by omega)
  have h2 := Int.emod_lt_of_pos (IntKind.u64.wrap x) (show 0 < (n : Int) by omega)
  refine ⟨(IntKind.u64.wrap x % n).toNat, by omega, ?_⟩
  rw [Int.tmod_eq_emod_of_nonneg h0]; unfold wrap64; omega
theorem pop_is {w : World} {b d N : Nat} {y : Int} {l : List Int} (h : IsR w b d N (l ++ [y])) : Calls Try.prog 15 #[.pointer (some ⟨b, 0, none⟩)] w fun e w' => e = .returned (.tuple #[.int .i64 y, .bool true]) ∧ IsR w' b d N l ∧ Ch w w' b d := by
  have := r_pop h
  have e1 : (l ++ [y]).getLastD 0 = y := by rw [List.getLastD_eq_getLast?]; simp
  have e2 : (l ++ [y]).isEmpty = false := by cases l <;> rfl
  rw [e1, e2, List.dropLast_concat] at this
  exact this
theorem take0 {w : World} {b d N : Nat} (h : IsR w b d N []) : Calls Try.prog 12 #[.pointer (some ⟨b, 0, none⟩)] w fun e w' => e = .returned (.tuple #[.int .i64 0, .bool false]) ∧ w = w' := by
  obtain ⟨f, ar, r, _⟩ := h.p; exact take_none r
theorem pop0 {w : World} {b d N : Nat} (h : IsR w b d N []) : Calls Try.prog 15 #[.pointer (some ⟨b, 0, none⟩)] w fun e w' => e = .returned (.tuple #[.int .i64 0, .bool false]) ∧ w = w' := by
  obtain ⟨f, ar, r, _⟩ := h.p; exact pop_none r
theorem put_sg (N : Nat) (z : Nat → Int) (n : Nat) : putL N (sg z 0 (min n N)) (z n) = sg z 0 (min (n + 1) N) := by
  unfold putL
  rw [sg_len]
  split
  · rw [show min (n + 1) N = min n N by omega]
  · rw [show min (n + 1) N = n + 1 by omega, show min n N = n by omega, sg_snoc, Nat.zero_add]

set_option maxRecDepth 100000 in
set_option maxHeartbeats 8000000 in
theorem order_any (s : Int) (a1 a2 : Option Addr) (n1 c1 n2 c2 : Nat) (z1 z2 : Nat → Int) (turn : Int) (w : World) (hs : I64 s) (h1 : SL w a1 n1 z1) (h2 : SL w a2 n2 z2) (l1 : n1 ≤ 9223372036854775807) (l2 : n2 ≤ 9223372036854775807) :
    Calls Try.prog 3 #[.int .i64 s, .agg #[.slice a1 n1 c1, .slice a2 n2 c2, .int .i64 turn]] w fun e w' => e = .returned (.bool true) ∧ Below w.heap.size w w' := by
  go_enter Try.func3, Try.ntmps3
  go_wp2_with fail
  refine (lives_any _).mono ?_
  rintro e w1 ⟨rfl, g1⟩
  have r1 := (row_new w #[.slice a1 n1 c1, .slice a2 n2 c2, .int .i64 turn] 24 3 (fun i => if i = 0 then .slice a1 n1 c1 else if i = 1 then .slice a2 n2 c2 else .int .i64 turn) rfl (fun i hi => by match i, hi with | 0, _ => rfl | 1, _ => rfl | 2, _ => rfl))
  have k0 := row_val r1 (i := 0) (v := .slice a1 n1 c1) (by omega) rfl
  have k1 := row_val r1 (i := 1) (v := .slice a2 n2 c2) (by omega) rfl
  have k2 := row_val r1 (i := 2) (v := .int .i64 turn) (by omega) rfl
  have h1 := h1.alloc (.cells #[.slice a1 n1 c1, .slice a2 n2 c2, .int .i64 turn] 24)
  have h2 := h2.alloc (.cells #[.slice a1 n1 c1, .slice a2 n2 c2, .int .i64 turn] 24)
  have hB : Below w.heap.size w (w.alloc (.cells #[.slice a1 n1 c1, .slice a2 n2 c2, .int .i64 turn] 24)) := (Below.refl _ w).alloc (Nat.le_refl _) _
  have hsz : (w.alloc (.cells #[.slice a1 n1 c1, .slice a2 n2 c2, .int .i64 turn] 24)).heap.size = w.heap.size + 1 := by simp
  generalize w.alloc (.cells #[.slice a1 n1 c1, .slice a2 n2 c2, .int .i64 turn] 24) = w0 at *
  clear r1
  have m0 := (g1.cell (p := ⟨w.heap.size, 0, none⟩) (by simp; omega)).trans k0
  have m1 := (g1.cell (p := ⟨w.heap.size, 1, none⟩) (by simp; omega)).trans k1
  clear k0 k1
  go_wp2_with fail
  go_quiet (fail)
  go_wp2_with fail
  refine (r_new s _ hs).mono ?_
  rintro e w2 ⟨rfl, h3, g3⟩
  have hsw : (w1.drewN nq).heap.size = w1.heap.size := rfl
  rw [hsw] at h3
  have I0 : Iv w0 w2 (w1.heap.size + 1) w1.heap.size (capN s) [] := ⟨h3, (g1.trans (gb_below (gb_drewN w1 nq none) g1.size (fun k e => by cases e))).trans (gb_below g3 g1.size (fun k e => by cases e)), by have := g1.size; omega, g1.size⟩
  clear h3 g3
  go_wp2_with fail
  generalize w1.heap.size + 1 = b at *
  generalize w1.heap.size = d at *
  obtain ⟨K, hK, hKt⟩ : ∃ K : Nat, K < 20 ∧ wrap64 ((IntKind.u64.wrap turn).tmod 20) = (K : Int) := modn turn 20 (by omega) (by omega)
  have n1N := I0.r.n1
  have n2N := I0.r.n2
  generalize capN s = N at *
  have HB := Lib.hid hB
  have H1 := Lib.hid h1
  have H2 := Lib.hid h2
  clear m0 m1 hB h1 h2 g1
  go_loopw [8] (fun k wr => ∃ n : Nat, n ≤ K ∧ k = .int .i64 n ∧ Iv w0 wr b d N []) (fun k wr => 20 - (intOf k).toNat)
  case atStart => exact ⟨0, by omega, rfl, I0⟩
  case round =>
    clear I0
    obtain ⟨n, hn, rfl, I⟩ := hrel
    have m2 := (I.bel.cell (p := ⟨w.heap.size, 2, none⟩) (by simp; omega)).trans k2
    by_cases hlt : n < K
    · have P1 := Lib.hid (put_is I.r n 0 [(n : Int)] (by unfold putE; rw [if_neg (by simp; omega)]) (by unfold putL; rw [if_neg (by simp; omega)]; rfl))
      have HI := Lib.hid I
      clear I
      go_wp2_with fail
      refine P1.out.mono ?_
      rintro e w4 ⟨rfl, r4, g4⟩
      go_wp2_with fail
      refine (take_is r4).mono ?_
      rintro e w5 ⟨rfl, r5, g5⟩
      go_wp2
      exact ⟨⟨n + 1, by omega, by go_num, HI.out.step r5 (g4.trans g5)⟩, by simp [intOf]; omega⟩
    · obtain rfl : n = K := by omega
      go_wp2_with fail
      clear m2 hKt
      go_loopw [9] (fun k wr => ∃ n : Nat, n ≤ n1 ∧ k = .int .i64 n ∧ Iv w0 wr b d N (sg z1 0 (min n N))) (fun k wr => n1 - (intOf k).toNat)
      case atStart => exact ⟨0, by omega, rfl, by rw [Nat.zero_min]; exact I⟩
      case round =>
        clear I
        obtain ⟨n, hn, rfl, I⟩ := hrel
        by_cases hlt : n < n1
        · obtain ⟨bb, off, rfl, hbb, hc⟩ := H1.out n hlt
          have hc := (I.bel.cell (p := ⟨bb, off + n, none⟩) hbb).trans hc
          have P1 := Lib.hid (r_put I.r (z1 n))
          have HI := Lib.hid I
          clear I
          generalize hz : z1 n = z at *
          have HZ := Lib.hid hz
          clear hz
          go_wp2_with fail
          refine P1.out.mono ?_
          rintro e w4 ⟨rfl, r4, g4⟩
          rw [← HZ.out, put_sg] at r4
          go_wp2
          exact ⟨⟨n + 1, by omega, by go_num, HI.out.step r4 g4⟩, by simp [intOf]; omega⟩
        · obtain rfl : n = n1 := by omega
          obtain ⟨H, hH, hm⟩ : ∃ H : Nat, H = min n N ∧ ((N < n ∧ ((H : Int) != (N : Int)) = false) ∨ (n ≤ N ∧ ((H : Int) != (n : Int)) = false)) := ⟨_, rfl, by simp only [bne_eq_false_iff_eq]; omega⟩
          rw [← hH] at I
          have HX : Hid (H ≤ N ∧ H ≤ n) := Lib.hid (by omega)
          clear hH
          go_wp2_with fail
          refine (len_is I.r H (by rw [sg_len])).mono ?_
          rintro e w' ⟨rfl, rfl⟩
          go_wp2_with fail
          refine (r_size I.r).mono ?_
          rintro e w' ⟨rfl, rfl⟩
          have HN : ∃ R : Nat, (N : Int) - (H : Int) = R ∧ Hid (R + H = N) := ⟨N - H, by have := HX.out; omega, Lib.hid (by have := HX.out; omega)⟩
          obtain ⟨R, hR, HR⟩ := HN
          rcases hm with ⟨hm, hm2⟩ | ⟨hm, hm2⟩
          all_goals
            go_wp2_with fail
            clear hm hm2
            go_loopw [11, 12] (fun p k wr => ∃ m : Nat, m ≤ n2 ∧ k = .int .i64 m ∧ p = .int .i64 (min m R : Nat) ∧ Iv w0 wr b d N (sg z1 0 H ++ sg z2 0 (min m R))) (fun p k wr => n2 - (intOf k).toNat)
            case atStart => exact ⟨0, by omega, rfl, by rw [Nat.zero_min]; rfl, by rw [Nat.zero_min]; simpa [sg] using I⟩
            case round =>
              clear I
              obtain ⟨m, hmn, rfl, rfl, I⟩ := hrel
              by_cases hlt : m < n2
              · obtain ⟨bb, off, rfl, hbb, hc⟩ := H2.out m hlt
                have hc := (I.bel.cell (p := ⟨bb, off + m, none⟩) hbb).trans hc
                by_cases hfull : m < R
                · have e1 : min m R = m := by omega
                  rw [e1] at I ⊢
                  have P1 := Lib.hid (put_is I.r (z2 m) 0 (sg z1 0 H ++ sg z2 0 (m + 1)) (by unfold putE; rw [if_neg (by rw [List.length_append, sg_len, sg_len]; have := HR.out; omega)]) (by unfold putL; rw [if_neg (by rw [List.length_append, sg_len, sg_len]; have := HR.out; omega), sg_snoc, Nat.zero_add, List.append_assoc]))
                  have HI := Lib.hid I
                  clear I e1
                  generalize hz : z2 m = z at *
                  have HZ := Lib.hid hz
                  clear hz
                  go_wp2_with fail
                  refine P1.out.mono ?_
                  rintro e w4 ⟨rfl, r4, g4⟩
                  go_wp2
                  exact ⟨⟨m + 1, by omega, by go_num, by rw [show min (m + 1) R = m + 1 by omega]; go_num, by rw [show min (m + 1) R = m + 1 by omega]; exact HI.out.step r4 g4⟩, by simp [intOf]; omega⟩
                · have e1 : min m R = R := by omega
                  rw [e1] at I ⊢
                  have P1 := Lib.hid (put_is I.r (z2 m) 7 (sg z1 0 H ++ sg z2 0 R) (by unfold putE; rw [if_pos (by rw [List.length_append, sg_len, sg_len]; have := HR.out; omega)]) (by unfold putL; rw [if_pos (by rw [List.length_append, sg_len, sg_len]; have := HR.out; omega)]))
                  have HI := Lib.hid I
                  clear I e1
                  generalize hz : z2 m = z at *
                  have HZ := Lib.hid hz
                  clear hz
                  go_wp2_with fail
                  refine P1.out.mono ?_
                  rintro e w4 ⟨rfl, r4, g4⟩
                  go_wp2
                  exact ⟨⟨m + 1, by omega, by go_num, by rw [show min (m + 1) R = R by omega], by rw [show min (m + 1) R = R by omega]; exact HI.out.step r4 g4⟩, by simp [intOf]; omega⟩
              · obtain rfl : m = n2 := by omega
                obtain ⟨P, hP, hm⟩ : ∃ P : Nat, P = min m R ∧ ((R < m ∧ ((P : Int) != (R : Int)) = false) ∨ (m ≤ R ∧ ((P : Int) != (m : Int)) = false)) := ⟨_, rfl, by simp only [bne_eq_false_iff_eq]; omega⟩
                rw [← hP] at I ⊢
                have HY : Hid (P ≤ m) := Lib.hid (by omega)
                have hPl : P ≤ 9223372036854775807 := by omega
                clear hP
                go_wp2_with fail
                refine (r_size I.r).mono ?_
                rintro e w' ⟨rfl, rfl⟩
                rcases hm with ⟨hm, hm2⟩ | ⟨hm, hm2⟩
                all_goals
                  go_wp2_with fail
                  have hHn := HX.out.2
                  clear hm hm2 HX HR hR
                  obtain ⟨Q, hQ, HQ⟩ : ∃ Q : Nat, (P : Int).tdiv 2 = Q ∧ Hid (Q ≤ P) := ⟨P / 2, by rw [Int.tdiv_eq_ediv_of_nonneg (by omega)]; omega, Lib.hid (by omega)⟩
                  go_loopw [13] (fun k wr => ∃ j : Nat, Q ≤ j ∧ j ≤ P ∧ k = .int .i64 ((j : Int) - 1) ∧ Iv w0 wr b d N (sg z1 0 H ++ sg z2 0 j)) (fun k wr => (intOf k + 1).toNat)
                  case atStart => exact ⟨P, HQ.out, Nat.le_refl _, rfl, I⟩
                  case round =>
                    clear I
                    obtain ⟨j, hj1, hj2, rfl, I⟩ := hrel
                    by_cases hlt : Q < j
                    · obtain ⟨j, rfl⟩ : ∃ i, j = i + 1 := ⟨j - 1, by omega⟩
                      have hjj : ((j + 1 : Nat) : Int) - 1 = j := by omega
                      rw [hjj]
                      have hge : (Q : Int) ≤ (j : Int) := by omega
                      obtain ⟨bb, off, rfl, hbb, hc⟩ := H2.out j (by have := HY.out; omega)
                      have hc := (I.bel.cell (p := ⟨bb, off + j, none⟩) hbb).trans hc
                      have hjm : j < m := by have := HY.out; omega
                      have hI := I.r
                      rw [sg_snoc, Nat.zero_add, ← List.append_assoc] at hI
                      have P1 := Lib.hid (pop_is hI)
                      have HI := Lib.hid I
                      clear I hI hjj
                      generalize z2 j = z at *
                      go_wp2_with fail
                      refine P1.out.mono ?_
                      rintro e w4 ⟨rfl, r4, g4⟩
                      have hc := ((g4.below HI.out.bel.size HI.out.hb HI.out.hd).cell (p := ⟨bb, off + j, none⟩) hbb).trans hc
                      go_wp2
                      exact ⟨⟨j, by omega, by omega, rfl, HI.out.step r4 g4⟩, by simp [intOf]⟩
                    · obtain rfl : j = Q := by omega
                      have hng : ¬ (j : Int) ≤ (j : Int) - 1 := by omega
                      have hng2 : (j : Int) - 1 < (j : Int) := by omega
                      go_wp2_with fail
                      have hQm : j ≤ m := Nat.le_trans HQ.out HY.out
                      clear HY
                      go_loopw [16] (fun k wr => ∃ i : Nat, i ≤ H ∧ k = .int .i64 i ∧ Iv w0 wr b d N (sg z1 i (H - i) ++ sg z2 0 j)) (fun k wr => H - (intOf k).toNat)
                      case atStart => exact ⟨0, by omega, rfl, I⟩
                      case round =>
                        clear I
                        obtain ⟨i, hi, rfl, I⟩ := hrel
                        by_cases hlt : i < H
                        · obtain ⟨bb, off, rfl, hbb, hc⟩ := H1.out i (by omega)
                          have hc := (I.bel.cell (p := ⟨bb, off + i, none⟩) hbb).trans hc
                          have hin : i < n := by omega
                          have hI := I.r
                          rw [show H - i = (H - (i + 1)) + 1 by omega, sg_cons, List.cons_append] at hI
                          have P1 := Lib.hid (take_is hI)
                          have HI := Lib.hid I
                          clear I hI
                          generalize z1 i = z at *
                          go_wp2_with fail
                          refine P1.out.mono ?_
                          rintro e w4 ⟨rfl, r4, g4⟩
                          have hc := ((g4.below HI.out.bel.size HI.out.hb HI.out.hd).cell (p := ⟨bb, off + i, none⟩) hbb).trans hc
                          go_wp2
                          exact ⟨⟨i + 1, by omega, by go_num, HI.out.step r4 g4⟩, by simp [intOf]; omega⟩
                        · obtain rfl : i = H := by omega
                          rw [Nat.sub_self] at I
                          have I : Iv w0 wr b d N (sg z2 0 j) := by simpa [sg] using I
                          go_wp2_with fail
                          go_loopw [19] (fun k wr => ∃ i : Nat, i ≤ j ∧ k = .int .i64 i ∧ Iv w0 wr b d N (sg z2 i (j - i))) (fun k wr => j - (intOf k).toNat)
                          case atStart => exact ⟨0, by omega, rfl, I⟩
                          case round =>
                            clear I
                            obtain ⟨q, hq, rfl, I⟩ := hrel
                            by_cases hlt : q < j
                            · obtain ⟨bb, off, rfl, hbb, hc⟩ := H2.out q (by omega)
                              have hc := (I.bel.cell (p := ⟨bb, off + q, none⟩) hbb).trans hc
                              have hin : q < m := by omega
                              have hI := I.r
                              rw [show j - q = (j - (q + 1)) + 1 by omega, sg_cons] at hI
                              have P1 := Lib.hid (take_is hI)
                              have HI := Lib.hid I
                              clear I hI
                              generalize z2 q = z at *
                              go_wp2_with fail
                              refine P1.out.mono ?_
                              rintro e w4 ⟨rfl, r4, g4⟩
                              have hc := ((g4.below HI.out.bel.size HI.out.hb HI.out.hd).cell (p := ⟨bb, off + q, none⟩) hbb).trans hc
                              go_wp2
                              exact ⟨⟨q + 1, by omega, by go_num, HI.out.step r4 g4⟩, by simp [intOf]; omega⟩
                            · obtain rfl : q = j := by omega
                              rw [Nat.sub_self] at I
                              have I : Iv w0 wr b d N [] := by simpa [sg] using I
                              go_wp2_with fail
                              refine (take0 I.r).mono ?_
                              rintro e w' ⟨rfl, rfl⟩
                              go_wp2_with fail
                              refine (pop0 I.r).mono ?_
                              rintro e w' ⟨rfl, rfl⟩
                              go_wp2_with fail
                              refine (len_is I.r 0 rfl).mono ?_
                              rintro e w' ⟨rfl, rfl⟩
                              go_wp2
                              go_ret
                              exact ⟨rfl, HB.out.trans (I.bel.mono (by omega))⟩
end Go.Proofs.Ytcofoknkmkfbkaa
