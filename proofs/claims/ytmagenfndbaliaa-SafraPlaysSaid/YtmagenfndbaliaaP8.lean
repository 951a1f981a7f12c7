/- SafraStill's walk. -/
import Derived.Test.YtmagenfndbaliaaP6
import Derived.Deep.DeepCutAuto
namespace Go.Proofs.Ytmagenfndbaliaa
open Go.RowKit
set_option linter.unusedVariables false
set_option linter.unusedSimpArgs false
theorem modN (x : Int) (n : Nat) (h1 : 1 ≤ n) (h2 : n ≤ 64) : ∃ k : Nat, k < n ∧ wrap64 ((IntKind.u64.wrap x).tmod n) = (k : Int) := by
  have h0 : 0 ≤ IntKind.u64.wrap x := by rw [IntKind.wrap_u64]; omega
  generalize IntKind.u64.wrap x = y at h0
  have h3 := Int.tmod_nonneg (n : Int) h0
  have h4 := Int.tmod_lt_of_pos y (show (0 : Int) < n by omega)
  refine ⟨(y.tmod n).toNat, by omega, ?_⟩
  unfold wrap64; omega
theorem meas (K i : Nat) (h : i < K) : K - (intOf (.int .i64 ((i : Int) + 1))).toNat < K - (intOf (.int .i64 (i : Int))).toNat := by
  simp [intOf]; omega
theorem lt_K {i N K : Nat} (h : i ≤ 4 * N) (hN : N ≤ 64) (hK : 300 ≤ K) : i < K := by omega
theorem le4 {i N : Nat} (h : i < 3 * N + 1) (h1 : 1 ≤ N) : i + 1 ≤ 4 * N := by omega
theorem le4' {i N : Nat} (h : i ≤ 4 * N) (h1 : i ≠ 4 * N) : i + 1 ≤ 4 * N := by omega
theorem gt2 {i N n : Nat} (h : ¬ i < 3 * N + 1) (h1 : n = N) : 2 * n < i := by omega
theorem mod_four (n : Nat) : 4 * n % n = 0 := by simp
set_option maxRecDepth 100000 in
set_option maxHeartbeats 4000000 in
theorem still_any (n who when : Int) (w : World) :
    Calls Try.prog 7 #[.int .i64 n, .int .i64 who, .int .i64 when] w fun e w' => e = .returned (.bool true) ∧ Below w.heap.size w w' := by
  go_enter Try.func7, Try.ntmps7
  go_wp2_with fail
  refine (lives_any _).mono ?_
  rintro e w1 ⟨rfl, g1⟩
  go_wp2_with fail
  refine (sr_new g1 n).mono ?_
  rintro e w2 ⟨b, g, rfl, h2, _, _, _⟩
  obtain ⟨hN1, hN2⟩ := size_1 n
  have hS := stl0 (size n)
  have hn0 : (R0 (size n)).n = size n := rfl
  generalize R0 (size n) = r0 at *
  generalize size n = N at *
  go_wp2_with fail
  refine (sr_size h2 N (by rw [hn0])).mono ?_
  rintro e w3 ⟨rfl, rfl⟩
  obtain ⟨kw, hkw, ekw⟩ := modN who N hN1 hN2
  obtain ⟨kt, hkt, ekt⟩ := modN when N hN1 hN2
  obtain ⟨K, hK⟩ : ∃ K : Nat, 300 ≤ K := ⟨300, Nat.le_refl _⟩
  have HK := Lib.hid hK
  have HN := Lib.hid (And.intro hN1 hN2)
  have hw3 : IntKind.i64.wrap (3 * (N : Int)) = 3 * (N : Int) := by rw [IntKind.wrap_i64]; omega
  have hw31 : IntKind.i64.wrap (3 * (N : Int) + 1) = 3 * (N : Int) + 1 := by rw [IntKind.wrap_i64]; omega
  have EKW := Lib.hid ekw
  have EKT := Lib.hid ekt
  clear hK g1 ekw ekt
  go_wp2_with fail
  go_loopw [9] (fun kv wr => ∃ (i : Nat) (r : R), kv = .int .i64 i ∧ Sr w wr b g r ∧ Stl r i ∧ r.n = N ∧ i ≤ 4 * N) (fun kv wr => K - (intOf kv).toNat)
  case atStart => exact ⟨0, r0, rfl, h2, hS, hn0, Nat.zero_le _⟩
  case round =>
    clear h2 hS hn0
    obtain ⟨i, r, rfl, M, S, hrn, hi⟩ := hrel
    have hgo := stl_go S M.ok
    have HG := Lib.hid hgo
    have HS := Lib.hid S
    have HRN := Lib.hid hrn
    have HI := Lib.hid hi
    clear hgo
    by_cases hlt : i < 3 * N + 1
    · have c1 : (i : Int) < 3 * (N : Int) + 1 := by clear hw3 hw31; omega
      clear S hrn hi hN1 hN2
      go_wp2_with fail
      refine (sr_holder M _ rfl).mono ?_
      rintro e w3 ⟨rfl, rfl⟩
      go_wp2_with fail
      refine (sr_go M _ rfl _ rfl).mono ?_
      rintro e w4 ⟨rfl, M4, _⟩
      go_wp2
      have hm := HI.out
      have hk := HK.out
      obtain ⟨q1, q2⟩ := HN.out
      have hwi : wrap64 ((i : Int) + 1) = (i : Int) + 1 := by unfold wrap64; omega
      go_roundw
      case rel => exact ⟨i + 1, _, by rw [hwi]; rfl, M4, HG.out, HRN.out, le4 hlt q1⟩
      case measure => rw [hwi]; exact meas K i (lt_K hm q2 hk)
    · have c1 : ¬ (i : Int) < 3 * (N : Int) + 1 := by clear hw3 hw31; omega
      by_cases hh : r.h = 0
      · have hz : ((r.h : Int) != 0) = false := by rw [hh]; rfl
        have hi2 : 2 * r.n < i := gt2 hlt hrn
        have hStd := std0 M.ok S hi2 hh kw kt (by rw [hrn]; exact hkw)
        have hOk := M.ok.go
        have HSTD := Lib.hid hStd
        have HW := Lib.hid hkw
        have HT := Lib.hid hkt
        have hh0 := Lib.hid (show (0 : Int) = r.h by rw [hh]; rfl)
        clear S hrn hi hi2 hStd hOk hlt
        have HHH := Lib.hid hh
        clear hh
        go_wp2_with fail
        refine (sr_holder M _ rfl).mono ?_
        rintro e w3 ⟨rfl, rfl⟩
        go_wp2_with fail
        refine (sr_go M 0 hh0.out _ rfl).mono ?_
        rintro e w4 ⟨rfl, M4, _⟩
        clear hz hh0 M hw3 hw31 c1
        have ekw := EKW.out
        have ekt := EKT.out
        have huN : IntKind.u64.wrap (N : Int) = N := by clear ekw ekt; rw [IntKind.wrap_u64]; have := HN.out; omega
        have hNz : ((N : Int) == 0) = false := by clear ekw ekt huN; have := HN.out; simp; omega
        go_wp2_with fail
        rw [ekw, ekt]
        clear ekw ekt huN hNz
        go_loopw [10] (fun kv wr => ∃ (i : Nat) (r : R), kv = .int .i64 i ∧ Sr w wr b g r ∧ r.n = N ∧ i ≤ N ∧ (i < N → Std r kw kt i)) (fun kv wr => N - (intOf kv).toNat)
        case atStart => exact ⟨0, _, rfl, M4, HRN.out, Nat.zero_le _, fun _ => HSTD.out⟩
        case round =>
          clear M4
          obtain ⟨j, s, rfl, M, hsn, hj, hst⟩ := hrel
          by_cases hlt : j < N
          · have hjN : (j : Int) < N := by omega
            have hj0 : (0 : Int) ≤ j := by omega
            have hs := hst hlt
            clear hst
            have hwN : IntKind.i64.wrap ((N : Int) - 1) = (N : Int) - 1 := by rw [IntKind.wrap_i64]; omega
            have HJ := Lib.hid (And.intro hj (And.intro hlt hsn))
            have HSS := Lib.hid hs
            clear hj hlt hsn hs
            go_upto_if 57 with fail
            go_cut [] (fun wx => Sr w wx b g (s.at kw kt j))
            case first =>
              by_cases e : j = kt
              · have hb : ((j : Int) == kt) = true := by rw [e]; simp
                have ea : s.at kw kt j = s.blk kw := by unfold R.at; rw [if_pos e]
                have HEA := Lib.hid ea
                have hkn : kw < s.n := by have := HJ.out.2.2; omega
                clear e ea
                go_wp2_with fail
                refine (sr_blk M kw hkn).mono ?_
                rintro e w5 ⟨rfl, M5, _⟩
                go_wp2
                go_meet
                rw [HEA.out]; exact M5
              · have hb : ((j : Int) == kt) = false := by simp; omega
                have ea : s.at kw kt j = s := by unfold R.at; rw [if_neg e]
                have HEA := Lib.hid ea
                clear e ea
                go_wp2
                go_meet
                rw [HEA.out]; exact M
            case rest =>
              have M5 := hcut
              clear M hcut
              have htl := std_tells HSS.out (w := kw) (t := kt) (by have := HJ.out.2.2; have := HW.out; omega) (by have := HJ.out.2.2; have := HT.out; omega)
              have han := (at_h s kw kt j).2.1
              have HAN := Lib.hid han
              clear han
              have hsn := HJ.out.2.2
              rw [hsn] at htl
              by_cases e1 : j + 1 = N
              · have hb1 : ((j : Int) == (N : Int) - 1) = true := by clear hwN; simp; omega
                have HE := Lib.hid e1
                rw [decide_eq_true e1] at htl
                by_cases k0 : kw = 0
                · have HTL := Lib.hid (show (s.at kw kt j).tells = false by rw [htl, decide_eq_true k0]; rfl)
                  have hk0 : ((kw : Int) == 0) = true := by rw [k0]; rfl
                  clear htl e1 k0 hsn
                  go_wp2_with fail
                  refine (sr_holder M5 _ rfl).mono ?_
                  rintro e w5 ⟨rfl, rfl⟩
                  go_wp2_with fail
                  refine (sr_go M5 _ rfl _ HTL.out).mono ?_
                  rintro e w6 ⟨rfl, M6, _⟩
                  go_wp2
                  have hj3 := HJ.out
                  have hN3 := HN.out
                  have hwi : wrap64 ((j : Int) + 1) = (j : Int) + 1 := by clear hN1 hN2 hwN; unfold wrap64; omega
                  go_roundw
                  case rel => exact ⟨j + 1, _, by first | rfl | (rw [hwi]; rfl), M6, by rw [go_n, HAN.out]; exact hj3.2.2, hj3.2.1, fun h => absurd HE.out (Nat.ne_of_lt h)⟩
                  case measure => first | exact meas N j hj3.2.1 | (rw [hwi]; exact meas N j hj3.2.1)
                · have hk0 : ((kw : Int) == 0) = false := by clear hwN; simp; omega
                  by_cases k1 : kt < kw
                  · have HTL := Lib.hid (show (s.at kw kt j).tells = false by rw [htl, decide_eq_false k0, decide_eq_true k1]; rfl)
                    have hk1 : (kt : Int) < kw := by clear hwN; omega
                    clear htl e1 k0 hsn k1
                    go_wp2_with fail
                    refine (sr_holder M5 _ rfl).mono ?_
                    rintro e w5 ⟨rfl, rfl⟩
                    go_wp2_with fail
                    refine (sr_go M5 _ rfl _ HTL.out).mono ?_
                    rintro e w6 ⟨rfl, M6, _⟩
                    go_wp2
                    have hj3 := HJ.out
                    have hN3 := HN.out
                    have hwi : wrap64 ((j : Int) + 1) = (j : Int) + 1 := by clear hN1 hN2 hwN; unfold wrap64; omega
                    go_roundw
                    case rel => exact ⟨j + 1, _, by first | rfl | (rw [hwi]; rfl), M6, by rw [go_n, HAN.out]; exact hj3.2.2, hj3.2.1, fun h => absurd HE.out (Nat.ne_of_lt h)⟩
                    case measure => first | exact meas N j hj3.2.1 | (rw [hwi]; exact meas N j hj3.2.1)
                  · have HTL := Lib.hid (show (s.at kw kt j).tells = true by rw [htl, decide_eq_false k0, decide_eq_false k1]; rfl)
                    have hk1 : ¬ (kt : Int) < kw := by clear hwN; omega
                    clear htl e1 k0 hsn k1
                    go_wp2_with fail
                    refine (sr_holder M5 _ rfl).mono ?_
                    rintro e w5 ⟨rfl, rfl⟩
                    go_wp2_with fail
                    refine (sr_go M5 _ rfl _ HTL.out).mono ?_
                    rintro e w6 ⟨rfl, M6, _⟩
                    go_wp2
                    have hj3 := HJ.out
                    have hN3 := HN.out
                    have hwi : wrap64 ((j : Int) + 1) = (j : Int) + 1 := by clear hN1 hN2 hwN; unfold wrap64; omega
                    go_roundw
                    case rel => exact ⟨j + 1, _, by first | rfl | (rw [hwi]; rfl), M6, by rw [go_n, HAN.out]; exact hj3.2.2, hj3.2.1, fun h => absurd HE.out (Nat.ne_of_lt h)⟩
                    case measure => first | exact meas N j hj3.2.1 | (rw [hwi]; exact meas N j hj3.2.1)
              · have hb1 : ((j : Int) == (N : Int) - 1) = false := by clear hwN; simp; omega
                have HTL := Lib.hid (show (s.at kw kt j).tells = false by rw [htl, decide_eq_false e1]; rfl)
                have HE := Lib.hid e1
                clear htl e1 hsn
                go_wp2_with fail
                refine (sr_holder M5 _ rfl).mono ?_
                rintro e w5 ⟨rfl, rfl⟩
                go_wp2_with fail
                refine (sr_go M5 _ rfl _ HTL.out).mono ?_
                rintro e w6 ⟨rfl, M6, _⟩
                go_wp2
                have hj3 := HJ.out
                have hN3 := HN.out
                have hwi : wrap64 ((j : Int) + 1) = (j : Int) + 1 := by clear hN1 hN2 hwN; unfold wrap64; omega
                go_roundw
                case rel => exact ⟨j + 1, _, by first | rfl | (rw [hwi]; rfl), M6, by rw [go_n, HAN.out]; exact hj3.2.2, hj3.2.1, fun h => std_go HSS.out (by rw [hj3.2.2]; exact h)⟩
                case measure => first | exact meas N j hj3.2.1 | (rw [hwi]; exact meas N j hj3.2.1)
          · obtain rfl : j = N := Nat.le_antisymm hj (Nat.le_of_not_lt hlt)
            clear hst hlt hN1 hN2
            have HB := Lib.hid M.bel
            clear M hj
            go_wp2
            go_ret
            exact ⟨rfl, HB.out⟩
      · have hz : ((r.h : Int) != 0) = true := by simp; exact hh
        have hi4 : i ≠ 4 * N := fun e => by
          have := S.1
          rw [hrn, e, mod_four] at this
          exact hh this
        have HI4 := Lib.hid hi4
        clear S hrn hi hN1 hN2 hh hi4
        go_wp2_with fail
        refine (sr_holder M _ rfl).mono ?_
        rintro e w3 ⟨rfl, rfl⟩
        go_wp2_with fail
        refine (sr_holder M _ rfl).mono ?_
        rintro e w3 ⟨rfl, rfl⟩
        go_wp2_with fail
        refine (sr_go M _ rfl _ rfl).mono ?_
        rintro e w4 ⟨rfl, M4, _⟩
        go_wp2
        have hm := HI.out
        have hk := HK.out
        have hm4 := HI4.out
        obtain ⟨q1, q2⟩ := HN.out
        have hwi : wrap64 ((i : Int) + 1) = (i : Int) + 1 := by unfold wrap64; omega
        go_roundw
        case rel => exact ⟨i + 1, _, by rw [hwi]; rfl, M4, HG.out, HRN.out, le4' hm hm4⟩
        case measure => rw [hwi]; exact meas K i (lt_K hm q2 hk)
end Go.Proofs.Ytmagenfndbaliaa
