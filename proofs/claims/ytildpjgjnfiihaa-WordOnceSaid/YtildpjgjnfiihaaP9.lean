/- WordOnce's walk. -/
import Derived.Test.YtildpjgjnfiihaaP8
import Derived.Deep.DeepCutAuto
namespace Go.Proofs.Ytildpjgjnfiihaa
open Go.RowKit
set_option linter.unusedVariables false
set_option linter.unusedSimpArgs false
set_option maxRecDepth 100000 in
set_option maxHeartbeats 8000000 in
theorem once_any (a : Option Addr) (len cap : Nat) (t o : Nat → Int) (w : World) (hr : Rws w a len t o) (hlen : len ≤ 1000000000000000) :
    Calls Try.prog 5 #[.slice a len cap] w fun e w' => e = .returned (.bool true) ∧ Below w.heap.size w w' := by
  go_enter Try.func5, Try.ntmps5
  go_wp2_with fail
  refine (lives_any _).mono ?_
  rintro e w1 ⟨rfl, g1⟩
  go_wp2_with fail
  refine (ws_new g1).mono ?_
  rintro e w2 ⟨b, rfl, h2, _, _⟩
  clear g1
  go_wp2_with fail
  go_loopw [4, 5, 6] (fun pv sv kv wr => ∃ (i P S : Nat) (q : Q), i ≤ len ∧ pv = .int .i64 P ∧ sv = .int .i64 S ∧ kv = .int .i64 i ∧ Ws w wr b q ∧ Iv q ∧ P = S + c1 (q.now == 1) ∧ S ≤ i) (fun pv sv kv wr => len - (intOf kv).toNat)
  case atStart => exact ⟨0, 1, 0, Q0, Nat.zero_le _, rfl, rfl, rfl, h2, iv0, rfl, Nat.le_refl _⟩
  case round =>
    clear h2
    obtain ⟨i, P, S, q, hi, rfl, rfl, rfl, M, I, hP, hS⟩ := hrel
    by_cases hlt : i < len
    · obtain ⟨sb, so, rfl, hsb, k0, k1⟩ := hr i hlt
      have d0 := (M.bel.cell (p := ⟨sb, so + i * 2, none⟩) hsb).trans k0
      have d1 := (M.bel.cell (p := ⟨sb, so + i * 2 + 1, none⟩) hsb).trans k1
      have hi3 : (i : Int) < (len : Int) := by omega
      have hi0 : (0 : Int) ≤ (i : Int) := by omega
      have HR := Lib.hid hr
      have HLT := Lib.hid (And.intro hlt (And.intro hlen (And.intro hP hS)))
      have HK0 := Lib.hid k0
      have HK1 := Lib.hid k1
      clear k0 k1 hr hlt hP hS
      generalize t i = ti at HK0 d0
      generalize o i = oi at HK1 d1
      obtain ⟨k, hk, ek⟩ := mod8 ti
      obtain ⟨m, hm, em⟩ := mod3 oi
      have EK := Lib.hid ek
      have EM := Lib.hid em
      clear ek em
      have hx := lb_on q k m
      have I1 := iv_lb I k m
      have hnow := (lb_now q k m).1
      have hst := step_at (lb q k m) k hk hx
      have hcnt := once_stp I1 k hk hx
      rw [hnow] at hcnt
      have I2 := iv_stp I1 k hk hx
      have HLB := Lib.hid (fun (W : World) (h : Ws w W b q) => lbegin h ti oi k hk EK m hm EM)
      generalize lb q k m = q1 at *
      generalize hq2 : stp q1 k = q2 at *
      generalize hwh : (stepA q1 k).what = x at *
      have HST := Lib.hid hst
      have HCN := Lib.hid hcnt
      have HI2 := Lib.hid I2
      have hsb' := hsb
      clear hst hcnt I1 I2 hx hnow hq2 hwh I
      go_wp2_with fail
      refine (thread_any ti oi k EK _).mono ?_
      rintro e w3 ⟨rfl, rfl⟩
      have M1 := M.alloc (.cells #[.int .i64 ti, .int .i64 oi] 47)
      have e0 := (M1.bel.cell (p := ⟨sb, so + i * 2, none⟩) hsb).trans HK0.out
      have e1 := (M1.bel.cell (p := ⟨sb, so + i * 2 + 1, none⟩) hsb).trans HK1.out
      clear M d0 d1
      go_wp2_with fail
      refine (HLB.out _ M1).mono ?_
      rintro e w4 ⟨⟨v, rfl⟩, M2, _⟩
      clear M1 e0 e1
      go_wp2_with fail
      refine (ws_holds M2 _ rfl).mono ?_
      rintro e w5 ⟨rfl, rfl⟩
      go_wp2_with fail
      refine (ws_step M2 k x 0 HST.out).mono ?_
      rintro e w6 ⟨rfl, M3, _⟩
      clear M2
      generalize q1.held = hd at *
      go_upto_if 43 with fail
      go_cut [4] (fun pv wx => ∃ P2 : Nat, P2 = P + c1 (x == 1) ∧ pv = .int .i64 P2 ∧ wx = w6)
      case first =>
        have hPb : P ≤ 1000000000000002 := by
          have hl := HLT.out
          have hq1 : c1 (q.now == 1) ≤ 1 := by unfold c1; split <;> omega
          omega
        by_cases hx1 : x = 1
        · subst hx1
          have hw : IntKind.i64.wrap ((P : Int) + 1) = (P : Int) + 1 := IntWalk.i64_in _ (by omega)
          go_wp2
          go_meet
          exact ⟨P + 1, rfl, rfl, rfl⟩
        · have hb : (x == 1) = false := by simp; exact hx1
          clear hx1
          go_wp2
          go_meet
          exact ⟨P, by rw [hb]; rfl, rfl, rfl⟩
      case rest =>
        obtain ⟨P2, hP2, rfl, hwc⟩ := hcut
        have HP2 := Lib.hid hP2
        clear hP2
        obtain rfl := hwc.symm
        go_upto_region 16 with fail
        go_cut [55] (fun tv wx => tv = .bool (decide (k = 0) && !hd && x == 0) ∧ wx = w6)
        case first =>
          by_cases k0 : k = 0
          · subst k0
            cases hd
            · by_cases x0 : x = 0
              · subst x0
                go_wp2
                go_meet
                exact ⟨rfl, rfl⟩
              · have hb : (x == 0) = false := by simp; exact x0
                clear x0
                go_wp2
                go_meet
                exact ⟨by simp [hb], rfl⟩
            · go_wp2
              go_meet
              exact ⟨by simp, rfl⟩
          · have hz0 : ((k : Int) == 0) = false := by simp; exact k0
            have hd0 : decide (k = 0) = false := decide_eq_false k0
            clear k0
            go_wp2
            go_meet
            exact ⟨by rw [hd0]; simp, rfl⟩
        case rest =>
          obtain ⟨rfl, hwc⟩ := hcut
          obtain rfl := hwc.symm
          generalize (decide (k = 0) && !hd && x == 0) = tt at *
          go_upto_if 55 with fail
          go_cut [5] (fun sv wx => ∃ S2 : Nat, S2 = S + c1 tt ∧ sv = .int .i64 S2 ∧ wx = w6)
          case first =>
            have hSb : S ≤ 1000000000000000 := by have hl := HLT.out; omega
            cases tt
            · go_wp2
              go_meet
              exact ⟨S, rfl, rfl, rfl⟩
            · have hw : IntKind.i64.wrap ((S : Int) + 1) = (S : Int) + 1 := IntWalk.i64_in _ (by omega)
              go_wp2
              go_meet
              exact ⟨S + 1, rfl, rfl, rfl⟩
          case rest =>
            obtain ⟨S2, hS2, rfl, hwc⟩ := hcut
            have HS2 := Lib.hid hS2
            clear hS2
            obtain rfl := hwc.symm
            go_wp2_with fail
            refine (ws_now M3 _ rfl).mono ?_
            rintro e w7 ⟨rfl, rfl⟩
            go_upto_if 60 with fail
            go_cut [11] (fun qv wx => qv = .int .i64 ((c1 (q2.now == 1) : Nat) : Int) ∧ wx = w7)
            case first =>
              by_cases hn : q2.now = 1
              · have hb : ((q2.now : Int) == 1) = true := by rw [hn]; rfl
                have hc : c1 (q2.now == 1) = 1 := by rw [hn]; rfl
                have HC := Lib.hid hc
                clear hn hc
                go_wp2
                go_meet
                exact ⟨by rw [HC.out]; rfl, rfl⟩
              · have hb : ((q2.now : Int) == 1) = false := by simp; omega
                have hc : c1 (q2.now == 1) = 0 := by
                  have : (q2.now == 1) = false := by simp; exact hn
                  rw [this]; rfl
                have HC := Lib.hid hc
                clear hn hc
                go_wp2
                go_meet
                exact ⟨by rw [HC.out]; rfl, rfl⟩
            case rest =>
              obtain ⟨rfl, hwc⟩ := hcut
              obtain rfl := hwc.symm
              have hcnt := HCN.out
              have hl := HLT.out
              have e1 := HP2.out
              have e2 := HS2.out
              have hPQ : P2 = S2 + c1 (q2.now == 1) := by omega
              have hSi : S2 ≤ i + 1 := by
                have : c1 tt ≤ 1 := by unfold c1; split <;> omega
                omega
              have hQ : c1 (q2.now == 1) ≤ 1 := by unfold c1; split <;> omega
              have hSl : S2 ≤ 1000000000000001 := by omega
              have HPQ := Lib.hid hPQ
              have HSI := Lib.hid hSi
              clear hcnt hl e1 e2 hPQ hSi HCN HP2 HS2
              generalize hQ3 : c1 (q2.now == 1) = Q2 at *
              have hw : IntKind.i64.wrap ((S2 : Int) + (Q2 : Int)) = (P2 : Int) := by
                have := HPQ.out
                rw [this]
                exact IntWalk.i64_in _ (by omega)
              have HQ3 := Lib.hid hQ3
              clear hQ3
              go_wp2
              have hl := HLT.out
              have hwi : wrap64 ((i : Int) + 1) = (i : Int) + 1 := by unfold wrap64; omega
              go_roundw
              case rel => exact ⟨i + 1, P2, S2, q2, hl.1, rfl, rfl, by first | rfl | (rw [hwi]; rfl), M3, HI2.out, by rw [HQ3.out]; exact HPQ.out, HSI.out⟩
              case measure => first | exact meas len i hl.1 | (rw [hwi]; exact meas len i hl.1)
    · obtain rfl : i = len := Nat.le_antisymm hi (Nat.le_of_not_lt hlt)
      have HB := Lib.hid M.bel
      clear M hr hlt hP hS
      go_wp2
      go_ret
      exact ⟨rfl, HB.out⟩
end Go.Proofs.Ytildpjgjnfiihaa
