/- WordDead's walk. -/
import Derived.Test.YtildpjgjnfiihaaP8
import Derived.Deep.DeepCutAuto
namespace Go.Proofs.Ytildpjgjnfiihaa
open Go.RowKit
set_option linter.unusedVariables false
set_option linter.unusedSimpArgs false
/-- how many accesses the holder still makes at most -/
def rem : Nx → Nat
  | .no => 0 | .sleep => 2 | .start => 1 | .goes => 1 | .yield => 1 | .die => 1 | _ => 0
theorem rem_le (x : Nx) : rem x ≤ 2 := by cases x <;> simp [rem]
theorem rem_stp {q : Q} (I : Iv q) (hx : q.th 0 ≠ .no) : rem ((stp q 0).th 0) + 1 ≤ rem (q.th 0) := by
  have h := I.t0
  show rem (stepA q 0).nx + 1 ≤ _
  unfold stepA
  generalize q.th 0 = x at *
  generalize q.held = hd at *
  generalize q.now = n at *
  cases x with
  | no => exact absurd rfl hx
  | look => cases hd <;> exact absurd h (by decide)
  | wk c => cases hd <;> exact absurd h (by simp [ok0])
  | start => unfold act; dsimp only; split <;> simp [rem]
  | sleep => unfold act; dsimp only; split <;> simp [rem]
  | goes => unfold act; dsimp only; split <;> simp [rem]
  | yield => unfold act; dsimp only; split; simp [rem]; split <;> simp [rem]
  | die => simp [act, rem]
theorem beg_die (q : Q) (h0 : q.th 0 = .no) (hh : q.held = true) : begin q 0 4 = (0, q.set 0 .die) := beg_hold q 2 (by omega) h0 hh
set_option maxRecDepth 100000 in
set_option maxHeartbeats 8000000 in
theorem dead_any (a : Option Addr) (len cap : Nat) (t o : Nat → Int) (a' : Option Addr) (len' cap' : Nat) (t' o' : Nat → Int) (w : World) (hr : Rws w a len t o) (hlen : len ≤ 1000000000000000) (hr' : Rws w a' len' t' o') (hlen' : len' ≤ 1000000000000000) :
    Calls Try.prog 7 #[.slice a len cap, .slice a' len' cap'] w fun e w' => e = .returned (.bool true) ∧ Below w.heap.size w w' := by
  have HR' := Lib.hid hr'
  clear hr'
  go_enter Try.func7, Try.ntmps7
  go_wp2_with fail
  refine (lives_any _).mono ?_
  rintro e w1 ⟨rfl, g1⟩
  go_wp2_with fail
  refine (ws_new g1).mono ?_
  rintro e w2 ⟨b, rfl, h2, _, _⟩
  clear g1
  go_wp2_with fail
  go_loopw [6] (fun kv wr => ∃ (i : Nat) (q : Q), i ≤ len ∧ kv = .int .i64 i ∧ Ws w wr b q ∧ Iv q) (fun kv wr => len - (intOf kv).toNat)
  case atStart => exact ⟨0, Q0, Nat.zero_le _, rfl, h2, iv0⟩
  case round =>
    clear h2
    obtain ⟨i, q, hi, rfl, M, I⟩ := hrel
    by_cases hlt : i < len
    · obtain ⟨sb, so, rfl, hsb, k0, k1⟩ := hr i hlt
      have HK0 := Lib.hid k0
      have HK1 := Lib.hid k1
      have d0 := (M.bel.cell (p := ⟨sb, so + i * 2, none⟩) hsb).trans k0
      have d1 := (M.bel.cell (p := ⟨sb, so + i * 2 + 1, none⟩) hsb).trans k1
      have hi3 : (i : Int) < (len : Int) := by omega
      have hi0 : (0 : Int) ≤ (i : Int) := by omega
      have HR := Lib.hid hr
      have HLT := Lib.hid (And.intro hlt hlen)
      clear k0 k1 hr hlt
      generalize t i = ti at HK0 d0
      generalize o i = oi at HK1 d1
      obtain ⟨k, hk, ek⟩ := mod8 ti
      obtain ⟨m, hm, em⟩ := mod3 oi
      have EK := Lib.hid ek
      have EM := Lib.hid em
      clear ek em
      have hx := lb_on q k m
      have I1 := iv_lb I k m
      have I2 := iv_stp I1 k hk hx
      have hst := step_at (lb q k m) k hk hx
      have HLB := Lib.hid (fun (W : World) (h : Ws w W b q) => lbegin h ti oi k hk EK m hm EM)
      generalize lb q k m = q1 at *
      generalize hq2 : stp q1 k = q2 at *
      generalize hwh : (stepA q1 k).what = x at *
      have HST := Lib.hid hst
      have HI2 := Lib.hid I2
      clear hst I1 I2 hx hq2 hwh I
      go_wp2_with fail
      refine (HLB.out _ M).mono ?_
      rintro e w4 ⟨⟨v, rfl⟩, M2, _⟩
      have e0 := (M2.bel.cell (p := ⟨sb, so + i * 2, none⟩) hsb).trans HK0.out
      have e1 := (M2.bel.cell (p := ⟨sb, so + i * 2 + 1, none⟩) hsb).trans HK1.out
      clear M d0 d1
      go_wp2_with fail
      refine (thread_any ti oi k EK _).mono ?_
      rintro e w5 ⟨rfl, rfl⟩
      have M3 := M2.alloc (.cells #[.int .i64 ti, .int .i64 oi] 47)
      clear M2 e0 e1
      go_wp2_with fail
      refine (ws_step M3 k x 0 HST.out).mono ?_
      rintro e w6 ⟨rfl, M4, _⟩
      clear M3
      have HM4 := Lib.hid M4
      clear M4
      go_wp2
      have hl := HLT.out
      have hwi : wrap64 ((i : Int) + 1) = (i : Int) + 1 := by unfold wrap64; omega
      go_roundw
      case rel => exact ⟨i + 1, q2, hl.1, by first | rfl | (rw [hwi]; rfl), HM4.out, HI2.out⟩
      case measure => first | exact meas len i hl.1 | (rw [hwi]; exact meas len i hl.1)
    · obtain rfl : i = len := Nat.le_antisymm hi (Nat.le_of_not_lt hlt)
      clear hr hlt hi
      have HLL := Lib.hid hlen
      clear hlen
      obtain ⟨K, hK⟩ : ∃ K : Nat, 8 ≤ K := ⟨8, Nat.le_refl _⟩
      have HK := Lib.hid hK
      clear hK
      go_wp2_with fail
      go_loopw [7] (fun kv wr => ∃ (j : Nat) (q : Q), kv = .int .i64 j ∧ Ws w wr b q ∧ Iv q ∧ rem (q.th 0) + j ≤ 2) (fun kv wr => K - (intOf kv).toNat)
      case atStart => exact ⟨0, q, rfl, M, I, rem_le _⟩
      case round =>
        clear M I
        obtain ⟨j, q, rfl, M, I, hrm⟩ := hrel
        have hj4 : (j : Int) < 4 := by omega
        have hj2 : j ≤ 2 := by omega
        have HRM := Lib.hid hrm
        have HI := Lib.hid I
        by_cases hx : q.th 0 = .no
        · have hbz := ws_busy M 0 (by omega) false (by rw [decide_eq_false (by simpa using hx)])
          have HX := Lib.hid hx
          clear hx hrm I
          cases hh : q.held
          · have HH := Lib.hid hh
            clear hh
            go_wp2_with fail
            refine hbz.mono ?_
            rintro e w7 ⟨rfl, rfl⟩
            go_wp2_with fail
            refine (ws_holds M false HH.out).mono ?_
            rintro e w7 ⟨rfl, rfl⟩
            go_wp2_with fail
            refine (ws_holds M false HH.out).mono ?_
            rintro e w7 ⟨rfl, rfl⟩
            have HB := Lib.hid M.bel
            clear M hbz
            go_wp2
            go_ret
            exact ⟨rfl, HB.out⟩
          · have HH := Lib.hid hh
            clear hh
            go_wp2_with fail
            refine hbz.mono ?_
            rintro e w7 ⟨rfl, rfl⟩
            clear hbz
            go_wp2_with fail
            refine (ws_holds M true HH.out).mono ?_
            rintro e w7 ⟨rfl, rfl⟩
            go_wp2_with fail
            refine (ws_begin M 0 4 0 (beg_die q HX.out HH.out)).mono ?_
            rintro e w7 ⟨rfl, M1, _⟩
            clear M
            have I1 : Iv (q.set 0 .die) := by
              have := iv_lb HI.out 0 2
              unfold lb at this
              rw [if_neg (by simpa using HX.out), if_pos rfl, if_pos HH.out] at this
              exact this
            have hxd : (q.set 0 .die).th 0 ≠ .no := by rw [set_th, if_pos rfl]; simp
            have hsd := step_at (q.set 0 .die) 0 (by omega) hxd
            have D : Dd (stp (q.set 0 .die) 0) := ⟨iv_stp I1 0 (by omega) hxd, rfl⟩
            generalize stp (q.set 0 .die) 0 = q2 at *
            generalize (stepA (q.set 0 .die) 0).what = x at *
            go_wp2_with fail
            refine (ws_step M1 0 x 0 hsd).mono ?_
            rintro e w8 ⟨rfl, M2, _⟩
            clear M1 hsd I1 hxd HRM hj4 hj2
            go_wp2_with fail
            go_loopw [8] (fun kv wr => ∃ (i : Nat) (q : Q), i ≤ len' ∧ kv = .int .i64 i ∧ Ws w wr b q ∧ Dd q) (fun kv wr => len' - (intOf kv).toNat)
            case atStart => exact ⟨0, q2, Nat.zero_le _, rfl, M2, D⟩
            case round =>
              clear M2 D
              obtain ⟨i, q, hi, rfl, M, I⟩ := hrel
              have hr := HR'.out
              by_cases hlt : i < len'
              · obtain ⟨sb, so, rfl, hsb, k0, k1⟩ := hr i hlt
                have HK0 := Lib.hid k0
                have HK1 := Lib.hid k1
                have d0 := (M.bel.cell (p := ⟨sb, so + i * 2, none⟩) hsb).trans k0
                have d1 := (M.bel.cell (p := ⟨sb, so + i * 2 + 1, none⟩) hsb).trans k1
                have hi3 : (i : Int) < (len' : Int) := by omega
                have hi0 : (0 : Int) ≤ (i : Int) := by omega
                have HR := Lib.hid hr
                have HLT := Lib.hid (And.intro hlt hlen')
                clear k0 k1 hr hlt
                generalize t' i = ti at HK0 d0
                generalize o' i = oi at HK1 d1
                obtain ⟨k, hk, ek⟩ := mod8 ti
                obtain ⟨m, hm, em⟩ := mod3 oi
                have EK := Lib.hid ek
                have EM := Lib.hid em
                clear ek em
                have hx := lb_on q k m
                have I1 := dd_lb I k m
                have I2 := (dd_stp I1 k hk hx).1
                have hx1 := (dd_stp I1 k hk hx).2
                have hst := step_at (lb q k m) k hk hx
                have HLB := Lib.hid (fun (W : World) (h : Ws w W b q) => lbegin h ti oi k hk EK m hm EM)
                generalize lb q k m = q1 at *
                generalize hq2 : stp q1 k = q2 at *
                generalize hwh : (stepA q1 k).what = x at *
                have HST := Lib.hid hst
                have HI2 := Lib.hid I2
                have hxb : (x == 1) = false := by simp; exact hx1
                clear hst I1 I2 hx hq2 hwh I hx1
                go_wp2_with fail
                refine (HLB.out _ M).mono ?_
                rintro e w4 ⟨⟨v, rfl⟩, M2, _⟩
                have e0 := (M2.bel.cell (p := ⟨sb, so + i * 2, none⟩) hsb).trans HK0.out
                have e1 := (M2.bel.cell (p := ⟨sb, so + i * 2 + 1, none⟩) hsb).trans HK1.out
                clear M d0 d1
                go_wp2_with fail
                refine (thread_any ti oi k EK _).mono ?_
                rintro e w5 ⟨rfl, rfl⟩
                have M3 := M2.alloc (.cells #[.int .i64 ti, .int .i64 oi] 47)
                clear M2 e0 e1
                go_wp2_with fail
                refine (ws_step M3 k x 0 HST.out).mono ?_
                rintro e w6 ⟨rfl, M4, _⟩
                clear M3
                have hn4 := HI2.out.now
                have hh4 := HI2.out.held
                have HN4 := Lib.hid (show ((q2.now : Nat) : Int) = 4 by rw [hn4]; rfl)
                have HH4 := Lib.hid hh4
                clear hn4 hh4
                go_wp2_with fail
                refine (ws_now M4 4 HN4.out).mono ?_
                rintro e w9 ⟨rfl, rfl⟩
                go_wp2_with fail
                refine (ws_holds M4 false HH4.out).mono ?_
                rintro e w9 ⟨rfl, rfl⟩
                have HM4 := Lib.hid M4
                clear M4
                go_wp2
                have hl := HLT.out
                have hwi : wrap64 ((i : Int) + 1) = (i : Int) + 1 := by unfold wrap64; omega
                go_roundw
                case rel => exact ⟨i + 1, q2, hl.1, by first | rfl | (rw [hwi]; rfl), HM4.out, HI2.out⟩
                case measure => first | exact meas len' i hl.1 | (rw [hwi]; exact meas len' i hl.1)
              · obtain rfl : i = len' := Nat.le_antisymm hi (Nat.le_of_not_lt hlt)
                have HN4 := Lib.hid (show ((q.now : Nat) : Int) = 4 by rw [I.now]; rfl)
                clear hr hlt hi
                go_wp2_with fail
                refine (ws_now M 4 HN4.out).mono ?_
                rintro e w9 ⟨rfl, rfl⟩
                have HB := Lib.hid M.bel
                clear M I
                go_wp2
                go_ret
                exact ⟨rfl, HB.out⟩
        · have hbz := ws_busy M 0 (by omega) true (by rw [decide_eq_true hx])
          have hst := step_at q 0 (by omega) hx
          have hr2 := rem_stp I hx
          have I2 := iv_stp I 0 (by omega) hx
          have HR2 := Lib.hid hr2
          have HI2 := Lib.hid I2
          generalize stp q 0 = q2 at *
          generalize (stepA q 0).what = x at *
          have HST := Lib.hid hst
          clear hr2 I2 I hx hst hrm
          go_wp2_with fail
          refine hbz.mono ?_
          rintro e w7 ⟨rfl, rfl⟩
          clear hbz
          go_wp2_with fail
          refine (ws_step M 0 x 0 HST.out).mono ?_
          rintro e w8 ⟨rfl, M2, _⟩
          have HM2 := Lib.hid M2
          clear M M2
          go_wp2
          have hk8 := HK.out
          have h1 := HR2.out
          have h2 := HRM.out
          have hwi : wrap64 ((j : Int) + 1) = (j : Int) + 1 := by unfold wrap64; omega
          go_roundw
          case rel => exact ⟨j + 1, q2, by first | rfl | (rw [hwi]; rfl), HM2.out, HI2.out, by omega⟩
          case measure => first | exact meas K j (by omega) | (rw [hwi]; exact meas K j (by omega))
end Go.Proofs.Ytildpjgjnfiihaa
