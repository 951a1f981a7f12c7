/- WordLost's walk. -/
import Derived.Test.YtildpjgjnfiihaaP8
import Derived.Deep.DeepCutAuto
namespace Go.Proofs.Ytildpjgjnfiihaa
open Go.RowKit
set_option linter.unusedVariables false
set_option linter.unusedSimpArgs false
theorem row_ne {w : World} {c G n m : Nat} {t u : TypeId} {f g : Nat → Value} (h : w.rowIs c t n f) (k : w.rowIs G u m g) (hn : n ≠ m) : c ≠ G := fun e => by
  subst e
  obtain ⟨c1, h1, h2, _⟩ := h
  obtain ⟨c2, k1, k2, _⟩ := k
  rw [h1] at k1
  cases k1
  omega
theorem Ww.other {w : World} {b : Nat} {q : Q} {f g : Nat → Value} {G : Nat} (h : Ww w b q f) (r : w.rowIs G 3 8 g) (hG : G ≠ b) (o : Nat) (v : Value) : Ww (w.setCell ⟨G, o, none⟩ v) b q f := by
  have one : ∀ (c : Nat) (y : Int), Cel w b c y → Cel (w.setCell ⟨G, o, none⟩ v) b c y := fun c y hc => ⟨hc.1, hc.2.setOther (a := ⟨G, o, none⟩) (row_ne hc.2 r (by omega)) v⟩
  refine ⟨⟨h.h.s.setOther (a := ⟨G, o, none⟩) (Ne.symm hG) v, h.h.f0, h.h.f1⟩, fun k hk => ?_⟩
  have st := h.t k hk
  generalize q.th k = x at *
  cases x with
  | wk c => obtain ⟨b1, b2, b3, e, h1, h2, h3⟩ := st; exact ⟨b1, b2, b3, e, one _ _ h1, one _ _ h2, one _ _ h3⟩
  | _ => exact st
theorem Ws.other {w0 w : World} {b : Nat} {q : Q} {g : Nat → Value} {G : Nat} (h : Ws w0 w b q) (r : w.rowIs G 3 8 g) (hG : G ≠ b) (lo : w0.heap.size ≤ G) (o : Nat) (v : Value) : Ws w0 (w.setCell ⟨G, o, none⟩ v) b q := by
  obtain ⟨f, i⟩ := h.i
  exact ⟨⟨f, i.other r hG o v⟩, h.bel.trans ((fr_b w G o v).below h.bel.size (fun k e => by rw [e]; exact lo)), h.lo⟩
theorem make22 (w : World) : (Instr.makeSlice 22 (.int .i64 8) (.int .i64 8)).run Try.prog w = .ok (.slice (some ⟨w.heap.size, 0, none⟩) 8 8) (w.alloc (.cells (madeCells #[.int .i64 0] 8) 3)) := by
  have h : (Try.prog.info? 3).map (fun i => (i.zero, i.size, i.bytes)) = some (some (.int .i64 0), 1, 8) := by kernel_rfl
  exact run_make_row' 22 3 (.int .i64 0) 8 Try.underlying22 h rfl .i64 .i64 8 (by omega) (by omega) w
def gf (f : Nat → Int) (j : Nat) : Value := .int .i64 (f j)
set_option maxRecDepth 100000 in
set_option maxHeartbeats 8000000 in
theorem lost_any (a : Option Addr) (len cap : Nat) (t o : Nat → Int) (w : World) (hr : Rws w a len t o) (hlen : len ≤ 1000000000000000) :
    Calls Try.prog 6 #[.slice a len cap] w fun e w' => e = .returned (.bool true) ∧ Below w.heap.size w w' := by
  have hmk := make22
  go_enter Try.func6, Try.ntmps6
  go_wp2_with fail
  refine (lives_any _).mono ?_
  rintro e w1 ⟨rfl, g1⟩
  go_wp2_with fail
  refine (ws_new g1).mono ?_
  rintro e w2 ⟨b, rfl, h2, _, _⟩
  clear g1
  have hr0 : (w2.alloc (.cells (madeCells #[.int .i64 0] 8) 3)).rowIs w2.heap.size 3 8 (gf (fun _ => 0)) := row_new w2 _ 3 8 _ (size_madeCells _ _) (fun i hlt => by unfold gf; simp [madeCells, hlt, Nat.mod_one])
  have h3 := h2.alloc (.cells (madeCells #[.int .i64 0] 8) 3)
  have hGb : w2.heap.size ≠ b := by have := h2.lt; omega
  have hGl : w.heap.size ≤ w2.heap.size := h2.bel.size
  clear h2
  go_wp2_with fail
  generalize w2.alloc (.cells (madeCells #[.int .i64 0] 8) 3) = w3 at *
  generalize w2.heap.size = G at *
  clear hmk
  go_loopw [4, 6] (fun lv kv wr => ∃ (i : Nat) (L : Int) (q : Q) (f : Nat → Int), i ≤ len ∧ lv = .int .i64 L ∧ kv = .int .i64 i ∧ Ws w wr b q ∧ Iv q ∧ wr.rowIs G 3 8 (gf f)) (fun lv kv wr => len - (intOf kv).toNat)
  case atStart => exact ⟨0, 0, Q0, _, Nat.zero_le _, rfl, rfl, h3, iv0, hr0⟩
  case round =>
    clear h3 hr0
    obtain ⟨i, L, q, f, hi, rfl, rfl, M, I, R⟩ := hrel
    by_cases hlt : i < len
    · obtain ⟨sb, so, rfl, hsb, k0, k1⟩ := hr i hlt
      have d0 := (M.bel.cell (p := ⟨sb, so + i * 2, none⟩) hsb).trans k0
      have d1 := (M.bel.cell (p := ⟨sb, so + i * 2 + 1, none⟩) hsb).trans k1
      have hi3 : (i : Int) < (len : Int) := by omega
      have hi0 : (0 : Int) ≤ (i : Int) := by omega
      have HR := Lib.hid hr
      have HLT := Lib.hid (And.intro hlt hlen)
      have HK0 := Lib.hid k0
      have HK1 := Lib.hid k1
      clear k0 k1 hr hlt
      generalize t i = ti at HK0 d0
      generalize o i = oi at HK1 d1
      obtain ⟨k, hk, ek⟩ := mod8 ti
      obtain ⟨m, hm, em⟩ := mod3 oi
      have EK := Lib.hid ek
      have EM := Lib.hid em
      clear ek em
      have hx := lb_on q k m
      obtain ⟨fr, hfr⟩ : ∃ fr : Bool, decide (q.th k ≠ .no) = fr := ⟨_, rfl⟩
      have HFR := Lib.hid hfr
      clear hfr
      have I1 := iv_lb I k m
      have hnow := (lb_now q k m).1
      have hst := step_at (lb q k m) k hk hx
      have hlost := fun h0 => lost_stp I1 k hk h0 hx
      have I2 := iv_stp I1 k hk hx
      have HLB := Lib.hid (fun (W : World) (h : Ws w W b q) => lbegin h ti oi k hk EK m hm EM)
      generalize lb q k m = q1 at *
      generalize hq2 : stp q1 k = q2 at *
      generalize hwh : (stepA q1 k).what = x at *
      have HST := Lib.hid hst
      have HLO := Lib.hid hlost
      have HI2 := Lib.hid I2
      have hsb' := hsb
      clear hst hlost I1 I2 hx hnow hq2 hwh I
      have hkI : (k : Int) < 8 := by omega
      have hkI0 : (0 : Int) ≤ k := by omega
      go_wp2_with fail
      refine (thread_any ti oi k EK _).mono ?_
      rintro e w4 ⟨rfl, rfl⟩
      have M1 := M.alloc (.cells #[.int .i64 ti, .int .i64 oi] 47)
      have R1 := R.alloc (.cells #[.int .i64 ti, .int .i64 oi] 47)
      have e0 := (M1.bel.cell (p := ⟨sb, so + i * 2, none⟩) hsb).trans HK0.out
      have e1 := (M1.bel.cell (p := ⟨sb, so + i * 2 + 1, none⟩) hsb).trans HK1.out
      clear M d0 d1 R
      go_wp2_with fail
      refine (ws_busy M1 k hk fr HFR.out).mono ?_
      rintro e w4 ⟨rfl, rfl⟩
      go_wp2_with fail
      refine (HLB.out _ M1).mono ?_
      rintro e w4 ⟨⟨v, rfl⟩, M2, f2⟩
      have R2 := row_fr R1 f2 hGb
      clear M1 R1 e0 e1 f2
      go_upto_if 37 with fail
      go_cut [] (fun wx => Ws w wx b q1 ∧ ∃ f' : Nat → Int, wx.rowIs G 3 8 (gf f'))
      case first =>
        have c0 := row_val R2 (i := k) (v := .int .i64 (f k)) hk rfl
        have z0 := World.rowIs.frozen R2 k
        cases fr
        · have HM := Lib.hid (M2.other R2 hGb hGl k (.int .i64 L))
          have HR2 := Lib.hid (R2.set k (.int .i64 L))
          clear M2 R2
          go_wp2
          go_meet
          refine ⟨HM.out, fun j => if j = k then L else f j, HR2.out.congr (fun j hj => ?_)⟩
          show (if j = k then Value.int .i64 L else gf f j) = Value.int .i64 (if j = k then L else f j)
          split <;> rfl
        · have HM := Lib.hid M2
          have HR2 := Lib.hid R2
          clear M2 R2
          go_wp2
          go_meet
          exact ⟨HM.out, f, HR2.out⟩
      case rest =>
        obtain ⟨M3, f', R3⟩ := hcut
        clear M2 R2
        go_wp2_with fail
        refine (ws_holds M3 _ rfl).mono ?_
        rintro e w5 ⟨rfl, rfl⟩
        go_wp2_with fail
        refine (ws_step M3 k x 0 HST.out).mono ?_
        rintro e w6 ⟨rfl, M4, f4⟩
        have R4 := row_fr R3 f4 hGb
        clear M3 R3 f4
        generalize q1.held = hd at *
        go_upto_region 18 with fail
        go_cut [65] (fun tv wx => (∃ tt : Bool, tv = .bool tt) ∧ wx = w6)
        case first =>
          by_cases k0 : k = 0
          · subst k0
            by_cases x2 : x = 2
            · subst x2
              cases hd
              · go_wp2
                go_meet
                exact ⟨⟨_, rfl⟩, rfl⟩
              · go_wp2
                go_meet
                exact ⟨⟨_, rfl⟩, rfl⟩
            · have hb2 : (x == 2) = false := by simp; exact x2
              clear x2
              cases hd
              · by_cases x0 : x = 0
                · subst x0
                  go_wp2
                  go_meet
                  exact ⟨⟨_, rfl⟩, rfl⟩
                · have hb : (x == 0) = false := by simp; exact x0
                  clear x0
                  go_wp2
                  go_meet
                  exact ⟨⟨_, rfl⟩, rfl⟩
              · go_wp2
                go_meet
                exact ⟨⟨_, rfl⟩, rfl⟩
          · have hz0 : ((k : Int) == 0) = false := by simp; exact k0
            clear k0
            go_wp2
            go_meet
            exact ⟨⟨_, rfl⟩, rfl⟩
        case rest =>
          obtain ⟨⟨tt, rfl⟩, hwc⟩ := hcut
          obtain rfl := hwc.symm
          go_upto_if 65 with fail
          go_cut [4] (fun lv wx => (∃ L' : Int, lv = .int .i64 L') ∧ wx = w6)
          case first =>
            cases tt
            · go_wp2
              go_meet
              exact ⟨⟨_, rfl⟩, rfl⟩
            · go_wp2
              go_meet
              exact ⟨⟨_, rfl⟩, rfl⟩
          case rest =>
            obtain ⟨⟨L', rfl⟩, hwc⟩ := hcut
            obtain rfl := hwc.symm
            by_cases k0 : k = 0
            · have hkn : ¬ ((0 : Int) < (k : Int)) := by omega
              have HM4 := Lib.hid M4
              have HR4 := Lib.hid R4
              clear M4 R4 k0
              go_wp2
              have hl := HLT.out
              have hwi : wrap64 ((i : Int) + 1) = (i : Int) + 1 := by unfold wrap64; omega
              go_roundw
              case rel => exact ⟨i + 1, L', q2, f', hl.1, rfl, by first | rfl | (rw [hwi]; rfl), HM4.out, HI2.out, HR4.out⟩
              case measure => first | exact meas len i hl.1 | (rw [hwi]; exact meas len i hl.1)
            · have hkp : (0 : Int) < (k : Int) := by omega
              by_cases xm : x = -1
              · subst xm
                have HM4 := Lib.hid M4
                have HR4 := Lib.hid R4
                clear M4 R4 k0
                go_wp2
                have hl := HLT.out
                have hwi : wrap64 ((i : Int) + 1) = (i : Int) + 1 := by unfold wrap64; omega
                go_roundw
                case rel => exact ⟨i + 1, L', q2, f', hl.1, rfl, by first | rfl | (rw [hwi]; rfl), HM4.out, HI2.out, HR4.out⟩
                case measure => first | exact meas len i hl.1 | (rw [hwi]; exact meas len i hl.1)
              · have hxb : (x != -1) = true := by simp; exact xm
                have hn := HLO.out k0 xm
                have HM4 := Lib.hid M4
                have HR4 := Lib.hid R4
                clear M4 R4 k0 xm HLO
                rcases hn with hn | hn | hn
                · have HN := Lib.hid (show ((q2.now : Nat) : Int) = 1 by rw [hn]; rfl)
                  clear hn
                  go_wp2_with fail
                  refine (ws_now HM4.out 1 HN.out).mono ?_
                  rintro e w7 ⟨rfl, rfl⟩
                  go_wp2
                  have hl := HLT.out
                  have hwi : wrap64 ((i : Int) + 1) = (i : Int) + 1 := by unfold wrap64; omega
                  go_roundw
                  case rel => exact ⟨i + 1, L', q2, f', hl.1, rfl, by first | rfl | (rw [hwi]; rfl), HM4.out, HI2.out, HR4.out⟩
                  case measure => first | exact meas len i hl.1 | (rw [hwi]; exact meas len i hl.1)
                · have HN := Lib.hid (show ((q2.now : Nat) : Int) = 3 by rw [hn]; rfl)
                  clear hn
                  go_wp2_with fail
                  refine (ws_now HM4.out 3 HN.out).mono ?_
                  rintro e w7 ⟨rfl, rfl⟩
                  go_wp2_with fail
                  refine (ws_now HM4.out 3 HN.out).mono ?_
                  rintro e w7 ⟨rfl, rfl⟩
                  go_wp2
                  have hl := HLT.out
                  have hwi : wrap64 ((i : Int) + 1) = (i : Int) + 1 := by unfold wrap64; omega
                  go_roundw
                  case rel => exact ⟨i + 1, L', q2, f', hl.1, rfl, by first | rfl | (rw [hwi]; rfl), HM4.out, HI2.out, HR4.out⟩
                  case measure => first | exact meas len i hl.1 | (rw [hwi]; exact meas len i hl.1)
                · have HN := Lib.hid (show ((q2.now : Nat) : Int) = 4 by rw [hn]; rfl)
                  clear hn
                  go_wp2_with fail
                  refine (ws_now HM4.out 4 HN.out).mono ?_
                  rintro e w7 ⟨rfl, rfl⟩
                  go_wp2_with fail
                  refine (ws_now HM4.out 4 HN.out).mono ?_
                  rintro e w7 ⟨rfl, rfl⟩
                  go_wp2_with fail
                  refine (ws_now HM4.out 4 HN.out).mono ?_
                  rintro e w7 ⟨rfl, rfl⟩
                  go_wp2
                  have hl := HLT.out
                  have hwi : wrap64 ((i : Int) + 1) = (i : Int) + 1 := by unfold wrap64; omega
                  go_roundw
                  case rel => exact ⟨i + 1, L', q2, f', hl.1, rfl, by first | rfl | (rw [hwi]; rfl), HM4.out, HI2.out, HR4.out⟩
                  case measure => first | exact meas len i hl.1 | (rw [hwi]; exact meas len i hl.1)
    · obtain rfl : i = len := Nat.le_antisymm hi (Nat.le_of_not_lt hlt)
      have HB := Lib.hid M.bel
      clear M hr hlt
      go_wp2
      go_ret
      exact ⟨rfl, HB.out⟩
end Go.Proofs.Ytildpjgjnfiihaa
