/- WordPlays' walk. -/
import Derived.Test.YtildpjgjnfiihaaP16
import Derived.Deep.DeepCutAuto
import Derived.Deep.RegionHeld3
namespace Go.Proofs.Ytildpjgjnfiihaa
open Go.RowKit
set_option linter.unusedVariables false
set_option linter.unusedSimpArgs false
theorem Ww.same {w w1 : World} {b : Nat} {q : Q} {f : Nat → Value} (h : Ww w b q f) (e : w1.heap = w.heap) : Ww w1 b q f := by
  have one : ∀ (c : Nat) (y : Int), Cel w b c y → Cel w1 b c y := fun c y hc => ⟨hc.1, hc.2.of_block (by rw [e])⟩
  refine ⟨⟨h.h.s.of_block (by rw [e]), h.h.f0, h.h.f1⟩, fun k hk => ?_⟩
  have st := h.t k hk
  generalize q.th k = x at *
  cases x with
  | wk c => obtain ⟨b1, b2, b3, e, h1, h2, h3⟩ := st; exact ⟨b1, b2, b3, e, one _ _ h1, one _ _ h2, one _ _ h3⟩
  | _ => exact st
section
variable {w0 w w1 : World} {b : Nat} {q : Q}
theorem now_same (h : Ws w0 w b q) (e : w1.heap = w.heap) : Calls Try.prog 13 #[.pointer (some ⟨b, 0, none⟩)] w1 fun e w' => e = .returned (.int .i64 q.now) ∧ w' = w1 := by
  obtain ⟨f, i⟩ := h.i; exact now_any (i.same e)
theorem holds_same (h : Ws w0 w b q) (e : w1.heap = w.heap) : Calls Try.prog 14 #[.pointer (some ⟨b, 0, none⟩)] w1 fun e w' => e = .returned (.bool q.held) ∧ w' = w1 := by
  obtain ⟨f, i⟩ := h.i; exact holds_any (i.same e)
theorem busy_same (h : Ws w0 w b q) (e : w1.heap = w.heap) (k : Int) (o : Bool) (ho : o = (decide (0 ≤ k ∧ k < 8) && decide (q.th k.toNat ≠ .no))) : Calls Try.prog 18 #[.pointer (some ⟨b, 0, none⟩), .int .i64 k] w1 fun e w' => e = .returned (.bool o) ∧ w' = w1 := by
  obtain ⟨f, i⟩ := h.i; exact busy_any (i.same e) k o ho
end
theorem busy_out (q : Q) (k : Int) (h : ¬ (0 ≤ k ∧ k < 8)) : false = (decide (0 ≤ k ∧ k < 8) && decide (q.th k.toNat ≠ .no)) := by rw [decide_eq_false h]; rfl
theorem busy_in (q : Q) (n : Nat) (h : n < 8) : decide (q.th n ≠ .no) = (decide (0 ≤ (n : Int) ∧ (n : Int) < 8) && decide (q.th (n : Int).toNat ≠ .no)) := by
  rw [show decide (0 ≤ (n : Int) ∧ (n : Int) < 8) = true from decide_eq_true (by omega), Int.toNat_natCast, Bool.true_and]
theorem belD (w : World) : Below w.heap.size w w.drew := gb_below (gb_drew w none) (Nat.le_refl _) (fun k e => by cases e)
theorem belN (w : World) (n : Nat) : Below w.heap.size w (w.drewN n) := gb_below (gb_drewN w n none) (Nat.le_refl _) (fun k e => by cases e)
theorem zero37 (w : World) : (zeroValue 37).run Try.prog w = .ok (.agg #[.bool false, .int .i64 0, .int .i64 0]) w := by kernel_rfl
set_option maxRecDepth 100000 in
set_option maxHeartbeats 8000000 in
theorem plays_any (a : Option Addr) (len cap : Nat) (bg : Nat → Bool) (th x : Nat → Int) (w : World) (hr : Mvs w a len bg th x) (hlen : len ≤ 9223372036854775807) :
    Calls Try.prog 4 #[.slice a len cap] w fun e w' => e = .returned (.bool true) ∧ Below w.heap.size w w' := by
  have hz37 := zero37
  go_enter Try.func4, Try.ntmps4
  go_wp2_with fail
  refine (lives_any _).mono ?_
  rintro e w1 ⟨rfl, g1⟩
  go_wp2_with fail
  refine (ws_new g1).mono ?_
  rintro e w2 ⟨b, rfl, h2, _, _⟩
  go_wp2_with fail
  refine (mnew_any w2).mono ?_
  rintro e w3 ⟨c, g, rfl, h3, f3, l1, l2⟩
  have P0 : Ps w w3 b c g Q0 Q0 := by
    have hb3 : Below w2.heap.size w2 w3 := f3.below (Nat.le_refl _) (fun k e => e.elim)
    have q1 := h2.lt
    have q2 := h2.bel.size
    exact ⟨h2.below hb3, h3, ⟨by omega, by omega⟩, by omega, by omega⟩
  clear h2 h3 f3 l1 l2 g1
  go_wp2_with fail
  go_loopw [5] (fun kv wr => ∃ (i : Nat) (q : Q), i ≤ len ∧ kv = .int .i64 i ∧ Ps w wr b c g q q ∧ Iv q) (fun kv wr => len - (intOf kv).toNat)
  case atStart => exact ⟨0, _, Nat.zero_le _, rfl, P0, iv0⟩
  case round =>
    clear P0
    obtain ⟨i, q, hi, rfl, M, I⟩ := hrel
    by_cases hlt : i < len
    · obtain ⟨sb, so, rfl, hsb, k0, k1, k2⟩ := hr i hlt
      have c0 := (M.ws.bel.cell (p := ⟨sb, so + i * 3, none⟩) hsb).trans k0
      have c1 := (M.ws.bel.cell (p := ⟨sb, so + i * 3 + 1, none⟩) hsb).trans k1
      have c2 := (M.ws.bel.cell (p := ⟨sb, so + i * 3 + 2, none⟩) hsb).trans k2
      have hi3 : (i : Int) < (len : Int) := by omega
      have hi0 : (0 : Int) ≤ (i : Int) := by omega
      have HR := Lib.hid hr
      have HLT := Lib.hid (And.intro hlt hlen)
      have HI := Lib.hid I
      have K0 := Px.new M (bg i) (th i) (x i)
      clear k0 k1 k2 hr hlt M I
      generalize bg i = bgi at *
      generalize th i = k at *
      generalize x i = v at *
      go_upto_if 26 with fail
      have hBlt : wr.heap.size < (wr.alloc (.cells #[.bool bgi, .int .i64 k, .int .i64 v] 37)).heap.size := by simp
      generalize wr.alloc (.cells #[.bool bgi, .int .i64 k, .int .i64 v] 37) = W0 at *
      generalize wr.heap.size = Bx at *
      clear c0 c1 c2
      go_cut [] (fun wx => ∃ (q' : Q), Px w wx b c g q' q' Bx bgi k v ∧ Iv q')
      case first =>
        have d0 := K0.c0
        have d1 := K0.c1
        have d2 := K0.c2
        cases bgi
        · obtain ⟨o1, e1, q1, hs⟩ : ∃ o1 e1 q1, step q k = ((o1, e1), q1) := ⟨_, _, _, rfl⟩
          have I1 := iv_step HI.out k
          rw [hs] at I1
          have HI1 := Lib.hid I1
          have HS := Lib.hid hs
          clear I1 hs
          go_wp2_with fail
          refine (px_step1 K0 k o1 e1 HS.out).mono ?_
          rintro e W1 ⟨rfl, K1⟩
          have y1 := K1.c1
          clear K0
          go_wp2_with fail
          refine (px_step2 K1 HI.out k o1 e1 HS.out).mono ?_
          rintro e W3 ⟨rfl, K3⟩
          have HK3 := Lib.hid K3
          clear K3 K1
          go_wp2
          go_meet
          exact ⟨q1, HK3.out, HI1.out⟩
        · obtain ⟨e1, q1, hs⟩ : ∃ e1 q1, begin q k v = (e1, q1) := ⟨_, _, rfl⟩
          have I1 := iv_begin HI.out k v
          rw [hs] at I1
          have HI1 := Lib.hid I1
          have HS := Lib.hid hs
          clear I1 hs
          have HP := Lib.hid (fun (W1 : World) (hb : Below W0.heap.size W0 W1) => px_begin1 (K0.below hb) k v e1 HS.out)
          have HM := Lib.hid (fun (W1 : World) (hm : Px w W1 b c g q1 q Bx true k v) => px_begin2 hm k v e1 HS.out)
          clear K0
          go_wp2
          go_region_held3 (fun w' => w'.cell? ⟨Bx, 1, none⟩ = some (.int .i64 k) ∧ w'.cell? ⟨Bx, 2, none⟩ = some (.int .i64 v)) (first | exact ⟨d1, d2⟩ | exact ⟨f1, f2⟩ | exact ⟨y1, y2⟩) (first | (go_at_call 11; refine (HP.out _ (belD _)).mono ?_; rintro e W1 ⟨rfl, K1⟩; have f1 := K1.c1; have f2 := K1.c2; have HK1 := Lib.hid K1; clear K1) | (go_at_call 16; refine (HM.out _ HK1.out).mono ?_; rintro e W2 ⟨rfl, K2⟩; have y1 := K2.c1; have y2 := K2.c2; have HK2 := Lib.hid K2; clear K2))
          all_goals go_wp2
          all_goals go_meet
          all_goals exact ⟨q1, HK2.out, HI1.out⟩
      case rest =>
        obtain ⟨q1, K, I1⟩ := hcut
        have d1 := K.c1
        have HI1 := Lib.hid I1
        have m0 := K.p.rf.c0
        have m1 := K.p.rf.c1
        have m2 := K.p.rf.c2
        have hnow := Lib.hid (fun (W1 : World) (e : W1.heap = wc.heap) => now_same K.p.ws e)
        have hhol := Lib.hid (fun (W1 : World) (e : W1.heap = wc.heap) => holds_same K.p.ws e)
        have hbel := Lib.hid (fun (W1 : World) (hb : Below wc.heap.size wc W1) => K.p.below hb)
        have hbu := Lib.hid (fun (k : Int) (o : Bool) (ho : o = (decide (0 ≤ k ∧ k < 8) && decide (q1.th k.toNat ≠ .no))) (W1 : World) (e : W1.heap = wc.heap) => busy_same K.p.ws e k o ho)
        have hth := Lib.hid (fun n hn => K.p.rf.t0 n hn)
        clear K0 HI I1 K
        generalize hN : (q1.now : Int) = NN at *
        generalize hH : q1.held = hd at *
        clear hN hH
        by_cases h1 : k < 0
        · have hbz := Lib.hid (fun (W1 : World) (e : W1.heap = wc.heap) => hbu.out k false (busy_out q1 k (by omega)) W1 e)
          have hk0 : decide (0 ≤ k) = false := decide_eq_false (by omega)
          clear h1 hbu
          go_wp2_with fail
          go_quiet (first | (go_at_call 13; exact Calls.quiet_of_same (hnow.out _ (by rfl))) | (go_at_call 14; exact Calls.quiet_of_same (hhol.out _ (by rfl))) | (go_at_call 18; exact Calls.quiet_of_same (hbz.out _ (by rfl))))
          go_wp2
          have hl := HLT.out
          have hwi : wrap64 ((i : Int) + 1) = (i : Int) + 1 := by unfold wrap64; omega
          go_roundw
          case rel => exact ⟨i + 1, q1, hl.1, by first | rfl | (rw [hwi]; rfl), hbel.out _ (belN _ _), HI1.out⟩
          case measure => first | exact meas len i hl.1 | (rw [hwi]; exact meas len i hl.1)
        · by_cases h2 : 8 ≤ k
          · have hbz := Lib.hid (fun (W1 : World) (e : W1.heap = wc.heap) => hbu.out k false (busy_out q1 k (by omega)) W1 e)
            have hk0 : decide (0 ≤ k) = true := decide_eq_true (by omega)
            have hk8 : decide (k < 8) = false := decide_eq_false (by omega)
            clear h1 h2 hbu
            go_wp2_with fail
            go_quiet (first | (go_at_call 13; exact Calls.quiet_of_same (hnow.out _ (by rfl))) | (go_at_call 14; exact Calls.quiet_of_same (hhol.out _ (by rfl))) | (go_at_call 18; exact Calls.quiet_of_same (hbz.out _ (by rfl))))
            go_wp2
            have hl := HLT.out
            have hwi : wrap64 ((i : Int) + 1) = (i : Int) + 1 := by unfold wrap64; omega
            go_roundw
            case rel => exact ⟨i + 1, q1, hl.1, by first | rfl | (rw [hwi]; rfl), hbel.out _ (belN _ _), HI1.out⟩
            case measure => first | exact meas len i hl.1 | (rw [hwi]; exact meas len i hl.1)
          · obtain ⟨n, rfl⟩ : ∃ n : Nat, k = n := ⟨k.toNat, by omega⟩
            have hn : n < 8 := by omega
            have hbz := Lib.hid (fun (W1 : World) (e : W1.heap = wc.heap) => hbu.out n _ (busy_in q1 n hn) W1 e)
            have t0 := hth.out n hn
            rw [enc_on] at t0
            have hk0 : decide (0 ≤ (n : Int)) = true := decide_eq_true (by omega)
            have hk8 : decide ((n : Int) < 8) = true := decide_eq_true (by omega)
            have hk9 : (n : Int) < 8 := by omega
            have hkp : (0 : Int) ≤ n := by omega
            clear h1 h2 hbu
            generalize decide (q1.th n ≠ .no) = o at *
            go_wp2_with fail
            go_quiet (first | (go_at_call 13; exact Calls.quiet_of_same (hnow.out _ (by rfl))) | (go_at_call 14; exact Calls.quiet_of_same (hhol.out _ (by rfl))) | (go_at_call 18; exact Calls.quiet_of_same (hbz.out _ (by rfl))))
            go_wp2
            have hl := HLT.out
            have hwi : wrap64 ((i : Int) + 1) = (i : Int) + 1 := by unfold wrap64; omega
            go_roundw
            case rel => exact ⟨i + 1, q1, hl.1, by first | rfl | (rw [hwi]; rfl), hbel.out _ (belN _ _), HI1.out⟩
            case measure => first | exact meas len i hl.1 | (rw [hwi]; exact meas len i hl.1)
    · obtain rfl : i = len := Nat.le_antisymm hi (Nat.le_of_not_lt hlt)
      have HB := Lib.hid M.ws.bel
      clear M hr hlt
      go_wp2
      go_ret
      exact ⟨rfl, HB.out⟩
end Go.Proofs.Ytildpjgjnfiihaa
