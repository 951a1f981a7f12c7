/- MpscPlays: the walk. -/
import Derived.Test.YtcbbjcafgnddcaaM27
import Derived.Test.YtcbbjcafgnddcaaM20
import Derived.Deep.RegionHeld3
namespace Go.Proofs.Ytcbbjcafgnddcaa
open Go.RowKit Go.Shelf
set_option linter.unusedVariables false
set_option linter.unusedSimpArgs false
theorem zero42 (w : World) : (zeroValue 42).run Try.prog w = .ok (.agg #[.bool false, .int .i64 0, .int .i64 0]) w := by kernel_rfl
theorem busy_out (q : Q) (k : Int) (h : ¬ (0 ≤ k ∧ k < 8)) : false = (decide (0 ≤ k ∧ k < 8) && (q.th k.toNat).on) := by rw [decide_eq_false h]; rfl
theorem busy_in (q : Q) (n : Nat) (h : n < 8) : (q.th n).on = (decide (0 ≤ (n : Int) ∧ (n : Int) < 8) && (q.th (n : Int).toNat).on) := by
  rw [decide_eq_true (by omega), Int.toNat_natCast, Bool.true_and]
set_option maxRecDepth 100000 in
set_option maxHeartbeats 8000000 in
theorem plays_any (a : Option Addr) (len cap : Nat) (bg : Nat → Bool) (th x : Nat → Int) (w : World) (hr : Mvs w a len bg th x) (hlen : len ≤ 9223372036854775807) :
    Calls Try.prog 4 #[.slice a len cap] w fun e w' => e = .returned (.bool true) ∧ Below w.heap.size w w' := by
  have hz42 := zero42
  have hz29 := zero29
  have hz43 := zero43
  go_enter Try.func4, Try.ntmps4
  go_wp2_with fail
  refine (lives_any _).mono ?_
  rintro e w1 ⟨rfl, g1⟩
  go_wp2_with fail
  refine (q_new g1).mono ?_
  rintro e w2 ⟨b, Sa, rfl, h2⟩
  go_wp2_with fail
  refine (ms_new h2.bel h2).mono ?_
  rintro e w3 ⟨c, Sb, rfl, M0⟩
  clear h2 g1
  go_wp2_with fail
  go_loopw [5] (fun kv wr => ∃ (i : Nat) (S S' : Nat → Prop) (q : Q), i ≤ len ∧ kv = .int .i64 i ∧ Ms w wr b c S S' q q ∧ Pz q ∧ ∃ r, Inv q r) (fun kv wr => len - (intOf kv).toNat)
  case atStart => exact ⟨0, _, _, _, by omega, rfl, M0, pz0, _, inv0⟩
  case round =>
    clear M0
    obtain ⟨i, S, S', q, hi, rfl, M, Z, I⟩ := hrel
    by_cases hlt : i < len
    · obtain ⟨sb, so, rfl, hsb, k0, k1, k2⟩ := hr i hlt
      have c0 := (M.qs.bel.cell (p := ⟨sb, so + i * 3, none⟩) hsb).trans k0
      have c1 := (M.qs.bel.cell (p := ⟨sb, so + i * 3 + 1, none⟩) hsb).trans k1
      have c2 := (M.qs.bel.cell (p := ⟨sb, so + i * 3 + 2, none⟩) hsb).trans k2
      have hi3 : (i : Int) < (len : Int) := by omega
      have hi0 : (0 : Int) ≤ (i : Int) := by omega
      have HR := Lib.hid hr
      have HLT := Lib.hid hlt
      have HZ := Lib.hid Z
      have HI := Lib.hid I
      have K0 := Mb.new M (bg i) (th i) (x i)
      clear k0 k1 k2 hr hlt M Z I
      generalize hbg : bg i = bgi at *
      generalize hth : th i = k at *
      generalize hx : x i = v at *
      go_upto_if 26 with fail
      have hBlt : wr.heap.size < (wr.alloc (.cells #[.bool bgi, .int .i64 k, .int .i64 v] 42)).heap.size := by simp
      generalize wr.alloc (.cells #[.bool bgi, .int .i64 k, .int .i64 v] 42) = W0 at *
      generalize wr.heap.size = Bx at *
      clear c0 c1 c2
      go_cut [] (fun wx => ∃ (S1 S1' : Nat → Prop) (q' : Q), Mb w wx b c S1 S1' q' q' Bx bgi k v ∧ Pz q' ∧ ∃ r, Inv q' r)
      case first =>
        have d0 := K0.c0
        have d1 := K0.c1
        have d2 := K0.c2
        cases bgi
        · obtain ⟨o, t, v1, e1, cc, q1, hs⟩ : ∃ o t v1 e1 cc q1, step q k = (({ over := o, take := t, v := v1, err := e1 }, cc), q1) := ⟨_, _, _, _, _, _, rfl⟩
          have Z1 := pz_step HZ.out k
          have I1 : ∃ r, Inv (step q k).2 r := by obtain ⟨r, hI⟩ := HI.out; exact inv_step hI K0.m.qs.V k
          have HV := Lib.hid K0.m.qs.V
          rw [hs] at Z1 I1
          have HZ1 := Lib.hid Z1
          have HI1 := Lib.hid I1
          have HS := Lib.hid hs
          clear Z1 I1 hs
          go_wp2_with fail
          refine (mb_step1 K0 k o t v1 e1 cc HS.out).mono ?_
          rintro e W1 ⟨rfl, K1⟩
          have e1' := K1.c1
          have hBl1 : Bx < W1.heap.size := K1.bx.lt
          go_wp2_with fail
          have K2 := K1.below ((Below.refl W1.heap.size W1).alloc (Nat.le_refl _) (.cells #[.bool o, .bool t, .int .i64 v1, .int .i64 e1] 29))
          have r29 := row_new W1 #[.bool o, .bool t, .int .i64 v1, .int .i64 e1] 29 4 (fun i => if i = 0 then .bool o else if i = 1 then .bool t else if i = 2 then .int .i64 v1 else .int .i64 e1) rfl (fun i hi => by match i, hi with | 0, _ => rfl | 1, _ => rfl | 2, _ => rfl | 3, _ => rfl)
          have hnS : ¬ S' W1.heap.size := fun y => by have := K1.m.hi _ y; omega
          refine (mb_step2 K2 HV.out HZ.out k o t v1 e1 cc HS.out).mono ?_
          rintro e W3 ⟨rfl, K3, g3⟩
          have r29' := row_fr r29 g3 hnS
          have b0 := row_val r29' (i := 0) (v := .bool o) (by omega) rfl
          have b1 := row_val r29' (i := 1) (v := .bool t) (by omega) rfl
          have b2 := row_val r29' (i := 2) (v := .int .i64 v1) (by omega) rfl
          have b3 := row_val r29' (i := 3) (v := .int .i64 e1) (by omega) rfl
          have hb3 := r29'.lt
          have HK3 := Lib.hid K3
          clear r29 r29' g3 hnS K3 K2 K1 K0
          generalize W1.heap.size = A at *
          go_wp2
          go_meet
          exact ⟨S, S', q1, HK3.out.below ((Below.refl W3.heap.size W3).alloc (Nat.le_refl _) _), HZ1.out, HI1.out⟩
        · obtain ⟨e1, q1, hs⟩ : ∃ e1 q1, begin q k v = (e1, q1) := ⟨_, _, rfl⟩
          have Z1 := pz_begin HZ.out k v
          have I1 : ∃ r, Inv (begin q k v).2 r := by obtain ⟨r, hI⟩ := HI.out; exact ⟨r, inv_begin K0.m.qs.V hI k v⟩
          have HV := Lib.hid K0.m.qs.V
          rw [hs] at Z1 I1
          have HZ1 := Lib.hid Z1
          have HI1 := Lib.hid I1
          have HS := Lib.hid hs
          clear Z1 I1 hs
          have HP := Lib.hid (fun (W1 : World) (hb : Below W0.heap.size W0 W1) => mb_begin1 (K0.below hb) k v e1 HS.out)
          have HM := Lib.hid (fun (W1 : World) (S1 : Nat → Prop) (hm : Mb w W1 b c S1 S' q1 q Bx true k v) => mb_begin2 hm HV.out k v e1 HS.out)
          clear K0
          go_wp2
          go_region_held3 (fun w' => w'.cell? ⟨Bx, 1, none⟩ = some (.int .i64 k) ∧ w'.cell? ⟨Bx, 2, none⟩ = some (.int .i64 v)) (first | exact ⟨d1, d2⟩ | exact ⟨f1, f2⟩ | exact ⟨y1, y2⟩) (first | (go_at_call 11; refine (HP.out _ (belD _)).mono ?_; rintro e W1 ⟨rfl, S1, K1⟩; have f1 := K1.c1; have f2 := K1.c2; have HK1 := Lib.hid K1; clear K1) | (go_at_call 17; refine (HM.out _ _ HK1.out).mono ?_; rintro e W2 ⟨rfl, S2, K2⟩; have y1 := K2.c1; have y2 := K2.c2; have HK2 := Lib.hid K2; clear K2))
          all_goals go_wp2
          all_goals go_meet
          all_goals exact ⟨_, _, q1, HK2.out, HZ1.out, HI1.out⟩
      case rest =>
        obtain ⟨S1, S1', q1, K, Z1, I1⟩ := hcut
        have d1 := K.c1
        have HLN := Lib.hid hlen
        have HLT2 := HLT.out
        have HI1 := Lib.hid I1
        have HZ1 := Lib.hid Z1
        clear K0 HZ HI I1 Z1
        by_cases h1 : k < 0
        · have hbz := Lib.hid (fun (W1 : World) (e : W1.heap = wc.heap) => busy_same K.m.qs e k false (busy_out q1 k (by omega)))
          have hk0 : decide (0 ≤ k) = false := decide_eq_false (by omega)
          clear h1
          have HK := Lib.hid K
          clear K
          go_wp2_with fail
          go_quiet ((go_at_call 19; exact Calls.quiet_of_same (hbz.out _ (by rfl))))
          go_wp2
          go_roundw
          case rel => exact ⟨i + 1, S1, S1', q1, HLT2, rfl, HK.out.m.below (gb_below (gb_drewN _ _ none) (Nat.le_refl _) (fun k e => by cases e)), HZ1.out, HI1.out⟩
          case measure => simp [intOf]; omega
        · by_cases h2 : 8 ≤ k
          · have hbz := Lib.hid (fun (W1 : World) (e : W1.heap = wc.heap) => busy_same K.m.qs e k false (busy_out q1 k (by omega)))
            have hk0 : decide (0 ≤ k) = true := decide_eq_true (by omega)
            have hk8 : decide (k < 8) = false := decide_eq_false (by omega)
            clear h1 h2
            have HK := Lib.hid K
            clear K
            go_wp2_with fail
            go_quiet ((go_at_call 19; exact Calls.quiet_of_same (hbz.out _ (by rfl))))
            go_wp2
            go_roundw
            case rel => exact ⟨i + 1, S1, S1', q1, HLT2, rfl, HK.out.m.below (gb_below (gb_drewN _ _ none) (Nat.le_refl _) (fun k e => by cases e)), HZ1.out, HI1.out⟩
            case measure => simp [intOf]; omega
          · obtain ⟨n, rfl⟩ : ∃ n : Nat, k = n := ⟨k.toNat, by omega⟩
            have hn : n < 8 := by omega
            have hbz := Lib.hid (fun (W1 : World) (e : W1.heap = wc.heap) => busy_same K.m.qs e n (q1.th n).on (busy_in q1 n hn))
            obtain ⟨g, vv, vn, hrf, _⟩ := K.m.rf
            have t0 := hrf.t0 n hn
            have c4 := hrf.c4
            have hk0 : (0 : Int) ≤ n := by omega
            have hk8 : (n : Int) < 8 := by omega
            have HK := Lib.hid K
            clear K hrf
            generalize (q1.th n).on = o at *
            go_wp2_with fail
            go_quiet ((go_at_call 19; exact Calls.quiet_of_same (hbz.out _ (by rfl))))
            go_wp2
            go_roundw
            case rel => exact ⟨i + 1, S1, S1', q1, HLT2, rfl, HK.out.m.below (gb_below (gb_drewN _ _ none) (Nat.le_refl _) (fun k e => by cases e)), HZ1.out, HI1.out⟩
            case measure => simp [intOf]; omega
    · obtain rfl : i = len := by omega
      clear hr
      obtain ⟨r, hI⟩ := I
      have HM := Lib.hid M
      have HII := Lib.hid hI
      have HL := Lib.hid (show ((lnk q q.tail r).map q.v).length ≤ 9223372036854775807 by have := (M.qs.gives hI).len; omega)
      clear Z hI M
      go_wp2_with fail
      refine (coll_any (some ⟨b, 0, none⟩) _ _ (HM.out.qs.gives HII.out)).mono ?_
      rintro e W1 ⟨v1, rfl, o1, b1⟩
      have M1 := HM.out.below b1
      have l1 := ls_own o1
      clear o1
      obtain ⟨g, vv, vn, hrf, _⟩ := M1.rf
      go_wp2_with fail
      refine (mitems_any hrf M1.qs.V r HII.out).mono ?_
      rintro e W2 ⟨v2, rfl, l2, b2⟩
      have l1' := l1.below b2
      have hbel := M1.qs.bel.trans (b2.mono M1.qs.bel.size)
      clear l1 hrf M1 b1 b2
      generalize (lnk q q.tail r).map q.v = L at *
      obtain ⟨a1, p1, rfl⟩ := ls_slice l1'
      obtain ⟨a2, p2, rfl⟩ := ls_slice l2
      go_wp2_with fail
      refine (same_any L L a1 a2 L.length L.length p1 p2 W2 (fun i hi => ls_cell l1' i hi) (fun i hi => ls_cell l2 i hi) rfl rfl HL.out).mono ?_
      rintro e W3 ⟨rfl, m, rfl⟩
      go_wp2
      go_ret
      exact ⟨rfl, hbel.trans (gb_below (gb_drewN W2 m none) hbel.size (fun k e => by cases e))⟩
end Go.Proofs.Ytcbbjcafgnddcaa
