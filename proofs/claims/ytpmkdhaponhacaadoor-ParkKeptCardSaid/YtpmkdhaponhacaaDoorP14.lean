/- The law Each: the plain part. -/
import Derived.Test.YtpmkdhaponhacaaDoorP13
namespace Go.Proofs.YtpmkdhaponhacaaDoor
open Go.RowKit
set_option linter.unusedVariables false
set_option linter.unusedSimpArgs false
theorem mod12 (x : Int) : ∃ g : Nat, g < 12 ∧ wrap64 ((IntKind.u64.wrap x).tmod 12) = (g : Int) := by
  have h0 : 0 ≤ IntKind.u64.wrap x := by rw [IntKind.wrap_u64]; omega
  generalize IntKind.u64.wrap x = y at h0
  have h3 := Int.tmod_nonneg (12 : Int) h0
  have h4 := Int.tmod_lt_of_pos y (show (0 : Int) < 12 by omega)
  refine ⟨(y.tmod 12).toNat, by omega, ?_⟩
  unfold wrap64; omega
/-- the first k have parked -/
structure E1 (q : Q) (N k : Nat) : Prop where
  cm : Cm q
  n : q.n = N + 1
  w : q.work = 0
  pk : ∀ j, j < q.n → (q.th j).pk = decide (1 ≤ j ∧ j ≤ k)
/-- g works have been given -/
structure E2 (q : Q) (N g : Nat) : Prop where
  cm : Cm q
  n : q.n = N + 1
  w : q.work = (g : Int)
  pk : ∀ j, j < q.n → (q.th j).pk = decide (1 ≤ j ∧ g < j)
/-- the first k have gone on -/
structure E3 (q : Q) (N g k : Nat) : Prop where
  cm : Cm q
  n : q.n = N + 1
  w : q.work = ((g - min k g : Nat) : Int)
  pk : ∀ j, j < q.n → (q.th j).pk = decide (1 ≤ j ∧ g < j)
theorem e1_step {q : Q} {N k : Nat} (h : E1 q N k) (hk : k < N) : ∃ q', wholeF q ((k + 1 : Nat) : Int) 1 = ((3, 0), q') ∧ E1 q' N (k + 1) := by
  obtain ⟨q', U⟩ := tk h.cm (k := k + 1) (by rw [h.n]; omega) (by omega) (by rw [h.pk _ (by rw [h.n]; omega), decide_eq_false (by omega)])
  have hw : ¬ 0 < q.work := by rw [h.w]; omega
  refine ⟨q', by rw [U.ev, if_neg hw], U.cm, by rw [U.n, h.n], by rw [U.work, if_neg hw, h.w], fun j hj => ?_⟩
  rw [U.n] at hj
  rw [U.pk j hj, h.pk j hj]
  by_cases e : j = k + 1
  · rw [if_pos ⟨hw, e⟩, decide_eq_true (by omega)]
  · rw [if_neg (fun c => e c.2)]
    by_cases e2 : 1 ≤ j ∧ j ≤ k
    · rw [decide_eq_true e2, decide_eq_true (by omega)]
    · rw [decide_eq_false e2, decide_eq_false (by omega)]
theorem e1_end {q : Q} {N : Nat} (h : E1 q N N) : E2 q N 0 := by
  refine ⟨h.cm, h.n, by rw [h.w]; rfl, fun j hj => ?_⟩
  rw [h.pk j hj]
  have hn := h.n
  by_cases e : 1 ≤ j
  · rw [decide_eq_true (by omega), decide_eq_true (by omega)]
  · rw [decide_eq_false (by omega), decide_eq_false (by omega)]
theorem e2_step {q : Q} {N g : Nat} (h : E2 q N g) (hg : g < 12) : ∃ q', wholeF q ((0 : Nat) : Int) 0 = ((if g < N then 1 else 0, if g < N then g + 1 else 0), q') ∧ E2 q' N (g + 1) := by
  have hn := h.n
  obtain ⟨q', U⟩ := gv h.cm (k := 0) (by omega) h.cm.p0
  have hwk : q'.work = ((g + 1 : Nat) : Int) := by rw [U.work, h.w]; unfold wrap64; omega
  by_cases hgN : g < N
  · have hL : Lst q 1 (g + 1) := .inr ⟨by omega, by omega, by rw [h.pk _ (by omega), decide_eq_true (by omega)], fun i a b => by rw [h.pk _ (by omega), decide_eq_false (by omega)]⟩
    obtain ⟨e1, e2⟩ := lst_end h.cm hL
    have hid0 : q.idle ≠ 0 := e2.1 (by omega)
    rw [if_neg hid0] at e1
    refine ⟨q', by rw [U.ev, if_neg hid0, if_neg hid0, if_pos hgN, if_pos hgN, ← e1], U.cm, by rw [U.n, hn], hwk, fun j hj => ?_⟩
    rw [U.n] at hj
    rw [U.pk j hj, h.pk j hj, ← e1]
    by_cases e : j = g + 1
    · rw [if_pos ⟨hid0, e⟩, decide_eq_false (by omega)]
    · rw [if_neg (fun c => e c.2)]
      by_cases e3 : 1 ≤ j ∧ g < j
      · rw [decide_eq_true e3, decide_eq_true (by omega)]
      · rw [decide_eq_false e3, decide_eq_false (by omega)]
  · have hL : Lst q 1 0 := .inl ⟨rfl, fun i a b => by rw [h.pk _ b, decide_eq_false (by omega)]⟩
    obtain ⟨e1, e2⟩ := lst_end h.cm hL
    have hid0 : q.idle = 0 := by
      by_cases e : q.idle = 0
      · exact e
      · exact absurd (e2.2 e) (by omega)
    refine ⟨q', by rw [U.ev, if_pos hid0, if_pos hid0, if_neg hgN, if_neg hgN], U.cm, by rw [U.n, hn], hwk, fun j hj => ?_⟩
    rw [U.n] at hj
    rw [U.pk j hj, h.pk j hj, if_neg (fun c => c.1 hid0), decide_eq_false (by omega), decide_eq_false (by omega)]
theorem e2_end {q : Q} {N g : Nat} (h : E2 q N g) : E3 q N g 0 := ⟨h.cm, h.n, by rw [h.w]; omega, h.pk⟩
theorem e3_on {q : Q} {N g k : Nat} (h : E3 q N g k) (hg : g < 12) (hk : k < N) (hkg : k + 1 ≤ g) : ∃ q', wholeF q ((k + 1 : Nat) : Int) 1 = ((2, 0), q') ∧ E3 q' N g (k + 1) := by
  obtain ⟨q', U⟩ := tk h.cm (k := k + 1) (by rw [h.n]; omega) (by omega) (by rw [h.pk _ (by rw [h.n]; omega), decide_eq_false (by omega)])
  have hw : 0 < q.work := by rw [h.w]; omega
  refine ⟨q', by rw [U.ev, if_pos hw], U.cm, by rw [U.n, h.n], by rw [U.work, if_pos hw, h.w]; unfold wrap64; omega, fun j hj => ?_⟩
  rw [U.n] at hj
  rw [U.pk j hj, h.pk j hj, if_neg (fun c => c.1 hw)]
theorem e3_off {q : Q} {N g k : Nat} (h : E3 q N g k) (hkg : ¬ k + 1 ≤ g) : E3 q N g (k + 1) := ⟨h.cm, h.n, by rw [h.w]; omega, h.pk⟩
theorem ow_workers {w wr : World} {b p N : Nat} {q : Q} (h : Ow w wr b p q) (hn : q.n = N + 1) : Calls Tryd.prog 11 #[.pointer (some ⟨b, 0, none⟩)] wr fun e w' => e = .returned (.int .i64 (N : Int)) ∧ w' = wr := by
  have := workers_any h.l
  rw [hn] at this
  exact this
theorem ow_parked {w wr : World} {b p : Nat} {q : Q} (h : Ow w wr b p q) (k : Nat) (hk : k < q.n) (o : Bool) (ho : (q.th k).pk = o) : Calls Tryd.prog 12 #[.pointer (some ⟨b, 0, none⟩), .int .i64 (k : Int)] wr fun e w' => e = .returned (.bool o) ∧ w' = wr :=
  parked_any h.l k o (by rw [decide_eq_true (by omega), Int.toNat_natCast, Bool.true_and, ho])
theorem e1_new (s : Int) : E1 (Q0 (nw s + 1)) (nw s) 0 := ⟨cm0 s, rfl, rfl, fun j hj => by rw [decide_eq_false (by omega)]; rfl⟩
set_option maxRecDepth 100000 in
set_option maxHeartbeats 8000000 in
theorem each_any (s x : Int) (w : World) (hT : Tab w 1) : Calls Tryd.prog 4 #[.int .i64 s, .int .i64 x] w fun e w' => e = .returned (.bool true) ∧ Below w.heap.size w w' := by
  have hlt1 := tab_lt hT
  have HL := Lib.hid (lives_any w hT)
  have HT := Lib.hid hT
  have HF0 := Lib.hid (e1_new s)
  have hN1 := nw_lo s
  have hN2 := nw_hi s
  obtain ⟨g, hg, eg⟩ := mod12 x
  have EG := Lib.hid eg
  clear hT eg
  go_enter Tryd.func4, Tryd.ntmps4
  go_wp2_with fail
  refine HL.out.mono ?_
  rintro e w1 ⟨rfl, g1⟩
  have HN := Lib.hid (ow_newc s w1 (tab_below HT.out g1 hlt1))
  have G1 := Lib.hid g1
  clear HL HT g1
  go_wp2_with fail
  refine HN.out.mono ?_
  rintro e w2 ⟨b, p, rfl, o2⟩
  clear HN
  have O2 : Hid (Ow w w2 b p (Q0 (nw s + 1))) := Lib.hid ⟨o2.l, o2.wf, bel_trans G1.out ⟨o2.bel.os, o2.bel.tape, o2.bel.output, o2.bel.size, fun k hk => o2.bel.block k (by have := G1.out.size; omega)⟩, by have := G1.out.size; have := o2.hb; omega, by have := G1.out.size; have := o2.hp; omega⟩
  clear o2 G1
  generalize Q0 (nw s + 1) = q0 at *
  generalize nw s = N at *
  go_wp2_with fail
  go_loopw [6] (fun kv wr => ∃ (k : Nat) (q : Q), k ≤ N ∧ kv = .int .i64 ((k : Int) + 1) ∧ Ow w wr b p q ∧ Hid (E1 q N k)) (fun kv wr => N + 1 - (intOf kv).toNat)
  case atStart => exact ⟨0, q0, Nat.zero_le _, rfl, O2.out, HF0⟩
  case round =>
    clear O2 HF0
    obtain ⟨k, q, hk, rfl, M, F⟩ := hrel
    have HW := Lib.hid (ow_workers M F.out.n)
    by_cases hlt : k < N
    · obtain ⟨q', ev, F'⟩ := e1_step F.out hlt
      have cw := ow_whole M ((k + 1 : Nat) : Int) 1
      rw [ev] at cw
      have CW : Hid (Calls Tryd.prog 14 #[.pointer (some ⟨b, 0, none⟩), .int .i64 ((k : Int) + 1), .int .i64 1] wr fun e w' => e = .returned (.tuple #[.int .i64 3, .int .i64 0]) ∧ Ow w w' b p q') := Lib.hid cw
      have hi3 : (k : Int) + 1 ≤ (N : Int) := by omega
      have HLT := Lib.hid hlt
      have FF := Lib.hid F'
      clear M F cw ev F' hlt
      go_wp2_with fail
      refine HW.out.mono ?_
      rintro e w3 ⟨rfl, rfl⟩
      go_wp2_with fail
      refine CW.out.mono ?_
      rintro e w4 ⟨rfl, M4⟩
      have cp := ow_parked M4 (k + 1) (by rw [FF.out.n]; have := HLT.out; omega) true (by rw [FF.out.pk _ (by rw [FF.out.n]; have := HLT.out; omega), decide_eq_true (by omega)])
      have CP : Hid (Calls Tryd.prog 12 #[.pointer (some ⟨b, 0, none⟩), .int .i64 ((k : Int) + 1)] w4 fun e w' => e = .returned (.bool true) ∧ w' = w4) := Lib.hid cp
      have MM := Lib.hid M4
      clear M4 cp CW HW
      go_wp2_with fail
      refine CP.out.mono ?_
      rintro e w5 ⟨rfl, rfl⟩
      go_wp2
      exact ⟨⟨k + 1, q', by have := HLT.out; omega, by go_num, MM.out, FF⟩, by have := HLT.out; simp [intOf]; omega⟩
    · obtain rfl : N = k := by omega
      have F2 := e1_end F.out
      have hge : ¬ ((N : Int) + 1 ≤ (N : Int)) := by omega
      have MM := Lib.hid M
      have FF := Lib.hid F2
      clear M F F2 hlt hk
      go_wp2_with fail
      refine HW.out.mono ?_
      rintro e w3 ⟨rfl, rfl⟩
      clear HW
      go_wp2_with fail
      rw [EG.out]
      clear hge
      go_loopw [10] (fun iv wr => ∃ (i : Nat) (q : Q), i ≤ g ∧ iv = .int .i64 ((i : Int) + 1) ∧ Ow w wr b p q ∧ Hid (E2 q N i)) (fun iv wr => g + 1 - (intOf iv).toNat)
      case atStart => exact ⟨0, q, Nat.zero_le _, rfl, MM.out, FF⟩
      case round =>
        clear MM FF
        obtain ⟨i, q, hi, rfl, M, F⟩ := hrel
        by_cases hlt : i < g
        · obtain ⟨q', ev, F'⟩ := e2_step F.out (by omega)
          have cw := ow_whole M ((0 : Nat) : Int) 0
          rw [ev] at cw
          have hi3 : (i : Int) + 1 ≤ (g : Int) := by omega
          have HLT := Lib.hid hlt
          have FF := Lib.hid F'
          have hgn : q'.n = N + 1 := F'.n
          have hgw : q'.work = (i : Int) + 1 := F'.w
          by_cases hiN : i < N
          · rw [if_pos hiN, if_pos hiN] at cw
            have CW : Hid (Calls Tryd.prog 14 #[.pointer (some ⟨b, 0, none⟩), .int .i64 0, .int .i64 0] wr fun e w' => e = .returned (.tuple #[.int .i64 1, .int .i64 ((i : Int) + 1)]) ∧ Ow w w' b p q') := Lib.hid cw
            have h5 : (i : Int) + 1 ≤ (N : Int) := by omega
            have h6 : ¬ ((N : Int) < (i : Int) + 1) := by omega
            clear M F cw ev F' hlt hiN
            go_wp2_with fail
            refine CW.out.mono ?_
            rintro e w4 ⟨rfl, M4⟩
            have HW := Lib.hid (ow_workers M4 hgn)
            have CP := Lib.hid (work_any M4.l)
            rw [hgw] at CP
            have MM := Lib.hid M4
            clear M4 CW hgn hgw
            go_wp2_with fail
            refine HW.out.mono ?_
            rintro e w5 ⟨rfl, rfl⟩
            go_wp2_with fail
            refine HW.out.mono ?_
            rintro e w6 ⟨rfl, rfl⟩
            go_wp2_with fail
            refine CP.out.mono ?_
            rintro e w7 ⟨rfl, rfl⟩
            go_wp2
            exact ⟨⟨i + 1, q', by have := HLT.out; omega, by go_num, MM.out, FF⟩, by have := HLT.out; simp [intOf]; omega⟩
          · rw [if_neg hiN, if_neg hiN] at cw
            have CW : Hid (Calls Tryd.prog 14 #[.pointer (some ⟨b, 0, none⟩), .int .i64 0, .int .i64 0] wr fun e w' => e = .returned (.tuple #[.int .i64 0, .int .i64 0]) ∧ Ow w w' b p q') := Lib.hid cw
            have h5 : ¬ ((i : Int) + 1 ≤ (N : Int)) := by omega
            have h6 : ((N : Int) < (i : Int) + 1) := by omega
            clear M F cw ev F' hlt hiN
            go_wp2_with fail
            refine CW.out.mono ?_
            rintro e w4 ⟨rfl, M4⟩
            have HW := Lib.hid (ow_workers M4 hgn)
            have CP := Lib.hid (work_any M4.l)
            rw [hgw] at CP
            have MM := Lib.hid M4
            clear M4 CW hgn hgw
            go_wp2_with fail
            refine HW.out.mono ?_
            rintro e w5 ⟨rfl, rfl⟩
            go_wp2_with fail
            refine HW.out.mono ?_
            rintro e w6 ⟨rfl, rfl⟩
            go_wp2_with fail
            refine CP.out.mono ?_
            rintro e w7 ⟨rfl, rfl⟩
            go_wp2
            exact ⟨⟨i + 1, q', by have := HLT.out; omega, by go_num, MM.out, FF⟩, by have := HLT.out; simp [intOf]; omega⟩
        · obtain rfl : g = i := by omega
          have F3 := e2_end F.out
          have hge : ¬ ((g : Int) + 1 ≤ (g : Int)) := by omega
          have MM := Lib.hid M
          have FF := Lib.hid F3
          clear M F F3 hlt hi
          go_wp2_with fail
          clear hge
          go_loopw [13] (fun kv wr => ∃ (k : Nat) (q : Q), k ≤ N ∧ kv = .int .i64 ((k : Int) + 1) ∧ Ow w wr b p q ∧ Hid (E3 q N g k)) (fun kv wr => N + 1 - (intOf kv).toNat)
          case atStart => exact ⟨0, q, Nat.zero_le _, rfl, MM.out, FF⟩
          case round =>
            clear MM FF
            obtain ⟨k, q, hk, rfl, M, F⟩ := hrel
            have HW := Lib.hid (ow_workers M F.out.n)
            by_cases hlt : k < N
            · have hi3 : (k : Int) + 1 ≤ (N : Int) := by omega
              have HLT := Lib.hid hlt
              by_cases hkg : k + 1 ≤ g
              · obtain ⟨q', ev, F'⟩ := e3_on F.out hg hlt hkg
                have cp := ow_parked M (k + 1) (by rw [F.out.n]; omega) false (by rw [F.out.pk _ (by rw [F.out.n]; omega), decide_eq_false (by omega)])
                have CP : Hid (Calls Tryd.prog 12 #[.pointer (some ⟨b, 0, none⟩), .int .i64 ((k : Int) + 1)] wr fun e w' => e = .returned (.bool false) ∧ w' = wr) := Lib.hid cp
                have cw := ow_whole M ((k + 1 : Nat) : Int) 1
                rw [ev] at cw
                have CW : Hid (Calls Tryd.prog 14 #[.pointer (some ⟨b, 0, none⟩), .int .i64 ((k : Int) + 1), .int .i64 1] wr fun e w' => e = .returned (.tuple #[.int .i64 2, .int .i64 0]) ∧ Ow w w' b p q') := Lib.hid cw
                have h5 : ¬ ((g : Int) < (k : Int) + 1) := by omega
                have FF := Lib.hid F'
                clear M F cw ev F' hlt hkg cp
                go_wp2_with fail
                refine HW.out.mono ?_
                rintro e w3 ⟨rfl, rfl⟩
                go_wp2_with fail
                refine CP.out.mono ?_
                rintro e w3 ⟨rfl, rfl⟩
                go_wp2_with fail
                refine CW.out.mono ?_
                rintro e w4 ⟨rfl, M4⟩
                go_wp2
                exact ⟨⟨k + 1, q', by have := HLT.out; omega, by go_num, M4, FF⟩, by have := HLT.out; simp [intOf]; omega⟩
              · have F' := e3_off F.out hkg
                have cp := ow_parked M (k + 1) (by rw [F.out.n]; omega) true (by rw [F.out.pk _ (by rw [F.out.n]; omega), decide_eq_true (by omega)])
                have CP : Hid (Calls Tryd.prog 12 #[.pointer (some ⟨b, 0, none⟩), .int .i64 ((k : Int) + 1)] wr fun e w' => e = .returned (.bool true) ∧ w' = wr) := Lib.hid cp
                have h5 : ((g : Int) < (k : Int) + 1) := by omega
                have FF := Lib.hid F'
                have MM := Lib.hid M
                clear M F F' hlt hkg cp
                go_wp2_with fail
                refine HW.out.mono ?_
                rintro e w3 ⟨rfl, rfl⟩
                go_wp2_with fail
                refine CP.out.mono ?_
                rintro e w3 ⟨rfl, rfl⟩
                go_wp2
                exact ⟨⟨k + 1, q, by have := HLT.out; omega, by go_num, MM.out, FF⟩, by have := HLT.out; simp [intOf]; omega⟩
            · obtain rfl : N = k := by omega
              have hge : ¬ ((N : Int) + 1 ≤ (N : Int)) := by omega
              have cw := work_any M.l
              rw [F.out.w] at cw
              have CW := Lib.hid cw
              have MM := Lib.hid M
              clear M F cw hlt hk
              by_cases hgN : N ≤ g
              · obtain ⟨d, rfl⟩ : ∃ d, g = N + d := ⟨g - N, by omega⟩
                rw [show N + d - min N (N + d) = d by omega] at CW
                go_wp2_with fail
                refine HW.out.mono ?_
                rintro e w3 ⟨rfl, rfl⟩
                go_wp2_with fail
                refine CW.out.mono ?_
                rintro e w3 ⟨rfl, rfl⟩
                go_wp2_with fail
                refine HW.out.mono ?_
                rintro e w3 ⟨rfl, rfl⟩
                have e1 : ((N + d : Nat) : Int) - (N : Int) = (d : Int) := by omega
                have e2 : ¬ ((d : Int) < 0) := by omega
                go_wp2
                go_ret
                exact ⟨by simp [*] <;> omega, MM.out.bel⟩
              · have hgN' : (g : Int) - (N : Int) < 0 := by omega
                rw [show g - min N g = 0 by omega] at CW
                go_wp2_with fail
                refine HW.out.mono ?_
                rintro e w3 ⟨rfl, rfl⟩
                go_wp2_with fail
                refine CW.out.mono ?_
                rintro e w3 ⟨rfl, rfl⟩
                go_wp2_with fail
                refine HW.out.mono ?_
                rintro e w3 ⟨rfl, rfl⟩
                go_wp2
                go_ret
                exact ⟨by simp [*] <;> omega, MM.out.bel⟩
end Go.Proofs.YtpmkdhaponhacaaDoor
