/- The law Finds. -/
import Derived.Test.YtpmkdhaponhacaaDoorP12
namespace Go.Proofs.YtpmkdhaponhacaaDoor
open Go.RowKit
set_option linter.unusedVariables false
set_option linter.unusedSimpArgs false
theorem Ow.drewN {w wr : World} {b p : Nat} {q : Q} (h : Ow w wr b p q) (m : Nat) : Ow w (wr.drewN m) b p q := h.to (h.l.drewN m) h.wf (fr_drewN _ _ _)
theorem Ow.drew {w wr : World} {b p : Nat} {q : Q} (h : Ow w wr b p q) : Ow w wr.drew b p q := h.to h.l.drew h.wf (fr_drew _ _)
/-- a lot at a row -/
structure Fd (q : Q) (i : Nat) : Prop where
  cm : Cm q
  w0 : 0 ≤ q.work
  wi : q.work ≤ i
set_option maxRecDepth 100000 in
set_option maxHeartbeats 8000000 in
theorem finds_any (s : Int) (a : Option Addr) (len cap : Nat) (t : Nat → Int) (o : Nat → Bool) (w : World) (hT : Tab w 1) (hr : Rws w a len t o) (hlen : len ≤ 100000000000000) :
    Calls Tryd.prog 3 #[.int .i64 s, .slice a len cap] w fun e w' => e = .returned (.bool true) ∧ Below w.heap.size w w' := by
  have hlt1 := tab_lt hT
  have HL := Lib.hid (lives_any w hT)
  have HT := Lib.hid hT
  have HF0 : Hid (Fd (Q0 (nw s + 1)) 0) := Lib.hid ⟨cm0 s, Int.le_refl _, Int.le_refl _⟩
  clear hT
  go_enter Tryd.func3, Tryd.ntmps3
  go_wp2_with fail
  refine HL.out.mono ?_
  rintro e w1 ⟨rfl, g1⟩
  have HN := Lib.hid (ow_newc s w1 (tab_below HT.out g1 hlt1))
  have G1 := Lib.hid g1
  clear HL HT g1
  go_wp2_with fail
  refine HN.out.mono ?_
  rintro e w2 ⟨b, p, rfl, o2⟩
  clear HN
  have O2 : Hid (Ow w w2 b p (Q0 (nw s + 1))) := Lib.hid ⟨o2.l, o2.wf, bel_trans G1.out ⟨o2.bel.os, o2.bel.tape, o2.bel.output, o2.bel.size, fun k hk => o2.bel.block k (by have := G1.out.size; omega)⟩, by have := G1.out.size; have := o2.hb; omega, by have := G1.out.size; have := o2.hp; omega⟩
  clear o2 G1
  generalize Q0 (nw s + 1) = q0 at *
  go_wp2_with fail
  go_loopw [6] (fun kv wr => ∃ (i : Nat) (q : Q), i ≤ len ∧ kv = .int .i64 i ∧ Ow w wr b p q ∧ Hid (Fd q i)) (fun kv wr => len - (intOf kv).toNat)
  case atStart => exact ⟨0, q0, Nat.zero_le _, rfl, O2.out, HF0⟩
  case round =>
    clear O2 HF0
    obtain ⟨i, q, hi, rfl, M, F⟩ := hrel
    by_cases hlt : i < len
    · obtain ⟨sb, so, rfl, hsb, k0, k1⟩ := hr i hlt
      have d0 := (M.bel.cell (p := ⟨sb, so + i * 2, none⟩) hsb).trans k0
      have hi3 : (i : Int) < (len : Int) := by omega
      have hi0 : (0 : Int) ≤ (i : Int) := by omega
      have HR := Lib.hid hr
      have HLT := Lib.hid (And.intro hlt hlen)
      have HK1 := Lib.hid k1
      have HSB := Lib.hid hsb
      clear k0 k1 hr hlt
      generalize t i = ti at d0
      generalize o i = oi at HK1
      obtain ⟨k, hk, ek⟩ := modn ti q.n M.l.n1 M.l.n2
      have hq1 : 1 ≤ q.n := by have := M.l.n1; omega
      have EK : Hid (wrap64 ((IntKind.u64.wrap ti).tmod (((q.n - 1 : Nat) : Int) + 1)) = (k : Int)) := Lib.hid (by rw [← ek]; congr 2; omega)
      clear hq1
      have HW : Hid (∀ W1 : World, W1.heap = wr.heap → Calls Tryd.prog 11 #[.pointer (some ⟨b, 0, none⟩)] W1 fun e w' => e = .returned (.int .i64 ((q.n - 1 : Nat) : Int)) ∧ w' = W1) := Lib.hid (fun W1 e => workers_any (M.l.same e))
      have n1 := M.l.n1
      have n2 := M.l.n2
      have MM := Lib.hid M
      clear M ek
      generalize hN : q.n - 1 = N at *
      have hn : q.n = N + 1 := by omega
      rw [hn] at hk n1 n2
      have HN := Lib.hid hN
      clear hN
      have HQ := Lib.hid hn
      clear hn
      go_wp2_with fail
      go_quiet (first | (go_at_call 11; exact Calls.quiet_of_same (HW.out _ (by rfl))))
      rw [EK.out]
      have MD := Lib.hid (MM.out.drewN nq)
      have d1 : (wr.drewN nq).cell? ⟨sb, so + i * 2 + 1, none⟩ = some (.bool oi) := (MM.out.bel.cell (p := ⟨sb, so + i * 2 + 1, none⟩) HSB.out).trans HK1.out
      have HW' : Hid (Calls Tryd.prog 11 #[.pointer (some ⟨b, 0, none⟩)] (wr.drewN nq) fun e w' => e = .returned (.int .i64 (N : Int)) ∧ w' = wr.drewN nq) := Lib.hid (HW.out _ rfl)
      clear MM HW d0 EK
      generalize wr.drewN nq = W at *
      have HP : Hid (∀ j : Nat, j ≤ N → Calls Tryd.prog 12 #[.pointer (some ⟨b, 0, none⟩), .int .i64 (j : Int)] W fun e w' => e = .returned (.bool (q.th j).pk) ∧ w' = W) := Lib.hid (fun j hj => parked_any MD.out.l j _ (by rw [decide_eq_true (by have := HQ.out; omega), Int.toNat_natCast, Bool.true_and]))
      have HWk : Hid (Calls Tryd.prog 13 #[.pointer (some ⟨b, 0, none⟩)] W fun e w' => e = .returned (.int .i64 q.work) ∧ w' = W) := Lib.hid (work_any MD.out.l)
      have D1 := Lib.hid d1
      clear d1
      have hkN : k ≤ N := by omega
      go_wp2_with fail
      refine (HP.out k hkN).mono ?_
      rintro e w3 ⟨rfl, rfl⟩
      cases hpk : (q.th k).pk
      · have HPK := Lib.hid hpk
        clear hpk
        go_wp2_with fail
        refine HWk.out.mono ?_
        rintro e w3 ⟨rfl, rfl⟩
        go_wp2_with fail
        refine HW'.out.mono ?_
        rintro e w3 ⟨rfl, rfl⟩
        go_wp2_with fail
        go_loopw [9, 10] (fun sv jv wx => ∃ j s : Nat, sv = .int .i64 s ∧ jv = .int .i64 j ∧ j ≤ N ∧ Hid (Lst q (j + 1) s) ∧ wx = w3) (fun sv jv wx => (intOf jv).toNat)
        case atStart => exact ⟨N, 0, rfl, rfl, Nat.le_refl _, Lib.hid (by have := lst_top q; rw [HQ.out] at this; exact this), rfl⟩
        case round =>
          obtain ⟨j, s', rfl, rfl, hjN, hL, rfl⟩ := hrel
          by_cases hj : 1 ≤ j
          · have hj' : (1 : Int) ≤ (j : Int) := by omega
            go_wp2_with fail
            refine (HP.out j hjN).mono ?_
            rintro e w4 ⟨rfl, rfl⟩
            cases hpj : (q.th j).pk
            · have HPJ := Lib.hid hpj
              clear hpj
              go_wp2
              exact ⟨⟨j - 1, s', rfl, by go_num, by omega, Lib.hid (by rw [show j - 1 + 1 = j by omega]; exact lst_no hL.out HPJ.out), trivial⟩, by simp [intOf]; omega⟩
            · have HPJ := Lib.hid hpj
              clear hpj
              go_wp2
              exact ⟨⟨j - 1, j, rfl, by go_num, by omega, Lib.hid (by rw [show j - 1 + 1 = j by omega]; exact lst_yes hL.out (by have := HQ.out; omega) HPJ.out), trivial⟩, by simp [intOf]; omega⟩
          · obtain rfl : j = 0 := by omega
            have hE := lst_end F.out.cm hL.out
            clear hL
            have D2 := D1.out
            have a0 := F.out.w0
            have a1 : q.work ≤ 100000000000000 := by have := F.out.wi; have := HLT.out; omega
            have fin : ∀ q' : Q, Cm q' → 0 ≤ q'.work → q'.work ≤ q.work + 1 → Hid (Fd q' (i + 1)) := fun q' c x y => Lib.hid ⟨c, x, by have := F.out.wi; omega⟩
            have FIN := Lib.hid fin
            clear fin HW' HWk
            by_cases hg : oi = true ∨ k = 0
            · obtain ⟨q', G⟩ := gv F.out.cm (k := k) (by have := HQ.out; omega) HPK.out
              have cw := ow_whole MD.out k 0
              rw [G.ev] at cw
              have ew : q'.work = q.work + 1 := by rw [G.work]; unfold wrap64; omega
              have GC := Lib.hid G.cm
              by_cases hid0 : q.idle = 0
              · rw [if_pos hid0, if_pos hid0] at cw
                have hs0 : s' = 0 := by rw [hE.1, if_pos hid0]
                subst hs0
                have CW := Lib.hid cw
                clear cw hE G hid0
                rcases hg with rfl | rfl
                · go_wp2_with fail
                  refine CW.out.mono ?_
                  rintro e w5 ⟨rfl, M5⟩
                  have cw2 := work_any M5.l
                  rw [ew] at cw2
                  have M5' := Lib.hid M5
                  clear M5
                  have CW2 := Lib.hid cw2
                  clear cw2 CW
                  go_wp2_with fail
                  refine CW2.out.mono ?_
                  rintro e w6 ⟨rfl, rfl⟩
                  go_wp2
                  exact ⟨⟨i + 1, q', by have := HLT.out; omega, by go_num, M5'.out, FIN.out q' GC.out (by omega) (by omega)⟩, by have := HLT.out; simp [intOf]; omega⟩
                · cases oi
                  all_goals
                    go_wp2_with fail
                    refine CW.out.mono ?_
                    rintro e w5 ⟨rfl, M5⟩
                    have cw2 := work_any M5.l
                    rw [ew] at cw2
                    have M5' := Lib.hid M5
                    clear M5
                    have CW2 := Lib.hid cw2
                    clear cw2 CW
                    go_wp2_with fail
                    refine CW2.out.mono ?_
                    rintro e w6 ⟨rfl, rfl⟩
                    go_wp2
                    exact ⟨⟨i + 1, q', by have := HLT.out; omega, by go_num, M5'.out, FIN.out q' GC.out (by omega) (by omega)⟩, by have := HLT.out; simp [intOf]; omega⟩
              · rw [if_neg hid0, if_neg hid0] at cw
                have hs0 : Lib.ctz 64 q.idle = s' := by rw [hE.1, if_neg hid0]
                have hsp : (0 : Int) < (s' : Int) := by have := hE.2.2 hid0; omega
                rw [hs0] at cw
                have CW := Lib.hid cw
                clear cw hE G hid0 hs0
                rcases hg with rfl | rfl
                · go_wp2_with fail
                  refine CW.out.mono ?_
                  rintro e w5 ⟨rfl, M5⟩
                  have cw2 := work_any M5.l
                  rw [ew] at cw2
                  have M5' := Lib.hid M5
                  clear M5
                  have CW2 := Lib.hid cw2
                  clear cw2 CW
                  go_wp2_with fail
                  refine CW2.out.mono ?_
                  rintro e w6 ⟨rfl, rfl⟩
                  go_wp2
                  exact ⟨⟨i + 1, q', by have := HLT.out; omega, by go_num, M5'.out, FIN.out q' GC.out (by omega) (by omega)⟩, by have := HLT.out; simp [intOf]; omega⟩
                · cases oi
                  all_goals
                    go_wp2_with fail
                    refine CW.out.mono ?_
                    rintro e w5 ⟨rfl, M5⟩
                    have cw2 := work_any M5.l
                    rw [ew] at cw2
                    have M5' := Lib.hid M5
                    clear M5
                    have CW2 := Lib.hid cw2
                    clear cw2 CW
                    go_wp2_with fail
                    refine CW2.out.mono ?_
                    rintro e w6 ⟨rfl, rfl⟩
                    go_wp2
                    exact ⟨⟨i + 1, q', by have := HLT.out; omega, by go_num, M5'.out, FIN.out q' GC.out (by omega) (by omega)⟩, by have := HLT.out; simp [intOf]; omega⟩
            · have hoi : oi = false := by cases oi; rfl; exact absurd (.inl rfl) hg
              have hk0 : k ≠ 0 := fun e => hg (.inr e)
              subst hoi
              have hkb : ((k : Int) == 0) = false := by simp; exact hk0
              obtain ⟨q', G⟩ := tk F.out.cm (k := k) (by have := HQ.out; omega) hk0 HPK.out
              have cw := ow_whole MD.out k 1
              rw [G.ev] at cw
              have GC := Lib.hid G.cm
              have gp := G.pk k (by have := HQ.out; omega)
              have gn : q'.n = N + 1 := by rw [G.n]; exact HQ.out
              have gw := G.work
              clear hg hE G hk0
              by_cases h0 : 0 < q.work
              · rw [if_pos h0] at cw gw
                rw [if_neg (fun c => c.1 h0), HPK.out] at gp
                have ew : q'.work = q.work - 1 := by rw [gw]; unfold wrap64; omega
                have CW := Lib.hid cw
                clear cw gw
                go_wp2_with fail
                refine CW.out.mono ?_
                rintro e w5 ⟨rfl, M5⟩
                have cp := parked_any M5.l k false (by rw [Int.toNat_natCast, gp, Bool.and_false])
                have cw2 := work_any M5.l
                rw [ew] at cw2
                have M5' := Lib.hid M5
                have CP := Lib.hid cp
                have CW2 := Lib.hid cw2
                clear cw2 CW M5 cp gp
                go_wp2_with fail
                refine CP.out.mono ?_
                rintro e w6 ⟨rfl, rfl⟩
                go_wp2_with fail
                refine CW2.out.mono ?_
                rintro e w6 ⟨rfl, rfl⟩
                go_wp2
                exact ⟨⟨i + 1, q', by have := HLT.out; omega, by go_num, M5'.out, FIN.out q' GC.out (by omega) (by omega)⟩, by have := HLT.out; simp [intOf]; omega⟩
              · rw [if_neg h0] at cw gw
                rw [if_pos ⟨h0, rfl⟩] at gp
                have hz : q.work = 0 := by omega
                rw [hz] at gw
                have CW := Lib.hid cw
                have HPw := Lib.hid hz
                rw [hz]
                clear cw h0 a0 a1
                go_wp2_with fail
                refine CW.out.mono ?_
                rintro e w5 ⟨rfl, M5⟩
                have cp := parked_any M5.l k true (by rw [Int.toNat_natCast, gp, decide_eq_true (by omega)]; rfl)
                have cw2 := work_any M5.l
                rw [gw] at cw2
                have M5' := Lib.hid M5
                have CP := Lib.hid cp
                have CW2 := Lib.hid cw2
                clear cw2 CW M5 cp gp
                go_wp2_with fail
                refine CP.out.mono ?_
                rintro e w6 ⟨rfl, rfl⟩
                go_wp2_with fail
                refine CW2.out.mono ?_
                rintro e w6 ⟨rfl, rfl⟩
                go_wp2
                exact ⟨⟨i + 1, q', by have := HLT.out; omega, by go_num, M5'.out, FIN.out q' GC.out (by omega) (by have := HPw.out; omega)⟩, by have := HLT.out; simp [intOf]; omega⟩
      · go_wp2
        exact ⟨⟨i + 1, q, by have := HLT.out; omega, by go_num, MD.out, Lib.hid ⟨F.out.cm, F.out.w0, by have := F.out.wi; omega⟩⟩, by have := HLT.out; simp [intOf]; omega⟩
    · have hge : ¬ ((i : Int) < (len : Int)) := by omega
      have MB := Lib.hid M.bel
      clear M F hlen
      go_wp2
      go_ret
      exact ⟨rfl, MB.out⟩
end Go.Proofs.YtpmkdhaponhacaaDoor
