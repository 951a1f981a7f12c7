/- ParkKept's walk. -/
import Derived.Test.YtpmkdhaponhacaaDoorP25
namespace Go.Proofs.YtpmkdhaponhacaaDoor
open Go.RowKit Go.ChangeShapes Go.WideShapes Go.Deep
set_option linter.unusedVariables false
set_option linter.unusedSimpArgs false
structure Ik (q : Q) (i N : Nat) : Prop where
  ct : Ct q i
  kq : Kq q i
  n : q.n = N + 1
theorem Ik.more {q : Q} {i N : Nat} (h : Ik q i N) : Ik q (i + 1) N := ⟨h.ct.more, h.kq.more, h.n⟩
theorem rem_nat (m N : Nat) : (m : Int) % ((N : Int) + 1) = ((m % (N + 1) : Nat) : Int) := by rw [Int.natCast_emod]; rfl
theorem measB (i : Nat) (h : i < 384) : 385 - (intOf (.int .i64 ((i : Int) + 1))).toNat < 385 - (intOf (.int .i64 (i : Int))).toNat := by
  simp [intOf]
  omega
set_option maxRecDepth 100000 in
set_option maxHeartbeats 16000000 in
theorem kept_any (s : Int) (a : Option Addr) (len cap : Nat) (t : Nat → Int) (o : Nat → Bool) (w : World) (hT : Tab w 1) (hr : Rws w a len t o) (hlen : len ≤ 10000000000000) :
    Calls Tryd.prog 6 #[.int .i64 s, .slice a len cap] w fun e w' => e = .returned (.bool true) ∧ Below w.heap.size w w' := by
  have hlt1 := tab_lt hT
  have HL := Lib.hid (lives_any w hT)
  have HT := Lib.hid hT
  have HF0 : Hid (Ik (Q0 (nw s + 1)) 0 (nw s)) := Lib.hid ⟨ct0 s, kq0 s, rfl⟩
  have HN7 := Lib.hid (And.intro (nw_lo s) (nw_hi s))
  clear hT
  go_enter Tryd.func6, Tryd.ntmps6
  go_wp2_with fail
  refine HL.out.mono ?_
  rintro e w1 ⟨rfl, g1⟩
  have HN := Lib.hid (ow_newc s w1 (tab_below HT.out g1 hlt1))
  have G1 := Lib.hid g1
  clear HL HT g1
  go_wp2_with fail
  refine HN.out.mono ?_
  rintro e w2 ⟨b, p, rfl, o2⟩
  clear HN
  have O2 : Hid (Ow w w2 b p (Q0 (nw s + 1))) := Lib.hid ⟨o2.l, o2.wf, bel_trans G1.out ⟨o2.bel.os, o2.bel.tape, o2.bel.output, o2.bel.size, fun k hk => o2.bel.block k (by have := G1.out.size; omega)⟩, by have := G1.out.size; have := o2.hb; omega, by have := G1.out.size; have := o2.hp; omega⟩
  clear o2 G1
  generalize Q0 (nw s + 1) = q0 at *
  generalize nw s = N at *
  go_wp2_with fail
  go_loopw [6] (fun kv wr => ∃ (i : Nat) (q : Q), i ≤ len ∧ kv = .int .i64 i ∧ Ow w wr b p q ∧ Hid (Ik q i N)) (fun kv wr => len - (intOf kv).toNat)
  case atStart => exact ⟨0, q0, Nat.zero_le _, rfl, O2.out, HF0⟩
  case round =>
    clear O2 HF0
    obtain ⟨i, q, hi, rfl, M, F⟩ := hrel
    by_cases hlt : i < len
    · obtain ⟨sb, so, rfl, hsb, k0, k1⟩ := hr i hlt
      have d0 := (M.bel.cell (p := ⟨sb, so + i * 2, none⟩) hsb).trans k0
      have d1 := (M.bel.cell (p := ⟨sb, so + i * 2 + 1, none⟩) hsb).trans k1
      have hi3 : (i : Int) < (len : Int) := by omega
      have hi0 : (0 : Int) ≤ (i : Int) := by omega
      have HR := Lib.hid hr
      have HLT := Lib.hid (And.intro hlt hlen)
      generalize t i = ti at d0 k0
      generalize o i = oi at d1 k1
      obtain ⟨k, hk, ek⟩ := modn ti q.n M.l.n1 M.l.n2
      have hk' : k < q.n := hk
      have HK := Lib.hid hk'
      rw [F.out.n] at hk ek
      have HBg := Lib.hid (beg_any M F.out.n ti oi k hk (by rw [← ek]; rfl))
      have hwi : wrap64 ((i : Int) + 1) = (i : Int) + 1 := wrF _ (by omega) (by omega)
      have HWI := Lib.hid hwi
      clear k0 k1 hr hlt ek M hsb hlen hk hk' hwi
      go_wp2_with fail
      refine HBg.out.mono ?_
      rintro e w4 ⟨rfl, M4⟩
      have HM := Lib.hid M4
      clear M4 HBg d0 d1
      go_upto_if 30 with fail
      go_cut [8] (fun x8 wx => ∃ (q1 : Q), Ow w wx b p q1 ∧ Hid (Ik q1 (i + 1) N))
      case first =>
        cases hpk : (q.th k).pk
        · obtain ⟨I1, I2, I3⟩ := kq_row F.out.ct F.out.kq HK.out (by have := HLT.out; omega) oi hpk
          have e1 : (nxt q k oi).1 = true := by unfold nxt; rw [if_neg (by rw [hpk]; decide)]
          have HS := Lib.hid (ow_step HM.out (k : Int))
          have HI : Hid (Ik (step (nxt q k oi).2 (k : Int)).2 (i + 1) N) := Lib.hid ⟨I1, I2, I3.trans F.out.n⟩
          rw [e1]
          clear I1 I2 I3 e1 hpk
          generalize (nxt q k oi).2 = q1 at *
          generalize step q1 (k : Int) = st at *
          obtain ⟨⟨s1, s2, s3⟩, q2⟩ := st
          go_wp2_with fail
          refine HS.out.mono ?_
          rintro e w5 ⟨rfl, M5⟩
          have HM5 := Lib.hid M5
          clear M5 HS HM
          go_wp2
          go_meet
          exact ⟨q2, HM5.out, HI⟩
        · have e1 : nxt q k oi = (false, q) := by unfold nxt; rw [if_pos hpk]
          rw [e1] at HM ⊢
          clear e1
          go_wp2
          go_meet
          exact ⟨q, HM.out, Lib.hid F.out.more⟩
      case rest =>
        obtain ⟨q1, M1, HI⟩ := hcut
        have HM1 := Lib.hid M1
        clear HM F HK
        by_cases hq : Quiet q1
        · have HQ := Lib.hid (quiet_any M1.l true ⟨fun _ => hq, fun _ => rfl⟩)
          have HWk := Lib.hid (work_any M1.l)
          by_cases hw : 0 < q1.work
          · have HA := Lib.hid (allpk_any M1.l false ⟨(fun e => by cases e), fun e => absurd e (kq_law HI.out.kq hq hw)⟩)
            clear M1 hq
            generalize q1.work = wk at *
            go_wp2_with fail
            refine HQ.out.mono ?_
            rintro e w6 ⟨rfl, rfl⟩
            go_wp2_with fail
            refine HWk.out.mono ?_
            rintro e w7 ⟨rfl, rfl⟩
            go_wp2_with fail
            refine HA.out.mono ?_
            rintro e w8 ⟨rfl, rfl⟩
            go_wp2
            have hwi := HWI.out
            go_roundw
            case rel => exact ⟨i + 1, q1, HLT.out.1, by first | rfl | (rw [hwi]; rfl), HM1.out, HI⟩
            case measure => first | exact measK len i HLT.out.1 | (rw [hwi]; exact measK len i HLT.out.1)
          · clear M1 hq
            generalize q1.work = wk at *
            go_wp2_with fail
            refine HQ.out.mono ?_
            rintro e w6 ⟨rfl, rfl⟩
            go_wp2_with fail
            refine HWk.out.mono ?_
            rintro e w7 ⟨rfl, rfl⟩
            go_wp2
            have hwi := HWI.out
            go_roundw
            case rel => exact ⟨i + 1, q1, HLT.out.1, by first | rfl | (rw [hwi]; rfl), HM1.out, HI⟩
            case measure => first | exact measK len i HLT.out.1 | (rw [hwi]; exact measK len i HLT.out.1)
        · have HQ := Lib.hid (quiet_any M1.l false ⟨(fun e => by cases e), fun e => absurd e hq⟩)
          clear M1 hq
          go_wp2_with fail
          refine HQ.out.mono ?_
          rintro e w6 ⟨rfl, rfl⟩
          go_wp2
          have hwi := HWI.out
          go_roundw
          case rel => exact ⟨i + 1, q1, HLT.out.1, by first | rfl | (rw [hwi]; rfl), HM1.out, HI⟩
          case measure => first | exact measK len i HLT.out.1 | (rw [hwi]; exact measK len i HLT.out.1)
    · obtain rfl : i = len := Nat.le_antisymm hi (Nat.le_of_not_lt hlt)
      have hT1 : wrap64 ((i : Int) + 10) = (i : Int) + 10 := wrF _ (by omega) (by omega)
      have hT2 : wrap64 (40 * ((i : Int) + 10)) = 40 * ((i : Int) + 10) := wrF _ (by omega) (by omega)
      obtain ⟨TT, hTT⟩ : ∃ TT : Nat, TT = 40 * (i + 10) := ⟨_, rfl⟩
      have hT3 : wrap64 (40 * wrap64 ((i : Int) + 10)) = (TT : Int) := by rw [hT1, hT2]; omega
      have HT4 : Hid (400 ≤ TT ∧ i ≤ 10000000000000) := Lib.hid (by omega)
      have HT3 := Lib.hid hT3
      have MM := Lib.hid M
      have HFar := Lib.hid (far_new q 384 M.l.n2 M.l.n1 (Nat.le_refl _))
      clear hr hlt hi hlen hT1 hT2 hTT hT3 M
      go_wp2_with fail
      go_loopw [9] (fun kv wr => ∃ (m : Nat) (q : Q), m ≤ 384 ∧ kv = .int .i64 m ∧ Ow w wr b p q ∧ Hid (Ik q (i + m) N) ∧ Hid (Far q m 384)) (fun kv wr => 385 - (intOf kv).toNat)
      case atStart => exact ⟨0, q, Nat.zero_le _, rfl, MM.out, F, HFar⟩
      case round =>
        clear MM F HFar
        obtain ⟨m, q, hm, rfl, M, F, Fa⟩ := hrel
        have hmt : (m : Int) < (TT : Int) := by have := HT4.out; omega
        have HM := Lib.hid M
        by_cases hq : Quiet q
        · have HQ := Lib.hid (quiet_any M.l true ⟨fun _ => hq, fun _ => rfl⟩)
          have HWk := Lib.hid (work_any M.l)
          by_cases hw : 0 < q.work
          · have HA := Lib.hid (allpk_any M.l false ⟨(fun e => by cases e), fun e => absurd e (kq_law F.out.kq hq hw)⟩)
            have hwb : (q.work == 0) = false := by simp; omega
            have hlt2 : (m : Int) < wrap64 (40 * wrap64 ((i : Int) + 10)) := by rw [HT3.out]; exact hmt
            clear M hq hw
            generalize q.work = wk at *
            clear hmt hm
            go_wp2_with fail
            refine HQ.out.mono ?_
            rintro e w6 ⟨rfl, rfl⟩
            clear hlt2
            go_wp2_with fail
            refine HQ.out.mono ?_
            rintro e w7 ⟨rfl, rfl⟩
            go_wp2_with fail
            refine HWk.out.mono ?_
            rintro e w8 ⟨rfl, rfl⟩
            go_wp2_with fail
            refine HA.out.mono ?_
            rintro e w9 ⟨rfl, rfl⟩
            go_wp2
            go_ret
            exact ⟨rfl, HM.out.bel⟩
          · have h0 : q.work = 0 := by have := F.out.ct.b.w0; omega
            rw [h0] at HWk
            have hlt2 : (m : Int) < wrap64 (40 * wrap64 ((i : Int) + 10)) := by rw [HT3.out]; exact hmt
            clear M hq hw h0
            clear hmt hm
            go_wp2_with fail
            refine HQ.out.mono ?_
            rintro e w6 ⟨rfl, rfl⟩
            clear hlt2
            go_wp2_with fail
            refine HQ.out.mono ?_
            rintro e w7 ⟨rfl, rfl⟩
            go_wp2_with fail
            refine HWk.out.mono ?_
            rintro e w8 ⟨rfl, rfl⟩
            go_wp2
            go_ret
            exact ⟨rfl, HM.out.bel⟩
        · have hml := far_lt Fa.out hq
          have HQ := Lib.hid (quiet_any M.l false ⟨(fun e => by cases e), fun e => absurd e hq⟩)
          have HW := Lib.hid (ow_workers M F.out.n)
          have hkn : m % (N + 1) < q.n := by rw [F.out.n]; exact Nat.mod_lt _ (by omega)
          have hwi : wrap64 ((m : Int) + 1) = (m : Int) + 1 := wrF _ (by omega) (by omega)
          have HWI := Lib.hid hwi
          have hrm : (m : Int) % ((N : Int) + 1) = ((m % (N + 1) : Nat) : Int) := rem_nat m N
          have HRM := Lib.hid hrm
          clear hrm
          have hwn : wrap64 ((N : Int) + 1) = (N : Int) + 1 := wrF _ (by omega) (by have := HN7.out; omega)
          have hnz : (((N : Int) + 1) == 0) = false := by simp; omega
          have HQn := Lib.hid (And.intro hq hml)
          have n1 := Lib.hid M.l.n1
          have n2 := Lib.hid M.l.n2
          by_cases hx : (q.th (m % (N + 1))).nx = .no
          · have HB := Lib.hid (busy_any M.l ((m % (N + 1) : Nat) : Int) false (by rw [Int.toNat_natCast, hx]; simp))
            have HFa2 := Lib.hid (far_idle Fa.out hq M.l.n1 (by rw [F.out.n]; exact hx))
            have hlt2 : (m : Int) < wrap64 (40 * wrap64 ((i : Int) + 10)) := by rw [HT3.out]; exact hmt
            clear M hq hx hkn hml hwi
            clear hmt hm
            go_wp2_with fail
            refine HQ.out.mono ?_
            rintro e w6 ⟨rfl, rfl⟩
            clear hlt2
            go_wp2_with fail
            refine HW.out.mono ?_
            rintro e w7 ⟨rfl, rfl⟩
            go_wp2_with (simp only [hwn])
            rw [HRM.out]
            clear hwn hnz HRM HW
            refine HB.out.mono ?_
            rintro e w8 ⟨rfl, rfl⟩
            go_wp2
            have hwi := HWI.out
            go_roundw
            case rel => exact ⟨m + 1, q, HQn.out.2, by first | rfl | (rw [hwi]; rfl), HM.out, Lib.hid F.out.more, HFa2⟩
            case measure => first | exact measB m HQn.out.2 | (rw [hwi]; exact measB m HQn.out.2)
          · obtain ⟨J1, J2⟩ := kq_one F.out.ct F.out.kq hkn (by have := HT4.out; omega) hx
            have HB := Lib.hid (busy_any M.l ((m % (N + 1) : Nat) : Int) true (by rw [decide_eq_true (by omega), Int.toNat_natCast, decide_eq_true hx]; rfl))
            have HS := Lib.hid (ow_step M ((m % (N + 1) : Nat) : Int))
            have HFa2 := Lib.hid (far_step Fa.out hq M.l.n1 M.l.n2 (by rw [F.out.n]; exact hx) (by rw [F.out.n]; exact (F.out.ct.ok _ hkn).a25) (by rw [F.out.n]; exact J2))
            have HI : Hid (Ik (step q ((m % (N + 1) : Nat) : Int)).2 (i + (m + 1)) N) := Lib.hid ⟨J1, J2.kq, J2.n.trans F.out.n⟩
            have hlt2 : (m : Int) < wrap64 (40 * wrap64 ((i : Int) + 10)) := by rw [HT3.out]; exact hmt
            clear M hq hx hkn hml hwi J1 J2
            generalize m % (N + 1) = k at *
            generalize step q (k : Int) = st at *
            obtain ⟨⟨s1, s2, s3⟩, q2⟩ := st
            clear hmt hm
            go_wp2_with fail
            refine HQ.out.mono ?_
            rintro e w6 ⟨rfl, rfl⟩
            clear hlt2
            go_wp2_with fail
            refine HW.out.mono ?_
            rintro e w7 ⟨rfl, rfl⟩
            go_wp2_with (simp only [hwn])
            rw [HRM.out]
            clear hwn hnz HRM HW
            refine HB.out.mono ?_
            rintro e w8 ⟨rfl, rfl⟩
            go_wp2_with fail
            refine HS.out.mono ?_
            rintro e w9 ⟨rfl, M9⟩
            have HM9 := Lib.hid M9
            clear M9 HS HM
            go_wp2
            have hwi := HWI.out
            go_roundw
            case rel => exact ⟨m + 1, q2, HQn.out.2, by first | rfl | (rw [hwi]; rfl), HM9.out, HI, HFa2⟩
            case measure => first | exact measB m HQn.out.2 | (rw [hwi]; exact measB m HQn.out.2)
end Go.Proofs.YtpmkdhaponhacaaDoor
