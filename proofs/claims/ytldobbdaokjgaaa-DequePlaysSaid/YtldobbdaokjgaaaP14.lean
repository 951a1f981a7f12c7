/- DequeFifo's walk. -/
import Derived.Test.YtldobbdaokjgaaaP13
namespace Go.Proofs.Ytldobbdaokjgaaa
open Go.RowKit
set_option linter.unusedVariables false
set_option linter.unusedSimpArgs false
theorem own_cell {w : World} {B : Nat} {a : Option Addr} {n cap : Nat} {l : List Int} (h : Own w B (.slice a n cap) l) (i : Nat) (hi : i < l.length) :
    ∃ g o, a = some ⟨g, o, none⟩ ∧ w.cell? ⟨g, o + i, none⟩ = some (.int .i64 (l.getD i 0)) := ls_cell (ls_own h) i hi
/-- the shapes of what a step came to -/
theorem ev_op {n : Nat} {L L' : List Int} {tk tk' pv pv' : Option Int} {d : D} (ev : Ev n L tk pv d L' tk' pv') : d.over = false ∨ d.err ≠ 0 ∨ d.op = 0 ∨ d.op = 1 ∨ d.op = 2 := by
  cases ev with
  | quiet => exact .inl rfl
  | took => exact .inl rfl
  | pushed => exact .inr (.inr (.inl rfl))
  | full => exact .inr (.inr (.inl rfl))
  | popped => exact .inr (.inr (.inr (.inl rfl)))
  | empty => exact .inr (.inr (.inr (.inl rfl)))
  | stolen => exact .inr (.inr (.inr (.inr rfl)))
  | none2 => exact .inr (.inr (.inr (.inr rfl)))
theorem iv_new (n : Nat) (h1 : 1 ≤ n) (h2 : n ≤ 64) : Iv (Q0 n) [] none :=
  ⟨Int.le_refl _, h1, h2, Nat.zero_le _, win_nil _ _ _, ⟨rfl, rfl⟩, fun k _ _ => trivial⟩
theorem pv_new (n : Nat) : pvOf (Q0 n) = none := rfl
/-- who has popped rests -/
theorem pop_rest {q : Q} {L L' : List Int} {tk tk' : Option Int} {k : Nat} (k8 : k < 8) (I : Iv q L tk) (hx : (q.th k).nx ≠ .no) (ev : Ev q.n L tk (pvOf q) (stepA q k).d L' tk' (pvOf (stp q k))) (h1 : (stepA q k).d.over = true) (h2 : (stepA q k).d.op = 1) : ((stp q k).th 0).nx = .no := by
  have F := nxt_step q k hx
  by_cases e : k = 0
  · subst e; exact F.over.1 h1
  · have tf := I.th k (by omega) k8
    have := (F.op h1)
    have hp : pushing (q.th k).nx = false ∧ popping (q.th k).nx = false := by
      unfold Tf at tf
      cases hn : (q.th k).nx <;> rw [hn] at tf <;> first | exact tf.elim | exact ⟨rfl, rfl⟩
    have h3 := this.2.2 hp.1 hp.2
    rw [h2] at h3; cases h3
structure Fp (q : Q) (L : List Int) (tk : Option Int) (m last : Int) (i : Nat) : Prop where
  I : Iv q L tk
  V : Vf L tk (pvOf q) m last
  r : q.top + L.length ≤ i
  m0 : 0 ≤ m
  mi : m ≤ i
theorem fp_new (n : Nat) (h1 : 1 ≤ n) (h2 : n ≤ 64) : Fp (Q0 n) [] none 0 0 0 := ⟨iv_new n h1 h2, vf_nil, by show (0 : Int) + 0 ≤ 0; omega, by omega, by omega⟩
/-- a round of DequeFifo -/
theorem fp_round {q : Q} {L : List Int} {tk : Option Int} {m last : Int} {i : Nat} (h : Fp q L tk m last i) (k : Nat) (k8 : k < 8) (p : Bool) (hi : i ≤ 1000000000000000) :
    ∃ L' tk', Fp (stp (nxq q k p m).1 k) L' tk' (nxq q k p m).2 (lastOf last (stepA (nxq q k p m).1 k).d) (i + 1) ∧
      ((stepA (nxq q k p m).1 k).d.over = false ∨ (stepA (nxq q k p m).1 k).d.err ≠ 0 ∨ (stepA (nxq q k p m).1 k).d.op = 0 ∨ (stepA (nxq q k p m).1 k).d.op = 1 ∨ (stepA (nxq q k p m).1 k).d.op = 2) ∧
      ((stepA (nxq q k p m).1 k).d.over = true → (stepA (nxq q k p m).1 k).d.err = 0 → ((stepA (nxq q k p m).1 k).d.op = 2 → last < (stepA (nxq q k p m).1 k).d.v) ∧ ((stepA (nxq q k p m).1 k).d.op = 1 → items (stp (nxq q k p m).1 k) = L' ∧ ∀ z ∈ L', z < (stepA (nxq q k p m).1 k).d.v)) := by
  have I1 := iv_nxq h.I k p m
  have hx := nxq_on q k p m
  obtain ⟨t1, t2, t3, t4⟩ := nxq_top q k p m
  have hV : Vf L tk (pvOf (nxq q k p m).1) (nxq q k p m).2 last := by
    rcases pv_nxq q k p m with ⟨a, b⟩ | ⟨a, b, c, d, e, f⟩
    · rw [a, b]; exact h.V
    · rw [e, f]; have := h.V; rw [d] at this; exact vf_new this
  have hm : (nxq q k p m).2 = m ∨ (nxq q k p m).2 = m + 1 := by
    rcases pv_nxq q k p m with ⟨a, b⟩ | ⟨a, b, c, d, e, f⟩
    · exact .inl b
    · exact .inr f
  have hr := h.r
  have hb : (nxq q k p m).1.top + L.length ≤ 100000000000000000 := by rw [t1]; omega
  obtain ⟨L', tk', I2, ev⟩ := any_step I1 k k8 hx hb
  have hreach := ev_reach I1.t0 hb ev
  obtain ⟨V2, hok⟩ := vf_ev hV ev
  have hmi := h.mi
  have hm0 := h.m0
  refine ⟨L', tk', ⟨I2, V2, by rw [t1] at hreach; omega, by omega, by omega⟩, ev_op ev, fun h1 h2 => ⟨fun h3 => (hok h1 h2).1 h3, fun h3 => ⟨items_iv I2 (pop_rest k8 I1 hx ev h1 h3), (hok h1 h2).2 h3⟩⟩⟩
theorem fp_bounds {q : Q} {L : List Int} {tk : Option Int} {m last : Int} {i : Nat} (h : Fp q L tk m last i) (hi : i ≤ 1000000000000001) : 0 ≤ q.top ∧ q.bot ≤ 1000000000000000000 ∧ q.bot - q.top ≤ 64 := by
  have h1 := h.I.t0
  have h2 := ow_bot h.I.ow
  have h3 := h.I.hl
  have h4 := h.I.n2
  have h5 := h.r
  omega
theorem ds_step' {w0 w : World} {b p : Nat} {q : Q} (h : Ds w0 w b p q) (k : Nat) (k8 : k < 8) (hx : (q.th k).nx ≠ .no) (o : Bool) (x v r : Int) (hd : (stepA q k).d = { over := o, op := x, v := v, err := r }) (q' : Q) (hq : stp q k = q') : Calls Try.prog 14 #[.pointer (some ⟨b, 0, none⟩), .int .i64 k] w fun e' w' => e' = .returned (.tuple #[.agg #[.bool o, .int .i64 x, .int .i64 v, .int .i64 r], .int .i64 0]) ∧ Ds w0 w' b p q' ∧ Fr w w' (S2 b p) :=
  ds_step h k o x v r 0 (by rw [step_at q k k8 hx, hd, hq])
theorem last_no {last : Int} {d : D} (h : ¬ (d.over = true ∧ d.err = 0 ∧ d.op = 2)) : lastOf last d = last := if_neg h
set_option maxRecDepth 100000 in
set_option maxHeartbeats 8000000 in
theorem fifo_any (s : Int) (a : Option Addr) (len cap : Nat) (t : Nat → Int) (o : Nat → Bool) (w : World) (hr : Rws w a len t o) (hlen : len ≤ 1000000000000000) :
    Calls Try.prog 4 #[.int .i64 s, .slice a len cap] w fun e w' => e = .returned (.bool true) ∧ Below w.heap.size w w' := by
  have hz := zero34
  have HF0 := Lib.hid (fp_new (capN s) (capN_lo s) (capN_hi s))
  go_enter Try.func4, Try.ntmps4
  go_wp2_with fail
  refine (lives_any _).mono ?_
  rintro e w1 ⟨rfl, g1⟩
  go_wp2_with fail
  refine (ds_new g1 s).mono ?_
  rintro e w2 ⟨b, p, rfl, h2, _, _⟩
  clear g1
  go_wp2_with fail
  go_loopw [6, 7, 8] (fun mv lv kv wr => ∃ (i : Nat) (m last : Int) (q : Q) (L : List Int) (tk : Option Int), i ≤ len ∧ mv = .int .i64 m ∧ lv = .int .i64 last ∧ kv = .int .i64 i ∧ Ds w wr b p q ∧ Hid (Fp q L tk m last i)) (fun mv lv kv wr => len - (intOf kv).toNat)
  case atStart => exact ⟨0, 0, 0, _, [], none, Nat.zero_le _, rfl, rfl, rfl, h2, HF0⟩
  case round =>
    clear h2
    obtain ⟨i, m, last, q, L, tk, hi, rfl, rfl, rfl, M, F⟩ := hrel
    by_cases hlt : i < len
    · obtain ⟨sb, so, rfl, hsb, k0, k1⟩ := hr i hlt
      have d0 := (M.bel.cell (p := ⟨sb, so + i * 2, none⟩) hsb).trans k0
      have d1 := (M.bel.cell (p := ⟨sb, so + i * 2 + 1, none⟩) hsb).trans k1
      have hi3 : (i : Int) < (len : Int) := by omega
      have hi0 : (0 : Int) ≤ (i : Int) := by omega
      have HR := Lib.hid hr
      have HLT := Lib.hid (And.intro hlt hlen)
      have HK0 := Lib.hid k0
      have HK1 := Lib.hid k1
      clear k0 k1 hr hlt
      generalize t i = ti at HK0 d0
      generalize o i = oi at HK1 d1
      obtain ⟨k, hk, ek⟩ := mod8 ti
      have EK := Lib.hid ek
      clear ek
      obtain ⟨L', tk', F2, hop, hok⟩ := fp_round F.out k hk oi (by have := HLT.out; omega)
      have HN := Lib.hid (fun (W : World) (h : Ds w W b p q) => next_any h ti oi m F.out.m0 (by have := F.out.mi; have := HLT.out; omega) k hk EK)
      have hx := nxq_on q k oi m
      generalize nxq q k oi m = qm at *
      obtain ⟨q1, m1⟩ := qm
      dsimp only at F2 hop hok HN hx
      have HBD := Lib.hid (fp_bounds F2 (by have := HLT.out; omega))
      have HST := Lib.hid (fun (W : World) (h : Ds w W b p q1) (o : Bool) (x v r : Int) (hd : (stepA q1 k).d = { over := o, op := x, v := v, err := r }) => ds_step' h k hk hx o x v r hd _ rfl)
      generalize stp q1 k = q2 at *
      generalize (stepA q1 k).d = d at *
      obtain ⟨dO, dX, dV, dR⟩ := d
      dsimp only at hop hok F2
      have HS2 := Lib.hid (fun (W : World) (h : Ds w W b p q1) => HST.out W h dO dX dV dR rfl)
      have HF2 := Lib.hid F2
      have HOK := Lib.hid hok
      clear HST hx F2 F HF0
      have hsb' := hsb
      go_wp2_with fail
      refine (HN.out _ M).mono ?_
      rintro e w4 ⟨rfl, M2, _⟩
      have e0 := (M2.bel.cell (p := ⟨sb, so + i * 2, none⟩) hsb).trans HK0.out
      have e1 := (M2.bel.cell (p := ⟨sb, so + i * 2 + 1, none⟩) hsb).trans HK1.out
      clear M d0 d1 HN
      go_wp2_with fail
      refine (thr_any ti oi k EK _).mono ?_
      rintro e w5 ⟨rfl, rfl⟩
      go_wp2_with fail
      refine (HS2.out _ (M2.alloc _)).mono ?_
      rintro e w6 ⟨rfl, M3, _⟩
      clear M2 HS2 e0 e1
      have M4 := M3.alloc (.cells #[.bool dO, .int .i64 dX, .int .i64 dV, .int .i64 dR] 34)
      have bx := row_new w6 #[.bool dO, .int .i64 dX, .int .i64 dV, .int .i64 dR] 34 4 (fun i => if i = 0 then .bool dO else if i = 1 then .int .i64 dX else if i = 2 then .int .i64 dV else .int .i64 dR) rfl (fun i hi => by match i, hi with | 0, _ => rfl | 1, _ => rfl | 2, _ => rfl | 3, _ => rfl)
      clear M3
      have fin : ∀ (lst : Int), lastOf last { over := dO, op := dX, v := dV, err := dR } = lst → ∃ (i' : Nat) (m' last' : Int) (q' : Q) (L' : List Int) (tk' : Option Int), i' ≤ len ∧ Value.int .i64 m1 = .int .i64 m' ∧ Value.int .i64 lst = .int .i64 last' ∧ Value.int .i64 ((i : Int) + 1) = .int .i64 i' ∧ Ds w (w6.alloc (.cells #[.bool dO, .int .i64 dX, .int .i64 dV, .int .i64 dR] 34)) b p q' ∧ Hid (Fp q' L' tk' m' last' i') := fun lst e => by
        have hf := HF2.out
        rw [e] at hf
        exact ⟨i + 1, m1, lst, q2, L', tk', HLT.out.1, rfl, rfl, rfl, M4, Lib.hid hf⟩
      have FIN := Lib.hid fin
      clear fin
      have hwi : wrap64 ((i : Int) + 1) = (i : Int) + 1 := wrE _ (by have := HLT.out; omega) (by have := HLT.out; omega)
      have HWI := Lib.hid hwi
      clear hwi
      cases dO
      · clear hop hok bx
        go_wp2
        have hwi := HWI.out
        go_roundw
        case rel => exact FIN.out last (last_no (fun h => by cases h.1))
        case measure => exact meas1 len i HLT.out.1
      · by_cases hR : dR = 0
        · subst hR
          have hop2 : dX = 0 ∨ dX = 1 ∨ dX = 2 := by
            rcases hop with h | h | h
            · cases h
            · exact absurd rfl h
            · exact h
          clear hop hok
          rcases hop2 with rfl | rfl | rfl
          · clear bx
            go_wp2
            go_roundw
            case rel => exact FIN.out last (last_no (fun h => by cases h.2.2))
            case measure => exact meas1 len i HLT.out.1
          · obtain ⟨hit, hlo⟩ := (HOK.out rfl rfl).2 rfl
            have HLO := Lib.hid hlo
            have hbd := HBD.out
            have HI := Lib.hid (ds_items M4 L' hit hbd.1 hbd.2.1 hbd.2.2)
            have hlen64 : L'.length ≤ 64 := by have := HF2.out.I.hl; have := HF2.out.I.n2; omega
            clear hlo hbd hit
            go_wp2_with fail
            refine HI.out.mono ?_
            rintro e w7 ⟨ia, icap, rfl, ho, M7, g7⟩
            have bx7 := row_below bx g7 bx.lt
            have x2 := row_val bx7 (i := 2) (v := .int .i64 dV) (by omega) rfl
            have HO := Lib.hid ho
            clear ho bx bx7 g7 HI
            go_wp2_with fail
            go_loopw [12] (fun kv wr => ∃ n m' : Nat, n ≤ L'.length ∧ kv = .int .i64 n ∧ wr = w7.drewN m') (fun kv wr => L'.length - (intOf kv).toNat)
            case atStart => exact ⟨0, 0, Nat.zero_le _, rfl, rfl⟩
            case round =>
              obtain ⟨n, m', hn, rfl, rfl⟩ := hrel
              by_cases hln : n < L'.length
              · obtain ⟨g, go, rfl, hc⟩ := own_cell HO.out n hln
                have hlt : L'.getD n 0 < dV := HLO.out _ (by rw [List.getD_eq_getElem?_getD, List.getElem?_eq_getElem hln]; simp)
                generalize L'.getD n 0 = Y at *
                have hi1 : (n : Int) < (L'.length : Int) := by omega
                have hi2 : (0 : Int) ≤ (n : Int) := by omega
                have hge : ¬ (dV ≤ Y) := by omega
                have HLN := Lib.hid hln
                clear hln hn hlt
                go_wp2
                go_quiet (fail)
                go_wp2
                have hln := HLN.out
                exact ⟨⟨n + 1, _, by omega, by go_num, rfl⟩, by simp [intOf]; omega⟩
              · obtain rfl : n = L'.length := by omega
                clear hln hn x2
                go_wp2
                go_roundw
                case rel =>
                  have hf := HF2.out
                  rw [last_no (fun h => by cases h.2.2)] at hf
                  exact ⟨i + 1, m1, last, q2, L', tk', HLT.out.1, rfl, rfl, rfl, M7.drew _, Lib.hid hf⟩
                case measure => exact meas1 len i HLT.out.1
          · have hlo := (HOK.out rfl rfl).1 rfl
            have hle : ¬ (dV ≤ last) := by omega
            clear bx hlo
            go_wp2
            go_roundw
            case rel => exact FIN.out dV (if_pos ⟨rfl, rfl, rfl⟩)
            case measure => exact meas1 len i HLT.out.1
        · have hb : (dR != 0) = true := by simp; exact hR
          have HRR := Lib.hid hR
          clear hop hok hR bx
          go_wp2
          go_roundw
          case rel => exact FIN.out last (last_no (fun h => HRR.out h.2.1))
          case measure => exact meas1 len i HLT.out.1
    · obtain rfl : i = len := Nat.le_antisymm hi (Nat.le_of_not_lt hlt)
      have HB := Lib.hid M.bel
      clear M hr hlt
      go_wp2
      go_ret
      exact ⟨rfl, HB.out⟩
end Go.Proofs.Ytldobbdaokjgaaa
