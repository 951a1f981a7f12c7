/- DequeLinear's walk. -/
import Derived.Test.YtldobbdaokjgaaaP19
namespace Go.Proofs.Ytldobbdaokjgaaa
open Go.RowKit
set_option linter.unusedVariables false
set_option linter.unusedSimpArgs false
theorem zero58 (w : World) : (zeroValue 58).run Try.prog w = .ok (.agg #[.bool false, .int .i64 0, .slice none 0 0]) w := by kernel_rfl
/-- between two rounds -/
structure Lw (w W : World) (b p : Nat) (q : Q) (B : Nat) (lv : Value) (L : List Int) (i : Nat) (m : Int) : Prop where
  g : ∃ P M tv T tk, Gw w W b p q B P ((M : Nat) : Int) tv T lv L ∧ Iv q L tk ∧ ((q.th 0).nx = .no ∨ (Opn (q.th 0).nx P M ∧ T = tk.toList))
  r : q.top + L.length ≤ i
  m0 : 0 ≤ m
  mi : m ≤ i
theorem lw_new {w W : World} {b p : Nat} {n : Nat} (h : Ds w W b p (Q0 n)) (h1 : 1 ≤ n) (h2 : n ≤ 64) : Lw w (W.alloc (.cells #[.bool false, .int .i64 0, .slice none 0 0] 58)) b p (Q0 n) W.heap.size (.slice none 0 0) [] 0 0 := by
  have hl := h.lt
  have hs := h.bel.size
  exact ⟨⟨false, 0, .slice none 0 0, [], none, ⟨h.alloc _, row_new W _ 58 3 _ rfl (fun i hi => by match i, hi with | 0, _ => rfl | 1, _ => rfl | 2, _ => rfl), .inl ⟨rfl, rfl⟩, .inl ⟨rfl, rfl⟩, by omega, fun k e => (by cases e), fun k e => (by cases e)⟩, iv_new n h1 h2, .inl rfl⟩, by show (0 : Int) + 0 ≤ 0; omega, by omega, by omega⟩
theorem gw_reset {w W : World} {b p : Nat} {q : Q} {B : Nat} {P : Bool} {M : Int} {tv : Value} {T : List Int} {lv : Value} {L : List Int} (h : Gw w W b p q B P M tv T lv L) (P' : Bool) : Gw w (((W.setCell ⟨B, 0, none⟩ (.bool P')).setCell ⟨B, 1, none⟩ (.int .i64 0)).setCell ⟨B, 2, none⟩ (.slice none 0 0)) b p q B P' 0 (.slice none 0 0) [] lv L := by
  obtain ⟨n1, n2, n3⟩ := h.nb
  exact ⟨((h.ds.far B 0 _ n1 n2 n3).far B 1 _ n1 n2 n3).far B 2 _ n1 n2 n3, (((h.bo.set 0 _).set 1 _).set 2 _).congr (fun i hi => by match i, hi with | 0, _ => rfl | 1, _ => rfl | 2, _ => rfl),
    ls_setB (ls_setB (ls_setB h.ls (fun g e => (h.ns g e).2.2.1)) (fun g e => (h.ns g e).2.2.1)) (fun g e => (h.ns g e).2.2.1), .inl ⟨rfl, rfl⟩, h.nb, h.ns, fun k e => (by cases e)⟩
theorem opn_nxq {q : Q} (hn : (q.th 0).nx = .no) (p : Bool) (m : Int) : Opn ((nxq q 0 p m).1.th 0).nx (!p) 0 := by
  unfold nxq
  rw [if_neg (by simpa using hn), if_pos rfl]
  cases p
  · rw [if_neg (by decide)]; rw [setT_at]; exact ⟨rfl, .inr ⟨rfl, rfl⟩⟩
  · rw [if_pos rfl]; rw [setT_at]; exact ⟨rfl, .inl ⟨rfl, rfl⟩⟩
theorem nxq_busy {q : Q} {k : Nat} (hn : (q.th k).nx ≠ .no) (p : Bool) (m : Int) : nxq q k p m = (q, m) := by unfold nxq; rw [if_pos hn]
theorem nxq_m (q : Q) (k : Nat) (p : Bool) (m : Int) : (nxq q k p m).2 = m ∨ (nxq q k p m).2 = m + 1 := by
  rcases pv_nxq q k p m with ⟨a, b⟩ | ⟨a, b, c, d, e, f⟩
  · exact .inl b
  · exact .inr f
theorem lw_goes {w W : World} {b p : Nat} {q' : Q} {B : Nat} {P : Bool} {M : Nat} {L : List Int} {i : Nat} {m : Int} {tp : Int} {e : Ending} (h : GPost w b p tp q' B P M L e W) (r : tp + L.length ≤ i) (m0 : 0 ≤ m) (mi : m ≤ (i : Int) + 1) :
    ∃ la' lc' L', e = .returned (.tuple #[.slice la' L'.length lc', .bool true]) ∧ Lw w W b p q' B (.slice la' L'.length lc') L' (i + 1) m := by
  obtain ⟨la', lc', L', tk', tv', T', e1, I', r', G', hn⟩ := h.h
  exact ⟨la', lc', L', e1, ⟨⟨P, M + 1, tv', T', tk', G', I', hn⟩, by omega, m0, by omega⟩⟩
theorem ls_tail' {w : World} {a : Option Addr} {n cap : Nat} {x : Int} {l : List Int} (h : Ls w (.slice a n cap) (x :: l)) : n = l.length + 1 ∧ ∃ g off, a = some ⟨g, off, none⟩ ∧ w.cell? ⟨g, off, none⟩ = some (.int .i64 x) ∧ l.length + 1 ≤ cap ∧ (cap ≠ 1 → Ls w (.slice (some ⟨g, off + 1, none⟩) l.length (cap - 1)) l) ∧ (cap = 1 → l = [] ∧ Ls w (.slice (some ⟨g, off, none⟩) 0 0) l) := by
  obtain ⟨g, o, rfl, hc⟩ := ls_cell h 0 (by simp)
  have hn : n = l.length + 1 := by
    rcases h with ⟨_, h⟩ | ⟨_, _, _, _, e, _⟩
    · cases h
    · cases e; rfl
  subst hn
  obtain ⟨t1, t2, t3⟩ := ls_tail h
  exact ⟨rfl, g, o, rfl, hc, t3, t1, t2⟩
set_option maxRecDepth 100000 in
set_option maxHeartbeats 16000000 in
theorem linear_any (s : Int) (a : Option Addr) (len cap : Nat) (t : Nat → Int) (o : Nat → Bool) (w : World) (hr : Rws w a len t o) (hlen : len ≤ 1000000000000000) :
    Calls Try.prog 7 #[.int .i64 s, .slice a len cap] w fun e w' => e = .returned (.bool true) ∧ Below w.heap.size w w' := by
  have hz := zero34
  have hz58 := zero58
  go_enter Try.func7, Try.ntmps7
  go_wp2_with fail
  refine (lives_any _).mono ?_
  rintro e w1 ⟨rfl, g1⟩
  go_wp2_with fail
  refine (ds_new g1 s).mono ?_
  rintro e w2 ⟨b, p, rfl, h2, _, _⟩
  have hA := lw_new h2 (capN_lo s) (capN_hi s)
  clear g1 h2
  go_wp2_with fail
  generalize hB : w2.heap.size = B at *
  clear hB
  go_loopw [6, 7, 9] (fun mv lv kv wr => ∃ (i : Nat) (m : Int) (q : Q) (L : List Int), i ≤ len ∧ mv = .int .i64 m ∧ kv = .int .i64 i ∧ Lw w wr b p q B lv L i m) (fun mv lv kv wr => len - (intOf kv).toNat)
  case atStart => exact ⟨0, 0, _, [], Nat.zero_le _, rfl, rfl, hA⟩
  case round =>
    clear hA
    obtain ⟨i, m, q, L, hi, rfl, rfl, A⟩ := hrel
    obtain ⟨⟨P, M, tv, T, tk, G, I, hop⟩, r, m0, mi⟩ := A
    by_cases hlt : i < len
    · obtain ⟨sb, so, rfl, hsb, k0, k1⟩ := hr i hlt
      have d0 := (G.ds.bel.cell (p := ⟨sb, so + i * 2, none⟩) hsb).trans k0
      have d1 := (G.ds.bel.cell (p := ⟨sb, so + i * 2 + 1, none⟩) hsb).trans k1
      have hi3 : (i : Int) < (len : Int) := by omega
      have hi0 : (0 : Int) ≤ (i : Int) := by omega
      have hwi : wrap64 ((i : Int) + 1) = (i : Int) + 1 := wrE _ (by omega) (by omega)
      have HWI := Lib.hid hwi
      have HLT := Lib.hid (And.intro hlt hlen)
      have HK0 := Lib.hid k0
      have HK1 := Lib.hid k1
      clear k0 k1 hr hlt hwi hlen
      generalize t i = ti at HK0 d0
      generalize o i = oi at HK1 d1
      obtain ⟨k, hk, ek⟩ := mod8 ti
      have EK := Lib.hid ek
      clear ek
      have HNX := Lib.hid (fun (W : World) (h : Ds w W b p q) => next_any h ti oi m m0 (by have := HLT.out; omega) k hk EK)
      have hx := nxq_on q k oi m
      have hmm := nxq_m q k oi m
      obtain ⟨t1, t2, t3, t4⟩ := nxq_top q k oi m
      have hbb : q.top + L.length ≤ 1000000000000000 := by have := HLT.out; omega
      have hsb' := hsb
      obtain ⟨la, lc, rfl⟩ := ls_slice G.ls
      by_cases k00 : k = 0
      · subst k00
        have I1 := iv_nxq I 0 oi m
        by_cases hn : (q.th 0).nx = .no
        · have hbz := Lib.hid (fun (W : World) (h : Ds w W b p q) => ds_busy h 0 (by omega) false (by rw [decide_eq_false (by simpa using hn)]))
          have hO := opn_nxq hn oi m
          have etk := (ow_no I hn).1
          subst etk
          have HGO := Lib.hid (fun (W : World) (lv : Value) (h : Gw w W b p (nxq q 0 oi m).1 B (!oi) ((0 : Nat) : Int) (.slice none 0 0) [] lv L) => goes_any h I1 hx hO rfl (by rw [t1]; omega))
          have HR := Lib.hid (show (nxq q 0 oi m).1.top + L.length ≤ (i : Int) by rw [t1]; exact r)
          have HM := Lib.hid (show 0 ≤ (nxq q 0 oi m).2 ∧ (nxq q 0 oi m).2 ≤ (i : Int) + 1 by omega)
          clear hop I hn hO I1 r t1 t2 t3 t4 hx hmm mi m0 hbb
          generalize nxq q 0 oi m = qm at *
          obtain ⟨q1, m1⟩ := qm
          dsimp only at HNX HGO HR HM
          have o0 := G.o0
          have o1 := G.o1
          have o2 := G.o2
          have f0 := G.fz 0
          have f1 := G.fz 1
          have f2 := G.fz 2
          have HG := Lib.hid G
          have nsb : sb ≠ B := by have := G.nb; omega
          clear G
          go_wp2_with fail
          refine (thr_any ti oi 0 EK _).mono ?_
          rintro e w4 ⟨rfl, rfl⟩
          have G2 := HG.out.alloc (.cells #[.int .i64 ti, .bool oi] 29)
          have o0 := G2.o0
          have o1 := G2.o1
          have o2 := G2.o2
          have f0 := G2.fz 0
          have f1 := G2.fz 1
          have f2 := G2.fz 2
          have d1 := (G2.ds.bel.cell (p := ⟨sb, so + i * 2 + 1, none⟩) hsb).trans HK1.out
          have d0 := (G2.ds.bel.cell (p := ⟨sb, so + i * 2, none⟩) hsb).trans HK0.out
          have G3 := gw_reset G2 (!oi)
          have e1 := (G3.ds.bel.cell (p := ⟨sb, so + i * 2 + 1, none⟩) hsb).trans HK1.out
          have e0 := (G3.ds.bel.cell (p := ⟨sb, so + i * 2, none⟩) hsb).trans HK0.out
          have HG2 := Lib.hid G2
          have HG3 := Lib.hid G3
          clear G2 G3 HG
          go_wp2_with fail
          refine (hbz.out _ HG2.out.ds).mono ?_
          rintro e w5 ⟨rfl, rfl⟩
          go_wp2_with fail
          refine (HNX.out _ HG3.out.ds).mono ?_
          rintro e w6 ⟨rfl, M6, g6⟩
          have G6 := Lib.hid (HG3.out.fr M6 g6)
          clear HG2 HG3 M6 g6 d0 d1 e0 e1 o0 o1 o2 f0 f1 f2
          go_wp2_with fail
          refine (HGO.out _ _ G6.out).mono ?_
          intro e w7 hP
          obtain ⟨la7, lc7, L7, rfl, hL7⟩ := lw_goes (i := i) hP HR.out HM.out.1 HM.out.2
          have H7 := Lib.hid hL7
          clear hP hL7 G6
          go_wp2
          have hwi := HWI.out
          go_roundw
          case rel => exact ⟨i + 1, m1, _, L7, HLT.out.1, rfl, by first | rfl | (rw [hwi]; rfl), H7.out⟩
          case measure => first | exact meas1 len i HLT.out.1 | (rw [hwi]; exact meas1 len i HLT.out.1)
        · have hbz := Lib.hid (fun (W : World) (h : Ds w W b p q) => ds_busy h 0 (by omega) true (by rw [decide_eq_true hn]))
          have hO := hop.resolve_left hn
          rw [nxq_busy hn] at *
          have HGO := Lib.hid (fun (W : World) (lv : Value) (h : Gw w W b p q B P ((M : Nat) : Int) tv T lv L) => goes_any h I hn hO.1 hO.2 (by omega))
          have HR := Lib.hid r
          have HM := Lib.hid (show 0 ≤ m ∧ m ≤ (i : Int) + 1 by omega)
          have HG := Lib.hid G
          clear hop I hn hO I1 r t1 t2 t3 t4 hx hmm mi m0 hbb G
          dsimp only at HNX
          go_wp2_with fail
          refine (thr_any ti oi 0 EK _).mono ?_
          rintro e w4 ⟨rfl, rfl⟩
          have G2 := HG.out.alloc (.cells #[.int .i64 ti, .bool oi] 29)
          have d1 := (G2.ds.bel.cell (p := ⟨sb, so + i * 2 + 1, none⟩) hsb).trans HK1.out
          have d0 := (G2.ds.bel.cell (p := ⟨sb, so + i * 2, none⟩) hsb).trans HK0.out
          have HG2 := Lib.hid G2
          clear G2 HG
          go_wp2_with fail
          refine (hbz.out _ HG2.out.ds).mono ?_
          rintro e w5 ⟨rfl, rfl⟩
          go_wp2_with fail
          refine (HNX.out _ HG2.out.ds).mono ?_
          rintro e w6 ⟨rfl, M6, g6⟩
          have G6 := Lib.hid (HG2.out.fr M6 g6)
          clear HG2 M6 g6 d0 d1
          go_wp2_with fail
          refine (HGO.out _ _ G6.out).mono ?_
          intro e w7 hP
          obtain ⟨la7, lc7, L7, rfl, hL7⟩ := lw_goes (i := i) hP HR.out HM.out.1 HM.out.2
          have H7 := Lib.hid hL7
          clear hP hL7 G6
          go_wp2
          have hwi := HWI.out
          go_roundw
          case rel => exact ⟨i + 1, m, _, L7, HLT.out.1, rfl, by first | rfl | (rw [hwi]; rfl), H7.out⟩
          case measure => first | exact meas1 len i HLT.out.1 | (rw [hwi]; exact meas1 len i HLT.out.1)
      · have k1 : 1 ≤ k := by omega
        have hz0 : ((k : Int) == 0) = false := by simp; exact k00
        have I1 := iv_nxq I k oi m
        have hth0 : (nxq q k oi m).1.th 0 = q.th 0 := nxq_oth q k 0 oi m (by omega)
        obtain ⟨L', I2, hreach, hcs⟩ := thf_cases I1 k k1 hk hx (by rw [t1]; omega)
        have hop2 : ((stp (nxq q k oi m).1 k).th 0).nx = .no ∨ (Opn ((stp (nxq q k oi m).1 k).th 0).nx P M ∧ T = tk.toList) := by
          rw [stp_oth _ k 0 (by omega), hth0]; exact hop
        have HR := Lib.hid (show (stp (nxq q k oi m).1 k).top + L'.length ≤ ((i + 1 : Nat) : Int) by rw [t1] at hreach; omega)
        have HM := Lib.hid (show 0 ≤ (nxq q k oi m).2 ∧ (nxq q k oi m).2 ≤ ((i + 1 : Nat) : Int) by omega)
        have HI2 := Lib.hid (And.intro I2 hop2)
        have HST := Lib.hid (fun (W : World) (h : Ds w W b p (nxq q k oi m).1) (o : Bool) (x v r : Int) (hd : (stepA (nxq q k oi m).1 k).d = { over := o, op := x, v := v, err := r }) => ds_step' h k hk hx o x v r hd _ rfl)
        have hHL := I.hl
        have hHN := I.n2
        clear hop I I1 r t1 t2 t3 t4 hx hmm mi m0 hbb hth0 I2 hop2 hreach k00
        generalize nxq q k oi m = qm at *
        obtain ⟨q1, m1⟩ := qm
        dsimp only at HNX HR HM HI2 HST hcs
        generalize stp q1 k = q2 at *
        generalize (stepA q1 k).d = d at *
        obtain ⟨dO, dX, dV, dR⟩ := d
        dsimp only at hcs
        have HS2 := Lib.hid (fun (W : World) (h : Ds w W b p q1) => HST.out W h dO dX dV dR rfl)
        have HCS := Lib.hid hcs
        have HG := Lib.hid G
        clear HST G hcs
        go_wp2_with fail
        refine (thr_any ti oi k EK _).mono ?_
        rintro e w4 ⟨rfl, rfl⟩
        have G2 := HG.out.alloc (.cells #[.int .i64 ti, .bool oi] 29)
        have d1 := (G2.ds.bel.cell (p := ⟨sb, so + i * 2 + 1, none⟩) hsb).trans HK1.out
        have d0 := (G2.ds.bel.cell (p := ⟨sb, so + i * 2, none⟩) hsb).trans HK0.out
        have HG2 := Lib.hid G2
        clear G2 HG
        go_wp2_with fail
        refine (HNX.out _ HG2.out.ds).mono ?_
        rintro e w6 ⟨rfl, M6, g6⟩
        have G6 := Lib.hid (HG2.out.fr M6 g6)
        clear HG2 M6 g6 d0 d1
        go_wp2_with fail
        refine (HS2.out _ G6.out.ds).mono ?_
        rintro e w7 ⟨rfl, M7, g7⟩
        have G8 := Lib.hid ((G6.out.fr M7 g7).alloc (.cells #[.bool dO, .int .i64 dX, .int .i64 dV, .int .i64 dR] 34))
        have bx := row_new w7 #[.bool dO, .int .i64 dX, .int .i64 dV, .int .i64 dR] 34 4 (bxf { over := dO, op := dX, v := dV, err := dR }) rfl (fun i hi => by match i, hi with | 0, _ => rfl | 1, _ => rfl | 2, _ => rfl | 3, _ => rfl)
        have c2 := row_val bx (i := 2) (v := .int .i64 dV) (by omega) rfl
        clear G6 M7 g7 bx
        rcases HCS.out with ⟨h1, rfl⟩ | ⟨h1, h2, rfl⟩ | ⟨h1, h2, h3⟩
        · have h1 : dO = false := h1
          subst h1
          clear c2
          go_wp2
          have hwi := HWI.out
          go_roundw
          case rel => exact ⟨i + 1, m1, q2, L', HLT.out.1, rfl, by first | rfl | (rw [hwi]; rfl), ⟨⟨P, M, tv, T, tk, G8.out, HI2.out.1, HI2.out.2⟩, HR.out, HM.out.1, HM.out.2⟩⟩
          case measure => first | exact meas1 len i HLT.out.1 | (rw [hwi]; exact meas1 len i HLT.out.1)
        · have h1 : dO = true := h1
          have h2 : ¬ (dR = 0) := h2
          subst h1
          have hb : (dR == 0) = false := by simp; exact h2
          clear c2 h2
          go_wp2
          have hwi := HWI.out
          go_roundw
          case rel => exact ⟨i + 1, m1, q2, L', HLT.out.1, rfl, by first | rfl | (rw [hwi]; rfl), ⟨⟨P, M, tv, T, tk, G8.out, HI2.out.1, HI2.out.2⟩, HR.out, HM.out.1, HM.out.2⟩⟩
          case measure => first | exact meas1 len i HLT.out.1 | (rw [hwi]; exact meas1 len i HLT.out.1)
        · have h1 : dO = true := h1
          have h2 : dR = 0 := h2
          have h3 : L = dV :: L' := h3
          subst h1 h2 h3
          obtain ⟨hn, g, go, rfl, hc, hcap, ht1, ht2⟩ := ls_tail' G8.out.ls
          have HT1 := Lib.hid ht1
          have HT2 := Lib.hid ht2
          have hlen64 : L'.length ≤ 64 := by simp at hHL; omega
          clear ht1 ht2 hHL hHN HCS
          generalize hLL : (dV :: L').length = NL at *
          obtain ⟨N, hN⟩ : ∃ N, N = L'.length := ⟨_, rfl⟩
          rw [← hN] at hn hcap hlen64
          subst hn
          have HN := Lib.hid hN
          have HLL := Lib.hid hLL
          clear hN hLL
          have hne2 : (((N + 1 : Nat) : Int) == 0) = false := by simp; omega
          have hne3 : (((N : Int) + 1) == 0) = false := by simp; omega
          have hN1 : (0 : Int) < ((N + 1 : Nat) : Int) := by omega
          have hN2 : (0 : Int) < (N : Int) + 1 := by omega
          have hN3 : (1 : Int) ≤ (N : Int) + 1 := by omega
          have hN4 : (N : Int) + 1 ≤ (lc : Int) := by omega
          by_cases hc1 : lc = 1
          · subst hc1
            obtain rfl : N = 0 := by omega
            go_wp2
            go_quiet (fail)
            go_wp2
            have hwi := HWI.out
            obtain ⟨rfl, hl9⟩ := HT2.out (by trivial)
            have G9 := (G8.out.drewN nq).setL _ [] (hl9.of (w1 := (w7.alloc (.cells #[.bool true, .int .i64 dX, .int .i64 dV, .int .i64 0] 34)).drewN nq) (fun _ _ _ => rfl)) (fun k e => G8.out.ns k e)
            go_roundw
            case rel => exact ⟨i + 1, m1, q2, [], HLT.out.1, rfl, by first | rfl | (rw [hwi]; rfl), ⟨⟨P, M, tv, T, tk, G9, HI2.out.1, HI2.out.2⟩, HR.out, HM.out.1, HM.out.2⟩⟩
            case measure => first | exact meas1 len i HLT.out.1 | (rw [hwi]; exact meas1 len i HLT.out.1)
          · have hc2 : (lc == 1) = false := by simp; exact hc1
            go_wp2
            go_quiet (fail)
            go_wp2
            have hwi := HWI.out
            obtain rfl := HN.out
            have G9 := (G8.out.drewN nq).setL _ L' ((HT1.out hc1).of (w1 := (w7.alloc (.cells #[.bool true, .int .i64 dX, .int .i64 dV, .int .i64 0] 34)).drewN nq) (fun _ _ _ => rfl)) (fun k e => G8.out.ns k e)
            go_roundw
            case rel => exact ⟨i + 1, m1, q2, L', HLT.out.1, rfl, by first | rfl | (rw [hwi]; rfl), ⟨⟨P, M, tv, T, tk, G9, HI2.out.1, HI2.out.2⟩, HR.out, HM.out.1, HM.out.2⟩⟩
            case measure => first | exact meas1 len i HLT.out.1 | (rw [hwi]; exact meas1 len i HLT.out.1)
    · obtain rfl : i = len := Nat.le_antisymm hi (Nat.le_of_not_lt hlt)
      have HB := Lib.hid G.ds.bel
      clear G hr hlt hop I
      go_wp2
      go_ret
      exact ⟨rfl, HB.out⟩
end Go.Proofs.Ytldobbdaokjgaaa
