/- DequeOnce's walk. -/
import Derived.Test.YtldobbdaokjgaaaP14
namespace Go.Proofs.Ytldobbdaokjgaaa
open Go.RowKit
set_option linter.unusedVariables false
set_option linter.unusedSimpArgs false
structure Oc (q : Q) (L : List Int) (tk : Option Int) (m : Int) (inn out : Int → Bool) (i len : Nat) : Prop where
  I : Iv q L tk
  V : Vo L tk (pvOf q) m inn out
  r : q.top + L.length ≤ i
  mi : m ≤ i
  ml : m ≤ len
  tl : len ≤ i → ∀ k, k < 8 → meas (q.th k).nx + (i + 7 - k) / 8 ≤ 6 + (len + 7 - k) / 8
theorem oc_new (n len : Nat) (h1 : 1 ≤ n) (h2 : n ≤ 64) : Oc (Q0 n) [] none 0 (fun _ => false) (fun _ => false) 0 len :=
  ⟨iv_new n h1 h2, vo_nil, by show (0 : Int) + 0 ≤ 0; omega, by omega, by omega, fun h k hk => by show 0 + (0 + 7 - k) / 8 ≤ 6 + (len + 7 - k) / 8; omega⟩
/-- a step of a thread that is busy -/
theorem oc_go {q : Q} {L : List Int} {tk : Option Int} {m : Int} {inn out : Int → Bool} {i len : Nat} (I : Iv q L tk) (V : Vo L tk (pvOf q) m inn out) (r : q.top + L.length ≤ i) (mi : m ≤ (i : Int) + 1) (ml : m ≤ len) (k : Nat) (k8 : k < 8) (hx : (q.th k).nx ≠ .no) (hi : i ≤ 1000000000000100)
    (tl : len ≤ i → ∀ k, k < 8 → meas (q.th k).nx + (i + 7 - k) / 8 ≤ 6 + (len + 7 - k) / 8) (hk : len ≤ i → k = i % 8) :
    ∃ L' tk', Oc (stp q k) L' tk' m (innOf inn (stepA q k).d) (outOf out (stepA q k).d) (i + 1) len ∧
      (isOk (stepA q k).d → 1 ≤ (stepA q k).d.v ∧ (stepA q k).d.v ≤ m ∧ ((stepA q k).d.op ≠ 0 → out (stepA q k).d.v = false)) := by
  obtain ⟨L', tk', I2, ev⟩ := any_step I k k8 hx (by omega)
  have hreach := ev_reach I.t0 (by omega) ev
  obtain ⟨V2, hok⟩ := vo_ev V ev
  have F := (nxt_step q k hx).m
  refine ⟨L', tk', ⟨I2, V2, by omega, by omega, ml, fun h j hj => ?_⟩, hok⟩
  by_cases hh : len ≤ i
  · have hk' := hk hh
    have ht := tl hh j hj
    by_cases e : j = k
    · subst e; omega
    · rw [stp_oth q k j e]; omega
  · have := meas_le ((stp q k).th j).nx
    have : i + 1 = len := by omega
    rw [this]; omega
theorem oc_round {q : Q} {L : List Int} {tk : Option Int} {m : Int} {inn out : Int → Bool} {i len : Nat} (h : Oc q L tk m inn out i len) (k : Nat) (k8 : k < 8) (p : Bool) (hi : i < len) (hl : len ≤ 10000000000000) :
    ∃ L' tk', Oc (stp (nxq q k p m).1 k) L' tk' (nxq q k p m).2 (innOf inn (stepA (nxq q k p m).1 k).d) (outOf out (stepA (nxq q k p m).1 k).d) (i + 1) len ∧
      (isOk (stepA (nxq q k p m).1 k).d → 1 ≤ (stepA (nxq q k p m).1 k).d.v ∧ (stepA (nxq q k p m).1 k).d.v ≤ (nxq q k p m).2 ∧ ((stepA (nxq q k p m).1 k).d.op ≠ 0 → out (stepA (nxq q k p m).1 k).d.v = false)) := by
  have hV : Vo L tk (pvOf (nxq q k p m).1) (nxq q k p m).2 inn out := by
    rcases pv_nxq q k p m with ⟨a, b⟩ | ⟨a, b, c, d, e, f⟩
    · rw [a, b]; exact h.V
    · rw [e, f]; have := h.V; rw [d] at this; exact vo_new this
  have hm : (nxq q k p m).2 = m ∨ (nxq q k p m).2 = m + 1 := by
    rcases pv_nxq q k p m with ⟨a, b⟩ | ⟨a, b, c, d, e, f⟩
    · exact .inl b
    · exact .inr f
  have mi := h.mi
  have r := h.r
  obtain ⟨t1, t2, t3, t4⟩ := nxq_top q k p m
  exact oc_go (iv_nxq h.I k p m) hV (by rw [t1]; exact r) (by omega) (by omega) k k8 (nxq_on q k p m) (by omega) (fun e => by omega) (fun e => by omega)
theorem oc_skip {q : Q} {L : List Int} {tk : Option Int} {m : Int} {inn out : Int → Bool} {i len : Nat} (h : Oc q L tk m inn out i len) (hi : len ≤ i) (h2 : i < len + 48) (hx : (q.th (i % 8)).nx = .no) : Oc q L tk m inn out (i + 1) len :=
  ⟨h.I, h.V, by have := h.r; omega, by have := h.mi; omega, h.ml, fun _ j hj => by
    have ht := h.tl hi j hj
    by_cases e : j = i % 8
    · have : meas (q.th j).nx = 0 := by rw [e, hx]; rfl
      omega
    · omega⟩
theorem oc_end {q : Q} {L : List Int} {tk : Option Int} {m : Int} {inn out : Int → Bool} {len : Nat} (h : Oc q L tk m inn out (len + 48) len) : tk = none ∧ pvOf q = none ∧ items q = L := by
  have h0 := h.tl (by omega) 0 (by omega)
  have hn : (q.th 0).nx = .no := meas_no (by omega)
  exact ⟨(ow_no h.I hn).1, by unfold pvOf; rw [hn]; rfl, items_iv h.I hn⟩
theorem oc_bounds {q : Q} {L : List Int} {tk : Option Int} {m : Int} {inn out : Int → Bool} {i len : Nat} (h : Oc q L tk m inn out i len) (hi : i ≤ 1000000000000100) : 0 ≤ q.top ∧ q.bot ≤ 1000000000000000000 ∧ q.bot - q.top ≤ 64 := by
  have h1 := h.I.t0
  have h2 := ow_bot h.I.ow
  have h3 := h.I.hl
  have h4 := h.I.n2
  have h5 := h.r
  omega
/-- the deque, and the two rows of truths -/
structure Osx (w W : World) (b p : Nat) (q : Q) (gi go N : Nat) (inn out : Int → Bool) : Prop where
  ds : Ds w W b p q
  ri : W.rowIs gi 4 N (fun j => .bool (inn (j : Int)))
  ro : W.rowIs go 4 N (fun j => .bool (out (j : Int)))
  n1 : gi ≠ b ∧ gi ≠ p ∧ go ≠ b ∧ go ≠ p ∧ gi ≠ go
  l1 : w.heap.size ≤ gi ∧ w.heap.size ≤ go
section
variable {w W W' : World} {b p : Nat} {q q' : Q} {gi go N : Nat} {inn out : Int → Bool}
theorem Osx.fr (h : Osx w W b p q gi go N inn out) (d : Ds w W' b p q') (g : Fr W W' (S2 b p)) : Osx w W' b p q' gi go N inn out :=
  ⟨d, row_fr h.ri g (by unfold S2; have := h.n1; omega), row_fr h.ro g (by unfold S2; have := h.n1; omega), h.n1, h.l1⟩
theorem Osx.alloc (h : Osx w W b p q gi go N inn out) (o : Obj) : Osx w (W.alloc o) b p q gi go N inn out := ⟨h.ds.alloc o, h.ri.alloc o, h.ro.alloc o, h.n1, h.l1⟩
theorem Osx.below (h : Osx w W b p q gi go N inn out) (g : Below W.heap.size W W') : Osx w W' b p q gi go N inn out := ⟨h.ds.below g, row_below h.ri g h.ri.lt, row_below h.ro g h.ro.lt, h.n1, h.l1⟩
theorem Osx.setI (h : Osx w W b p q gi go N inn out) (x : Nat) : Osx w (W.setCell ⟨gi, x, none⟩ (.bool true)) b p q gi go N (upd inn (x : Int)) out := by
  have n := h.n1
  refine ⟨h.ds.far gi x _ (Ne.symm n.1) (Ne.symm n.2.1) h.l1.1, (h.ri.set x _).congr (fun j hj => ?_), row_fr h.ro (fr_b W gi x _) (Ne.symm n.2.2.2.2), n, h.l1⟩
  unfold upd
  by_cases e : j = x
  · subst e; rw [if_pos rfl, if_pos rfl]
  · rw [if_neg e, if_neg (by omega)]
theorem Osx.setO (h : Osx w W b p q gi go N inn out) (x : Nat) : Osx w (W.setCell ⟨go, x, none⟩ (.bool true)) b p q gi go N inn (upd out (x : Int)) := by
  have n := h.n1
  refine ⟨h.ds.far go x _ (Ne.symm n.2.2.1) (Ne.symm n.2.2.2.1) h.l1.2, row_fr h.ri (fr_b W go x _) n.2.2.2.2, (h.ro.set x _).congr (fun j hj => ?_), n, h.l1⟩
  unfold upd
  by_cases e : j = x
  · subst e; rw [if_pos rfl, if_pos rfl]
  · rw [if_neg e, if_neg (by omega)]
theorem Osx.ci (h : Osx w W b p q gi go N inn out) (x : Nat) (hx : x < N) (o : Bool) (ho : inn (x : Int) = o) : W.cell? ⟨gi, x, none⟩ = some (.bool o) := by subst ho; exact row_val h.ri hx rfl
theorem Osx.co (h : Osx w W b p q gi go N inn out) (x : Nat) (hx : x < N) (o : Bool) (ho : out (x : Int) = o) : W.cell? ⟨go, x, none⟩ = some (.bool o) := by subst ho; exact row_val h.ro hx rfl
theorem Osx.fi (h : Osx w W b p q gi go N inn out) (x : Nat) : W.frozen? ⟨gi, x, none⟩ = false := World.rowIs.frozen h.ri x
theorem Osx.fo (h : Osx w W b p q gi go N inn out) (x : Nat) : W.frozen? ⟨go, x, none⟩ = false := World.rowIs.frozen h.ro x
end
theorem info4 : ∃ i0 : TypeInfo, Try.prog.info? 4 = some i0 ∧ i0.zero = some (.bool false) ∧ i0.size = 1 ∧ i0.bytes = 1 := by
  have h : (Try.prog.info? 4).map (fun i => (i.zero, i.size, i.bytes)) = some (some (.bool false), 1, 1) := by kernel_rfl
  obtain ⟨i0, h1, h2⟩ := Option.map_eq_some_iff.1 h
  simp only [Prod.mk.injEq] at h2
  exact ⟨i0, h1, h2.1, h2.2.1, h2.2.2⟩
theorem mk26 (N : Nat) (hN : N ≤ 100000000000000) (w : World) : (Instr.makeSlice 26 (.int .i64 N) (.int .i64 N)).run Try.prog w = .ok (.slice (some ⟨w.heap.size, 0, none⟩) N N) (w.alloc (.cells (madeCells #[.bool false] N) 4)) := by
  obtain ⟨i0, hi, hz0, hz1, hz2⟩ := info4
  have := run_make w 26 4 i0 (.bool false) Try.underlying26 hi hz0 .i64 .i64 N N (by omega) (Int.le_refl _) (by rw [hz2]; omega) (by omega)
  simpa [hz1, Value.cells] using this
theorem os_new {w W : World} {b p : Nat} {q : Q} (h : Ds w W b p q) (N : Nat) : Osx w ((W.alloc (.cells (madeCells #[.bool false] N) 4)).alloc (.cells (madeCells #[.bool false] N) 4)) b p q W.heap.size (W.heap.size + 1) N (fun _ => false) (fun _ => false) := by
  have hl := h.lt
  have hb := h.bel.size
  have h1 : (W.alloc (.cells (madeCells #[.bool false] N) 4)).rowIs W.heap.size 4 N (fun _ => .bool false) := World.rowIs_made _ _ _ _
  have h2 : ((W.alloc (.cells (madeCells #[.bool false] N) 4)).alloc (.cells (madeCells #[.bool false] N) 4)).rowIs (W.alloc (.cells (madeCells #[.bool false] N) 4)).heap.size 4 N (fun _ => .bool false) := World.rowIs_made _ _ _ _
  rw [show (W.alloc (.cells (madeCells #[.bool false] N) 4)).heap.size = W.heap.size + 1 by simp] at h2
  exact ⟨(h.alloc _).alloc _, h1.alloc _, h2, by omega, by omega⟩
theorem nat_of (v : Int) (h : 1 ≤ v) : ∃ x : Nat, v = x := ⟨v.toNat, by omega⟩
set_option maxRecDepth 100000 in
set_option maxHeartbeats 16000000 in
theorem once_any (s : Int) (a : Option Addr) (len cap : Nat) (t : Nat → Int) (o : Nat → Bool) (w : World) (hr : Rws w a len t o) (hlen : len ≤ 10000000000000) :
    Calls Try.prog 3 #[.int .i64 s, .slice a len cap] w fun e w' => e = .returned (.bool true) ∧ Below w.heap.size w w' := by
  have hz := zero34
  obtain ⟨i2, hi2, hz20, hz21, hz22⟩ := info2
  have HF0 := Lib.hid (oc_new (capN s) len (capN_lo s) (capN_hi s))
  obtain ⟨N, hN⟩ : ∃ N : Nat, N = len + 2 := ⟨_, rfl⟩
  have hwN : IntKind.i64.wrap ((len : Int) + 2) = (N : Int) := by rw [IntKind.wrap_i64]; omega
  have hw48 : IntKind.i64.wrap ((len : Int) + 48) = (len : Int) + 48 := by rw [IntKind.wrap_i64]; omega
  have hmk := mk26 N (by omega)
  have HNN := Lib.hid hN
  have HL0 := Lib.hid hlen
  clear hN
  go_enter Try.func3, Try.ntmps3
  go_wp2_with fail
  refine (lives_any _).mono ?_
  rintro e w1 ⟨rfl, g1⟩
  go_wp2_with fail
  refine (ds_new g1 s).mono ?_
  rintro e w2 ⟨b, p, rfl, h2, _, _⟩
  have hO := os_new h2 N
  clear g1 h2
  go_wp2_with fail
  generalize hG : w2.heap.size = G at *
  have HGG := Lib.hid hG
  clear hG
  go_loopw [6, 9] (fun mv kv wr => ∃ (i : Nat) (m : Int) (q : Q) (L : List Int) (tk : Option Int) (inn out : Int → Bool), i ≤ len + 48 ∧ mv = .int .i64 m ∧ kv = .int .i64 i ∧ Osx w wr b p q G (G + 1) N inn out ∧ Hid (Oc q L tk m inn out i len)) (fun mv kv wr => len + 48 - (intOf kv).toNat)
  case atStart => exact ⟨0, 0, _, [], none, _, _, Nat.zero_le _, rfl, rfl, hO, HF0⟩
  case round =>
    clear hO HF0
    obtain ⟨i, m, q, L, tk, inn, out, hi, rfl, rfl, M, F⟩ := hrel
    by_cases hlt : i < len + 48
    · have hi0 : (0 : Int) ≤ (i : Int) := by omega
      have hi48 : (i : Int) < (len : Int) + 48 := by omega
      have hwi : wrap64 ((i : Int) + 1) = (i : Int) + 1 := wrE _ (by omega) (by omega)
      have HWI := Lib.hid hwi
      clear hwi
      by_cases hil : i < len
      · obtain ⟨sb, so, rfl, hsb, k0, k1⟩ := hr i hil
        have d0 := (M.ds.bel.cell (p := ⟨sb, so + i * 2, none⟩) hsb).trans k0
        have d1 := (M.ds.bel.cell (p := ⟨sb, so + i * 2 + 1, none⟩) hsb).trans k1
        have hi3 : (i : Int) < (len : Int) := by omega
        have HLT := Lib.hid (And.intro hlt (And.intro hlen hil))
        have HK0 := Lib.hid k0
        have HK1 := Lib.hid k1
        clear k0 k1 hr hlt
        generalize t i = ti at HK0 d0
        generalize o i = oi at HK1 d1
        obtain ⟨k, hk, ek⟩ := mod8 ti
        have EK := Lib.hid ek
        clear ek
        obtain ⟨L', tk', F2, hok⟩ := oc_round F.out k hk oi hil hlen
        have HNX := Lib.hid (fun (W : World) (h : Ds w W b p q) => next_any h ti oi m F.out.V.m0 (by have := F.out.ml; omega) k hk EK)
        have hx := nxq_on q k oi m
        clear hil hlen
        generalize nxq q k oi m = qm at *
        obtain ⟨q1, m1⟩ := qm
        dsimp only at F2 hok HNX hx
        have HST := Lib.hid (fun (W : World) (h : Ds w W b p q1) (o : Bool) (x v r : Int) (hd : (stepA q1 k).d = { over := o, op := x, v := v, err := r }) => ds_step' h k hk hx o x v r hd _ rfl)
        generalize stp q1 k = q2 at *
        generalize (stepA q1 k).d = d at *
        obtain ⟨dO, dX, dV, dR⟩ := d
        dsimp only at hok F2
        have HS2 := Lib.hid (fun (W : World) (h : Ds w W b p q1) => HST.out W h dO dX dV dR rfl)
        have HF2 := Lib.hid F2
        have HOK := Lib.hid hok
        clear HST hx F2 F hok
        have hsb' := hsb
        go_wp2_with fail
        refine (HNX.out _ M.ds).mono ?_
        rintro e w4 ⟨rfl, M2, g2⟩
        have e0 := (M2.bel.cell (p := ⟨sb, so + i * 2, none⟩) hsb).trans HK0.out
        have e1 := (M2.bel.cell (p := ⟨sb, so + i * 2 + 1, none⟩) hsb).trans HK1.out
        have MM := M.fr M2 g2
        clear M d0 d1 HNX M2 g2
        go_wp2_with fail
        refine (thr_any ti oi k EK _).mono ?_
        rintro e w5 ⟨rfl, rfl⟩
        have M5 := MM.alloc (.cells #[.int .i64 ti, .bool oi] 29)
        clear MM
        go_wp2_with fail
        refine (HS2.out _ M5.ds).mono ?_
        rintro e w6 ⟨rfl, M3, g3⟩
        have M4 := (M5.fr M3 g3).alloc (.cells #[.bool dO, .int .i64 dX, .int .i64 dV, .int .i64 dR] 34)
        clear M5 M3 g3 HS2 e0 e1
        cases dO
        · have HX := Lib.hid (And.intro (show innOf inn { over := false, op := dX, v := dV, err := dR } = inn from if_neg (fun h => by cases h.1.1)) (show outOf out { over := false, op := dX, v := dV, err := dR } = out from if_neg (fun h => by cases h.1.1)))
          go_wp2
          have hwi := HWI.out
          have hf := HF2.out
          rw [HX.out.1, HX.out.2] at hf
          go_roundw
          case rel => exact ⟨i + 1, m1, q2, L', tk', inn, out, HLT.out.1, rfl, by first | rfl | (rw [hwi]; rfl), M4, Lib.hid hf⟩
          case measure => first | exact meas1 (len + 48) i HLT.out.1 | (rw [hwi]; exact meas1 (len + 48) i HLT.out.1)
        · by_cases hR : dR = 0
          · subst hR
            obtain ⟨v1, v2, v3⟩ := HOK.out ⟨rfl, rfl⟩
            have v1 : 1 ≤ dV := v1
            have v2 : dV ≤ m1 := v2
            have HML := Lib.hid HF2.out.ml
            obtain ⟨vN, rfl⟩ := nat_of dV v1
            have hvN : vN < N := by have := HML.out; have := HNN.out; omega
            have hvN' : (vN : Int) < (N : Int) := by omega
            have hv0 : (0 : Int) ≤ (vN : Int) := by omega
            have hv1 : ¬ ((vN : Int) < 1) := by omega
            have hv2 : ¬ (m1 < (vN : Int)) := by omega
            have HV3 := Lib.hid v3
            clear v1 v2 v3
            by_cases hX : dX = 0
            · subst hX
              have HX := Lib.hid (And.intro (show innOf inn { over := true, op := 0, v := (vN : Int), err := 0 } = upd inn vN from if_pos ⟨⟨rfl, rfl⟩, rfl⟩) (show outOf out { over := true, op := 0, v := (vN : Int), err := 0 } = out from if_neg (fun h => h.2 rfl)))
              have fi := M4.fi vN
              have ci := M4.ci vN hvN _ rfl
              go_wp2
              have hwi := HWI.out
              have hf := HF2.out
              rw [HX.out.1, HX.out.2] at hf
              go_roundw
              case rel => exact ⟨i + 1, m1, q2, L', tk', _, out, HLT.out.1, rfl, by first | rfl | (rw [hwi]; rfl), M4.setI vN, Lib.hid hf⟩
              case measure => first | exact meas1 (len + 48) i HLT.out.1 | (rw [hwi]; exact meas1 (len + 48) i HLT.out.1)
            · have hbX : (dX == 0) = false := by simp; exact hX
              have HX := Lib.hid (And.intro (show innOf inn { over := true, op := dX, v := (vN : Int), err := 0 } = inn from if_neg (fun h => hX h.2)) (show outOf out { over := true, op := dX, v := (vN : Int), err := 0 } = upd out vN from if_pos ⟨⟨rfl, rfl⟩, hX⟩))
              have fo := M4.fo vN
              have co := M4.co vN hvN false (HV3.out hX)
              clear hX
              go_wp2
              have hwi := HWI.out
              have hf := HF2.out
              rw [HX.out.1, HX.out.2] at hf
              go_roundw
              case rel => exact ⟨i + 1, m1, q2, L', tk', inn, _, HLT.out.1, rfl, by first | rfl | (rw [hwi]; rfl), M4.setO vN, Lib.hid hf⟩
              case measure => first | exact meas1 (len + 48) i HLT.out.1 | (rw [hwi]; exact meas1 (len + 48) i HLT.out.1)
          · have hb : (dR != 0) = true := by simp; exact hR
            have HX := Lib.hid (And.intro (show innOf inn { over := true, op := dX, v := dV, err := dR } = inn from if_neg (fun h => hR h.1.2)) (show outOf out { over := true, op := dX, v := dV, err := dR } = out from if_neg (fun h => hR h.1.2)))
            clear hR
            go_wp2
            have hwi := HWI.out
            have hf := HF2.out
            rw [HX.out.1, HX.out.2] at hf
            go_roundw
            case rel => exact ⟨i + 1, m1, q2, L', tk', inn, out, HLT.out.1, rfl, by first | rfl | (rw [hwi]; rfl), M4, Lib.hid hf⟩
            case measure => first | exact meas1 (len + 48) i HLT.out.1 | (rw [hwi]; exact meas1 (len + 48) i HLT.out.1)
      · have hil' : ¬ ((i : Int) < (len : Int)) := by omega
        have hrem : (i : Int) % 8 = ((i % 8 : Nat) : Int) := by omega
        have HLT := Lib.hid (And.intro hlt (And.intro hlen hil))
        have hk : i % 8 < 8 := by omega
        by_cases hb : (q.th (i % 8)).nx = .no
        · have HS := Lib.hid (oc_skip F.out (by omega) hlt hb)
          have hbz := ds_busy M.ds (i % 8) hk false (by rw [decide_eq_false (by simpa using hb)])
          clear hb F hlt hil hlen hr
          generalize i % 8 = k at *
          go_wp2_with fail
          refine hbz.mono ?_
          rintro e w3 ⟨rfl, rfl⟩
          go_wp2
          have hwi := HWI.out
          go_roundw
          case rel => exact ⟨i + 1, m, q, L, tk, inn, out, HLT.out.1, rfl, by first | rfl | (rw [hwi]; rfl), M, HS⟩
          case measure => first | exact meas1 (len + 48) i HLT.out.1 | (rw [hwi]; exact meas1 (len + 48) i HLT.out.1)
        · obtain ⟨L', tk', F2, hok⟩ := oc_go F.out.I F.out.V F.out.r (by have := F.out.mi; omega) F.out.ml (i % 8) hk hb (by omega) F.out.tl (fun _ => rfl)
          have hbz := ds_busy M.ds (i % 8) hk true (by rw [decide_eq_true hb])
          have HST := Lib.hid (fun (W : World) (h : Ds w W b p q) (o : Bool) (x v r : Int) (hd : (stepA q (i % 8)).d = { over := o, op := x, v := v, err := r }) => ds_step' h (i % 8) hk hb o x v r hd _ rfl)
          clear F hlt hil hlen hr
          generalize stp q (i % 8) = q2 at *
          generalize (stepA q (i % 8)).d = d at *
          obtain ⟨dO, dX, dV, dR⟩ := d
          dsimp only at hok F2
          have HS2 := Lib.hid (fun (W : World) (h : Ds w W b p q) => HST.out W h dO dX dV dR rfl)
          have HF2 := Lib.hid F2
          have HOK := Lib.hid hok
          clear HST hb F2 hok
          generalize i % 8 = k at *
          go_wp2_with fail
          refine hbz.mono ?_
          rintro e w3 ⟨rfl, rfl⟩
          go_wp2_with fail
          refine (HS2.out _ M.ds).mono ?_
          rintro e w6 ⟨rfl, M3, g3⟩
          obtain ⟨m1, hm1⟩ : ∃ m1, m1 = m := ⟨m, rfl⟩
          subst hm1
          have M4 := (M.fr M3 g3).alloc (.cells #[.bool dO, .int .i64 dX, .int .i64 dV, .int .i64 dR] 34)
          clear M M3 g3 HS2 hrem hil' hi0 hi48
          cases dO
          · have HX := Lib.hid (And.intro (show innOf inn { over := false, op := dX, v := dV, err := dR } = inn from if_neg (fun h => by cases h.1.1)) (show outOf out { over := false, op := dX, v := dV, err := dR } = out from if_neg (fun h => by cases h.1.1)))
            go_wp2
            have hwi := HWI.out
            have hf := HF2.out
            rw [HX.out.1, HX.out.2] at hf
            go_roundw
            case rel => exact ⟨i + 1, m1, q2, L', tk', inn, out, HLT.out.1, rfl, by first | rfl | (rw [hwi]; rfl), M4, Lib.hid hf⟩
            case measure => first | exact meas1 (len + 48) i HLT.out.1 | (rw [hwi]; exact meas1 (len + 48) i HLT.out.1)
          · by_cases hR : dR = 0
            · subst hR
              obtain ⟨v1, v2, v3⟩ := HOK.out ⟨rfl, rfl⟩
              have v1 : 1 ≤ dV := v1
              have v2 : dV ≤ m1 := v2
              have HML := Lib.hid HF2.out.ml
              obtain ⟨vN, rfl⟩ := nat_of dV v1
              have hvN : vN < N := by have := HML.out; have := HNN.out; omega
              have hvN' : (vN : Int) < (N : Int) := by omega
              have hv0 : (0 : Int) ≤ (vN : Int) := by omega
              have hv1 : ¬ ((vN : Int) < 1) := by omega
              have hv2 : ¬ (m1 < (vN : Int)) := by omega
              have HV3 := Lib.hid v3
              clear v1 v2 v3
              by_cases hX : dX = 0
              · subst hX
                have HX := Lib.hid (And.intro (show innOf inn { over := true, op := 0, v := (vN : Int), err := 0 } = upd inn vN from if_pos ⟨⟨rfl, rfl⟩, rfl⟩) (show outOf out { over := true, op := 0, v := (vN : Int), err := 0 } = out from if_neg (fun h => h.2 rfl)))
                have fi := M4.fi vN
                have ci := M4.ci vN hvN _ rfl
                go_wp2
                have hwi := HWI.out
                have hf := HF2.out
                rw [HX.out.1, HX.out.2] at hf
                go_roundw
                case rel => exact ⟨i + 1, m1, q2, L', tk', _, out, HLT.out.1, rfl, by first | rfl | (rw [hwi]; rfl), M4.setI vN, Lib.hid hf⟩
                case measure => first | exact meas1 (len + 48) i HLT.out.1 | (rw [hwi]; exact meas1 (len + 48) i HLT.out.1)
              · have hbX : (dX == 0) = false := by simp; exact hX
                have HX := Lib.hid (And.intro (show innOf inn { over := true, op := dX, v := (vN : Int), err := 0 } = inn from if_neg (fun h => hX h.2)) (show outOf out { over := true, op := dX, v := (vN : Int), err := 0 } = upd out vN from if_pos ⟨⟨rfl, rfl⟩, hX⟩))
                have fo := M4.fo vN
                have co := M4.co vN hvN false (HV3.out hX)
                clear hX
                go_wp2
                have hwi := HWI.out
                have hf := HF2.out
                rw [HX.out.1, HX.out.2] at hf
                go_roundw
                case rel => exact ⟨i + 1, m1, q2, L', tk', inn, _, HLT.out.1, rfl, by first | rfl | (rw [hwi]; rfl), M4.setO vN, Lib.hid hf⟩
                case measure => first | exact meas1 (len + 48) i HLT.out.1 | (rw [hwi]; exact meas1 (len + 48) i HLT.out.1)
            · have hb : (dR != 0) = true := by simp; exact hR
              have HX := Lib.hid (And.intro (show innOf inn { over := true, op := dX, v := dV, err := dR } = inn from if_neg (fun h => hR h.1.2)) (show outOf out { over := true, op := dX, v := dV, err := dR } = out from if_neg (fun h => hR h.1.2)))
              clear hR
              go_wp2
              have hwi := HWI.out
              have hf := HF2.out
              rw [HX.out.1, HX.out.2] at hf
              go_roundw
              case rel => exact ⟨i + 1, m1, q2, L', tk', inn, out, HLT.out.1, rfl, by first | rfl | (rw [hwi]; rfl), M4, Lib.hid hf⟩
              case measure => first | exact meas1 (len + 48) i HLT.out.1 | (rw [hwi]; exact meas1 (len + 48) i HLT.out.1)
    · obtain rfl : i = len + 48 := by omega
      have hnl : ¬ (((len + 48 : Nat) : Int) < (len : Int) + 48) := by omega
      obtain ⟨e1, e2, e3⟩ := oc_end F.out
      subst e1
      have V := F.out.V
      rw [e2] at V
      have hbd := oc_bounds F.out (by omega)
      have HBD := Lib.hid hbd
      have hml := F.out.ml
      have hl64 : L.length ≤ 64 := by have := F.out.I.hl; have := F.out.I.n2; omega
      obtain ⟨mN, rfl⟩ : ∃ x : Nat, m = x := ⟨m.toNat, by have := V.m0; omega⟩
      have hwant := want_all V
      have HW := Lib.hid hwant
      have HV := Lib.hid V
      have HE := Lib.hid e3
      have HML := Lib.hid hml
      clear V hbd hml hwant e2 e3 F hlt hr hlen
      have hmN : mN ≤ 10000000000000 := by have := HML.out; have := HL0.out; omega
      generalize wr = W0 at *
      go_wp2
      have hsz0 : w.heap.size ≤ W0.heap.size := M.ds.bel.size
      go_loopw [13, 14] (fun wv vv wx => ∃ j : Nat, 1 ≤ j ∧ j ≤ mN + 1 ∧ vv = .int .i64 (j : Int) ∧ Own wx W0.heap.size wv (wantOf inn out (j - 1)) ∧ Below W0.heap.size W0 wx) (fun wv vv wx => mN + 1 - (intOf vv).toNat)
      case atStart => exact ⟨1, Nat.le_refl _, by omega, rfl, World.ownsRow_nil _ _ _ _, Below.refl _ _⟩
      case round =>
        obtain ⟨v, hv1, hv, rfl, hown, hb⟩ := hrel
        have M2 := M.below hb
        by_cases hjm : v ≤ mN
        · have hj1 : (v : Int) ≤ (mN : Int) := by omega
          have hjN : v < N := by have := HML.out; have := HNN.out; omega
          have hjN' : (v : Int) < (N : Int) := by omega
          have hj0 : (0 : Int) ≤ (v : Int) := by omega
          have hoi := HV.out.oi (v : Int)
          obtain ⟨j, rfl⟩ : ∃ j, v = j + 1 := ⟨v - 1, by omega⟩
          have hws := want_succ inn out j
          rw [show (j : Int) + 1 = ((j + 1 : Nat) : Int) by omega] at hws
          have hlw : (wantOf inn out j).length ≤ j := by
            unfold wantOf
            exact Nat.le_trans (List.length_filter_le _ _) (by simp)
          have hown' : Own wr W0.heap.size u13 (wantOf inn out j) := hown
          have hcs : (inn ((j + 1 : Nat) : Int) = true ∧ out ((j + 1 : Nat) : Int) = false) ∨ (inn ((j + 1 : Nat) : Int) = out ((j + 1 : Nat) : Int)) := by
            cases hin : inn ((j + 1 : Nat) : Int) <;> cases hou : out ((j + 1 : Nat) : Int)
            · exact .inr rfl
            · rw [hoi hou] at hin; cases hin
            · exact .inl ⟨rfl, rfl⟩
            · exact .inr rfl
          have hjb : j ≤ 10000000000000 := by omega
          have hwl : wantOf inn out (j + 1 + 1 - 1) = wantOf inn out (j + 1) := rfl
          clear hoi hown
          generalize hwj : wantOf inn out j = wl at *
          generalize wantOf inn out (j + 1) = wl1 at *
          generalize hV : j + 1 = v at *
          have HVJ := Lib.hid hV
          have hwv : wrap64 ((v : Int) + 1) = (v : Int) + 1 := wrE _ (by omega) (by omega)
          have HWV := Lib.hid hwv
          have HJM := Lib.hid hjm
          have HB := Lib.hid hb
          have HWL := Lib.hid hwl
          have HW1 := Lib.hid hv1
          clear hwv hb hjm hv hwj hV hwl hv1
          have fin : ∀ (w8 : World) (v8 : Value), Own w8 W0.heap.size v8 wl1 → Below W0.heap.size W0 w8 → ∃ j : Nat, 1 ≤ j ∧ j ≤ mN + 1 ∧ Value.int .i64 ((v : Int) + 1) = .int .i64 (j : Int) ∧ Own w8 W0.heap.size v8 (wantOf inn out (j - 1)) ∧ Below W0.heap.size W0 w8 := fun w8 v8 h1 h2 =>
            ⟨v + 1, by omega, by have := HJM.out; omega, by rw [show ((v + 1 : Nat) : Int) = (v : Int) + 1 by omega], by rw [HWL.out]; exact h1, h2⟩
          have FIN := Lib.hid fin
          clear fin
          rcases hcs with ⟨h1, h2⟩ | h1
          · have ci := M2.ci v hjN true h1
            have co := M2.co v hjN false h2
            rw [h1, h2] at hws
            have hws' : wl1 = wl ++ [(v : Int)] := hws
            obtain ⟨wa, wc, rfl⟩ := own_slice hown'
            have ho : wr.ownsRow W0.heap.size 2 1 (.slice wa wl.length wc) wl.length (wl.map (Value.int .i64)) := hown'
            have HO := Lib.hid ho
            have HWS := Lib.hid hws'
            have hsx := HB.out.size
            clear hws hws' hown' ho h1 h2 M2
            go_wp2_with (at_builtin; refine wpList_append_own _ rfl _ _ 37 rfl W0.heap.size 2 i2 (.int .i64 0) 1 8 Try.underlying37 hi2 hz20 hz21 hz22 rfl (by decide) _ _ _ rfl (HO.out.alloc _) ⟨wr.heap.size, 0, none⟩ 1 1 [.int .i64 (v : Int)] rfl rfl (cell_one_new _ _ _) (by simp [Value.oneCell']) (by unfold maxLen; omega) (by omega) (by simp; omega) ?_; intro v' w8 hown1 hgrow _)
            have hg : (wr.alloc (.cells #[.int .i64 (v : Int)] 2)).grownBy w8 (Value.slice wa wl.length wc).ownBlock := hgrow
            have hbm := below_append HO.out HB.out (Nat.le_refl _) hg
            have hwv := HWV.out
            have hjm := HJM.out
            go_roundw
            case rel =>
              first
              | exact FIN.out w8 v' (by show w8.ownsRow _ _ _ _ _ _; rw [HWS.out]; simpa using hown1) hbm
              | (rw [hwv]; exact FIN.out w8 v' (by show w8.ownsRow _ _ _ _ _ _; rw [HWS.out]; simpa using hown1) hbm)
            case measure => first | exact meas1 (mN + 1) v (Nat.lt_succ_of_le hjm) | (rw [hwv]; exact meas1 (mN + 1) v (Nat.lt_succ_of_le hjm))
          · have hws' : wl1 = wl := by rw [hws, h1]; simp
            have HWS := Lib.hid hws'
            have HO := Lib.hid hown'
            have ci := M2.ci v hjN _ h1
            have co := M2.co v hjN _ rfl
            clear hws hws' h1 M2 hown'
            generalize out (v : Int) = bo at *
            cases bo
            all_goals
              go_wp2
              have hwv := HWV.out
              have hjm := HJM.out
              go_roundw
              case rel => first | exact FIN.out _ _ (by rw [HWS.out]; exact HO.out) HB.out | (rw [hwv]; exact FIN.out _ _ (by rw [HWS.out]; exact HO.out) HB.out)
              case measure => first | exact meas1 (mN + 1) v (Nat.lt_succ_of_le hjm) | (rw [hwv]; exact meas1 (mN + 1) v (Nat.lt_succ_of_le hjm))
        · have hvm : v = mN + 1 := by omega
          have hnj : ¬ ((v : Int) ≤ (mN : Int)) := by omega
          have e1 : wantOf inn out (v - 1) = L := by rw [hvm]; exact HW.out
          rw [e1] at hown
          obtain ⟨wa, wc, rfl⟩ := own_slice hown
          have hbd := HBD.out
          have HI := Lib.hid (ds_items M2.ds L HE.out hbd.1 hbd.2.1 hbd.2.2)
          have HL := Lib.hid (ls_own hown)
          clear hown hbd M2 M hjm hb e1 hvm hv1 hv
          go_wp2_with fail
          refine HI.out.mono ?_
          rintro e w9 ⟨ia, ic, rfl, ho9, M9, g9⟩
          have HL9 := HL.out.below g9
          have HS := same_any L L ia wa L.length L.length ic wc w9 (fun x hx => own_cell ho9 x hx) (fun x hx => ls_cell HL9 x hx) rfl rfl (by omega)
          have HSH := Lib.hid HS
          have H9 := Lib.hid M9.bel
          clear HS HL9 ho9 M9 g9 HI HL
          go_wp2_with fail
          refine HSH.out.mono ?_
          rintro e w10 ⟨rfl, mm, rfl⟩
          go_wp2
          go_ret
          exact ⟨rfl, H9.out.trans ((fr_drewN w9 (fun _ => False) mm).below H9.out.size (fun k e => e.elim))⟩
end Go.Proofs.Ytldobbdaokjgaaa
