/- DequeAlone's walk. -/
import Derived.Test.YtldobbdaokjgaaaP16
namespace Go.Proofs.Ytldobbdaokjgaaa
open Go.RowKit
set_option linter.unusedVariables false
set_option linter.unusedSimpArgs false
theorem cell_new1 (w : World) (x : Int) : (w.alloc (.cells #[.int .i64 x] 2)).cell? ⟨w.heap.size, 0, none⟩ = some (.int .i64 x) :=
  row_val (row_new w #[.int .i64 x] 2 1 (fun _ => .int .i64 x) rfl (fun i hi => by match i, hi with | 0, _ => rfl)) (i := 0) (by omega) rfl
theorem Ds.fr2 {w0 w w' : World} {b p : Nat} {q : Q} {S : Nat → Prop} (h : Ds w0 w b p q) (g : Fr w w' S) (hb : ¬ S b) (hp : ¬ S p) (hS : ∀ k, S k → w0.heap.size ≤ k) : Ds w0 w' b p q :=
  ⟨h.i.frame g hb hp, h.bel.trans (g.below h.bel.size hS), h.lo, h.lp⟩
/-- the end of a round -/
theorem ab_next {w W : World} {b p : Nat} {q : Q} {lv' : Value} {L' : List Int} {i : Nat} (I : Iv q L' none) (hn : (q.th 0).nx = .no) (r : q.top + L'.length ≤ 8 * ((i : Int) + 1)) (ds : Ds w W b p q) (ls : Ls W lv' L') (ns : ∀ g, blk lv' = some g → g ≠ b ∧ g ≠ p ∧ w.heap.size ≤ g) : Ab w W b p q lv' L' (i + 1) :=
  ⟨ds, ls, ns, I, hn, by omega⟩
/-- the inner loop of a round: until the operation is over -/
structure Lp (w W : World) (b p B : Nat) (isP : Bool) (v : Int) (L0 : List Int) (lv : Value) (k : Nat) (q : Q) (d : D) (L : List Int) (i : Nat) : Prop where
  tk : ∃ tk, Al isP v L0 q L tk d k
  a : Aw w W b p q B d lv L0
  r : q.top + L.length ≤ 8 * (i : Int) + k
  k6 : k ≤ 6
set_option maxRecDepth 100000 in
set_option maxHeartbeats 16000000 in
theorem alone_any (s : Int) (a : Option Addr) (len cap : Nat) (z : Nat → Bool) (w : World) (hr : Bls w a len z) (hlen : len ≤ 1000000000000000) :
    Calls Try.prog 5 #[.int .i64 s, .slice a len cap] w fun e w' => e = .returned (.bool true) ∧ Below w.heap.size w w' := by
  have hz := zero34
  go_enter Try.func5, Try.ntmps5
  go_wp2_with fail
  refine (lives_any _).mono ?_
  rintro e w1 ⟨rfl, g1⟩
  go_wp2_with fail
  refine (ds_new g1 s).mono ?_
  rintro e w2 ⟨b, p, rfl, h2, _, _⟩
  have hA := ab_new h2 (capN_lo s) (capN_hi s)
  clear g1 h2
  go_wp2_with fail
  go_loopw [6, 7] (fun lv kv wr => ∃ (i : Nat) (q : Q) (L : List Int), i ≤ len ∧ kv = .int .i64 i ∧ Ab w wr b p q lv L i) (fun lv kv wr => len - (intOf kv).toNat)
  case atStart => exact ⟨0, _, [], Nat.zero_le _, rfl, hA⟩
  case round =>
    clear hA
    obtain ⟨i, q, L, hi, rfl, A⟩ := hrel
    by_cases hlt : i < len
    · obtain ⟨sb, so, rfl, hsb, k0⟩ := hr i hlt
      have d0 := (A.ds.bel.cell (p := ⟨sb, so + i, none⟩) hsb).trans k0
      have hi3 : (i : Int) < (len : Int) := by omega
      have hi0 : (0 : Int) ≤ (i : Int) := by omega
      have HLT := Lib.hid (And.intro hlt hlen)
      have HK0 := Lib.hid k0
      clear k0 hr hlt
      generalize z i = isP at *
      obtain ⟨hbg, I1, M1⟩ := al_begin A.I A.nx isP (i : Int)
      generalize hq1 : q.setT 0 { nx := if isP = true then .a33 else .a34, v := (i : Int) } = q1 at *
      have hr1 : q1.top + L.length ≤ 8 * (i : Int) := by rw [← hq1]; exact A.r
      have HR1 := Lib.hid hr1
      have HIM := Lib.hid (And.intro I1 M1)
      have HBG := Lib.hid hbg
      have HAA := Lib.hid A
      have hds := A.ds
      obtain ⟨la, lc, hlv⟩ := ls_slice A.ls
      have HLV := Lib.hid hlv
      clear hbg I1 M1 hr1 hq1 hlen A
      have hwi : wrap64 ((i : Int) + 1) = (i : Int) + 1 := wrE _ (by have := HLT.out; omega) (by have := HLT.out; omega)
      have HWI := Lib.hid hwi
      clear hwi
      subst hlv
      have hsb' := hsb
      cases isP
      · go_wp2_with fail
        refine (ds_begin hds 0 1 (i : Int) 0 HBG.out).mono ?_
        rintro e w3 ⟨rfl, h3, g3⟩
        have W3 := HAA.out.box g3 h3
        clear hds h3 d0
        go_wp2_with fail
        generalize hB : w3.heap.size = B at *
        clear hB g3
        go_loopw [10] (fun kv wr => ∃ (k : Nat) (q2 : Q) (d : D) (L2 : List Int), kv = .int .i64 k ∧ Lp w wr b p B false (i : Int) L (.slice la L.length lc) k q2 d L2 i) (fun kv wr => 8 - (intOf kv).toNat)
        case atStart => exact ⟨0, q1, {}, L, rfl, ⟨⟨none, HIM.out.1, .inl ⟨rfl, HIM.out.2⟩⟩, W3, by have := HR1.out; omega, by omega⟩⟩
        case round =>
          clear W3
          obtain ⟨k, q2, d, L2, rfl, P⟩ := hrel
          obtain ⟨⟨tk, I2, hmf⟩, A2, r2, k6⟩ := P
          rcases hmf with ⟨hd, Md⟩ | Fn
          · subst hd
            have hm := Md.m
            have hk5 : k ≤ 5 := by
              have : 0 < meas (q2.th 0).nx := by
                by_cases h : meas (q2.th 0).nx = 0
                · exact absurd (meas_no h) Md.nx
                · omega
              omega
            obtain ⟨L3, tk3, hal, hreach⟩ := al_step I2 Md (by have := HLT.out; omega)
            have HST := Lib.hid (fun (W : World) (h : Ds w W b p q2) (o : Bool) (x v r : Int) (hd : (stepA q2 0).d = { over := o, op := x, v := v, err := r }) => ds_step' h 0 (by omega) Md.nx o x v r hd _ rfl)
            have c0 := A2.c0
            have f0 := A2.fz 0
            have f1 := A2.fz 1
            have f2 := A2.fz 2
            have f3 := A2.fz 3
            have hk0 : (k : Int) < 8 := by omega
            have HR3 := Lib.hid (show (stp q2 0).top + L3.length ≤ 8 * (i : Int) + ((k + 1 : Nat) : Int) by omega)
            clear Md I2 hm r2 hreach
            generalize stp q2 0 = q3 at *
            generalize (stepA q2 0).d = d at *
            obtain ⟨dO, dX, dV, dR⟩ := d
            have HS2 := Lib.hid (fun (W : World) (h : Ds w W b p q2) => HST.out W h dO dX dV dR rfl)
            have HAL := Lib.hid hal
            have HA2 := Lib.hid A2
            have hds2 := A2.ds
            clear HST hal A2
            go_wp2_with fail
            refine (HS2.out _ hds2).mono ?_
            rintro e w4 ⟨rfl, h4, g4⟩
            have A4 := HA2.out.fr h4 g4
            have f0 := A4.fz 0
            have f1 := A4.fz 1
            have f2 := A4.fz 2
            have f3 := A4.fz 3
            have x0 := A4.c0
            have x1 := A4.c1
            have x2 := A4.c2
            have x3 := A4.c3
            have HA4 := Lib.hid (A4.put dO dX dV dR)
            clear A4 h4 g4 hds2 HS2 HA2
            have hk5' := hk5
            go_wp2
            exact ⟨⟨k + 1, q3, _, L3, by go_num, ⟨⟨tk3, HAL.out⟩, HA4.out, HR3.out, by omega⟩⟩, by simp [intOf]; omega⟩
          · obtain ⟨dO, dX, dV, dR⟩ := d
            obtain ⟨o1, o2, o3, o4⟩ := Fn
            have o1 : dO = true := o1
            subst o1
            obtain ⟨ht, hbt⟩ := ow_no I2 o2
            subst ht
            have c0 := A2.c0
            have c1 := A2.c1
            have c2 := A2.c2
            have c3 := A2.c3
            have HDS := Lib.hid A2.ds
            have HIT := Lib.hid (items_iv I2 o2)
            have HBD := Lib.hid (show 0 ≤ q2.top ∧ q2.bot ≤ 1000000000000000000 ∧ q2.bot - q2.top ≤ 64 from by
              have h1 := I2.t0; have h3 := I2.hl; have h4 := I2.n2; have h5 := HLT.out; omega)
            have HL64 := Lib.hid (show L2.length ≤ 64 by have h3 := I2.hl; have h4 := I2.n2; omega)
            have HLS := Lib.hid A2.ls
            have HNS := Lib.hid A2.ns
            have HII := Lib.hid (And.intro I2 (And.intro o2 (show q2.top + L2.length ≤ 8 * ((i : Int) + 1) by omega)))
            have e0 := (A2.ds.bel.cell (p := ⟨sb, so + i, none⟩) hsb).trans HK0.out
            have hL64 := HIM.out.1.hl
            have hn64 := HIM.out.1.n2
            have HBX := Lib.hid (And.intro A2.bx (And.intro A2.ds.lt A2.nb))
            clear A2 hbt r2
            have o4' : dX = 1 ∧ ((L = [] ∧ dR = 8 ∧ L2 = []) ∨ ∃ y, L = L2 ++ [y] ∧ dR = 0 ∧ dV = y) := o4 rfl
            clear o4 o3
            obtain ⟨rfl, o5⟩ := o4'
            rcases o5 with ⟨rfl, rfl, rfl⟩ | ⟨y, rfl, rfl, rfl⟩
            · clear I2
              have HI := Lib.hid (ds_items HDS.out ([] : List Int) HIT.out HBD.out.1 HBD.out.2.1 HBD.out.2.2)
              go_wp2_with fail
              refine HI.out.mono ?_
              rintro e w9 ⟨ia, ic, rfl, ho9, M9, g9⟩
              have HL9 := HLS.out.below g9
              have HSH := Lib.hid (same_any ([] : List Int) ([] : List Int) ia la ([] : List Int).length ([] : List Int).length ic lc w9 (fun x hx => own_cell ho9 x hx) (fun x hx => ls_cell HL9 x hx) rfl rfl (by have := HL64.out; omega))
              have H9 := Lib.hid M9
              have HLL := Lib.hid HL9
              clear HL9 ho9 M9 g9 HI HLS HDS
              go_wp2_with fail
              refine HSH.out.mono ?_
              rintro e w10 ⟨rfl, mm, rfl⟩
              have H10 := Lib.hid (H9.out.drew mm)
              have HL10 := Lib.hid (HLL.out.of (w1 := w9.drewN mm) (fun _ _ _ => rfl))
              clear H9 HLL HSH
              go_wp2
              have hwi := HWI.out
              go_roundw
              case rel => exact ⟨i + 1, q2, ([] : List Int), HLT.out.1, by first | rfl | (rw [hwi]; rfl), ab_next HII.out.1 HII.out.2.1 HII.out.2.2 H10.out HL10.out (fun g e => by have := HNS.out g e; omega)⟩
              case measure => first | exact meas1 len i HLT.out.1 | (rw [hwi]; exact meas1 len i HLT.out.1)
            · obtain ⟨ad, rfl, hcap, hls⟩ := ls_init HLS.out
              obtain ⟨g, go, ea, hcell⟩ := ls_cell HLS.out L2.length (by simp)
              have ey : (L2 ++ [dV]).getD L2.length 0 = dV := by simp [List.getD]
              rw [ey] at hcell
              have ea : ad = ⟨g, go, none⟩ := by simpa using ea
              subst ea
              have HNS2 := Lib.hid (fun (k : Nat) (e : blk (.slice (some ⟨g, go, none⟩) L2.length lc) = some k) => HNS.out k e)
              have HLS2 := Lib.hid hls
              have hln : (L2 ++ [dV]).length = L2.length + 1 := by simp
              have HLN := Lib.hid hln
              have hLB := HL64.out
              clear hls ey I2 hln
              generalize hLL : (L2 ++ [dV]).length = NL at *
              have hNL := HLN.out
              obtain ⟨M, hM⟩ : ∃ M, M = L2.length := ⟨_, rfl⟩
              rw [← hM] at hNL hcell hcap hLB
              subst hNL
              have hw1 : IntKind.i64.wrap (((M + 1 : Nat) : Int) - 1) = (M : Int) := by rw [IntKind.wrap_i64]; omega
              have hne : ¬ ((M : Int) + 1 = 0) := by omega
              have hne2 : (((M + 1 : Nat) : Int) == 0) = false := by simp; omega
              have hMM := Lib.hid hM
              clear hM hLL
              have hw2 : IntKind.i64.wrap (M : Int) = (M : Int) := by rw [IntKind.wrap_i64]; omega
              have hw3 : IntKind.i64.wrap ((M : Int) + 1 - 1) = (M : Int) := by rw [IntKind.wrap_i64]; omega
              have hM0 : (0 : Int) ≤ (M : Int) := by omega
              have hM1 : (M : Int) < ((M + 1 : Nat) : Int) := by omega
              have hM2 : (M : Int) < (M : Int) + 1 := by omega
              have hM3 : (M : Int) ≤ (lc : Int) := by omega
              go_wp2
              go_quiet (fail)
              go_wp2_with fail
              obtain rfl := hMM.out
              have HDS := Lib.hid (HDS.out.drew nq)
              have HLS := Lib.hid (HLS2.out.of (w1 := wr.drewN nq) (fun _ _ _ => rfl))
              have HI := Lib.hid (ds_items HDS.out L2 HIT.out HBD.out.1 HBD.out.2.1 HBD.out.2.2)
              refine HI.out.mono ?_
              rintro e w9 ⟨ia, ic, rfl, ho9, M9, g9⟩
              have HL9 := HLS.out.below g9
              have HSH := Lib.hid (same_any L2 L2 ia (some ⟨g, go, none⟩) L2.length L2.length ic lc w9 (fun x hx => own_cell ho9 x hx) (fun x hx => ls_cell HL9 x hx) rfl rfl (by have := HL64.out; omega))
              have H9 := Lib.hid M9
              have HLL := Lib.hid HL9
              clear HL9 ho9 M9 g9 HI HLS HDS
              go_wp2_with fail
              refine HSH.out.mono ?_
              rintro e w10 ⟨rfl, mm, rfl⟩
              have H10 := Lib.hid (H9.out.drew mm)
              have HL10 := Lib.hid (HLL.out.of (w1 := w9.drewN mm) (fun _ _ _ => rfl))
              clear H9 HLL HSH
              go_wp2
              have hwi := HWI.out
              go_roundw
              case rel => exact ⟨i + 1, q2, L2, HLT.out.1, by first | rfl | (rw [hwi]; rfl), ab_next HII.out.1 HII.out.2.1 HII.out.2.2 H10.out HL10.out (fun k e => by have := HNS2.out k e; omega)⟩
              case measure => first | exact meas1 len i HLT.out.1 | (rw [hwi]; exact meas1 len i HLT.out.1)
      · go_wp2_with fail
        refine (ds_begin hds 0 0 (i : Int) 0 HBG.out).mono ?_
        rintro e w3 ⟨rfl, h3, g3⟩
        have W3 := HAA.out.box g3 h3
        clear hds h3 d0
        go_wp2_with fail
        generalize hB : w3.heap.size = B at *
        clear hB g3
        go_loopw [10] (fun kv wr => ∃ (k : Nat) (q2 : Q) (d : D) (L2 : List Int), kv = .int .i64 k ∧ Lp w wr b p B true (i : Int) L (.slice la L.length lc) k q2 d L2 i) (fun kv wr => 8 - (intOf kv).toNat)
        case atStart => exact ⟨0, q1, {}, L, rfl, ⟨⟨none, HIM.out.1, .inl ⟨rfl, HIM.out.2⟩⟩, W3, by have := HR1.out; omega, by omega⟩⟩
        case round =>
          clear W3
          obtain ⟨k, q2, d, L2, rfl, P⟩ := hrel
          obtain ⟨⟨tk, I2, hmf⟩, A2, r2, k6⟩ := P
          rcases hmf with ⟨hd, Md⟩ | Fn
          · subst hd
            have hm := Md.m
            have hk5 : k ≤ 5 := by
              have : 0 < meas (q2.th 0).nx := by
                by_cases h : meas (q2.th 0).nx = 0
                · exact absurd (meas_no h) Md.nx
                · omega
              omega
            obtain ⟨L3, tk3, hal, hreach⟩ := al_step I2 Md (by have := HLT.out; omega)
            have HST := Lib.hid (fun (W : World) (h : Ds w W b p q2) (o : Bool) (x v r : Int) (hd : (stepA q2 0).d = { over := o, op := x, v := v, err := r }) => ds_step' h 0 (by omega) Md.nx o x v r hd _ rfl)
            have c0 := A2.c0
            have f0 := A2.fz 0
            have f1 := A2.fz 1
            have f2 := A2.fz 2
            have f3 := A2.fz 3
            have hk0 : (k : Int) < 8 := by omega
            have HR3 := Lib.hid (show (stp q2 0).top + L3.length ≤ 8 * (i : Int) + ((k + 1 : Nat) : Int) by omega)
            clear Md I2 hm r2 hreach
            generalize stp q2 0 = q3 at *
            generalize (stepA q2 0).d = d at *
            obtain ⟨dO, dX, dV, dR⟩ := d
            have HS2 := Lib.hid (fun (W : World) (h : Ds w W b p q2) => HST.out W h dO dX dV dR rfl)
            have HAL := Lib.hid hal
            have HA2 := Lib.hid A2
            have hds2 := A2.ds
            clear HST hal A2
            go_wp2_with fail
            refine (HS2.out _ hds2).mono ?_
            rintro e w4 ⟨rfl, h4, g4⟩
            have A4 := HA2.out.fr h4 g4
            have f0 := A4.fz 0
            have f1 := A4.fz 1
            have f2 := A4.fz 2
            have f3 := A4.fz 3
            have x0 := A4.c0
            have x1 := A4.c1
            have x2 := A4.c2
            have x3 := A4.c3
            have HA4 := Lib.hid (A4.put dO dX dV dR)
            clear A4 h4 g4 hds2 HS2 HA2
            have hk5' := hk5
            go_wp2
            exact ⟨⟨k + 1, q3, _, L3, by go_num, ⟨⟨tk3, HAL.out⟩, HA4.out, HR3.out, by omega⟩⟩, by simp [intOf]; omega⟩
          · obtain ⟨dO, dX, dV, dR⟩ := d
            obtain ⟨o1, o2, o3, o4⟩ := Fn
            have o1 : dO = true := o1
            subst o1
            obtain ⟨ht, hbt⟩ := ow_no I2 o2
            subst ht
            have c0 := A2.c0
            have c1 := A2.c1
            have c2 := A2.c2
            have c3 := A2.c3
            have HDS := Lib.hid A2.ds
            have HIT := Lib.hid (items_iv I2 o2)
            have HBD := Lib.hid (show 0 ≤ q2.top ∧ q2.bot ≤ 1000000000000000000 ∧ q2.bot - q2.top ≤ 64 from by
              have h1 := I2.t0; have h3 := I2.hl; have h4 := I2.n2; have h5 := HLT.out; omega)
            have HL64 := Lib.hid (show L2.length ≤ 64 by have h3 := I2.hl; have h4 := I2.n2; omega)
            have HLS := Lib.hid A2.ls
            have HNS := Lib.hid A2.ns
            have HII := Lib.hid (And.intro I2 (And.intro o2 (show q2.top + L2.length ≤ 8 * ((i : Int) + 1) by omega)))
            have e0 := (A2.ds.bel.cell (p := ⟨sb, so + i, none⟩) hsb).trans HK0.out
            have hL64 := HIM.out.1.hl
            have hn64 := HIM.out.1.n2
            have HBX := Lib.hid (And.intro A2.bx (And.intro A2.ds.lt A2.nb))
            clear A2 hbt r2
            have o3' : dX = 0 ∧ ((L.length = q2.n ∧ dR = 7 ∧ L2 = L) ∨ (L.length ≠ q2.n ∧ dR = 0 ∧ L2 = L ++ [(i : Int)])) := o3 rfl
            clear o4 o3
            obtain ⟨rfl, o5⟩ := o3'
            rcases o5 with ⟨hfull, rfl, rfl⟩ | ⟨hfull, rfl, rfl⟩
            · clear I2
              have HSZ := Lib.hid (ds_size HDS.out (L2.length : Int) (by rw [hfull]))
              clear hfull
              go_wp2_with fail
              refine HSZ.out.mono ?_
              rintro e w5 ⟨rfl, rfl⟩
              have HI := Lib.hid (ds_items HDS.out L2 HIT.out HBD.out.1 HBD.out.2.1 HBD.out.2.2)
              go_wp2_with fail
              refine HI.out.mono ?_
              rintro e w9 ⟨ia, ic, rfl, ho9, M9, g9⟩
              have HL9 := HLS.out.below g9
              have HSH := Lib.hid (same_any L2 L2 ia la L2.length L2.length ic lc w9 (fun x hx => own_cell ho9 x hx) (fun x hx => ls_cell HL9 x hx) rfl rfl (by have := HL64.out; omega))
              have H9 := Lib.hid M9
              have HLL := Lib.hid HL9
              clear HL9 ho9 M9 g9 HI HLS HDS
              go_wp2_with fail
              refine HSH.out.mono ?_
              rintro e w10 ⟨rfl, mm, rfl⟩
              have H10 := Lib.hid (H9.out.drew mm)
              have HL10 := Lib.hid (HLL.out.of (w1 := w9.drewN mm) (fun _ _ _ => rfl))
              clear H9 HLL HSH
              go_wp2
              have hwi := HWI.out
              go_roundw
              case rel => exact ⟨i + 1, q2, L2, HLT.out.1, by first | rfl | (rw [hwi]; rfl), ab_next HII.out.1 HII.out.2.1 HII.out.2.2 H10.out HL10.out (fun g e => by have := HNS.out g e; omega)⟩
              case measure => first | exact meas1 len i HLT.out.1 | (rw [hwi]; exact meas1 len i HLT.out.1)
            · have HSZ := Lib.hid (ds_size HDS.out (q2.n : Int) rfl)
              have hbn : ((L.length : Int) == (q2.n : Int)) = false := by simp; omega
              clear I2 hfull
              generalize (q2.n : Int) = SZ at *
              go_wp2_with fail
              refine HSZ.out.mono ?_
              rintro e w5 ⟨rfl, rfl⟩
              have hls2 := HLS.out.below ((Below.refl w5.heap.size w5).alloc (Nat.le_refl _) (.cells #[.int .i64 (i : Int)] 2))
              obtain ⟨v8, w8, h8, ls8, f8, n8⟩ := ls_append hls2 37 ⟨w5.heap.size, 0, none⟩ (i : Int) (cell_new1 w5 (i : Int)) (by omega)
              obtain ⟨a8, c8, rfl⟩ := ls_slice ls8
              have ds8 := (HDS.out.alloc (.cells #[.int .i64 (i : Int)] 2)).fr2 f8 (fun e => (HNS.out b e).1 rfl) (fun e => (HNS.out p e).2.1 rfl) (fun k e => (HNS.out k e).2.2.2)
              have ns8 : ∀ k, blk (.slice a8 (L ++ [(i : Int)]).length c8) = some k → k ≠ b ∧ k ≠ p ∧ w.heap.size ≤ k := fun k e => by
                have hl := HDS.out.lt
                have hs := HDS.out.bel.size
                rcases n8 k e with y | y
                · have := HNS.out k y; omega
                · rw [World.size_alloc] at y; omega
              have H8 := Lib.hid h8
              have HDS := Lib.hid ds8
              have HLS := Lib.hid ls8
              have HNS8 := Lib.hid ns8
              clear hls2 h8 ls8 f8 n8 ds8 ns8
              generalize (L ++ [(i : Int)]) = LL at *
              go_wp2_with (at_builtin; refine wpList_append_run rfl _ _ 37 rfl _ _ rfl rfl _ w8 H8.out ?_)
              have HI := Lib.hid (ds_items HDS.out LL HIT.out HBD.out.1 HBD.out.2.1 HBD.out.2.2)
              refine HI.out.mono ?_
              rintro e w9 ⟨ia, ic, rfl, ho9, M9, g9⟩
              have HL9 := HLS.out.below g9
              have HSH := Lib.hid (same_any LL LL ia a8 LL.length LL.length ic c8 w9 (fun x hx => own_cell ho9 x hx) (fun x hx => ls_cell HL9 x hx) rfl rfl (by have := HL64.out; omega))
              have H9 := Lib.hid M9
              have HLL := Lib.hid HL9
              clear HL9 ho9 M9 g9 HI HLS HDS
              go_wp2_with fail
              refine HSH.out.mono ?_
              rintro e w10 ⟨rfl, mm, rfl⟩
              have H10 := Lib.hid (H9.out.drew mm)
              have HL10 := Lib.hid (HLL.out.of (w1 := w9.drewN mm) (fun _ _ _ => rfl))
              clear H9 HLL HSH
              go_wp2
              have hwi := HWI.out
              go_roundw
              case rel => exact ⟨i + 1, q2, LL, HLT.out.1, by first | rfl | (rw [hwi]; rfl), ab_next HII.out.1 HII.out.2.1 HII.out.2.2 H10.out HL10.out HNS8.out⟩
              case measure => first | exact meas1 len i HLT.out.1 | (rw [hwi]; exact meas1 len i HLT.out.1)
    · obtain rfl : i = len := Nat.le_antisymm hi (Nat.le_of_not_lt hlt)
      have HB := Lib.hid A.ds.bel
      clear A hr hlt
      go_wp2
      go_ret
      exact ⟨rfl, HB.out⟩
end Go.Proofs.Ytldobbdaokjgaaa
