/- SafraPlays' walk. -/
import Derived.Test.YtmagenfndbaliaaP11
import Derived.Deep.DeepCutAuto
import Derived.Deep.RegionHeld3
namespace Go.Proofs.Ytmagenfndbaliaa
open Go.RowKit
set_option linter.unusedVariables false
set_option linter.unusedSimpArgs false
/-- the ring and the reference's one, side by side -/
structure Ps (w0 w : World) (b g bm gm cap : Nat) (ra rb : R) : Prop where
  sr : Sr w0 w b g ra
  mr : Mr w bm gm cap rb
  d : bm ≠ b ∧ bm ≠ g ∧ gm ≠ b ∧ gm ≠ g
  lb : w0.heap.size ≤ bm
  lg : w0.heap.size ≤ gm
section
variable {w0 w w1 : World} {b g bm gm cap : Nat} {ra rb ra' rb' : R}
theorem Ps.below (h : Ps w0 w b g bm gm cap ra rb) (f : Below w.heap.size w w1) : Ps w0 w1 b g bm gm cap ra rb := { h with sr := h.sr.below f, mr := h.mr.below f }
theorem Ps.a (h : Ps w0 w b g bm gm cap ra rb) (h' : Sr w0 w1 b g ra') (f : Fr w w1 (S2 b g)) : Ps w0 w1 b g bm gm cap ra' rb :=
  { h with sr := h', mr := h.mr.frame f (fun x => by rcases x with e | e; exact h.d.1 e; exact h.d.2.1 e) (fun x => by rcases x with e | e; exact h.d.2.2.1 e; exact h.d.2.2.2 e) }
theorem Ps.rf (h : Ps w0 w b g bm gm cap ra rb) (h' : Mr w1 bm gm cap rb') (f : Fr w w1 (S2 bm gm)) : Ps w0 w1 b g bm gm cap ra rb' :=
  { h with mr := h', sr := h.sr.frame f (fun x => by rcases x with e | e; exact h.d.1 e.symm; exact h.d.2.2.1 e.symm) (fun x => by rcases x with e | e; exact h.d.2.1 e.symm; exact h.d.2.2.2 e.symm) (fun k x => by rcases x with e | e; rw [e]; exact h.lb; rw [e]; exact h.lg) }
end
def opf (bl ho : Bool) (k : Int) (j : Nat) : Value := if j = 0 then .bool bl else if j = 1 then .bool ho else .int .i64 k
structure Px (w0 w : World) (b g bm gm cap : Nat) (ra rb : R) (B : Nat) (bl ho : Bool) (k : Int) : Prop where
  p : Ps w0 w b g bm gm cap ra rb
  bx : w.rowIs B 33 3 (opf bl ho k)
  nb : B ≠ b ∧ B ≠ g ∧ B ≠ bm ∧ B ≠ gm
  lo : w0.heap.size ≤ B
section
variable {w0 w w1 : World} {b g bm gm cap : Nat} {ra rb ra' rb' : R} {B : Nat} {bl ho : Bool} {k : Int}
theorem Px.new (h : Ps w0 w b g bm gm cap ra rb) (bl ho : Bool) (k : Int) : Px w0 (w.alloc (.cells #[.bool bl, .bool ho, .int .i64 k] 33)) b g bm gm cap ra rb w.heap.size bl ho k :=
  ⟨h.below ((Below.refl w.heap.size w).alloc (Nat.le_refl _) _), row_new w _ 33 3 _ rfl (fun i hi => by match i, hi with | 0, _ => rfl | 1, _ => rfl | 2, _ => rfl),
    ⟨by have := h.sr.rr.s.lt; omega, by have := h.sr.rr.t.lt; omega, by have := h.mr.s.lt; omega, by have := h.mr.t.lt; omega⟩, h.sr.bel.size⟩
theorem Px.c0 (h : Px w0 w b g bm gm cap ra rb B bl ho k) : w.cell? ⟨B, 0, none⟩ = some (.bool bl) := row_val h.bx (by omega) rfl
theorem Px.c1 (h : Px w0 w b g bm gm cap ra rb B bl ho k) : w.cell? ⟨B, 1, none⟩ = some (.bool ho) := row_val h.bx (by omega) rfl
theorem Px.c2 (h : Px w0 w b g bm gm cap ra rb B bl ho k) : w.cell? ⟨B, 2, none⟩ = some (.int .i64 k) := row_val h.bx (by omega) rfl
theorem Px.fz (h : Px w0 w b g bm gm cap ra rb B bl ho k) (i : Nat) : w.frozen? ⟨B, i, none⟩ = false := World.rowIs.frozen h.bx i
theorem Px.below (h : Px w0 w b g bm gm cap ra rb B bl ho k) (f : Below w.heap.size w w1) : Px w0 w1 b g bm gm cap ra rb B bl ho k := { h with p := h.p.below f, bx := row_below h.bx f h.bx.lt }
theorem Px.put (h : Px w0 w b g bm gm cap ra rb B bl ho k) (k' : Int) : Px w0 (w.setCell ⟨B, 2, none⟩ (.int .i64 k')) b g bm gm cap ra rb B bl ho k' := by
  have f := fr_one w B 2 (.int .i64 k')
  refine ⟨⟨h.p.sr.frame f (Ne.symm h.nb.1) (Ne.symm h.nb.2.1) (fun k e => by rw [e]; exact h.lo), h.p.mr.frame f (Ne.symm h.nb.2.2.1) (Ne.symm h.nb.2.2.2), h.p.d, h.p.lb, h.p.lg⟩, (h.bx.set 2 _).congr (fun j hj => by match j, hj with | 0, _ => rfl | 1, _ => rfl | 2, _ => rfl), h.nb, h.lo⟩
theorem px_black1 (h : Px w0 w b g bm gm cap ra rb B bl ho k) (K e : Int) (he : black ra K = (e, ra')) : Calls Try.prog 12 #[.pointer (some ⟨b, 0, none⟩), .int .i64 K] w fun e' w' => e' = .returned (.int .i64 e) ∧ Px w0 w' b g bm gm cap ra' rb B bl ho k := by
  refine (sr_black h.p.sr K e ra' he).mono ?_
  rintro e' w' ⟨rfl, h', f⟩
  exact ⟨rfl, h.p.a h' f, row_fr h.bx f (fun x => by rcases x with e | e; exact h.nb.1 e; exact h.nb.2.1 e), h.nb, h.lo⟩
theorem px_black2 (h : Px w0 w b g bm gm cap ra rb B bl ho k) (K e : Int) (he : black rb K = (e, rb')) : Calls Try.prog 13 #[.pointer (some ⟨bm, 0, none⟩), .int .i64 K] w fun e' w' => e' = .returned (.int .i64 e) ∧ Px w0 w' b g bm gm cap ra rb' B bl ho k := by
  have hc := mblack_any h.p.mr K
  rw [he] at hc
  refine hc.mono ?_
  rintro e' w' ⟨rfl, h', f⟩
  exact ⟨rfl, h.p.rf h' f, row_fr h.bx f (fun x => by rcases x with e | e; exact h.nb.2.2.1 e; exact h.nb.2.2.2 e), h.nb, h.lo⟩
theorem px_pass1 (h : Px w0 w b g bm gm cap ra rb B bl ho k) (K : Int) (t : Bool) (e : Int) (he : pass ra K = ((t, e), ra')) : Calls Try.prog 14 #[.pointer (some ⟨b, 0, none⟩), .int .i64 K] w fun e' w' => e' = .returned (.tuple #[.bool t, .int .i64 e]) ∧ Px w0 w' b g bm gm cap ra' rb B bl ho k := by
  refine (sr_pass h.p.sr K t e ra' he).mono ?_
  rintro e' w' ⟨rfl, h', f⟩
  exact ⟨rfl, h.p.a h' f, row_fr h.bx f (fun x => by rcases x with e | e; exact h.nb.1 e; exact h.nb.2.1 e), h.nb, h.lo⟩
theorem px_pass2 (h : Px w0 w b g bm gm cap ra rb B bl ho k) (O : Ok rb) (K : Int) (t : Bool) (e : Int) (he : pass rb K = ((t, e), rb')) : Calls Try.prog 15 #[.pointer (some ⟨bm, 0, none⟩), .int .i64 K] w fun e' w' => e' = .returned (.tuple #[.bool t, .int .i64 e]) ∧ Px w0 w' b g bm gm cap ra rb' B bl ho k := by
  have hc := mpass_any h.p.mr O K
  rw [he] at hc
  refine hc.mono ?_
  rintro e' w' ⟨rfl, h', f⟩
  exact ⟨rfl, h.p.rf h' f, row_fr h.bx f (fun x => by rcases x with e | e; exact h.nb.2.2.1 e; exact h.nb.2.2.2 e), h.nb, h.lo⟩
end
theorem belD (w : World) : Below w.heap.size w w.drew := gb_below (gb_drew w none) (Nat.le_refl _) (fun k e => by cases e)
theorem belN (w : World) (n : Nat) : Below w.heap.size w (w.drewN n) := gb_below (gb_drewN w n none) (Nat.le_refl _) (fun k e => by cases e)
theorem zero33 (w : World) : (zeroValue 33).run Try.prog w = .ok (.agg #[.bool false, .bool false, .int .i64 0]) w := by kernel_rfl
set_option maxRecDepth 100000 in
set_option maxHeartbeats 8000000 in
theorem plays_any (n : Int) (a : Option Addr) (len cap0 : Nat) (bl ho : Nat → Bool) (ix : Nat → Int) (w : World) (hr : Ops w a len bl ho ix) (hlen : len ≤ 9223372036854775807) :
    Calls Try.prog 3 #[.int .i64 n, .slice a len cap0] w fun e w' => e = .returned (.bool true) ∧ Below w.heap.size w w' := by
  have hz33 := zero33
  go_enter Try.func3, Try.ntmps3
  go_wp2_with fail
  refine (lives_any _).mono ?_
  rintro e w1 ⟨rfl, g1⟩
  go_wp2_with fail
  refine (sr_new g1 n).mono ?_
  rintro e w2 ⟨b, g, rfl, h2, _, _, _⟩
  go_wp2_with fail
  refine (mnew_any n w2).mono ?_
  rintro e w3 ⟨bm, gm, cap, rfl, h3, gb3, lb3, lg3⟩
  have hb3 : Below w2.heap.size w2 w3 := gb_below gb3 (Nat.le_refl _) (fun k e => by cases e)
  have P0 : Ps w w3 b g bm gm cap (R0 (size n)) (R0 (size n)) := by
    have l1 := h2.rr.s.lt
    have l2 := h2.rr.t.lt
    have l3 := h2.bel.size
    exact ⟨h2.below hb3, h3, ⟨by omega, by omega, by omega, by omega⟩, by omega, by omega⟩
  clear h2 h3 gb3 lb3 lg3 hb3 g1
  have hn0 : (R0 (size n)).n = size n := rfl
  generalize R0 (size n) = r0 at *
  have mc0 := P0.mr.c0
  rw [hn0] at mc0
  have hsz := Lib.hid (fun (W1 : World) (e : W1.heap = w3.heap) => size_any (P0.sr.rr.same e))
  rw [hn0] at hsz
  generalize size n = N at *
  have HP0 := Lib.hid P0
  clear P0 hn0
  go_wp2_with fail
  go_quiet ((go_at_call 11; exact Calls.quiet_of_same (hsz.out _ (by rfl))))
  have P1 := HP0.out.below (belN w3 nq)
  clear mc0 hsz HP0
  go_wp2_with fail
  generalize w3.drewN nq = w4 at *
  go_loopw [7] (fun kv wr => ∃ (i : Nat) (r : R), i ≤ len ∧ kv = .int .i64 i ∧ Ps w wr b g bm gm cap r r) (fun kv wr => len - (intOf kv).toNat)
  case atStart => exact ⟨0, r0, Nat.zero_le _, rfl, P1⟩
  case round =>
    clear P1
    obtain ⟨i, r, hi, rfl, M⟩ := hrel
    by_cases hlt : i < len
    · obtain ⟨sb, so, rfl, hsb, k0, k1, k2⟩ := hr i hlt
      have c0 := (M.sr.bel.cell (p := ⟨sb, so + i * 3, none⟩) hsb).trans k0
      have c1 := (M.sr.bel.cell (p := ⟨sb, so + i * 3 + 1, none⟩) hsb).trans k1
      have c2 := (M.sr.bel.cell (p := ⟨sb, so + i * 3 + 2, none⟩) hsb).trans k2
      have hi3 : (i : Int) < (len : Int) := by omega
      have hi0 : (0 : Int) ≤ (i : Int) := by omega
      have HR := Lib.hid hr
      have HLT := Lib.hid (And.intro hlt hlen)
      have K0 := Px.new M (bl i) (ho i) (ix i)
      have mc2 := M.mr.c2
      have hBlt : wr.heap.size < (wr.alloc (.cells #[.bool (bl i), .bool (ho i), .int .i64 (ix i)] 33)).heap.size := by simp
      clear k0 k1 k2 hr hlt M
      generalize bl i = bli at *
      generalize ho i = hoi at *
      generalize ix i = x at *
      go_upto_if 38 with fail
      generalize wr.alloc (.cells #[.bool bli, .bool hoi, .int .i64 x] 33) = W0 at *
      generalize wr.heap.size = Bx at *
      clear c0 c1 c2
      have HW := Lib.hid mc2
      clear mc2
      go_cut [] (fun wx => ∃ k : Int, Px w wx b g bm gm cap r r Bx bli hoi k)
      case first =>
        have m2 := K0.p.mr.c2
        have d1 := K0.c1
        have d2 := K0.c2
        have z2 := K0.fz 2
        have hb2 := K0.p.mr.s.lt
        cases hoi
        · go_wp2
          go_meet
          exact ⟨x, K0⟩
        · have HK := Lib.hid K0
          clear K0
          go_wp2
          go_meet
          exact ⟨_, HK.out.put _⟩
      case rest =>
        obtain ⟨k, K1⟩ := hcut
        have d0 := K1.c0
        have d2 := K1.c2
        clear K0
        go_upto_if 45 with fail
        go_cut [] (fun wx => ∃ (r1 : R), Ps w wx b g bm gm cap r1 r1)
        case first =>
          cases bli
          · obtain ⟨t, e1, r1, hs⟩ : ∃ t e1 r1, pass r k = ((t, e1), r1) := ⟨_, _, _, rfl⟩
            have HS := Lib.hid hs
            have HO := Lib.hid K1.p.sr.ok
            clear hs
            go_wp2_with fail
            refine (px_pass1 K1 k t e1 HS.out).mono ?_
            rintro e W1 ⟨rfl, K2⟩
            have y2 := K2.c2
            clear K1
            go_wp2_with fail
            refine (px_pass2 K2 HO.out k t e1 HS.out).mono ?_
            rintro e W2 ⟨rfl, K3⟩
            have HK3 := Lib.hid K3
            clear K3 K2
            go_wp2
            go_meet
            exact ⟨r1, HK3.out.p⟩
          · obtain ⟨e1, r1, hs⟩ : ∃ e1 r1, black r k = (e1, r1) := ⟨_, _, rfl⟩
            have HS := Lib.hid hs
            have HP := Lib.hid (fun (W1 : World) (hb : Below wc.heap.size wc W1) => px_black1 (K1.below hb) k e1 HS.out)
            have HM := Lib.hid (fun (W1 : World) (hm : Px w W1 b g bm gm cap r1 r Bx true hoi k) => px_black2 hm k e1 HS.out)
            clear hs K1
            go_wp2
            go_region_held3 (fun w' => w'.cell? ⟨Bx, 2, none⟩ = some (.int .i64 k)) (first | exact d2 | exact y2 | exact y3) (first | (go_at_call 12; refine (HP.out _ (belD _)).mono ?_; rintro e W1 ⟨rfl, K1⟩; have y2 := K1.c2; have HK1 := Lib.hid K1; clear K1) | (go_at_call 13; refine (HM.out _ HK1.out).mono ?_; rintro e W2 ⟨rfl, K2⟩; have y3 := K2.c2; have HK2 := Lib.hid K2; clear K2))
            all_goals go_wp2
            all_goals go_meet
            all_goals exact ⟨r1, HK2.out.p⟩
        case rest =>
          obtain ⟨r1, M1⟩ := hcut
          have m2 := M1.mr.c2
          clear d0 d2 K1
          have hhold := Lib.hid (fun (W1 : World) (e : W1.heap = wc.heap) => holder_any (M1.sr.rr.same e))
          have HM1 := Lib.hid M1
          clear M1
          generalize (r1.h : Int) = hh at *
          go_wp2_with fail
          go_quiet ((go_at_call 16; exact Calls.quiet_of_same (hhold.out _ (by rfl))))
          go_wp2
          have hl := HLT.out
          have hwi : wrap64 ((i : Int) + 1) = (i : Int) + 1 := by unfold wrap64; omega
          go_roundw
          case rel => exact ⟨i + 1, r1, hl.1, by first | rfl | (rw [hwi]; rfl), HM1.out.below (belN _ _)⟩
          case measure => first | exact meas len i hl.1 | (rw [hwi]; exact meas len i hl.1)
    · obtain rfl : i = len := Nat.le_antisymm hi (Nat.le_of_not_lt hlt)
      have HB := Lib.hid M.sr.bel
      clear M hr hlt
      go_wp2
      go_ret
      exact ⟨rfl, HB.out⟩
end Go.Proofs.Ytmagenfndbaliaa
