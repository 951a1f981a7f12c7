/- The ring of workers: Pass. -/
import Derived.Test.YtmagenfndbaliaaP4
namespace Go.Proofs.Ytmagenfndbaliaa
open Go.RowKit
set_option linter.unusedVariables false
set_option linter.unusedSimpArgs false
def nxt (r : R) (tk : Bool) (h : Nat) (rd : Bool) : R := { n := r.n, bl := fun j => if j = r.h then false else r.bl j, tk := tk, h := h, rd := rd }
theorem go_p (r : R) (h0 : r.h ≠ 0) : r.go = nxt r (r.tk || r.bl r.h) (if r.h + 1 = r.n then 0 else r.h + 1) r.rd := by
  unfold R.go nxt
  rw [if_neg h0]
  simp [h0]
theorem go_z (r : R) (h0 : r.h = 0) : r.go = nxt r false (if r.h + 1 = r.n then 0 else r.h + 1) true := by
  unfold R.go nxt
  rw [if_pos h0]
  simp [h0]
section
variable {w w1 : World} {b g : Nat} {r : R}
set_option maxRecDepth 100000 in
set_option maxHeartbeats 4000000 in
theorem pass_pa (h : Rr w b g r) (O : Ok r) (h0 : r.h ≠ 0) (e1 : r.h + 1 = r.n) : Calls Try.prog 14 #[.pointer (some ⟨b, 0, none⟩), .int .i64 r.h] w fun e w' => e = .returned (.tuple #[.bool false, .int .i64 0]) ∧ Rr w' b g (nxt r (r.tk || r.bl r.h) 0 r.rd) ∧ Fr w w' (S2 b g) := by
  have hm := may_any h r.h
  have hh := O.h
  rw [if_neg (by omega)] at hm
  have n64 := O.n2
  have c0 := h.c0
  have c1 := h.c1
  have c2 := h.c2
  have c3 := h.c3
  have ct := h.ct r.h hh
  have f1 := h.fb 1
  have f2 := h.fb 2
  have f3 := h.fb 3
  have ft := h.fg r.h
  have hne := h.ne
  have hhn : (r.h : Int) < r.n := by omega
  have hh0 : (0 : Int) ≤ r.h := by omega
  have hw : IntKind.i64.wrap ((r.h : Int) + 1) = (r.h : Int) + 1 := by rw [IntKind.wrap_i64]; omega
  have hpos : (0 : Int) < r.h := by omega
  have hb : ((r.h : Int) + 1 == r.n) = true := by simp; omega
  have HH := Lib.hid h
  clear h O h0 e1
  unfold nxt
  generalize hT : r.tk = tk at *
  generalize hB : r.bl r.h = bh at *
  generalize hH : r.h = H at *
  generalize hN : r.n = N at *
  have HE := Lib.hid (And.intro hH hN)
  clear hT hB hH hN
  cases tk <;> cases bh <;> unfold col at c1 ct <;> simp only [if_true, if_false, Bool.false_eq_true] at c1 ct
  · go_enter Try.func14, Try.ntmps14
    go_wp2_with fail
    refine hm.mono ?_
    rintro e w' ⟨rfl, rfl⟩
    go_wp2
    go_region
    go_wp2
    go_quiet (fail)
    go_wp2
    go_ret2
    refine ⟨rfl, ?_, ((((fr_set _ _ b 1 _ (.inl rfl)).trans' (fr_set _ _ g H _ (.inr rfl))).trans' (fr_set _ _ b 2 _ (.inl rfl))).trans' (fr_drewN _ _ _)).trans' (fr_set _ _ b 2 _ (.inl rfl))⟩
    obtain ⟨eH, eN⟩ := HE.out
    subst eH eN
    exact (Rr.same (((HH.out.setTk false).setBl r.h false).setH (r.h + 1)) (by rfl)).setH 0
  · go_enter Try.func14, Try.ntmps14
    go_wp2_with fail
    refine hm.mono ?_
    rintro e w' ⟨rfl, rfl⟩
    go_wp2
    go_region
    go_wp2
    go_quiet (fail)
    go_wp2
    go_ret2
    refine ⟨rfl, ?_, ((((fr_set _ _ b 1 _ (.inl rfl)).trans' (fr_set _ _ g H _ (.inr rfl))).trans' (fr_set _ _ b 2 _ (.inl rfl))).trans' (fr_drewN _ _ _)).trans' (fr_set _ _ b 2 _ (.inl rfl))⟩
    obtain ⟨eH, eN⟩ := HE.out
    subst eH eN
    exact (Rr.same (((HH.out.setTk true).setBl r.h false).setH (r.h + 1)) (by rfl)).setH 0
  · go_enter Try.func14, Try.ntmps14
    go_wp2_with fail
    refine hm.mono ?_
    rintro e w' ⟨rfl, rfl⟩
    go_wp2
    go_region
    go_wp2
    go_quiet (fail)
    go_wp2
    go_ret2
    refine ⟨rfl, ?_, ((((fr_set _ _ b 1 _ (.inl rfl)).trans' (fr_set _ _ g H _ (.inr rfl))).trans' (fr_set _ _ b 2 _ (.inl rfl))).trans' (fr_drewN _ _ _)).trans' (fr_set _ _ b 2 _ (.inl rfl))⟩
    obtain ⟨eH, eN⟩ := HE.out
    subst eH eN
    exact (Rr.same (((HH.out.setTk true).setBl r.h false).setH (r.h + 1)) (by rfl)).setH 0
  · go_enter Try.func14, Try.ntmps14
    go_wp2_with fail
    refine hm.mono ?_
    rintro e w' ⟨rfl, rfl⟩
    go_wp2
    go_region
    go_wp2
    go_quiet (fail)
    go_wp2
    go_ret2
    refine ⟨rfl, ?_, ((((fr_set _ _ b 1 _ (.inl rfl)).trans' (fr_set _ _ g H _ (.inr rfl))).trans' (fr_set _ _ b 2 _ (.inl rfl))).trans' (fr_drewN _ _ _)).trans' (fr_set _ _ b 2 _ (.inl rfl))⟩
    obtain ⟨eH, eN⟩ := HE.out
    subst eH eN
    exact (Rr.same (((HH.out.setTk true).setBl r.h false).setH (r.h + 1)) (by rfl)).setH 0
set_option maxRecDepth 100000 in
set_option maxHeartbeats 4000000 in
theorem pass_pb (h : Rr w b g r) (O : Ok r) (h0 : r.h ≠ 0) (e1 : r.h + 1 ≠ r.n) : Calls Try.prog 14 #[.pointer (some ⟨b, 0, none⟩), .int .i64 r.h] w fun e w' => e = .returned (.tuple #[.bool false, .int .i64 0]) ∧ Rr w' b g (nxt r (r.tk || r.bl r.h) (r.h + 1) r.rd) ∧ Fr w w' (S2 b g) := by
  have hm := may_any h r.h
  have hh := O.h
  rw [if_neg (by omega)] at hm
  have n64 := O.n2
  have c0 := h.c0
  have c1 := h.c1
  have c2 := h.c2
  have c3 := h.c3
  have ct := h.ct r.h hh
  have f1 := h.fb 1
  have f2 := h.fb 2
  have f3 := h.fb 3
  have ft := h.fg r.h
  have hne := h.ne
  have hhn : (r.h : Int) < r.n := by omega
  have hh0 : (0 : Int) ≤ r.h := by omega
  have hw : IntKind.i64.wrap ((r.h : Int) + 1) = (r.h : Int) + 1 := by rw [IntKind.wrap_i64]; omega
  have hpos : (0 : Int) < r.h := by omega
  have hb : ((r.h : Int) + 1 == r.n) = false := by simp; omega
  have HH := Lib.hid h
  clear h O h0 e1
  unfold nxt
  generalize hT : r.tk = tk at *
  generalize hB : r.bl r.h = bh at *
  generalize hH : r.h = H at *
  generalize hN : r.n = N at *
  have HE := Lib.hid (And.intro hH hN)
  clear hT hB hH hN
  cases tk <;> cases bh <;> unfold col at c1 ct <;> simp only [if_true, if_false, Bool.false_eq_true] at c1 ct
  · go_enter Try.func14, Try.ntmps14
    go_wp2_with fail
    refine hm.mono ?_
    rintro e w' ⟨rfl, rfl⟩
    go_wp2
    go_region
    go_wp2
    go_quiet (fail)
    go_wp2
    go_ret2
    refine ⟨rfl, ?_, (((fr_set _ _ b 1 _ (.inl rfl)).trans' (fr_set _ _ g H _ (.inr rfl))).trans' (fr_set _ _ b 2 _ (.inl rfl))).trans' (fr_drewN _ _ _)⟩
    obtain ⟨eH, eN⟩ := HE.out
    subst eH eN
    exact Rr.same (((HH.out.setTk false).setBl r.h false).setH (r.h + 1)) (by rfl)
  · go_enter Try.func14, Try.ntmps14
    go_wp2_with fail
    refine hm.mono ?_
    rintro e w' ⟨rfl, rfl⟩
    go_wp2
    go_region
    go_wp2
    go_quiet (fail)
    go_wp2
    go_ret2
    refine ⟨rfl, ?_, (((fr_set _ _ b 1 _ (.inl rfl)).trans' (fr_set _ _ g H _ (.inr rfl))).trans' (fr_set _ _ b 2 _ (.inl rfl))).trans' (fr_drewN _ _ _)⟩
    obtain ⟨eH, eN⟩ := HE.out
    subst eH eN
    exact Rr.same (((HH.out.setTk true).setBl r.h false).setH (r.h + 1)) (by rfl)
  · go_enter Try.func14, Try.ntmps14
    go_wp2_with fail
    refine hm.mono ?_
    rintro e w' ⟨rfl, rfl⟩
    go_wp2
    go_region
    go_wp2
    go_quiet (fail)
    go_wp2
    go_ret2
    refine ⟨rfl, ?_, (((fr_set _ _ b 1 _ (.inl rfl)).trans' (fr_set _ _ g H _ (.inr rfl))).trans' (fr_set _ _ b 2 _ (.inl rfl))).trans' (fr_drewN _ _ _)⟩
    obtain ⟨eH, eN⟩ := HE.out
    subst eH eN
    exact Rr.same (((HH.out.setTk true).setBl r.h false).setH (r.h + 1)) (by rfl)
  · go_enter Try.func14, Try.ntmps14
    go_wp2_with fail
    refine hm.mono ?_
    rintro e w' ⟨rfl, rfl⟩
    go_wp2
    go_region
    go_wp2
    go_quiet (fail)
    go_wp2
    go_ret2
    refine ⟨rfl, ?_, (((fr_set _ _ b 1 _ (.inl rfl)).trans' (fr_set _ _ g H _ (.inr rfl))).trans' (fr_set _ _ b 2 _ (.inl rfl))).trans' (fr_drewN _ _ _)⟩
    obtain ⟨eH, eN⟩ := HE.out
    subst eH eN
    exact Rr.same (((HH.out.setTk true).setBl r.h false).setH (r.h + 1)) (by rfl)
set_option maxRecDepth 100000 in
set_option maxHeartbeats 4000000 in
theorem pass_za (h : Rr w b g r) (O : Ok r) (h0 : r.h = 0) (e1 : 1 = r.n) : Calls Try.prog 14 #[.pointer (some ⟨b, 0, none⟩), .int .i64 0] w fun e w' => e = .returned (.tuple #[.bool (r.rd && !r.tk && !r.bl 0), .int .i64 0]) ∧ Rr w' b g (nxt r false 0 true) ∧ Fr w w' (S2 b g) := by
  have hm := may_any h 0
  have hh := O.h
  have hn1 := O.n1
  rw [if_neg (by omega)] at hm
  have n64 := O.n2
  have c0 := h.c0
  have c1 := h.c1
  have c2 := h.c2
  rw [h0] at c2
  have c3 := h.c3
  have ct := h.ct 0 (by omega)
  have f1 := h.fb 1
  have f2 := h.fb 2
  have f3 := h.fb 3
  have ft := h.fg 0
  have hne := h.ne
  have hhn : (0 : Int) < r.n := by omega
  have hb : ((1 : Int) == r.n) = true := by simp; omega
  have HH := Lib.hid h
  have H0 := Lib.hid h0
  clear h O h0 e1 hh
  unfold nxt
  generalize hT : r.tk = tk at *
  generalize hB : r.bl 0 = bh at *
  generalize hN : r.n = N at *
  generalize hR : r.rd = rd at *
  have HE := Lib.hid hN
  clear hT hB hN hR
  cases tk <;> cases bh <;> cases rd <;> unfold col at c1 ct c3 <;> simp only [if_true, if_false, Bool.false_eq_true] at c1 ct c3
  · go_enter Try.func14, Try.ntmps14
    go_wp2_with fail
    refine hm.mono ?_
    rintro e w' ⟨rfl, rfl⟩
    go_wp2
    go_region
    go_wp2
    go_quiet (fail)
    go_wp2
    go_ret2
    refine ⟨rfl, ?_, ((((((fr_set _ _ b 1 _ (.inl rfl)).trans' (fr_set _ _ g 0 _ (.inr rfl))).trans' (fr_set _ _ b 2 _ (.inl rfl))).trans' (fr_drewN _ _ _)).trans' (fr_set _ _ b 2 _ (.inl rfl))).trans' (fr_set _ _ b 3 _ (.inl rfl))).trans' (fr_set _ _ b 1 _ (.inl rfl))⟩
    have eN := HE.out
    have e0 := H0.out
    subst eN
    rw [e0]
    exact (((Rr.same (((HH.out.setTk false).setBl 0 false).setH 1) (by rfl)).setH 0).setRd true).setTk false
  · go_enter Try.func14, Try.ntmps14
    go_wp2_with fail
    refine hm.mono ?_
    rintro e w' ⟨rfl, rfl⟩
    go_wp2
    go_region
    go_wp2
    go_quiet (fail)
    go_wp2
    go_ret2
    refine ⟨rfl, ?_, ((((((fr_set _ _ b 1 _ (.inl rfl)).trans' (fr_set _ _ g 0 _ (.inr rfl))).trans' (fr_set _ _ b 2 _ (.inl rfl))).trans' (fr_drewN _ _ _)).trans' (fr_set _ _ b 2 _ (.inl rfl))).trans' (fr_set _ _ b 3 _ (.inl rfl))).trans' (fr_set _ _ b 1 _ (.inl rfl))⟩
    have eN := HE.out
    have e0 := H0.out
    subst eN
    rw [e0]
    exact (((Rr.same (((HH.out.setTk false).setBl 0 false).setH 1) (by rfl)).setH 0).setRd true).setTk false
  · go_enter Try.func14, Try.ntmps14
    go_wp2_with fail
    refine hm.mono ?_
    rintro e w' ⟨rfl, rfl⟩
    go_wp2
    go_region
    go_wp2
    go_quiet (fail)
    go_wp2
    go_ret2
    refine ⟨rfl, ?_, ((((((fr_set _ _ b 1 _ (.inl rfl)).trans' (fr_set _ _ g 0 _ (.inr rfl))).trans' (fr_set _ _ b 2 _ (.inl rfl))).trans' (fr_drewN _ _ _)).trans' (fr_set _ _ b 2 _ (.inl rfl))).trans' (fr_set _ _ b 3 _ (.inl rfl))).trans' (fr_set _ _ b 1 _ (.inl rfl))⟩
    have eN := HE.out
    have e0 := H0.out
    subst eN
    rw [e0]
    exact (((Rr.same (((HH.out.setTk true).setBl 0 false).setH 1) (by rfl)).setH 0).setRd true).setTk false
  · go_enter Try.func14, Try.ntmps14
    go_wp2_with fail
    refine hm.mono ?_
    rintro e w' ⟨rfl, rfl⟩
    go_wp2
    go_region
    go_wp2
    go_quiet (fail)
    go_wp2
    go_ret2
    refine ⟨rfl, ?_, ((((((fr_set _ _ b 1 _ (.inl rfl)).trans' (fr_set _ _ g 0 _ (.inr rfl))).trans' (fr_set _ _ b 2 _ (.inl rfl))).trans' (fr_drewN _ _ _)).trans' (fr_set _ _ b 2 _ (.inl rfl))).trans' (fr_set _ _ b 3 _ (.inl rfl))).trans' (fr_set _ _ b 1 _ (.inl rfl))⟩
    have eN := HE.out
    have e0 := H0.out
    subst eN
    rw [e0]
    exact (((Rr.same (((HH.out.setTk true).setBl 0 false).setH 1) (by rfl)).setH 0).setRd true).setTk false
  · go_enter Try.func14, Try.ntmps14
    go_wp2_with fail
    refine hm.mono ?_
    rintro e w' ⟨rfl, rfl⟩
    go_wp2
    go_region
    go_wp2
    go_quiet (fail)
    go_wp2
    go_ret2
    refine ⟨rfl, ?_, ((((((fr_set _ _ b 1 _ (.inl rfl)).trans' (fr_set _ _ g 0 _ (.inr rfl))).trans' (fr_set _ _ b 2 _ (.inl rfl))).trans' (fr_drewN _ _ _)).trans' (fr_set _ _ b 2 _ (.inl rfl))).trans' (fr_set _ _ b 3 _ (.inl rfl))).trans' (fr_set _ _ b 1 _ (.inl rfl))⟩
    have eN := HE.out
    have e0 := H0.out
    subst eN
    rw [e0]
    exact (((Rr.same (((HH.out.setTk true).setBl 0 false).setH 1) (by rfl)).setH 0).setRd true).setTk false
  · go_enter Try.func14, Try.ntmps14
    go_wp2_with fail
    refine hm.mono ?_
    rintro e w' ⟨rfl, rfl⟩
    go_wp2
    go_region
    go_wp2
    go_quiet (fail)
    go_wp2
    go_ret2
    refine ⟨rfl, ?_, ((((((fr_set _ _ b 1 _ (.inl rfl)).trans' (fr_set _ _ g 0 _ (.inr rfl))).trans' (fr_set _ _ b 2 _ (.inl rfl))).trans' (fr_drewN _ _ _)).trans' (fr_set _ _ b 2 _ (.inl rfl))).trans' (fr_set _ _ b 3 _ (.inl rfl))).trans' (fr_set _ _ b 1 _ (.inl rfl))⟩
    have eN := HE.out
    have e0 := H0.out
    subst eN
    rw [e0]
    exact (((Rr.same (((HH.out.setTk true).setBl 0 false).setH 1) (by rfl)).setH 0).setRd true).setTk false
  · go_enter Try.func14, Try.ntmps14
    go_wp2_with fail
    refine hm.mono ?_
    rintro e w' ⟨rfl, rfl⟩
    go_wp2
    go_region
    go_wp2
    go_quiet (fail)
    go_wp2
    go_ret2
    refine ⟨rfl, ?_, ((((((fr_set _ _ b 1 _ (.inl rfl)).trans' (fr_set _ _ g 0 _ (.inr rfl))).trans' (fr_set _ _ b 2 _ (.inl rfl))).trans' (fr_drewN _ _ _)).trans' (fr_set _ _ b 2 _ (.inl rfl))).trans' (fr_set _ _ b 3 _ (.inl rfl))).trans' (fr_set _ _ b 1 _ (.inl rfl))⟩
    have eN := HE.out
    have e0 := H0.out
    subst eN
    rw [e0]
    exact (((Rr.same (((HH.out.setTk true).setBl 0 false).setH 1) (by rfl)).setH 0).setRd true).setTk false
  · go_enter Try.func14, Try.ntmps14
    go_wp2_with fail
    refine hm.mono ?_
    rintro e w' ⟨rfl, rfl⟩
    go_wp2
    go_region
    go_wp2
    go_quiet (fail)
    go_wp2
    go_ret2
    refine ⟨rfl, ?_, ((((((fr_set _ _ b 1 _ (.inl rfl)).trans' (fr_set _ _ g 0 _ (.inr rfl))).trans' (fr_set _ _ b 2 _ (.inl rfl))).trans' (fr_drewN _ _ _)).trans' (fr_set _ _ b 2 _ (.inl rfl))).trans' (fr_set _ _ b 3 _ (.inl rfl))).trans' (fr_set _ _ b 1 _ (.inl rfl))⟩
    have eN := HE.out
    have e0 := H0.out
    subst eN
    rw [e0]
    exact (((Rr.same (((HH.out.setTk true).setBl 0 false).setH 1) (by rfl)).setH 0).setRd true).setTk false
set_option maxRecDepth 100000 in
set_option maxHeartbeats 4000000 in
theorem pass_zb (h : Rr w b g r) (O : Ok r) (h0 : r.h = 0) (e1 : 1 ≠ r.n) : Calls Try.prog 14 #[.pointer (some ⟨b, 0, none⟩), .int .i64 0] w fun e w' => e = .returned (.tuple #[.bool (r.rd && !r.tk && !r.bl 0), .int .i64 0]) ∧ Rr w' b g (nxt r false 1 true) ∧ Fr w w' (S2 b g) := by
  have hm := may_any h 0
  have hh := O.h
  have hn1 := O.n1
  rw [if_neg (by omega)] at hm
  have n64 := O.n2
  have c0 := h.c0
  have c1 := h.c1
  have c2 := h.c2
  rw [h0] at c2
  have c3 := h.c3
  have ct := h.ct 0 (by omega)
  have f1 := h.fb 1
  have f2 := h.fb 2
  have f3 := h.fb 3
  have ft := h.fg 0
  have hne := h.ne
  have hhn : (0 : Int) < r.n := by omega
  have hb : ((1 : Int) == r.n) = false := by simp; omega
  have HH := Lib.hid h
  have H0 := Lib.hid h0
  clear h O h0 e1 hh
  unfold nxt
  generalize hT : r.tk = tk at *
  generalize hB : r.bl 0 = bh at *
  generalize hN : r.n = N at *
  generalize hR : r.rd = rd at *
  have HE := Lib.hid hN
  clear hT hB hN hR
  cases tk <;> cases bh <;> cases rd <;> unfold col at c1 ct c3 <;> simp only [if_true, if_false, Bool.false_eq_true] at c1 ct c3
  · go_enter Try.func14, Try.ntmps14
    go_wp2_with fail
    refine hm.mono ?_
    rintro e w' ⟨rfl, rfl⟩
    go_wp2
    go_region
    go_wp2
    go_quiet (fail)
    go_wp2
    go_ret2
    refine ⟨rfl, ?_, (((((fr_set _ _ b 1 _ (.inl rfl)).trans' (fr_set _ _ g 0 _ (.inr rfl))).trans' (fr_set _ _ b 2 _ (.inl rfl))).trans' (fr_drewN _ _ _)).trans' (fr_set _ _ b 3 _ (.inl rfl))).trans' (fr_set _ _ b 1 _ (.inl rfl))⟩
    have eN := HE.out
    have e0 := H0.out
    subst eN
    rw [e0]
    exact ((Rr.same (((HH.out.setTk false).setBl 0 false).setH 1) (by rfl)).setRd true).setTk false
  · go_enter Try.func14, Try.ntmps14
    go_wp2_with fail
    refine hm.mono ?_
    rintro e w' ⟨rfl, rfl⟩
    go_wp2
    go_region
    go_wp2
    go_quiet (fail)
    go_wp2
    go_ret2
    refine ⟨rfl, ?_, (((((fr_set _ _ b 1 _ (.inl rfl)).trans' (fr_set _ _ g 0 _ (.inr rfl))).trans' (fr_set _ _ b 2 _ (.inl rfl))).trans' (fr_drewN _ _ _)).trans' (fr_set _ _ b 3 _ (.inl rfl))).trans' (fr_set _ _ b 1 _ (.inl rfl))⟩
    have eN := HE.out
    have e0 := H0.out
    subst eN
    rw [e0]
    exact ((Rr.same (((HH.out.setTk false).setBl 0 false).setH 1) (by rfl)).setRd true).setTk false
  · go_enter Try.func14, Try.ntmps14
    go_wp2_with fail
    refine hm.mono ?_
    rintro e w' ⟨rfl, rfl⟩
    go_wp2
    go_region
    go_wp2
    go_quiet (fail)
    go_wp2
    go_ret2
    refine ⟨rfl, ?_, (((((fr_set _ _ b 1 _ (.inl rfl)).trans' (fr_set _ _ g 0 _ (.inr rfl))).trans' (fr_set _ _ b 2 _ (.inl rfl))).trans' (fr_drewN _ _ _)).trans' (fr_set _ _ b 3 _ (.inl rfl))).trans' (fr_set _ _ b 1 _ (.inl rfl))⟩
    have eN := HE.out
    have e0 := H0.out
    subst eN
    rw [e0]
    exact ((Rr.same (((HH.out.setTk true).setBl 0 false).setH 1) (by rfl)).setRd true).setTk false
  · go_enter Try.func14, Try.ntmps14
    go_wp2_with fail
    refine hm.mono ?_
    rintro e w' ⟨rfl, rfl⟩
    go_wp2
    go_region
    go_wp2
    go_quiet (fail)
    go_wp2
    go_ret2
    refine ⟨rfl, ?_, (((((fr_set _ _ b 1 _ (.inl rfl)).trans' (fr_set _ _ g 0 _ (.inr rfl))).trans' (fr_set _ _ b 2 _ (.inl rfl))).trans' (fr_drewN _ _ _)).trans' (fr_set _ _ b 3 _ (.inl rfl))).trans' (fr_set _ _ b 1 _ (.inl rfl))⟩
    have eN := HE.out
    have e0 := H0.out
    subst eN
    rw [e0]
    exact ((Rr.same (((HH.out.setTk true).setBl 0 false).setH 1) (by rfl)).setRd true).setTk false
  · go_enter Try.func14, Try.ntmps14
    go_wp2_with fail
    refine hm.mono ?_
    rintro e w' ⟨rfl, rfl⟩
    go_wp2
    go_region
    go_wp2
    go_quiet (fail)
    go_wp2
    go_ret2
    refine ⟨rfl, ?_, (((((fr_set _ _ b 1 _ (.inl rfl)).trans' (fr_set _ _ g 0 _ (.inr rfl))).trans' (fr_set _ _ b 2 _ (.inl rfl))).trans' (fr_drewN _ _ _)).trans' (fr_set _ _ b 3 _ (.inl rfl))).trans' (fr_set _ _ b 1 _ (.inl rfl))⟩
    have eN := HE.out
    have e0 := H0.out
    subst eN
    rw [e0]
    exact ((Rr.same (((HH.out.setTk true).setBl 0 false).setH 1) (by rfl)).setRd true).setTk false
  · go_enter Try.func14, Try.ntmps14
    go_wp2_with fail
    refine hm.mono ?_
    rintro e w' ⟨rfl, rfl⟩
    go_wp2
    go_region
    go_wp2
    go_quiet (fail)
    go_wp2
    go_ret2
    refine ⟨rfl, ?_, (((((fr_set _ _ b 1 _ (.inl rfl)).trans' (fr_set _ _ g 0 _ (.inr rfl))).trans' (fr_set _ _ b 2 _ (.inl rfl))).trans' (fr_drewN _ _ _)).trans' (fr_set _ _ b 3 _ (.inl rfl))).trans' (fr_set _ _ b 1 _ (.inl rfl))⟩
    have eN := HE.out
    have e0 := H0.out
    subst eN
    rw [e0]
    exact ((Rr.same (((HH.out.setTk true).setBl 0 false).setH 1) (by rfl)).setRd true).setTk false
  · go_enter Try.func14, Try.ntmps14
    go_wp2_with fail
    refine hm.mono ?_
    rintro e w' ⟨rfl, rfl⟩
    go_wp2
    go_region
    go_wp2
    go_quiet (fail)
    go_wp2
    go_ret2
    refine ⟨rfl, ?_, (((((fr_set _ _ b 1 _ (.inl rfl)).trans' (fr_set _ _ g 0 _ (.inr rfl))).trans' (fr_set _ _ b 2 _ (.inl rfl))).trans' (fr_drewN _ _ _)).trans' (fr_set _ _ b 3 _ (.inl rfl))).trans' (fr_set _ _ b 1 _ (.inl rfl))⟩
    have eN := HE.out
    have e0 := H0.out
    subst eN
    rw [e0]
    exact ((Rr.same (((HH.out.setTk true).setBl 0 false).setH 1) (by rfl)).setRd true).setTk false
  · go_enter Try.func14, Try.ntmps14
    go_wp2_with fail
    refine hm.mono ?_
    rintro e w' ⟨rfl, rfl⟩
    go_wp2
    go_region
    go_wp2
    go_quiet (fail)
    go_wp2
    go_ret2
    refine ⟨rfl, ?_, (((((fr_set _ _ b 1 _ (.inl rfl)).trans' (fr_set _ _ g 0 _ (.inr rfl))).trans' (fr_set _ _ b 2 _ (.inl rfl))).trans' (fr_drewN _ _ _)).trans' (fr_set _ _ b 3 _ (.inl rfl))).trans' (fr_set _ _ b 1 _ (.inl rfl))⟩
    have eN := HE.out
    have e0 := H0.out
    subst eN
    rw [e0]
    exact ((Rr.same (((HH.out.setTk true).setBl 0 false).setH 1) (by rfl)).setRd true).setTk false
theorem pass_at (h : Rr w b g r) (O : Ok r) : Calls Try.prog 14 #[.pointer (some ⟨b, 0, none⟩), .int .i64 r.h] w fun e w' => e = .returned (.tuple #[.bool r.tells, .int .i64 0]) ∧ Rr w' b g r.go ∧ Fr w w' (S2 b g) := by
  by_cases h0 : r.h = 0
  · have ht : r.tells = (r.rd && !r.tk && !r.bl 0) := by unfold R.tells; simp [h0]
    rw [ht, go_z r h0, h0]
    by_cases e1 : 0 + 1 = r.n
    · rw [if_pos e1]; exact pass_za h O h0 e1
    · rw [if_neg e1]; exact pass_zb h O h0 e1
  · have ht : r.tells = false := by unfold R.tells; simp [h0]
    rw [ht, go_p r h0]
    by_cases e1 : r.h + 1 = r.n
    · rw [if_pos e1]; exact pass_pa h O h0 e1
    · rw [if_neg e1]; exact pass_pb h O h0 e1
theorem pass_any (h : Rr w b g r) (O : Ok r) (i : Int) : Calls Try.prog 14 #[.pointer (some ⟨b, 0, none⟩), .int .i64 i] w fun e w' => e = .returned (.tuple #[.bool (pass r i).1.1, .int .i64 (pass r i).1.2]) ∧ Rr w' b g (pass r i).2 ∧ Fr w w' (S2 b g) := by
  have hm := may_any h i
  by_cases h1 : i < 0 ∨ (r.n : Int) ≤ i
  · have e : pass r i = ((false, 6), r) := by unfold pass; rw [if_pos h1]
    rw [e]
    rw [if_pos h1] at hm
    have H := Lib.hid h
    clear h e h1
    go_enter Try.func14, Try.ntmps14
    go_wp2_with fail
    refine hm.mono ?_
    rintro e w' ⟨rfl, rfl⟩
    go_wp2
    go_ret2
    exact ⟨rfl, H.out, Fr.refl _ _⟩
  · by_cases h2 : i = r.h
    · rw [h2, pass_go O]; exact pass_at h O
    · have e : pass r i = ((false, 13), r) := by unfold pass; rw [if_neg h1, if_pos h2]
      rw [e]
      rw [if_neg h1] at hm
      have c2 := h.c2
      have hb : (i == r.h) = false := by simp; exact h2
      have H := Lib.hid h
      clear h e h1 O
      generalize (r.h : Int) = hh at *
      go_enter Try.func14, Try.ntmps14
      go_wp2_with fail
      refine hm.mono ?_
      rintro e w' ⟨rfl, rfl⟩
      go_wp2
      go_ret2
      exact ⟨rfl, H.out, Fr.refl _ _⟩
end
end Go.Proofs.Ytmagenfndbaliaa
