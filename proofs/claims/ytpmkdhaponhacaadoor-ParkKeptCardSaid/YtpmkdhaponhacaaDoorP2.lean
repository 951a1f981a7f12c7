/- The lot's accesses. -/
import Derived.Test.YtpmkdhaponhacaaDoorP1
import Derived.Deep.QuietTactic
namespace Go.Proofs.YtpmkdhaponhacaaDoor
open Go.RowKit
set_option linter.unusedVariables false
set_option linter.unusedSimpArgs false
structure A where
  q : Q
  nx : Nx
  what : Int
  who : Nat
/-- what an access comes to -/
def act (q : Q) (k : Nat) (x : T) : Nx → A
  | .no => ⟨q, .no, 0, 0⟩
  | .a25 => ⟨q.setW (wrap64 (q.work + 1)), .a29, -1, 0⟩
  | .a29 => ⟨q.setS (wrap64 (q.seq + 1)), .a33, -1, 0⟩
  | .a33 => if q.idle = 0 then ⟨q, .no, 0, 0⟩ else ⟨q.setT k (x.setK (Lib.ctz 64 q.idle)), .a37, -1, 0⟩
  | .a37 => if q.idle.testBit x.who = true then ⟨(q.setI (clr q.idle x.who)).setT x.who ((q.th x.who).setP false), .no, 1, x.who⟩ else ⟨q, .a33, -1, 0⟩
  | .a26 => ⟨q.setT k (x.setS q.seq), .a30, -1, 0⟩
  | .a30 => if 0 < q.work then ⟨q.setT k (x.setW q.work), .a34, -1, 0⟩ else ⟨q.setT k (x.setW q.work), .a35, -1, 0⟩
  | .a34 => if q.work = x.work then ⟨q.setW (wrap64 (q.work - 1)), .no, 2, 0⟩ else ⟨q, .a26, -1, 0⟩
  | .a35 => ⟨q.setI (bset q.idle k), .a38, -1, 0⟩
  | .a38 => if q.seq = x.seq then ⟨q, .a42, -1, 0⟩ else ⟨q, .a41, -1, 0⟩
  | .a41 => ⟨q.setI (clr q.idle k), .no, 4, 0⟩
  | .a42 => if q.idle.testBit k = true then ⟨q.setT k (x.setP true), .no, 3, 0⟩ else ⟨q, .no, 4, 0⟩
/-- what a function of an access leaves -/
def Fx (w : World) (b p : Nat) (a : A) (e : Ending) (w' : World) : Prop := e = .returned (.tuple #[fv a.nx, .int .i64 a.what, .int .i64 (a.who : Int)]) ∧ Lq w' b p a.q ∧ Fr w w' (S2 b p)
section
variable {w w1 : World} {b p : Nat} {q : Q}
theorem tz64_core (x k idx : Nat) (w : World) (hx0 : ((x : Int) == 0) = false)
    (key : IntKind.u64.wrap (bits BinOp.and IntKind.u64 (x : Int) (IntKind.u64.wrap (-(x : Int))) * 285870213051353865) / 288230376151711744 = (idx : Int))
    (hi : idx < 64) (hk : k < 64) (hcell : w.cell? ⟨1, idx, none⟩ = some (.int .u8 k)) :
    Calls Tryd.prog 40 #[.int .u64 x] w fun e w' => e = .returned (.int .i64 k) ∧ w' = w := by
  go_enter Tryd.func40, Tryd.ntmps40
  go_wp2_with (simp only [key])
  go_ret
  exact ⟨rfl, rfl⟩
theorem tz64_any (w : World) (x : Nat) (hx : x < 18446744073709551616) (hx0 : x ≠ 0) (hT : Tab w 1) : Calls Tryd.prog 40 #[.int .u64 x] w fun e w' => e = .returned (.int .i64 (Lib.ctz 64 x)) ∧ w' = w := by
  obtain ⟨hlow, hk⟩ := Lib.lowest_bit 64 x hx0 hx
  obtain ⟨hi, htab⟩ := Lib.deBruijn64_at _ hk
  have hcell := hT _ hi
  rw [htab] at hcell
  exact tz64_core x _ _ w (by simp; omega) (tz64_key x _ hx hx0 hlow) hi hk hcell
theorem tz_any (w : World) (x : Nat) (hx : x < 256) (hx0 : x ≠ 0) (hT : Tab w 1) : Calls Tryd.prog 36 #[.int .u64 x] w fun e w' => e = .returned (.int .i64 (Lib.ctz 64 x)) ∧ w' = w := by
  have hlt : x < 18446744073709551616 := Nat.lt_of_lt_of_le hx (by decide)
  have c64 := tz64_any w x hlt hx0 hT
  have hw : IntKind.u64.wrap (x : Int) = (x : Int) := by rw [IntKind.wrap_u64]; omega
  clear hlt hx hx0 hT
  generalize Lib.ctz 64 x = k at *
  go_enter Tryd.func36, Tryd.ntmps36
  go_wp2_with fail
  refine c64.mono ?_
  rintro e w' ⟨rfl, rfl⟩
  go_wp2
  go_ret
  exact ⟨rfl, rfl⟩
set_option maxRecDepth 100000 in
set_option maxHeartbeats 2000000 in
theorem fn25 (h : Lq w b p q) (k : Nat) (hk : k < q.n) : Calls Tryd.prog 25 #[.pointer (some ⟨b, 0, none⟩), .pointer (some ⟨p, k * 6, none⟩)] w (Fx w b p (act q k (q.th k) .a25)) := by
  have c0 := h.c0
  have c1 := h.c1
  have c2 := h.c2
  have c3 := h.c3
  have t0 := h.t0 k hk
  have t1 := h.t1 k hk
  have t2 := h.t2 k hk
  have t3 := h.t3 k hk
  have t4 := h.t4 k hk
  have t5 := h.t5 k hk
  have f0 := h.fb 0
  have f1 := h.fb 1
  have f2 := h.fb 2
  have g2 := h.fp (k * 6 + 2)
  have g3 := h.fp (k * 6 + 3)
  have g4 := h.fp (k * 6 + 4)
  have g5 := h.fp (k * 6 + 5)
  have hne := h.ne.1
  have hi := h.i
  have hn2 := h.n2
  have hk8 : k < 8 := by omega
  have H := Lib.hid h
  unfold Fx act
  clear h
  go_enter Tryd.func25, Tryd.ntmps25
  go_wp2
  go_returns
  exact ⟨rfl, H.out.sW _, (fr_set _ _ b _ _ (.inl rfl))⟩
set_option maxRecDepth 100000 in
set_option maxHeartbeats 2000000 in
theorem fn29 (h : Lq w b p q) (k : Nat) (hk : k < q.n) : Calls Tryd.prog 29 #[.pointer (some ⟨b, 0, none⟩), .pointer (some ⟨p, k * 6, none⟩)] w (Fx w b p (act q k (q.th k) .a29)) := by
  have c0 := h.c0
  have c1 := h.c1
  have c2 := h.c2
  have c3 := h.c3
  have t0 := h.t0 k hk
  have t1 := h.t1 k hk
  have t2 := h.t2 k hk
  have t3 := h.t3 k hk
  have t4 := h.t4 k hk
  have t5 := h.t5 k hk
  have f0 := h.fb 0
  have f1 := h.fb 1
  have f2 := h.fb 2
  have g2 := h.fp (k * 6 + 2)
  have g3 := h.fp (k * 6 + 3)
  have g4 := h.fp (k * 6 + 4)
  have g5 := h.fp (k * 6 + 5)
  have hne := h.ne.1
  have hi := h.i
  have hn2 := h.n2
  have hk8 : k < 8 := by omega
  have H := Lib.hid h
  unfold Fx act
  clear h
  go_enter Tryd.func29, Tryd.ntmps29
  go_wp2
  go_returns
  exact ⟨rfl, H.out.sS _, (fr_set _ _ b _ _ (.inl rfl))⟩
set_option maxRecDepth 100000 in
set_option maxHeartbeats 2000000 in
theorem fn26 (h : Lq w b p q) (k : Nat) (hk : k < q.n) : Calls Tryd.prog 26 #[.pointer (some ⟨b, 0, none⟩), .pointer (some ⟨p, k * 6, none⟩)] w (Fx w b p (act q k (q.th k) .a26)) := by
  have c0 := h.c0
  have c1 := h.c1
  have c2 := h.c2
  have c3 := h.c3
  have t0 := h.t0 k hk
  have t1 := h.t1 k hk
  have t2 := h.t2 k hk
  have t3 := h.t3 k hk
  have t4 := h.t4 k hk
  have t5 := h.t5 k hk
  have f0 := h.fb 0
  have f1 := h.fb 1
  have f2 := h.fb 2
  have g2 := h.fp (k * 6 + 2)
  have g3 := h.fp (k * 6 + 3)
  have g4 := h.fp (k * 6 + 4)
  have g5 := h.fp (k * 6 + 5)
  have hne := h.ne.1
  have hi := h.i
  have hn2 := h.n2
  have hk8 : k < 8 := by omega
  have H := Lib.hid h
  unfold Fx act
  clear h
  go_enter Tryd.func26, Tryd.ntmps26
  go_wp2
  go_returns
  exact ⟨rfl, H.out.fS k hk _, (fr_set _ _ p _ _ (.inr rfl))⟩
set_option maxRecDepth 100000 in
set_option maxHeartbeats 2000000 in
theorem fn33 (h : Lq w b p q) (k : Nat) (hk : k < q.n) : Calls Tryd.prog 33 #[.pointer (some ⟨b, 0, none⟩), .pointer (some ⟨p, k * 6, none⟩)] w (Fx w b p (act q k (q.th k) .a33)) := by
  have c0 := h.c0
  have c1 := h.c1
  have c2 := h.c2
  have c3 := h.c3
  have t0 := h.t0 k hk
  have t1 := h.t1 k hk
  have t2 := h.t2 k hk
  have t3 := h.t3 k hk
  have t4 := h.t4 k hk
  have t5 := h.t5 k hk
  have f0 := h.fb 0
  have f1 := h.fb 1
  have f2 := h.fb 2
  have g2 := h.fp (k * 6 + 2)
  have g3 := h.fp (k * 6 + 3)
  have g4 := h.fp (k * 6 + 4)
  have g5 := h.fp (k * 6 + 5)
  have hne := h.ne.1
  have hi := h.i
  have hn2 := h.n2
  have hk8 : k < 8 := by omega
  have H := Lib.hid h
  by_cases h0 : q.idle = 0
  · unfold Fx
    rw [show act q k (q.th k) .a33 = ⟨q, .no, 0, 0⟩ from if_pos h0]
    have hb : ((q.idle : Int) == 0) = true := by simp; exact h0
    clear h
    go_enter Tryd.func33, Tryd.ntmps33
    go_wp2
    go_returns
    exact ⟨rfl, H.out, Fr.refl _ _⟩
  · unfold Fx
    rw [show act q k (q.th k) .a33 = ⟨q.setT k ((q.th k).setK (Lib.ctz 64 q.idle)), .a37, -1, 0⟩ from if_neg h0]
    have hb : ((q.idle : Int) == 0) = false := by simp; omega
    have hz := Lib.hid (tz_any w q.idle hi h0 h.tab)
    clear h h0
    go_enter Tryd.func33, Tryd.ntmps33
    go_wp2_with fail
    refine hz.out.mono ?_
    rintro e w' ⟨rfl, rfl⟩
    go_wp2
    go_returns
    exact ⟨rfl, H.out.fK k hk _, (fr_set _ _ p _ _ (.inr rfl))⟩
set_option maxRecDepth 100000 in
set_option maxHeartbeats 2000000 in
theorem fn30 (h : Lq w b p q) (k : Nat) (hk : k < q.n) : Calls Tryd.prog 30 #[.pointer (some ⟨b, 0, none⟩), .pointer (some ⟨p, k * 6, none⟩)] w (Fx w b p (act q k (q.th k) .a30)) := by
  have c0 := h.c0
  have c1 := h.c1
  have c2 := h.c2
  have c3 := h.c3
  have t0 := h.t0 k hk
  have t1 := h.t1 k hk
  have t2 := h.t2 k hk
  have t3 := h.t3 k hk
  have t4 := h.t4 k hk
  have t5 := h.t5 k hk
  have f0 := h.fb 0
  have f1 := h.fb 1
  have f2 := h.fb 2
  have g2 := h.fp (k * 6 + 2)
  have g3 := h.fp (k * 6 + 3)
  have g4 := h.fp (k * 6 + 4)
  have g5 := h.fp (k * 6 + 5)
  have hne := h.ne.1
  have hi := h.i
  have hn2 := h.n2
  have hk8 : k < 8 := by omega
  have H := Lib.hid h
  by_cases h0 : 0 < q.work
  · unfold Fx
    rw [show act q k (q.th k) .a30 = ⟨q.setT k ((q.th k).setW q.work), .a34, -1, 0⟩ from if_pos h0]
    clear h
    go_enter Tryd.func30, Tryd.ntmps30
    go_wp2
    go_returns
    exact ⟨rfl, H.out.fW k hk _, (fr_set _ _ p _ _ (.inr rfl))⟩
  · unfold Fx
    rw [show act q k (q.th k) .a30 = ⟨q.setT k ((q.th k).setW q.work), .a35, -1, 0⟩ from if_neg h0]
    clear h
    go_enter Tryd.func30, Tryd.ntmps30
    go_wp2
    go_returns
    exact ⟨rfl, H.out.fW k hk _, (fr_set _ _ p _ _ (.inr rfl))⟩
set_option maxRecDepth 100000 in
set_option maxHeartbeats 2000000 in
theorem fn34 (h : Lq w b p q) (k : Nat) (hk : k < q.n) : Calls Tryd.prog 34 #[.pointer (some ⟨b, 0, none⟩), .pointer (some ⟨p, k * 6, none⟩)] w (Fx w b p (act q k (q.th k) .a34)) := by
  have c0 := h.c0
  have c1 := h.c1
  have c2 := h.c2
  have c3 := h.c3
  have t0 := h.t0 k hk
  have t1 := h.t1 k hk
  have t2 := h.t2 k hk
  have t3 := h.t3 k hk
  have t4 := h.t4 k hk
  have t5 := h.t5 k hk
  have f0 := h.fb 0
  have f1 := h.fb 1
  have f2 := h.fb 2
  have g2 := h.fp (k * 6 + 2)
  have g3 := h.fp (k * 6 + 3)
  have g4 := h.fp (k * 6 + 4)
  have g5 := h.fp (k * 6 + 5)
  have hne := h.ne.1
  have hi := h.i
  have hn2 := h.n2
  have hk8 : k < 8 := by omega
  have H := Lib.hid h
  by_cases h0 : q.work = (q.th k).work
  · unfold Fx
    rw [show act q k (q.th k) .a34 = ⟨q.setW (wrap64 (q.work - 1)), .no, 2, 0⟩ from if_pos h0]
    rw [← h0] at t3
    clear h h0
    go_enter Tryd.func34, Tryd.ntmps34
    go_wp2
    go_quiet (fail)
    go_wp2
    go_returns
    exact ⟨rfl, (H.out.drewN _).sW _, (fr_drewN _ _ _).trans' (fr_set _ _ b _ _ (.inl rfl))⟩
  · unfold Fx
    rw [show act q k (q.th k) .a34 = ⟨q, .a26, -1, 0⟩ from if_neg h0]
    have hb : (q.work != (q.th k).work) = true := by simp; exact h0
    clear h h0
    go_enter Tryd.func34, Tryd.ntmps34
    go_wp2
    go_quiet (fail)
    go_wp2
    go_returns
    exact ⟨rfl, H.out.drewN _, fr_drewN _ _ _⟩
set_option maxRecDepth 100000 in
set_option maxHeartbeats 2000000 in
theorem fn38 (h : Lq w b p q) (k : Nat) (hk : k < q.n) : Calls Tryd.prog 38 #[.pointer (some ⟨b, 0, none⟩), .pointer (some ⟨p, k * 6, none⟩)] w (Fx w b p (act q k (q.th k) .a38)) := by
  have c0 := h.c0
  have c1 := h.c1
  have c2 := h.c2
  have c3 := h.c3
  have t0 := h.t0 k hk
  have t1 := h.t1 k hk
  have t2 := h.t2 k hk
  have t3 := h.t3 k hk
  have t4 := h.t4 k hk
  have t5 := h.t5 k hk
  have f0 := h.fb 0
  have f1 := h.fb 1
  have f2 := h.fb 2
  have g2 := h.fp (k * 6 + 2)
  have g3 := h.fp (k * 6 + 3)
  have g4 := h.fp (k * 6 + 4)
  have g5 := h.fp (k * 6 + 5)
  have hne := h.ne.1
  have hi := h.i
  have hn2 := h.n2
  have hk8 : k < 8 := by omega
  have H := Lib.hid h
  by_cases h0 : q.seq = (q.th k).seq
  · unfold Fx
    rw [show act q k (q.th k) .a38 = ⟨q, .a42, -1, 0⟩ from if_pos h0]
    rw [← h0] at t2
    clear h h0
    go_enter Tryd.func38, Tryd.ntmps38
    go_wp2
    go_quiet (fail)
    go_wp2
    go_returns
    exact ⟨rfl, H.out.drewN _, fr_drewN _ _ _⟩
  · unfold Fx
    rw [show act q k (q.th k) .a38 = ⟨q, .a41, -1, 0⟩ from if_neg h0]
    have hb : (q.seq != (q.th k).seq) = true := by simp; exact h0
    clear h h0
    go_enter Tryd.func38, Tryd.ntmps38
    go_wp2
    go_quiet (fail)
    go_wp2
    go_returns
    exact ⟨rfl, H.out.drewN _, fr_drewN _ _ _⟩
set_option maxRecDepth 100000 in
set_option maxHeartbeats 2000000 in
theorem fn35 (h : Lq w b p q) (k : Nat) (hk : k < q.n) : Calls Tryd.prog 35 #[.pointer (some ⟨b, 0, none⟩), .pointer (some ⟨p, k * 6, none⟩)] w (Fx w b p (act q k (q.th k) .a35)) := by
  have c0 := h.c0
  have c1 := h.c1
  have c2 := h.c2
  have c3 := h.c3
  have t0 := h.t0 k hk
  have t1 := h.t1 k hk
  have t2 := h.t2 k hk
  have t3 := h.t3 k hk
  have t4 := h.t4 k hk
  have t5 := h.t5 k hk
  have f0 := h.fb 0
  have f1 := h.fb 1
  have f2 := h.fb 2
  have g2 := h.fp (k * 6 + 2)
  have g3 := h.fp (k * 6 + 3)
  have g4 := h.fp (k * 6 + 4)
  have g5 := h.fp (k * 6 + 5)
  have hne := h.ne.1
  have hi := h.i
  have hn2 := h.n2
  have hk8 : k < 8 := by omega
  have H := Lib.hid h
  have hor := or_bit q.idle hi k hk8
  have hlt := bset_lt q.idle hi k hk8
  generalize hA : ((2 ^ k : Nat) : Int) = B2 at *
  unfold Fx act
  clear h hA
  go_enter Tryd.func35, Tryd.ntmps35
  go_wp2
  go_region
  all_goals
    go_wp2
    go_returns
    exact ⟨rfl, (H.out.sI _ hlt).drew, (fr_set _ _ b _ _ (.inl rfl)).trans' (fr_drew _ _)⟩
set_option maxRecDepth 100000 in
set_option maxHeartbeats 2000000 in
theorem fn41 (h : Lq w b p q) (k : Nat) (hk : k < q.n) : Calls Tryd.prog 41 #[.pointer (some ⟨b, 0, none⟩), .pointer (some ⟨p, k * 6, none⟩)] w (Fx w b p (act q k (q.th k) .a41)) := by
  have c0 := h.c0
  have c1 := h.c1
  have c2 := h.c2
  have c3 := h.c3
  have t0 := h.t0 k hk
  have t1 := h.t1 k hk
  have t2 := h.t2 k hk
  have t3 := h.t3 k hk
  have t4 := h.t4 k hk
  have t5 := h.t5 k hk
  have f0 := h.fb 0
  have f1 := h.fb 1
  have f2 := h.fb 2
  have g2 := h.fp (k * 6 + 2)
  have g3 := h.fp (k * 6 + 3)
  have g4 := h.fp (k * 6 + 4)
  have g5 := h.fp (k * 6 + 5)
  have hne := h.ne.1
  have hi := h.i
  have hn2 := h.n2
  have hk8 : k < 8 := by omega
  have H := Lib.hid h
  have hor := clr_bit q.idle hi k hk8
  have hlt := clr_lt q.idle hi k hk8
  generalize hA : ((2 ^ k : Nat) : Int) = B2 at *
  unfold Fx act
  clear h hA
  go_enter Tryd.func41, Tryd.ntmps41
  go_wp2
  go_region
  all_goals
    go_wp2
    go_returns
    exact ⟨rfl, (H.out.sI _ hlt).drew, (fr_set _ _ b _ _ (.inl rfl)).trans' (fr_drew _ _)⟩
set_option maxRecDepth 100000 in
set_option maxHeartbeats 2000000 in
theorem fn42 (h : Lq w b p q) (k : Nat) (hk : k < q.n) : Calls Tryd.prog 42 #[.pointer (some ⟨b, 0, none⟩), .pointer (some ⟨p, k * 6, none⟩)] w (Fx w b p (act q k (q.th k) .a42)) := by
  have c0 := h.c0
  have c1 := h.c1
  have c2 := h.c2
  have c3 := h.c3
  have t0 := h.t0 k hk
  have t1 := h.t1 k hk
  have t2 := h.t2 k hk
  have t3 := h.t3 k hk
  have t4 := h.t4 k hk
  have t5 := h.t5 k hk
  have f0 := h.fb 0
  have f1 := h.fb 1
  have f2 := h.fb 2
  have g2 := h.fp (k * 6 + 2)
  have g3 := h.fp (k * 6 + 3)
  have g4 := h.fp (k * 6 + 4)
  have g5 := h.fp (k * 6 + 5)
  have hne := h.ne.1
  have hi := h.i
  have hn2 := h.n2
  have hk8 : k < 8 := by omega
  have H := Lib.hid h
  have han := and_bit q.idle hi k hk8
  have hpos : ((2 ^ k : Nat) : Int) ≠ 0 := by have := Nat.two_pow_pos k; omega
  generalize hA : ((2 ^ k : Nat) : Int) = B2 at *
  by_cases h0 : q.idle.testBit k = true
  · unfold Fx
    rw [show act q k (q.th k) .a42 = ⟨q.setT k ((q.th k).setP true), .no, 3, 0⟩ from if_pos h0]
    rw [if_pos h0] at han
    have hb : (B2 == 0) = false := by simp; exact hpos
    clear h h0 hA hpos
    go_enter Tryd.func42, Tryd.ntmps42
    go_wp2
    go_quiet (fail)
    go_wp2
    go_returns
    exact ⟨rfl, (H.out.drewN _).fP k hk _, (fr_drewN _ _ _).trans' (fr_set _ _ p _ _ (.inr rfl))⟩
  · unfold Fx
    rw [show act q k (q.th k) .a42 = ⟨q, .no, 4, 0⟩ from if_neg h0]
    rw [if_neg h0] at han
    clear h h0 hA hpos
    go_enter Tryd.func42, Tryd.ntmps42
    go_wp2
    go_quiet (fail)
    go_wp2
    go_returns
    exact ⟨rfl, H.out.drewN _, fr_drewN _ _ _⟩
end
end Go.Proofs.YtpmkdhaponhacaaDoor
