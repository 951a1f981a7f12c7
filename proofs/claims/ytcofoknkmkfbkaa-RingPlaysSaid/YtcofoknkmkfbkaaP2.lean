/- What the methods of a ring of numbers come to. -/
import Derived.Test.YtcofoknkmkfbkaaP1
namespace Go.Proofs.Ytcofoknkmkfbkaa
open Go.RowKit
set_option linter.unusedVariables false
set_option linter.unusedSimpArgs false

section
variable {w : World} {b d N f c : Nat} {ar : Nat → Int}
theorem len_any (h : Raw w b d N f c ar) : Calls Try.prog 13 #[.pointer (some ⟨b, 0, none⟩)] w fun e w' => e = .returned (.int .i64 c) ∧ w = w' := by
  have hc := h.count
  clear h
  go_enter Try.func13, Try.ntmps13
  go_wp2
  go_ret; exact ⟨rfl, rfl⟩
theorem len_nil (w : World) : Calls Try.prog 13 #[.pointer none] w fun e w' => e = .returned (.int .i64 0) ∧ w = w' := by
  go_enter Try.func13, Try.ntmps13
  go_wp2
  go_ret; exact ⟨rfl, rfl⟩
theorem size_any (h : Raw w b d N f c ar) : Calls Try.prog 14 #[.pointer (some ⟨b, 0, none⟩)] w fun e w' => e = .returned (.int .i64 N) ∧ w = w' := by
  have hc := h.things
  clear h
  go_enter Try.func14, Try.ntmps14
  go_wp2
  go_ret; exact ⟨rfl, rfl⟩
theorem size_nil (w : World) : Calls Try.prog 14 #[.pointer none] w fun e w' => e = .returned (.int .i64 0) ∧ w = w' := by
  go_enter Try.func14, Try.ntmps14
  go_wp2
  go_ret; exact ⟨rfl, rfl⟩
set_option maxHeartbeats 1000000 in
theorem place_any (h : Raw w b d N f c ar) (i : Nat) (hi : i ≤ 4096) : Calls Try.prog 41 #[.pointer (some ⟨b, 0, none⟩), .int .i64 i] w fun e w' => e = .returned (.int .i64 ((f + i) % N : Nat)) ∧ ∃ k, w' = w.drewN k := by
  have hf := h.first
  have ht := h.things
  have n1 := h.n1
  have n2 := h.n2
  have hfn := h.fN
  have hm : IntKind.i64.wrap (((f : Int) + i).tmod N) = ((f + i) % N : Nat) := by
    have e : ((f : Int) + i).tmod N = ((f + i) % N : Nat) := by rw [Int.tmod_eq_emod_of_nonneg (by omega)]; simp
    rw [e]; exact IntWalk.i64_in _ (by have := Nat.mod_lt (f + i) (show N > 0 by omega); omega)
  clear h
  go_enter Try.func41, Try.ntmps41
  go_wp2
  go_quiet (fail)
  go_wp2
  go_ret
  exact ⟨rt1 (ri (by simp)), nq, rfl⟩
set_option maxHeartbeats 1000000 in
theorem room_any (h : Raw w b d N f c ar) (q : Bool) (hq : decide (c = N) = q) : Calls Try.prog 40 #[.pointer (some ⟨b, 0, none⟩)] w fun e w' => e = .returned (.int .i64 (if q then 7 else 0)) ∧ ∃ k, w' = w.drewN k := by
  have hf := h.count
  have ht := h.things
  have n1 := h.n1
  have n2 := h.n2
  have hfn := h.cN
  have hb : ((c : Int) == (N : Int)) = q := by rw [← hq]; by_cases e : c = N <;> simp [e]; omega
  clear h hq
  cases q
  all_goals
    go_enter Try.func40, Try.ntmps40
    go_wp2
    go_quiet (fail)
    go_wp2
    go_ret
  · exact ⟨rfl, nq, rfl⟩
  · exact ⟨rfl, nq, rfl⟩
theorem room_nil (w : World) : Calls Try.prog 40 #[.pointer none] w fun e w' => e = .returned (.int .i64 1) ∧ w = w' := by
  go_enter Try.func40, Try.ntmps40
  go_wp2
  go_ret; exact ⟨rfl, rfl⟩
set_option maxHeartbeats 1000000 in
theorem out_any (h : Raw w b d N f c ar) (p : Nat) (hp : p < N) (hc : 1 ≤ c) : Calls Try.prog 42 #[.pointer (some ⟨b, 0, none⟩), .int .i64 p] w fun e w' => e = .returned (.int .i64 (ar p)) ∧ Raw w' b d N f (c - 1) (fun i => if i = p then 0 else ar i) ∧ Ch w w' b d := by
  have hf := h.count
  have ht := h.things
  have hx := h.at_ p hp
  have f1 := h.frozB 2
  have f2 := h.frozD p
  have ne := h.ne
  have ne2 := h.ne.symm
  have n2 := h.n2
  have hcn := h.cN
  have H := Lib.hid h
  clear h
  go_enter Try.func42, Try.ntmps42
  go_wp2
  go_ret
  have e : (c : Int) - 1 = ((c - 1 : Nat) : Int) := by omega
  rw [e]
  exact ⟨rfl, (H.out.setA p 0).setC (c - 1) (by omega), (ch_d _ _ _ _ _).trans (ch_b _ _ _ _ _)⟩
set_option maxHeartbeats 1000000 in
theorem put_full (h : Raw w b d N f N ar) (x : Int) : Calls Try.prog 11 #[.pointer (some ⟨b, 0, none⟩), .int .i64 x] w fun e w' => e = .returned (.int .i64 7) ∧ Raw w' b d N f N ar ∧ Ch w w' b d := by
  have HR := Lib.hid (room_any h true (by simp))
  have H := Lib.hid h
  clear h
  go_enter Try.func11, Try.ntmps11
  go_wp2_with (go_at_call 40; refine (HR.out).mono ?_; rintro e w' ⟨rfl, k, rfl⟩)
  go_ret
  exact ⟨rfl, H.out.drewN k, ch_drewN _ _ _ _⟩
set_option maxHeartbeats 1000000 in
theorem push_full (h : Raw w b d N f N ar) (x : Int) : Calls Try.prog 21 #[.pointer (some ⟨b, 0, none⟩), .int .i64 x] w fun e w' => e = .returned (.int .i64 7) ∧ Raw w' b d N f N ar ∧ Ch w w' b d := by
  have HR := Lib.hid (room_any h true (by simp))
  have H := Lib.hid h
  clear h
  go_enter Try.func21, Try.ntmps21
  go_wp2_with (go_at_call 40; refine (HR.out).mono ?_; rintro e w' ⟨rfl, k, rfl⟩)
  go_ret
  exact ⟨rfl, H.out.drewN k, ch_drewN _ _ _ _⟩
set_option maxHeartbeats 2000000 in
theorem put_ok (h : Raw w b d N f c ar) (hc : c < N) (x : Int) : Calls Try.prog 11 #[.pointer (some ⟨b, 0, none⟩), .int .i64 x] w fun e w' => e = .returned (.int .i64 0) ∧ Raw w' b d N f (c + 1) (fun i => if i = (f + c) % N then x else ar i) ∧ Ch w w' b d := by
  have HR := Lib.hid (room_any h false (by simp; omega))
  have ht := h.things
  have hf := h.count
  have f1 := h.frozB 2
  have n1 := h.n1
  have n2 := h.n2
  have ne := h.ne
  have ne2 := h.ne.symm
  have hP := Nat.mod_lt (f + c) (show N > 0 by omega)
  have f2 := h.frozD ((f + c) % N)
  have hx := h.at_ _ hP
  have HP := Lib.hid (fun (w1 : World) (e : w1.heap = w.heap) => place_any (h.same e) c (by omega))
  have H := Lib.hid h
  clear h
  generalize (f + c) % N = p at *
  go_enter Try.func11, Try.ntmps11
  go_wp2_with (go_at_call 40; refine (HR.out).mono ?_; rintro e w' ⟨rfl, k, rfl⟩)
  go_region_with (go_at_call 41; refine (HP.out _ (by rfl)).mono ?_; rintro e w' ⟨rfl, k2, rfl⟩)
  all_goals go_wp2
  all_goals go_ret
  all_goals
    have e : (c : Int) + 1 = ((c + 1 : Nat) : Int) := by omega
    rw [e]
    exact ⟨rfl, ((H.out.drewN _).setA p x).setC (c + 1) (by omega), ((ch_drewN _ _ _ _).trans (ch_d _ _ _ _ _)).trans (ch_b _ _ _ _ _)⟩
set_option maxHeartbeats 2000000 in
theorem push_ok (h : Raw w b d N f c ar) (hc : c < N) (x : Int) : Calls Try.prog 21 #[.pointer (some ⟨b, 0, none⟩), .int .i64 x] w fun e w' => e = .returned (.int .i64 0) ∧ Raw w' b d N ((f + (N - 1)) % N) (c + 1) (fun i => if i = (f + (N - 1)) % N then x else ar i) ∧ Ch w w' b d := by
  have HR := Lib.hid (room_any h false (by simp; omega))
  have ht := h.things
  have hf := h.count
  have hfi := h.first
  have f1 := h.frozB 2
  have f3 := h.frozB 1
  have n1 := h.n1
  have n2 := h.n2
  have ne := h.ne
  have ne2 := h.ne.symm
  have hP := Nat.mod_lt (f + (N - 1)) (show N > 0 by omega)
  have f2 := h.frozD ((f + (N - 1)) % N)
  have hx := h.at_ _ hP
  have HP := Lib.hid (fun (w1 : World) (e : w1.heap = w.heap) => place_any (h.same e) (N - 1) (by omega))
  have H := Lib.hid h
  have en : ((N - 1 : Nat) : Int) = (N : Int) - 1 := by omega
  rw [en] at HP
  clear h
  generalize (f + (N - 1)) % N = p at *
  go_enter Try.func21, Try.ntmps21
  go_wp2_with (first | (go_at_call 40; refine (HR.out).mono ?_; rintro e w' ⟨rfl, k, rfl⟩) | (go_at_call 41; refine (HP.out _ (by rfl)).mono ?_; rintro e w' ⟨rfl, k2, rfl⟩))
  all_goals go_region
  all_goals go_wp2
  all_goals go_ret
  all_goals
    have e : (c : Int) + 1 = ((c + 1 : Nat) : Int) := by omega
    rw [e]
    exact ⟨rfl, ((((H.out.drewN _).setF p hP).setA p x).setC (c + 1) (by omega)).drew, ((((ch_drewN _ _ _ _).trans (ch_b _ _ _ _ _)).trans (ch_d _ _ _ _ _)).trans (ch_b _ _ _ _ _)).trans (ch_drew _ _ _)⟩
theorem take_none (h : Raw w b d N f 0 ar) : Calls Try.prog 12 #[.pointer (some ⟨b, 0, none⟩)] w fun e w' => e = .returned (.tuple #[.int .i64 0, .bool false]) ∧ w = w' := by
  have HR := Lib.hid (len_any h)
  clear h
  go_enter Try.func12, Try.ntmps12
  go_wp2_with (go_at_call 13; refine (HR.out).mono ?_; rintro e w' ⟨rfl, rfl⟩)
  go_ret2; exact ⟨rfl, rfl⟩
theorem take_nil (w : World) : Calls Try.prog 12 #[.pointer none] w fun e w' => e = .returned (.tuple #[.int .i64 0, .bool false]) ∧ w = w' := by
  go_enter Try.func12, Try.ntmps12
  go_wp2_with (go_at_call 13; refine (len_nil w).mono ?_; rintro e w' ⟨rfl, rfl⟩)
  go_ret2; exact ⟨rfl, rfl⟩
theorem pop_none (h : Raw w b d N f 0 ar) : Calls Try.prog 15 #[.pointer (some ⟨b, 0, none⟩)] w fun e w' => e = .returned (.tuple #[.int .i64 0, .bool false]) ∧ w = w' := by
  have HR := Lib.hid (len_any h)
  clear h
  go_enter Try.func15, Try.ntmps15
  go_wp2_with (go_at_call 13; refine (HR.out).mono ?_; rintro e w' ⟨rfl, rfl⟩)
  go_ret2; exact ⟨rfl, rfl⟩
theorem pop_nil (w : World) : Calls Try.prog 15 #[.pointer none] w fun e w' => e = .returned (.tuple #[.int .i64 0, .bool false]) ∧ w = w' := by
  go_enter Try.func15, Try.ntmps15
  go_wp2_with (go_at_call 13; refine (len_nil w).mono ?_; rintro e w' ⟨rfl, rfl⟩)
  go_ret2; exact ⟨rfl, rfl⟩
set_option maxHeartbeats 2000000 in
theorem take_ok (h : Raw w b d N f c ar) (hc : 1 ≤ c) : Calls Try.prog 12 #[.pointer (some ⟨b, 0, none⟩)] w fun e w' => e = .returned (.tuple #[.int .i64 (ar f), .bool true]) ∧ Raw w' b d N ((f + 1) % N) (c - 1) (fun i => if i = f then 0 else ar i) ∧ Ch w w' b d := by
  have HL := Lib.hid (len_any h)
  have hf := h.first
  have n2 := h.n2
  have hcn := h.cN
  have hc0 : ((c : Int) == 0) = false := by simp; omega
  have HO := Lib.hid (out_any h f h.fN hc)
  have hP := Nat.mod_lt (f + 1) (show N > 0 by have := h.n1; omega)
  generalize ar f = x at HO ⊢
  clear h
  go_enter Try.func12, Try.ntmps12
  go_wp2_with (first | (go_at_call 13; refine (HL.out).mono ?_; rintro e w' ⟨rfl, rfl⟩) | (go_at_call 42; refine (HO.out).mono ?_; rintro e w1 ⟨rfl, h1, g1⟩; have H1 := Lib.hid h1; have G1 := Lib.hid g1; have f1 := h1.frozB 1; have c1 := h1.first; clear h1 g1) | (go_at_call 41; refine (place_any H1.out 1 (by omega)).mono ?_; rintro e w' ⟨rfl, k2, rfl⟩))
  go_ret2
  exact ⟨rfl, (H1.out.drewN k2).setF _ hP, (G1.out.trans (ch_drewN _ _ _ _)).trans (ch_b _ _ _ _ _)⟩
set_option maxHeartbeats 2000000 in
theorem pop_ok (h : Raw w b d N f c ar) (hc : 1 ≤ c) : Calls Try.prog 15 #[.pointer (some ⟨b, 0, none⟩)] w fun e w' => e = .returned (.tuple #[.int .i64 (ar ((f + (c - 1)) % N)), .bool true]) ∧ Raw w' b d N f (c - 1) (fun i => if i = (f + (c - 1)) % N then 0 else ar i) ∧ Ch w w' b d := by
  have HL := Lib.hid (len_any h)
  have hf := h.count
  have n2 := h.n2
  have hcn := h.cN
  have hc0 : ((c : Int) == 0) = false := by simp; omega
  have hP := Nat.mod_lt (f + (c - 1)) (show N > 0 by have := h.n1; omega)
  have HP := Lib.hid (place_any h (c - 1) (by omega))
  have HO := Lib.hid (fun (w1 : World) (e : w1.heap = w.heap) => out_any (h.same e) _ hP hc)
  have en : ((c - 1 : Nat) : Int) = (c : Int) - 1 := by omega
  rw [en] at HP
  generalize ar ((f + (c - 1)) % N) = x at HO ⊢
  generalize (f + (c - 1)) % N = p at *
  clear h
  go_enter Try.func15, Try.ntmps15
  go_wp2_with (first | (go_at_call 13; refine (HL.out).mono ?_; rintro e w' ⟨rfl, rfl⟩) | (go_at_call 42; refine (HO.out _ (by rfl)).mono ?_; rintro e w1 ⟨rfl, h1, g1⟩; have H1 := Lib.hid h1; have G1 := Lib.hid g1; clear h1 g1) | (go_at_call 41; refine (HP.out).mono ?_; rintro e w' ⟨rfl, k2, rfl⟩))
  go_ret2
  exact ⟨rfl, H1.out, (ch_drewN _ _ _ _).trans G1.out⟩
end
end Go.Proofs.Ytcofoknkmkfbkaa
