/- The word: Step. -/
import Derived.Test.YtildpjgjnfiihaaP4
namespace Go.Proofs.Ytildpjgjnfiihaa
open Go.RowKit
set_option linter.unusedVariables false
set_option linter.unusedSimpArgs false
theorem stc_shape {w : World} {b : Nat} {v : Value} {x : Nx} (h : Stc w b v x) : v = .nilFunc ∨ ∃ m a c, v = .func m a c := by
  by_cases hx : x = .no
  · subst hx; exact .inl h
  · exact .inr (stc_func h hx)
section
variable {w w1 : World} {b now : Nat} {held : Bool} {f : Nat → Value} {v : Value} {x : Nx} {q : Q}
theorem step_fin (h : Ww w b q f) (n : Nat) (hn : n < 8) {w2 : World} {v' : Value} {f' : Nat → Value} (h1 : Wb w2 b (stepA q n).now (stepA q n).held f') (h2 : ∀ j, 2 ≤ j → f' j = f j) (h3 : Stc w2 b v' (stepA q n).nx) (h4 : Fr w w2 (fun k => k = b)) :
    (∃ f'', Ww (w2.setCell ⟨b, 2 + n, none⟩ v') b { now := (stepA q n).now, held := (stepA q n).held, th := fun j => if j = n then (stepA q n).nx else q.th j } f'') ∧ Fr w (w2.setCell ⟨b, 2 + n, none⟩ v') (fun k => k = b) := by
  have hw : Ww w2 b { now := (stepA q n).now, held := (stepA q n).held, th := q.th } f' := ⟨h1, fun k hk => by rw [h2 _ (by omega)]; exact (h.t k hk).fr h4⟩
  exact ⟨⟨_, hw.put n hn v' _ h3⟩, h4.trans' (fr_b _ _ _ _)⟩
theorem step_no (h : Ww w b q f) (k : Int) (h1 : k < 0 ∨ 8 ≤ k) : Calls Try.prog 12 #[.pointer (some ⟨b, 0, none⟩), .int .i64 k] w fun e w' => e = .returned (.tuple #[.int .i64 0, .int .i64 1]) ∧ w' = w := by
  clear h
  go_enter Try.func12, Try.ntmps12
  go_wp2_with fail
  refine (at_out b k h1 _).mono ?_
  rintro e w' ⟨rfl, rfl⟩
  go_wp2
  go_ret2
  exact ⟨rfl, rfl⟩
theorem step_off (h : Ww w b q f) (n : Nat) (hn : n < 8) (h1 : q.th n = .no) : Calls Try.prog 12 #[.pointer (some ⟨b, 0, none⟩), .int .i64 n] w fun e w' => e = .returned (.tuple #[.int .i64 0, .int .i64 13]) ∧ w' = w := by
  have ct := h.h.ct n hn
  have st := h.t n hn
  rw [h1] at st
  have st' : f (2 + n) = .nilFunc := st
  rw [st'] at ct
  have enf := eq_nf
  clear h st st' h1
  go_enter Try.func12, Try.ntmps12
  go_wp2_with fail
  refine (at_in b n hn _).mono ?_
  rintro e w' ⟨rfl, rfl⟩
  go_wp2
  go_ret2
  exact ⟨rfl, rfl⟩
set_option maxRecDepth 100000 in
set_option maxHeartbeats 4000000 in
/-- the walk of a step, whatever function lies in the cell -/
theorem step_on (h : Ww w b q f) (n : Nat) (hn : n < 8) (hx : q.th n ≠ .no) : Calls Try.prog 12 #[.pointer (some ⟨b, 0, none⟩), .int .i64 n] w fun e w' => e = .returned (.tuple #[.int .i64 (stepA q n).what, .int .i64 0]) ∧ (∃ f'', Ww w' b { now := (stepA q n).now, held := (stepA q n).held, th := fun j => if j = n then (stepA q n).nx else q.th j } f'') ∧ Fr w w' (fun k => k = b) := by
  have HH := Lib.hid h
  have HA : Hid (act q.now q.held (q.th n) = stepA q n) := Lib.hid rfl
  have ct := h.h.ct n hn
  have st := h.t n hn
  have efn := eq_fn
  generalize hxx : q.th n = x at *
  cases x with
  | look =>
    have st' : f (2 + n) = .func (.func 25) #[] #[] := st
    have hf := fn_look h.h
    rw [st'] at ct
    clear h st st' hx
    go_enter Try.func12, Try.ntmps12
    go_wp2_with fail
    refine (at_in b n hn _).mono ?_
    rintro e w' ⟨rfl, rfl⟩
    go_wp2_with fail
    refine hf.mono ?_
    rintro e w2 ⟨v', f', rfl, k1, k2, k3, k4⟩
    rw [HA.out] at k1 k3
    rw [HA.out]
    have KF := Lib.hid (step_fin HH.out n hn k1 k2 k3 k4)
    have ct2 := k1.ct n hn
    have zt2 := k1.fz (2 + n)
    generalize hwh : (stepA q n).what = wh at *
    have HWH := Lib.hid hwh
    clear hwh
    rcases stc_shape k3 with rfl | ⟨m, a, c, rfl⟩
    · clear k1 k2 k3 k4
      go_wp2
      go_ret2
      have e := HWH.out
      subst e
      exact ⟨rfl, KF.out⟩
    · clear k1 k2 k3 k4
      go_wp2
      go_ret2
      have e := HWH.out
      subst e
      exact ⟨rfl, KF.out⟩
  | start =>
    have st' : f (2 + n) = .func (.func 26) #[] #[] := st
    have hf := fn_start h.h
    rw [st'] at ct
    clear h st st' hx
    go_enter Try.func12, Try.ntmps12
    go_wp2_with fail
    refine (at_in b n hn _).mono ?_
    rintro e w' ⟨rfl, rfl⟩
    go_wp2_with fail
    refine hf.mono ?_
    rintro e w2 ⟨v', f', rfl, k1, k2, k3, k4⟩
    rw [HA.out] at k1 k3
    rw [HA.out]
    have KF := Lib.hid (step_fin HH.out n hn k1 k2 k3 k4)
    have ct2 := k1.ct n hn
    have zt2 := k1.fz (2 + n)
    generalize hwh : (stepA q n).what = wh at *
    have HWH := Lib.hid hwh
    clear hwh
    rcases stc_shape k3 with rfl | ⟨m, a, c, rfl⟩
    · clear k1 k2 k3 k4
      go_wp2
      go_ret2
      have e := HWH.out
      subst e
      exact ⟨rfl, KF.out⟩
    · clear k1 k2 k3 k4
      go_wp2
      go_ret2
      have e := HWH.out
      subst e
      exact ⟨rfl, KF.out⟩
  | sleep =>
    have st' : f (2 + n) = .func (.func 27) #[] #[] := st
    have hf := fn_sleep h.h
    rw [st'] at ct
    clear h st st' hx
    go_enter Try.func12, Try.ntmps12
    go_wp2_with fail
    refine (at_in b n hn _).mono ?_
    rintro e w' ⟨rfl, rfl⟩
    go_wp2_with fail
    refine hf.mono ?_
    rintro e w2 ⟨v', f', rfl, k1, k2, k3, k4⟩
    rw [HA.out] at k1 k3
    rw [HA.out]
    have KF := Lib.hid (step_fin HH.out n hn k1 k2 k3 k4)
    have ct2 := k1.ct n hn
    have zt2 := k1.fz (2 + n)
    generalize hwh : (stepA q n).what = wh at *
    have HWH := Lib.hid hwh
    clear hwh
    rcases stc_shape k3 with rfl | ⟨m, a, c, rfl⟩
    · clear k1 k2 k3 k4
      go_wp2
      go_ret2
      have e := HWH.out
      subst e
      exact ⟨rfl, KF.out⟩
    · clear k1 k2 k3 k4
      go_wp2
      go_ret2
      have e := HWH.out
      subst e
      exact ⟨rfl, KF.out⟩
  | goes =>
    have st' : f (2 + n) = .func (.func 33) #[] #[] := st
    have hf := fn_goes h.h
    rw [st'] at ct
    clear h st st' hx
    go_enter Try.func12, Try.ntmps12
    go_wp2_with fail
    refine (at_in b n hn _).mono ?_
    rintro e w' ⟨rfl, rfl⟩
    go_wp2_with fail
    refine hf.mono ?_
    rintro e w2 ⟨v', f', rfl, k1, k2, k3, k4⟩
    rw [HA.out] at k1 k3
    rw [HA.out]
    have KF := Lib.hid (step_fin HH.out n hn k1 k2 k3 k4)
    have ct2 := k1.ct n hn
    have zt2 := k1.fz (2 + n)
    generalize hwh : (stepA q n).what = wh at *
    have HWH := Lib.hid hwh
    clear hwh
    rcases stc_shape k3 with rfl | ⟨m, a, c, rfl⟩
    · clear k1 k2 k3 k4
      go_wp2
      go_ret2
      have e := HWH.out
      subst e
      exact ⟨rfl, KF.out⟩
    · clear k1 k2 k3 k4
      go_wp2
      go_ret2
      have e := HWH.out
      subst e
      exact ⟨rfl, KF.out⟩
  | yield =>
    have st' : f (2 + n) = .func (.func 28) #[] #[] := st
    have hf := fn_yield h.h
    rw [st'] at ct
    clear h st st' hx
    go_enter Try.func12, Try.ntmps12
    go_wp2_with fail
    refine (at_in b n hn _).mono ?_
    rintro e w' ⟨rfl, rfl⟩
    go_wp2_with fail
    refine hf.mono ?_
    rintro e w2 ⟨v', f', rfl, k1, k2, k3, k4⟩
    rw [HA.out] at k1 k3
    rw [HA.out]
    have KF := Lib.hid (step_fin HH.out n hn k1 k2 k3 k4)
    have ct2 := k1.ct n hn
    have zt2 := k1.fz (2 + n)
    generalize hwh : (stepA q n).what = wh at *
    have HWH := Lib.hid hwh
    clear hwh
    rcases stc_shape k3 with rfl | ⟨m, a, c, rfl⟩
    · clear k1 k2 k3 k4
      go_wp2
      go_ret2
      have e := HWH.out
      subst e
      exact ⟨rfl, KF.out⟩
    · clear k1 k2 k3 k4
      go_wp2
      go_ret2
      have e := HWH.out
      subst e
      exact ⟨rfl, KF.out⟩
  | die =>
    have st' : f (2 + n) = .func (.func 29) #[] #[] := st
    have hf := fn_die h.h
    rw [st'] at ct
    clear h st st' hx
    go_enter Try.func12, Try.ntmps12
    go_wp2_with fail
    refine (at_in b n hn _).mono ?_
    rintro e w' ⟨rfl, rfl⟩
    go_wp2_with fail
    refine hf.mono ?_
    rintro e w2 ⟨v', f', rfl, k1, k2, k3, k4⟩
    rw [HA.out] at k1 k3
    rw [HA.out]
    have KF := Lib.hid (step_fin HH.out n hn k1 k2 k3 k4)
    have ct2 := k1.ct n hn
    have zt2 := k1.fz (2 + n)
    generalize hwh : (stepA q n).what = wh at *
    have HWH := Lib.hid hwh
    clear hwh
    rcases stc_shape k3 with rfl | ⟨m, a, c, rfl⟩
    · clear k1 k2 k3 k4
      go_wp2
      go_ret2
      have e := HWH.out
      subst e
      exact ⟨rfl, KF.out⟩
    · clear k1 k2 k3 k4
      go_wp2
      go_ret2
      have e := HWH.out
      subst e
      exact ⟨rfl, KF.out⟩
  | wk c =>
    obtain ⟨b1, b2, b3, st', k1, k2, k3⟩ := st
    have hf := fn_wk h.h c b1 b2 b3 k1 k2 k3
    rw [st'] at ct
    unfold pv at hf ct
    clear h st' hx k1 k2 k3
    go_enter Try.func12, Try.ntmps12
    go_wp2_with fail
    refine (at_in b n hn _).mono ?_
    rintro e w' ⟨rfl, rfl⟩
    go_wp2_with fail
    refine hf.mono ?_
    rintro e w2 ⟨v', f', rfl, k1, k2, k3, k4⟩
    rw [HA.out] at k1 k3
    rw [HA.out]
    have KF := Lib.hid (step_fin HH.out n hn k1 k2 k3 k4)
    have ct2 := k1.ct n hn
    have zt2 := k1.fz (2 + n)
    generalize hwh : (stepA q n).what = wh at *
    have HWH := Lib.hid hwh
    clear hwh
    rcases stc_shape k3 with rfl | ⟨m, a, c, rfl⟩
    · clear k1 k2 k3 k4
      go_wp2
      go_ret2
      have e := HWH.out
      subst e
      exact ⟨rfl, KF.out⟩
    · clear k1 k2 k3 k4
      go_wp2
      go_ret2
      have e := HWH.out
      subst e
      exact ⟨rfl, KF.out⟩
  | no => exact absurd rfl hx
theorem step_any (h : Ww w b q f) (k : Int) : Calls Try.prog 12 #[.pointer (some ⟨b, 0, none⟩), .int .i64 k] w fun e w' => e = .returned (.tuple #[.int .i64 (step q k).1.1, .int .i64 (step q k).1.2]) ∧ (∃ f'', Ww w' b (step q k).2 f'') ∧ Fr w w' (fun k => k = b) := by
  by_cases h1 : k < 0 ∨ 8 ≤ k
  · have e : step q k = ((0, 1), q) := by unfold step; rw [if_pos h1]
    rw [e]
    refine (step_no h k h1).mono ?_
    rintro e w' ⟨rfl, rfl⟩
    exact ⟨rfl, ⟨f, h⟩, Fr.refl _ _⟩
  · obtain ⟨n, rfl⟩ : ∃ n : Nat, k = n := ⟨k.toNat, by omega⟩
    have hn : n < 8 := by omega
    by_cases h2 : q.th n = .no
    · have e : step q n = ((0, 13), q) := by unfold step; rw [if_neg h1, if_pos (by rw [Int.toNat_natCast]; exact h2)]
      rw [e]
      refine (step_off h n hn h2).mono ?_
      rintro e w' ⟨rfl, rfl⟩
      exact ⟨rfl, ⟨f, h⟩, Fr.refl _ _⟩
    · unfold step
      rw [if_neg h1, if_neg (by rw [Int.toNat_natCast]; exact h2), Int.toNat_natCast]
      exact step_on h n hn h2
end
end Go.Proofs.Ytildpjgjnfiihaa
