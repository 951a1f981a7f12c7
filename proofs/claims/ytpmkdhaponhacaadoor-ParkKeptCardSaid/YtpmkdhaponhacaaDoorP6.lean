/- The lot: Begin and Step. -/
import Derived.Test.YtpmkdhaponhacaaDoorP5
namespace Go.Proofs.YtpmkdhaponhacaaDoor
open Go.RowKit
set_option linter.unusedVariables false
set_option linter.unusedSimpArgs false
section
variable {w w1 : World} {b p : Nat} {q : Q}
theorem fv_shape (x : Nx) : fv x = .nilFunc ∨ ∃ m, fv x = .func (.func m) #[] #[] := by
  by_cases h : x = .no
  · subst h; exact .inl rfl
  · exact .inr (fv_func h)
theorem cell_fn (h : Lq w b p q) (k : Nat) (hk : k < q.n) (hx : (q.th k).nx ≠ .no) (hw : (q.th k).who < q.n) : ∃ n, fv (q.th k).nx = .func (.func n) #[] #[] ∧ Calls Tryd.prog n #[.pointer (some ⟨b, 0, none⟩), .pointer (some ⟨p, k * 6, none⟩)] w (Fx w b p (stepA q k)) := by
  unfold stepA
  cases hn : (q.th k).nx with
  | no => exact absurd hn hx
  | a25 => exact ⟨25, rfl, fn25 h k hk⟩
  | a29 => exact ⟨29, rfl, fn29 h k hk⟩
  | a33 => exact ⟨33, rfl, fn33 h k hk⟩
  | a37 => exact ⟨37, rfl, fn37 h k hk hw⟩
  | a26 => exact ⟨26, rfl, fn26 h k hk⟩
  | a30 => exact ⟨30, rfl, fn30 h k hk⟩
  | a34 => exact ⟨34, rfl, fn34 h k hk⟩
  | a35 => exact ⟨35, rfl, fn35 h k hk⟩
  | a38 => exact ⟨38, rfl, fn38 h k hk⟩
  | a41 => exact ⟨41, rfl, fn41 h k hk⟩
  | a42 => exact ⟨42, rfl, fn42 h k hk⟩
def Fns (m : Nat) : Prop := m = 25 ∨ m = 29 ∨ m = 33 ∨ m = 37 ∨ m = 26 ∨ m = 30 ∨ m = 34 ∨ m = 35 ∨ m = 38 ∨ m = 41 ∨ m = 42
theorem fv_fns {x : Nx} {m : Nat} (h : fv x = .func (.func m) #[] #[]) : Fns m := by
  unfold Fns
  cases x <;> simp_all [fv, fnv]
theorem act_n (q : Q) (k : Nat) (x : T) (y : Nx) : (act q k x y).q.n = q.n := by
  cases y <;> (simp only [act]; try split) <;> rfl
set_option maxRecDepth 100000 in
set_option maxHeartbeats 8000000 in
theorem step_on (h : Lq w b p q) (n : Nat) (hn : n < q.n) (hx : (q.th n).nx ≠ .no) (hw : (q.th n).who < q.n) : Calls Tryd.prog 18 #[.pointer (some ⟨b, 0, none⟩), .int .i64 n] w fun e w' => e = .returned (.tuple #[.int .i64 (stepA q n).what, .int .i64 ((stepA q n).who : Int), .int .i64 0]) ∧ Lq w' b p ((stepA q n).fin n) ∧ Fr w w' (S2 b p) := by
  have hth := Lib.hid (thread_in h n hn)
  have ct := h.t0 n hn
  obtain ⟨m, e, hf⟩ := cell_fn h n hn hx hw
  have hn' : n < (stepA q n).q.n := by unfold stepA; rw [act_n]; exact hn
  rw [e] at ct
  have efn := eq_fn
  have hfx := Lib.hid hf
  have hm := fv_fns e
  clear h hx e hf hw
  generalize stepA q n = a at *
  unfold Fns at hm
  rcases hm with rfl | rfl | rfl | rfl | rfl | rfl | rfl | rfl | rfl | rfl | rfl
  all_goals
    go_enter Tryd.func18, Tryd.ntmps18
    go_wp2_with fail
    refine hth.out.mono ?_
    rintro e w' ⟨rfl, rfl⟩
    go_wp2_with fail
    refine hfx.out.mono ?_
    rintro e w2 ⟨rfl, k1, k2⟩
    have t0 := k1.t0 n hn'
    have g0 := k1.fp (n * 6)
    have KF := Lib.hid (k1.fN n hn' a.nx)
    have KR := Lib.hid k2
    clear k1 k2 ct hfx hth
    rcases fv_shape a.nx with hs | ⟨m, hs⟩
    · rw [hs] at KF ⊢
      clear hs
      go_wp2
      go_returns
      exact ⟨rfl, KF.out, KR.out.trans' (fr_set _ _ _ _ _ (.inr rfl))⟩
    · rw [hs] at KF ⊢
      clear hs
      go_wp2
      go_returns
      exact ⟨rfl, KF.out, KR.out.trans' (fr_set _ _ _ _ _ (.inr rfl))⟩
theorem step_any (h : Lq w b p q) (k : Int) (hw : ∀ n, n < q.n → (q.th n).who < q.n) : Calls Tryd.prog 18 #[.pointer (some ⟨b, 0, none⟩), .int .i64 k] w fun e w' => e = .returned (.tuple #[.int .i64 (step q k).1.1, .int .i64 ((step q k).1.2.1 : Int), .int .i64 (step q k).1.2.2]) ∧ Lq w' b p (step q k).2 ∧ Fr w w' (S2 b p) := by
  by_cases h1 : 0 ≤ k ∧ k < (q.n : Int)
  · obtain ⟨n, rfl⟩ : ∃ n : Nat, k = n := ⟨k.toNat, by omega⟩
    have hn : n < q.n := by omega
    by_cases h2 : (q.th n).nx = .no
    · have e : step q n = ((0, 0, 13), q) := by unfold step; rw [if_neg (by simpa using h1), if_pos (by rw [Int.toNat_natCast]; exact h2)]
      rw [e]
      have hth := Lib.hid (thread_in h n hn)
      have ct := h.t0 n hn
      have H := Lib.hid h
      rw [h2] at ct
      have ct' : w.cell? ⟨p, n * 6, none⟩ = some .nilFunc := ct
      have enf := eq_nf
      clear h ct h1 h2 e hw
      go_enter Tryd.func18, Tryd.ntmps18
      go_wp2_with fail
      refine hth.out.mono ?_
      rintro e w' ⟨rfl, rfl⟩
      go_wp2
      go_returns
      exact ⟨rfl, H.out, Fr.refl _ _⟩
    · unfold step
      rw [if_neg (by simpa using h1), if_neg (by rw [Int.toNat_natCast]; exact h2), Int.toNat_natCast]
      exact step_on h n hn h2 (hw n hn)
  · have e : step q k = ((0, 0, 1), q) := by unfold step; rw [if_pos h1]
    rw [e]
    have hth := Lib.hid (thread_out h k h1)
    have H := Lib.hid h
    clear h h1 e hw
    go_enter Tryd.func18, Tryd.ntmps18
    go_wp2_with fail
    refine hth.out.mono ?_
    rintro e w' ⟨rfl, rfl⟩
    go_wp2
    go_returns
    exact ⟨rfl, H.out, Fr.refl _ _⟩
set_option maxRecDepth 100000 in
set_option maxHeartbeats 4000000 in
theorem begin_any (h : Lq w b p q) (k op : Int) : Calls Tryd.prog 16 #[.pointer (some ⟨b, 0, none⟩), .int .i64 k, .int .i64 op] w fun e w' => e = .returned (.int .i64 (begin q k op).1) ∧ Lq w' b p (begin q k op).2 ∧ Fr w w' (S2 b p) := by
  have enf := eq_nf
  have nnf := ne_nf
  have efn := eq_fn
  have nfn := ne_fn
  have H := Lib.hid h
  by_cases h1 : 0 ≤ k ∧ k < (q.n : Int)
  · obtain ⟨n, rfl⟩ : ∃ n : Nat, k = n := ⟨k.toNat, by omega⟩
    have hn : n < q.n := by omega
    have hth := Lib.hid (thread_in h n hn)
    by_cases h2 : op ≠ 0 ∧ op ≠ 1
    · have e : begin q n op = (1, q) := by unfold begin; rw [if_pos (.inr (.inl h2))]
      rw [e]
      have b0 : (op != 0) = true := by simpa using h2.1
      have b1 : (op != 1) = true := by simpa using h2.2
      clear h e h1 h2
      go_enter Tryd.func16, Tryd.ntmps16
      go_wp2_with fail
      refine hth.out.mono ?_
      rintro e w' ⟨rfl, rfl⟩
      go_wp2
      go_ret
      exact ⟨rfl, H.out, Fr.refl _ _⟩
    · by_cases h3 : op = 1 ∧ n = 0
      · obtain ⟨rfl, rfl⟩ := h3
        have e : begin q (0 : Nat) 1 = (1, q) := by unfold begin; rw [if_pos (.inr (.inr ⟨rfl, rfl⟩))]
        rw [e]
        clear h e h1 h2
        go_enter Tryd.func16, Tryd.ntmps16
        go_wp2_with fail
        refine hth.out.mono ?_
        rintro e w' ⟨rfl, rfl⟩
        go_wp2
        go_ret
        exact ⟨rfl, H.out, Fr.refl _ _⟩
      · have hc : ¬ (¬ (0 ≤ (n : Int) ∧ (n : Int) < (q.n : Int)) ∨ (op ≠ 0 ∧ op ≠ 1) ∨ (op = 1 ∧ (n : Int) = 0)) := by omega
        have t0 := h.t0 n hn
        have t5 := h.t5 n hn
        have g0 := h.fp (n * 6)
        have K5 := Lib.hid (h.fN n hn .a25)
        have K6 := Lib.hid (by have := (h.fN n hn .a25).fN n hn .a26; rw [setT_setT, setT_at] at this; exact this)
        have hop : op = 0 ∨ (op = 1 ∧ (((n : Nat) : Int) == 0) = false) := by
          by_cases h0 : op = 0
          · exact .inl h0
          · refine .inr ⟨by omega, ?_⟩
            simp
            omega
        by_cases h4 : (q.th n).pk = true
        · have e : begin q n op = (13, q) := by unfold begin; rw [if_neg hc, if_pos (by rw [Int.toNat_natCast]; exact h4)]
          rw [e]
          rw [h4] at t5
          clear h e h1 h2 h3 h4 hc t0 g0 K5 K6
          rcases hop with rfl | ⟨rfl, hz⟩
          all_goals
            go_enter Tryd.func16, Tryd.ntmps16
            go_wp2_with fail
            refine hth.out.mono ?_
            rintro e w' ⟨rfl, rfl⟩
            go_wp2
            go_ret
            exact ⟨rfl, H.out, Fr.refl _ _⟩
        · have h4' : (q.th n).pk = false := by simpa using h4
          rw [h4'] at t5
          by_cases h5 : (q.th n).nx = .no
          · have e : begin q n op = (0, q.setT n ((q.th n).setN (if op = 1 then .a26 else .a25))) := by unfold begin; rw [if_neg hc, if_neg (by rw [Int.toNat_natCast]; exact h4), if_neg (by rw [Int.toNat_natCast]; simpa using h5), Int.toNat_natCast]
            rw [e]
            rw [h5] at t0
            have t0' : w.cell? ⟨p, n * 6, none⟩ = some .nilFunc := t0
            clear h e h1 h2 h3 h4 h4' h5 hc t0
            rcases hop with rfl | ⟨rfl, hz⟩
            · go_enter Tryd.func16, Tryd.ntmps16
              go_wp2_with fail
              refine hth.out.mono ?_
              rintro e w' ⟨rfl, rfl⟩
              go_wp2
              go_ret
              exact ⟨rfl, K5.out, fr_set _ _ _ _ _ (.inr rfl)⟩
            · go_enter Tryd.func16, Tryd.ntmps16
              go_wp2_with fail
              refine hth.out.mono ?_
              rintro e w' ⟨rfl, rfl⟩
              go_wp2
              go_ret
              exact ⟨rfl, K6.out, (fr_set _ _ _ _ _ (.inr rfl)).trans' (fr_set _ _ _ _ _ (.inr rfl))⟩
          · have e : begin q n op = (14, q) := by unfold begin; rw [if_neg hc, if_neg (by rw [Int.toNat_natCast]; exact h4), if_pos (by rw [Int.toNat_natCast]; exact h5)]
            rw [e]
            obtain ⟨m, hm⟩ := fv_func h5
            rw [hm] at t0
            clear h e h1 h2 h3 h4 h4' h5 hc hm g0 K5 K6
            rcases hop with rfl | ⟨rfl, hz⟩
            all_goals
              go_enter Tryd.func16, Tryd.ntmps16
              go_wp2_with fail
              refine hth.out.mono ?_
              rintro e w' ⟨rfl, rfl⟩
              go_wp2
              go_ret
              exact ⟨rfl, H.out, Fr.refl _ _⟩
  · have e : begin q k op = (1, q) := by unfold begin; rw [if_pos (.inl h1)]
    rw [e]
    have hth := Lib.hid (thread_out h k h1)
    clear h h1 e
    go_enter Tryd.func16, Tryd.ntmps16
    go_wp2_with fail
    refine hth.out.mono ?_
    rintro e w' ⟨rfl, rfl⟩
    go_wp2
    go_ret
    exact ⟨rfl, H.out, Fr.refl _ _⟩
end
end Go.Proofs.YtpmkdhaponhacaaDoor
