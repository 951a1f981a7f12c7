/- The reference's ring: Black and Pass. -/
import Derived.Test.YtmagenfndbaliaaP10
namespace Go.Proofs.Ytmagenfndbaliaa
open Go.RowKit
set_option linter.unusedVariables false
set_option linter.unusedSimpArgs false
section
variable {w w1 : World} {b g cap : Nat} {r : R}
theorem mblack_any (h : Mr w b g cap r) (i : Int) : Calls Try.prog 13 #[.pointer (some ⟨b, 0, none⟩), .int .i64 i] w fun e w' => e = .returned (.int .i64 (black r i).1) ∧ Mr w' b g cap (black r i).2 ∧ Fr w w' (S2 b g) := by
  have c0 := h.c0
  by_cases h1 : i < 0 ∨ (r.n : Int) ≤ i
  · have e : black r i = (6, r) := by unfold black; rw [if_pos h1]
    rw [e]
    have H := Lib.hid h
    clear h e
    generalize r.n = N at *
    rcases h1 with h1 | h1
    · go_enter Try.func13, Try.ntmps13
      go_wp2
      go_ret
      exact ⟨rfl, H.out, Fr.refl _ _⟩
    · by_cases h2 : i < 0
      · go_enter Try.func13, Try.ntmps13
        go_wp2
        go_ret
        exact ⟨rfl, H.out, Fr.refl _ _⟩
      · go_enter Try.func13, Try.ntmps13
        go_wp2
        go_ret
        exact ⟨rfl, H.out, Fr.refl _ _⟩
  · have e : black r i = (0, r.blk i.toNat) := by unfold black; rw [if_neg h1]
    rw [e]
    obtain ⟨n, rfl⟩ : ∃ n : Nat, i = n := ⟨i.toNat, by omega⟩
    have hn : n < r.n := by omega
    have ct := h.t.cell n hn
    have ft := h.t.fz n
    have hnn : (n : Int) < r.n := by omega
    have hn0 : (0 : Int) ≤ n := by omega
    have H := Lib.hid h
    clear h e h1
    generalize hN : r.n = N at c0 hnn
    go_enter Try.func13, Try.ntmps13
    go_wp2
    go_ret
    exact ⟨rfl, H.out.setBl n true, fr_set _ _ _ _ _ (.inr rfl)⟩
theorem rem_next (h n : Nat) (hh : h < n) : ((h : Int) + 1).tmod n = ((if h + 1 = n then 0 else h + 1 : Nat) : Int) := by
  rw [Int.tmod_eq_emod_of_nonneg (by omega)]
  split
  · rename_i e
    rw [← e]
    simp
  · rw [Int.emod_eq_of_lt (by omega) (by omega)]; omega
set_option maxRecDepth 100000 in
set_option maxHeartbeats 4000000 in
theorem mpass_p (h : Mr w b g cap r) (O : Ok r) (h0 : r.h ≠ 0) : Calls Try.prog 15 #[.pointer (some ⟨b, 0, none⟩), .int .i64 r.h] w fun e w' => e = .returned (.tuple #[.bool false, .int .i64 0]) ∧ Mr w' b g cap (nxt r (r.tk || r.bl r.h) (if r.h + 1 = r.n then 0 else r.h + 1) r.rd) ∧ Fr w w' (S2 b g) := by
  have hh := O.h
  have n64 := O.n2
  have c0 := h.c0
  have c1 := h.c1
  have c2 := h.c2
  have c3 := h.c3
  have ct := h.t.cell r.h hh
  have f1 := h.fb 1
  have f2 := h.fb 2
  have f3 := h.fb 3
  have ft := h.t.fz r.h
  have hne := h.ne
  have hhn : (r.h : Int) < r.n := by omega
  have hh0 : (0 : Int) ≤ r.h := by omega
  have hpos : ((r.h : Int) == 0) = false := by simp; exact h0
  have hw : IntKind.i64.wrap ((r.h : Int) + 1) = (r.h : Int) + 1 := by rw [IntKind.wrap_i64]; omega
  have hrm := rem_next r.h r.n hh
  have hX : (if r.h + 1 = r.n then 0 else r.h + 1) ≤ 64 := by split <;> omega
  have HH := Lib.hid h
  clear h O h0
  unfold nxt
  generalize (if r.h + 1 = r.n then 0 else r.h + 1) = X at *
  generalize hT : r.tk = tk at *
  generalize hB : r.bl r.h = bh at *
  generalize hH : r.h = H at *
  generalize hN : r.n = N at *
  have HE := Lib.hid (And.intro hH (And.intro hN hT))
  have hwx : IntKind.i64.wrap (X : Int) = X := by rw [IntKind.wrap_i64]; omega
  clear hT hB hH hN hX
  cases bh
  · go_enter Try.func15, Try.ntmps15
    go_wp2
    go_ret2
    refine ⟨rfl, ?_, (fr_set _ _ g H _ (.inr rfl)).trans' (fr_set _ _ b 2 _ (.inl rfl))⟩
    obtain ⟨eH, eN, eT⟩ := HE.out
    subst eH eN eT
    rw [Bool.or_false]
    exact (HH.out.setBl r.h false).setH X
  · go_enter Try.func15, Try.ntmps15
    go_wp2
    go_ret2
    refine ⟨rfl, ?_, ((fr_set _ _ b 1 _ (.inl rfl)).trans' (fr_set _ _ g H _ (.inr rfl))).trans' (fr_set _ _ b 2 _ (.inl rfl))⟩
    obtain ⟨eH, eN, eT⟩ := HE.out
    subst eH eN eT
    rw [Bool.or_true]
    exact ((HH.out.setTk true).setBl r.h false).setH X
set_option maxRecDepth 100000 in
set_option maxHeartbeats 4000000 in
theorem mpass_z (h : Mr w b g cap r) (O : Ok r) (h0 : r.h = 0) : Calls Try.prog 15 #[.pointer (some ⟨b, 0, none⟩), .int .i64 0] w fun e w' => e = .returned (.tuple #[.bool (r.rd && !r.tk && !r.bl 0), .int .i64 0]) ∧ Mr w' b g cap (nxt r false (if 0 + 1 = r.n then 0 else 0 + 1) true) ∧ Fr w w' (S2 b g) := by
  have hh := O.h
  have n64 := O.n2
  have c0 := h.c0
  have c1 := h.c1
  have c2 := h.c2
  rw [h0] at c2
  have c3 := h.c3
  have ct := h.t.cell 0 (by omega)
  have f1 := h.fb 1
  have f2 := h.fb 2
  have f3 := h.fb 3
  have ft := h.t.fz 0
  have hne := h.ne
  have hhn : (0 : Int) < r.n := by omega
  have hnz : ((r.n : Int) == 0) = false := by simp; omega
  have hrm : (1 : Int).tmod r.n = ((if 0 + 1 = r.n then 0 else 0 + 1 : Nat) : Int) := rem_next 0 r.n (by omega)
  have hX : (if 0 + 1 = r.n then 0 else 0 + 1) ≤ 64 := by split <;> omega
  have HH := Lib.hid h
  have H0 := Lib.hid h0
  clear h O h0 hh
  unfold nxt
  generalize (if 0 + 1 = r.n then 0 else 0 + 1) = X at *
  generalize hT : r.tk = tk at *
  generalize hB : r.bl 0 = bh at *
  generalize hR : r.rd = rd at *
  generalize hN : r.n = N at *
  have HE := Lib.hid hN
  have hwx : IntKind.i64.wrap (X : Int) = X := by rw [IntKind.wrap_i64]; omega
  clear hT hB hN hR hX
  cases rd <;> cases tk <;> cases bh
  all_goals
    go_enter Try.func15, Try.ntmps15
    go_wp2
    go_ret2
    refine ⟨rfl, ?_, (((fr_set _ _ b 1 _ (.inl rfl)).trans' (fr_set _ _ b 3 _ (.inl rfl))).trans' (fr_set _ _ g 0 _ (.inr rfl))).trans' (fr_set _ _ b 2 _ (.inl rfl))⟩
    have eN := HE.out
    have e0 := H0.out
    subst eN
    rw [e0]
    exact (((HH.out.setTk false).setRd true).setBl 0 false).setH X
theorem mpass_any (h : Mr w b g cap r) (O : Ok r) (i : Int) : Calls Try.prog 15 #[.pointer (some ⟨b, 0, none⟩), .int .i64 i] w fun e w' => e = .returned (.tuple #[.bool (pass r i).1.1, .int .i64 (pass r i).1.2]) ∧ Mr w' b g cap (pass r i).2 ∧ Fr w w' (S2 b g) := by
  have c0 := h.c0
  by_cases h1 : i < 0 ∨ (r.n : Int) ≤ i
  · have e : pass r i = ((false, 6), r) := by unfold pass; rw [if_pos h1]
    rw [e]
    have H := Lib.hid h
    clear h e O
    generalize r.n = N at *
    rcases h1 with h1 | h1
    · go_enter Try.func15, Try.ntmps15
      go_wp2
      go_ret2
      exact ⟨rfl, H.out, Fr.refl _ _⟩
    · by_cases h2 : i < 0
      · go_enter Try.func15, Try.ntmps15
        go_wp2
        go_ret2
        exact ⟨rfl, H.out, Fr.refl _ _⟩
      · go_enter Try.func15, Try.ntmps15
        go_wp2
        go_ret2
        exact ⟨rfl, H.out, Fr.refl _ _⟩
  · by_cases h2 : i = r.h
    · rw [h2, pass_go O]
      by_cases h0 : r.h = 0
      · have ht : r.tells = (r.rd && !r.tk && !r.bl 0) := by unfold R.tells; simp [h0]
        rw [ht, go_z r h0, h0]
        exact mpass_z h O h0
      · have ht : r.tells = false := by unfold R.tells; simp [h0]
        rw [ht, go_p r h0]
        exact mpass_p h O h0
    · have e : pass r i = ((false, 13), r) := by unfold pass; rw [if_neg h1, if_pos h2]
      rw [e]
      have c2 := h.c2
      have hb : (i == r.h) = false := by simp; exact h2
      have hi0 : ¬ i < 0 := by omega
      have hin : ¬ (r.n : Int) ≤ i := by omega
      have H := Lib.hid h
      clear h e h1 O h2
      generalize (r.h : Int) = hh at *
      generalize r.n = N at *
      go_enter Try.func15, Try.ntmps15
      go_wp2
      go_ret2
      exact ⟨rfl, H.out, Fr.refl _ _⟩
end
end Go.Proofs.Ytmagenfndbaliaa
