/- The table's Free and Alloc. -/
import Derived.Test.YtijhgegdcpmppaaP1
namespace Go.Proofs.Ytijhgegdcpmppaa
open Go.RowKit
set_option linter.unusedVariables false
set_option linter.unusedSimpArgs false

set_option maxHeartbeats 1000000 in
theorem free_raw (b : Nat) (pid : Int) (w : World) (s : Nat) (hs : s < 32) (g l : Int) (hc : w.cell? ⟨b, s * 2, none⟩ = some (.int .i64 g)) (hd : w.cell? ⟨b, s * 2 + 1, none⟩ = some (.bool true)) (hl : w.cell? ⟨b, 64, none⟩ = some (.int .i64 l))
    (hf : ∀ i, w.frozen? ⟨b, i, none⟩ = false) (h0 : 0 ≤ g) (h1 : g ≤ 1048575) (l0 : 0 ≤ l) (l1 : l ≤ 32)
    (HS : Calls Try.prog 11 #[.pointer (some ⟨b, 0, none⟩), .int .i64 pid] w fun e w' => e = .returned (.tuple #[.int .i64 s, .bool true]) ∧ w = w') :
    Calls Try.prog 10 #[.pointer (some ⟨b, 0, none⟩), .int .i64 pid] w fun e w' => e = .returned (.int .i64 0) ∧ w' = (((w.setCell ⟨b, s * 2 + 1, none⟩ (.bool false)).setCell ⟨b, s * 2, none⟩ (.int .i64 (g + 1))).setCell ⟨b, 64, none⟩ (.int .i64 (l - 1))).drew := by
  have H := Lib.hid HS
  have n1 : ¬ (64 = s * 2) := by omega
  have n2 : ¬ (s * 2 = 64) := by omega
  have n3 : ¬ (64 = s * 2 + 1) := by omega
  have n4 : ¬ (s * 2 + 1 = 64) := by omega
  clear HS
  go_enter Try.func10, Try.ntmps10
  go_wp2_with (go_at_call 11; refine (H.out).mono ?_; rintro e w' ⟨rfl, rfl⟩)
  go_region
  all_goals go_wp2
  go_ret; exact ⟨rfl, rfl⟩
theorem free_no (b : Nat) (pid : Int) (w : World)
    (HS : Calls Try.prog 11 #[.pointer (some ⟨b, 0, none⟩), .int .i64 pid] w fun e w' => e = .returned (.tuple #[.int .i64 0, .bool false]) ∧ w = w') :
    Calls Try.prog 10 #[.pointer (some ⟨b, 0, none⟩), .int .i64 pid] w fun e w' => e = .returned (.int .i64 6) ∧ w = w' := by
  have H := Lib.hid HS
  clear HS
  go_enter Try.func10, Try.ntmps10
  go_wp2_with (go_at_call 11; refine (H.out).mono ?_; rintro e w' ⟨rfl, rfl⟩)
  go_ret; exact ⟨rfl, rfl⟩
theorem free_nil (pid : Int) (w : World) : Calls Try.prog 10 #[.pointer none, .int .i64 pid] w fun e w' => e = .returned (.int .i64 1) ∧ w = w' := by
  go_enter Try.func10, Try.ntmps10
  go_wp2
  go_ret; exact ⟨rfl, rfl⟩

theorem countP_le32 (f : Nat → Bool) : (List.range 32).countP f ≤ 32 := by
  have := List.countP_le_length (p := f) (l := List.range 32); simpa using this
theorem countP_pos (f : Nat → Bool) (s : Nat) (hs : s < 32) (h : f s = true) : 0 < (List.range 32).countP f :=
  List.countP_pos_iff.2 ⟨s, List.mem_range.2 hs, h⟩

theorem free_any (b : Nat) (t : Tb) (pid : Int) (w : World) (h : IsTb w b t) (ok : t.Ok) (hp2 : pid ≤ 9223372036854775807) :
    Calls Try.prog 10 #[.pointer (some ⟨b, 0, none⟩), .int .i64 pid] w fun e w' => e = .returned (.int .i64 (t.freeE pid)) ∧ IsTb w' b (t.freeT pid) ∧ w.grownBy w' (some b) := by
  have HS := slot_any b t pid w h ok hp2
  cases hh : t.has pid
  · have e2 : t.slotV pid = 0 := by unfold Tb.slotV; simp [hh]
    rw [hh, e2] at HS
    refine (free_no b pid w HS).mono ?_
    rintro e w' ⟨rfl, rfl⟩
    refine ⟨by unfold Tb.freeE; simp [hh], ?_, gb_refl _ _⟩
    have e1 : t.freeT pid = t := by unfold Tb.freeT; simp [hh]
    rw [e1]; exact h
  · have e2 : t.slotV pid = (Tb.at_ pid : Int) := by unfold Tb.slotV; simp [hh]
    rw [hh, e2] at HS
    have ha := Tb.at_lt pid
    have htk : t.tk (Tb.at_ pid) = true := by unfold Tb.has at hh; simp at hh; exact hh.2.1
    refine (free_raw b pid w (Tb.at_ pid) ha (t.gen (Tb.at_ pid)) t.live (h.gen _ ha) (by rw [h.tk _ ha, htk]) h.live h.frozen (ok.g0 _ ha) (by have := ok.g2 _ ha htk; omega) (by rw [ok.l]; omega) (by rw [ok.l]; have := countP_le32 t.tk; omega) HS).mono ?_
    rintro e w' ⟨rfl, rfl⟩
    refine ⟨by unfold Tb.freeE; simp [hh], ?_, gb_trans (gb_trans (gb_trans (gb_set _ _ _ _) (gb_set _ _ _ _)) (gb_set _ _ _ _)) (gb_drew _ _)⟩
    have e1 : t.freeT pid = ⟨fun s => if s = Tb.at_ pid then t.gen s + 1 else t.gen s, fun s => if s = Tb.at_ pid then false else t.tk s, t.live - 1⟩ := by unfold Tb.freeT; simp [hh]
    rw [e1]
    refine World.rowIs.drew ?_
    refine ((((h : w.rowIs b 57 65 t.cell).set _ _).set _ _).set _ _).congr (fun i hi => ?_)
    simp only [Tb.cell]
    by_cases c1 : i = 64
    · simp [c1]
    · by_cases c2 : i % 2 = 0
      · by_cases c3 : i = Tb.at_ pid * 2
        · have c4 : i / 2 = Tb.at_ pid := by omega
          simp only [c1, c2, c3, if_true, if_false]; simp
        · have c4 : ¬ i / 2 = Tb.at_ pid := by omega
          have c5 : ¬ i = Tb.at_ pid * 2 + 1 := by omega
          simp only [c1, c2, c3, c4, c5, if_true, if_false]
      · by_cases c3 : i = Tb.at_ pid * 2 + 1
        · have c4 : i / 2 = Tb.at_ pid := by omega
          have c5 : ¬ i = Tb.at_ pid * 2 := by omega
          simp only [c1, c2, c5, c4, if_false, if_true, if_pos c3]
        · have c4 : ¬ i / 2 = Tb.at_ pid := by omega
          have c5 : ¬ i = Tb.at_ pid * 2 := by omega
          simp only [c1, c2, c3, c4, c5, if_false]

theorem allocT_is {w : World} {b n : Nat} {t : Tb} (h : IsTb w b t) (hn : n < 32) (hf : t.first = n) :
    IsTb ((w.setCell ⟨b, n * 2 + 1, none⟩ (.bool true)).setCell ⟨b, 64, none⟩ (.int .i64 (t.live + 1))) b t.allocT := by
  have e1 : t.allocT = { t with tk := fun s => if s = n then true else t.tk s, live := t.live + 1 } := by unfold Tb.allocT; rw [hf, if_pos hn]
  rw [e1]
  refine (((h : w.rowIs b 57 65 t.cell).set _ _).set _ _).congr (fun i hi => ?_)
  simp only [Tb.cell]
  by_cases c1 : i = 64
  · simp [c1]
  · by_cases c2 : i % 2 = 0
    · have c5 : ¬ i = n * 2 + 1 := by omega
      simp only [c1, c2, c5, if_true, if_false]
    · by_cases c3 : i = n * 2 + 1
      · have c4 : i / 2 = n := by omega
        simp only [c1, c2, c4, if_false, if_true, if_pos c3]
      · have c4 : ¬ i / 2 = n := by omega
        simp only [c1, c2, c3, c4, if_false]

set_option maxHeartbeats 1000000 in
theorem alloc_any (b : Nat) (t : Tb) (w : World) (h : IsTb w b t) (ok : t.Ok) :
    Calls Try.prog 9 #[.pointer (some ⟨b, 0, none⟩)] w fun e w' => e = .returned (.tuple #[.int .i64 t.allocV, .int .i64 t.allocE]) ∧ IsTb w' b t.allocT ∧ w.grownBy w' (some b) := by
  go_enter Try.func9, Try.ntmps9
  go_wp2
  go_loop [4, 8] (fun s k => ∃ n : Nat, n ≤ 32 ∧ k = .int .i64 n ∧ Hid (∀ j, j < n → t.free j = false)) (fun _ k => 32 - (intOf k).toNat)
  case atStart => exact ⟨0, by omega, rfl, fun j hj => by omega⟩
  case round =>
    obtain ⟨n, hn, rfl, hb⟩ := hrel
    by_cases hlt : n < 32
    · have hg := h.gen n hlt
      have ht := h.tk n hlt
      have hl := h.live
      have hf := h.frozen
      have g0 := ok.g0 n hlt
      have g1 := ok.g1 n hlt
      have l0 : 0 ≤ t.live := by rw [ok.l]; omega
      have l1 : t.live ≤ 32 := by rw [ok.l]; have := countP_le32 t.tk; omega
      have n3 : ¬ (64 = n * 2 + 1) := by omega
      have n4 : ¬ (n * 2 + 1 = 64) := by omega
      have n1 : ¬ (64 = n * 2) := by omega
      cases hfr : t.free n
      · have hfr' := Lib.hid hfr
        go_wp2
        · exact ⟨⟨n + 1, by omega, by go_num, fun j hj => by by_cases e : j = n; (subst e; exact hfr'.out); exact hb.out j (by omega)⟩, by simp [intOf]; omega⟩
        · have q3 : ¬ t.tk n = true := by assumption
          have q4 : t.gen n < 1048576 := by assumption
          exfalso; unfold Tb.free at hfr; simp [q3] at hfr; omega
        · exact ⟨⟨n + 1, by omega, by go_num, fun j hj => by by_cases e : j = n; (subst e; exact hfr'.out); exact hb.out j (by omega)⟩, by simp [intOf]; omega⟩
      · have h1 : t.tk n = false := by unfold Tb.free at hfr; simp at hfr; exact hfr.1
        have h2 : t.gen n < 1048576 := by unfold Tb.free at hfr; simp at hfr; exact hfr.2
        have hfr' := Lib.hid hfr
        clear hfr
        have HG := Lib.hid (row_val (((h : w.rowIs b 57 65 t.cell).set (n * 2 + 1) (.bool true)).set 64 (.int .i64 (t.live + 1))) (i := n * 2) (by omega) (v := .int .i64 (t.gen n)) (by
          rw [if_neg (by omega), if_neg (by omega)]; exact t.cell_gen n hlt))
        go_wp2_with (go_at_call 24; refine (pid_raw b n (t.gen n) _ hlt HG.out g0 g1).mono ?_; rintro e w' ⟨rfl, rfl⟩)
        have e := t.first_spec n hlt hfr'.out hb.out
        go_ret2
        refine ⟨rt2 (ri ?_) (ri ?_), allocT_is h hlt e, gb_trans (gb_set _ _ _ _) (gb_set _ _ _ _)⟩
        · unfold Tb.allocV; rw [e, if_pos hlt]; rfl
        · unfold Tb.allocE; rw [e, if_pos hlt]
    · go_wp2
      go_ret2
      obtain rfl : n = 32 := by omega
      have e := t.first_none hb.out
      have e1 : t.allocT = t := by unfold Tb.allocT; rw [e]; rfl
      refine ⟨rt2 (ri ?_) (ri ?_), ?_, gb_refl _ _⟩
      · unfold Tb.allocV; rw [e]; rfl
      · unfold Tb.allocE; rw [e]; rfl
      · rw [e1]; exact h
theorem alloc_nil (w : World) : Calls Try.prog 9 #[.pointer none] w fun e w' => e = .returned (.tuple #[.int .i64 0, .int .i64 1]) ∧ w = w' := by
  go_enter Try.func9, Try.ntmps9
  go_wp2
  go_ret2; exact ⟨rfl, rfl⟩
end Go.Proofs.Ytijhgegdcpmppaa
