/- The reference's ring: Take, Pop, At; and the ring's At. -/
import Derived.Test.YtcofoknkmkfbkaaP12
namespace Go.Proofs.Ytcofoknkmkfbkaa
open Go.RowKit Go.Shelf
set_option linter.unusedVariables false
set_option linter.unusedSimpArgs false
section
variable {w w1 : World} {c B N : Nat} {v : Value} {l : List Int}
theorem IsM.setS (h : IsM w c B N v l) (v' : Value) (l' : List Int) (hle : l'.length ≤ N) (ho : Lo w B v' l') : IsM (w.setCell ⟨c, 0, none⟩ v') c B N v' l' :=
  ⟨(h.s.set _ _).congr (fun i hi => by match i, hi with | 0, _ => rfl | 1, _ => rfl), ho.blk (fun k hk hB => Below.heap_setCell _ _ _ _ (by have := h.cB; show k ≠ c; omega)), h.cB, by rw [World.size_setCell]; exact h.bs, h.n1, h.n2, hle⟩
set_option maxRecDepth 100000 in
set_option maxHeartbeats 2000000 in
theorem m_take (h : IsM w c B N v l) : Calls Try.prog 36 #[.pointer (some ⟨c, 0, none⟩)] w fun e w' => e = .returned (.tuple #[.int .i64 (l.headD 0), .bool (!l.isEmpty)]) ∧ ∃ v', IsM w' c B N v' l.tail ∧ Cm w w' c B := by
  cases l with
  | nil =>
    obtain ⟨a, cap, rfl⟩ := lo_slice h.o
    have c0 := h.c0
    have H := Lib.hid h
    clear h
    simp only [List.length_nil] at c0
    go_enter Try.func36, Try.ntmps36
    go_wp2
    go_ret2
    exact ⟨rfl, _, H.out, Cm.refl _ _ _⟩
  | cons y l =>
    have H := Lib.hid h
    rcases h.o with ⟨_, h0⟩ | ⟨g, off, cap, cur, rfl, hg, hc, hn, ho, hi2⟩
    · cases h0
    have c0 := h.c0
    have hf := h.froz 0
    have hle := h.le
    have hn2 := h.n2
    have hcy : w.cell? ⟨g, off, none⟩ = some (.int .i64 y) := by
      have := hi2 0 (by simp)
      rw [Nat.add_zero] at this
      rw [cell_of_row w g off cur 3 (0, 0) hc, this]; rfl
    have hne : c ≠ g := by have := h.cB; omega
    have HL : Hid (∀ cap', l.length ≤ cap' → 1 + cap' ≤ cap → Lo w B (.slice (some ⟨g, off + 1, none⟩) l.length cap') l) := Lib.hid (fun cap' h1 h2 => .inr ⟨g, off + 1, cap', cur, rfl, hg, hc, h1, by omega, fun i hi => by
      have := hi2 (i + 1) (by simp; omega)
      rw [show off + 1 + i = off + (i + 1) by omega, this]; rfl⟩)
    have HL0 : Hid (l = [] → ∀ o k, o + k ≤ cur.size → Lo w B (.slice (some ⟨g, o, none⟩) 0 k) l) := Lib.hid (fun e o k hk => .inr ⟨g, o, k, cur, by subst e; rfl, hg, hc, by subst e; simp, hk, fun i hi => by subst e; simp at hi⟩)
    have hlen : (y :: l).length = l.length + 1 := rfl
    rw [hlen] at c0 hn hle
    have h1n : l.length + 1 ≤ cap := hn
    have hoc : off + cap ≤ cur.size := ho
    clear h hi2 hc hlen
    have hn0 : (((l.length + 1 : Nat) : Int) == 0) = false := by simp; omega
    have hcp : l.length = 0 → l = [] := fun e => List.eq_nil_of_length_eq_zero e
    have HCP := Lib.hid hcp
    clear hcp
    generalize hq : l.length = q at *
    have HQ := Lib.hid hq
    clear hq
    go_enter Try.func36, Try.ntmps36
    go_wp2
    all_goals go_ret2
    · obtain rfl : q = 0 := by omega
      exact ⟨rfl, ⟨_, H.out.setS _ l (by rw [HQ.out]; omega) (HL0.out (HCP.out rfl) off 0 (by omega))⟩, cm_gb (gb_set _ _ _ _) _ _ (fun k e => by cases e; exact .inl rfl)⟩
    · exact ⟨rfl, ⟨_, H.out.setS _ l (by rw [HQ.out]; omega) (HL.out (cap - 1) (by omega) (by omega))⟩, cm_gb (gb_set _ _ _ _) _ _ (fun k e => by cases e; exact .inl rfl)⟩
set_option maxRecDepth 100000 in
set_option maxHeartbeats 2000000 in
theorem m_pop0 (h : IsM w c B N v []) : Calls Try.prog 37 #[.pointer (some ⟨c, 0, none⟩)] w fun e w' => e = .returned (.tuple #[.int .i64 0, .bool false]) ∧ ∃ v', IsM w' c B N v' [] ∧ Cm w w' c B := by
  obtain ⟨a, cap, rfl⟩ := lo_slice h.o
  have c0 := h.c0
  have H := Lib.hid h
  clear h
  simp only [List.length_nil] at c0
  go_enter Try.func37, Try.ntmps37
  go_wp2
  go_ret2
  exact ⟨rfl, _, H.out, Cm.refl _ _ _⟩
set_option maxRecDepth 100000 in
set_option maxHeartbeats 2000000 in
theorem m_pop1 {y : Int} (h : IsM w c B N v (l ++ [y])) : Calls Try.prog 37 #[.pointer (some ⟨c, 0, none⟩)] w fun e w' => e = .returned (.tuple #[.int .i64 y, .bool true]) ∧ ∃ v', IsM w' c B N v' l ∧ Cm w w' c B := by
  have H := Lib.hid h
  rcases h.o with ⟨_, h0⟩ | ⟨g, off, cap, cur, rfl, hg, hc, hn, ho, hi2⟩
  · simp at h0
  have c0 := h.c0
  have hf := h.froz 0
  have hle := h.le
  have hn2 := h.n2
  have hcy : w.cell? ⟨g, off + l.length, none⟩ = some (.int .i64 y) := by
    have := hi2 l.length (by simp)
    rw [cell_of_row w g _ cur 3 (0, 0) hc, this]; simp
  have hne : c ≠ g := by have := h.cB; omega
  have HL : Hid (Lo w B (.slice (some ⟨g, off, none⟩) l.length cap) l) := Lib.hid (.inr ⟨g, off, cap, cur, rfl, hg, hc, by simp at hn; omega, by omega, fun i hi => by
    have := hi2 i (by simp; omega)
    rw [this, List.getD_eq_getElem?_getD, List.getD_eq_getElem?_getD, List.getElem?_append_left (by omega)]⟩)
  have hlen : (l ++ [y]).length = l.length + 1 := by simp
  rw [hlen] at c0 hn hle
  have hn0 : (((l.length + 1 : Nat) : Int) == 0) = false := by simp; omega
  have hw : IntKind.i64.wrap (((l.length + 1 : Nat) : Int) - 1) = l.length := by rw [IntWalk.i64_in _ (by omega)]; omega
  clear h hi2 hc hlen
  generalize hq : l.length = q at *
  have HQ := Lib.hid hq
  clear hq
  go_enter Try.func37, Try.ntmps37
  go_wp2
  go_ret2
  exact ⟨rfl, _, H.out.setS _ l (by rw [HQ.out]; omega) HL.out, cm_gb (gb_set _ _ _ _) _ _ (fun k e => by cases e; exact .inl rfl)⟩
set_option maxHeartbeats 2000000 in
theorem m_at_in (h : IsM w c B N v l) (i : Nat) (hi : i < l.length) : Calls Try.prog 39 #[.pointer (some ⟨c, 0, none⟩), .int .i64 i] w fun e w' => e = .returned (.tuple #[.int .i64 (l.getD i 0), .bool true]) ∧ w' = w := by
  rcases h.o with ⟨_, h0⟩ | ⟨g, off, cap, cur, rfl, hg, hc, hn, ho, hi2⟩
  · subst h0; simp at hi
  have c0 := h.c0
  have hle := h.le
  have hn2 := h.n2
  have hcy : w.cell? ⟨g, off + i, none⟩ = some (.int .i64 (l.getD i 0)) := by
    rw [cell_of_row w g _ cur 3 (0, 0) hc, hi2 i hi]
  have hlt : ¬ ((l.length : Int) ≤ (i : Int)) := by omega
  have hn0 : ¬ ((i : Int) < 0) := by omega
  clear h hi2 hc
  generalize l.getD i 0 = y at *
  generalize l.length = q at *
  go_enter Try.func39, Try.ntmps39
  go_wp2
  go_ret2
  exact ⟨rfl, rfl⟩
set_option maxHeartbeats 2000000 in
theorem m_at_out (h : IsM w c B N v l) (i : Int) (hi : i = -1 ∨ i = (l.length : Int)) : Calls Try.prog 39 #[.pointer (some ⟨c, 0, none⟩), .int .i64 i] w fun e w' => e = .returned (.tuple #[.int .i64 0, .bool false]) ∧ w' = w := by
  obtain ⟨a, cap, rfl⟩ := lo_slice h.o
  have c0 := h.c0
  clear h
  generalize l.length = q at *
  rcases hi with rfl | rfl
  · go_enter Try.func39, Try.ntmps39
    go_wp2
    go_ret2
    exact ⟨rfl, rfl⟩
  · have hn0 : ¬ ((q : Int) < 0) := by omega
    go_enter Try.func39, Try.ntmps39
    go_wp2
    go_ret2
    exact ⟨rfl, rfl⟩
end
section
variable {w : World} {b d N : Nat} {l : List Int}
set_option maxHeartbeats 2000000 in
theorem r_at_in (h : IsR w b d N l) (i : Nat) (hi : i < l.length) : Calls Try.prog 38 #[.pointer (some ⟨b, 0, none⟩), .int .i64 i] w fun e w' => e = .returned (.tuple #[.int .i64 (l.getD i 0), .bool true]) ∧ ∃ k, w' = w.drewN k := by
  have HL := Lib.hid (r_len h)
  obtain ⟨f, ar, r, hi2⟩ := h.p
  have hle := r.cN
  have hn2 := r.n2
  have hP := Nat.mod_lt (f + i) (show N > 0 by have := r.n1; omega)
  have hy := r.at_ _ hP
  rw [hi2 i hi] at hy
  have ht := r.things
  have HP := Lib.hid (fun (w1 : World) (e : w1.heap = w.heap) => place_any (r.same e) i (by omega))
  have hlt : ¬ ((l.length : Int) ≤ (i : Int)) := by omega
  have hn0 : ¬ ((i : Int) < 0) := by omega
  clear h r hi2
  generalize (f + i) % N = p at *
  generalize hyy : l.getD i 0 = y at *
  have HYY := Lib.hid hyy
  clear hyy
  generalize l.length = q at *
  go_enter Try.func38, Try.ntmps38
  go_wp2_with fail
  refine HL.out.mono ?_
  rintro e w' ⟨rfl, rfl⟩
  go_wp2_with fail
  go_region_with (go_at_call 41; refine (HP.out _ (by rfl)).mono ?_; rintro e w' ⟨rfl, k2, rfl⟩)
  all_goals go_wp2
  all_goals go_ret2
  all_goals exact ⟨rfl, _, rfl⟩
set_option maxHeartbeats 2000000 in
theorem r_at_out (h : IsR w b d N l) (i : Int) (hi : i = -1 ∨ i = (l.length : Int)) : Calls Try.prog 38 #[.pointer (some ⟨b, 0, none⟩), .int .i64 i] w fun e w' => e = .returned (.tuple #[.int .i64 0, .bool false]) ∧ w' = w := by
  have HL := Lib.hid (r_len h)
  clear h
  rcases hi with rfl | rfl
  · go_enter Try.func38, Try.ntmps38
    go_wp2
    go_ret2
    exact ⟨rfl, rfl⟩
  · generalize l.length = q at *
    have hn0 : ¬ ((q : Int) < 0) := by omega
    go_enter Try.func38, Try.ntmps38
    go_wp2_with fail
    refine HL.out.mono ?_
    rintro e w' ⟨rfl, rfl⟩
    go_wp2
    go_ret2
    exact ⟨rfl, rfl⟩
end
end Go.Proofs.Ytcofoknkmkfbkaa
