/- The reference's Step and Begin. -/
import Derived.Test.YtpmkdhaponhacaaDoorP19
namespace Go.Proofs.YtpmkdhaponhacaaDoor
open Go.RowKit
set_option linter.unusedVariables false
set_option linter.unusedSimpArgs false
def rmore (r : R) (k : Nat) : R := r.setY k { r.th k with made := (r.th k).made + 1 }
def rstep (r : R) (k : Int) (m : Nat) : (Int × Nat × Int) × R :=
  if ¬ (0 ≤ k ∧ k < (r.n : Int)) then ((0, 0, 1), r)
  else if (r.th k.toNat).on = false then ((0, 0, 13), r)
  else if (r.th k.toNat).op = 0 then (((rgive (rmore r k.toNat) k.toNat m).1.1, (rgive (rmore r k.toNat) k.toNat m).1.2, 0), (rgive (rmore r k.toNat) k.toNat m).2)
  else (((rseek (rmore r k.toNat) k.toNat).1, 0, 0), (rseek (rmore r k.toNat) k.toNat).2)
def rbegin (r : R) (k op : Int) : Int × R :=
  if ¬ (0 ≤ k ∧ k < (r.n : Int)) ∨ (op ≠ 0 ∧ op ≠ 1) ∨ (op = 1 ∧ k = 0) then (1, r)
  else if (r.th k.toNat).pk = true then (13, r)
  else if (r.th k.toNat).on = true then (14, r)
  else (0, r.setY k.toNat { r.th k.toNat with on := true, op := op, made := 0 })
def Ps (w : World) (c g : Nat) (x : (Int × Nat × Int) × R) (e : Ending) (w' : World) : Prop := e = .returned (.tuple #[.int .i64 x.1.1, .int .i64 (x.1.2.1 : Int), .int .i64 x.1.2.2]) ∧ Rf w' c g x.2 ∧ Fr w w' (S2 c g)
section
variable {w w1 : World} {c g : Nat} {r : R}
set_option maxRecDepth 100000 in
set_option maxHeartbeats 4000000 in
theorem rstep_no (h : Rf w c g r) (k : Int) (h1 : k < 0 ∨ (r.n : Int) ≤ k) : Calls Tryd.prog 19 #[.pointer (some ⟨c, 0, none⟩), .int .i64 k] w fun e w' => e = .returned (.tuple #[.int .i64 0, .int .i64 0, .int .i64 1]) ∧ w' = w := by
  have c2 := h.c2
  clear h
  by_cases h2 : k < 0
  · go_enter Tryd.func19, Tryd.ntmps19
    go_wp2
    go_returns
    exact ⟨rfl, rfl⟩
  · have h3 : (r.n : Int) ≤ k := by omega
    clear h1
    go_enter Tryd.func19, Tryd.ntmps19
    go_wp2
    go_returns
    exact ⟨rfl, rfl⟩
set_option maxRecDepth 100000 in
set_option maxHeartbeats 4000000 in
theorem rstep_off (h : Rf w c g r) (k : Nat) (hk : k < r.n) (ho : (r.th k).on = false) : Calls Tryd.prog 19 #[.pointer (some ⟨c, 0, none⟩), .int .i64 k] w fun e w' => e = .returned (.tuple #[.int .i64 0, .int .i64 0, .int .i64 13]) ∧ w' = w := by
  have c2 := h.c2
  have t0 := h.t0 k hk
  have hcg := h.ne
  have hcg' := Ne.symm h.ne
  have hk1 : (k : Int) < (r.n : Int) := by omega
  have hk0 : (0 : Int) ≤ (k : Int) := by omega
  rw [ho] at t0
  clear h ho
  go_enter Tryd.func19, Tryd.ntmps19
  go_wp2
  go_returns
  exact ⟨rfl, rfl⟩
set_option maxRecDepth 100000 in
set_option maxHeartbeats 4000000 in
theorem rstep_give (h : Rf w c g r) (k m : Nat) (hk : k < r.n) (ho : (r.th k).on = true) (hp : (r.th k).op = 0) (h1 : (r.th k).made = 0 ∨ (r.th k).made = 1 ∨ (r.th k).made = 2 ∨ (r.th k).made = 3) (hm : Least r m) (hkk : (r.th k).k < r.n) :
    Calls Tryd.prog 19 #[.pointer (some ⟨c, 0, none⟩), .int .i64 k] w fun e w' => e = .returned (.tuple #[.int .i64 (rgive (rmore r k) k m).1.1, .int .i64 ((rgive (rmore r k) k m).1.2 : Int), .int .i64 0]) ∧ Rf w' c g (rgive (rmore r k) k m).2 ∧ Fr w w' (S2 c g) := by
  have c2 := h.c2
  have t0 := h.t0 k hk
  have hcg := h.ne
  have hcg' := Ne.symm h.ne
  have hk1 : (k : Int) < (r.n : Int) := by omega
  have hk0 : (0 : Int) ≤ (k : Int) := by omega
  rw [ho] at t0
  have t1 := h.t1 k hk
  rw [hp] at t1
  have t2 := h.t2 k hk
  have g2 := h.fg (k * 9 + 2)
  have e2 : wrap64 ((r.th k).made + 1) = (r.th k).made + 1 := wrE _ (by omega) (by omega)
  have HG := Lib.hid (give_any (h.f2 k hk ((r.th k).made + 1)) k m hk (by rw [setY_at]; dsimp only; omega) (by
    have key : ∀ j, ((r.setY k { r.th k with made := (r.th k).made + 1 }).th j).idle = (r.th j).idle := fun j => by
      by_cases e : j = k
      · subst e; rw [setY_at]
      · rw [setY_ne _ _ _ _ e]
    rcases hm with ⟨a, b⟩ | ⟨a, b, d, f⟩
    · exact .inl ⟨a, fun j h1 h2 => by rw [key]; exact b j h1 h2⟩
    · exact .inr ⟨a, b, by rw [key]; exact d, fun j h1 h2 => by rw [key]; exact f j h1 h2⟩) (by rw [setY_at]; exact hkk))
  rw [show r.setY k { r.th k with made := (r.th k).made + 1 } = rmore r k from rfl] at HG
  clear h ho hp h1 hm hkk
  generalize rgive (rmore r k) k m = G at *
  generalize (r.th k).made = M at *
  go_enter Tryd.func19, Tryd.ntmps19
  go_wp2_with fail
  rw [e2]
  refine HG.out.mono ?_
  rintro e w2 ⟨rfl, k1, k2⟩
  go_wp2
  go_returns
  exact ⟨rfl, k1, (fr_set _ _ _ _ _ (.inr rfl)).trans' k2⟩
set_option maxRecDepth 100000 in
set_option maxHeartbeats 4000000 in
theorem rstep_seek (h : Rf w c g r) (k : Nat) (hk : k < r.n) (ho : (r.th k).on = true) (hp : (r.th k).op = 1) (h1 : (r.th k).made = 0 ∨ (r.th k).made = 1 ∨ (r.th k).made = 2 ∨ (r.th k).made = 3 ∨ (r.th k).made = 4) :
    Calls Tryd.prog 19 #[.pointer (some ⟨c, 0, none⟩), .int .i64 k] w fun e w' => e = .returned (.tuple #[.int .i64 (rseek (rmore r k) k).1, .int .i64 0, .int .i64 0]) ∧ Rf w' c g (rseek (rmore r k) k).2 ∧ Fr w w' (S2 c g) := by
  have c2 := h.c2
  have t0 := h.t0 k hk
  have hcg := h.ne
  have hcg' := Ne.symm h.ne
  have hk1 : (k : Int) < (r.n : Int) := by omega
  have hk0 : (0 : Int) ≤ (k : Int) := by omega
  rw [ho] at t0
  have t1 := h.t1 k hk
  rw [hp] at t1
  have t2 := h.t2 k hk
  have g2 := h.fg (k * 9 + 2)
  have e2 : wrap64 ((r.th k).made + 1) = (r.th k).made + 1 := wrE _ (by omega) (by omega)
  have HG := Lib.hid (seek_any (h.f2 k hk ((r.th k).made + 1)) k hk (by rw [setY_at]; dsimp only; omega))
  rw [show r.setY k { r.th k with made := (r.th k).made + 1 } = rmore r k from rfl] at HG
  clear h ho hp h1
  generalize rseek (rmore r k) k = G at *
  generalize (r.th k).made = M at *
  go_enter Tryd.func19, Tryd.ntmps19
  go_wp2_with fail
  rw [e2]
  refine HG.out.mono ?_
  rintro e w2 ⟨rfl, k1, k2⟩
  go_wp2
  go_returns
  exact ⟨rfl, k1, (fr_set _ _ _ _ _ (.inr rfl)).trans' k2⟩
set_option maxRecDepth 100000 in
set_option maxHeartbeats 4000000 in
theorem rbegin_in (h : Rf w c g r) (k : Nat) (hk : k < r.n) (op : Int) (hop : op = 0 ∨ (op = 1 ∧ (((k : Nat) : Int) == 0) = false)) (x : Int × R) (hx : ((r.th k).pk = true ∧ x = (13, r)) ∨ ((r.th k).pk = false ∧ (r.th k).on = true ∧ x = (14, r)) ∨ ((r.th k).pk = false ∧ (r.th k).on = false ∧ x = (0, r.setY k { r.th k with on := true, op := op, made := 0 }))) :
    Calls Tryd.prog 17 #[.pointer (some ⟨c, 0, none⟩), .int .i64 k, .int .i64 op] w (Pk w c g x) := by
  have c2 := h.c2
  have t0 := h.t0 k hk
  have hcg := h.ne
  have hcg' := Ne.symm h.ne
  have hk1 : (k : Int) < (r.n : Int) := by omega
  have hk0 : (0 : Int) ≤ (k : Int) := by omega
  have t1 := h.t1 k hk
  have t2 := h.t2 k hk
  have t3 := h.t3 k hk
  have t4 := h.t4 k hk
  have t5 := h.t5 k hk
  have t6 := h.t6 k hk
  have t7 := h.t7 k hk
  have t8 := h.t8 k hk
  have hlc := h.s.lt
  have hlg := h.t.lt
  have n1 : c ≠ w.heap.size := by omega
  have n2 : g ≠ w.heap.size := by omega
  have n3 : w.heap.size ≠ c := by omega
  have n4 : w.heap.size ≠ g := by omega
  have H := Lib.hid h
  have g0 := h.fg (k * 9)
  have g1 := h.fg (k * 9 + 1)
  have g2 := h.fg (k * 9 + 2)
  rcases hx with ⟨e7, rfl⟩ | ⟨e7, e0, rfl⟩ | ⟨e7, e0, rfl⟩
  · rw [e7] at t7
    clear h e7
    generalize (r.th k).on = y0 at *
    generalize (r.th k).op = y1 at *
    generalize (r.th k).made = y2 at *
    generalize (r.th k).s = y3 at *
    generalize (r.th k).v = y4 at *
    generalize (r.th k).k = y5 at *
    generalize (r.th k).same = y6 at *
    generalize (r.th k).idle = y8 at *
    rcases hop with rfl | ⟨rfl, hz⟩
    all_goals
      go_enter Tryd.func17, Tryd.ntmps17
      go_wp2
      go_ret
      exact ⟨rfl, H.out.alloc _, fr_alloc _ _ _⟩
  · rw [e7] at t7
    rw [e0] at t0
    clear h e7 e0
    generalize (r.th k).op = y1 at *
    generalize (r.th k).made = y2 at *
    generalize (r.th k).s = y3 at *
    generalize (r.th k).v = y4 at *
    generalize (r.th k).k = y5 at *
    generalize (r.th k).same = y6 at *
    generalize (r.th k).idle = y8 at *
    rcases hop with rfl | ⟨rfl, hz⟩
    all_goals
      go_enter Tryd.func17, Tryd.ntmps17
      go_wp2
      go_ret
      exact ⟨rfl, H.out.alloc _, fr_alloc _ _ _⟩
  · have K := ((h.f0 k hk true).f1 k hk op).f2 k hk 0
    rw [setY_setY, setY_setY, setY_at, setY_at] at K
    rw [e7] at t7
    rw [e0] at t0
    have HK := Lib.hid (K.alloc (.cells #[.bool (r.th k).on, .int .i64 (r.th k).op, .int .i64 (r.th k).made, .int .i64 (r.th k).s, .int .i64 (r.th k).v, .int .i64 ((r.th k).k : Int), .bool (r.th k).same, .bool (r.th k).pk, .bool (r.th k).idle] 48))
    rw [e7, e0] at HK
    clear h e7 e0 K
    rcases hop with rfl | ⟨rfl, hz⟩
    all_goals
      go_enter Tryd.func17, Tryd.ntmps17
      go_wp2
      go_ret
      exact ⟨rfl, HK.out, (((fr_set _ _ _ _ _ (.inr rfl)).trans' (fr_set _ _ _ _ _ (.inr rfl))).trans' (fr_set _ _ _ _ _ (.inr rfl))).trans' (fr_alloc _ _ _)⟩
set_option maxRecDepth 100000 in
set_option maxHeartbeats 4000000 in
theorem rbegin_arg (h : Rf w c g r) (k op : Int) (hx : ¬ (0 ≤ k ∧ k < (r.n : Int)) ∨ (op ≠ 0 ∧ op ≠ 1) ∨ (op = 1 ∧ k = 0)) :
    Calls Tryd.prog 17 #[.pointer (some ⟨c, 0, none⟩), .int .i64 k, .int .i64 op] w (Pk w c g (1, r)) := by
  have c2 := h.c2
  have H := Lib.hid h
  clear h
  by_cases h1 : k < 0
  · clear hx
    go_enter Tryd.func17, Tryd.ntmps17
    go_wp2
    go_ret
    exact ⟨rfl, H.out, Fr.refl _ _⟩
  · by_cases h2 : (r.n : Int) ≤ k
    · clear hx
      go_enter Tryd.func17, Tryd.ntmps17
      go_wp2
      go_ret
      exact ⟨rfl, H.out, Fr.refl _ _⟩
    · have hlt : k < (r.n : Int) := by omega
      have h0 : 0 ≤ k := by omega
      by_cases h3 : op ≠ 0 ∧ op ≠ 1
      · have b0 : (op != 0) = true := by simpa using h3.1
        have b1 : (op != 1) = true := by simpa using h3.2
        clear hx h1 h2 h3
        go_enter Tryd.func17, Tryd.ntmps17
        go_wp2
        go_ret
        exact ⟨rfl, H.out, Fr.refl _ _⟩
      · obtain ⟨rfl, rfl⟩ : op = 1 ∧ k = 0 := by omega
        clear hx h1 h2 h3
        go_enter Tryd.func17, Tryd.ntmps17
        go_wp2
        go_ret
        exact ⟨rfl, H.out, Fr.refl _ _⟩
theorem rbegin_any (h : Rf w c g r) (k op : Int) : Calls Tryd.prog 17 #[.pointer (some ⟨c, 0, none⟩), .int .i64 k, .int .i64 op] w (Pk w c g (rbegin r k op)) := by
  by_cases hx : ¬ (0 ≤ k ∧ k < (r.n : Int)) ∨ (op ≠ 0 ∧ op ≠ 1) ∨ (op = 1 ∧ k = 0)
  · rw [show rbegin r k op = (1, r) from if_pos hx]
    exact rbegin_arg h k op hx
  · obtain ⟨n, rfl⟩ : ∃ n : Nat, k = n := ⟨k.toNat, by omega⟩
    refine rbegin_in h n (by omega) op (by
      by_cases h0 : op = 0
      · exact .inl h0
      · refine .inr ⟨by omega, ?_⟩
        simp
        omega) _ ?_
    unfold rbegin
    rw [if_neg hx, Int.toNat_natCast]
    cases h7 : (r.th n).pk
    · rw [if_neg (by decide)]
      cases h0 : (r.th n).on
      · rw [if_neg (by decide)]; exact .inr (.inr ⟨rfl, rfl, rfl⟩)
      · rw [if_pos rfl]; exact .inr (.inl ⟨rfl, rfl, rfl⟩)
    · rw [if_pos rfl]; exact .inl ⟨rfl, rfl⟩
theorem rstep_any (h : Rf w c g r) (k : Int) (m : Nat) (hm : Least r m) (hk : ∀ j, j < r.n → (r.th j).on = true → (r.th j).k < r.n ∧ (((r.th j).op = 0 ∧ ((r.th j).made = 0 ∨ (r.th j).made = 1 ∨ (r.th j).made = 2 ∨ (r.th j).made = 3)) ∨ ((r.th j).op = 1 ∧ ((r.th j).made = 0 ∨ (r.th j).made = 1 ∨ (r.th j).made = 2 ∨ (r.th j).made = 3 ∨ (r.th j).made = 4)))) :
    Calls Tryd.prog 19 #[.pointer (some ⟨c, 0, none⟩), .int .i64 k] w (Ps w c g (rstep r k m)) := by
  by_cases h1 : 0 ≤ k ∧ k < (r.n : Int)
  · obtain ⟨n, rfl⟩ : ∃ n : Nat, k = n := ⟨k.toNat, by omega⟩
    have hn : n < r.n := by omega
    unfold rstep
    rw [if_neg (by simpa using h1), Int.toNat_natCast]
    cases ho : (r.th n).on
    · rw [if_pos rfl]
      exact (rstep_off h n hn ho).mono (fun e w' ⟨a, b⟩ => ⟨a, b ▸ h, b ▸ Fr.refl _ _⟩)
    · rw [if_neg (by decide)]
      obtain ⟨a, b⟩ := hk n hn ho
      rcases b with ⟨b1, b2⟩ | ⟨b1, b2⟩
      · rw [if_pos b1]
        exact (rstep_give h n m hn ho b1 b2 hm a).mono (fun e w' ⟨a, b, d⟩ => ⟨a, b, d⟩)
      · rw [if_neg (by omega)]
        exact (rstep_seek h n hn ho b1 b2).mono (fun e w' ⟨a, b, d⟩ => ⟨a, b, d⟩)
  · rw [show rstep r k m = ((0, 0, 1), r) from if_pos h1]
    exact (rstep_no h k (by omega)).mono (fun e w' ⟨a, b⟩ => ⟨a, b ▸ h, b ▸ Fr.refl _ _⟩)
end
end Go.Proofs.YtpmkdhaponhacaaDoor
