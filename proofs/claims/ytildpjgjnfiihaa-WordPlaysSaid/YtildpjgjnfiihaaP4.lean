/- The word: Begin, Step, New. -/
import Derived.Test.YtildpjgjnfiihaaP3
namespace Go.Proofs.Ytildpjgjnfiihaa
open Go.RowKit
set_option linter.unusedVariables false
set_option linter.unusedSimpArgs false
theorem zero56 (w : World) : (zeroValue 56).run Try.prog w = .ok (.agg #[.int .i64 0, .bool false, .nilFunc, .nilFunc, .nilFunc, .nilFunc, .nilFunc, .nilFunc, .nilFunc, .nilFunc]) w := by kernel_rfl
def Q0 : Q := { now := 1, held := false, th := fun _ => .no }
def qz (j : Nat) : Value := if j = 0 then .int .i64 1 else if j = 1 then .bool false else .nilFunc
section
variable {w w1 : World} {b now : Nat} {held : Bool} {f : Nat → Value} {v : Value} {x : Nx} {q : Q}
theorem new_any (w : World) : Calls Try.prog 10 #[] w fun e w' => e = .returned (.pointer (some ⟨w.heap.size, 0, none⟩)) ∧ Ww w' w.heap.size Q0 qz ∧ Fr w w' (fun _ => False) := by
  have hz := zero56
  go_enter Try.func10, Try.ntmps10
  go_wp2
  go_ret
  refine ⟨rfl, ⟨⟨row_new w _ 56 10 _ rfl (fun i hi => by match i, hi with | 0, _ => rfl | 1, _ => rfl | 2, _ => rfl | 3, _ => rfl | 4, _ => rfl | 5, _ => rfl | 6, _ => rfl | 7, _ => rfl | 8, _ => rfl | 9, _ => rfl), rfl, rfl⟩, fun k hk => ?_⟩, fr_alloc _ _ _⟩
  show qz (2 + k) = .nilFunc
  unfold qz; rw [if_neg (by omega), if_neg (by omega)]
set_option maxHeartbeats 1000000 in
theorem begin_any (h : Ww w b q f) (k op : Int) : Calls Try.prog 11 #[.pointer (some ⟨b, 0, none⟩), .int .i64 k, .int .i64 op] w fun e w' => e = .returned (.int .i64 (begin q k op).1) ∧ (∃ f', Ww w' b (begin q k op).2 f') ∧ Fr w w' (fun j => j = b) := by
  have hf := first_any k op
  by_cases h1 : k < 0 ∨ 8 ≤ k
  · have e : begin q k op = (1, q) := by unfold begin; rw [if_pos (by rcases h1 with h | h; exact .inl h; exact .inr (.inl h))]
    rw [e]
    have H := Lib.hid h
    clear h e
    generalize fv (first k op) = fvv at *
    go_enter Try.func11, Try.ntmps11
    go_wp2_with fail
    refine (at_out b k h1 _).mono ?_
    rintro e w' ⟨rfl, rfl⟩
    go_wp2_with fail
    refine (hf _).mono ?_
    rintro e w' ⟨rfl, rfl⟩
    go_wp2
    go_ret
    exact ⟨rfl, ⟨f, H.out⟩, Fr.refl _ _⟩
  · obtain ⟨n, rfl⟩ : ∃ n : Nat, k = n := ⟨k.toNat, by omega⟩
    have hn : n < 8 := by omega
    have hst := fv_stc (w := w) (b := b) n op
    have enf := eq_nf
    have nnf := ne_nf
    have efn := eq_fn
    have nfn := ne_fn
    by_cases h2 : first n op = .no
    · have e : begin q n op = (1, q) := by unfold begin; rw [if_pos (.inr (.inr h2))]
      rw [e]
      rw [h2] at hf
      have hf' : ∀ w, Calls Try.prog 22 #[.int .i64 n, .int .i64 op] w fun e w' => e = .returned .nilFunc ∧ w' = w := hf
      have H := Lib.hid h
      clear h e h1 h2 hst hf
      go_enter Try.func11, Try.ntmps11
      go_wp2_with fail
      refine (at_in b n hn _).mono ?_
      rintro e w' ⟨rfl, rfl⟩
      go_wp2_with fail
      refine (hf' _).mono ?_
      rintro e w' ⟨rfl, rfl⟩
      go_wp2
      go_ret
      exact ⟨rfl, ⟨f, H.out⟩, Fr.refl _ _⟩
    · obtain ⟨m, hm⟩ := fv_func n op h2
      rw [hm] at hf hst
      have hc : ¬ ((n : Int) < 0 ∨ 8 ≤ (n : Int) ∨ first n op = .no) := by
        rintro (h | h | h)
        · omega
        · omega
        · exact h2 h
      have ct := h.h.ct n hn
      have zt := h.h.fz (2 + n)
      have st := h.t n hn
      have c1 := h.h.c1
      by_cases h3 : q.th n = .no
      · rw [h3] at st
        have st' : f (2 + n) = .nilFunc := st
        rw [st'] at ct
        have H := Lib.hid h
        have HST := Lib.hid hst
        unfold fnv at hf
        by_cases h4 : n = 0
        · by_cases h5 : op = 1
          · subst h5
            cases hh : q.held
            · have e : begin q n 1 = (0, q.set n (first n 1)) := by
                unfold begin; rw [if_neg hc, if_neg (by rw [Int.toNat_natCast]; simpa using h3), if_neg (by rw [hh]; simp), Int.toNat_natCast]
              rw [e]
              rw [hh] at c1
              have hz : ((n : Int) == 0) = true := by rw [h4]; rfl
              clear h e h1 h2 h3 h4 hc st st' hst hm hh
              go_enter Try.func11, Try.ntmps11
              go_wp2_with fail
              refine (at_in b n hn _).mono ?_
              rintro e w' ⟨rfl, rfl⟩
              go_wp2_with fail
              refine (hf _).mono ?_
              rintro e w' ⟨rfl, rfl⟩
              go_wp2
              go_ret
              exact ⟨rfl, ⟨_, H.out.put n hn _ _ HST.out⟩, fr_b _ _ _ _⟩
            · have e : begin q n 1 = (13, q) := by
                unfold begin; rw [if_neg hc, if_neg (by rw [Int.toNat_natCast]; simpa using h3), if_pos ⟨by omega, by rw [hh]; rfl⟩]
              rw [e]
              rw [hh] at c1
              have hz : ((n : Int) == 0) = true := by rw [h4]; rfl
              clear h e h1 h2 h3 h4 hc st st' hst hm hh
              go_enter Try.func11, Try.ntmps11
              go_wp2_with fail
              refine (at_in b n hn _).mono ?_
              rintro e w' ⟨rfl, rfl⟩
              go_wp2_with fail
              refine (hf _).mono ?_
              rintro e w' ⟨rfl, rfl⟩
              go_wp2
              go_ret
              exact ⟨rfl, ⟨f, H.out⟩, Fr.refl _ _⟩
          · have hb1 : (op == 1) = false := by simp; exact h5
            cases hh : q.held
            · have e : begin q n op = (13, q) := by
                unfold begin; rw [if_neg hc, if_neg (by rw [Int.toNat_natCast]; simpa using h3), if_pos ⟨by omega, by rw [hh, decide_eq_false h5]⟩]
              rw [e]
              rw [hh] at c1
              have hz : ((n : Int) == 0) = true := by rw [h4]; rfl
              clear h e h1 h2 h3 h4 h5 hc st st' hst hm hh
              go_enter Try.func11, Try.ntmps11
              go_wp2_with fail
              refine (at_in b n hn _).mono ?_
              rintro e w' ⟨rfl, rfl⟩
              go_wp2_with fail
              refine (hf _).mono ?_
              rintro e w' ⟨rfl, rfl⟩
              go_wp2
              go_ret
              exact ⟨rfl, ⟨f, H.out⟩, Fr.refl _ _⟩
            · have e : begin q n op = (0, q.set n (first n op)) := by
                unfold begin; rw [if_neg hc, if_neg (by rw [Int.toNat_natCast]; simpa using h3), if_neg (by rw [hh, decide_eq_false h5]; simp), Int.toNat_natCast]
              rw [e]
              rw [hh] at c1
              have hz : ((n : Int) == 0) = true := by rw [h4]; rfl
              clear h e h1 h2 h3 h4 h5 hc st st' hst hm hh
              go_enter Try.func11, Try.ntmps11
              go_wp2_with fail
              refine (at_in b n hn _).mono ?_
              rintro e w' ⟨rfl, rfl⟩
              go_wp2_with fail
              refine (hf _).mono ?_
              rintro e w' ⟨rfl, rfl⟩
              go_wp2
              go_ret
              exact ⟨rfl, ⟨_, H.out.put n hn _ _ HST.out⟩, fr_b _ _ _ _⟩
        · have e : begin q n op = (0, q.set n (first n op)) := by
            unfold begin; rw [if_neg hc, if_neg (by rw [Int.toNat_natCast]; simpa using h3), if_neg (by omega), Int.toNat_natCast]
          rw [e]
          have hz : ((n : Int) == 0) = false := by simp; exact h4
          clear h e h1 h2 h3 h4 hc st st' hst hm
          go_enter Try.func11, Try.ntmps11
          go_wp2_with fail
          refine (at_in b n hn _).mono ?_
          rintro e w' ⟨rfl, rfl⟩
          go_wp2_with fail
          refine (hf _).mono ?_
          rintro e w' ⟨rfl, rfl⟩
          go_wp2
          go_ret
          exact ⟨rfl, ⟨_, H.out.put n hn _ _ HST.out⟩, fr_b _ _ _ _⟩
      · have e : begin q n op = (14, q) := by
          unfold begin; rw [if_neg hc, if_pos (by rw [Int.toNat_natCast]; exact h3)]
        rw [e]
        obtain ⟨m2, a2, c2, e2⟩ := stc_func st h3
        rw [e2] at ct
        have H := Lib.hid h
        unfold fnv at hf
        clear h e h1 h2 h3 hc st hst hm e2
        go_enter Try.func11, Try.ntmps11
        go_wp2_with fail
        refine (at_in b n hn _).mono ?_
        rintro e w' ⟨rfl, rfl⟩
        go_wp2_with fail
        refine (hf _).mono ?_
        rintro e w' ⟨rfl, rfl⟩
        go_wp2
        go_ret
        exact ⟨rfl, ⟨f, H.out⟩, Fr.refl _ _⟩
end
end Go.Proofs.Ytildpjgjnfiihaa
