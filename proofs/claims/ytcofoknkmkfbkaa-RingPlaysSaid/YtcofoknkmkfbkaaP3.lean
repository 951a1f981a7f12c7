/- A ring of numbers as a list, and its methods so. -/
import Derived.Test.YtcofoknkmkfbkaaP2
namespace Go.Proofs.Ytcofoknkmkfbkaa
open Go.RowKit
set_option linter.unusedVariables false
set_option linter.unusedSimpArgs false

theorem wrapm {f i N : Nat} (hf : f < N) (hi : i < N) : (f + i) % N = if f + i < N then f + i else f + i - N := by
  split
  · exact Nat.mod_eq_of_lt (by assumption)
  · rw [Nat.mod_eq_sub_mod (by omega)]; exact Nat.mod_eq_of_lt (by omega)
theorem wrapN {f N : Nat} (hf : f < N) (i : Nat) (hi : i ≤ N) : (f + i) % N = if f + i < N then f + i else f + i - N := by
  split
  · exact Nat.mod_eq_of_lt (by assumption)
  · rw [Nat.mod_eq_sub_mod (by omega)]
    by_cases e : f + i - N < N
    · exact Nat.mod_eq_of_lt e
    · omega

structure IsR (w : World) (b d N : Nat) (l : List Int) : Prop where
  p : ∃ f ar, Raw w b d N f l.length ar ∧ ∀ i, i < l.length → ar ((f + i) % N) = l.getD i 0
section
variable {w w1 : World} {b d N : Nat} {l : List Int}
theorem IsR.le (h : IsR w b d N l) : l.length ≤ N := by obtain ⟨f, ar, r, _⟩ := h.p; exact r.cN
theorem IsR.n1 (h : IsR w b d N l) : 1 ≤ N := by obtain ⟨f, ar, r, _⟩ := h.p; exact r.n1
theorem IsR.n2 (h : IsR w b d N l) : N ≤ 4096 := by obtain ⟨f, ar, r, _⟩ := h.p; exact r.n2
theorem IsR.bl (h : IsR w b d N l) : b < w.heap.size := by obtain ⟨f, ar, r, _⟩ := h.p; exact World.rowIs.lt r.s
theorem IsR.dl (h : IsR w b d N l) : d < w.heap.size := by obtain ⟨f, ar, r, _⟩ := h.p; exact World.rowIs.lt r.a
theorem IsR.ne (h : IsR w b d N l) : b ≠ d := by obtain ⟨f, ar, r, _⟩ := h.p; exact r.ne
theorem IsR.same (h : IsR w b d N l) (e : w1.heap = w.heap) : IsR w1 b d N l := by obtain ⟨f, ar, r, hi⟩ := h.p; exact ⟨f, ar, r.same e, hi⟩
theorem IsR.ch (h : IsR w b d N l) {b' d' : Nat} (g : Ch w w1 b' d') (h1 : b ≠ b') (h2 : b ≠ d') (h3 : d ≠ b') (h4 : d ≠ d') : IsR w1 b d N l := by obtain ⟨f, ar, r, hi⟩ := h.p; exact ⟨f, ar, r.ch g h1 h2 h3 h4, hi⟩
theorem IsR.below (h : IsR w b d N l) {B : Nat} (g : Below B w w1) (h1 : b < B) (h2 : d < B) : IsR w1 b d N l := by obtain ⟨f, ar, r, hi⟩ := h.p; exact ⟨f, ar, r.below g h1 h2, hi⟩
theorem r_new (s : Int) (w : World) (hs : I64 s) :
    Calls Try.prog 10 #[.int .i64 s] w fun e w' => e = .returned (.pointer (some ⟨w.heap.size + 1, 0, none⟩)) ∧ IsR w' (w.heap.size + 1) w.heap.size (capN s) [] ∧ w.grownBy w' none := by
  refine (new_any s w hs).mono ?_
  rintro e w' ⟨rfl, h, g⟩
  exact ⟨rfl, ⟨0, _, h, fun i hi => by simp at hi⟩, g⟩
theorem r_len (h : IsR w b d N l) : Calls Try.prog 13 #[.pointer (some ⟨b, 0, none⟩)] w fun e w' => e = .returned (.int .i64 l.length) ∧ w = w' := by
  obtain ⟨f, ar, r, _⟩ := h.p; exact len_any r
theorem r_size (h : IsR w b d N l) : Calls Try.prog 14 #[.pointer (some ⟨b, 0, none⟩)] w fun e w' => e = .returned (.int .i64 N) ∧ w = w' := by
  obtain ⟨f, ar, r, _⟩ := h.p; exact size_any r
def putE (N : Nat) (l : List Int) : Int := if l.length = N then 7 else 0
def putL (N : Nat) (l : List Int) (x : Int) : List Int := if l.length = N then l else l ++ [x]
def pushL (N : Nat) (l : List Int) (x : Int) : List Int := if l.length = N then l else x :: l
theorem r_put (h : IsR w b d N l) (x : Int) : Calls Try.prog 11 #[.pointer (some ⟨b, 0, none⟩), .int .i64 x] w fun e w' => e = .returned (.int .i64 (putE N l)) ∧ IsR w' b d N (putL N l x) ∧ Ch w w' b d := by
  obtain ⟨f, ar, r, hi⟩ := h.p
  by_cases e : l.length = N
  · unfold putE putL
    rw [if_pos e, if_pos e]
    rw [e] at r
    refine (put_full r x).mono ?_
    rintro e' w' ⟨rfl, r', g⟩
    exact ⟨rfl, ⟨f, ar, by rw [e]; exact r', hi⟩, g⟩
  · unfold putE putL
    rw [if_neg e, if_neg e]
    have hN := r.cN
    have hf := r.fN
    refine (put_ok r (by omega) x).mono ?_
    rintro e' w' ⟨rfl, r', g⟩
    refine ⟨rfl, ⟨f, _, by rw [List.length_append]; exact r', fun i hi' => ?_⟩, g⟩
    rw [List.length_append] at hi'
    have hi'' : i < l.length + 1 := hi'
    have e1 := wrapm hf (show i < N by omega)
    have e2 := wrapm hf (show l.length < N by omega)
    by_cases ei : i = l.length
    · subst ei
      simp
    · have : (f + i) % N ≠ (f + l.length) % N := by rw [e1, e2]; split <;> split <;> omega
      simp only [if_neg this]
      rw [hi i (by omega), List.getD_eq_getElem?_getD, List.getD_eq_getElem?_getD, List.getElem?_append_left (by omega)]
theorem r_push (h : IsR w b d N l) (x : Int) : Calls Try.prog 21 #[.pointer (some ⟨b, 0, none⟩), .int .i64 x] w fun e w' => e = .returned (.int .i64 (putE N l)) ∧ IsR w' b d N (pushL N l x) ∧ Ch w w' b d := by
  obtain ⟨f, ar, r, hi⟩ := h.p
  by_cases e : l.length = N
  · unfold putE pushL
    rw [if_pos e, if_pos e]
    rw [e] at r
    refine (push_full r x).mono ?_
    rintro e' w' ⟨rfl, r', g⟩
    exact ⟨rfl, ⟨f, ar, by rw [e]; exact r', hi⟩, g⟩
  · unfold putE pushL
    rw [if_neg e, if_neg e]
    have hN := r.cN
    have hf := r.fN
    refine (push_ok r (by omega) x).mono ?_
    rintro e' w' ⟨rfl, r', g⟩
    refine ⟨rfl, ⟨_, _, r', fun i hi' => ?_⟩, g⟩
    have hi'' : i < l.length + 1 := hi'
    have n1 := r.n1
    have hp := Nat.mod_lt (f + (N - 1)) (show N > 0 by omega)
    have e0 := wrapm hf (show N - 1 < N by omega)
    have e1 := wrapm hp (show i < N by omega)
    cases i with
    | zero => simp [Nat.mod_eq_of_lt hp]
    | succ i =>
      have e2 := wrapm hf (show i < N by omega)
      have e3 : ((f + (N - 1)) % N + (i + 1)) % N = (f + i) % N := by rw [e1, e2, e0]; split <;> split <;> split <;> omega
      have : (f + i) % N ≠ (f + (N - 1)) % N := by rw [e2, e0]; split <;> split <;> omega
      show (if _ = _ then _ else _) = _
      rw [e3, if_neg this, hi i (by omega)]; simp
theorem r_take (h : IsR w b d N l) : Calls Try.prog 12 #[.pointer (some ⟨b, 0, none⟩)] w fun e w' => e = .returned (.tuple #[.int .i64 (l.headD 0), .bool (!l.isEmpty)]) ∧ IsR w' b d N l.tail ∧ Ch w w' b d := by
  obtain ⟨f, ar, r, hi⟩ := h.p
  cases l with
  | nil =>
    refine (take_none r).mono ?_
    rintro e w' ⟨rfl, rfl⟩
    exact ⟨rfl, ⟨f, ar, r, hi⟩, Ch.refl _ _ _⟩
  | cons y l =>
    have hf := r.fN
    have hN := r.cN
    have n1 := r.n1
    have hN' : l.length + 1 ≤ N := hN
    have e0 : ar f = y := by have := hi 0 (by simp); rw [Nat.add_zero, Nat.mod_eq_of_lt hf] at this; simpa using this
    refine (take_ok r (by simp)).mono ?_
    rintro e w' ⟨rfl, r', g⟩
    refine ⟨by rw [e0]; rfl, ⟨_, _, r', fun i hi' => ?_⟩, g⟩
    have hi'' : i < l.length := hi'
    have hp := Nat.mod_lt (f + 1) (show N > 0 by omega)
    have e1 := wrapm hp (show i < N by omega)
    have e2 := wrapN hf 1 n1
    have e3 := wrapm hf (show i + 1 < N by omega)
    have e4 : ((f + 1) % N + i) % N = (f + (i + 1)) % N := by rw [e1, e3, e2]; split <;> split <;> split <;> omega
    have : (f + (i + 1)) % N ≠ f := by rw [e3]; split <;> omega
    show (if _ = _ then _ else _) = _
    rw [e4, if_neg this, hi (i + 1) (by simp; omega)]; simp
theorem r_pop (h : IsR w b d N l) : Calls Try.prog 15 #[.pointer (some ⟨b, 0, none⟩)] w fun e w' => e = .returned (.tuple #[.int .i64 (l.getLastD 0), .bool (!l.isEmpty)]) ∧ IsR w' b d N l.dropLast ∧ Ch w w' b d := by
  obtain ⟨f, ar, r, hi⟩ := h.p
  by_cases hl : l = []
  · subst hl
    refine (pop_none r).mono ?_
    rintro e w' ⟨rfl, rfl⟩
    exact ⟨rfl, ⟨f, ar, r, hi⟩, Ch.refl _ _ _⟩
  · have hpos : 1 ≤ l.length := List.length_pos_iff.2 hl
    have hf := r.fN
    have hN := r.cN
    have n1 := r.n1
    have e0 : ar ((f + (l.length - 1)) % N) = l.getLastD 0 := by
      rw [hi (l.length - 1) (by omega), List.getD_eq_getElem?_getD, ← List.getLast?_eq_getElem?, List.getLastD_eq_getLast?]
    have e5 : l.isEmpty = false := by cases l <;> simp_all
    refine (pop_ok r hpos).mono ?_
    rintro e w' ⟨rfl, r', g⟩
    refine ⟨by rw [e0, e5]; rfl, ⟨_, _, by rw [List.length_dropLast]; exact r', fun i hi' => ?_⟩, g⟩
    rw [List.length_dropLast] at hi'
    have e1 := wrapm hf (show i < N by omega)
    have e2 := wrapm hf (show l.length - 1 < N by omega)
    have : (f + i) % N ≠ (f + (l.length - 1)) % N := by rw [e1, e2]; split <;> split <;> omega
    simp only [if_neg this]
    rw [hi i (by omega), List.getD_eq_getElem?_getD, List.getD_eq_getElem?_getD, List.getElem?_dropLast, if_pos (by omega)]
end

theorem put_is {w : World} {b d N : Nat} {l : List Int} (h : IsR w b d N l) (x e : Int) (l' : List Int) (he : putE N l = e) (hl : putL N l x = l') : Calls Try.prog 11 #[.pointer (some ⟨b, 0, none⟩), .int .i64 x] w fun e' w' => e' = .returned (.int .i64 e) ∧ IsR w' b d N l' ∧ Ch w w' b d := by
  subst he hl; exact r_put h x
theorem take_is {w : World} {b d N : Nat} {y : Int} {l : List Int} (h : IsR w b d N (y :: l)) : Calls Try.prog 12 #[.pointer (some ⟨b, 0, none⟩)] w fun e w' => e = .returned (.tuple #[.int .i64 y, .bool true]) ∧ IsR w' b d N l ∧ Ch w w' b d := r_take h
theorem len_is {w : World} {b d N : Nat} {l : List Int} (h : IsR w b d N l) (n : Int) (hn : (l.length : Int) = n) : Calls Try.prog 13 #[.pointer (some ⟨b, 0, none⟩)] w fun e w' => e = .returned (.int .i64 n) ∧ w = w' := by
  subst hn; exact r_len h
theorem size_is {w : World} {b d N : Nat} {l : List Int} (h : IsR w b d N l) (n : Int) (hn : (N : Int) = n) : Calls Try.prog 14 #[.pointer (some ⟨b, 0, none⟩)] w fun e w' => e = .returned (.int .i64 n) ∧ w = w' := by
  subst hn; exact r_size h
theorem new2 (w : World) : Calls Try.prog 10 #[.int .i64 2] w fun e w' => ∃ b d, e = .returned (.pointer (some ⟨b, 0, none⟩)) ∧ IsR w' b d 2 [] ∧ w.heap.size ≤ b ∧ w.heap.size ≤ d ∧ Below w.heap.size w w' := by
  refine (r_new 2 w (by unfold I64; omega)).mono ?_
  rintro e w' ⟨rfl, h, g⟩
  exact ⟨_, _, rfl, h, by omega, by omega, gb_below g (Nat.le_refl _) (fun k h => by cases h)⟩
set_option maxHeartbeats 1000000 in
/-- lives: a ring of two is asked -/
theorem lives_any (w : World) : Calls Try.prog 9 #[] w fun e w' => e = .returned (.bool true) ∧ Below w.heap.size w w' := by
  go_enter Try.func9, Try.ntmps9
  go_wp2_with fail
  refine (new2 w).mono ?_
  rintro e w1 ⟨b, d, rfl, h1, hb, hd, B1⟩
  go_wp2_with fail
  refine (put_is h1 1 0 [1] rfl rfl).mono ?_; rintro e w2 ⟨rfl, h2, g2⟩
  go_wp2_with fail
  refine (put_is h2 2 0 [1, 2] rfl rfl).mono ?_; rintro e w3 ⟨rfl, h3, g3⟩
  go_wp2_with fail
  refine (put_is h3 3 7 [1, 2] rfl rfl).mono ?_; rintro e w4 ⟨rfl, h4, g4⟩
  go_wp2_with fail
  refine (take_is h4).mono ?_; rintro e w5 ⟨rfl, h5, g5⟩
  go_wp2_with fail
  refine (len_is h5 1 rfl).mono ?_; rintro e w' ⟨rfl, rfl⟩
  go_wp2_with fail
  refine (size_is h5 2 rfl).mono ?_; rintro e w' ⟨rfl, rfl⟩
  go_wp2
  go_ret
  exact ⟨rfl, B1.trans ((((g2.trans g3).trans g4).trans g5).below B1.size hb hd)⟩
end Go.Proofs.Ytcofoknkmkfbkaa
