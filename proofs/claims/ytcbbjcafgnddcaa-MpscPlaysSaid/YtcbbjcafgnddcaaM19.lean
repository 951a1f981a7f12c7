/- Each putter's values in its order, plain. -/
import Derived.Test.YtcbbjcafgnddcaaM14
namespace Go.Proofs.Ytcbbjcafgnddcaa
set_option linter.unusedVariables false
set_option linter.unusedSimpArgs false
def up (g : Nat → Int) (p : Nat) (i : Nat) : Int := if i = p then g p + 1 else g i
/-- the values l, one behind the other, are what comes next behind g; g' is what came when all have come -/
def Ok : List Int → (Nat → Int) → (Nat → Int) → Prop
  | [], g, g' => ∀ p, 1 ≤ p → p < 8 → g' p = g p
  | x :: l, g, g' => ∃ p, 1 ≤ p ∧ p < 8 ∧ 0 ≤ g p ∧ g p < 999 ∧ x = 1000 * (p : Int) + (g p + 1) ∧ Ok l (up g p) g'
theorem Ok.congr : ∀ {l : List Int} {g g1 g' g1' : Nat → Int}, Ok l g g' → (∀ p, 1 ≤ p → p < 8 → g1 p = g p) → (∀ p, 1 ≤ p → p < 8 → g1' p = g' p) → Ok l g1 g1'
  | [], g, g1, g', g1', h, h1, h2 => fun p p1 p8 => by rw [h2 p p1 p8, h1 p p1 p8]; exact h p p1 p8
  | x :: l, g, g1, g', g1', ⟨p, p1, p8, hp, hq, hx, h⟩, h1, h2 => by
    refine ⟨p, p1, p8, by rw [h1 p p1 p8]; exact hp, by rw [h1 p p1 p8]; exact hq, by rw [h1 p p1 p8]; exact hx, Ok.congr h (fun j j1 j8 => ?_) h2⟩
    unfold up
    rw [h1 p p1 p8]
    split
    · rfl
    · exact h1 j j1 j8
theorem Ok.snoc : ∀ {l : List Int} {g g' : Nat → Int} (p : Nat), Ok l g g' → 1 ≤ p → p < 8 → 0 ≤ g' p → g' p < 999 → Ok (l ++ [1000 * (p : Int) + (g' p + 1)]) g (up g' p)
  | [], g, g', p, h, p1, p8, h0, h9 => ⟨p, p1, p8, by rw [← h p p1 p8]; exact h0, by rw [← h p p1 p8]; exact h9, by rw [h p p1 p8], fun j j1 j8 => by
      unfold up
      rw [h p p1 p8]
      split
      · rfl
      · exact h j j1 j8⟩
  | x :: l, g, g', p, ⟨k, k1, k8, hk, hq, hx, h⟩, p1, p8, h0, h9 => ⟨k, k1, k8, hk, hq, hx, Ok.snoc p h p1 p8 h0 h9⟩
/-- what is put less what is under way and not in the row yet -/
def mid (q : Q) (pt : Nat → Int) (p : Nat) : Int := if (q.th p).on = true ∧ (q.th p).made < 2 then pt p - 1 else pt p
/-- the law's two arrays: what each has put, what has come out of each -/
structure Or (q : Q) (r : List Nat) (pt gt : Nat → Int) : Prop where
  ok : Ok (r.map q.v) gt (mid q pt)
  nod : ∀ k, k < 8 → k ≠ 0 → (q.th k).on = true → (q.th k).made < 2 → q.v (q.th k).node = 1000 * (k : Int) + pt k
  lo : ∀ k, 1 ≤ k → k < 8 → 0 ≤ mid q pt k
theorem mid_other {q q' : Q} {pt : Nat → Int} {p : Nat} (h : q'.th p = q.th p) : mid q' pt p = mid q pt p := by unfold mid; rw [h]
theorem or0 : Or Q0 [] (fun _ => 0) (fun _ => 0) := ⟨fun p _ _ => rfl, fun k _ _ h => (by cases h), fun k _ _ => Int.le_refl _⟩
theorem or_begin {q q' : Q} {r : List Nat} {pt gt : Nat → Int} (V : Val q) (I : Inv q r) (h : Or q r pt gt) {k : Nat} (hk : k < 8) (hoff : (q.th k).on = false) (b : Br q k (1000 * (k : Int) + (if k = 0 then pt k else pt k + 1)) q') :
    Or q' r (fun i => if i = k ∧ k ≠ 0 then pt k + 1 else pt i) gt := by
  have hm : ∀ p, 1 ≤ p → p < 8 → mid q' (fun i => if i = k ∧ k ≠ 0 then pt k + 1 else pt i) p = mid q pt p := fun p p1 p8 => by
    by_cases e : p = k
    · subst e
      have h0 : p ≠ 0 := by omega
      unfold mid
      rw [b.th]
      show (if true = true ∧ 0 < 2 then (if p = p ∧ p ≠ 0 then pt p + 1 else pt p) - 1 else _) = _
      rw [if_pos ⟨rfl, by omega⟩, if_pos ⟨rfl, h0⟩, if_neg (by rw [hoff]; simp)]; omega
    · rw [← mid_other (b.oth p e)]
      unfold mid
      dsimp only
      rw [if_neg (fun x : p = k ∧ k ≠ 0 => e x.1)]
  refine ⟨?_, fun j hj j0 hon hm2 => ?_, fun p p1 p8 => by rw [hm p p1 p8]; exact h.lo p p1 p8⟩
  · rw [List.map_congr_left (fun x hx => b.vv x (I.lt x hx))]
    exact h.ok.congr (fun p _ _ => rfl) hm
  · by_cases e : j = k
    · subst e
      rw [b.th]
      show q'.v (if j = 0 then 0 else q.n) = 1000 * (j : Int) + (if j = j ∧ j ≠ 0 then pt j + 1 else pt j)
      rw [if_neg j0, b.vn j0, if_neg j0, if_pos ⟨rfl, j0⟩]
    · rw [b.oth j e] at hon hm2 ⊢
      show _ = 1000 * (j : Int) + (if j = k ∧ k ≠ 0 then pt k + 1 else pt j)
      rw [if_neg (fun x => e x.1), b.vv _ (V.node j hj hon)]
      exact h.nod j hj j0 hon hm2
/-- a step that turns no row of values -/
theorem or_same {q q' : Q} {r : List Nat} {pt gt : Nat → Int} (h : Or q r pt gt) {k : Nat} {d : D} (s : Sr q k d q') (hk : k < 8) (hm : k ≠ 0 → mid q' pt k = mid q pt k) (hn : k ≠ 0 → (q'.th k).on = true → (q'.th k).made < 2 → (q.th k).on = true ∧ (q.th k).made < 2 ∧ (q'.th k).node = (q.th k).node) : Or q' r pt gt := by
  have hm' : ∀ p, 1 ≤ p → p < 8 → mid q' pt p = mid q pt p := fun p p1 p8 => by
    by_cases e : p = k
    · subst e; exact hm (by omega)
    · exact mid_other (s.oth p e)
  refine ⟨by rw [s.vv]; exact h.ok.congr (fun p _ _ => rfl) hm', fun j hj j0 hon hm2 => ?_, fun p p1 p8 => by rw [hm' p p1 p8]; exact h.lo p p1 p8⟩
  rw [s.vv]
  by_cases e : j = k
  · subst e
    obtain ⟨h1, h2, h3⟩ := hn j0 hon hm2
    rw [h3]; exact h.nod j hj j0 h1 h2
  · rw [s.oth j e] at hon hm2 ⊢
    exact h.nod j hj j0 hon hm2
theorem or_swap {q q' : Q} {r : List Nat} {pt gt : Nat → Int} (h : Or q r pt gt) {k : Nat} {d : D} (s : Sr q k d q') (hk : k < 8) (h0 : k ≠ 0) (hon : (q.th k).on = true) (hm : (q.th k).made = 1) (hth : (q'.th k).made = 2) (hp : pt k < 1000) : Or q' (r ++ [(q.th k).node]) pt gt := by
  have hmk : mid q pt k = pt k - 1 := by unfold mid; rw [if_pos ⟨hon, by omega⟩]
  have hmk' : mid q' pt k = pt k := by unfold mid; rw [if_neg (by rw [hth]; omega)]
  have hlo := h.lo k (by omega) hk
  have hnv := h.nod k hk h0 hon (by omega)
  have hup : ∀ p, 1 ≤ p → p < 8 → mid q' pt p = up (mid q pt) k p := fun p p1 p8 => by
    unfold up
    by_cases e : p = k
    · subst e; rw [if_pos rfl, hmk, hmk']; omega
    · rw [if_neg e]; exact mid_other (s.oth p e)
  refine ⟨?_, fun j hj j0 hon' hm2 => ?_, fun p p1 p8 => ?_⟩
  · rw [s.vv, List.map_append]
    have := h.ok.snoc k (by omega) hk hlo (by rw [hmk]; omega)
    rw [hmk] at this
    have e2 : [(q.th k).node].map q.v = [1000 * (k : Int) + (pt k - 1 + 1)] := by simp [hnv]
    rw [e2]
    exact this.congr (fun p _ _ => rfl) hup
  · rw [s.vv]
    have e : j ≠ k := fun e => by subst e; rw [hth] at hm2; omega
    rw [s.oth j e] at hon' hm2 ⊢
    exact h.nod j hj j0 hon' hm2
  · rw [hup p p1 p8]
    unfold up
    split
    · omega
    · exact h.lo p p1 p8
theorem or_take {q q' : Q} {r : List Nat} {pt gt : Nat → Int} {x : Nat} (h : Or q (x :: r) pt gt) {d : D} (s : Sr q 0 d q') : ∃ p, 1 ≤ p ∧ p < 8 ∧ 0 ≤ gt p ∧ gt p < 999 ∧ q.v x = 1000 * (p : Int) + (gt p + 1) ∧ Or q' r pt (up gt p) := by
  obtain ⟨p, p1, p8, h0, h9, hx, hok⟩ := h.ok
  have hm' : ∀ p, 1 ≤ p → p < 8 → mid q' pt p = mid q pt p := fun p p1 p8 => mid_other (s.oth p (by omega))
  refine ⟨p, p1, p8, h0, h9, hx, ⟨by rw [s.vv]; exact hok.congr (fun p _ _ => rfl) hm', fun j hj j0 hon hm2 => ?_, fun p p1 p8 => by rw [hm' p p1 p8]; exact h.lo p p1 p8⟩⟩
  rw [s.vv]
  rw [s.oth j j0] at hon hm2 ⊢
  exact h.nod j hj j0 hon hm2
end Go.Proofs.Ytcbbjcafgnddcaa
