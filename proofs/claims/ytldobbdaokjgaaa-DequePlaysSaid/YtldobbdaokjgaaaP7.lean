/- The deque, as plain law: what stands in it, whatever the interleaving. -/
import Derived.Test.YtldobbdaokjgaaaP4
namespace Go.Proofs.Ytldobbdaokjgaaa
open Go.RowKit
set_option linter.unusedVariables false
set_option linter.unusedSimpArgs false
theorem plc_int (x : Int) (n : Nat) (h : 1 ≤ n) (hx : 0 ≤ x) : (plc x n : Int) = x % n := by
  have e := plc_eq x n h
  rw [← e, Int.tmod_eq_emod_of_nonneg hx]
  have h1 := Int.emod_nonneg x (show (n : Int) ≠ 0 by omega)
  rw [Int.tmod_eq_emod_of_nonneg (by omega), Int.add_emod_right, Int.emod_emod]
theorem mod_ne (x y n : Int) (h : 1 ≤ n) (h1 : x < y) (h2 : y < x + n) (e : x % n = y % n) : False := by
  have a := Int.mul_ediv_add_emod x n
  have b := Int.mul_ediv_add_emod y n
  have c : y - x = n * (y / n - x / n) := by rw [Int.mul_sub]; omega
  generalize y / n - x / n = d at c
  have : d ≤ 0 ∨ 1 ≤ d := by omega
  rcases this with h | h
  · have := Int.mul_le_mul_of_nonneg_left h (show 0 ≤ n by omega)
    omega
  · have := Int.mul_le_mul_of_nonneg_left h (show 0 ≤ n by omega)
    omega
theorem plc_ne (x y : Int) (n : Nat) (h : 1 ≤ n) (hx : 0 ≤ x) (h1 : x < y) (h2 : y < x + n) : plc x n ≠ plc y n := by
  intro e
  have e1 := plc_int x n h hx
  have e2 := plc_int y n h (by omega)
  rw [e, e2] at e1
  exact mod_ne x y n (by omega) h1 h2 e1.symm
/-- what stands in the places -/
def Win (top : Int) (n : Nat) (pl : Nat → Int) (L : List Int) : Prop := ∀ i, i < L.length → L[i]? = some (pl (plc (top + i) n))
theorem win_nil (top : Int) (n : Nat) (pl : Nat → Int) : Win top n pl [] := fun i hi => by simp at hi
theorem win_tail {top : Int} {n : Nat} {pl : Nat → Int} {y : Int} {L : List Int} (h : Win top n pl (y :: L)) : Win (top + 1) n pl L ∧ y = pl (plc top n) := by
  refine ⟨fun i hi => ?_, ?_⟩
  · have := h (i + 1) (by simp; omega)
    rw [show top + 1 + (i : Int) = top + ((i + 1 : Nat) : Int) by omega, ← this]; rfl
  · have := h 0 (by simp)
    rw [show top + ((0 : Nat) : Int) = top by omega] at this
    simpa using this
theorem win_init {top : Int} {n : Nat} {pl : Nat → Int} {y : Int} {L : List Int} (h : Win top n pl (L ++ [y])) : Win top n pl L ∧ y = pl (plc (top + L.length) n) := by
  refine ⟨fun i hi => ?_, ?_⟩
  · have := h i (by simp; omega)
    rw [← this, List.getElem?_append_left hi]
  · have := h L.length (by simp)
    simpa using this
theorem win_push {top : Int} {n : Nat} {pl : Nat → Int} {L : List Int} (h : Win top n pl L) (v : Int) (hv : pl (plc (top + L.length) n) = v) : Win top n pl (L ++ [v]) := by
  intro i hi
  by_cases e : i < L.length
  · rw [List.getElem?_append_left e]; exact h i e
  · have e : i = L.length := by simp at hi; omega
    subst e; rw [hv]; simp
theorem win_set {top : Int} {n : Nat} {pl : Nat → Int} {L : List Int} (h : Win top n pl L) (h0 : 0 ≤ top) (h1 : 1 ≤ n) (hl : L.length < n) (v : Int) : Win top n (fun j => if j = plc (top + L.length) n then v else pl j) L := by
  intro i hi
  rw [h i hi]
  dsimp only
  rw [if_neg (plc_ne _ _ n h1 (by omega) (by omega) (by omega))]
/-- the owner's -/
def Ow (top bot : Int) (n : Nat) (pl : Nat → Int) (L : List Int) (tk : Option Int) (x : T) : Prop :=
  match x.nx with
  | .no | .a33 => tk = none ∧ bot = top + L.length
  | .a34 => tk = none ∧ bot = top + L.length ∧ x.win = false
  | .a37 => tk = none ∧ bot = top + L.length ∧ x.b = bot
  | .a41 => tk = none ∧ bot = top + L.length ∧ x.b = bot ∧ L.length < n
  | .a44 => tk = none ∧ bot = top + L.length ∧ x.b = bot ∧ L.length < n ∧ pl (plc x.b n) = x.v
  | .a38 => tk = none ∧ bot = top + L.length ∧ x.b = bot - 1 ∧ x.win = false
  | .a42 => tk = none ∧ bot = x.b ∧ x.b + 1 = top + L.length ∧ x.win = false
  | .a46 => bot = x.b ∧ x.t ≤ top ∧ x.t ≤ x.b ∧ ((x.t < x.b ∧ top + L.length = x.b ∧ tk = some (pl (plc x.b n))) ∨ (x.t = x.b ∧ tk = none ∧ x.b + 1 = top + L.length))
  | .a48 => bot = x.b ∧ x.t = x.b ∧ x.t ≤ top ∧ x.b + 1 = top + L.length ∧ tk = none ∧ ∀ y ∈ L, y = x.v
  | .a45 => bot = x.b ∧ L = [] ∧ x.b + 1 = top ∧ tk = if x.win = true then some x.v else none
  | _ => False
/-- a thief's -/
def Tf (top : Int) (L : List Int) (x : T) : Prop :=
  match x.nx with
  | .no | .a35 => True
  | .a39 => x.t ≤ top
  | .a43 => x.t ≤ top ∧ (x.t = top → L.head? ≠ none)
  | .a47 => x.t ≤ top ∧ (x.t = top → L.head? = some x.v)
  | _ => False
theorem tf_more {top : Int} {L L' : List Int} {x : T} (h : Tf top L x) (hh : ∀ y, L.head? = some y → L'.head? = some y) : Tf top L' x := by
  unfold Tf at *
  cases hn : x.nx <;> rw [hn] at h <;> simp only at h ⊢ <;> try exact h
  · refine ⟨h.1, fun e => ?_⟩
    have := h.2 e
    cases hL : L.head? with
    | none => exact absurd hL this
    | some y => rw [hh y hL]; simp
  · exact ⟨h.1, fun e => hh _ (h.2 e)⟩
theorem tf_up {top top' : Int} {L L' : List Int} {x : T} (h : Tf top L x) (hh : top < top') : Tf top' L' x := by
  unfold Tf at *
  cases hn : x.nx <;> rw [hn] at h <;> simp only at h ⊢ <;> try exact h
  · omega
  · exact ⟨by omega, fun e => by omega⟩
  · exact ⟨by omega, fun e => by omega⟩
structure Iv (q : Q) (L : List Int) (tk : Option Int) : Prop where
  t0 : 0 ≤ q.top
  n1 : 1 ≤ q.n
  n2 : q.n ≤ 64
  hl : L.length ≤ q.n
  w : Win q.top q.n q.pl L
  ow : Ow q.top q.bot q.n q.pl L tk (q.th 0)
  th : ∀ k, 1 ≤ k → k < 8 → Tf q.top L (q.th k)
def pushing : Nx → Bool | .a33 | .a37 | .a41 | .a44 => true | _ => false
def popping : Nx → Bool | .a34 | .a38 | .a42 | .a46 | .a48 | .a45 => true | _ => false
/-- what is being pushed -/
def pvOf (q : Q) : Option Int := if pushing (q.th 0).nx = true then some (q.th 0).v else none
/-- what an access comes to, for the list -/
inductive Ev : Nat → List Int → Option Int → Option Int → D → List Int → Option Int → Option Int → Prop
  | quiet (n L tk pv) : Ev n L tk pv {} L tk pv
  | pushed (n L v) : Ev n L none (some v) { over := true, op := 0, v := v, err := 0 } (L ++ [v]) none none
  | full (n L v) (h : L.length = n) : Ev n L none (some v) { over := true, op := 0, v := v, err := 7 } L none none
  | took (n L y) : Ev n (L ++ [y]) none none {} L (some y) none
  | popped (n L y) : Ev n L (some y) none { over := true, op := 1, v := y, err := 0 } L none none
  | empty (n) : Ev n [] none none { over := true, op := 1, v := 0, err := 8 } [] none none
  | stolen (n L y tk pv) : Ev n (y :: L) tk pv { over := true, op := 2, v := y, err := 0 } L tk pv
  | none2 (n L tk pv e) (h : e ≠ 0) : Ev n L tk pv { over := true, op := 2, v := 0, err := e } L tk pv
/-- the state behind an access -/
def stp (q : Q) (k : Nat) : Q := (stepA q k).fin k
theorem step_at (q : Q) (k : Nat) (hk : k < 8) (hx : (q.th k).nx ≠ .no) : step q k = (((stepA q k).d, 0), stp q k) := by
  unfold step stp
  rw [if_neg (by omega), Int.toNat_natCast, if_neg hx]
theorem setT_ne (q : Q) (k j : Nat) (x : T) (h : j ≠ k) : (q.setT k x).th j = q.th j := if_neg h
theorem wrE (x : Int) (h1 : -1000000000000000000 ≤ x) (h2 : x ≤ 1000000000000000000) : wrap64 x = x := by unfold wrap64; omega
theorem head_app (L : List Int) (y : Int) : ∀ z, L.head? = some z → (L ++ [y]).head? = some z := fun z h => by
  cases L with | nil => cases h | cons a l => exact h
theorem stp_set {q : Q} {k : Nat} {q1 : Q} {y : T} {n : Nx} {d : D} (h : stepA q k = ⟨q1.setT k y, n, d⟩) : stp q k = q1.setT k (y.setN n) := by
  unfold stp A.fin; rw [h]; dsimp only; rw [setT_at, setT_setT]
theorem stp_same {q : Q} {k : Nat} {q1 : Q} {n : Nx} {d : D} (h : stepA q k = ⟨q1, n, d⟩) : stp q k = q1.setT k ((q1.th k).setN n) := by
  unfold stp A.fin; rw [h]
/-- the owner alone is turned -/
theorem iv_own {q : Q} {L L' : List Int} {tk tk' : Option Int} (I : Iv q L tk) (q1 : Q) (y : T) (hn : q1.n = q.n) (ht : ∀ k, q1.th k = q.th k) (h0 : 0 ≤ q1.top) (hl : L'.length ≤ q.n) (hw : Win q1.top q.n q1.pl L') (how : Ow q1.top q1.bot q.n q1.pl L' tk' y)
    (hT : q.top < q1.top ∨ q.top = q1.top ∧ ∀ z, L.head? = some z → L'.head? = some z) : Iv (q1.setT 0 y) L' tk' := by
  refine ⟨h0, by show 1 ≤ q1.n; rw [hn]; exact I.n1, by show q1.n ≤ 64; rw [hn]; exact I.n2, by show _ ≤ q1.n; rw [hn]; exact hl, by show Win q1.top q1.n q1.pl L'; rw [hn]; exact hw, ?_, fun k h1 h2 => ?_⟩
  · rw [setT_at]; show Ow q1.top q1.bot q1.n q1.pl L' tk' y; rw [hn]; exact how
  · rw [setT_ne _ _ _ _ (by omega), ht]
    show Tf q1.top L' (q.th k)
    rcases hT with h | ⟨h, g⟩
    · exact tf_up (I.th k h1 h2) h
    · rw [← h]; exact tf_more (I.th k h1 h2) g
theorem iv_thf {q : Q} {L L' : List Int} {tk : Option Int} (I : Iv q L tk) (q1 : Q) (k : Nat) (y : T) (k1 : 1 ≤ k) (hn : q1.n = q.n) (ht : ∀ j, q1.th j = q.th j) (h0 : 0 ≤ q1.top) (hl : L'.length ≤ q.n) (hw : Win q1.top q.n q1.pl L') (how : Ow q1.top q1.bot q.n q1.pl L' tk (q.th 0)) (hy : Tf q1.top L' y)
    (hT : q.top < q1.top ∨ q.top = q1.top ∧ ∀ z, L.head? = some z → L'.head? = some z) : Iv (q1.setT k y) L' tk := by
  refine ⟨h0, by show 1 ≤ q1.n; rw [hn]; exact I.n1, by show q1.n ≤ 64; rw [hn]; exact I.n2, by show _ ≤ q1.n; rw [hn]; exact hl, by show Win q1.top q1.n q1.pl L'; rw [hn]; exact hw, ?_, fun j h1 h2 => ?_⟩
  · rw [setT_ne _ _ _ _ (by omega), ht]; show Ow q1.top q1.bot q1.n q1.pl L' tk (q.th 0); rw [hn]; exact how
  · by_cases e : j = k
    · subst e; rw [setT_at]; exact hy
    · rw [setT_ne _ _ _ _ e, ht]
      show Tf q1.top L' (q.th j)
      rcases hT with h | ⟨h, g⟩
      · exact tf_up (I.th j h1 h2) h
      · rw [← h]; exact tf_more (I.th j h1 h2) g
end Go.Proofs.Ytldobbdaokjgaaa
