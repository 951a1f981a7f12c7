/- The ring of workers, plain: what a pass comes to; what Sound, Tells and Still want of it. -/
namespace Go.Proofs.Ytmagenfndbaliaa
structure R where
  n : Nat
  bl : Nat → Bool
  tk : Bool
  h : Nat
  rd : Bool
def R.blk (r : R) (i : Nat) : R := { n := r.n, bl := fun j => if j = i then true else r.bl j, tk := r.tk, h := r.h, rd := r.rd }
def R.tells (r : R) : Bool := decide (r.h = 0) && r.rd && !r.tk && !r.bl 0
def R.go (r : R) : R := { n := r.n, bl := fun j => if j = r.h then false else r.bl j, tk := if r.h = 0 then false else (r.tk || r.bl r.h), h := if r.h + 1 = r.n then 0 else r.h + 1, rd := r.rd || decide (r.h = 0) }
def black (r : R) (i : Int) : Int × R := if i < 0 ∨ (r.n : Int) ≤ i then (6, r) else (0, r.blk i.toNat)
def pass (r : R) (i : Int) : (Bool × Int) × R := if i < 0 ∨ (r.n : Int) ≤ i then ((false, 6), r) else if i ≠ r.h then ((false, 13), r) else ((r.tells, 0), r.go)
def size (n : Int) : Nat := if n < 1 then 1 else if 64 < n then 64 else n.toNat
def R0 (n : Nat) : R := { n := n, bl := fun _ => true, tk := true, h := 0, rd := false }
structure Ok (r : R) : Prop where
  n1 : 1 ≤ r.n
  n2 : r.n ≤ 64
  h : r.h < r.n
  z : r.rd = false → r.h = 0
theorem ok0 (n : Nat) (h1 : 1 ≤ n) (h2 : n ≤ 64) : Ok (R0 n) := ⟨h1, h2, h1, fun _ => rfl⟩
theorem size_1 (n : Int) : 1 ≤ size n ∧ size n ≤ 64 := by unfold size; split; omega; split <;> omega
theorem Ok.blk {r : R} (h : Ok r) (i : Nat) : Ok (r.blk i) := ⟨h.n1, h.n2, h.h, h.z⟩
theorem Ok.go {r : R} (h : Ok r) : Ok r.go := by
  have := h.h
  refine ⟨h.n1, h.n2, ?_, ?_⟩
  · show (if r.h + 1 = r.n then 0 else r.h + 1) < r.n
    split <;> omega
  · intro e
    have e' : (r.rd || decide (r.h = 0)) = false := e
    have h1 : r.rd = false := by cases hr : r.rd <;> simp_all
    have h2 := h.z h1
    simp [h2] at e'
theorem black_ok {r : R} (h : Ok r) (i : Int) : Ok (black r i).2 ∧ (black r i).2.n = r.n := by
  unfold black; split
  · exact ⟨h, rfl⟩
  · exact ⟨h.blk _, rfl⟩
theorem pass_ok {r : R} (h : Ok r) (i : Int) : Ok (pass r i).2 ∧ (pass r i).2.n = r.n := by
  unfold pass; split
  · exact ⟨h, rfl⟩
  · split
    · exact ⟨h, rfl⟩
    · exact ⟨h.go, rfl⟩
theorem pass_go {r : R} (h : Ok r) : pass r r.h = ((r.tells, 0), r.go) := by
  have := h.h
  unfold pass
  rw [if_neg (by omega), if_neg (by simp)]
/-- who has been passed since the round began: 1 .. pos - 1 -/
def R.pos (r : R) : Nat := if r.h = 0 then r.n else r.h
/-! ## Sound -/
def Snd (r : R) (b : Nat → Bool) : Prop := r.rd = true → r.tk = true ∨ (∃ w, w < r.n ∧ (w = 0 ∨ r.pos ≤ w) ∧ r.bl w = true) ∨ ∀ v, 0 < v → v < r.pos → b v = false
theorem snd0 (n : Nat) (b : Nat → Bool) : Snd (R0 n) b := fun h => by cases h
theorem snd_rest {r : R} {b : Nat → Bool} (h : Snd r b) (i : Nat) : Snd r (fun j => if j = i then false else b j) := fun hr => by
  rcases h hr with h | h | h
  · exact .inl h
  · exact .inr (.inl h)
  · refine .inr (.inr (fun v h0 h1 => ?_))
    dsimp only; split
    · rfl
    · exact h v h0 h1
theorem snd_blk {r : R} {b : Nat → Bool} (h : Snd r b) (i j : Nat) (hi : i < r.n) (hb : b i = true ∨ i = 0) : Snd (r.blk i) (fun k => if k = j then true else b k) := fun hr => by
  have e : (r.blk i).pos = r.pos := rfl
  rcases h hr with h | ⟨w, h1, h2, h3⟩ | h
  · exact .inl h
  · refine .inr (.inl ⟨w, h1, h2, ?_⟩)
    show (if w = i then true else r.bl w) = true
    split
    · rfl
    · exact h3
  · by_cases hp : i = 0 ∨ r.pos ≤ i
    · exact .inr (.inl ⟨i, hi, hp, by show (if i = i then true else r.bl i) = true; rw [if_pos rfl]⟩)
    · rcases hb with hb | hb
      · have := h i (by omega) (by omega)
        rw [this] at hb; cases hb
      · omega
theorem snd_go {r : R} {b : Nat → Bool} (h : Snd r b) (O : Ok r) (hb : b r.h = false) : Snd r.go b ∧ (r.tells = true → ∀ w, w < r.n → b w = false) := by
  have h0 := O.h
  constructor
  · intro hr
    by_cases e : r.h = 0
    · have ep : ∀ v, 0 < v → v < r.go.pos → b v = false := by
        intro v h1 h2
        by_cases e1 : r.h + 1 = r.n
        · have : r.go.pos = r.n := by unfold R.pos R.go; simp [e1]
          rw [this] at h2; omega
        · have : r.go.pos = r.h + 1 := by unfold R.pos R.go; simp [e1]
          rw [this] at h2; omega
      exact .inr (.inr ep)
    · have hr' : r.rd = true := by
        cases h1 : r.rd with
        | true => rfl
        | false => exact absurd (O.z h1) e
      have ep : r.go.pos = r.h + 1 := by
        unfold R.pos R.go
        by_cases e1 : r.h + 1 = r.n
        · simp [e1]
        · simp [e1]
      have e0 : r.pos = r.h := by unfold R.pos; rw [if_neg e]
      have et : r.go.tk = (r.tk || r.bl r.h) := by unfold R.go; exact if_neg e
      rcases h hr' with h | ⟨w, h1, h2, h3⟩ | h
      · left; rw [et, h]; rfl
      · by_cases ew : w = r.h
        · subst ew; left; rw [et, h3]; simp
        · refine .inr (.inl ⟨w, h1, ?_, ?_⟩)
          · rw [ep]; rw [e0] at h2; omega
          · show (if w = r.h then false else r.bl w) = true
            rw [if_neg ew]; exact h3
      · refine .inr (.inr (fun v h1 h2 => ?_))
        rw [ep] at h2
        by_cases ev : v = r.h
        · rw [ev]; exact hb
        · exact h v h1 (by rw [e0]; omega)
  · intro ht
    unfold R.tells at ht
    simp only [Bool.and_eq_true, decide_eq_true_eq, Bool.not_eq_true', and_assoc] at ht
    obtain ⟨t1, t2, t3, t4⟩ := ht
    have ep : r.pos = r.n := by unfold R.pos; rw [if_pos t1]
    rcases h t2 with h | ⟨w, h1, h2, h3⟩ | h
    · rw [t3] at h; cases h
    · have : w = 0 := by omega
      subst this; rw [t4] at h3; cases h3
    · intro w hw
      by_cases e : w = 0
      · rw [e, ← t1]; exact hb
      · exact h w (by omega) (by omega)
/-! ## Tells -/
def R.dist (r : R) : Nat := if r.h = 0 then 0 else r.n - r.h
/-- at pass i: in the first round, in the second one, in the third one -/
def Tel (r : R) (i : Nat) : Prop := i + r.dist + 1 ≤ r.n ∨ (r.rd = true ∧ i + r.dist + 1 ≤ 2 * r.n ∧ r.bl 0 = false ∧ ∀ v, 0 < v → v < r.pos → r.bl v = false) ∨ (r.rd = true ∧ i + r.dist + 1 ≤ 3 * r.n ∧ r.tk = false ∧ ∀ v, v < r.n → r.bl v = false)
theorem tel0 {r : R} (O : Ok r) : Tel r 0 := by
  have := O.h
  left; unfold R.dist; split <;> omega
theorem go_h (r : R) : r.go.h = if r.h + 1 = r.n then 0 else r.h + 1 := rfl
theorem go_n (r : R) : r.go.n = r.n := rfl
theorem go_bl (r : R) (v : Nat) : r.go.bl v = if v = r.h then false else r.bl v := rfl
theorem go_dist {r : R} (O : Ok r) : (r.h ≠ 0 → r.go.dist + 1 = r.dist) ∧ (r.h = 0 → r.go.dist + 1 = r.n) := by
  have := O.h
  unfold R.dist
  rw [go_h, go_n]
  by_cases e1 : r.h + 1 = r.n
  · rw [if_pos e1, if_pos rfl]
    exact ⟨fun e => by rw [if_neg e]; omega, fun e => by omega⟩
  · rw [if_neg e1, if_neg (by omega)]
    exact ⟨fun e => by rw [if_neg e]; omega, fun e => by omega⟩
theorem go_pos {r : R} (O : Ok r) : (r.h ≠ 0 → r.go.pos = r.h + 1) ∧ (r.h = 0 → r.go.pos = 1) := by
  have := O.h
  unfold R.pos
  rw [go_h, go_n]
  by_cases e1 : r.h + 1 = r.n
  · rw [if_pos e1, if_pos rfl]
    exact ⟨fun e => by omega, fun e => by omega⟩
  · rw [if_neg e1, if_neg (by omega)]
    exact ⟨fun e => by omega, fun e => by omega⟩
theorem tel_go {r : R} {i : Nat} (h : Tel r i) (O : Ok r) (ht : r.tells = false) : Tel r.go (i + 1) := by
  have h0 := O.h
  have hd := go_dist O
  have hp := go_pos O
  by_cases e : r.h = 0
  · have e1 := hd.2 e
    have e2 := hp.2 e
    have e3 : r.dist = 0 := by unfold R.dist; rw [if_pos e]
    have er : r.go.rd = true := by show (r.rd || decide (r.h = 0)) = true; simp [e]
    rcases h with h | ⟨h1, h2, h3, h4⟩ | ⟨h1, h2, h3, h4⟩
    · refine .inr (.inl ⟨er, by rw [go_n]; omega, by rw [go_bl, e]; rfl, fun v a b => by omega⟩)
    · have ep : r.pos = r.n := by unfold R.pos; rw [if_pos e]
      refine .inr (.inr ⟨er, by rw [go_n]; omega, by show (if r.h = 0 then false else _) = false; rw [if_pos e], fun v a => ?_⟩)
      rw [go_bl]
      split
      · rfl
      · exact h4 v (by omega) (by rw [ep]; exact a)
    · exfalso
      have : r.tells = true := by
        unfold R.tells
        rw [h1, h3, h4 0 (by omega)]; simp [e]
      rw [this] at ht; cases ht
  · have e1 := hd.1 e
    have e2 := hp.1 e
    rcases h with h | ⟨h1, h2, h3, h4⟩ | ⟨h1, h2, h3, h4⟩
    · left; rw [go_n]; omega
    · have ep : r.pos = r.h := by unfold R.pos; rw [if_neg e]
      refine .inr (.inl ⟨by show (r.rd || _) = true; rw [h1]; rfl, by rw [go_n]; omega, by rw [go_bl]; split; rfl; exact h3, fun v a b => ?_⟩)
      rw [go_bl]; split
      · rfl
      · exact h4 v a (by omega)
    · refine .inr (.inr ⟨by show (r.rd || _) = true; rw [h1]; rfl, by rw [go_n]; omega, ?_, fun v a => ?_⟩)
      · show (if r.h = 0 then false else (r.tk || r.bl r.h)) = false
        rw [if_neg e, h3, h4 _ h0]; rfl
      · rw [go_bl]; split
        · rfl
        · exact h4 v a
theorem tel_lt {r : R} {i : Nat} (h : Tel r i) : i < 3 * r.n := by
  rcases h with h | ⟨_, h, _⟩ | ⟨_, h, _⟩ <;> omega
/-! ## Still -/
/-- after i passes of a new ring: the first round's, then white ones -/
def Stl (r : R) (i : Nat) : Prop := r.h = i % r.n ∧ (1 ≤ i → r.rd = true) ∧ (r.n < i → r.tk = false ∨ i ≤ 2 * r.n) ∧ ∀ v, v < r.n → v < i → r.bl v = false
theorem stl0 (n : Nat) : Stl (R0 n) 0 := ⟨by simp [R0], fun h => by omega, fun h => by omega, fun v _ h => by omega⟩
theorem mod_next {i n : Nat} (hn : 1 ≤ n) : (i + 1) % n = if i % n + 1 = n then 0 else i % n + 1 := by
  have h1 := Nat.mod_lt i hn
  have h2 := Nat.div_add_mod i n
  split
  · rename_i e
    have : i + 1 = n * (i / n + 1) := by rw [Nat.mul_add]; omega
    rw [this]; exact Nat.mul_mod_right _ _
  · have : i + 1 = (i % n + 1) + n * (i / n) := by omega
    rw [this, Nat.add_mul_mod_self_left]
    exact Nat.mod_eq_of_lt (by omega)
theorem stl_go {r : R} {i : Nat} (h : Stl r i) (O : Ok r) : Stl r.go (i + 1) := by
  have h0 := O.h
  obtain ⟨h1, h2, h3, h4⟩ := h
  refine ⟨?_, fun _ => ?_, fun hi => ?_, fun v a b => ?_⟩
  · show (if r.h + 1 = r.n then 0 else r.h + 1) = _
    rw [go_n, mod_next O.n1, h1]
  · show (r.rd || decide (r.h = 0)) = true
    by_cases e : i = 0
    · rw [e] at h1; simp [h1]
    · rw [h2 (by omega)]; rfl
  · rw [go_n] at hi ⊢
    by_cases e : r.h = 0
    · left; show (if r.h = 0 then false else _) = false; rw [if_pos e]
    · by_cases e2 : i + 1 ≤ 2 * r.n
      · exact .inr e2
      · left
        show (if r.h = 0 then false else (r.tk || r.bl r.h)) = false
        rw [if_neg e, h4 _ h0 (by omega)]
        by_cases e3 : r.n < i
        · rcases h3 e3 with h | h
          · rw [h]; rfl
          · exfalso
            have : i = 2 * r.n := by omega
            rw [h1, this] at e; exact e (by simp)
        · omega
  · rw [go_bl]; split
    · rfl
    · rw [go_n] at a
      by_cases e : v < i
      · exact h4 v a e
      · have : v = i := by omega
        subst this
        rename_i hne
        exact absurd (by rw [h1]; exact (Nat.mod_eq_of_lt a).symm) hne
/-- before pass i of the round, behind the pass of the worker 0: blackened w at t -/
structure Std (r : R) (w t i : Nat) : Prop where
  lt : i < r.n
  h : r.h = (i + 1) % r.n
  rd : r.rd = true
  bl : ∀ v, v < r.n → v ≠ w → r.bl v = false
  bw : r.bl w = decide (t < i ∧ (w = 0 ∨ i < w ∨ w ≤ t))
  tk : r.tk = decide (w ≠ 0 ∧ t < w ∧ w ≤ i)
theorem std0 {r : R} {i : Nat} (O : Ok r) (h : Stl r i) (hi : 2 * r.n < i) (h0 : r.h = 0) (w t : Nat) (hw : w < r.n) : Std r.go w t 0 := by
  obtain ⟨h1, h2, h3, h4⟩ := h
  have hb : ∀ v, v < r.n → r.go.bl v = false := fun v a => by
    rw [go_bl]; split
    · rfl
    · exact h4 v a (by omega)
  refine ⟨O.n1, ?_, ?_, fun v a _ => hb v a, ?_, ?_⟩
  · show (if r.h + 1 = r.n then 0 else r.h + 1) = (0 + 1) % r.n
    rw [h0, mod_next O.n1, Nat.zero_mod]
  · show (r.rd || decide (r.h = 0)) = true
    rw [h0]; simp
  · rw [hb w hw]; simp
  · show (if r.h = 0 then false else _) = _
    rw [if_pos h0]
    symm; rw [decide_eq_false_iff_not]; omega
/-- the pass i of it, the black one laid ahead of it where i is its time -/
def R.at (r : R) (w t i : Nat) : R := if i = t then r.blk w else r
theorem Ok.at {r : R} (h : Ok r) (w t i : Nat) : Ok (r.at w t i) := by unfold R.at; split; exact h.blk _; exact h
theorem at_bl (r : R) (w t i v : Nat) (hv : v ≠ w) : (r.at w t i).bl v = r.bl v := by
  unfold R.at; split
  · exact if_neg hv
  · rfl
theorem at_bw {r : R} {w t i : Nat} (h : Std r w t i) : (r.at w t i).bl w = decide (t ≤ i ∧ (w = 0 ∨ i < w ∨ w ≤ t)) := by
  unfold R.at; split
  · rename_i e
    have : decide (t ≤ i ∧ (w = 0 ∨ i < w ∨ w ≤ t)) = true := by rw [decide_eq_true_eq]; omega
    rw [this]; exact if_pos rfl
  · rw [h.bw]; rename_i e; rw [Bool.eq_iff_iff, decide_eq_true_eq, decide_eq_true_eq]; omega
theorem at_h (r : R) (w t i : Nat) : (r.at w t i).h = r.h ∧ (r.at w t i).n = r.n ∧ (r.at w t i).rd = r.rd ∧ (r.at w t i).tk = r.tk := by unfold R.at; split <;> exact ⟨rfl, rfl, rfl, rfl⟩
theorem std_tells {r : R} {w t i : Nat} (h : Std r w t i) (hw : w < r.n) (ht : t < r.n) :
    (r.at w t i).tells = (decide (i + 1 = r.n) && !(decide (w = 0) || decide (t < w))) := by
  obtain ⟨e1, e2, e3, e4⟩ := at_h r w t i
  have hi := h.lt
  unfold R.tells
  rw [e1, e3, e4, h.rd, h.tk, h.h]
  by_cases e : i + 1 = r.n
  · rw [e, Nat.mod_self]
    by_cases hw0 : w = 0
    · subst hw0
      rw [at_bw h]
      have : decide (t ≤ i ∧ (0 = 0 ∨ i < 0 ∨ 0 ≤ t)) = true := by rw [decide_eq_true_eq]; omega
      rw [this]; simp
    · rw [at_bl _ _ _ _ _ (Ne.symm hw0), h.bl 0 (by omega) (Ne.symm hw0), Bool.eq_iff_iff]
      simp [hw0]; omega
  · rw [Nat.mod_eq_of_lt (by omega)]; simp [e]
theorem std_go {r : R} {w t i : Nat} (h : Std r w t i) (hi : i + 1 < r.n) : Std (r.at w t i).go w t (i + 1) := by
  obtain ⟨e1, e2, e3, e4⟩ := at_h r w t i
  have hh : r.h = i + 1 := by rw [h.h, Nat.mod_eq_of_lt hi]
  refine ⟨by rw [go_n, e2]; exact hi, ?_, ?_, fun v a b => ?_, ?_, ?_⟩
  · rw [go_h, go_n, e1, e2, hh, mod_next (by omega : 1 ≤ r.n), Nat.mod_eq_of_lt hi]
  · show ((r.at w t i).rd || _) = true
    rw [e3, h.rd]; rfl
  · rw [go_bl]; split
    · rfl
    · rw [at_bl _ _ _ _ _ b]; exact h.bl v (by rw [go_n, e2] at a; exact a) b
  · rw [go_bl, e1, hh, at_bw h]
    by_cases e : w = i + 1
    · rw [if_pos e]; symm; rw [decide_eq_false_iff_not]; omega
    · rw [if_neg e, Bool.eq_iff_iff, decide_eq_true_eq, decide_eq_true_eq]; omega
  · show (if (r.at w t i).h = 0 then false else ((r.at w t i).tk || (r.at w t i).bl (r.at w t i).h)) = _
    rw [e1, e4, hh, if_neg (by omega), h.tk]
    by_cases e : w = i + 1
    · have hb := at_bw h
      rw [e] at hb
      rw [e, hb, Bool.eq_iff_iff, Bool.or_eq_true, decide_eq_true_eq, decide_eq_true_eq, decide_eq_true_eq]; omega
    · rw [at_bl _ _ _ _ _ (Ne.symm e), h.bl (i + 1) hi (Ne.symm e), Bool.or_false, Bool.eq_iff_iff, decide_eq_true_eq, decide_eq_true_eq]; omega
end Go.Proofs.Ytmagenfndbaliaa
