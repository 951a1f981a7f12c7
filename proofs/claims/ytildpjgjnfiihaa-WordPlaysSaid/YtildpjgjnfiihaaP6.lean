/- The word, plain: what a row of the laws does; who holds, what is queued. -/
import Derived.Test.YtildpjgjnfiihaaP5
namespace Go.Proofs.Ytildpjgjnfiihaa
set_option linter.unusedVariables false
set_option linter.unusedSimpArgs false
def stp (q : Q) (k : Nat) : Q := { now := (stepA q k).now, held := (stepA q k).held, th := fun j => if j = k then (stepA q k).nx else q.th j }
theorem step_at (q : Q) (k : Nat) (hk : k < 8) (h : q.th k ≠ .no) : step q k = (((stepA q k).what, 0), stp q k) := by
  unfold step
  rw [if_neg (by omega), if_neg (by rw [Int.toNat_natCast]; exact h), Int.toNat_natCast]
  rfl
/-- a thread begins anew, if it has nothing under way -/
def hop (m : Nat) : Nx := if m = 0 then .sleep else if m = 1 then .yield else .die
def lb (q : Q) (k m : Nat) : Q := if q.th k ≠ .no then q else if k = 0 then (if q.held = true then q.set 0 (hop m) else q.set 0 .start) else q.set k .look
def ok0 (held : Bool) : Nx → Bool
  | .no => true | .start => !held | .sleep => held | .goes => held | .yield => held | .die => held | _ => false
def okk : Nx → Bool
  | .no => true | .look => true | .wk _ => true | _ => false
def hb (now : Nat) : Bool := now == 2 || now == 3
structure Iv (q : Q) : Prop where
  n5 : q.now < 5
  hr : q.held = hb q.now
  t0 : ok0 q.held (q.th 0) = true
  tk : ∀ k, k ≠ 0 → k < 8 → okk (q.th k) = true
theorem iv0 : Iv Q0 := ⟨by decide, rfl, rfl, fun _ _ _ => rfl⟩
theorem hop_no (m : Nat) : hop m ≠ .no := by unfold hop; split; simp; split <;> simp
theorem hop_ok (m : Nat) : ok0 true (hop m) = true := by unfold hop; split; rfl; split <;> rfl
theorem set_th (q : Q) (k j : Nat) (x : Nx) : (q.set k x).th j = if j = k then x else q.th j := rfl
theorem lb_on (q : Q) (k m : Nat) : (lb q k m).th k ≠ .no := by
  unfold lb
  split
  · assumption
  · split
    · rename_i h
      subst h
      split
      · rw [set_th, if_pos rfl]; exact hop_no m
      · rw [set_th, if_pos rfl]; simp
    · rw [set_th, if_pos rfl]; simp
theorem lb_now (q : Q) (k m : Nat) : (lb q k m).now = q.now ∧ (lb q k m).held = q.held := by
  unfold lb
  split
  · exact ⟨rfl, rfl⟩
  · split
    · split <;> exact ⟨rfl, rfl⟩
    · exact ⟨rfl, rfl⟩
theorem iv_lb {q : Q} (I : Iv q) (k m : Nat) : Iv (lb q k m) := by
  unfold lb
  split
  · exact I
  · split
    · split
      · rename_i h
        refine ⟨I.n5, I.hr, ?_, fun j h0 hj => ?_⟩
        · rw [set_th, if_pos rfl]; show ok0 q.held (hop m) = true; rw [h]; exact hop_ok m
        · rw [set_th, if_neg h0]; exact I.tk j h0 hj
      · rename_i h
        refine ⟨I.n5, I.hr, ?_, fun j h0 hj => ?_⟩
        · rw [set_th, if_pos rfl]; show ok0 q.held .start = true; rw [show q.held = false by simpa using h]; rfl
        · rw [set_th, if_neg h0]; exact I.tk j h0 hj
    · rename_i hk
      refine ⟨I.n5, I.hr, ?_, fun j h0 hj => ?_⟩
      · rw [set_th, if_neg (Ne.symm hk)]; exact I.t0
      · rw [set_th]
        split
        · rfl
        · exact I.tk j h0 hj
def c1 (b : Bool) : Nat := if b = true then 1 else 0
theorem act0 (now : Nat) (h5 : now < 5) (x : Nx) (h : ok0 (hb now) x = true) (hx : x ≠ .no) :
    (act now (hb now) x).now < 5 ∧ (act now (hb now) x).held = hb (act now (hb now) x).now ∧ ok0 (act now (hb now) x).held (act now (hb now) x).nx = true ∧
    c1 ((act now (hb now) x).now == 1) + c1 (!(hb now) && (act now (hb now) x).what == 0) = c1 (now == 1) + c1 ((act now (hb now) x).what == 1) := by
  have : now = 0 ∨ now = 1 ∨ now = 2 ∨ now = 3 ∨ now = 4 := by omega
  rcases this with rfl | rfl | rfl | rfl | rfl <;> cases x <;> first | (exact absurd rfl hx) | (exact absurd h (by decide)) | decide | (rename_i c; cases c <;> first | (exact absurd h (by decide)) | decide)
theorem actk (now : Nat) (h5 : now < 5) (x : Nx) (h : okk x = true) (hx : x ≠ .no) :
    (act now (hb now) x).now < 5 ∧ (act now (hb now) x).held = hb (act now (hb now) x).now ∧ (act now (hb now) x).held = hb now ∧ okk (act now (hb now) x).nx = true ∧
    c1 ((act now (hb now) x).now == 1) = c1 (now == 1) + c1 ((act now (hb now) x).what == 1) ∧
    ((act now (hb now) x).what ≠ -1 → (act now (hb now) x).now = 1 ∨ (act now (hb now) x).now = 3 ∨ (act now (hb now) x).now = 4) := by
  have : now = 0 ∨ now = 1 ∨ now = 2 ∨ now = 3 ∨ now = 4 := by omega
  rcases this with rfl | rfl | rfl | rfl | rfl <;> cases x <;> first | (exact absurd rfl hx) | (exact absurd h (by decide)) | decide | (rename_i c; cases c <;> first | (exact absurd h (by decide)) | decide)
theorem stepA_hb {q : Q} (I : Iv q) (k : Nat) : stepA q k = act q.now (hb q.now) (q.th k) := by unfold stepA; rw [I.hr]
theorem iv_stp {q : Q} (I : Iv q) (k : Nat) (hk : k < 8) (hx : q.th k ≠ .no) : Iv (stp q k) := by
  have e := stepA_hb I k
  by_cases h0 : k = 0
  · subst h0
    obtain ⟨a1, a2, a3, _⟩ := act0 q.now I.n5 (q.th 0) (by rw [← I.hr]; exact I.t0) hx
    refine ⟨by show (stepA q 0).now < 5; rw [e]; exact a1, by show (stepA q 0).held = hb (stepA q 0).now; rw [e]; exact a2, ?_, fun j h0 hj => ?_⟩
    · show ok0 (stepA q 0).held (if 0 = 0 then (stepA q 0).nx else q.th 0) = true
      rw [if_pos rfl, e]; exact a3
    · show okk (if j = 0 then (stepA q 0).nx else q.th j) = true
      rw [if_neg h0]; exact I.tk j h0 hj
  · obtain ⟨a1, a2, a3, a4, _⟩ := actk q.now I.n5 (q.th k) (I.tk k h0 hk) hx
    refine ⟨by show (stepA q k).now < 5; rw [e]; exact a1, by show (stepA q k).held = hb (stepA q k).now; rw [e]; exact a2, ?_, fun j hj0 hj => ?_⟩
    · show ok0 (stepA q k).held (if 0 = k then (stepA q k).nx else q.th 0) = true
      rw [if_neg (Ne.symm h0), e, a3, ← I.hr]; exact I.t0
    · show okk (if j = k then (stepA q k).nx else q.th j) = true
      split
      · rw [e]; exact a4
      · exact I.tk j hj0 hj
/-- Once: what a step does to the counts -/
theorem once_stp {q : Q} (I : Iv q) (k : Nat) (hk : k < 8) (hx : q.th k ≠ .no) :
    c1 ((stp q k).now == 1) + c1 (decide (k = 0) && !q.held && (stepA q k).what == 0) = c1 (q.now == 1) + c1 ((stepA q k).what == 1) := by
  have e := stepA_hb I k
  show c1 ((stepA q k).now == 1) + _ = _
  rw [e, I.hr]
  by_cases h0 : k = 0
  · subst h0
    have := (act0 q.now I.n5 (q.th 0) (by rw [← I.hr]; exact I.t0) hx).2.2.2
    simpa using this
  · have := (actk q.now I.n5 (q.th k) (I.tk k h0 hk) hx).2.2.2.2.1
    rw [decide_eq_false h0]
    simpa [c1] using this
/-- Lost: a wake that is over -/
theorem lost_stp {q : Q} (I : Iv q) (k : Nat) (hk : k < 8) (h0 : k ≠ 0) (hx : q.th k ≠ .no) (hw : (stepA q k).what ≠ -1) : (stp q k).now = 1 ∨ (stp q k).now = 3 ∨ (stp q k).now = 4 := by
  have e := stepA_hb I k
  show (stepA q k).now = 1 ∨ (stepA q k).now = 3 ∨ (stepA q k).now = 4
  rw [e] at hw ⊢
  exact (actk q.now I.n5 (q.th k) (I.tk k h0 hk) hx).2.2.2.2.2 hw
/-- Dead: dead, and nobody holds -/
structure Dd (q : Q) : Prop where
  iv : Iv q
  now : q.now = 4
theorem Dd.held {q : Q} (D : Dd q) : q.held = false := by rw [D.iv.hr, D.now]; rfl
theorem actd (x : Nx) (h : ok0 false x = true ∨ okk x = true) : (act 4 false x).now = 4 ∧ (act 4 false x).what ≠ 1 := by
  cases x <;> first | (exact absurd h (by decide)) | decide | (rename_i c; cases c <;> decide)
theorem dd_stp {q : Q} (D : Dd q) (k : Nat) (hk : k < 8) (hx : q.th k ≠ .no) : Dd (stp q k) ∧ (stepA q k).what ≠ 1 := by
  have hh := D.held
  have h : ok0 false (q.th k) = true ∨ okk (q.th k) = true := by
    by_cases h0 : k = 0
    · subst h0; left; rw [← hh]; exact D.iv.t0
    · right; exact D.iv.tk k h0 hk
  have e : stepA q k = act 4 false (q.th k) := by unfold stepA; rw [hh, D.now]
  have := actd (q.th k) h
  exact ⟨⟨iv_stp D.iv k hk hx, by show (stepA q k).now = 4; rw [e]; exact this.1⟩, by rw [e]; exact this.2⟩
theorem dd_lb {q : Q} (D : Dd q) (k m : Nat) : Dd (lb q k m) := ⟨iv_lb D.iv k m, (lb_now q k m).1.trans D.now⟩
end Go.Proofs.Ytildpjgjnfiihaa
