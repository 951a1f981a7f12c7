/- One step of a thread that has something under way, plain. -/
import Derived.Test.YtcbbjcafgnddcaaM9
namespace Go.Proofs.Ytcbbjcafgnddcaa
set_option linter.unusedVariables false
set_option linter.unusedSimpArgs false
theorem step_on {q : Q} {k : Nat} (hk : k < 8) (hon : (q.th k).on = true) : step q k = if k = 0 then (((take q).1, 0), (take q).2) else (((put q k).1, 0), (put q k).2) := by
  unfold step
  rw [if_neg (by omega), if_neg (by simpa using hon)]
  by_cases h : k = 0
  · subst h; rfl
  · rw [if_neg (by omega), if_neg h]; rfl
/-- what a step answers, and what it keeps -/
structure Sr (q : Q) (k : Nat) (d : D) (q' : Q) : Prop where
  e : step q k = ((d, 0), q')
  vv : q'.v = q.v
  nn : q'.n = q.n
  oth : ∀ j, j ≠ k → q'.th j = q.th j
theorem sr_put0 {q : Q} {r : List Nat} (V : Val q) (I : Inv q r) {k : Nat} (hk : k < 8) (h0 : k ≠ 0) (hon : (q.th k).on = true) (hm : (q.th k).made = 0) :
    ∃ q', Sr q k {} q' ∧ Inv q' r ∧ q'.th k = { on := true, made := 1, node := (q.th k).node } := by
  have e : put q k = ({}, { n := q.n, v := q.v, nx := fun j => if j = (q.th k).node then 0 else q.nx j, head := q.head, tail := q.tail, th := (q.set k { on := true, made := 1, node := (q.th k).node }).th }) := by
    unfold put; rw [if_pos hm]
  refine ⟨(put q k).2, ⟨by rw [step_on hk hon, if_neg h0, e], by rw [e], by rw [e], fun j hj => ?_⟩, inv_put0 I V k hk h0 hon hm, ?_⟩
  · rw [e]; exact set_other q _ hj
  · rw [e]; exact set_same q _ _
theorem sr_put1 {q : Q} {r : List Nat} (V : Val q) (I : Inv q r) {k : Nat} (hk : k < 8) (h0 : k ≠ 0) (hon : (q.th k).on = true) (hm : (q.th k).made = 1) :
    ∃ q', Sr q k {} q' ∧ Inv q' (r ++ [(q.th k).node]) ∧ q'.th k = { on := true, made := 2, node := (q.th k).node, prev := q.head } := by
  have e : put q k = ({}, { n := q.n, v := q.v, nx := q.nx, head := (q.th k).node, tail := q.tail, th := (q.set k { on := true, made := 2, node := (q.th k).node, prev := q.head }).th }) := by
    unfold put; rw [if_neg (by omega), if_pos hm]
  refine ⟨(put q k).2, ⟨by rw [step_on hk hon, if_neg h0, e], by rw [e], by rw [e], fun j hj => ?_⟩, inv_put1 I V k hk h0 hon hm, ?_⟩
  · rw [e]; exact set_other q _ hj
  · rw [e]; exact set_same q _ _
theorem sr_put2 {q : Q} {r : List Nat} (V : Val q) (I : Inv q r) {k : Nat} (hk : k < 8) (h0 : k ≠ 0) (hon : (q.th k).on = true) (hm : (q.th k).made = 2) :
    ∃ q', Sr q k { over := true, v := q.v (q.th k).node } q' ∧ Inv q' r ∧ q'.th k = {} := by
  have e : put q k = ({ over := true, v := q.v (q.th k).node }, { n := q.n, v := q.v, nx := fun j => if j = (q.th k).prev then (q.th k).node else q.nx j, head := q.head, tail := q.tail, th := (q.set k {}).th }) := by
    unfold put; rw [if_neg (by omega), if_neg (by omega)]
  refine ⟨(put q k).2, ⟨by rw [step_on hk hon, if_neg h0, e], by rw [e], by rw [e], fun j hj => ?_⟩, inv_put2 I V k hk h0 hon hm, ?_⟩
  · rw [e]; exact set_other q _ hj
  · rw [e]; exact set_same q _ _
theorem sr_take0 {q : Q} {r : List Nat} (V : Val q) (I : Inv q r) (hon : (q.th 0).on = true) (hm : (q.th 0).made = 0) :
    ∃ q', Sr q 0 {} q' ∧ Inv q' r ∧ q'.th 0 = { on := true, made := 1, node := q.nx q.tail } := by
  have e : take q = ({}, q.set 0 { on := true, made := 1, node := q.nx q.tail }) := by unfold take; rw [if_pos hm]
  refine ⟨(take q).2, ⟨by rw [step_on (by omega) hon, if_pos rfl, e], by rw [e]; rfl, by rw [e]; rfl, fun j hj => ?_⟩, inv_take0 I hm, ?_⟩
  · rw [e]; exact set_other q _ hj
  · rw [e]; exact set_same q _ _
theorem sr_take1 {q : Q} {r : List Nat} (V : Val q) (I : Inv q r) (hon : (q.th 0).on = true) (hm : (q.th 0).made = 1) :
    ∃ v e q' r', Sr q 0 { over := true, take := true, v := v, err := e } q' ∧ Inv q' r' ∧ q'.th 0 = {} ∧
      ((∃ x, r = x :: r' ∧ v = q.v x ∧ e = 0) ∨ (r = r' ∧ r = [] ∧ v = 0 ∧ e = 8) ∨ (r = r' ∧ r ≠ [] ∧ v = 0 ∧ e = 14)) := by
  by_cases hz : (q.th 0).node = 0
  · have e : take q = ({ over := true, take := true, err := if q.head = q.tail then 8 else 14 }, q.set 0 {}) := by
      unfold take; rw [if_neg (by omega), if_neg (by simpa using hz)]
    refine ⟨0, if q.head = q.tail then 8 else 14, (take q).2, r, ⟨by rw [step_on (by omega) hon, if_pos rfl, e], by rw [e]; rfl, by rw [e]; rfl, fun j hj => ?_⟩, inv_takeE I hm hz, ?_, .inr ?_⟩
    · rw [e]; exact set_other q _ hj
    · rw [e]; exact set_same q _ _
    · cases r with
      | nil => exact .inl ⟨rfl, rfl, rfl, if_pos I.lk.1⟩
      | cons x l =>
        right
        refine ⟨rfl, by simp, rfl, if_neg (fun hh => ?_)⟩
        have h1 := Lk.last (x :: l) q.tail I.lk
        rw [List.getLast_cons (by simp)] at h1
        have h2 : q.head ∈ x :: l := by rw [← h1]; exact List.getLast_mem _
        rw [hh] at h2
        exact (List.nodup_cons.1 I.nd).1 h2
  · obtain ⟨r', hr, I'⟩ := inv_take1 I hon hm hz
    have e : take q = ({ over := true, take := true, v := q.v (q.th 0).node }, { n := q.n, v := q.v, nx := q.nx, head := q.head, tail := (q.th 0).node, th := (q.set 0 {}).th }) := by
      unfold take; rw [if_neg (by omega), if_pos hz]
    refine ⟨q.v (q.th 0).node, 0, (take q).2, r', ⟨by rw [step_on (by omega) hon, if_pos rfl, e], by rw [e], by rw [e], fun j hj => ?_⟩, I', ?_, .inl ⟨_, hr, rfl, rfl⟩⟩
    · rw [e]; exact set_other q _ hj
    · rw [e]; exact set_same q 0 {}
/-- an operation begun -/
structure Br (q : Q) (k : Nat) (v : Int) (q' : Q) : Prop where
  e : begin q k v = (0, q')
  vv : ∀ i, i < q.n → q'.v i = q.v i
  nn : q'.n = if k = 0 then q.n else q.n + 1
  th : q'.th k = { on := true, node := if k = 0 then 0 else q.n }
  vn : k ≠ 0 → q'.v q.n = v
  oth : ∀ j, j ≠ k → q'.th j = q.th j
theorem br_any {q : Q} {r : List Nat} (V : Val q) (I : Inv q r) {k : Nat} (hk : k < 8) (hoff : (q.th k).on = false) (hn : q.n ≠ 65537) (v : Int) :
    ∃ q', Br q k v q' ∧ Inv q' r := by
  have hI := inv_begin V I k v
  by_cases h0 : k = 0
  · subst h0
    have e : begin q ((0 : Nat) : Int) v = (0, q.set 0 { on := true }) := by
      unfold begin; rw [if_neg (by omega), if_neg (by simpa using hoff)]; simp
    rw [e] at hI
    exact ⟨_, ⟨e, fun i _ => rfl, rfl, set_same q _ _, fun h => absurd rfl h, fun j hj => set_other q _ hj⟩, hI⟩
  · have e : begin q k v = (0, addN q v k) := by
      unfold begin; rw [if_neg (by omega), if_neg (by simpa using hoff), if_neg (by omega), if_neg hn]; rfl
    rw [e] at hI
    exact ⟨_, ⟨e, fun i hi => if_neg (by omega), by rw [if_neg h0]; rfl, by rw [if_neg h0]; exact if_pos rfl, fun _ => if_pos rfl, fun j hj => if_neg hj⟩, hI⟩
/-- what a law knows of the threads: how many accesses were made, what is put -/
def Kn (q : Q) (mk wk : Nat → Int) : Prop := ∀ k, k < 8 → (q.th k).on = true → mk k = (q.th k).made ∧ (k ≠ 0 → wk k = q.v (q.th k).node)
theorem kn_begin {q q' : Q} {mk wk : Nat → Int} (V : Val q) (h : Kn q mk wk) {k : Nat} {v : Int} (b : Br q k v q') : Kn q' (fun i => if i = k then 0 else mk i) (fun i => if k ≠ 0 ∧ i = k then v else wk i) := by
  intro j hj hon
  by_cases e : j = k
  · subst e
    rw [b.th] at hon ⊢
    refine ⟨if_pos rfl, fun h0 => ?_⟩
    show (if j ≠ 0 ∧ j = j then v else wk j) = q'.v (if j = 0 then 0 else q.n)
    rw [if_pos ⟨h0, rfl⟩, if_neg h0, b.vn h0]
  · rw [b.oth j e] at hon ⊢
    have := h j hj hon
    refine ⟨(if_neg e).trans this.1, fun h0 => ?_⟩
    show (if k ≠ 0 ∧ j = k then v else wk j) = _
    rw [if_neg (fun x => e x.2), b.vv _ (V.node j hj hon)]
    exact this.2 h0
theorem kn_step {q q' : Q} {mk wk : Nat → Int} (h : Kn q mk wk) {k : Nat} (hk : k < 8) {d : D} (s : Sr q k d q') (hon : (q.th k).on = true) (hth : (q'.th k).on = true → (q'.th k).made = (q.th k).made + 1 ∧ (k ≠ 0 → (q'.th k).node = (q.th k).node)) : Kn q' (fun i => if i = k then mk k + 1 else mk i) wk := by
  intro j hj hon'
  rw [s.vv]
  by_cases e : j = k
  · subst e
    have h1 := h j hj hon
    have h2 := hth hon'
    refine ⟨(if_pos rfl).trans (by rw [h1.1, h2.1]; omega), fun h0 => by rw [h2.2 h0]; exact h1.2 h0⟩
  · rw [s.oth j e] at hon' ⊢
    have := h j hj hon'
    exact ⟨(if_neg e).trans this.1, this.2⟩
end Go.Proofs.Ytcbbjcafgnddcaa
