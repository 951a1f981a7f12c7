/- The queue's Step and Busy. -/
import Derived.Test.YtcbbjcafgnddcaaM4
namespace Go.Proofs.Ytcbbjcafgnddcaa
open Go.RowKit
set_option linter.unusedVariables false
set_option linter.unusedSimpArgs false

def put (q : Q) (k : Nat) : D × Q :=
  if (q.th k).made = 0 then ({}, { n := q.n, v := q.v, nx := fun j => if j = (q.th k).node then 0 else q.nx j, head := q.head, tail := q.tail, th := (q.set k { on := true, made := 1, node := (q.th k).node }).th })
  else if (q.th k).made = 1 then ({}, { n := q.n, v := q.v, nx := q.nx, head := (q.th k).node, tail := q.tail, th := (q.set k { on := true, made := 2, node := (q.th k).node, prev := q.head }).th })
  else ({ over := true, v := q.v (q.th k).node }, { n := q.n, v := q.v, nx := fun j => if j = (q.th k).prev then (q.th k).node else q.nx j, head := q.head, tail := q.tail, th := (q.set k {}).th })
def take (q : Q) : D × Q :=
  if (q.th 0).made = 0 then ({}, q.set 0 { on := true, made := 1, node := q.nx q.tail })
  else if (q.th 0).node ≠ 0 then ({ over := true, take := true, v := q.v (q.th 0).node }, { n := q.n, v := q.v, nx := q.nx, head := q.head, tail := (q.th 0).node, th := (q.set 0 {}).th })
  else ({ over := true, take := true, err := if q.head = q.tail then 8 else 14 }, q.set 0 {})
def step (q : Q) (k : Int) : (D × Int) × Q :=
  if k < 0 ∨ 8 ≤ k then (({}, 1), q)
  else if (q.th k.toNat).on = false then (({}, 13), q)
  else if k = 0 then (((take q).1, 0), (take q).2)
  else (((put q k.toNat).1, 0), (put q k.toNat).2)
def fp (b : Nat) (nd : Nat → Nat) (n : Nat) (k : Nat) : Prop := k = b ∨ ∃ i, i < n ∧ k = nd i
theorem Fr.mono {w w' : World} {S S' : Nat → Prop} (h : Fr w w' S) (e : ∀ k, S k → S' k) : Fr w w' S' := { h with block := fun k hk n => h.block k hk (fun s => n (e k s)) }
section
variable {w w1 : World} {b : Nat} {S S' : Nat → Prop} {q q' : Q} {nd : Nat → Nat} {f f' : Nat → Value}
theorem Rw.tight (h : Rw w b S q nd f) : Rw w b (fp b nd q.n) q nd f := { h with sb := .inl rfl, sn := fun i hi => .inr ⟨i, hi, rfl⟩ }
theorem Rw.sub (h : Rw w b S q nd f) (k : Nat) (hk : fp b nd q.n k) : S k := by
  rcases hk with rfl | ⟨i, hi, rfl⟩
  · exact h.sb
  · exact h.sn i hi
def fm (f : Nat → Value) (o : Nat) (m : Int) (j : Nat) : Value := if j = o then .int .i64 m else f j
/-- what put comes to, whatever is made -/
theorem put_any (h : IsQ w b S q nd f) (V : Val q) (n : Nat) (hn : n < 8) (h0 : n ≠ 0) (hon : (q.th n).on = true) (hw : Rw w1 b (fp b nd q.n) q nd (fm f (3 + n * 4 + 1) ((q.th n).made + 1))) :
    Calls Try.prog 22 #[.pointer (some ⟨b, 0, none⟩), .pointer (some ⟨b, 3 + n * 4, none⟩)] w1 fun e w' => e = .returned (dv (put q n).1) ∧ (∃ f', IsQ w' b (fp b nd q.n) (put q n).2 nd f') ∧ Fr w1 w' (fp b nd q.n) := by
  have ht := (h.t n hn).2 hon
  have ho := (ht.2.1 h0).1
  have hp := (ht.2.1 h0).2
  have hi := V.node n hn hon
  have hp2 := V.prev n hn hon
  have hi0 := V.own n hn h0 hon
  have hm := V.made n hn hon
  rw [if_neg h0] at hm
  have e1 : fm f (3 + n * 4 + 1) ((q.th n).made + 1) (3 + n * 4 + 1) = .int .i64 ((q.th n).made + 1) := if_pos rfl
  have e2 : fm f (3 + n * 4 + 1) ((q.th n).made + 1) (3 + n * 4 + 2) = pn nd (q.th n).node := (if_neg (by omega)).trans ho
  have eo : ∀ k, k < 8 → k ≠ n → ∀ i, i < 4 → fm f (3 + n * 4 + 1) ((q.th n).made + 1) (3 + k * 4 + i) = f (3 + k * 4 + i) := fun k _ hk i hi => if_neg (by omega)
  have es : ∀ (t : T) k, k ≠ n → (q.set n t).th k = q.th k := fun t k hk => if_neg hk
  have ess : ∀ (t : T), (q.set n t).th n = t := fun t => if_pos rfl
  have hon' := (h.t n hn).1
  rw [hon] at hon'
  unfold put
  by_cases m0 : (q.th n).made = 0
  · rw [if_pos m0]
    have e1 := e1.trans (show Value.int .i64 (((q.th n).made : Int) + 1) = .int .i64 1 by rw [m0]; rfl)
    refine (put1 hw n hn _ hi e1 e2).mono ?_
    rintro e w' ⟨rfl, r, g⟩
    refine ⟨rfl, ⟨_, ⟨{ r with }, fun k hk => ?_⟩⟩, g⟩
    by_cases e : k = n
    · subst e
      show tc _ nd k ((q.set k _).th k)
      rw [ess]
      refine ⟨(if_neg (by omega)).trans hon', fun _ => ⟨?_, fun _ => ⟨e2, fun e => by cases e⟩, fun e => absurd e h0⟩⟩
      rw [e1]; rfl
    · show tc _ nd k ((q.set n _).th k)
      rw [es _ _ e]
      exact tc_same (h.t k hk) (eo k hk e)
  · rw [if_neg m0]
    by_cases m1 : (q.th n).made = 1
    · rw [if_pos m1]
      have e1 := e1.trans (show Value.int .i64 (((q.th n).made : Int) + 1) = .int .i64 2 by rw [m1]; rfl)
      refine (put2 hw n hn _ hi e1 e2).mono ?_
      rintro e w' ⟨rfl, r, g⟩
      refine ⟨rfl, ⟨_, ⟨{ r with }, fun k hk => ?_⟩⟩, g⟩
      by_cases e : k = n
      · subst e
        show tc _ nd k ((q.set k _).th k)
        rw [ess]
        refine ⟨?_, fun _ => ⟨?_, fun _ => ⟨?_, fun _ => ?_⟩, fun e => absurd e h0⟩⟩
        · unfold g2; rw [if_neg (by omega), if_neg (by omega)]; exact (if_neg (by omega)).trans hon'
        · unfold g2; rw [if_neg (by omega), if_neg (by omega), e1]; rfl
        · unfold g2; rw [if_neg (by omega), if_neg (by omega), e2]
        · unfold g2; rw [if_neg (by omega), if_pos rfl]
      · show tc _ nd k ((q.set n _).th k)
        rw [es _ _ e]
        refine tc_same (h.t k hk) (fun i hi => ?_)
        unfold g2; rw [if_neg (by omega), if_neg (by omega)]
        exact eo k hk e i hi
    · rw [if_neg m1]
      have m2 : (q.th n).made = 2 := by omega
      have e1 := e1.trans (show Value.int .i64 (((q.th n).made : Int) + 1) = .int .i64 3 by rw [m2]; rfl)
      have e3 : fm f (3 + n * 4 + 1) ((q.th n).made + 1) (3 + n * 4 + 3) = pn nd (q.th n).prev := (if_neg (by omega)).trans (hp m2)
      refine (put3 hw n hn _ _ hi hp2 hi0 e1 e2 e3).mono ?_
      rintro e w' ⟨rfl, r, g⟩
      refine ⟨rfl, ⟨_, ⟨{ r with }, fun k hk => ?_⟩⟩, g⟩
      by_cases e : k = n
      · subst e
        show tc _ nd k ((q.set k _).th k)
        rw [ess]
        exact ⟨if_pos rfl, fun e => by cases e⟩
      · show tc _ nd k ((q.set n _).th k)
        rw [es _ _ e]
        exact tc_same (h.t k hk) (fun i hi => (if_neg (by omega)).trans (eo k hk e i hi))
theorem take_any (h : IsQ w b S q nd f) (V : Val q) (hon : (q.th 0).on = true) (hw : Rw w1 b (fp b nd q.n) q nd (fm f 4 ((q.th 0).made + 1))) :
    Calls Try.prog 23 #[.pointer (some ⟨b, 0, none⟩), .pointer (some ⟨b, 3, none⟩)] w1 fun e w' => e = .returned (dv (take q).1) ∧ (∃ f', IsQ w' b (fp b nd q.n) (take q).2 nd f') ∧ Fr w1 w' (fp b nd q.n) := by
  have ht := (h.t 0 (by omega)).2 hon
  have ha := ht.2.2 rfl
  have hi := V.node 0 (by omega) hon
  have hm := V.made 0 (by omega) hon
  rw [if_pos rfl] at hm
  have e1 : fm f 4 ((q.th 0).made + 1) 4 = .int .i64 ((q.th 0).made + 1) := if_pos rfl
  have eo : ∀ k, k < 8 → k ≠ 0 → ∀ i, i < 4 → fm f 4 ((q.th 0).made + 1) (3 + k * 4 + i) = f (3 + k * 4 + i) := fun k _ hk i hi => if_neg (by omega)
  have es : ∀ (t : T) k, k ≠ 0 → (q.set 0 t).th k = q.th k := fun t k hk => if_neg hk
  have ess : ∀ (t : T), (q.set 0 t).th 0 = t := fun t => rfl
  have hon' := (h.t 0 (by omega)).1
  rw [hon] at hon'
  unfold take
  by_cases m0 : (q.th 0).made = 0
  · rw [if_pos m0]
    have e1 := e1.trans (show Value.int .i64 (((q.th 0).made : Int) + 1) = .int .i64 1 by rw [m0]; rfl)
    refine (take1 hw V.tail e1).mono ?_
    rintro e w' ⟨rfl, r, g⟩
    refine ⟨rfl, ⟨_, ⟨{ r with }, fun k hk => ?_⟩⟩, g⟩
    by_cases e : k = 0
    · subst e
      show tc _ nd 0 ((q.set 0 _).th 0)
      rw [ess]
      refine ⟨(if_neg (by omega)).trans ((if_neg (by omega)).trans hon'), fun _ => ⟨?_, fun e => absurd rfl e, fun _ _ => if_pos rfl⟩⟩
      show (if 4 = 6 then _ else _) = _
      rw [if_neg (by omega), e1]; rfl
    · show tc _ nd k ((q.set 0 _).th k)
      rw [es _ _ e]
      exact tc_same (h.t k hk) (fun i hi => (if_neg (by omega)).trans (eo k hk e i hi))
  · rw [if_neg m0]
    have m1 : (q.th 0).made = 1 := by omega
    have e1 := e1.trans (show Value.int .i64 (((q.th 0).made : Int) + 1) = .int .i64 2 by rw [m1]; rfl)
    have e3 : fm f 4 ((q.th 0).made + 1) 6 = pz nd (q.th 0).node := (if_neg (by omega)).trans (ha m1)
    by_cases hz : (q.th 0).node = 0
    · rw [if_neg (by simpa using hz)]
      have e4 : fm f 4 ((q.th 0).made + 1) 6 = .pointer none := by rw [e3, hz]; rfl
      refine (take2e hw V.head V.tail e1 e4 _ rfl).mono ?_
      rintro e w' ⟨rfl, r, g⟩
      refine ⟨rfl, ⟨_, ⟨{ r with }, fun k hk => ?_⟩⟩, g⟩
      by_cases e : k = 0
      · subst e
        show tc _ nd 0 ((q.set 0 _).th 0)
        rw [ess]
        exact ⟨if_pos rfl, fun e => by cases e⟩
      · show tc _ nd k ((q.set 0 _).th k)
        rw [es _ _ e]
        exact tc_same (h.t k hk) (fun i hi => (if_neg (by omega)).trans (eo k hk e i hi))
    · rw [if_pos hz]
      refine (take2v hw _ hi hz e1 e3).mono ?_
      rintro e w' ⟨rfl, r, g⟩
      refine ⟨rfl, ⟨_, ⟨{ r with }, fun k hk => ?_⟩⟩, g⟩
      by_cases e : k = 0
      · subst e
        show tc _ nd 0 ((q.set 0 _).th 0)
        rw [ess]
        exact ⟨rfl, fun e => by cases e⟩
      · show tc _ nd k ((q.set 0 _).th k)
        rw [es _ _ e]
        exact tc_same (h.t k hk) (fun i hi => (if_neg (by omega)).trans ((if_neg (by omega)).trans (eo k hk e i hi)))
end
end Go.Proofs.Ytcbbjcafgnddcaa
