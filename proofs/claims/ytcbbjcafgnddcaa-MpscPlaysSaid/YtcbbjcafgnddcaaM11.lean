/- Whole puts and takes, one behind the other, plain. -/
import Derived.Test.YtcbbjcafgnddcaaM9
namespace Go.Proofs.Ytcbbjcafgnddcaa
set_option linter.unusedVariables false
set_option linter.unusedSimpArgs false
/-- nothing under way -/
def Off (q : Q) : Prop := ∀ k, k < 8 → (q.th k).on = false
theorem lnk_off {q : Q} (ho : Off q) : ∀ (l : List Nat) (a : Nat), Lk q a l → lnk q a l = l
  | [], _, _ => rfl
  | c :: l, a, h => by
    unfold lnk
    have e : q.nx a = c := by
      rcases h.1 with e | ⟨_, k, k8, _, h1, _⟩
      · exact e
      · rw [ho k k8] at h1; cases h1
    rw [if_pos e, lnk_off ho l c h.2.2]
theorem step_in {q : Q} {k : Nat} (hk : k < 8) (hon : (q.th k).on = true) : step q k = if k = 0 then (((take q).1, 0), (take q).2) else (((put q k).1, 0), (put q k).2) := by
  unfold step
  rw [if_neg (by omega), if_neg (by simpa using hon)]
  by_cases h : k = 0
  · subst h; rfl
  · rw [if_neg (by omega), if_neg h]; rfl
structure Put3 (q : Q) (r : List Nat) (k : Nat) (v : Int) (a b c d : Q) : Prop where
  e0 : begin q k v = (0, a)
  e1 : step a k = (({}, 0), b)
  e2 : step b k = (({}, 0), c)
  e3 : step c k = (({ over := true, v := v }, 0), d)
  V : Val d
  I : Inv d (r ++ [q.n])
  off : Off d
  nn : d.n = q.n + 1
  vv : ∀ i, i < q.n → d.v i = q.v i
  vn : d.v q.n = v
theorem whole_put {q : Q} {r : List Nat} (V : Val q) (I : Inv q r) (ho : Off q) (hn : q.n ≠ 65537) (k : Nat) (hk : k < 8) (h0 : k ≠ 0) (v : Int) : ∃ a b c d, Put3 q r k v a b c d := by
  have hoff := ho k hk
  have e0 : begin q k v = (0, addN q v k) := by
    unfold begin
    rw [if_neg (by omega), if_neg (by simpa using hoff), if_neg (by omega), if_neg hn]; rfl
  have Va := val_addN V v k hk h0 hn
  have Ia := inv_addN V I v k hk h0 hoff
  have ta : (addN q v k).th k = { on := true, node := q.n } := if_pos rfl
  have oa : ∀ j, j ≠ k → (addN q v k).th j = q.th j := fun j hj => if_neg hj
  have na : (addN q v k).n = q.n + 1 := rfl
  have va : (addN q v k).v q.n = v := if_pos rfl
  have va' : ∀ i, i < q.n → (addN q v k).v i = q.v i := fun i hi => if_neg (by omega)
  generalize addN q v k = a at *
  have Vb := val_put Va k hk h0 (by rw [ta])
  have Ib := inv_put0 Ia Va k hk h0 (by rw [ta]) (by rw [ta])
  have eb : put a k = ({}, { n := a.n, v := a.v, nx := fun j => if j = (a.th k).node then 0 else a.nx j, head := a.head, tail := a.tail, th := (a.set k { on := true, made := 1, node := (a.th k).node }).th }) := by
    unfold put; rw [if_pos (by rw [ta])]
  have tb : ((put a k).2.th k) = { on := true, made := 1, node := q.n } := by rw [eb]; show (a.set k _).th k = _; rw [set_same, ta]
  have ob : ∀ j, j ≠ k → (put a k).2.th j = q.th j := fun j hj => by rw [eb]; show (a.set k _).th j = _; rw [set_other a _ hj]; exact oa j hj
  have nb : (put a k).2.n = q.n + 1 := by rw [eb]; exact na
  have vb : (put a k).2.v = a.v := by rw [eb]
  have s1 : step a k = (({}, 0), (put a k).2) := by rw [step_in hk (by rw [ta]), if_neg h0, eb]
  generalize (put a k).2 = b at *
  have Vc := val_put Vb k hk h0 (by rw [tb])
  have Ic := inv_put1 Ib Vb k hk h0 (by rw [tb]) (by rw [tb])
  have ec : put b k = ({}, { n := b.n, v := b.v, nx := b.nx, head := (b.th k).node, tail := b.tail, th := (b.set k { on := true, made := 2, node := (b.th k).node, prev := b.head }).th }) := by
    unfold put; rw [if_neg (by rw [tb]; simp), if_pos (by rw [tb])]
  have tc : ((put b k).2.th k) = { on := true, made := 2, node := q.n, prev := b.head } := by rw [ec]; show (b.set k _).th k = _; rw [set_same, tb]
  have oc : ∀ j, j ≠ k → (put b k).2.th j = q.th j := fun j hj => by rw [ec]; show (b.set k _).th j = _; rw [set_other b _ hj]; exact ob j hj
  have nc : (put b k).2.n = q.n + 1 := by rw [ec]; exact nb
  have vc : (put b k).2.v = a.v := by rw [ec]; exact vb
  have s2 : step b k = (({}, 0), (put b k).2) := by rw [step_in hk (by rw [tb]), if_neg h0, ec]
  rw [tb] at Ic
  generalize (put b k).2 = c at *
  have Vd := val_put Vc k hk h0 (by rw [tc])
  have Id := inv_put2 Ic Vc k hk h0 (by rw [tc]) (by rw [tc])
  have ed : put c k = ({ over := true, v := c.v (c.th k).node }, { n := c.n, v := c.v, nx := fun j => if j = (c.th k).prev then (c.th k).node else c.nx j, head := c.head, tail := c.tail, th := (c.set k {}).th }) := by
    unfold put; rw [if_neg (by rw [tc]; simp), if_neg (by rw [tc]; simp)]
  have s3 : step c k = (({ over := true, v := v }, 0), (put c k).2) := by
    rw [step_in hk (by rw [tc]), if_neg h0, ed, tc, vc]
    show (((({ over := true, v := a.v q.n } : D), (0 : Int)), _) : (D × Int) × Q) = _
    rw [va]
  refine ⟨a, b, c, (put c k).2, e0, s1, s2, s3, Vd, Id, fun j hj => ?_, ?_, fun i hi => ?_, ?_⟩
  · rw [ed]
    show ((c.set k {}).th j).on = false
    by_cases e : j = k
    · subst e; rw [set_same]
    · rw [set_other c _ e, oc j e]; exact ho j hj
  · rw [ed]; exact nc
  · rw [ed]; show c.v i = _; rw [vc]; exact va' i hi
  · rw [ed]; show c.v q.n = _; rw [vc]; exact va
structure Take2 (q : Q) (r r' : List Nat) (v e : Int) (a b c : Q) : Prop where
  e0 : ∀ x, begin q 0 x = (0, a)
  e1 : step a 0 = (({}, 0), b)
  e2 : step b 0 = (({ over := true, take := true, v := v, err := e }, 0), c)
  V : Val c
  I : Inv c r'
  off : Off c
  nn : c.n = q.n
  vv : c.v = q.v
theorem whole_take {q : Q} {r : List Nat} (V : Val q) (I : Inv q r) (ho : Off q) : ∃ r' v e a b c, Take2 q r r' v e a b c ∧ ((r = [] ∧ r' = [] ∧ v = 0 ∧ e = 8) ∨ ∃ x, r = x :: r' ∧ v = q.v x ∧ e = 0) := by
  have e0 : ∀ x, begin q 0 x = (0, q.set 0 { on := true }) := fun x => by
    unfold begin
    rw [if_neg (by omega), if_neg (by have := ho 0 (by omega); simpa using this), if_pos rfl]
  have Va : Val (q.set 0 { on := true }) := by have := val_begin V 0 0; rw [e0 0] at this; exact this
  have Ia : Inv (q.set 0 { on := true }) r := by have := inv_begin V I 0 0; rw [e0 0] at this; exact this
  have ta : (q.set 0 { on := true }).th 0 = { on := true } := set_same _ _ _
  have oa : ∀ j, j ≠ 0 → (q.set 0 { on := true }).th j = q.th j := fun j hj => set_other q _ hj
  have fa : (q.set 0 { on := true }).n = q.n ∧ (q.set 0 { on := true }).v = q.v ∧ (q.set 0 { on := true }).tail = q.tail ∧ (q.set 0 { on := true }).head = q.head ∧ (q.set 0 { on := true }).nx = q.nx := ⟨rfl, rfl, rfl, rfl, rfl⟩
  generalize q.set 0 { on := true } = a at *
  obtain ⟨fn, fv, ft, fh, fx⟩ := fa
  have eb : take a = ({}, a.set 0 { on := true, made := 1, node := a.nx a.tail }) := by unfold take; rw [if_pos (by rw [ta])]
  have Vb : Val (take a).2 := val_take Va (by rw [ta])
  have Ib : Inv (take a).2 r := inv_take0 Ia (by rw [ta])
  have s1 : step a 0 = (({}, 0), (take a).2) := by
    have := step_in (q := a) (k := 0) (by omega) (by rw [ta])
    rw [if_pos rfl] at this
    exact this.trans (by rw [eb])
  have tb : (take a).2.th 0 = { on := true, made := 1, node := q.nx q.tail } := by rw [eb]; show (a.set 0 _).th 0 = _; rw [set_same, ft, fx]
  have ob : ∀ j, j ≠ 0 → (take a).2.th j = q.th j := fun j hj => by rw [eb]; show (a.set 0 _).th j = _; rw [set_other a _ hj]; exact oa j hj
  have fb : (take a).2.n = q.n ∧ (take a).2.v = q.v ∧ (take a).2.tail = q.tail ∧ (take a).2.head = q.head ∧ (take a).2.nx = q.nx := by rw [eb]; exact ⟨fn, fv, ft, fh, fx⟩
  generalize (take a).2 = b at *
  obtain ⟨gn, gv, gt, gh, gx⟩ := fb
  have Vc : Val (take b).2 := val_take Vb (by rw [tb])
  have s2 : step b 0 = (((take b).1, 0), (take b).2) := by
    have := step_in (q := b) (k := 0) (by omega) (by rw [tb])
    rw [if_pos rfl] at this
    exact this
  cases r with
  | nil =>
    have hx : q.nx q.tail = 0 := I.lk.2
    have hh : q.head = q.tail := I.lk.1
    have ec : take b = ({ over := true, take := true, err := if b.head = b.tail then 8 else 14 }, b.set 0 {}) := by
      unfold take; rw [if_neg (by rw [tb]; simp), if_neg (by rw [tb, hx]; simp)]
    have Ic : Inv (take b).2 [] := inv_takeE Ib (by rw [tb]) (by rw [tb, hx])
    refine ⟨[], 0, 8, a, b, (take b).2, ⟨e0, s1, ?_, Vc, Ic, fun j hj => ?_, ?_, ?_⟩, .inl ⟨rfl, rfl, rfl, rfl⟩⟩
    · rw [s2, ec, if_pos (by rw [gh, gt]; exact hh)]
    · rw [ec]
      show ((b.set 0 {}).th j).on = false
      by_cases e : j = 0
      · subst e; rw [set_same]
      · rw [set_other b _ e, ob j e]; exact ho j hj
    · rw [ec]; exact gn
    · rw [ec]; exact gv
  | cons x r =>
    have hx : q.nx q.tail = x := by
      rcases I.lk.1 with e | ⟨_, k, k8, _, h1, _⟩
      · exact e
      · rw [ho k k8] at h1; cases h1
    have hx0 : x ≠ 0 := I.lk.2.1
    have ec : take b = ({ over := true, take := true, v := b.v (b.th 0).node }, { n := b.n, v := b.v, nx := b.nx, head := b.head, tail := (b.th 0).node, th := (b.set 0 {}).th }) := by
      unfold take; rw [if_neg (by rw [tb]; simp), if_pos (by rw [tb, hx]; exact hx0)]
    obtain ⟨r', hr', Ic⟩ := inv_take1 Ib (by rw [tb]) (by rw [tb]) (by rw [tb, hx]; exact hx0)
    obtain ⟨rfl, rfl⟩ : x = (b.th 0).node ∧ r = r' := by simpa using hr'
    refine ⟨r, q.v (b.th 0).node, 0, a, b, (take b).2, ⟨e0, s1, ?_, Vc, Ic, fun j hj => ?_, ?_, ?_⟩, .inr ⟨_, rfl, rfl, rfl⟩⟩
    · rw [s2, ec, gv]
    · rw [ec]
      show ((b.set 0 {}).th j).on = false
      by_cases e : j = 0
      · subst e; rw [set_same]
      · rw [set_other b _ e, ob j e]; exact ho j hj
    · rw [ec]; exact gn
    · rw [ec]; exact gv
end Go.Proofs.Ytcbbjcafgnddcaa
