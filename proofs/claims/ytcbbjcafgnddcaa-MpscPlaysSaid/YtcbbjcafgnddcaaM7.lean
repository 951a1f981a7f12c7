/- The queue, plain: what stays well formed; the order in which the puts came. -/
import Derived.Test.YtcbbjcafgnddcaaM6
namespace Go.Proofs.Ytcbbjcafgnddcaa
set_option linter.unusedVariables false
set_option linter.unusedSimpArgs false
variable {q : Q}
theorem set_same (q : Q) (k : Nat) (t : T) : (q.set k t).th k = t := if_pos rfl
theorem set_other (q : Q) {k j : Nat} (t : T) (h : j ≠ k) : (q.set k t).th j = q.th j := if_neg h
theorem Val.setT (V : Val q) (k : Nat) (t : T) (hn : t.on = true → t.node < q.n) (ho : k ≠ 0 → t.on = true → t.node ≠ 0) (hp : t.on = true → t.prev < q.n) (hm : t.on = true → t.made < if k = 0 then 2 else 3) : Val (q.set k t) := by
  refine ⟨V.n1, V.n2, V.head, V.tail, V.nx, fun j hj => ?_, fun j hj => ?_, fun j hj => ?_, fun j hj => ?_⟩
  all_goals
    by_cases e : j = k
    · subst e; rw [set_same]; first | exact hn | exact ho | exact hp | exact hm
    · rw [set_other q t e]; first | exact V.node j hj | exact V.own j hj | exact V.prev j hj | exact V.made j hj
theorem Val.nx' (V : Val q) (i k : Nat) (hk : k < q.n) : Val { q with nx := fun j => if j = i then k else q.nx j } :=
  ⟨V.n1, V.n2, V.head, V.tail, fun j hj => by
    show (if j = i then k else q.nx j) < q.n
    split
    · exact hk
    · exact V.nx j hj, V.node, V.own, V.prev, V.made⟩
theorem Val.head' (V : Val q) (i : Nat) (hi : i < q.n) : Val { q with head := i } := { V with head := hi }
theorem Val.tail' (V : Val q) (i : Nat) (hi : i < q.n) : Val { q with tail := i } := { V with tail := hi }
theorem val0 : Val Q0 := ⟨by decide, by decide, by decide, by decide, fun i hi => by show 0 < 1; omega, fun k _ h => (by cases h), fun k _ _ h => (by cases h), fun k _ h => (by cases h), fun k _ h => (by cases h)⟩
theorem val_addN (V : Val q) (v : Int) (k : Nat) (hk : k < 8) (h0 : k ≠ 0) (hn : q.n ≠ 65537) : Val (addN q v k) := by
  have n1 := V.n1
  have n2 := V.n2
  refine ⟨by show 1 ≤ q.n + 1; omega, by show q.n + 1 ≤ _; omega, by show _ < q.n + 1; have := V.head; show q.head < _; omega, by show q.tail < q.n + 1; have := V.tail; omega, fun i hi => ?_, fun j hj => ?_, fun j hj => ?_, fun j hj => ?_, fun j hj => ?_⟩
  · show (if i = q.n then 0 else q.nx i) < q.n + 1
    split
    · omega
    · have := V.nx i (by have : i < q.n + 1 := hi; omega); omega
  all_goals
    show _
    by_cases e : j = k
    · subst e
      have : (addN q v j).th j = { on := true, node := q.n } := if_pos rfl
      rw [this]
      simp [addN, h0]
      try omega
    · have : (addN q v k).th j = q.th j := if_neg e
      rw [this]
      first
        | (intro h; have := V.node j hj h; show _ < q.n + 1; omega)
        | exact V.own j hj
        | (intro h; have := V.prev j hj h; show _ < q.n + 1; omega)
        | exact V.made j hj
theorem val_begin (V : Val q) (k v : Int) : Val (begin q k v).2 := by
  unfold begin
  split
  · exact V
  · split
    · exact V
    · split
      · exact V.setT 0 _ (fun _ => by have := V.n1; show 0 < q.n; omega) (fun e => absurd rfl e) (fun _ => by have := V.n1; show 0 < q.n; omega) (fun _ => by decide)
      · split
        · exact V
        · exact val_addN V v _ (by omega) (by omega) (by assumption)
theorem val_put (V : Val q) (k : Nat) (hk : k < 8) (h0 : k ≠ 0) (hon : (q.th k).on = true) : Val (put q k).2 := by
  have hn := V.node k hk hon
  have ho := V.own k hk h0 hon
  have hp := V.prev k hk hon
  have n1 := V.n1
  unfold put
  split
  · have V1 := V.setT k { on := true, made := 1, node := (q.th k).node } (fun _ => hn) (fun _ _ => ho) (fun _ => by show 0 < q.n; omega) (fun _ => by rw [if_neg h0]; show 1 < 3; omega)
    exact V1.nx' (q.th k).node 0 (by show 0 < q.n; omega)
  · split
    · have V1 := V.setT k { on := true, made := 2, node := (q.th k).node, prev := q.head } (fun _ => hn) (fun _ _ => ho) (fun _ => V.head) (fun _ => by rw [if_neg h0]; show 2 < 3; omega)
      exact V1.head' _ hn
    · have V1 := V.setT k {} (fun h => by cases h) (fun _ h => by cases h) (fun h => by cases h) (fun h => by cases h)
      exact V1.nx' (q.th k).prev _ hn
theorem val_take (V : Val q) (hon : (q.th 0).on = true) : Val (take q).2 := by
  have hn := V.node 0 (by omega) hon
  have n1 := V.n1
  unfold take
  split
  · exact V.setT 0 _ (fun _ => V.nx _ V.tail) (fun e => absurd rfl e) (fun _ => by show 0 < q.n; omega) (fun _ => by rw [if_pos rfl]; show 1 < 2; omega)
  · have V1 := V.setT 0 {} (fun h => by cases h) (fun _ h => by cases h) (fun h => by cases h) (fun h => by cases h)
    split
    · exact V1.tail' _ hn
    · exact V1
theorem val_step (V : Val q) (k : Int) : Val (step q k).2 := by
  unfold step
  split
  · exact V
  · split
    · exact V
    · split
      · rename_i h1 h2 h3
        subst h3
        exact val_take V (by simpa using h2)
      · exact val_put V _ (by omega) (by omega) (by simpa using (by assumption : ¬ (q.th k.toNat).on = false))

/-- linked from a on: l are the ones behind it in the order in which the head was swapped -/
def Lk (q : Q) : Nat → List Nat → Prop
  | a, [] => q.head = a ∧ q.nx a = 0
  | a, c :: l => (q.nx a = c ∨ (q.nx a = 0 ∧ ∃ k, k < 8 ∧ k ≠ 0 ∧ (q.th k).on = true ∧ (q.th k).made = 2 ∧ (q.th k).prev = a ∧ (q.th k).node = c)) ∧ c ≠ 0 ∧ Lk q c l
structure Inv (q : Q) (r : List Nat) : Prop where
  lk : Lk q q.tail r
  nd : (q.tail :: r).Nodup
  lt : ∀ i, i ∈ r → i < q.n
  fresh : ∀ k, k < 8 → k ≠ 0 → (q.th k).on = true → (q.th k).made < 2 → (q.th k).node ∉ q.tail :: r ∧ q.nx (q.th k).node = 0
  adj : ∀ k, k < 8 → k ≠ 0 → (q.th k).on = true → (q.th k).made = 2 → q.nx (q.th k).prev = 0 ∧ ∃ l1 l2, q.tail :: r = l1 ++ (q.th k).prev :: (q.th k).node :: l2
  inj : ∀ k j, k < 8 → j < 8 → k ≠ 0 → j ≠ 0 → (q.th k).on = true → (q.th j).on = true → (q.th k).node = (q.th j).node → k = j
  tk : (q.th 0).on = true → (q.th 0).made = 1 → (q.th 0).node ≠ 0 → q.nx q.tail = (q.th 0).node ∧ ∃ r', r = (q.th 0).node :: r'
theorem inv0 : Inv Q0 [] := ⟨⟨rfl, rfl⟩, by simp, fun i h => by simp at h, fun k _ _ h => (by cases h), fun k _ _ h => (by cases h), fun k j _ _ _ _ h => (by cases h), fun h => (by cases h)⟩
/-- Lk hangs on head, nx and the threads alone -/
theorem Lk.congr {q q' : Q} (hh : q'.head = q.head) (hx : ∀ a, q'.nx a = q.nx a) (ht : ∀ k, k < 8 → k ≠ 0 → (q.th k).on = true → (q.th k).made = 2 → (q'.th k) = q.th k) : ∀ (l : List Nat) (a : Nat), Lk q a l → Lk q' a l
  | [], a, h => ⟨hh.trans h.1, (hx a).trans h.2⟩
  | c :: l, a, h => ⟨h.1.imp (fun e => (hx a).trans e) (fun ⟨e, k, k8, k0, h1, h2, h3, h4⟩ => ⟨(hx a).trans e, k, k8, k0, by rw [ht k k8 k0 h1 h2]; exact ⟨h1, h2, h3, h4⟩⟩), h.2.1, Lk.congr hh hx ht l c h.2.2⟩
theorem Lk.last : ∀ (l : List Nat) (a : Nat), Lk q a l → (a :: l).getLast (by simp) = q.head
  | [], a, h => h.1.symm
  | c :: l, a, h => by rw [List.getLast_cons (by simp)]; exact Lk.last l c h.2.2
theorem inv_setT0 {r : List Nat} (I : Inv q r) (t : T) (h : t.on = true → t.made = 1 → t.node ≠ 0 → q.nx q.tail = t.node ∧ ∃ r', r = t.node :: r') : Inv (q.set 0 t) r := by
  have e : ∀ k, k ≠ 0 → (q.set 0 t).th k = q.th k := fun k hk => set_other q t hk
  refine ⟨Lk.congr (q := q) (q' := q.set 0 t) rfl (fun _ => rfl) (fun k _ h0 _ _ => e k h0) r q.tail I.lk, I.nd, I.lt, fun k hk h0 => ?_, fun k hk h0 => ?_, fun k j hk hj h0 j0 => ?_, ?_⟩
  · rw [e k h0]; exact I.fresh k hk h0
  · rw [e k h0]; exact I.adj k hk h0
  · rw [e k h0, e j j0]; exact I.inj k j hk hj h0 j0
  · rw [set_same]; exact h
theorem inv_addN {r : List Nat} (V : Val q) (I : Inv q r) (v : Int) (k : Nat) (hk : k < 8) (h0 : k ≠ 0) (hoff : (q.th k).on = false) : Inv (addN q v k) r := by
  have e : ∀ j, j ≠ k → (addN q v k).th j = q.th j := fun j hj => if_neg hj
  have es : (addN q v k).th k = { on := true, node := q.n } := if_pos rfl
  have ex : ∀ i, i < q.n → (addN q v k).nx i = q.nx i := fun i hi => if_neg (by omega)
  have exn : (addN q v k).nx q.n = 0 := if_pos rfl
  have hlt : ∀ i, i ∈ q.tail :: r → i < q.n := fun i hi => by
    rcases List.mem_cons.1 hi with rfl | h
    · exact V.tail
    · exact I.lt i h
  have hlk : ∀ (l : List Nat) (a : Nat), (∀ i, i ∈ a :: l → i < q.n) → Lk q a l → Lk (addN q v k) a l := by
    intro l
    induction l with
    | nil => intro a ha h; exact ⟨h.1, (ex a (ha a (by simp))).trans h.2⟩
    | cons c l ih =>
      intro a ha h
      refine ⟨?_, h.2.1, ih c (fun i hi => ha i (List.mem_cons_of_mem _ hi)) h.2.2⟩
      rw [ex a (ha a (by simp))]
      refine h.1.imp id (fun ⟨e1, j, j8, j0, h1, h2⟩ => ⟨e1, j, j8, j0, ?_⟩)
      rw [e j (fun x => by subst x; rw [hoff] at h1; cases h1)]
      exact ⟨h1, h2⟩
  refine ⟨hlk r q.tail hlt I.lk, I.nd, fun i hi => Nat.lt_succ_of_lt (I.lt i hi), fun j hj j0 => ?_, fun j hj j0 => ?_, fun i j hi hj i0 j0 => ?_, ?_⟩
  · by_cases x : j = k
    · subst x; rw [es]; exact fun _ _ => ⟨fun hm => by have := hlt _ hm; simp at this, exn⟩
    · rw [e j x]; intro h1 h2
      have := I.fresh j hj j0 h1 h2
      exact ⟨this.1, (ex _ (V.node j hj h1)).trans this.2⟩
  · by_cases x : j = k
    · subst x; rw [es]; exact fun _ h => by cases h
    · rw [e j x]; intro h1 h2
      have := I.adj j hj j0 h1 h2
      exact ⟨(ex _ (V.prev j hj h1)).trans this.1, this.2⟩
  · by_cases x : i = k <;> by_cases y : j = k
    · intros; omega
    · subst x; rw [es, e j y]; intro _ h2 h3; have := V.node j hj h2; exact absurd h3 (by show q.n ≠ _; omega)
    · subst y; rw [es, e i x]; intro h2 _ h3; have := V.node i hi h2; exact absurd h3 (by show _ ≠ q.n; omega)
    · rw [e i x, e j y]; exact I.inj i j hi hj i0 j0
  · rw [e 0 (by omega)]
    intro h1 h2 h3
    have := I.tk h1 h2 h3
    exact ⟨(ex _ V.tail).trans this.1, this.2⟩
theorem inv_begin {r : List Nat} (V : Val q) (I : Inv q r) (k v : Int) : Inv (begin q k v).2 r := by
  unfold begin
  split
  · exact I
  · split
    · exact I
    · split
      · exact inv_setT0 I _ (fun _ h => by cases h)
      · split
        · exact I
        · exact inv_addN V I v _ (by omega) (by omega) (by simpa using (by assumption : ¬ (q.th k.toNat).on = true))
theorem adj_unique {a c c' : Nat} {l2 l2' : List Nat} : ∀ (l1 l1' : List Nat), l1 ++ a :: c :: l2 = l1' ++ a :: c' :: l2' → (l1 ++ a :: c :: l2).Nodup → c = c'
  | [], [], h, _ => by simp at h; exact h.1
  | [], x :: xs, h, hd => by
    simp at h
    obtain ⟨rfl, h⟩ := h
    have : a ∈ c :: l2 := by rw [h]; simp
    exact absurd this (List.nodup_cons.1 hd).1
  | x :: xs, [], h, hd => by
    simp at h
    obtain ⟨rfl, h⟩ := h
    have hd' : (x :: (xs ++ x :: c :: l2)).Nodup := hd
    exact absurd (by simp) (List.nodup_cons.1 hd').1
  | x :: xs, y :: ys, h, hd => by
    simp at h
    have hd' : (x :: (xs ++ a :: c :: l2)).Nodup := hd
    exact adj_unique xs ys h.2 (List.nodup_cons.1 hd').2
theorem Inv.one {r : List Nat} (I : Inv q r) {j k : Nat} (hj : j < 8) (hk : k < 8) (j0 : j ≠ 0) (k0 : k ≠ 0) (oj : (q.th j).on = true) (ok : (q.th k).on = true) (mj : (q.th j).made = 2) (mk : (q.th k).made = 2) (e : (q.th j).prev = (q.th k).prev) : j = k := by
  obtain ⟨_, l1, l2, h1⟩ := I.adj j hj j0 oj mj
  obtain ⟨_, l3, l4, h2⟩ := I.adj k hk k0 ok mk
  refine I.inj j k hj hk j0 k0 oj ok ?_
  rw [e] at h1
  exact adj_unique l1 l3 (h1.symm.trans h2) (by rw [← h1]; exact I.nd)
theorem Lk.gen {q q' : Q} (hh : q'.head = q.head) : ∀ (l : List Nat) (a : Nat), (∀ i, i ∈ a :: l → q'.nx i = q.nx i) → (∀ k, k < 8 → k ≠ 0 → (q.th k).on = true → (q.th k).made = 2 → q'.th k = q.th k) → Lk q a l → Lk q' a l
  | [], a, hx, _, h => ⟨hh.trans h.1, (hx a (by simp)).trans h.2⟩
  | c :: l, a, hx, ht, h => ⟨h.1.imp (fun e => (hx a (by simp)).trans e) (fun ⟨e, k, k8, k0, h1, h2, h3, h4⟩ => ⟨(hx a (by simp)).trans e, k, k8, k0, by rw [ht k k8 k0 h1 h2]; exact ⟨h1, h2, h3, h4⟩⟩), h.2.1, Lk.gen hh l c (fun i hi => hx i (List.mem_cons_of_mem _ hi)) ht h.2.2⟩
theorem inv_put0 {r : List Nat} (I : Inv q r) (V : Val q) (k : Nat) (hk : k < 8) (h0 : k ≠ 0) (hon : (q.th k).on = true) (hm : (q.th k).made = 0) : Inv (put q k).2 r := by
  have hf := I.fresh k hk h0 hon (by omega)
  unfold put
  rw [if_pos hm]
  have hne : ∀ i, i ∈ q.tail :: r → i ≠ (q.th k).node := fun i hi e => hf.1 (e ▸ hi)
  have hx : ∀ i, i ≠ (q.th k).node → (if i = (q.th k).node then 0 else q.nx i) = q.nx i := fun i h => if_neg h
  refine ⟨?_, I.nd, I.lt, fun j hj j0 => ?_, fun j hj j0 => ?_, fun i j hi hj i0 j0 => ?_, ?_⟩
  · exact Lk.gen (q := q) (q' := { n := q.n, v := q.v, nx := fun j => if j = (q.th k).node then 0 else q.nx j, head := q.head, tail := q.tail, th := (q.set k { on := true, made := 1, node := (q.th k).node }).th }) rfl r q.tail (fun i hi => hx i (hne i hi)) (fun j j8 j0 oj mj => set_other q _ (fun e => by subst e; omega)) I.lk
  · show ((q.set k _).th j).on = true → ((q.set k _).th j).made < 2 → ((q.set k _).th j).node ∉ q.tail :: r ∧ (if ((q.set k _).th j).node = (q.th k).node then 0 else q.nx ((q.set k _).th j).node) = 0
    by_cases e : j = k
    · subst e; rw [set_same]; exact fun _ _ => ⟨hf.1, if_pos rfl⟩
    · rw [set_other q _ e]; intro h1 h2
      have := I.fresh j hj j0 h1 h2
      refine ⟨this.1, ?_⟩
      split
      · rfl
      · exact this.2
  · show ((q.set k _).th j).on = true → ((q.set k _).th j).made = 2 → (if ((q.set k _).th j).prev = (q.th k).node then 0 else q.nx ((q.set k _).th j).prev) = 0 ∧ _
    by_cases e : j = k
    · subst e; rw [set_same]; exact fun _ h => by cases h
    · rw [set_other q _ e]; intro h1 h2
      have := I.adj j hj j0 h1 h2
      refine ⟨?_, this.2⟩
      split
      · rfl
      · exact this.1
  · show ((q.set k _).th i).on = true → ((q.set k _).th j).on = true → ((q.set k _).th i).node = ((q.set k _).th j).node → i = j
    by_cases x : i = k <;> by_cases y : j = k
    · intros; omega
    · subst x; rw [set_same, set_other q _ y]; exact fun _ h2 h3 => I.inj i j hi hj i0 j0 hon h2 h3
    · subst y; rw [set_same, set_other q _ x]; exact fun h2 _ h3 => I.inj i j hi hj i0 j0 h2 hon h3
    · rw [set_other q _ x, set_other q _ y]; exact I.inj i j hi hj i0 j0
  · show ((q.set k _).th 0).on = true → ((q.set k _).th 0).made = 1 → ((q.set k _).th 0).node ≠ 0 → (if q.tail = (q.th k).node then 0 else q.nx q.tail) = _ ∧ _
    rw [set_other q _ (Ne.symm h0)]
    intro h1 h2 h3
    rw [hx _ (hne q.tail (by simp))]
    exact I.tk h1 h2 h3
theorem Lk.snoc {q q' : Q} (k : Nat) (hk : k < 8) (h0 : k ≠ 0) (hh : q'.head = (q.th k).node) (hi : (q.th k).node ≠ 0) (hxi : q'.nx (q.th k).node = 0) (hx : ∀ i, q'.nx i = q.nx i) (ht : ∀ j, j ≠ k → q'.th j = q.th j) (hm : (q.th k).made ≠ 2) (e1 : (q'.th k).on = true) (e2 : (q'.th k).made = 2) (e3 : (q'.th k).prev = q.head) (e4 : (q'.th k).node = (q.th k).node) :
    ∀ (l : List Nat) (a : Nat), Lk q a l → Lk q' a (l ++ [(q.th k).node])
  | [], a, h => ⟨.inr ⟨(hx a).trans h.2, k, hk, h0, e1, e2, e3.trans h.1, e4⟩, hi, hh, hxi⟩
  | c :: l, a, h => ⟨h.1.imp (fun e => (hx a).trans e) (fun ⟨e, j, j8, j0, h1, h2, h3, h4⟩ => ⟨(hx a).trans e, j, j8, j0, by rw [ht j (fun x => by subst x; exact hm h2)]; exact ⟨h1, h2, h3, h4⟩⟩), h.2.1, Lk.snoc k hk h0 hh hi hxi hx ht hm e1 e2 e3 e4 l c h.2.2⟩
theorem Lk.end {q : Q} : ∀ (l : List Nat) (a : Nat), Lk q a l → q.nx q.head = 0 ∧ ∃ l1, a :: l = l1 ++ [q.head]
  | [], a, h => ⟨by rw [h.1]; exact h.2, [], by rw [h.1]; rfl⟩
  | c :: l, a, h => by
    obtain ⟨h1, l1, h2⟩ := Lk.end l c h.2.2
    exact ⟨h1, a :: l1, by rw [h2]; rfl⟩
theorem inv_put1 {r : List Nat} (I : Inv q r) (V : Val q) (k : Nat) (hk : k < 8) (h0 : k ≠ 0) (hon : (q.th k).on = true) (hm : (q.th k).made = 1) : Inv (put q k).2 (r ++ [(q.th k).node]) := by
  have hf := I.fresh k hk h0 hon (by omega)
  have ho := V.own k hk h0 hon
  obtain ⟨hx0, l1, hl1⟩ := Lk.end r q.tail I.lk
  unfold put
  rw [if_neg (by omega), if_pos hm]
  refine ⟨?_, ?_, fun i hi => ?_, fun j hj j0 => ?_, fun j hj j0 => ?_, fun i j hi hj i0 j0 => ?_, ?_⟩
  · exact Lk.snoc (q := q) (q' := { n := q.n, v := q.v, nx := q.nx, head := (q.th k).node, tail := q.tail, th := (q.set k { on := true, made := 2, node := (q.th k).node, prev := q.head }).th }) k hk h0 rfl ho hf.2 (fun _ => rfl) (fun j hj => set_other q _ hj) (by omega) (by rw [set_same]) (by rw [set_same]) (by rw [set_same]) (by rw [set_same]) r q.tail I.lk
  · show (q.tail :: (r ++ [(q.th k).node])).Nodup
    rw [← List.cons_append, List.nodup_append]
    exact ⟨I.nd, by simp, fun a ha b hb => by simp at hb; subst hb; exact fun e => hf.1 (e ▸ ha)⟩
  · rcases List.mem_append.1 hi with h | h
    · exact I.lt i h
    · simp at h; subst h; exact V.node k hk hon
  · show ((q.set k _).th j).on = true → ((q.set k _).th j).made < 2 → ((q.set k _).th j).node ∉ q.tail :: (r ++ [(q.th k).node]) ∧ q.nx ((q.set k _).th j).node = 0
    by_cases e : j = k
    · subst e; rw [set_same]; exact fun _ h => by simp at h
    · rw [set_other q _ e]; intro h1 h2
      have := I.fresh j hj j0 h1 h2
      refine ⟨fun hin => ?_, this.2⟩
      rw [← List.cons_append] at hin
      rcases List.mem_append.1 hin with h | h
      · exact this.1 h
      · simp at h; exact e (I.inj j k hj hk j0 h0 h1 hon h)
  · show ((q.set k _).th j).on = true → ((q.set k _).th j).made = 2 → q.nx ((q.set k _).th j).prev = 0 ∧ ∃ a b, q.tail :: (r ++ [(q.th k).node]) = a ++ ((q.set k _).th j).prev :: ((q.set k _).th j).node :: b
    by_cases e : j = k
    · subst e; rw [set_same]; exact fun _ _ => ⟨hx0, l1, [], by rw [← List.cons_append, hl1]; simp⟩
    · rw [set_other q _ e]; intro h1 h2
      obtain ⟨h3, a, b, h4⟩ := I.adj j hj j0 h1 h2
      exact ⟨h3, a, b ++ [(q.th k).node], by rw [← List.cons_append, h4]; simp⟩
  · show ((q.set k _).th i).on = true → ((q.set k _).th j).on = true → ((q.set k _).th i).node = ((q.set k _).th j).node → i = j
    by_cases x : i = k <;> by_cases y : j = k
    · intros; omega
    · subst x; rw [set_same, set_other q _ y]; exact fun _ h2 h3 => I.inj i j hi hj i0 j0 hon h2 h3
    · subst y; rw [set_same, set_other q _ x]; exact fun h2 _ h3 => I.inj i j hi hj i0 j0 h2 hon h3
    · rw [set_other q _ x, set_other q _ y]; exact I.inj i j hi hj i0 j0
  · show ((q.set k _).th 0).on = true → ((q.set k _).th 0).made = 1 → ((q.set k _).th 0).node ≠ 0 → q.nx q.tail = _ ∧ _
    rw [set_other q _ (Ne.symm h0)]
    intro h1 h2 h3
    obtain ⟨h4, r', h5⟩ := I.tk h1 h2 h3
    exact ⟨h4, r' ++ [(q.th k).node], by rw [h5]; rfl⟩
theorem Lk.link {q q' : Q} {r : List Nat} (I : Inv q r) (k : Nat) (hk : k < 8) (h0 : k ≠ 0) (hon : (q.th k).on = true) (hm : (q.th k).made = 2) (hh : q'.head = q.head) (hx : ∀ i, q'.nx i = if i = (q.th k).prev then (q.th k).node else q.nx i) (ht : ∀ j, j ≠ k → q'.th j = q.th j) :
    ∀ (l : List Nat) (a : Nat), (∃ p, q.tail :: r = p ++ a :: l) → Lk q a l → Lk q' a l
  | [], a, ⟨p, hp⟩, h => ⟨hh.trans h.1, by
      rw [hx, if_neg, h.2]
      intro e
      obtain ⟨_, l1, l2, h2⟩ := I.adj k hk h0 hon hm
      have hd := I.nd
      rw [h2] at hp hd
      have h3 := congrArg List.getLast? hp
      rw [List.getLast?_append, List.getLast?_append] at h3
      simp at h3
      have h5 := List.mem_of_getLast? h3
      have hd2 : ((q.th k).prev :: (q.th k).node :: l2).Nodup := (List.nodup_append.1 hd).2.1
      exact (List.nodup_cons.1 hd2).1 (e ▸ h5)⟩
  | c :: l, a, ⟨p, hp⟩, h => by
    refine ⟨?_, h.2.1, Lk.link I k hk h0 hon hm hh hx ht l c ⟨p ++ [a], by rw [hp]; simp⟩ h.2.2⟩
    by_cases e : a = (q.th k).prev
    · left
      rw [hx, if_pos e]
      obtain ⟨hz, l1, l2, h2⟩ := I.adj k hk h0 hon hm
      rw [e] at hp
      exact adj_unique l1 p (h2.symm.trans hp) (by rw [← h2]; exact I.nd)
    · refine h.1.imp (fun x => by rw [hx, if_neg e]; exact x) (fun ⟨x, j, j8, j0, h1, h2, h3, h4⟩ => ⟨by rw [hx, if_neg e]; exact x, j, j8, j0, ?_⟩)
      rw [ht j (fun y => by subst y; exact e h3.symm)]
      exact ⟨h1, h2, h3, h4⟩
theorem inv_put2 {r : List Nat} (I : Inv q r) (V : Val q) (k : Nat) (hk : k < 8) (h0 : k ≠ 0) (hon : (q.th k).on = true) (hm : (q.th k).made = 2) : Inv (put q k).2 r := by
  obtain ⟨hz, l1, l2, h2⟩ := I.adj k hk h0 hon hm
  have hpm : (q.th k).prev ∈ q.tail :: r := by rw [h2]; simp
  unfold put
  rw [if_neg (by omega), if_neg (by omega)]
  refine ⟨?_, I.nd, I.lt, fun j hj j0 => ?_, fun j hj j0 => ?_, fun i j hi hj i0 j0 => ?_, ?_⟩
  · exact Lk.link (q := q) (q' := { n := q.n, v := q.v, nx := fun j => if j = (q.th k).prev then (q.th k).node else q.nx j, head := q.head, tail := q.tail, th := (q.set k {}).th }) I k hk h0 hon hm rfl (fun _ => rfl) (fun j hj => set_other q _ hj) r q.tail ⟨[], rfl⟩ I.lk
  · show ((q.set k _).th j).on = true → ((q.set k _).th j).made < 2 → ((q.set k _).th j).node ∉ q.tail :: r ∧ (if ((q.set k _).th j).node = (q.th k).prev then (q.th k).node else q.nx ((q.set k _).th j).node) = 0
    by_cases e : j = k
    · subst e; rw [set_same]; exact fun h => by cases h
    · rw [set_other q _ e]; intro h1 h3
      have := I.fresh j hj j0 h1 h3
      exact ⟨this.1, by rw [if_neg (fun x : (q.th j).node = (q.th k).prev => this.1 (by rw [x]; exact hpm))]; exact this.2⟩
  · show ((q.set k _).th j).on = true → ((q.set k _).th j).made = 2 → (if ((q.set k _).th j).prev = (q.th k).prev then (q.th k).node else q.nx ((q.set k _).th j).prev) = 0 ∧ _
    by_cases e : j = k
    · subst e; rw [set_same]; exact fun h => by cases h
    · rw [set_other q _ e]; intro h1 h3
      have := I.adj j hj j0 h1 h3
      exact ⟨by rw [if_neg (fun x => e (I.one hj hk j0 h0 h1 hon h3 hm x))]; exact this.1, this.2⟩
  · show ((q.set k _).th i).on = true → ((q.set k _).th j).on = true → ((q.set k _).th i).node = ((q.set k _).th j).node → i = j
    by_cases x : i = k
    · subst x; rw [set_same]; exact fun h => by cases h
    · by_cases y : j = k
      · subst y; rw [set_same]; exact fun _ h => by cases h
      · rw [set_other q _ x, set_other q _ y]; exact I.inj i j hi hj i0 j0
  · show ((q.set k _).th 0).on = true → ((q.set k _).th 0).made = 1 → ((q.set k _).th 0).node ≠ 0 → (if q.tail = (q.th k).prev then (q.th k).node else q.nx q.tail) = _ ∧ _
    rw [set_other q _ (Ne.symm h0)]
    intro h1 h3 h4
    have := I.tk h1 h3 h4
    exact ⟨by rw [if_neg (fun x => h4 (by rw [← this.1, x]; exact hz))]; exact this.1, this.2⟩
theorem inv_take0 {r : List Nat} (I : Inv q r) (hm : (q.th 0).made = 0) : Inv (take q).2 r := by
  unfold take
  rw [if_pos hm]
  refine inv_setT0 I _ (fun _ _ h => ⟨rfl, ?_⟩)
  have h' : q.nx q.tail ≠ 0 := h
  cases r with
  | nil => exact absurd I.lk.2 h'
  | cons c l =>
    rcases I.lk.1 with e | ⟨e, _⟩
    · exact ⟨l, by show c :: l = q.nx q.tail :: l; rw [e]⟩
    · exact absurd e h'
theorem inv_take1 {r : List Nat} (I : Inv q r) (hon : (q.th 0).on = true) (hm : (q.th 0).made = 1) (hz : (q.th 0).node ≠ 0) : ∃ r', r = (q.th 0).node :: r' ∧ Inv (take q).2 r' := by
  obtain ⟨hx, r', rfl⟩ := I.tk hon hm hz
  refine ⟨r', rfl, ?_⟩
  unfold take
  rw [if_neg (by omega), if_pos hz]
  have e : ∀ k, k ≠ 0 → (q.set 0 {}).th k = q.th k := fun k hk => set_other q {} hk
  refine ⟨?_, (List.nodup_cons.1 I.nd).2, fun i hi => I.lt i (List.mem_cons_of_mem _ hi), fun k hk h0 => ?_, fun k hk h0 => ?_, fun k j hk hj h0 j0 => ?_, fun h => by cases h⟩
  · exact Lk.congr (q := q) (q' := { n := q.n, v := q.v, nx := q.nx, head := q.head, tail := (q.th 0).node, th := (q.set 0 {}).th }) rfl (fun _ => rfl) (fun k _ h0 _ _ => e k h0) r' _ I.lk.2.2
  · rw [e k h0]; intro h1 h2
    have := I.fresh k hk h0 h1 h2
    exact ⟨fun h => this.1 (List.mem_cons_of_mem _ h), this.2⟩
  · rw [e k h0]; intro h1 h2
    obtain ⟨h3, l1, l2, h4⟩ := I.adj k hk h0 h1 h2
    refine ⟨h3, ?_⟩
    cases l1 with
    | nil =>
      simp at h4
      rw [← h4.1, hx] at h3
      exact absurd h3 hz
    | cons x l1 =>
      simp at h4
      exact ⟨l1, l2, h4.2⟩
  · rw [e k h0, e j j0]; exact I.inj k j hk hj h0 j0
theorem inv_takeE {r : List Nat} (I : Inv q r) (hm : (q.th 0).made = 1) (hz : (q.th 0).node = 0) : Inv (take q).2 r := by
  unfold take
  rw [if_neg (by omega), if_neg (by simpa using hz)]
  exact inv_setT0 I {} (fun h => by cases h)
/-- one step on, whatever it is -/
theorem inv_step {r : List Nat} (I : Inv q r) (V : Val q) (k : Int) : ∃ r', Inv (step q k).2 r' := by
  unfold step
  split
  · exact ⟨r, I⟩
  · split
    · exact ⟨r, I⟩
    · split
      · rename_i h1 h2 h3
        subst h3
        have hon : (q.th 0).on = true := by simpa using h2
        have hm := V.made 0 (by omega) hon
        rw [if_pos rfl] at hm
        by_cases m0 : (q.th 0).made = 0
        · exact ⟨r, inv_take0 I m0⟩
        · by_cases hz : (q.th 0).node = 0
          · exact ⟨r, inv_takeE I (by omega) hz⟩
          · obtain ⟨r', _, I'⟩ := inv_take1 I hon (by omega) hz
            exact ⟨r', I'⟩
      · rename_i h1 h2 h3
        have hon : (q.th k.toNat).on = true := by simpa using h2
        have hm := V.made k.toNat (by omega) hon
        rw [if_neg (by omega)] at hm
        rcases (show (q.th k.toNat).made = 0 ∨ (q.th k.toNat).made = 1 ∨ (q.th k.toNat).made = 2 by omega) with m | m | m
        · exact ⟨_, inv_put0 I V _ (by omega) (by omega) hon m⟩
        · exact ⟨_, inv_put1 I V _ (by omega) (by omega) hon m⟩
        · exact ⟨_, inv_put2 I V _ (by omega) (by omega) hon m⟩
end Go.Proofs.Ytcbbjcafgnddcaa
