/- The iterator All: a snapshot is given, whatever is turned meanwhile but the snapshot. -/
import Derived.Test.YtcofoknkmkfbkaaP6
namespace Go.Proofs.Ytcofoknkmkfbkaa
open Go.RowKit Go.Shelf
set_option linter.unusedVariables false
set_option linter.unusedSimpArgs false
attribute [local go_sem] Oper.semAt_some

/-- what a round keeps: all rows of cells but those that S names; S names no elder one anew -/
structure KpS (S : World → Nat → Prop) (W W' : World) : Prop where
  size : W.heap.size ≤ W'.heap.size
  kept : ∀ k c t m, k < W.heap.size → ¬ S W k → W.heap[k]? = some (.cells c t m) → W'.heap[k]? = some (.cells c t m)
  back : ∀ k, k < W.heap.size → S W' k → S W k
theorem KpS.trans {S : World → Nat → Prop} {A B C : World} (h : KpS S A B) (g : KpS S B C) : KpS S A C :=
  ⟨Nat.le_trans h.size g.size, fun k c t m hk hs hc => g.kept k c t m (Nat.lt_of_lt_of_le hk h.size) (fun h' => hs (h.back k hk h')) (h.kept k c t m hk hs hc), fun k hk hs => h.back k hk (g.back k (Nat.lt_of_lt_of_le hk h.size) hs)⟩
theorem own_kps {S : World → Nat → Prop} {W W' : World} {B : Nat} {v : Value} {l : List Int} (h : Own W B v l) (g : KpS S W W') (hn : ∀ s, v.ownBlock = some s → ¬ S W s) : Own W' B v l := by
  rcases h with ⟨h1, h2 | ⟨s, cap, cur, e, hb, hg, hr⟩⟩
  · exact ⟨h1, .inl h2⟩
  · refine ⟨h1, .inr ⟨s, cap, cur, e, hb, ?_, hr⟩⟩
    subst e
    exact g.kept s _ _ _ (by
      by_cases hlt : s < W.heap.size
      · exact hlt
      · rw [Array.getElem?_eq_none (by simpa using hlt)] at hg; cases hg) (hn s rfl) hg

/-- what a ring gives; no ring: nothing -/
def GivesR (w : World) (p0 : Option Addr) (l : List Int) : Prop := (p0 = none ∧ l = []) ∨ ∃ b d N, p0 = some ⟨b, 0, none⟩ ∧ IsR w b d N l
theorem GivesR.below {w w' : World} {p0 : Option Addr} {l : List Int} (h : GivesR w p0 l) (g : Below w.heap.size w w') : GivesR w' p0 l := by
  rcases h with h | ⟨b, d, N, rfl, h⟩
  · exact .inl h
  · exact .inr ⟨b, d, N, rfl, h.below g h.bl h.dl⟩
theorem GivesR.len {w : World} {p0 : Option Addr} {l : List Int} (h : GivesR w p0 l) : l.length ≤ 4096 := by
  rcases h with ⟨_, rfl⟩ | ⟨b, d, N, rfl, h⟩
  · simp
  · exact Nat.le_trans h.le h.n2
theorem list_p {w : World} {p0 : Option Addr} {l : List Int} (h : GivesR w p0 l) : Calls Try.prog 50 #[.pointer p0] w fun e w' => ∃ v, e = .returned v ∧ Own w' w.heap.size v l ∧ Below w.heap.size w w' := by
  rcases h with ⟨rfl, rfl⟩ | ⟨b, d, N, rfl, h⟩
  · refine (list_nil w).mono ?_
    rintro e w' ⟨rfl, rfl⟩
    exact ⟨_, rfl, World.ownsRow_nil _ _ _ _, Below.refl _ _⟩
  · exact list_any w h
theorem own_slice {w : World} {B : Nat} {v : Value} {l : List Int} (h : Own w B v l) : ∃ a cap, v = .slice a l.length cap := by
  rcases h with ⟨h1, ⟨h2, h3⟩ | ⟨s, cap, cur, e, hb, hg, hr⟩⟩
  · exact ⟨none, 0, by rw [h2, h3]⟩
  · exact ⟨_, _, e⟩
theorem own_cell {w : World} {B : Nat} {a : Option Addr} {cap : Nat} {l : List Int} (h : Own w B (.slice a l.length cap) l) (i : Nat) (hi : i < l.length) :
    ∃ b, a = some ⟨b, 0, none⟩ ∧ B ≤ b ∧ b < w.heap.size ∧ w.cell? ⟨b, i, none⟩ = some (.int .i64 (l.getD i 0)) := by
  rcases h.2 with ⟨he, h0⟩ | ⟨g, cap', cur, he, hb, hg, _⟩
  · omega
  · cases he
    refine ⟨g, rfl, hb, (Array.getElem?_eq_some_iff.1 hg).1, ?_⟩
    have := World.ownsRow.cells h (g := g) rfl i (.int .i64 (l.getD i 0)) (by simp [List.getD, hi])
    rw [Go.WideShapes.add_plain] at this
    simpa using this
theorem own_below {w w' : World} {B C : Nat} {v : Value} {l : List Int} (h : Own w B v l) (g : Below C w w') (hC : w.heap.size ≤ C) : Own w' B v l :=
  World.ownsRow.kept h (row := none) ⟨g.os, g.tape, g.output, g.size, fun k hk _ => g.block k (by omega)⟩ (by cases hv : v.ownBlock <;> simp)
theorem own_kept {w w' : World} {B : Nat} {v : Value} {l : List Int} {r : Option Nat} (h : Own w B v l) (g : w.grownBy w' r) (hne : ∀ k, v.ownBlock = some k → r ≠ some k) : Own w' B v l :=
  World.ownsRow.kept h g (by
    cases hv : v.ownBlock with
    | none => exact .inl rfl
    | some k => exact .inr (fun e => hne k hv e.symm))
/-- the pairs that All gives -/
def prs (l : List Int) (m : Nat) : List (Nat × Int) := (List.range m).map (fun i => (i, l.getD i 0))

theorem prs_prefix (l : List Int) (m n : Nat) (h : m ≤ n) : prs l m <+: prs l n := by
  obtain ⟨k, rfl⟩ : ∃ k, n = m + k := ⟨n - m, by omega⟩
  unfold prs
  rw [List.range_add, List.map_append]
  exact List.prefix_append _ _
set_option maxRecDepth 100000 in
set_option maxHeartbeats 2000000 in
theorem iter_in (F : Fence) (n : Nat) (h52 : F.fn 52) (h50 : ∀ (w : World) (p0 : Option Addr) (l : List Int), GivesR w p0 l → CallsIn F (n - 1) Try.prog 50 #[.pointer p0] w fun e w' => ∃ v, e = .returned v ∧ Own w' w.heap.size v l ∧ Below w.heap.size w w') (h50f : F.fn 50) (hro : F.round = none) (hn : 1 ≤ n) (S : World → Nat → Prop) (lp Bx : Nat) (p0 : Option Addr) (l : List Int) (J Jx : List (Nat × Int) → World → Prop) (W : World)
    (hJ : AbidesFrom W.heap.size J) (hS : ∀ W1, Below W.heap.size W W1 → ∀ k, S W1 k → k < W.heap.size)
    (hY : ∀ pre x W1, J pre W1 → pre.length < 4096 → YieldAt F (n - 1) Try.prog lp #[.int .i64 x.1, .int .i64 x.2] W1 fun e W' =>
      (e = .returned (.bool true) ∧ J (pre ++ [x]) W' ∧ KpS S W1 W') ∨ (e = .returned (.bool false) ∧ Jx (pre ++ [x]) W'))
    (hB : W.cell? ⟨Bx, 0, none⟩ = some (.pointer p0)) (hl : GivesR W p0 l) (h0 : J [] W) :
    CallsIn F n Try.prog 52 #[.func (.yield lp) #[] #[], .pointer (some ⟨Bx, 0, none⟩)] W fun e W' => (∃ v, e = .returned v) ∧
      ((∃ ys, ys = prs l l.length ∧ J ys W') ∨ (∃ pre, pre <+: prs l l.length ∧ Jx pre W')) := by
  have hlen := hl.len
  have HL := Lib.hid hl
  clear hl
  refine callsIn_of_wp Try.func52 rfl h52 ?_ hro
  simp only [Try.ntmps52, List.size_toArray, List.length_cons, List.length_nil, Nat.reduceAdd, Nat.reduceSub, Array.replicate_succ, Array.replicate_zero, List.push_toArray, List.append_toArray, List.nil_append, List.cons_append]
  gi_wp2_with fail
  refine (h50 _ _ _ HL.out).mono ?_
  rintro e W1 ⟨v, rfl, hown, hbel⟩
  obtain ⟨a, cap, rfl⟩ := own_slice hown
  have hJ1 : J [] W1 := hJ _ _ _ none h0 (below_gb hbel none) (fun r e => by cases e)
  have hns : ∀ s, (Value.slice a l.length cap).ownBlock = some s → ¬ S W1 s := fun s e hs => by
    have := hS W1 hbel s hs
    have := (World.ownsRow.lt hown s e).1
    omega
  gi_wp2_with fail
  gi_loopw [3, 4, 8] (fun i x k wr => ∃ m : Nat, m ≤ l.length ∧ k = .int .i64 m ∧ J (prs l m) wr ∧ Own wr W.heap.size (.slice a l.length cap) l ∧ ∀ s, (Value.slice a l.length cap).ownBlock = some s → ¬ S wr s) (fun i x k wr => l.length - (intOf k).toNat)
  case atStart => exact ⟨0, by omega, rfl, hJ1, hown, hns⟩
  case round =>
    clear hJ1 hown hns
    obtain ⟨m, hm, rfl, hj, hown, hns⟩ := hrel
    by_cases hlt : m < l.length
    · obtain ⟨b, rfl, _, _, hc⟩ := own_cell hown m hlt
      obtain ⟨fn, tmps, assign, body, hy, hR⟩ := hY (prs l m) (m, l.getD m 0) _ hj (by simp [prs]; omega)
      have HE : Hid (prs l (m + 1) = prs l m ++ [(m, l.getD m 0)]) := Lib.hid (by simp [prs, List.range_succ])
      generalize l.getD m 0 = X at *
      gi_wp2
      refine hR.mono ?_
      rintro e W3 (⟨rfl, hJ3, hk3⟩ | ⟨rfl, hJx3⟩)
      · have hown3 := own_kps hown hk3 hns
        have hns3 : ∀ s, (Value.slice (some ⟨b, 0, none⟩) l.length cap).ownBlock = some s → ¬ S W3 s := fun s e hs => hns s e (hk3.back s (World.ownsRow.lt hown s e).2 hs)
        gi_wp2
        go_roundw
        case rel => exact ⟨m + 1, by omega, by go_num, by rw [HE.out]; exact hJ3, hown3, hns3⟩
        case measure => simp [intOf]; omega
      · gi_wp2
        refine bodyPost_ret (results_none rfl _ _ _) rfl ?_
        refine ⟨⟨_, rfl⟩, .inr ⟨_, ?_, hJx3⟩⟩
        rw [← HE.out]
        exact prs_prefix l (m + 1) l.length (by omega)
    · obtain rfl : m = l.length := by omega
      gi_wp2
      go_end0
      exact ⟨⟨_, rfl⟩, .inl ⟨_, rfl, hj⟩⟩

set_option maxHeartbeats 1000000 in
theorem all_in (F : Fence) (n : Nat) (h5 : F.fn 51) (hro : F.round = none) (p0 : Option Addr) (w : World) :
    CallsIn F n Try.prog 51 #[.pointer p0] w fun e w' => e = .returned (.func (.func 52) #[] #[.pointer (some ⟨w.heap.size, 0, none⟩)]) ∧ w' = w.alloc (.cells #[.pointer p0] 26) := by
  refine callsIn_of_wp Try.func51 rfl h5 ?_ hro
  simp only [Try.ntmps51, List.size_toArray, List.length_cons, List.length_nil, Nat.reduceAdd, Nat.reduceSub, Array.replicate_succ, Array.replicate_zero, List.push_toArray, List.append_toArray, List.nil_append, List.cons_append]
  gi_wp2
  go_ret
  exact ⟨rfl, rfl⟩
theorem all_stops (n : Nat) (hn : 1 ≤ n) (S : World → Nat → Prop) (Bx : Nat) (p0 : Option Addr) (l : List Int) (w : World) (hBx : Bx < w.heap.size)
    (hS : ∀ W W1, Below w.heap.size w W → Below W.heap.size W W1 → ∀ k, S W1 k → k < W.heap.size)
    (hc : w.cell? ⟨Bx, 0, none⟩ = some (.pointer p0)) (hL : GivesR w p0 l) :
    SeqStopsK Fence.wide n Try.prog 52 #[.pointer (some ⟨Bx, 0, none⟩)] (fun x : Nat × Int => #[Value.int .i64 x.1, .int .i64 x.2]) (KpS S) (fun ys => ys = prs l l.length) (fun pre => pre <+: prs l l.length) 4096 w := fun lp J Jx W hW hJ hJx hY h0 =>
  iter_in Fence.wide n trivial (fun w p0 l h => callsIn_wide.2 (list_p h)) trivial rfl hn S lp Bx p0 l J Jx W hJ (hS W · hW) hY ((hW.cell (p := ⟨Bx, 0, none⟩) hBx).trans hc) (hL.below hW) h0

theorem wpListIn_append_at {F : Fence} {n : Nat} {P : Program} (w : World) {ops : Array Oper} {rest : List Oper} {o : Oper} {a : Act} {Q : Exit → Act → World → Prop}
    (hg : o.guard = none) (s x : Operand) (t : TypeId) (hop : o.op = Op.call { callee := Callee.builtin Builtin.append, args := #[s, x], argTypes := #[t, t] })
    (base : Nat) (e : TypeId) (i : TypeInfo) (z : Value) (size bytes : Nat) (h1 : P.underlying t = some (.slice e)) (h2 : P.info? e = some i) (h3 : i.zero = some z) (h4 : i.size = size) (h5 : i.bytes = bytes) (h6 : z.cells.size = size) (h7 : 0 < size)
    (v : Value) (k : Nat) (xs : List Value) (hs : a.eval s = v) (hown : w.ownsRow base e size v k xs) (ad : Addr) (m c : Nat) (news : List Value) (hx : a.eval x = .slice (some ad) m c) (hn : news.length = m * size)
    (hc : ∀ j u, news[j]? = some u → w.cell? (ad.add j) = some u) (h1c : ∀ u ∈ news, u.oneCell' = true) (b1 : k + m ≤ maxLen) (b2 : (k + m) * bytes ≤ 140737488355328) (b3 : base ≤ w.heap.size)
    (hK : ∀ v' w', w'.ownsRow base e size v' (k + m) (xs ++ news) → w.grownBy w' v.ownBlock → (v'.ownBlock = v.ownBlock ∨ v'.ownBlock = some w.heap.size) → wpListIn F n P ops Q rest (a.put o.dst v') w') :
    wpListIn F n P ops Q (o :: rest) a w := by
  refine wpListIn_plain hg fun K hK' => ?_
  obtain ⟨v', w', hrun, r1, r2, _, r4⟩ := run_append_own_at (P := P) w base t o.type e i z size bytes h1 h2 h3 h4 h5 h6 h7 v k xs hown ad m c news hn hc h1c b1 b2 b3
  unfold Oper.wpIn
  refine ⟨?_, ?_⟩
  · simp [Oper.about, hop, resolve, Target.leads, Sem.run_pure]
  · rw [Oper.semAt_plain F _ _ (by rw [hop]; intro c hc'; cases hc')]
    simp [execOp, hop, resolve, invoke, builtin, hs, hx, hrun, Result.andThen]
    exact hK' _ _ (hK v' w' r1 r2 r4)
/-- what the collector may turn: the result's box, the list's box, the list's own row -/
def SA (Br Bo : Nat) (W : World) (k : Nat) : Prop := k = Br ∨ k = Bo ∨ ∃ v, W.cell? ⟨Bo, 0, none⟩ = some v ∧ v.ownBlock = some k
theorem sa_putObj {Br Bo : Nat} {w W : World} {l : Nat} {o : Obj} (o' : Obj) (hl : w.heap.size ≤ l) (hBo : Bo < w.heap.size) (h : W.heap[l]? = some o) (hc : o.isCells = false) : KpS (SA Br Bo) W (W.putObj l o') := by
  have hne : l ≠ Bo := by omega
  refine ⟨by simp [World.putObj], fun k c t m hk hs hc' => ?_, fun k hk hs => ?_⟩
  · have : l ≠ k := fun e => by subst e; rw [h] at hc'; cases hc'; cases hc
    simpa [World.putObj, Array.getElem?_setIfInBounds_ne this] using hc'
  · rcases hs with h1 | h1 | ⟨v, hv, h2⟩
    · exact .inl h1
    · exact .inr (.inl h1)
    · refine .inr (.inr ⟨v, ?_, h2⟩)
      have : (W.putObj l o').heap[Bo]? = W.heap[Bo]? := by simp [World.putObj, Array.getElem?_setIfInBounds_ne hne]
      unfold World.cell? at hv ⊢
      rw [this] at hv; exact hv
theorem sa_appended {Br Bo : Nat} {W w8 : World} {t : TypeId} {v v8 : Value} {o : Obj} (hv : Boxed W Bo t v) (hne : v.ownBlock ≠ some Bo) (hg : (W.alloc o).grownBy w8 v.ownBlock) (h4 : v8.ownBlock = v.ownBlock ∨ v8.ownBlock = some (W.alloc o).heap.size) :
    KpS (SA Br Bo) W (w8.setCell ⟨Bo, 0, none⟩ v8) := by
  have hBo : Bo < W.heap.size := by
    by_cases h : Bo < W.heap.size
    · exact h
    · have hh : W.heap[Bo]? = _ := hv
      rw [Array.getElem?_eq_none (by simpa using h)] at hh; cases hh
  have hsz := hg.size
  rw [World.size_alloc] at hsz
  refine ⟨by rw [World.size_setCell]; omega, fun k c ty m hk hs hc => ?_, fun k hk hs => ?_⟩
  · have k1 : k ≠ Bo := fun e => hs (.inr (.inl e))
    have k2 : some k ≠ v.ownBlock := fun e => hs (.inr (.inr ⟨v, hv.cell, e.symm⟩))
    rw [Below.heap_setCell _ _ _ _ k1, hg.block k (by simp; omega) k2, Below.heap_alloc _ _ _ hk]
    exact hc
  · rcases hs with h1 | h1 | ⟨u, hu, h2⟩
    · exact .inl h1
    · exact .inr (.inl h1)
    · have hb8 : Boxed w8 Bo t v := (hv.alloc o).kept hg (fun e => hne e.symm)
      have := (Boxed.set v8 hb8).cell
      rw [this] at hu
      cases hu
      rcases h4 with h4 | h4
      · rw [h4] at h2
        exact .inr (.inr ⟨v, hv.cell, h2⟩)
      · rw [h4] at h2; cases h2; simp at hk; omega

theorem prs_map (l : List Int) : (prs l l.length).map (fun x => Value.int .i64 x.2) = l.map (Value.int .i64) := by
  apply List.ext_getElem?
  intro i
  unfold prs
  rw [List.map_map, List.getElem?_map, List.getElem?_map]
  by_cases h : i < l.length
  · simp [h, List.getD]
  · rw [List.getElem?_eq_none (by simpa using h), List.getElem?_eq_none (by simpa using h)]; rfl
theorem prs_at (l : List Int) (n : Nat) (pre : List (Nat × Int)) (x : Nat × Int) (h : pre ++ [x] <+: prs l n) : x.1 = pre.length := by
  have h1 : (pre ++ [x])[pre.length]? = some x := by simp
  have h2 : pre.length < (pre ++ [x]).length := by simp
  have h3 : (prs l n)[pre.length]? = some x := by obtain ⟨suf, he⟩ := h; rw [← he, List.getElem?_append_left h2, h1]
  unfold prs at h3
  rw [List.getElem?_map] at h3
  by_cases hl : pre.length < n
  · rw [List.getElem?_range hl] at h3
    simp at h3
    rw [← h3]
  · rw [List.getElem?_eq_none (by simpa using hl)] at h3; cases h3
theorem box_turn {A C : World} {k : Nat} {ty : TypeId} {u : Value} {row : Option Nat} (h : Boxed A k ty u) (g : A.grownBy C row) (hr : ∀ r, row = some r → ∃ o : Obj, A.heap[r]? = some o ∧ o.isCells = false) : Boxed C k ty u := by
  refine h.kept g (fun e => ?_)
  obtain ⟨o, ho, hc⟩ := hr k e.symm
  have hb : A.heap[k]? = _ := h
  rw [hb] at ho; cases ho; cases hc
set_option maxRecDepth 100000 in
set_option maxHeartbeats 2000000 in
theorem coll_in (p0 : Option Addr) (l : List Int) (w : World) (hL : GivesR w p0 l) :
    CallsIn Fence.wide 3 Try.prog 34 #[.pointer p0] w fun e W' => ∃ v, e = .returned v ∧ Own W' w.heap.size v l ∧ Below w.heap.size w W' := by
  obtain ⟨i0, hi, hz0, hz1, hz2⟩ := info3
  refine callsIn_of_wp_marks Try.func34 rfl trivial ?_ rfl
  simp only [Try.ntmps34, List.size_toArray, List.length_cons, List.length_nil, Nat.reduceAdd, Nat.reduceSub, Array.replicate_succ, Array.replicate_zero, List.push_toArray, List.append_toArray, List.nil_append, List.cons_append]
  gi_wp2_with fail
  refine ⟨trivial, ?_⟩
  refine (all_in Fence.wide _ trivial rfl _ _).mono ?_
  rintro e w' ⟨rfl, rfl⟩
  gi_wp2_with fail
  have bR := (Boxed.new w 22 (.slice none 0 0)).alloc (.cells #[.slice none 0 0] 22)
  have bO := Boxed.new (w.alloc (.cells #[.slice none 0 0] 22)) 22 (.slice none 0 0)
  have bN := Boxed.new ((w.alloc (.cells #[.slice none 0 0] 22)).alloc (.cells #[.slice none 0 0] 22)) 26 (.pointer p0)
  simp only [World.size_alloc] at bO bN
  have hB0 : Below w.heap.size w (((w.alloc (.cells #[.slice none 0 0] 22)).alloc (.cells #[.slice none 0 0] 22)).alloc (.cells #[.pointer p0] 26)) := (((Below.refl _ w).alloc (Nat.le_refl _) _).alloc (by simp) _).alloc (by simp; omega) _
  have bR := bR.alloc (.cells #[.pointer p0] 26)
  have bO := bO.alloc (.cells #[.pointer p0] 26)
  have szx : (((w.alloc (.cells #[.slice none 0 0] 22)).alloc (.cells #[.slice none 0 0] 22)).alloc (.cells #[.pointer p0] 26)).heap.size = w.heap.size + 3 := by simp
  have hL := hL.below hB0
  have hBox0 : w.heap.size + 1 < (((w.alloc (.cells #[.slice none 0 0] 22)).alloc (.cells #[.slice none 0 0] 22)).alloc (.cells #[.pointer p0] 26)).heap.size := by omega
  generalize ((w.alloc (.cells #[.slice none 0 0] 22)).alloc (.cells #[.slice none 0 0] 22)).alloc (.cells #[.pointer p0] 26) = wx at *
  refine wpIn_rangeFunc_ownG (F := Fence.wide) rfl (by omega) (gf := 52) (lb := #[.pointer (some ⟨w.heap.size + 1 + 1, 0, none⟩)]) (by simp [Act.eval]) trivial (enters_of Try.func52 (by kernel_rfl) rfl)
    (all_stops (3 - 1) (by omega) (SA w.heap.size (w.heap.size + 1)) (w.heap.size + 1 + 1) p0 l wx (by omega) (fun W W1 h1 h2 k hk => ?hS) bN.cell hL) (fun h k => KpS.trans h k) (fun W l o o' h1 h2 h3 _ => sa_putObj o' h1 hBox0 h2 h3) (Below.refl _ _) (fun _ => rfl)
    (fun pre W => ((∃ v, Boxed W (w.heap.size + 1) 22 v ∧ W.ownsRow w.heap.size 3 1 v pre.length (pre.map (fun x => Value.int .i64 x.2)) ∧ True) ∧ (∃ v, Boxed W w.heap.size 22 v ∧ W.ownsRow w.heap.size 3 1 v 0 [] ∧ v = .slice none 0 0)) ∧ Below w.heap.size w W)
    (fun c pre _ => c = .ret ∧ ¬ pre <+: prs l l.length)
    (OwnFrom.and (OwnFrom.and (Own.from (holdsRow_own w.heap.size (w.heap.size + 1) 22 3 1 (fun pre : List (Nat × Int) => pre.length) (fun pre => pre.map (fun x => Value.int .i64 x.2)) (fun _ _ => True)) _) (Own.from (holdsRow_own w.heap.size w.heap.size 22 3 1 (fun pre : List (Nat × Int) => 0) (fun pre => []) (fun _ v => v = .slice none 0 0)) _)) (ownFrom_below (Nat.le_refl _) (by omega)))
    (fun _ _ _ _ _ hs _ _ => hs)
    ⟨⟨⟨_, bO, World.ownsRow_nil _ _ _ _, trivial⟩, ⟨_, bR, World.ownsRow_nil _ _ _ _, rfl⟩⟩, hB0⟩
    (fun x => { tmps := #[.pointer p0, undef, .pointer (some ⟨w.heap.size, 0, none⟩), .pointer (some ⟨w.heap.size + 1, 0, none⟩), .int .i64 x.1, .int .i64 x.2, .pointer p0, .func (.func 52) #[] #[.pointer (some ⟨w.heap.size + 1 + 1, 0, none⟩)], .int .i64 x.1, .int .i64 x.2, undef, undef, undef, undef, undef, undef, undef, undef, undef, undef, undef], defers := [] }) ?assign ?body ?done ?stop
  case hS =>
    have hsz := h1.size
    have hsz2 := h2.size
    rcases hk with rfl | rfl | ⟨v, hv, hk⟩
    · omega
    · omega
    · have e1 := (h2.cell (p := ⟨w.heap.size + 1, 0, none⟩) (by show w.heap.size + 1 < _; omega)).trans ((h1.cell (p := ⟨w.heap.size + 1, 0, none⟩) hBox0).trans bO.cell)
      rw [e1] at hv; cases hv; cases hk
  case assign =>
    intro lp x W K hK
    gi_wp2
    exact hK
  case body =>
    rintro lp pre x W ⟨⟨⟨v, hv, hrow, hnil⟩, ⟨vr, hvr, hrr, hvn⟩⟩, hB⟩ hlt
    subst hvn
    have hc := hv.cell
    have hcr := hvr.cell
    have hfr := hvr.frozen
    obtain ⟨a, cap, rfl⟩ : ∃ a cap, v = .slice a pre.length cap := by
      rcases hrow.2 with ⟨h2, h3⟩ | ⟨s, cap, cur, e, _⟩
      · exact ⟨none, 0, by rw [h2, h3]⟩
      · exact ⟨_, _, e⟩
    by_cases hgood : x.1 = pre.length
    · obtain ⟨x1, x2⟩ := x
      simp only at hgood
      subst hgood
      gi_wp2_with (gi_at_builtin; refine wpListIn_append_at _ rfl _ _ 22 rfl w.heap.size 3 i0 (.int .i64 0) 1 8 Try.underlying22 hi hz0 hz1 hz2 rfl (by decide) _ _ _ rfl (hrow.alloc _) ⟨W.heap.size, 0, none⟩ 1 1 [.int .i64 x2] rfl rfl (cell_one_new _ _ _) (by simp [Value.oneCell']) (by unfold maxLen; omega) (by omega) (by have := hB.size; simp; omega) ?_; intro v' w1 hown' hgrow h4; obtain ⟨g', cap', rfl⟩ := ownsRow_succ hown'; obtain ⟨hv1, hv2, hr2, hk2, hb2⟩ := hv.appended (by decide) hrow hB.size (by omega) hown' hgrow; have hc1 := hv1.cell; have hf1 := hv1.frozen)
      exact ⟨hk2.from _, sa_appended hv (hv.not_row (by decide) hrow).symm hgrow h4, ⟨⟨_, hv2, by simpa using hr2, trivial⟩, ⟨_, ((hvr.alloc _).kept hgrow (hvr.not_row (by decide) hrow)).kept (gb_set _ _ 0 _) (by simp), World.ownsRow_nil _ _ _ _, rfl⟩⟩, hB.trans hb2⟩
    · have hne : ((x.1 : Int) != (pre.length : Int)) = true := by simp; omega
      have hvr2 := hvr.alloc (.cells #[.int .i64 (-1), .int .i64 x.1] 3)
      have hcr2 := hvr2.cell
      have hfr2 := hvr2.frozen
      gi_wp2
      exact ⟨((KeepsOthers.alloc _ _).trans (KeepsOthers.setCell _ _ _)).from _, rfl, fun h => hgood (prs_at l l.length pre x h)⟩
  case done =>
    rintro D ys W hD rfl ⟨⟨⟨v, hv, hrow, hnil⟩, ⟨vr, hvr, hrr, hvn⟩⟩, hB⟩ hK
    subst hvn
    obtain ⟨a, cap, hv0⟩ : ∃ a cap, v = .slice a (prs l l.length).length cap := by
      rcases hrow.2 with ⟨h2, h3⟩ | ⟨s, cap, cur, e, _⟩
      · exact ⟨none, 0, by rw [h2, h3]⟩
      · exact ⟨_, _, e⟩
    have e2 : (prs l l.length).length = l.length := by simp [prs]
    rw [e2] at hv0 hrow
    subst hv0
    have hc := hv.cell
    have hcr := hvr.cell
    have hfr := hvr.frozen
    gi_wp2
    have e1 : (prs l l.length).map (fun x => Value.int .i64 x.2) = l.map (Value.int .i64) := by rw [prs_map]
    rw [e1] at hrow
    have hvr1 := Boxed.set (.slice a l.length cap) hvr
    have hne : (Value.slice a l.length cap).ownBlock ≠ some w.heap.size := (hvr.not_row (by decide) hrow).symm
    have hrow1 : (W.setCell ⟨w.heap.size, 0, none⟩ (.slice a l.length cap)).ownsRow w.heap.size 3 1 (.slice a l.length cap) l.length (l.map (Value.int .i64)) := own_kept hrow (gb_set W w.heap.size 0 _) (fun k hk e => hne (by rw [hk, e]))
    have hK' := (KeepsOthers.setCell W ⟨w.heap.size, 0, none⟩ (.slice a l.length cap)).same D _ hK rfl
    refine ⟨by simp, .inl ⟨_, _, rfl, run_takeDeferred hK', ?_⟩⟩
    have hc5 := (box_turn hvr1 (grownBy_putObj' _ D (.deferred none)) (fun r e => by cases e; exact ⟨_, hK', rfl⟩)).cell
    refine ⟨_, ?_, _, rfl, ownsRow_putObj hrow1 _ hK' rfl, (hB.setCell (p := ⟨w.heap.size, 0, none⟩) (by simp) _).trans (belowK_b (w := w) (Nat.le_refl _) _ D _ _ (by omega) hK' rfl rfl)⟩
    simp [results, Try.f34, go_sem, hc5]
  case stop =>
    rintro D c pre W _ hp h _
    exact absurd hp h.2
end Go.Proofs.Ytcofoknkmkfbkaa
