/- RingGives's walk. -/
import Derived.Test.YtcofoknkmkfbkaaP9
import Derived.Test.YtcofoknkmkfbkaaP11
import Derived.Test.YtcofoknkmkfbkaaP12
namespace Go.Proofs.Ytcofoknkmkfbkaa
open Go.RowKit Go.Shelf
set_option linter.unusedVariables false
set_option linter.unusedSimpArgs false
attribute [local go_sem] Oper.semAt_some

def OnlyN (Q : Exit → Act → World → Prop) : Exit → Act → World → Prop
  | .normal, a, w => Q .normal a w
  | _, _, _ => False
theorem wpIn_only {F : Fence} {n : Nat} {P : Program} {c : Code} {Q : Exit → Act → World → Prop} {a : Act} {w : World} (h : c.wpIn F n P (OnlyN Q) a w) : c.wpIn F n P Q a w :=
  Code.wpIn_mono (fun e a w q => by cases e <;> first | exact q | exact q.elim) h

def noDefer (o : Oper) : Bool := match o.op with | .defer _ => false | _ => true
theorem noDefer_ne {o : Oper} (h : noDefer o = true) (c) : o.op ≠ .defer c := fun e => by unfold noDefer at h; rw [e] at h; cases h
section
variable {F : Fence} {n : Nat} {P : Program} {ops : Array Oper} {C : World → Prop} {md : Region.Mode}
/-- a region that only reads, in a fence with or without a round: what is asked is that nothing is deferred -/
theorem quietD_op {o : Oper} {a : Act} {K : Act → Prop} {K' : Act → World → Prop} {Q' : Exit → Act → World → Prop} {w : World} (hnd : noDefer o = true) (hw : C w) (h : ∀ a w', C w' → K a → K' a w')
    (ha : o.askedIn F P a C) (hh : o.quietIn F n P a C K) : o.wpIn F n P a w K' Q' := by
  obtain ⟨v, h1, h2⟩ := hh
  have h3 := h1 w hw
  unfold Oper.quietAtIn at h3
  unfold Oper.wpIn
  refine ⟨ha w hw, ?_⟩
  rw [Oper.semAt_plain F _ o (noDefer_ne hnd)]
  cases hr : (execOp a.eval o).run P w with
  | halt x w' => rw [hr] at h3; simp only [Oper.quietUponIn] at h3
  | ok x w' =>
    rw [hr] at h3
    cases x <;> simp only [Oper.quietUponIn] at h3 <;> simp only [Oper.uponIn]
    case value u => obtain ⟨rfl, rfl⟩ := h3; exact h _ _ hw h2
    case skip => obtain ⟨rfl, rfl⟩ := h3; exact h _ _ hw h2
    case enter f args =>
      obtain ⟨rfl, hd, hc⟩ := h3
      exact ⟨hd, hc.mono fun e w'' ⟨he, hw''⟩ => by subst he; exact h _ _ hw'' h2⟩
theorem quietD_any {Q : Act → Prop} {Q' : Exit → Act → World → Prop} (hnd : ∀ (i : Nat) (o : Oper), ops[i]? = some o → noDefer o = true) (hQ : ∀ a w, C w → Q a → Q' .normal a w) : ∀ (fuel : Nat) (listed : Array Bool) (a : Act) (w : World), C w →
    wpAnyQIn F n P md ops C Q fuel listed a → wpAnyIn F n P md ops Q' fuel listed a w
  | 0, _, _, _, hw, h => ⟨h.1, hQ _ _ hw h.2⟩
  | fuel + 1, listed, a, w, hw, h => ⟨fun h0 => hQ _ _ hw (h.1 h0), fun i hi => by
      have hh := h.2 i hi
      unfold qOpIn at hh
      unfold wpOpIn
      cases ho : ops[i]? with
      | none => simp only [ho] at hh ⊢; exact quietD_any hnd hQ fuel _ a w hw hh
      | some o =>
        simp only [ho] at hh ⊢
        obtain ⟨ha, hh⟩ := hh
        by_cases hwt : Region.wanted o (yielded ops a.tmps) = true
        · simp only [hwt, if_true] at hh ⊢
          exact quietD_op (hnd i o ho) hw (fun a' w' hw' => quietD_any hnd hQ fuel _ a' w' hw') ha hh
        · simp only [hwt] at hh ⊢
          exact ⟨ha w hw, quietD_any hnd hQ fuel _ _ w hw hh⟩⟩
theorem quietD {id : Nat} {Q : Exit → Act → World → Prop} {a : Act} {w : World} {l : List Oper} (hnd : l.all noDefer = true) (hm : P.follows .mixedOrders = true) (hB : Region.lexB .any l.toArray = true)
    (h : wpQuietIn F n P l.toArray (fun w' => ∃ n, w' = w.drewN n) (fun a' => ∀ w', (∃ n, w' = w.drewN n) → Q .normal a' w') l a) : (Code.region id l.toArray true).wpIn F n P Q a w := by
  simp only [Region.lexB, Bool.and_eq_true] at hB
  refine wpIn_region_any hm (quietD_any (C := fun w' => ∃ n, w' = w.drewN n) (Q := fun a' => ∀ w', (∃ n, w' = w.drewN n) → Q .normal a' w') (fun i o ho => List.all_eq_true.1 hnd o (List.mem_of_getElem? (by simpa using ho))) (fun _ w' hw' h => h w' hw') _ _ _ _ ⟨1, rfl⟩ ?_)
  have := wpAnyQIn_lex (F := F) (n := n) (C := fun w' => ∃ n, w' = w.drewN n) (md := .any) hB.1 l 0 (Array.replicate l.toArray.size false) a (by simp) (by simpa using hB.2) h
  simpa using this
end
macro "gi_quietD" : tactic => `(tactic|
  (refine quietD (by kernel_rfl) (by assumption) (by kernel_rfl) ?_
   repeat (gi_big_quiet_step (fail))
   refine wpQuietIn_nil ?_
   intro _ hw'
   obtain ⟨$(Lean.mkIdent `nq):ident, hw''⟩ := hw'
   subst hw''))
def OnlyEq (a0 : Act) (w0 : World) : Exit → Act → World → Prop
  | .normal, a, w => a = a0 ∧ w = w0
  | _, _, _ => False
/-- a region whose every order ends alike -/
theorem wpIn_at {F : Fence} {n : Nat} {P : Program} {c : Code} {Q : Exit → Act → World → Prop} {a : Act} {w : World} (a0 : Act) (w0 : World) (h : c.wpIn F n P (OnlyEq a0 w0) a w) (hq : Q .normal a0 w0) : c.wpIn F n P Q a w :=
  Code.wpIn_mono (fun e a w q => by cases e <;> first | exact q.elim | (obtain ⟨rfl, rfl⟩ := q; exact hq)) h
theorem box_ch {w w1 : World} {k : Nat} {t : TypeId} {v : Value} {b d : Nat} (h : Boxed w k t v) (g : Ch w w1 b d) (h1 : k ≠ b) (h2 : k ≠ d) : Boxed w1 k t v := by
  have hk : k < w.heap.size := by
    by_cases hh : k < w.heap.size
    · exact hh
    · have e : w.heap[k]? = _ := h
      rw [Array.getElem?_eq_none (by simpa using hh)] at e; cases e
  exact (g.block k hk h1 h2).trans h
theorem box_cm {w w1 : World} {k : Nat} {t : TypeId} {v : Value} {c B : Nat} (h : Boxed w k t v) (g : Cm w w1 c B) (h1 : k ≠ c) (h2 : k < B) : Boxed w1 k t v := by
  have hk : k < w.heap.size := by
    by_cases hh : k < w.heap.size
    · exact hh
    · have e : w.heap[k]? = _ := h
      rw [Array.getElem?_eq_none (by simpa using hh)] at e; cases e
  exact (g.block k hk h2 h1).trans h

/-- the two rings, the boxes -/
structure Gv (w W : World) (b d c Bt Bm B N : Nat) (lv : Int) (v : Value) (l lm : List Int) : Prop where
  r : IsR W b d N l
  m : IsM W c B N v lm
  bel : Below w.heap.size w W
  bl : Boxed W w.heap.size 3 (.int .i64 lv)
  br : Boxed W (w.heap.size + 1) 4 (.bool false)
  bt : Boxed W Bt 26 (.pointer (some ⟨b, 0, none⟩))
  bm : Boxed W Bm 51 (.pointer (some ⟨c, 0, none⟩))
  o : w.heap.size + 1 < b ∧ w.heap.size + 1 < d ∧ b < c ∧ d < c ∧ c < Bt ∧ Bt < Bm ∧ Bm < B
section
variable {w W W1 : World} {b d c Bt Bm B N : Nat} {lv : Int} {v v' : Value} {l l' lm lm' : List Int}
theorem Gv.ring (G : Gv w W b d c Bt Bm B N lv v l lm) (r : IsR W1 b d N l') (g : Ch W W1 b d) : Gv w W1 b d c Bt Bm B N lv v l' lm := by
  have ho := G.o
  exact { G with
    r := r, m := G.m.ch g (by omega) (by omega) (by omega) (by omega), bel := G.bel.trans (g.below G.bel.size (by omega) (by omega))
    bl := box_ch G.bl g (by omega) (by omega), br := box_ch G.br g (by omega) (by omega), bt := box_ch G.bt g (by omega) (by omega), bm := box_ch G.bm g (by omega) (by omega) }
theorem Gv.ref (G : Gv w W b d c Bt Bm B N lv v l lm) (m : IsM W1 c B N v' lm') (g : Cm W W1 c B) : Gv w W1 b d c Bt Bm B N lv v' l lm' := by
  have ho := G.o
  obtain ⟨f, ar, rr, hi⟩ := G.r.p
  have hs := World.rowIs.lt rr.s
  have ha := World.rowIs.lt rr.a
  exact { G with
    r := ⟨f, ar, { rr with s := rr.s.of_block (g.block b hs (by omega) (by omega)), a := rr.a.of_block (g.block d ha (by omega) (by omega)) }, hi⟩
    m := m, bel := G.bel.trans (g.below G.bel.size (by omega) (by omega))
    bl := box_cm G.bl g (by omega) (by omega), br := box_cm G.br g (by omega) (by omega), bt := box_cm G.bt g (by omega) (by omega), bm := box_cm G.bm g (by omega) (by omega) }
theorem Gv.below (G : Gv w W b d c Bt Bm B N lv v l lm) (g : Below W.heap.size W W1) : Gv w W1 b d c Bt Bm B N lv v l lm :=
  { G with
    r := G.r.below g G.r.bl G.r.dl, m := G.m.below g, bel := G.bel.trans (g.mono G.bel.size)
    bl := G.bl.kept (below_gb g none) (by simp), br := G.br.kept (below_gb g none) (by simp), bt := G.bt.kept (below_gb g none) (by simp), bm := G.bm.kept (below_gb g none) (by simp) }
theorem Gv.same (G : Gv w W b d c Bt Bm B N lv v l lm) (g : ∃ k, W1 = W.drewN k) : Gv w W1 b d c Bt Bm B N lv v l lm := by
  obtain ⟨k, rfl⟩ := g
  exact G.below (gb_below (gb_drewN W k none) (Nat.le_refl _) (fun k e => by cases e))
theorem Gv.drew (G : Gv w W b d c Bt Bm B N lv v l lm) : Gv w W.drew b d c Bt Bm B N lv v l lm := G.below (gb_below (gb_drew W none) (Nat.le_refl _) (fun k e => by cases e))
end

theorem row_turn {A C : World} {k : Nat} {ty : TypeId} {m : Nat} {f : Nat → Value} {row : Option Nat} (h : A.rowIs k ty m f) (g : A.grownBy C row) (hr : ∀ r, row = some r → ∃ o : Obj, A.heap[r]? = some o ∧ o.isCells = false) : C.rowIs k ty m f := by
  refine row_kept h g (fun e => ?_)
  obtain ⟨o, ho, hc⟩ := hr k e.symm
  obtain ⟨c, hb, _⟩ := h
  rw [hb] at ho; cases ho; cases hc
theorem Gv.turn {w W W1 : World} {b d c Bt Bm B N : Nat} {lv : Int} {v : Value} {l lm : List Int} (G : Gv w W b d c Bt Bm B N lv v l lm) {row : Option Nat} (g : W.grownBy W1 row) (hr : ∀ r, row = some r → w.heap.size ≤ r ∧ ∃ o : Obj, W.heap[r]? = some o ∧ o.isCells = false) : Gv w W1 b d c Bt Bm B N lv v l lm := by
  have hr' : ∀ r, row = some r → ∃ o : Obj, W.heap[r]? = some o ∧ o.isCells = false := fun r e => (hr r e).2
  obtain ⟨f, ar, rr, hi⟩ := G.r.p
  exact { G with
    r := ⟨f, ar, { rr with s := row_turn rr.s g hr', a := row_turn rr.a g hr' }, hi⟩
    m := { G.m with
      s := row_turn G.m.s g hr'
      o := by
        rcases G.m.o with h | ⟨q, off, cap, cur, e, hg, hc, r⟩
        · exact .inl h
        · refine .inr ⟨q, off, cap, cur, e, hg, ?_, r⟩
          rw [g.block q (by
            by_cases h : q < W.heap.size
            · exact h
            · rw [Array.getElem?_eq_none (by simpa using h)] at hc; cases hc) (fun e => by
            obtain ⟨o, ho, hc'⟩ := hr' q e.symm
            rw [hc] at ho; cases ho; cases hc')]
          exact hc
      bs := Nat.le_trans G.m.bs g.size }
    bel := G.bel.trans (gb_below g G.bel.size (fun k e => (hr k e).1))
    bl := box_turn G.bl g hr', br := box_turn G.br g hr', bt := box_turn G.bt g hr', bm := box_turn G.bm g hr' }
/-- what the law's range may turn -/
def SG (b d Bn : Nat) (_ : World) (k : Nat) : Prop := k = b ∨ k = d ∨ k = Bn
theorem sg_putObj {b d Bn : Nat} {W : World} {l : Nat} {o : Obj} (o' : Obj) (h : W.heap[l]? = some o) (hc : o.isCells = false) : KpS (SG b d Bn) W (W.putObj l o') := by
  refine ⟨by simp [World.putObj], fun k c t m hk hs hc' => ?_, fun k hk hs => hs⟩
  have : l ≠ k := fun e => by subst e; rw [h] at hc'; cases hc'; cases hc
  simpa [World.putObj, Array.getElem?_setIfInBounds_ne this] using hc'
theorem sg_set {b d Bn : Nat} (W : World) (u : Value) : KpS (SG b d Bn) W (W.setCell ⟨Bn, 0, none⟩ u) :=
  ⟨by simp, fun k c t m hk hs hc => (Below.heap_setCell _ _ _ _ (fun e => hs (.inr (.inr e)))).trans hc, fun k hk hs => hs⟩
theorem sg_ch {b d Bn : Nat} {W W' : World} (g : Ch W W' b d) : KpS (SG b d Bn) W W' :=
  ⟨g.size, fun k c t m hk hs hc => (g.block k hk (fun e => hs (.inl e)) (fun e => hs (.inr (.inl e)))).trans hc, fun k hk hs => hs⟩
theorem Gv.setN {w W : World} {b d c Bt Bm B N : Nat} {lv : Int} {v : Value} {l lm : List Int} (G : Gv w W b d c Bt Bm B N lv v l lm) (Bn : Nat) (hB : B ≤ Bn) (hne : v.ownBlock ≠ some Bn) (u : Value) (hb : Boxed W Bn 3 u) (u' : Value) : Gv w (W.setCell ⟨Bn, 0, none⟩ u') b d c Bt Bm B N lv v l lm := by
  have ho := G.o
  have gs := gb_set W Bn 0 u'
  obtain ⟨f, ar, rr, hi⟩ := G.r.p
  exact { G with
    r := ⟨f, ar, { rr with s := row_kept rr.s gs (by simp; omega), a := row_kept rr.a gs (by simp; omega) }, hi⟩
    m := { G.m with
      s := row_kept G.m.s gs (by simp; omega)
      o := by
        rcases G.m.o with h | ⟨q, off, cap, cur, e, hg, hc, r⟩
        · exact .inl h
        · refine .inr ⟨q, off, cap, cur, e, hg, ?_, r⟩
          exact (Below.heap_setCell _ _ _ _ (fun e' => hne (by rw [e]; simp [Value.ownBlock]; exact e'))).trans hc
      bs := by rw [World.size_setCell]; exact G.m.bs }
    bel := G.bel.trans (gb_below gs G.bel.size (fun k e => by cases e; omega))
    bl := G.bl.kept gs (by simp; omega), br := G.br.kept gs (by simp; omega), bt := G.bt.kept gs (by simp; omega), bm := G.bm.kept gs (by simp; omega) }
theorem Gv.fin {w W : World} {b d c Bt Bm B N : Nat} {lv : Int} {v : Value} {l lm : List Int} (G : Gv w W b d c Bt Bm B N lv v l lm) {D : Nat} (hD : w.heap.size ≤ D) (hK : W.heap[D]? = some (.deferred (some []))) :
    (W.setCell ⟨w.heap.size + 1, 0, none⟩ (.bool true)).drew.heap[D]? = some (.deferred (some [])) ∧ ((W.setCell ⟨w.heap.size + 1, 0, none⟩ (.bool true)).drew.putObj D (.deferred none)).cell? ⟨w.heap.size + 1, 0, none⟩ = some (.bool true) ∧
      Below w.heap.size w ((W.setCell ⟨w.heap.size + 1, 0, none⟩ (.bool true)).drew.putObj D (.deferred none)) := by
  have hK' : (W.setCell ⟨w.heap.size + 1, 0, none⟩ (.bool true)).drew.heap[D]? = some (.deferred (some [])) := (KeepsOthers.setCell W ⟨w.heap.size + 1, 0, none⟩ (.bool true)).same D _ hK rfl
  have hc := Boxed.set (.bool true) G.br
  have hc' : Boxed (W.setCell ⟨w.heap.size + 1, 0, none⟩ (.bool true)).drew (w.heap.size + 1) 4 (.bool true) := hc
  refine ⟨hK', (box_turn hc' (grownBy_putObj' _ D (.deferred none)) (fun r e => by cases e; exact ⟨_, hK', rfl⟩)).cell, ?_⟩
  have hb : Below w.heap.size w (W.setCell ⟨w.heap.size + 1, 0, none⟩ (.bool true)).drew := (G.bel.trans (gb_below (gb_set W (w.heap.size + 1) 0 _) G.bel.size (fun k e => by cases e; omega))).trans (gb_below (gb_drew _ none) (by have := G.bel.size; simp; omega) (fun k e => by cases e))
  exact hb.trans (belowK_b (w := w) (Nat.le_refl _) _ D _ _ hD hK' rfl rfl)

theorem Lo.lt {w : World} {B : Nat} {v : Value} {l : List Int} (h : Lo w B v l) (k : Nat) (hk : v.ownBlock = some k) : k < w.heap.size := by
  rcases h with ⟨rfl, _⟩ | ⟨q, off, cap, cur, rfl, hg, hc, r⟩
  · cases hk
  · have : q = k := by simpa [Value.ownBlock] using hk
    subst this
    by_cases h : q < w.heap.size
    · exact h
    · rw [Array.getElem?_eq_none (by simpa using h)] at hc; cases hc
theorem lo_cell {w : World} {B : Nat} {a : Option Addr} {n cap : Nat} {l : List Int} (h : Lo w B (.slice a n cap) l) (i : Nat) (hi : i < l.length) : ∃ g off, a = some ⟨g, off, none⟩ ∧ w.cell? ⟨g, off + i, none⟩ = some (.int .i64 (l.getD i 0)) := by
  rcases h with ⟨_, rfl⟩ | ⟨q, off, cap, cur, e, hg, hc, hn, ho, hr⟩
  · simp at hi
  · cases e
    exact ⟨q, off, rfl, (cell_of_row w q _ cur 3 (0, 0) hc).trans (hr i hi)⟩
theorem ko_drewN (W : World) (n : Nat) : KeepsOthers W (W.drewN n) := KeepsOthers.of_grownBy (gb_drewN W n none) (fun j o e hj => by cases e)
theorem bks_at (l : List Int) (pre : List Int) (x : Int) (h : pre ++ [x] <+: bks l l.length) : pre.length < l.length ∧ x = l.getD (l.length - 1 - pre.length) 0 := by
  have h1 : (pre ++ [x])[pre.length]? = some x := by simp
  have h2 : pre.length < (pre ++ [x]).length := by simp
  obtain ⟨suf, he⟩ := h
  have h3 : (bks l l.length)[pre.length]? = some x := by rw [← he, List.getElem?_append_left h2, h1]
  unfold bks at h3
  rw [List.getElem?_map] at h3
  by_cases hl : pre.length < l.length
  · rw [List.getElem?_range hl] at h3
    exact ⟨hl, by simpa using h3.symm⟩
  · rw [List.getElem?_eq_none (by simpa using hl)] at h3; cases h3
theorem ko_ch {W W' : World} {b d B : Nat} (g : Ch W W' b d) (h1 : b < B) (h2 : d < B) : KeepsFrom B W W' :=
  ⟨g.size, fun k o hB hk _ => (g.block k (Array.getElem?_eq_some_iff.1 hk).1 (by omega) (by omega)).trans hk⟩
theorem kps_drewN {S : World → Nat → Prop} (W : World) (n : Nat) (hS : ∀ k, S (W.drewN n) k → S W k) : KpS S W (W.drewN n) := ⟨Nat.le_refl _, fun _ _ _ _ _ _ h => h, fun k _ h => hS k h⟩
theorem rangeK {F : Fence} {n : Nat} {P : Program} {α : Type} {g : Operand} {ps : Array Tmp} {assign body : Code} {Q : Exit → Act → World → Prop} {a : Act} {w : World}
    (hro : F.round = none) (h1 : 1 ≤ n) {gf : Nat} {lb : Array Value} (hg : a.eval g = .func (.func gf) #[] lb) (hFg : F.fn gf) (eg : ∀ args w, (callFunc gf args).run P w = .ok (.enter gf args) w)
    {encs : α → Array Value} {Kp : World → World → Prop} {S Sp : List α → Prop} {N : Nat} (hseq : SeqStopsK F (n - 1) P gf lb encs Kp S Sp N w)
    (hKt : ∀ {A B C : World}, Kp A B → Kp B C → Kp A C) (hKb : ∀ (W : World) (l : Nat) (o o' : Obj), w.heap.size ≤ l → W.heap[l]? = some o → o.isCells = false → o.isWalk = false → Kp W (W.putObj l o')) (hps : ∀ x, (encs x).size = ps.size)
    (I : List α → World → Prop) (Ix : Code → List α → World → Prop) (hI : OwnFrom w.heap.size I) (hIx : ∀ c, OwnFrom w.heap.size (Ix c)) (h0 : I [] w) (s1 s2 : Nat) (val : α → Value)
    (hassign : ∀ (l : Nat) (x : α) (W : World) (K : Act → World → Prop), K { tmps := (a.tmps.setIfInBounds s1 (val x)).setIfInBounds s2 (val x), defers := [] } W →
      assign.wpIn (F.inRound l) (n - 1 - 1) P (Exit.then K (fun _ _ _ => False)) { tmps := (ps.zip (encs x)).foldl (fun t (p, v) => t.setIfInBounds p v) a.tmps, defers := [] } W)
    (hbody : ∀ (l : Nat) (pre : List α) (x : α) (W : World), I pre W → pre.length < N → body.wpIn (F.inRound l) (n - 1 - 1) P (ownPostG w.heap.size Kp I Ix (pre ++ [x]) W) { tmps := (a.tmps.setIfInBounds s1 (val x)).setIfInBounds s2 (val x), defers := [] } W)
    (hdone : ∀ (D : Nat) (xs : List α) (W : World), w.heap.size ≤ D → S xs → I xs W → W.heap[D]? = some (.deferred (some [])) → Q .normal { a with defers := { target := .collected D, args := #[] } :: a.defers } W)
    (hstop : ∀ (D : Nat) (c : Code) (pre : List α) (W : World), w.heap.size ≤ D → Sp pre → Ix c pre W → W.heap[D]? = some (.deferred (some [])) → c.wpIn F n P Q { a with defers := { target := .collected D, args := #[] } :: a.defers } W) :
    (Code.rangeFunc g ps assign body).wpIn F n P Q a w :=
  wpIn_rangeFunc_ownG hro h1 hg hFg eg hseq hKt hKb (Below.refl _ _) hps I Ix hI hIx h0 _ hassign hbody hdone hstop
set_option maxRecDepth 100000 in
set_option maxHeartbeats 8000000 in
theorem gives_in (s : Int) (a : Option Addr) (len cap : Nat) (kd xv : Nat → Int) (lv : Int) (w : World) (hs : I64 s) (hr : Ops w a len kd xv) (hlen : len ≤ 9223372036854775807) :
    CallsIn Fence.wide 9 Try.prog 5 #[.int .i64 s, .slice a len cap, .int .i64 lv] w fun e w' => e = .returned (.bool true) ∧ Below w.heap.size w w' := by
  refine callsIn_of_wp_marks Try.func5 rfl trivial ?_ rfl
  simp only [Try.ntmps5, List.size_toArray, List.length_cons, List.length_nil, Nat.reduceAdd, Nat.reduceSub, Array.replicate_succ, Array.replicate_zero, List.push_toArray, List.append_toArray, List.nil_append, List.cons_append]
  have b1 := (Boxed.new w 3 (.int .i64 lv)).alloc (.cells #[.bool false] 4)
  have b2 := Boxed.new (w.alloc (.cells #[.int .i64 lv] 3)) 4 (.bool false)
  rw [World.size_alloc] at b2
  have hB0 : Below w.heap.size w ((w.alloc (.cells #[.int .i64 lv] 3)).alloc (.cells #[.bool false] 4)) := ((Below.refl _ w).alloc (Nat.le_refl _) _).alloc (by simp) _
  gi_wp2_with fail
  refine ⟨trivial, ?_⟩
  refine (callsIn_wide.2 (lives_any _)).mono ?_
  rintro e w1 ⟨rfl, g1⟩
  have s1 : w.heap.size + 1 + 1 ≤ w1.heap.size := by have := g1.size; simpa using this
  have c1 := b1.kept (below_gb g1 none) (by simp)
  have c2 := b2.kept (below_gb g1 none) (by simp)
  have hB1 := hB0.trans (g1.mono hB0.size)
  clear b1 b2 hB0 g1
  gi_wp2_with fail
  refine ⟨trivial, ?_⟩
  refine (callsIn_wide.2 (r_new s _ hs)).mono ?_
  rintro e w2 ⟨rfl, r2, g2⟩
  have c1 := c1.kept g2 (by simp)
  have c2 := c2.kept g2 (by simp)
  have hB2 := hB1.trans (gb_below g2 hB1.size (fun k h => by cases h))
  have s2 := r2.bl
  clear hB1 g2
  gi_wp2_with fail
  refine ⟨trivial, ?_⟩
  refine (callsIn_wide.2 (m_new s _ hs)).mono ?_
  rintro e w3 ⟨rfl, m3, g3⟩
  have c1 := c1.kept g3 (by simp)
  have c2 := c2.kept g3 (by simp)
  have hB3 := hB2.trans (gb_below g3 hB2.size (fun k h => by cases h))
  have s3 := World.rowIs.lt m3.s
  have r3 := r2.below (gb_below g3 (Nat.le_refl _) (fun k h => by cases h)) r2.bl r2.dl
  clear hB2 g3 r2
  gi_wp2_with fail
  have G0 : Gv w ((w3.alloc (.cells #[.pointer (some ⟨w1.heap.size + 1, 0, none⟩)] 26)).alloc (.cells #[.pointer (some ⟨w2.heap.size, 0, none⟩)] 51)) (w1.heap.size + 1) w1.heap.size w2.heap.size w3.heap.size (w3.heap.size + 1) (w3.heap.size + 1 + 1) (capN s) lv (.slice none 0 0) [] [] := by
    have bt := (Boxed.new w3 26 (.pointer (some ⟨w1.heap.size + 1, 0, none⟩))).alloc (.cells #[.pointer (some ⟨w2.heap.size, 0, none⟩)] 51)
    have bm := Boxed.new (w3.alloc (.cells #[.pointer (some ⟨w1.heap.size + 1, 0, none⟩)] 26)) 51 (.pointer (some ⟨w2.heap.size, 0, none⟩))
    rw [World.size_alloc] at bm
    have hbel : Below w3.heap.size w3 ((w3.alloc (.cells #[.pointer (some ⟨w1.heap.size + 1, 0, none⟩)] 26)).alloc (.cells #[.pointer (some ⟨w2.heap.size, 0, none⟩)] 51)) := ((Below.refl _ _).alloc (Nat.le_refl _) _).alloc (by simp) _
    exact { r := r3.below hbel r3.bl r3.dl
            m := ⟨row_below m3.s hbel s3, .inl ⟨rfl, rfl⟩, by omega, by simp, m3.n1, m3.n2, m3.le⟩
            bel := hB3.trans (hbel.mono hB3.size), bl := (c1.alloc _).alloc _, br := (c2.alloc _).alloc _, bt := bt, bm := bm, o := by omega }
  have HR := Lib.hid hr
  clear hr c1 c2 m3 hB3 r3 s1 s2 s3
  generalize (w3.alloc (.cells #[.pointer (some ⟨w1.heap.size + 1, 0, none⟩)] 26)).alloc (.cells #[.pointer (some ⟨w2.heap.size, 0, none⟩)] 51) = w4 at *
  generalize w3.heap.size + 1 + 1 = B at *
  generalize w3.heap.size + 1 = Bm at *
  generalize w3.heap.size = Bt at *
  generalize w2.heap.size = c at *
  generalize w1.heap.size + 1 = b at *
  generalize w1.heap.size = d at *
  generalize capN s = N at *
  gi_loopw [9] (fun k wr => ∃ (i : Nat) (l : List Int) (v : Value), i ≤ len ∧ k = .int .i64 i ∧ Gv w wr b d c Bt Bm B N lv v l l) (fun k wr => len - (intOf k).toNat)
  case atStart => exact ⟨0, [], _, by omega, rfl, G0⟩
  case round =>
    clear G0
    obtain ⟨i, l, v, hi, rfl, G⟩ := hrel
    by_cases hlt : i < len
    · obtain ⟨sb, so, rfl, hsb, c0, c1⟩ := HR.out i hlt
      have HS := Lib.hid hsb
      have d0 := (G.bel.cell (p := ⟨sb, so + i * 2, none⟩) hsb).trans c0
      have d1 := (G.bel.cell (p := ⟨sb, so + i * 2 + 1, none⟩) hsb).trans c1
      obtain ⟨K, hK4, hK⟩ : ∃ K : Nat, K < 4 ∧ wrap64 ((IntKind.u64.wrap (kd i)).tmod 4) = (K : Int) := modn (kd i) 4 (by omega) (by omega)
      generalize kd i = kk at *
      generalize xv i = xx at *
      have HKK := Lib.hid hK
      have HC1 := Lib.hid c1
      clear hK c0 c1 hsb
      have hfol : Try.prog.follows .mixedOrders = true := by kernel_rfl
      gi_wp2_with fail
      refine ⟨trivial, ?_⟩
      refine (callsIn_wide.2 (kind_is kk xx K HKK.out wr)).mono ?_
      rintro e W2 ⟨rfl, hb2⟩
      have G2 := G.below hb2
      have d1 := (G2.bel.cell (p := ⟨sb, so + i * 2 + 1, none⟩) HS.out).trans HC1.out
      have t2 := G2.bt.cell
      have P1 := Lib.hid (fun (W1 : World) (e : W1.heap = W2.heap) => r_push (G2.r.same e) xx)
      have P0 := Lib.hid (fun (W1 : World) (e : W1.heap = W2.heap) => r_put (G2.r.same e) xx)
      have HG := Lib.hid G2
      clear G G2 d0 hb2
      obtain ⟨q, hq⟩ : ∃ q, ((K : Int) == 1) = q := ⟨_, rfl⟩
      cases q
      · gi_wp2_with fail
        refine wpIn_only ?_
        gi_region_with_o (refine ⟨trivial, ?_⟩; gi_at_call 11; refine (callsIn_wide.2 (P0.out _ (by rfl))).mono ?_; rintro e W3 ⟨rfl, r3, g3⟩)
        all_goals (simp only [OnlyN]; gi_wp2_with fail)
        all_goals
          have G3 := HG.out.drew.ring r3 g3
          have d3 := (G3.bel.cell (p := ⟨sb, so + i * 2 + 1, none⟩) HS.out).trans HC1.out
          have t3 := G3.bm.cell
          have M0 := Lib.hid (fun (W1 : World) (e : W1.heap = W3.heap) => m_put (G3.m.same e) xx)
          have HG3 := Lib.hid G3
          clear G3 r3 g3
          refine wpIn_only ?_
          gi_region_with_o (refine ⟨trivial, ?_⟩; gi_at_call 32; refine (callsIn_wide.2 (M0.out _ (by rfl))).mono ?_; rintro e W5 ⟨rfl, v5, m5, g5⟩)
        all_goals (simp only [OnlyN]; gi_wp2)
        all_goals exact ⟨⟨i + 1, putL N l xx, v5, by omega, by go_num, HG3.out.drew.ref m5 g5⟩, by simp [intOf]; omega⟩
      · gi_wp2_with fail
        refine wpIn_only ?_
        gi_region_with_o (refine ⟨trivial, ?_⟩; gi_at_call 21; refine (callsIn_wide.2 (P1.out _ (by rfl))).mono ?_; rintro e W3 ⟨rfl, r3, g3⟩)
        all_goals (simp only [OnlyN]; gi_wp2_with fail)
        all_goals
          have G3 := HG.out.drew.ring r3 g3
          have d3 := (G3.bel.cell (p := ⟨sb, so + i * 2 + 1, none⟩) HS.out).trans HC1.out
          have t3 := G3.bm.cell
          have M0 := Lib.hid (fun (W1 : World) (e : W1.heap = W3.heap) => m_push (G3.m.same e) xx)
          have HG3 := Lib.hid G3
          clear G3 r3 g3
          refine wpIn_only ?_
          gi_region_with_o (refine ⟨trivial, ?_⟩; gi_at_call 31; refine (callsIn_wide.2 (M0.out _ (by rfl))).mono ?_; rintro e W5 ⟨rfl, v5, m5, g5⟩)
        all_goals (simp only [OnlyN]; gi_wp2)
        all_goals exact ⟨⟨i + 1, pushL N l xx, v5, by omega, by go_num, HG3.out.drew.ref m5 g5⟩, by simp [intOf]; omega⟩
    · obtain rfl : i = len := by omega
      clear HR
      have hL := G.m.le
      have hN2 := G.m.n2
      have hne0 : v.ownBlock ≠ some wr.heap.size := fun e => by have := G.m.o.lt _ e; omega
      have bn := Boxed.new wr 3 (.int .i64 0)
      have G2 := G.below ((Below.refl wr.heap.size wr).alloc (Nat.le_refl _) (.cells #[.int .i64 0] 3))
      have hnB : B ≤ wr.heap.size := G.m.bs
      have t2 := G2.bt.cell
      have hsz : (wr.alloc (.cells #[.int .i64 0] 3)).heap.size = wr.heap.size + 1 := by simp
      clear G
      gi_wp2_with fail
      refine ⟨trivial, ?_⟩
      refine (back_in Fence.wide _ trivial rfl _ _).mono ?_
      rintro e w' ⟨rfl, rfl⟩
      gi_wp2_with fail
      have bx := Boxed.new (wr.alloc (.cells #[.int .i64 0] 3)) 26 (.pointer (some ⟨b, 0, none⟩))
      rw [hsz] at bx
      have bn := bn.alloc (.cells #[.pointer (some ⟨b, 0, none⟩)] 26)
      have G3 := G2.below ((Below.refl _ (wr.alloc (.cells #[.int .i64 0] 3))).alloc (Nat.le_refl _) (.cells #[.pointer (some ⟨b, 0, none⟩)] 26))
      have szx : ((wr.alloc (.cells #[.int .i64 0] 3)).alloc (.cells #[.pointer (some ⟨b, 0, none⟩)] 26)).heap.size = wr.heap.size + 2 := by simp
      clear G2 t2 hsz
      generalize (wr.alloc (.cells #[.int .i64 0] 3)).alloc (.cells #[.pointer (some ⟨b, 0, none⟩)] 26) = wx at *
      generalize wr.heap.size = Bn at *
      have G3' := Lib.hid G3
      obtain ⟨av, cv, hv⟩ := lo_slice G3.m.o
      have nI := G3.bel.size
      refine rangeK (F := Fence.wide) rfl (by omega) (gf := 49) (lb := #[.pointer (some ⟨Bn + 1, 0, none⟩)]) (by simp [Act.eval]) trivial (enters_of Try.func49 (by kernel_rfl) rfl)
        (back_stops _ (by omega) (SG b d Bn) (Bn + 1) (some ⟨b, 0, none⟩) l wx (by omega) (fun W W1 h1 h2 k hk => ?hS) bx.cell (.inr ⟨b, d, N, rfl, G3.r⟩)) (fun h k => KpS.trans h k) (fun W l o o' h1 h2 h3 _ => sg_putObj o' h2 h3) (fun _ => rfl)
        (fun pre W => ∃ l', Gv w W b d c Bt Bm B N lv v l' l ∧ Boxed W Bn 3 (.int .i64 pre.length))
        (fun cc pre W => pre <+: bks l l.length → cc = .exit 2 ∧ (∃ l', Gv w W b d c Bt Bm B N lv v l' l ∧ Boxed W Bn 3 (.int .i64 pre.length)) ∧ (pre.length : Int) = lv)
        (fun s A C row hs hg hr => by obtain ⟨l', h1, h2⟩ := hs; exact ⟨l', h1.turn hg (fun r e => ⟨by have := (hr r e).1; omega, (hr r e).2⟩), box_turn h2 hg (fun r e => (hr r e).2)⟩)
        (fun cc s A C row hs hg hr hp => by obtain ⟨e1, ⟨l', h1, h2⟩, e3⟩ := hs hp; exact ⟨e1, ⟨l', h1.turn hg (fun r e => ⟨by have := (hr r e).1; omega, (hr r e).2⟩), box_turn h2 hg (fun r e => (hr r e).2)⟩, e3⟩)
        ⟨l, G3, bn⟩ 60 11 (fun x => .int .i64 x) ?assign ?body ?done ?stop
      case hS =>
        have ho := G3.o
        have h3 := h1.size
        rcases hk with rfl | rfl | rfl <;> omega
      case assign =>
        intro l x W K hK
        gi_wp2
        exact hK
      case body =>
        rintro lp pre x W ⟨l', G, bN⟩ hlt
        simp only [List.setIfInBounds_toArray, List.set_cons_succ, List.set_cons_zero]
        subst hv
        have ho := G.o
        have hbN := bN.cell
        have hfN := bN.frozen
        have tm := G.bm.cell
        have tt := G.bt.cell
        have tc := G.m.c0
        have tl := G.bl.cell
        have tr := G.br.cell
        have tf := G.br.frozen
        have q1 : ¬ Bt = Bn := by omega
        have q2 : ¬ w.heap.size = Bn := by omega
        have q3 : ¬ Bn = Bt := by omega
        have q4 : ¬ Bn = w.heap.size := by omega
        have hfol : Try.prog.follows .mixedOrders = true := by kernel_rfl
        by_cases hA : l.length ≤ pre.length
        · have hA2 : (l.length : Int) ≤ (pre.length : Int) := by omega
          gi_wp2_with fail
          gi_quietD
          gi_wp2
          exact ⟨((ko_drewN _ _).trans (KeepsOthers.setCell _ _ _)).from _, fun h => absurd (bks_at l pre x h).1 (by omega)⟩
        · have hA2 : ¬ (l.length : Int) ≤ (pre.length : Int) := by omega
          obtain ⟨q, hq, hq2⟩ : ∃ q : Nat, (l.length : Int) - 1 - (pre.length : Int) = q ∧ q = l.length - 1 - pre.length := ⟨_, by omega, rfl⟩
          obtain ⟨gg, oo, rfl, hc⟩ := lo_cell (l := l) G.m.o q (by omega)
          have hql : q < l.length := by omega
          have HX : Hid (pre ++ [x] <+: bks l l.length → x = l.getD q 0) := Lib.hid (fun h => by rw [hq2]; exact (bks_at l pre x h).2)
          have HG := Lib.hid G
          have HA := Lib.hid hA
          clear hA hq2 G
          generalize l.getD q 0 = y at *
          by_cases hxy : x = y
          · subst hxy
            have hwr : IntKind.i64.wrap ((pre.length : Int) + 1) = (pre.length : Int) + 1 := IntWalk.i64_in _ (by omega)
            obtain ⟨qq, hqq⟩ : ∃ qq, ((pre.length : Int) + 1 == lv) = qq := ⟨_, rfl⟩
            cases qq
            all_goals
              gi_wp2_with fail
              have hA3 : decide ((l.length : Int) ≤ (pre.length : Int)) = false := decide_eq_false (by have := HA.out; omega)
              have hA4 : ¬ (l.length : Int) ≤ (pre.length : Int) := by have := HA.out; omega
              clear hA2
              gi_quietD
              have GX := (HG.out.same ⟨nq, rfl⟩).setN Bn hnB hne0 _ (show Boxed (W.drewN nq) Bn 3 _ from bN) (.int .i64 ((pre.length : Int) + 1))
              have HGX := Lib.hid GX
              have HT := Lib.hid (r_take GX.r)
              clear GX
            · gi_wp2_with (refine ⟨trivial, ?_⟩; gi_at_call 12; refine (CallsIn.inRound lp (callsIn_wide.2 HT.out)).mono ?_; rintro e W5 ⟨rfl, r5, g5⟩)
              have hln : (((pre ++ [x]).length : Nat) : Int) = (pre.length : Int) + 1 := by simp
              have hbx : Boxed ((W.drewN nq).setCell ⟨Bn, 0, none⟩ (.int .i64 ((pre.length : Int) + 1))) Bn 3 (.int .i64 ((pre.length : Int) + 1)) := Boxed.set _ (show Boxed (W.drewN nq) Bn 3 _ from bN)
              refine ⟨(((ko_drewN W nq).trans (KeepsOthers.setCell _ _ _)).from _).trans (ko_ch g5 (by omega) (by omega)), ((kps_drewN W nq (fun k h => h)).trans (sg_set _ _)).trans (sg_ch g5), _, HGX.out.ring r5 g5, ?_⟩
              rw [hln]
              exact box_ch hbx g5 (by omega) (by omega)
            · gi_wp2
              have hln : (((pre ++ [x]).length : Nat) : Int) = (pre.length : Int) + 1 := by simp
              have hbx : Boxed ((W.drewN nq).setCell ⟨Bn, 0, none⟩ (.int .i64 ((pre.length : Int) + 1))) Bn 3 (.int .i64 ((pre.length : Int) + 1)) := Boxed.set _ (show Boxed (W.drewN nq) Bn 3 _ from bN)
              refine ⟨((ko_drewN W nq).trans (KeepsOthers.setCell _ _ _)).from _, ?_⟩
              intro hp
              refine And.intro rfl (And.intro ⟨⟨_, HGX.out⟩, by rw [hln]; exact hbx⟩ ?_)
              rw [hln]
              exact eq_of_beq hqq
          · have hxy2 : (x != y) = true := by simpa using hxy
            gi_wp2_with fail
            have hA3 : decide ((l.length : Int) ≤ (pre.length : Int)) = false := decide_eq_false (by have := HA.out; omega)
            have hA4 : ¬ (l.length : Int) ≤ (pre.length : Int) := by have := HA.out; omega
            clear hA2
            gi_quietD
            gi_wp2
            exact ⟨((ko_drewN _ _).trans (KeepsOthers.setCell _ _ _)).from _, fun h => absurd (HX.out h) hxy⟩
      case done =>
        rintro D ys W hD hS ⟨l', G, bN⟩ hK
        subst hv
        have e1 : ys.length = l.length := by rw [hS]; simp [bks]
        rw [e1] at bN
        have hbN := bN.cell
        have tm := G.bm.cell
        have tc := G.m.c0
        have tl := G.bl.cell
        have tr := G.br.cell
        have tf := G.br.frozen
        have hfol : Try.prog.follows .mixedOrders = true := by kernel_rfl
        gi_wp2_with fail
        refine wpIn_only ?_
        gi_region_o
        all_goals (simp only [OnlyN]; gi_wp2)
        all_goals (obtain ⟨f1, f2, f3⟩ := G.fin (by omega) hK; exact ⟨by simp, .inl ⟨_, _, rfl, run_takeDeferred f1, .bool true, by simp [results, Try.f5, go_sem, f2], rfl, f3⟩⟩)
      case stop =>
        rintro D cc pre W hD hpre hx hK
        obtain ⟨rfl, ⟨l', G, bN⟩, hlv⟩ := hx hpre
        subst hv
        rw [hlv] at bN
        have hbN := bN.cell
        have tm := G.bm.cell
        have tc := G.m.c0
        have tl := G.bl.cell
        have tr := G.br.cell
        have tf := G.br.frozen
        have hfol : Try.prog.follows .mixedOrders = true := by kernel_rfl
        obtain ⟨q, hq⟩ : ∃ q, (lv == (l.length : Int)) = q := ⟨_, rfl⟩
        cases q
        all_goals gi_wp2_with fail
        all_goals refine wpIn_only ?_
        all_goals gi_region_o
        all_goals (simp only [OnlyN]; gi_wp2)
        all_goals (obtain ⟨f1, f2, f3⟩ := G.fin (by omega) hK; exact ⟨by simp, .inl ⟨_, _, rfl, run_takeDeferred f1, .bool true, by simp [results, Try.f5, go_sem, f2], rfl, f3⟩⟩)
theorem gives_any (s : Int) (a : Option Addr) (len cap : Nat) (kd xv : Nat → Int) (lv : Int) (w : World) (hs : I64 s) (hr : Ops w a len kd xv) (hlen : len ≤ 9223372036854775807) :
    Calls Try.prog 5 #[.int .i64 s, .slice a len cap, .int .i64 lv] w fun e w' => e = .returned (.bool true) ∧ Below w.heap.size w w' :=
  callsIn_wide.1 (gives_in s a len cap kd xv lv w hs hr hlen)
end Go.Proofs.Ytcofoknkmkfbkaa
