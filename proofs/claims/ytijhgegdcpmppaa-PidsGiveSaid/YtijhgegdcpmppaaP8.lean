/- PidsGive's walk. -/
import Derived.Test.YtijhgegdcpmppaaP7
namespace Go.Proofs.Ytijhgegdcpmppaa
open Go.RowKit Go.Shelf
set_option linter.unusedVariables false
set_option linter.unusedSimpArgs false
attribute [local go_sem] Oper.semAt_some

def OnlyN (Q : Exit → Act → World → Prop) : Exit → Act → World → Prop
  | .normal, a, w => Q .normal a w
  | _, _, _ => False
theorem wpIn_only {F : Fence} {n : Nat} {P : Program} {c : Code} {Q : Exit → Act → World → Prop} {a : Act} {w : World} (h : c.wpIn F n P (OnlyN Q) a w) : c.wpIn F n P Q a w :=
  Code.wpIn_mono (fun e a w q => by cases e <;> first | exact q | exact q.elim) h
theorem box_row {w : World} {B : Nat} {t : TypeId} {v : Value} (h : Boxed w B t v) {w' : World} {r : Option Nat} (g : w.grownBy w' r) (hne : some B ≠ r) : Boxed w' B t v := h.kept g hne

/-- what holds between two steps of the script: the law's boxes (how early it leaves, the result, the table's pointer, the list), the table, the list -/
structure Inv2 (w wr : World) (Bl Br b Bt BL B1 : Nat) (lv : Int) (t : Tb) (v : Value) (L : List Int) : Prop where
  ok : t.Ok
  ht : IsTb wr b t
  own : Own wr B1 v L
  el : ∀ x ∈ L, I64 x
  bel : Below w.heap.size w wr
  sz : B1 ≤ wr.heap.size
  n0 : w.heap.size ≤ Bl
  n1 : Bl < Br
  n2 : Br < b
  n3 : b < Bt
  n4 : Bt < BL
  n5 : BL < B1
  cl : Boxed wr Bl 3 (.int .i64 lv)
  cr : Boxed wr Br 4 (.bool false)
  ct : Boxed wr Bt 24 (.pointer (some ⟨b, 0, none⟩))
  cL : Boxed wr BL 39 v

section
variable {w wr w1 : World} {Bl Br b Bt BL B1 : Nat} {lv : Int} {t t' : Tb} {v : Value} {L : List Int}
theorem Inv2.tab (I : Inv2 w wr Bl Br b Bt BL B1 lv t v L) (h : IsTb w1 b t') (g : wr.grownBy w1 (some b)) (ok : t'.Ok) : Inv2 w w1 Bl Br b Bt BL B1 lv t' v L :=
  have h0 := I.n0; have h1 := I.n1; have h2 := I.n2; have h3 := I.n3; have h4 := I.n4; have h5 := I.n5
  { I with
    ok := ok, ht := h
    own := own_kept I.own g (fun k hk e => by have := (World.ownsRow.lt I.own k hk).1; cases e; omega)
    bel := I.bel.trans (gb_below g I.bel.size (fun k e => by cases e; omega))
    sz := Nat.le_trans I.sz g.size
    cl := I.cl.kept g (by simp; omega), cr := I.cr.kept g (by simp; omega), ct := I.ct.kept g (by simp; omega), cL := I.cL.kept g (by simp; omega) }
theorem Inv2.below (I : Inv2 w wr Bl Br b Bt BL B1 lv t v L) (g : Below wr.heap.size wr w1) : Inv2 w w1 Bl Br b Bt BL B1 lv t v L :=
  { I with
    ht := row_below I.ht g (World.rowIs.lt I.ht)
    own := own_below I.own g (Nat.le_refl _)
    bel := I.bel.trans (g.mono I.bel.size)
    sz := Nat.le_trans I.sz g.size
    cl := I.cl.kept (below_gb g none) (by simp), cr := I.cr.kept (below_gb g none) (by simp), ct := I.ct.kept (below_gb g none) (by simp), cL := I.cL.kept (below_gb g none) (by simp) }
theorem app_box (I : Inv2 w wr Bl Br b Bt BL B1 lv t v L) {v' : Value} {x : Int} {o : Obj} (ho : w1.ownsRow B1 2 1 v' (L.length + 1) (L.map (Value.int .i64) ++ [.int .i64 x])) (g : (wr.alloc o).grownBy w1 v.ownBlock) : Boxed w1 BL 39 v := by
  have h5 := I.n5
  have hlt : ∀ k, v.ownBlock = some k → B1 ≤ k ∧ k < wr.heap.size := World.ownsRow.lt I.own
  have hb : Below B1 wr w1 := ((Below.refl B1 wr).alloc I.sz o).grown g (by have := I.sz; simp; omega) (fun k hk => (hlt k hk).1)
  exact (hb.block _ h5).trans I.cL
theorem app_cell (I : Inv2 w wr Bl Br b Bt BL B1 lv t v L) {v' : Value} {x : Int} {o : Obj} (ho : w1.ownsRow B1 2 1 v' (L.length + 1) (L.map (Value.int .i64) ++ [.int .i64 x])) (g : (wr.alloc o).grownBy w1 v.ownBlock) : w1.cell? ⟨BL, 0, none⟩ = some v := (app_box I ho g).cell
theorem app_frozen (I : Inv2 w wr Bl Br b Bt BL B1 lv t v L) {v' : Value} {x : Int} {o : Obj} (ho : w1.ownsRow B1 2 1 v' (L.length + 1) (L.map (Value.int .i64) ++ [.int .i64 x])) (g : (wr.alloc o).grownBy w1 v.ownBlock) : w1.frozen? ⟨BL, 0, none⟩ = false := (app_box I ho g).frozen
theorem Inv2.app (I : Inv2 w wr Bl Br b Bt BL B1 lv t v L) {v' : Value} {x : Int} {o : Obj} (ho : w1.ownsRow B1 2 1 v' (L.length + 1) (L.map (Value.int .i64) ++ [.int .i64 x])) (g : (wr.alloc o).grownBy w1 v.ownBlock) (hx : I64 x)
    : Inv2 w (w1.setCell ⟨BL, 0, none⟩ v') Bl Br b Bt BL B1 lv t v' (L ++ [x]) := by
  have h0 := I.n0; have h1 := I.n1; have h2 := I.n2; have h3 := I.n3; have h4 := I.n4; have h5 := I.n5
  have hlt : ∀ k, v.ownBlock = some k → B1 ≤ k ∧ k < wr.heap.size := World.ownsRow.lt I.own
  have hb : Below B1 wr w1 := ((Below.refl B1 wr).alloc I.sz o).grown g (by have := I.sz; simp; omega) (fun k hk => (hlt k hk).1)
  have hbx : ∀ {B t v}, Boxed wr B t v → B < B1 → Boxed w1 B t v := fun h hB => (hb.block _ hB).trans h
  have gs := gb_set w1 BL 0 v'
  have cL1 := hbx I.cL h5
  exact { I with
    ht := row_kept (row_below I.ht hb (by omega)) gs (by simp; omega)
    own := own_kept (by show w1.ownsRow _ _ _ _ _ _; simpa using ho) gs (fun k hk e => by have := (World.ownsRow.lt ho k hk).1; cases e; omega)
    el := fun y hy => by
      rcases List.mem_append.1 hy with h | h
      · exact I.el y h
      · obtain rfl : y = x := by simpa using h
        exact hx
    bel := (I.bel.trans (hb.mono (by omega))).trans (gb_below gs (by have := I.bel.size; have := hb.size; omega) (fun k e => by cases e; omega))
    sz := Nat.le_trans I.sz (Nat.le_trans hb.size gs.size)
    cl := (hbx I.cl (by omega)).kept gs (by simp; omega), cr := (hbx I.cr (by omega)).kept gs (by simp; omega), ct := (hbx I.ct (by omega)).kept gs (by simp; omega)
    cL := Boxed.set v' cL1 }
end

theorem below_drew {B : Nat} {w w' : World} (h : Below B w.drew w') : Below B w w' := ⟨h.os, h.tape, h.output, h.size, h.block⟩
theorem which_step {w wr : World} {Bl Br b Bt BL B1 : Nat} {lv : Int} {t : Tb} {va : Option Addr} {vc : Nat} {L : List Int} {al kn : Bool} {pid : Int} {n len : Nat} (I : Inv2 w wr Bl Br b Bt BL B1 lv t (.slice va L.length vc) L) (hp : I64 pid) (hlt : n < len) (hL : L.length ≤ n) (hlen : len * 16 ≤ 140737488351232) :
    Calls Try.prog 15 #[.agg #[.bool al, .bool kn, .int .i64 pid], .slice va L.length vc] wr.drew fun e w4 => ∃ p, e = .returned (.int .i64 p) ∧ p ≤ 9223372036854775807 ∧ Inv2 w w4 Bl Br b Bt BL B1 lv t (.slice va L.length vc) L := by
  refine (which_any al kn pid L va vc B1 wr.drew I.own hp I.el (by omega)).mono ?_
  rintro e w4 ⟨p, rfl, hp, b4⟩
  exact ⟨p, rfl, hp.2, I.below (below_drew b4)⟩
theorem free_step {w wr : World} {Bl Br b Bt BL B1 : Nat} {lv : Int} {t : Tb} {v : Value} {L : List Int} {p : Int} (I : Inv2 w wr Bl Br b Bt BL B1 lv t v L) (hp : p ≤ 9223372036854775807) :
    Calls Try.prog 10 #[.pointer (some ⟨b, 0, none⟩), .int .i64 p] wr fun e w4 => e = .returned (.int .i64 (t.freeE p)) ∧ Inv2 w w4 Bl Br b Bt BL B1 lv (t.freeT p) v L := by
  refine (free_any b t p wr I.ht I.ok hp).mono ?_
  rintro e w4 ⟨rfl, h4, g4⟩
  exact ⟨rfl, I.tab h4 g4 (free_ok t I.ok p)⟩
def Cov (t : Tb) (L : List Int) : Prop := ∀ s, s < 32 → t.tk s = true → t.num s ∈ L
theorem cov_alloc (t : Tb) (L : List Int) (h : Cov t L) : Cov t.allocT (L ++ [t.allocV]) := fun s hs hk => by
  by_cases hf : t.first < 32
  · have e1 : t.allocT = { t with tk := fun s => if s = t.first then true else t.tk s, live := t.live + 1 } := by unfold Tb.allocT; rw [if_pos hf]
    have e2 : t.allocV = t.num t.first := by unfold Tb.allocV; rw [if_pos hf]
    rw [e1] at hk ⊢
    rw [e2]
    show t.num s ∈ _
    by_cases e : s = t.first
    · subst e; simp
    · have hk' : (if s = t.first then true else t.tk s) = true := hk
      rw [if_neg e] at hk'
      exact List.mem_append.2 (.inl (h s hs hk'))
  · have e1 : t.allocT = t := by unfold Tb.allocT; rw [if_neg hf]
    rw [e1] at hk ⊢
    exact List.mem_append.2 (.inl (h s hs hk))
theorem cov_same (t : Tb) (L : List Int) (he : t.allocE = 7) (h : Cov t L) : Cov t.allocT L := by
  have : ¬ t.first < 32 := fun hf => by unfold Tb.allocE at he; rw [if_pos hf] at he; cases he
  have e : t.allocT = t := by unfold Tb.allocT; rw [if_neg this]
  rw [e]; exact h
theorem cov_free (t : Tb) (p : Int) (L : List Int) (h : Cov t L) : Cov (t.freeT p) L := fun s hs hk => by
  cases hh : t.has p
  · have e1 : t.freeT p = t := by unfold Tb.freeT; simp [hh]
    rw [e1] at hk ⊢; exact h s hs hk
  · have e1 : t.freeT p = ⟨fun s => if s = Tb.at_ p then t.gen s + 1 else t.gen s, fun s => if s = Tb.at_ p then false else t.tk s, t.live - 1⟩ := by unfold Tb.freeT; simp [hh]
    rw [e1] at hk ⊢
    by_cases e : s = Tb.at_ p
    · simp [e] at hk
    · simp only [if_neg e] at hk
      unfold Tb.num
      simp only [if_neg e]
      exact h s hs hk

/-! ### the range: what the body may know -/
abbrev X64 := { x : Int // I64 x }
def vals (l : List X64) : List Int := l.map (·.1)
theorem all_stops64 (F : Fence) (n : Nat) (h6 : F.fn 25) (hro : F.round = none) (hn : 1 ≤ n) (Bx b : Nat) (t : Tb) (ok : t.Ok) (w : World) (hBx : Bx < w.heap.size)
    (hc : w.cell? ⟨Bx, 0, none⟩ = some (.pointer (some ⟨b, 0, none⟩))) (ht : IsTb w b t) :
    SeqStopsK F n Try.prog 25 #[.pointer (some ⟨Bx, 0, none⟩)] (fun x : X64 => #[Value.int .i64 x.1]) (Below 0) (fun ys => vals ys = t.pids 32) (fun pre => vals pre <+: t.pids 32) 32 w := fun l J Jx W hW hJ hJx hY h0 => by
  have hc' := (hW.cell (p := ⟨Bx, 0, none⟩) hBx).trans hc
  have ht' := row_below ht hW (World.rowIs.lt ht)
  refine (iter_in F n h6 hro hn l Bx b 0 t ok (fun p W => ∃ q : List X64, vals q = p ∧ J q W) (fun p W => ∃ q : List X64, vals q = p ∧ Jx q W) W
    (fun s A B row hs hg hr => by obtain ⟨q, e, hj⟩ := hs; exact ⟨q, e, hJ q A B row hj hg hr⟩) ?_ hc' ht' ⟨[], rfl, h0⟩).mono ?_
  · rintro pre x W1 ⟨q, rfl, hj⟩ hpre
    have hx : I64 x := by
      have hm : x ∈ t.pids 32 := hpre.subset (by simp)
      unfold Tb.pids at hm
      obtain ⟨s, hs, rfl⟩ := List.mem_map.1 hm
      have := t.num_pos ok s (List.mem_range.1 (List.mem_filter.1 hs).1)
      unfold I64; omega
    have hl : q.length < 32 := by have := hpre.length_le; have := t.pids_le 32; simp [vals] at *; omega
    refine (hY q ⟨x, hx⟩ W1 hj hl).mono ?_
    rintro e W' (⟨rfl, h1, h2⟩ | ⟨rfl, h1⟩)
    · exact .inl ⟨rfl, ⟨_, by simp [vals], h1⟩, h2⟩
    · exact .inr ⟨rfl, ⟨_, by simp [vals], h1⟩⟩
  · rintro e W' ⟨hv, (⟨ys, rfl, q, e1, hj⟩ | ⟨pre, hp, q, rfl, hj⟩)⟩
    · exact ⟨hv, .inl ⟨q, e1, hj⟩⟩
    · exact ⟨hv, .inr ⟨q, hp, hj⟩⟩

/-- the slot of the last one; -1: none -/
def lastS (l : List Int) : Int := match l.getLast? with | none => -1 | some x => Tb.at_ x
theorem lastS_snoc (l : List Int) (x : Int) : lastS (l ++ [x]) = Tb.at_ x := by simp [lastS]
theorem next_facts (t : Tb) (ok : t.Ok) (pre : List Int) (x : Int) (h : pre ++ [x] <+: t.pids 32) : t.has x = true ∧ lastS pre < (Tb.at_ x : Int) ∧ ∃ s, s < 32 ∧ t.tk s = true ∧ x = t.num s := by
  obtain ⟨suf, he⟩ := h
  unfold Tb.pids at he
  have hsort : ((List.range 32).filter t.tk).Pairwise (· < ·) := List.pairwise_lt_range.filter _
  obtain ⟨A, R, hA, hA1, hR⟩ := List.map_eq_append_iff.1 he.symm
  obtain ⟨A1, A2, rfl, hA3, hA4⟩ := List.map_eq_append_iff.1 hA1
  obtain ⟨s, A2', rfl, rfl, hn⟩ := List.map_eq_cons_iff.1 hA4
  obtain rfl : A2' = [] := by simpa using hn
  have hmem : s ∈ (List.range 32).filter t.tk := by rw [hA]; simp
  have hs := List.mem_range.1 (List.mem_filter.1 hmem).1
  have htk : t.tk s = true := (List.mem_filter.1 hmem).2
  have hat := t.at_num ok s hs
  refine ⟨?_, ?_, s, hs, htk, rfl⟩
  · unfold Tb.has; rw [hat, htk]; have := t.num_pos ok s hs; simp; omega
  · rw [hat]
    subst hA3
    unfold lastS
    cases hl : A1.getLast? with
    | none => rw [List.getLast?_map, hl]; simp; omega
    | some r =>
      rw [List.getLast?_map, hl]
      have hr : r ∈ A1 := List.mem_of_getLast? hl
      have hr2 : r ∈ (List.range 32).filter t.tk := by rw [hA]; simp [hr]
      have hr3 := List.mem_range.1 (List.mem_filter.1 hr2).1
      have : r < s := by
        rw [hA, List.append_assoc] at hsort
        exact (List.pairwise_append.1 hsort).2.2 r hr s (by simp)
      simp [t.at_num ok r hr3]
      omega

section
variable {w wr w1 : World} {Bl Br b Bt BL B1 : Nat} {lv : Int} {t t' : Tb} {v : Value} {L : List Int}
theorem row_turn {A C : World} {k : Nat} {ty : TypeId} {m : Nat} {f : Nat → Value} {row : Option Nat} (h : A.rowIs k ty m f) (g : A.grownBy C row) (hr : ∀ r, row = some r → ∃ o : Obj, A.heap[r]? = some o ∧ o.isCells = false) : C.rowIs k ty m f := by
  refine row_kept h g (fun e => ?_)
  obtain ⟨o, ho, hc⟩ := hr k e.symm
  obtain ⟨c, hb, _⟩ := h
  rw [hb] at ho; cases ho; cases hc
theorem box_turn {A C : World} {k : Nat} {ty : TypeId} {u : Value} {row : Option Nat} (h : Boxed A k ty u) (g : A.grownBy C row) (hr : ∀ r, row = some r → ∃ o : Obj, A.heap[r]? = some o ∧ o.isCells = false) : Boxed C k ty u := by
  refine h.kept g (fun e => ?_)
  obtain ⟨o, ho, hc⟩ := hr k e.symm
  have hb : A.heap[k]? = _ := h
  rw [hb] at ho; cases ho; cases hc
theorem own_turn {A C : World} {B : Nat} {u : Value} {l : List Int} {row : Option Nat} (h : Own A B u l) (g : A.grownBy C row) (hr : ∀ r, row = some r → ∃ o : Obj, A.heap[r]? = some o ∧ o.isCells = false) : Own C B u l := by
  refine own_kept h g (fun k hk e => ?_)
  obtain ⟨o, ho, hc⟩ := hr k e
  rcases h.2 with ⟨rfl, _⟩ | ⟨g', cap, cur, rfl, _, hg, _⟩
  · simp [Value.ownBlock] at hk
  · simp [Value.ownBlock] at hk; subst hk
    rw [hg] at ho; cases ho; cases hc
theorem Inv2.turn (I : Inv2 w wr Bl Br b Bt BL B1 lv t v L) {row : Option Nat} (g : wr.grownBy w1 row) (B : Nat) (hB : w.heap.size ≤ B) (hr : ∀ r, row = some r → B ≤ r ∧ ∃ o : Obj, wr.heap[r]? = some o ∧ o.isCells = false) : Inv2 w w1 Bl Br b Bt BL B1 lv t v L :=
  have hr' : ∀ r, row = some r → ∃ o : Obj, wr.heap[r]? = some o ∧ o.isCells = false := fun r e => (hr r e).2
  { I with
    ht := row_turn I.ht g hr'
    own := own_turn I.own g hr'
    bel := I.bel.trans (gb_below g I.bel.size (fun k e => Nat.le_trans hB (hr k e).1))
    sz := Nat.le_trans I.sz g.size
    cl := box_turn I.cl g hr', cr := box_turn I.cr g hr', ct := box_turn I.ct g hr', cL := box_turn I.cL g hr' }
theorem Inv2.set (I : Inv2 w wr Bl Br b Bt BL B1 lv t v L) {B : Nat} (hB : B1 ≤ B) (hne : v.ownBlock ≠ some B) (u : Value) : Inv2 w (wr.setCell ⟨B, 0, none⟩ u) Bl Br b Bt BL B1 lv t v L :=
  have h0 := I.n0; have h1 := I.n1; have h2 := I.n2; have h3 := I.n3; have h4 := I.n4; have h5 := I.n5
  have gs := gb_set wr B 0 u
  { I with
    ht := row_kept I.ht gs (by simp; omega)
    own := own_kept I.own gs (fun k hk e => by cases e; exact hne hk)
    bel := I.bel.trans (gb_below gs I.bel.size (fun k e => by cases e; omega))
    sz := Nat.le_trans I.sz gs.size
    cl := I.cl.kept gs (by simp; omega), cr := I.cr.kept gs (by simp; omega), ct := I.ct.kept gs (by simp; omega), cL := I.cL.kept gs (by simp; omega) }
end

/-- the law of a range over a function, the frame of a round laid out of the frame ahead -/
theorem rangeG {F : Fence} {n : Nat} {P : Program} {α : Type} {g : Operand} {ps : Array Tmp} {assign body : Code} {Q : Exit → Act → World → Prop} {a : Act} {w : World}
    (hro : F.round = none) (h1 : 1 ≤ n) {gf : Nat} {lb : Array Value} (hg : a.eval g = .func (.func gf) #[] lb) (hFg : F.fn gf) (eg : ∀ args w, (callFunc gf args).run P w = .ok (.enter gf args) w)
    {encs : α → Array Value} {S Sp : List α → Prop} {N : Nat} (hseq : SeqStopsK F (n - 1) P gf lb encs (Below 0) S Sp N w) (hps : ∀ x, (encs x).size = ps.size)
    (I : List α → World → Prop) (Ix : Code → List α → World → Prop) (hI : OwnFrom w.heap.size I) (hIx : ∀ c, OwnFrom w.heap.size (Ix c)) (h0 : I [] w) (s1 s2 : Nat) (val : α → Value)
    (hassign : ∀ (l : Nat) (x : α) (W : World) (K : Act → World → Prop), K { tmps := (a.tmps.setIfInBounds s1 (val x)).setIfInBounds s2 (val x), defers := [] } W →
      assign.wpIn (F.inRound l) (n - 1 - 1) P (Exit.then K (fun _ _ _ => False)) { tmps := (ps.zip (encs x)).foldl (fun t (p, v) => t.setIfInBounds p v) a.tmps, defers := [] } W)
    (hbody : ∀ (l : Nat) (pre : List α) (x : α) (W : World), I pre W → pre.length < N → body.wpIn (F.inRound l) (n - 1 - 1) P (ownPostG w.heap.size (Below 0) I Ix (pre ++ [x]) W) { tmps := (a.tmps.setIfInBounds s1 (val x)).setIfInBounds s2 (val x), defers := [] } W)
    (hdone : ∀ (D : Nat) (xs : List α) (W : World), w.heap.size ≤ D → S xs → I xs W → W.heap[D]? = some (.deferred (some [])) → Q .normal { a with defers := { target := .collected D, args := #[] } :: a.defers } W)
    (hstop : ∀ (D : Nat) (c : Code) (pre : List α) (W : World), w.heap.size ≤ D → Sp pre → Ix c pre W → W.heap[D]? = some (.deferred (some [])) → c.wpIn F n P Q { a with defers := { target := .collected D, args := #[] } :: a.defers } W) :
    (Code.rangeFunc g ps assign body).wpIn F n P Q a w :=
  wpIn_rangeFunc_ownG hro h1 hg hFg eg hseq belowK_t (belowK_b (Nat.zero_le _)) (Below.refl _ _) hps I Ix hI hIx h0 _ hassign hbody hdone hstop

/-- between two rounds -/
structure Mid (w W : World) (Br b Bt BL B1 Bn Ba : Nat) (lv : Int) (t : Tb) (v : Value) (L : List Int) (pre : List X64) : Prop where
  i : Inv2 w W w.heap.size Br b Bt BL B1 lv t v L
  nb : B1 ≤ Bn
  ab : B1 ≤ Ba
  na : Bn ≠ Ba
  no : v.ownBlock ≠ some Bn
  ao : v.ownBlock ≠ some Ba
  cells : ∃ nv la : Int, Boxed W Bn 3 (.int .i64 nv) ∧ Boxed W Ba 3 (.int .i64 la) ∧ (vals pre <+: t.pids 32 → nv = pre.length ∧ la = lastS (vals pre))
theorem Mid.alloc {w W : World} {Br b Bt BL B1 Bn Ba : Nat} {lv : Int} {t : Tb} {v : Value} {L : List Int} {pre : List X64} (M : Mid w W Br b Bt BL B1 Bn Ba lv t v L pre) (o : Obj) : Mid w (W.alloc o) Br b Bt BL B1 Bn Ba lv t v L pre := by
  obtain ⟨nv, la, h1, h2, h3⟩ := M.cells
  exact { M with i := M.i.below ((Below.refl _ _).alloc (Nat.le_refl _) _), cells := ⟨nv, la, h1.alloc _, h2.alloc _, h3⟩ }
theorem Mid.turn {w W W1 : World} {Br b Bt BL B1 Bn Ba : Nat} {lv : Int} {t : Tb} {v : Value} {L : List Int} {pre : List X64} (M : Mid w W Br b Bt BL B1 Bn Ba lv t v L pre) {row : Option Nat} (g : W.grownBy W1 row) (B : Nat) (hB : w.heap.size ≤ B) (hr : ∀ r, row = some r → B ≤ r ∧ ∃ o : Obj, W.heap[r]? = some o ∧ o.isCells = false) : Mid w W1 Br b Bt BL B1 Bn Ba lv t v L pre := by
  have hr' : ∀ r, row = some r → ∃ o : Obj, W.heap[r]? = some o ∧ o.isCells = false := fun r e => (hr r e).2
  obtain ⟨nv, la, h1, h2, h3⟩ := M.cells
  exact { M with i := M.i.turn g B hB hr, cells := ⟨nv, la, box_turn h1 g hr', box_turn h2 g hr', h3⟩ }

theorem Mid.step {w W : World} {Br b Bt BL B1 Bn : Nat} {lv : Int} {t : Tb} {v : Value} {L : List Int} {pre : List X64} (M : Mid w W Br b Bt BL B1 Bn (Bn + 1) lv t v L pre) (s n : Int) (x : X64) (h : vals (pre ++ [x]) <+: t.pids 32 → n = (pre ++ [x]).length ∧ s = lastS (vals (pre ++ [x]))) :
    Mid w ((W.setCell ⟨Bn + 1, 0, none⟩ (.int .i64 s)).setCell ⟨Bn, 0, none⟩ (.int .i64 n)) Br b Bt BL B1 Bn (Bn + 1) lv t v L (pre ++ [x]) := by
  obtain ⟨nv, la, h1, h2, h3⟩ := M.cells
  exact { M with
    i := (M.i.set M.ab M.ao _).set M.nb M.no _
    cells := ⟨n, s, Boxed.set _ (h1.kept (gb_set W (Bn + 1) 0 _) (by simp)), (Boxed.set _ h2).kept (gb_set _ Bn 0 _) (by simp), h⟩ }

theorem Mid.fin {w W : World} {Br b Bt BL B1 Bn Ba : Nat} {lv : Int} {t : Tb} {v : Value} {L : List Int} {pre : List X64} (M : Mid w W Br b Bt BL B1 Bn Ba lv t v L pre) {D : Nat} (hD : w.heap.size ≤ D) (hK : W.heap[D]? = some (.deferred (some []))) :
    (W.setCell ⟨Br, 0, none⟩ (.bool true)).drew.heap[D]? = some (.deferred (some [])) ∧ ((W.setCell ⟨Br, 0, none⟩ (.bool true)).drew.putObj D (.deferred none)).cell? ⟨Br, 0, none⟩ = some (.bool true) ∧
      Below w.heap.size w ((W.setCell ⟨Br, 0, none⟩ (.bool true)).drew.putObj D (.deferred none)) := by
  have hK' : (W.setCell ⟨Br, 0, none⟩ (.bool true)).drew.heap[D]? = some (.deferred (some [])) := (KeepsOthers.setCell W ⟨Br, 0, none⟩ (.bool true)).same D _ hK rfl
  have hc := Boxed.set (.bool true) M.i.cr
  have hc' : Boxed (W.setCell ⟨Br, 0, none⟩ (.bool true)).drew Br 4 (.bool true) := hc
  have h0 := M.i.n0
  have h1 := M.i.n1
  refine ⟨hK', (box_turn hc' (grownBy_putObj' _ D (.deferred none)) (fun r e => by cases e; exact ⟨_, hK', rfl⟩)).cell, ?_⟩
  have hb : Below w.heap.size w (W.setCell ⟨Br, 0, none⟩ (.bool true)).drew := (M.i.bel.trans (gb_below (gb_set W Br 0 _) M.i.bel.size (fun k e => by cases e; omega))).trans (gb_below (gb_drew _ none) (by have := M.i.bel.size; simp; omega) (fun k e => by cases e))
  exact hb.trans (belowK_b (w := w) (Nat.le_refl _) _ D _ _ hD hK' rfl rfl)

set_option maxRecDepth 100000 in
set_option maxHeartbeats 4000000 in
theorem give_in (a : Option Addr) (len cap : Nat) (al kn : Nat → Bool) (pid : Nat → Int) (lv : Int) (w : World) (hr : Ops w a len al kn pid) (hlen : len * 16 ≤ 140737488351232) :
    CallsIn Fence.wide 9 Try.prog 6 #[.slice a len cap, .int .i64 lv] w fun e w' => e = .returned (.bool true) ∧ Below w.heap.size w w' := by
  obtain ⟨i0, hi, hz0, hz1, hz2⟩ := info2'
  refine callsIn_of_wp_marks Try.func6 rfl trivial ?_ rfl
  simp only [Try.ntmps6, List.size_toArray, List.length_cons, List.length_nil, Nat.reduceAdd, Nat.reduceSub, Array.replicate_succ, Array.replicate_zero, List.push_toArray, List.append_toArray, List.nil_append, List.cons_append]
  have b1 := (Boxed.new w 3 (.int .i64 lv)).alloc (.cells #[.bool false] 4)
  have b2 := Boxed.new (w.alloc (.cells #[.int .i64 lv] 3)) 4 (.bool false)
  rw [World.size_alloc] at b2
  have hB0 : Below w.heap.size w ((w.alloc (.cells #[.int .i64 lv] 3)).alloc (.cells #[.bool false] 4)) := ((Below.refl _ w).alloc (Nat.le_refl _) _).alloc (by simp) _
  gi_wp2_with fail
  refine ⟨trivial, ?_⟩
  refine (callsIn_wide.2 (lives_any _)).mono ?_
  rintro e w1 ⟨rfl, g1⟩
  have s1 : w.heap.size + 1 + 1 ≤ w1.heap.size := by have := g1.size; simpa using this
  have c1 := b1.kept g1 (by simp)
  have c2 := b2.kept g1 (by simp)
  have hB1 := hB0.trans (gb_below g1 hB0.size (fun k h => by cases h))
  clear b1 b2 hB0 g1
  gi_wp2_with fail
  refine ⟨trivial, ?_⟩
  refine (callsIn_wide.2 (new_any _)).mono ?_
  rintro e w2 ⟨rfl, h2, g2⟩
  have c1' := c1.kept g2 (by simp)
  have c2' := c2.kept g2 (by simp)
  have hB2 := hB1.trans (gb_below g2 hB1.size (fun k h => by cases h))
  have s2 := World.rowIs.lt h2
  clear c1 c2 hB1 g2
  generalize w1.heap.size = b at h2 s1 s2 ⊢
  gi_wp2_with fail
  have I0 : Inv2 w ((w2.alloc (.cells #[.pointer (some ⟨b, 0, none⟩)] 24)).alloc (.cells #[.slice none 0 0] 39)) w.heap.size (w.heap.size + 1) b w2.heap.size (w2.heap.size + 1) (w2.heap.size + 1 + 1) lv Tb.new (.slice none 0 0) [] := by
    have bt := (Boxed.new w2 24 (.pointer (some ⟨b, 0, none⟩))).alloc (.cells #[.slice none 0 0] 39)
    have bL := Boxed.new (w2.alloc (.cells #[.pointer (some ⟨b, 0, none⟩)] 24)) 39 (.slice none 0 0)
    rw [World.size_alloc] at bL
    exact { ok := new_ok, ht := World.rowIs.alloc (World.rowIs.alloc h2 _) _, own := World.ownsRow_nil _ _ _ _, el := fun x hx => (by cases hx)
            bel := (hB2.alloc hB2.size _).alloc (by have := hB2.size; simp; omega) _, sz := by simp, n0 := Nat.le_refl _, n1 := by omega, n2 := by omega, n3 := by omega, n4 := by omega, n5 := by omega
            cl := (c1'.alloc _).alloc _, cr := (c2'.alloc _).alloc _, ct := bt, cL := bL }
  have hBl : ∃ Bl, w.heap.size = Bl := ⟨_, rfl⟩
  generalize (w2.alloc (.cells #[.pointer (some ⟨b, 0, none⟩)] 24)).alloc (.cells #[.slice none 0 0] 39) = w3 at I0 ⊢
  generalize w2.heap.size + 1 + 1 = B1 at I0
  generalize w2.heap.size + 1 = BL at I0 ⊢
  generalize w2.heap.size = Bt at I0 ⊢
  generalize w.heap.size + 1 = Br at I0 ⊢
  clear c1' c2' hB2 h2 s1 s2 hBl
  gi_loopw [7] (fun k wr => ∃ (n : Nat) (t : Tb) (v : Value) (L : List Int), n ≤ len ∧ k = .int .i64 n ∧ L.length ≤ n ∧ Cov t L ∧ Inv2 w wr w.heap.size Br b Bt BL B1 lv t v L) (fun k wr => len - (intOf k).toNat)
  case atStart => exact ⟨0, _, _, [], by omega, rfl, by simp, fun s hs h => (by cases h), I0⟩
  case round =>
    clear I0
    obtain ⟨n, t, v, L, hn, rfl, hL, hcov, I⟩ := hrel
    have ct := I.ct.cell
    have cL := I.cL.cell
    have fL := I.cL.frozen
    by_cases hlt : n < len
    · obtain ⟨sb, so, rfl, hsb, k0, k1, k2, hpid⟩ := hr n hlt
      have c0 := (I.bel.cell (p := ⟨sb, so + n * 3, none⟩) hsb).trans k0
      have c1 := (I.bel.cell (p := ⟨sb, so + n * 3 + 1, none⟩) hsb).trans k1
      have c2 := (I.bel.cell (p := ⟨sb, so + n * 3 + 2, none⟩) hsb).trans k2
      clear k0 k1 k2
      have HP := Lib.hid hpid
      have HR := Lib.hid hr
      clear hpid hr
      cases hal : al n
      · rw [hal] at c0
        clear hal
        obtain ⟨va, vc, hv⟩ := own_slice I.own
        subst hv
        have HI := Lib.hid I
        have HC := Lib.hid hcov
        have HW := Lib.hid (which_step I (al := false) (kn := kn n) HP.out hlt hL hlen)
        have hfol : Try.prog.follows .mixedOrders = true := by kernel_rfl
        clear I hcov
        gi_wp2_with fail
        refine wpIn_only ?_
        gi_region_with_o (first | (refine ⟨trivial, ?_⟩; gi_at_call 15; refine (callsIn_wide.2 HW.out).mono ?_; rintro e w4 ⟨p, rfl, hp2, I4⟩; have ct4 := I4.ct.cell; have I5 := I4) | (refine ⟨trivial, ?_⟩; gi_at_call 10; refine (callsIn_wide.2 (free_step I5 hp2)).mono ?_; rintro e w6 ⟨rfl, I6⟩))
        all_goals (simp only [OnlyN]; gi_wp2)
        all_goals exact ⟨⟨n + 1, _, _, _, by omega, by go_num, by omega, cov_free t p L HC.out, I6⟩, by simp [intOf]; omega⟩
      · rw [hal] at c0
        clear hal
        obtain ⟨ve, vi⟩ := alloc_vals t I.ok
        have HV := Lib.hid vi
        clear vi
        gi_wp2_with fail
        refine ⟨trivial, ?_⟩
        refine (callsIn_wide.2 (alloc_any b t _ I.ht I.ok)).mono ?_
        rintro e w4 ⟨rfl, h4, g4⟩
        have I4 := I.tab h4 g4 (alloc_ok t I.ok)
        clear I h4 g4 ct cL fL c0 c1 c2
        have ct := I4.ct.cell
        have cL := I4.cL.cell
        have fL := I4.cL.frozen
        rcases ve with ve | ve
        · have ho : w4.ownsRow B1 2 1 v L.length (L.map (Value.int .i64)) := I4.own
          have hsz := I4.sz
          have hb16 : (L.length + 1) * 8 ≤ 140737488355328 := by omega
          have HI := Lib.hid I4
          have HC := Lib.hid (cov_alloc t L hcov)
          clear I4 hcov
          gi_wp2_with (gi_at_builtin; refine wpListIn_append_own _ rfl _ _ 39 rfl B1 2 i0 (.int .i64 0) 1 8 Try.underlying39 hi hz0 hz1 hz2 rfl (by decide) _ _ _ rfl (ho.alloc _) ⟨w4.heap.size, 0, none⟩ 1 1 [.int .i64 t.allocV] rfl rfl (cell_one_new _ _ _) (by simp [Value.oneCell']) (by unfold maxLen; omega) hb16 (by simp; omega) ?_; intro v8 w8 ho8 g8 _; have I8 := Inv2.app HI.out ho8 g8 HV.out; obtain ⟨g', cap', rfl⟩ := ownsRow_succ ho8; have cL8 := app_cell HI.out ho8 g8; have fL8 := app_frozen HI.out ho8 g8)
          exact ⟨⟨n + 1, _, _, _, by omega, by go_num, by simp; omega, HC.out, I8⟩, by simp [intOf]; omega⟩
        · have HC := Lib.hid (cov_same t L ve hcov)
          gi_wp2
          exact ⟨⟨n + 1, _, _, _, by omega, by go_num, by omega, HC.out, I4⟩, by simp [intOf]; omega⟩
    · obtain rfl : n = len := by omega
      clear hr
      obtain ⟨va, vc, hv⟩ := own_slice I.own
      subst hv
      have ct2 := ((I.ct.alloc (.cells #[.int .i64 0] 3)).alloc (.cells #[.int .i64 (-1)] 3)).cell
      have bn := (Boxed.new wr 3 (.int .i64 0)).alloc (.cells #[.int .i64 (-1)] 3)
      have ba := Boxed.new (wr.alloc (.cells #[.int .i64 0] 3)) 3 (.int .i64 (-1))
      rw [World.size_alloc] at ba
      have hbb : Below wr.heap.size wr ((wr.alloc (.cells #[.int .i64 0] 3)).alloc (.cells #[.int .i64 (-1)] 3)) := ((Below.refl _ _).alloc (Nat.le_refl _) _).alloc (by simp) _
      have I2 := I.below hbb
      have hsz2 : ((wr.alloc (.cells #[.int .i64 0] 3)).alloc (.cells #[.int .i64 (-1)] 3)).heap.size = wr.heap.size + 1 + 1 := by simp
      have hlt : ∀ k, (Value.slice va L.length vc).ownBlock = some k → k < wr.heap.size := fun k e => (World.ownsRow.lt I.own k e).2
      have M : Mid w ((wr.alloc (.cells #[.int .i64 0] 3)).alloc (.cells #[.int .i64 (-1)] 3)) Br b Bt BL B1 wr.heap.size (wr.heap.size + 1) lv t (.slice va L.length vc) L [] :=
        ⟨I2, I.sz, by have := I.sz; omega, by omega, fun e => by have := hlt _ e; omega, fun e => by have := hlt _ e; omega, 0, -1, bn, ba, fun _ => ⟨rfl, rfl⟩⟩
      gi_wp2_with fail
      refine ⟨trivial, ?_⟩
      refine (all_in Fence.wide _ trivial rfl _ _).mono ?_
      rintro e w' ⟨rfl, rfl⟩
      gi_wp2_with fail
      have M2 : Mid w (((wr.alloc (.cells #[.int .i64 0] 3)).alloc (.cells #[.int .i64 (-1)] 3)).alloc (.cells #[.pointer (some ⟨b, 0, none⟩)] 24)) Br b Bt BL B1 wr.heap.size (wr.heap.size + 1) lv t (.slice va L.length vc) L [] := M.alloc _
      have bx := (Boxed.new ((wr.alloc (.cells #[.int .i64 0] 3)).alloc (.cells #[.int .i64 (-1)] 3)) 24 (.pointer (some ⟨b, 0, none⟩))).cell
      rw [hsz2] at bx
      have szx : ((((wr.alloc (.cells #[.int .i64 0] 3)).alloc (.cells #[.int .i64 (-1)] 3)).alloc (.cells #[.pointer (some ⟨b, 0, none⟩)] 24))).heap.size = wr.heap.size + 3 := by simp
      have hLL : L.length ≤ 9223372036854775807 := by omega
      clear M I2 hbb ba bn ct2 ct cL fL hsz2 hlt
      have nI := I.bel.size
      clear I
      generalize ((wr.alloc (.cells #[.int .i64 0] 3)).alloc (.cells #[.int .i64 (-1)] 3)).alloc (.cells #[.pointer (some ⟨b, 0, none⟩)] 24) = wx at M2 bx szx ⊢
      generalize wr.heap.size = Bn at M2 bx szx nI ⊢
      refine rangeG (F := Fence.wide) rfl (by omega) (gf := 25) (lb := #[.pointer (some ⟨Bn + 1 + 1, 0, none⟩)]) (by simp [Act.eval]) trivial (enters_of Try.func25 (by kernel_rfl) rfl)
        (all_stops64 Fence.wide _ trivial rfl (by omega) (Bn + 1 + 1) b t M2.i.ok wx (by omega) bx M2.i.ht) (fun _ => rfl)
        (fun pre W => Mid w W Br b Bt BL B1 Bn (Bn + 1) lv t (.slice va L.length vc) L pre)
        (fun c pre W => vals pre <+: t.pids 32 → c = .exit 2 ∧ Mid w W Br b Bt BL B1 Bn (Bn + 1) lv t (.slice va L.length vc) L pre ∧ (pre.length : Int) = lv)
        (fun s A C row hs hg hr => hs.turn hg _ (by omega) hr)
        (fun c s A C row hs hg hr hp => by obtain ⟨e1, e2, e3⟩ := hs hp; exact ⟨e1, e2.turn hg _ (by omega) hr, e3⟩)
        M2 50 12 (fun x => .int .i64 x.1) ?assign ?body ?done ?stop
      case assign =>
        intro l x W K hK
        gi_wp2
        exact hK
      case body =>
        rintro l pre x W M hlt
        simp only [List.setIfInBounds_toArray, List.set_cons_succ, List.set_cons_zero]
        clear bx szx M2
        have ht := M.i.ht
        have ok := M.i.ok
        have ho := M.i.own
        have ct := M.i.ct.cell
        have cL := M.i.cL.cell
        have cl := M.i.cl.cell
        have cr := M.i.cr.cell
        have fr := M.i.cr.frozen
        obtain ⟨nv, la, bn, ba, hva⟩ := M.cells
        have cn := bn.cell
        have fn := bn.frozen
        have ca := ba.cell
        have fa := ba.frozen
        have q0 : ¬ w.heap.size = Bn := by have := M.i.n0; have := M.i.n1; have := M.i.n2; have := M.i.n3; have := M.i.n4; have := M.i.n5; have := M.nb; omega
        have q1 : ¬ w.heap.size = Bn + 1 := by have := M.i.n0; have := M.i.n1; have := M.i.n2; have := M.i.n3; have := M.i.n4; have := M.i.n5; have := M.nb; omega
        have q2 : ¬ Bn = w.heap.size := fun e => q0 e.symm
        have q3 : ¬ Bn + 1 = w.heap.size := fun e => q1 e.symm
        have hx := x.2
        have HM := Lib.hid M
        by_cases hgood : vals (pre ++ [x]) <+: t.pids 32
        · have hp : vals pre <+: t.pids 32 := List.IsPrefix.trans (by simp [vals]) hgood
          obtain ⟨h1, h2, s, hs, htk, hxs⟩ := next_facts t ok (vals pre) x.1 (by simpa [vals] using hgood)
          obtain ⟨rfl, rfl⟩ := hva hp
          have h3 : x.1 ∈ L := by rw [hxs]; exact hcov s hs htk
          have e1 : t.slotV x.1 = Tb.at_ x.1 := by unfold Tb.slotV; simp [h1]
          have hle : decide ((Tb.at_ x.1 : Int) ≤ lastS (vals pre)) = false := by simp; omega
          have HS := slot_any b t x.1 W ht ok hx.2
          have HV := live_any b t x.1 W ht ok hx.2
          have HA := has_any L va vc B1 x.1 W ho hLL
          rw [h1, e1] at HS
          rw [h1] at HV
          rw [decide_eq_true h3] at HA
          have HS := Lib.hid HS
          have HV := Lib.hid HV
          have HA := Lib.hid HA
          have hwr : IntKind.i64.wrap ((pre.length : Int) + 1) = (pre.length : Int) + 1 := IntWalk.i64_in _ (by omega)
          have HL : Hid ((Tb.at_ x.1 : Int) = lastS (vals (pre ++ [x]))) := Lib.hid (by rw [vals, List.map_append]; exact (lastS_snoc _ _).symm)
          have HG := Lib.hid hgood
          clear hgood hp h1 h2 hs htk hxs h3 e1 ht ok ho hva M hx hcov
          generalize (Tb.at_ x.1 : Int) = si at *
          have HLa : ∃ la, la = lastS (vals pre) := ⟨_, rfl⟩
          generalize lastS (vals pre) = la at *
          gi_wp2_with (first | (refine ⟨trivial, ?_⟩; gi_at_call 11; refine (CallsIn.inRound l (callsIn_wide.2 HS.out)).mono ?_; rintro e w' ⟨rfl, rfl⟩) | (refine ⟨trivial, ?_⟩; gi_at_call 18; refine (CallsIn.inRound l (callsIn_wide.2 HV.out)).mono ?_; rintro e w' ⟨rfl, rfl⟩) | (refine ⟨trivial, ?_⟩; gi_at_call 23; refine (CallsIn.inRound l (callsIn_wide.2 HA.out)).mono ?_; rintro e w' ⟨rfl, rfl⟩))
          · rename_i hlv
            have hlv := eq_of_beq hlv
            refine ⟨((KeepsOthers.setCell _ _ _).trans (KeepsOthers.setCell _ _ _)).from _, fun _ => ⟨rfl, HM.out.step si (pre.length + 1) x (fun _ => ⟨by simp, HL.out⟩), by simp; omega⟩⟩
          · exact ⟨((KeepsOthers.setCell _ _ _).trans (KeepsOthers.setCell _ _ _)).from _, ((Below.refl _ _).setCell (Nat.zero_le _) _).setCell (Nat.zero_le _) _, HM.out.step si (pre.length + 1) x (fun _ => ⟨by simp, HL.out⟩)⟩
        · have HS := slot_any b t x.1 W ht ok hx.2
          have HV := live_any b t x.1 W ht ok hx.2
          have HA := has_any L va vc B1 x.1 W ho hLL
          have HG := Lib.hid hgood
          clear hgood ht ok ho hva M hx hcov
          generalize t.has x.1 = qh at HS HV
          generalize t.slotV x.1 = sv at HS
          generalize decide (x.1 ∈ L) = qm at HA
          have HS := Lib.hid HS
          have HV := Lib.hid HV
          have HA := Lib.hid HA
          obtain ⟨ql, hle⟩ : ∃ ql, decide (sv ≤ la) = ql := ⟨_, rfl⟩
          cases qh <;> cases ql <;> cases qm
          all_goals gi_wp2_with (first | (refine ⟨trivial, ?_⟩; gi_at_call 11; refine (CallsIn.inRound l (callsIn_wide.2 HS.out)).mono ?_; rintro e w' ⟨rfl, rfl⟩) | (refine ⟨trivial, ?_⟩; gi_at_call 18; refine (CallsIn.inRound l (callsIn_wide.2 HV.out)).mono ?_; rintro e w' ⟨rfl, rfl⟩) | (refine ⟨trivial, ?_⟩; gi_at_call 23; refine (CallsIn.inRound l (callsIn_wide.2 HA.out)).mono ?_; rintro e w' ⟨rfl, rfl⟩) | refine ⟨trivial, ?_⟩)
          all_goals first
            | exact ⟨(KeepsOthers.setCell _ _ _).from _, fun h => absurd h HG.out⟩
            | exact ⟨((KeepsOthers.setCell _ _ _).trans (KeepsOthers.setCell _ _ _)).from _, fun h => absurd h HG.out⟩
            | exact ⟨((KeepsOthers.setCell _ _ _).trans (KeepsOthers.setCell _ _ _)).from _, ((Below.refl _ _).setCell (Nat.zero_le _) _).setCell (Nat.zero_le _) _, HM.out.step _ _ x (fun h => absurd h HG.out)⟩
      case done =>
        rintro D ys W hD hS M hK
        have hn : (ys.length : Int) = t.live := by rw [← pids_len t M.i.ok, ← hS]; simp [vals]
        obtain ⟨nv, la, bn, ba, hva⟩ := M.cells
        obtain ⟨rfl, _⟩ := hva (by rw [hS]; exact List.prefix_refl _)
        have cn := bn.cell
        have ct := M.i.ct.cell
        have cl := M.i.cl.cell
        have cr := M.i.cr.cell
        have fr := M.i.cr.frozen
        have HS := Lib.hid (len_any b t W.drew M.i.ht)
        rw [hn] at cn
        have hfol : Try.prog.follows .mixedOrders = true := by kernel_rfl
        gi_wp2_with fail
        refine wpIn_only ?_
        gi_region_with_o (refine ⟨trivial, ?_⟩; gi_at_call 12; refine (callsIn_wide.2 HS.out).mono ?_; rintro e w6 ⟨rfl, rfl⟩)
        all_goals (simp only [OnlyN]; gi_wp2)
        all_goals (obtain ⟨f1, f2, f3⟩ := M.fin (by omega) hK; exact ⟨by simp, .inl ⟨_, _, rfl, run_takeDeferred f1, .bool true, by simp [results, Try.f6, go_sem, f2], rfl, f3⟩⟩)
      case stop =>
        rintro D c pre W hD hpre hx hK
        obtain ⟨rfl, M, hlv⟩ := hx hpre
        obtain ⟨nv, la, bn, ba, hva⟩ := M.cells
        obtain ⟨rfl, _⟩ := hva hpre
        have cn := bn.cell
        have ct := M.i.ct.cell
        have cl := M.i.cl.cell
        have cr := M.i.cr.cell
        have fr := M.i.cr.frozen
        have HS := Lib.hid (len_any b t W.drew M.i.ht)
        rw [hlv] at cn
        have hfol : Try.prog.follows .mixedOrders = true := by kernel_rfl
        obtain ⟨q, hq⟩ : ∃ q, (lv == t.live) = q := ⟨_, rfl⟩
        cases q
        all_goals gi_wp2_with fail
        all_goals refine wpIn_only ?_
        all_goals gi_region_with_o (refine ⟨trivial, ?_⟩; gi_at_call 12; refine (callsIn_wide.2 HS.out).mono ?_; rintro e w6 ⟨rfl, rfl⟩)
        all_goals (simp only [OnlyN]; gi_wp2)
        all_goals (obtain ⟨f1, f2, f3⟩ := M.fin (by omega) hK; exact ⟨by simp, .inl ⟨_, _, rfl, run_takeDeferred f1, .bool true, by simp [results, Try.f6, go_sem, f2], rfl, f3⟩⟩)
theorem give_any (a : Option Addr) (len cap : Nat) (al kn : Nat → Bool) (pid : Nat → Int) (lv : Int) (w : World) (hr : Ops w a len al kn pid) (hlen : len * 16 ≤ 140737488351232) :
    Calls Try.prog 6 #[.slice a len cap, .int .i64 lv] w fun e w' => e = .returned (.bool true) ∧ Below w.heap.size w w' :=
  callsIn_wide.1 (give_in a len cap al kn pid lv w hr hlen)
end Go.Proofs.Ytijhgegdcpmppaa
