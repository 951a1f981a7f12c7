/- DequeLinear: the plain part; the owner's goes. -/
import Derived.Test.YtldobbdaokjgaaaP17
import Derived.Deep.RegionLaw
namespace Go.Proofs.Ytldobbdaokjgaaa
open Go.RowKit
set_option linter.unusedVariables false
set_option linter.unusedSimpArgs false
inductive Lb (q q' : Q) (L L' : List Int) (tk tk' : Option Int) (P : Bool) (M : Nat) (d : D) : Prop
  | quiet (hd : d = {}) (hl : L' = L) (ht : tk' = tk) (hp : P = false ∨ (P = true ∧ M ≠ 2 ∧ M ≠ 4) ∨ (P = true ∧ M = 4 ∧ q'.top = q.top))
  | push (v : Int) (hd : d = { over := true, op := 0, v := v, err := 0 }) (hp : P = false) (hl : L' = L ++ [v])
  | full (v : Int) (hd : d = { over := true, op := 0, v := v, err := 7 }) (hp : P = false) (hl : L' = L) (hn : L.length = q.n)
  | take (y : Int) (hd : d = {}) (hp : P = true) (hm : M = 2) (hl : L = L' ++ [y]) (ht : tk' = some y) (hb : (L.length : Int) = q'.bot - q.top + 1) (h0 : 0 < q'.bot - q.top)
  | nota (hd : d = {}) (hp : P = true) (hm : M = 2) (hl : L' = L) (ht : tk' = tk) (hb : (L.length : Int) = q'.bot - q.top + 1) (h0 : ¬ 0 < q'.bot - q.top)
  | win (y : Int) (hd : d = {}) (hp : P = true) (hm : M = 4) (hl : L = [y]) (hl' : L' = []) (ht : tk' = some y) (hb : q'.top ≠ q.top)
  | pop (y : Int) (hd : d = { over := true, op := 1, v := y, err := 0 }) (hp : P = true) (hm : M ≠ 2 ∧ M ≠ 4) (ht : tk = some y) (hl : L' = L)
  | emp (hd : d = { over := true, op := 1, v := 0, err := 8 }) (hp : P = true) (hm : M ≠ 2 ∧ M ≠ 4) (hl : L = []) (hl' : L' = L) (ht : tk = none)
/-- the owner's operation under way -/
def Opn (x : Nx) (P : Bool) (M : Nat) : Prop := mkd x M ∧ ((P = false ∧ pushing x = true) ∨ (P = true ∧ popping x = true))
theorem mkd_ne {x : Nx} {M : Nat} (h : mkd x M) (hp : popping x = true) (h2 : x ≠ .a42) (h8 : x ≠ .a48) : M ≠ 2 ∧ M ≠ 4 := by
  cases x <;> first | (cases hp; done) | exact absurd rfl h2 | exact absurd rfl h8 | (simp only [mkd] at h; omega)
theorem opn_m {x : Nx} {P : Bool} {M : Nat} (h : Opn x P M) : M ≤ 5 := by
  obtain ⟨h1, h2 | h2⟩ := h
  · have := h2.2; cases x <;> first | (cases this; done) | (simp only [mkd] at h1; omega)
  · have := h2.2; cases x <;> first | (cases this; done) | (simp only [mkd] at h1; omega)
theorem lin_step {q : Q} {L : List Int} {tk : Option Int} {P : Bool} {M : Nat} (I : Iv q L tk) (hx : (q.th 0).nx ≠ .no) (ho : Opn (q.th 0).nx P M) (hb : q.top + L.length ≤ 100000000000000000) :
    ∃ L' tk', Iv (stp q 0) L' tk' ∧ (stp q 0).top + L'.length ≤ q.top + L.length + 1 ∧ Lb q (stp q 0) L L' tk tk' P M (stepA q 0).d ∧ (((stp q 0).th 0).nx = .no ∨ Opn ((stp q 0).th 0).nx P (M + 1)) ∧ ((stepA q 0).d.over = true → ((stp q 0).th 0).nx = .no) := by
  obtain ⟨L', tk', I', ev, mo⟩ := own_step I hx hb
  have F := nxt_step q 0 hx
  have hr := ev_reach I.t0 hb ev
  refine ⟨L', tk', I', hr, ?_, ?_, fun h => F.over.1 h⟩
  · by_cases h2 : (q.th 0).nx = .a42
    · obtain ⟨p1, p2, p3, p4, p5, p6⟩ := mo.a42 h2
      have hP : P = true := by
        rcases ho.2 with h | h
        · rw [h2] at h; cases h.2
        · exact h.1
      have hM : M = 2 := by have := ho.1; rw [h2] at this; exact this
      by_cases h0 : 0 < q.bot - q.top
      · obtain ⟨y, e1, e2⟩ := p5 h0
        exact .take y p3 hP hM e1 e2 (by rw [p2]; exact p4) (by rw [p2]; exact h0)
      · obtain ⟨e1, e2⟩ := p6 h0
        exact .nota p3 hP hM e1 e2 (by rw [p2]; exact p4) (by rw [p2]; exact h0)
    · by_cases h8 : (q.th 0).nx = .a48
      · obtain ⟨p1, p2, p3⟩ := mo.a48 h8
        have hP : P = true := by
          rcases ho.2 with h | h
          · rw [h8] at h; cases h.2
          · exact h.1
        have hM : M = 4 := by have := ho.1; rw [h8] at this; exact this
        by_cases ht : (stp q 0).top = q.top
        · obtain ⟨e1, e2⟩ := p3 ht
          exact .quiet p1 e1 e2 (.inr (.inr ⟨hP, hM, ht⟩))
        · obtain ⟨y, e1, e2, e3⟩ := p2 ht
          exact .win y p1 hP hM e1 e2 e3 ht
      · by_cases hov : (stepA q 0).d.over = true
        · rcases ho.2 with ⟨hP, hp⟩ | ⟨hP, hp⟩
          · have hop := (F.op hov).1 hp
            generalize pvOf (stp q 0) = pv' at ev
            generalize pvOf q = pv at ev
            generalize (stepA q 0).d = d at *
            cases ev with
            | quiet => cases hov
            | took => cases hov
            | pushed _ v => exact .push v rfl hP rfl
            | full _ v h => exact .full v rfl hP rfl h
            | popped => cases hop
            | empty => cases hop
            | stolen => cases hop
            | none2 => cases hop
          · have hop := (F.op hov).2.1 hp
            have hne := mkd_ne ho.1 hp h2 h8
            generalize pvOf (stp q 0) = pv' at ev
            generalize pvOf q = pv at ev
            generalize (stepA q 0).d = d at *
            cases ev with
            | quiet => cases hov
            | took => cases hov
            | pushed => cases hop
            | full => cases hop
            | popped _ y => exact .pop y rfl hP hne rfl rfl
            | empty => exact .emp rfl hP hne rfl rfl rfl
            | stolen => cases hop
            | none2 => cases hop
        · have hov : (stepA q 0).d.over = false := by simpa using hov
          obtain ⟨e1, e2⟩ := mo.oth h2 h8 hov
          refine .quiet (F.quiet hov) e1 e2 ?_
          rcases ho.2 with ⟨hP, hp⟩ | ⟨hP, hp⟩
          · exact .inl hP
          · exact .inr (.inl ⟨hP, mkd_ne ho.1 hp h2 h8⟩)
  · by_cases hov : (stepA q 0).d.over = true
    · exact .inl (F.over.1 hov)
    · have hov : (stepA q 0).d.over = false := by simpa using hov
      have hps := F.ps hov
      refine .inr ⟨F.mkh hov M ho.1, ?_⟩
      rw [hps.1, hps.2]; exact ho.2
def owf (P : Bool) (M : Int) (tv : Value) (i : Nat) : Value := if i = 0 then .bool P else if i = 1 then .int .i64 M else tv
/-- the deque, the list, the owner's account -/
structure Gw (w W : World) (b p : Nat) (q : Q) (B : Nat) (P : Bool) (M : Int) (tv : Value) (T : List Int) (lv : Value) (L : List Int) : Prop where
  ds : Ds w W b p q
  bo : W.rowIs B 58 3 (owf P M tv)
  ls : Ls W lv L
  lt : Ls W tv T
  nb : b ≠ B ∧ p ≠ B ∧ w.heap.size ≤ B
  ns : ∀ g, blk lv = some g → g ≠ b ∧ g ≠ p ∧ g ≠ B ∧ w.heap.size ≤ g
  nt : ∀ g, blk tv = some g → g ≠ b ∧ g ≠ p ∧ g ≠ B ∧ w.heap.size ≤ g
section
variable {w W W' : World} {b p : Nat} {q q' : Q} {B : Nat} {P P' : Bool} {M M' : Int} {tv tv' : Value} {T T' : List Int} {lv lv' : Value} {L L' : List Int}
theorem Gw.fr (h : Gw w W b p q B P M tv T lv L) (i : Ds w W' b p q') (g : Fr W W' (S2 b p)) : Gw w W' b p q' B P M tv T lv L :=
  ⟨i, row_fr h.bo g (by unfold S2; have := h.nb; omega), h.ls.of (fun k e hk => g.block k hk (by unfold S2; have := h.ns k e; omega)), h.lt.of (fun k e hk => g.block k hk (by unfold S2; have := h.nt k e; omega)), h.nb, h.ns, h.nt⟩
theorem Gw.below (h : Gw w W b p q B P M tv T lv L) (g : Below W.heap.size W W') : Gw w W' b p q B P M tv T lv L :=
  ⟨h.ds.below g, row_below h.bo g h.bo.lt, h.ls.below g, h.lt.below g, h.nb, h.ns, h.nt⟩
theorem Gw.alloc (h : Gw w W b p q B P M tv T lv L) (o : Obj) : Gw w (W.alloc o) b p q B P M tv T lv L := h.below ((Below.refl W.heap.size W).alloc (Nat.le_refl _) o)
theorem Gw.drewN (h : Gw w W b p q B P M tv T lv L) (n : Nat) : Gw w (W.drewN n) b p q B P M tv T lv L :=
  ⟨h.ds.drew n, row_drewN h.bo n, h.ls.of (fun _ _ _ => rfl), h.lt.of (fun _ _ _ => rfl), h.nb, h.ns, h.nt⟩
theorem ls_setB {W : World} {B o : Nat} {v u : Value} {l : List Int} (h : Ls W v l) (hn : ∀ g, blk v = some g → g ≠ B) : Ls (W.setCell ⟨B, o, none⟩ u) v l :=
  h.of (fun g hg _ => Below.heap_setCell _ _ _ _ (hn g hg))
theorem Gw.setM (h : Gw w W b p q B P M tv T lv L) (x : Int) : Gw w (W.setCell ⟨B, 1, none⟩ (.int .i64 x)) b p q B P x tv T lv L :=
  ⟨h.ds.far B 1 _ h.nb.1 h.nb.2.1 h.nb.2.2, (h.bo.set 1 _).congr (fun i hi => by match i, hi with | 0, _ => rfl | 1, _ => rfl | 2, _ => rfl), ls_setB h.ls (fun g e => (h.ns g e).2.2.1), ls_setB h.lt (fun g e => (h.nt g e).2.2.1), h.nb, h.ns, h.nt⟩
theorem Gw.setT (h : Gw w W b p q B P M tv T lv L) (tv' : Value) (T' : List Int) (hl : Ls W tv' T') (hn : ∀ g, blk tv' = some g → g ≠ b ∧ g ≠ p ∧ g ≠ B ∧ w.heap.size ≤ g) : Gw w (W.setCell ⟨B, 2, none⟩ tv') b p q B P M tv' T' lv L :=
  ⟨h.ds.far B 2 _ h.nb.1 h.nb.2.1 h.nb.2.2, (h.bo.set 2 _).congr (fun i hi => by match i, hi with | 0, _ => rfl | 1, _ => rfl | 2, _ => rfl), ls_setB h.ls (fun g e => (h.ns g e).2.2.1), ls_setB hl (fun g e => (hn g e).2.2.1), h.nb, h.ns, hn⟩
theorem Gw.setL (h : Gw w W b p q B P M tv T lv L) (lv' : Value) (L' : List Int) (hl : Ls W lv' L') (hn : ∀ g, blk lv' = some g → g ≠ b ∧ g ≠ p ∧ g ≠ B ∧ w.heap.size ≤ g) : Gw w W b p q B P M tv T lv' L' :=
  ⟨h.ds, h.bo, hl, h.lt, h.nb, hn, h.nt⟩
theorem Gw.o0 (h : Gw w W b p q B P M tv T lv L) : W.cell? ⟨B, 0, none⟩ = some (.bool P) := row_val h.bo (by omega) rfl
theorem Gw.o1 (h : Gw w W b p q B P M tv T lv L) : W.cell? ⟨B, 1, none⟩ = some (.int .i64 M) := row_val h.bo (by omega) rfl
theorem Gw.o2 (h : Gw w W b p q B P M tv T lv L) : W.cell? ⟨B, 2, none⟩ = some tv := row_val h.bo (by omega) rfl
theorem Gw.fz (h : Gw w W b p q B P M tv T lv L) (i : Nat) : W.frozen? ⟨B, i, none⟩ = false := World.rowIs.frozen h.bo i
end
/-- the last of a list, as a list -/
theorem ls_last {w : World} {g off cap : Nat} {L : List Int} {y : Int} (h : Ls w (.slice (some ⟨g, off, none⟩) (L ++ [y]).length cap) (L ++ [y])) : L.length + 1 ≤ cap ∧ Ls w (.slice (some ⟨g, off + L.length, none⟩) 1 (cap - L.length)) [y] := by
  rcases h with ⟨_, h0⟩ | ⟨g', off', cap', cur, e, hc, hn, ho, hi⟩
  · simp at h0
  · cases e
    have hn' : L.length + 1 ≤ cap := by simpa using hn
    refine ⟨hn', .inr ⟨g, off + L.length, cap - L.length, cur, rfl, hc, by simp; omega, by omega, fun i hi' => ?_⟩⟩
    have hi' : i < 1 := hi'
    have := hi L.length (by simp)
    rw [show off + L.length + i = off + L.length by omega, this, show i = 0 by omega]
    simp [List.getD]
theorem thf_cases {q : Q} {L : List Int} {tk : Option Int} (I : Iv q L tk) (k : Nat) (k1 : 1 ≤ k) (k8 : k < 8) (hx : (q.th k).nx ≠ .no) (hb : q.top + L.length ≤ 100000000000000000) :
    ∃ L', Iv (stp q k) L' tk ∧ (stp q k).top + L'.length ≤ q.top + L.length + 1 ∧ (((stepA q k).d.over = false ∧ L' = L) ∨ ((stepA q k).d.over = true ∧ (stepA q k).d.err ≠ 0 ∧ L' = L) ∨ ((stepA q k).d.over = true ∧ (stepA q k).d.err = 0 ∧ L = (stepA q k).d.v :: L')) := by
  obtain ⟨L', I', ev⟩ := thf_step I k k1 k8 hx hb
  have hr := ev_reach I.t0 hb ev
  refine ⟨L', I', hr, ?_⟩
  have F := nxt_step q k hx
  have tf := I.th k k1 k8
  have hp : pushing (q.th k).nx = false ∧ popping (q.th k).nx = false := by
    unfold Tf at tf
    cases hn : (q.th k).nx <;> rw [hn] at tf <;> first | exact tf.elim | exact ⟨rfl, rfl⟩
  have hop := fun h => (F.op h).2.2 hp.1 hp.2
  generalize pvOf (stp q k) = pv' at ev
  generalize pvOf q = pv at ev
  generalize (stepA q k).d = d at *
  cases ev with
  | quiet => exact .inl ⟨rfl, rfl⟩
  | pushed => have := hop rfl; cases this
  | full => have := hop rfl; cases this
  | empty => have := hop rfl; cases this
  | stolen => exact .inr (.inr ⟨rfl, rfl, rfl⟩)
  | none2 _ _ _ e he => exact .inr (.inl ⟨rfl, he, rfl⟩)
end Go.Proofs.Ytldobbdaokjgaaa
