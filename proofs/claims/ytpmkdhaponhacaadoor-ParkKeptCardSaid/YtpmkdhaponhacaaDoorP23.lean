/- The law Kept: the plain part. -/
import Derived.Test.YtpmkdhaponhacaaDoorP15
namespace Go.Proofs.YtpmkdhaponhacaaDoor
open Go.RowKit
set_option linter.unusedVariables false
set_option linter.unusedSimpArgs false
theorem wrF (x : Int) (h1 : -1000000000000000000 ≤ x) (h2 : x ≤ 1000000000000000000) : wrap64 x = x := by unfold wrap64; omega
def Gx (x : Nx) : Prop := x = .a29 ∨ x = .a33 ∨ x = .a37
def A29 (q : Q) : Prop := ∃ m, m < q.n ∧ (q.th m).nx = .a29
def Awk (q : Q) : Prop := (∃ m, m < q.n ∧ Gx (q.th m).nx) ∨ (∃ m, 1 ≤ m ∧ m < q.n ∧ (q.th m).pk = false ∧ ((q.th m).nx = .a42 → q.idle.testBit m = false))
structure Kq (q : Q) (i : Nat) : Prop where
  s0 : 0 ≤ q.seq
  si : q.seq ≤ i
  sq : ∀ j, j < q.n → (q.th j).seq ≤ q.seq
  pb : ∀ j, j < q.n → (q.th j).pk = true → q.idle.testBit j = true ∧ (q.th j).nx = .no
  i2 : ∀ j, j < q.n → (q.th j).nx = .a35 ∨ (q.th j).nx = .a38 → (q.th j).seq = q.seq → q.work = 0 ∨ A29 q
  i3 : 0 < q.work → Awk q
section
variable {q q' : Q} {i : Nat}
theorem Kq.upd {i' : Nat} (h : Kq q i) (k : Nat) (hk : k < q.n) (q' : Q) (hn : q'.n = q.n) (hs : q.seq ≤ q'.seq) (hsi : q'.seq ≤ (i' : Nat))
    (ht : ∀ j, j < q.n → j ≠ k → (q'.th j).nx = (q.th j).nx ∧ (q'.th j).seq = (q.th j).seq ∧ ((q'.th j).pk = true → (q.th j).pk = true ∧ (q.idle.testBit j = true → q'.idle.testBit j = true)))
    (hk1 : (q'.th k).seq ≤ q'.seq) (hk2 : (q'.th k).pk = true → q'.idle.testBit k = true ∧ (q'.th k).nx = .no)
    (hk3 : (q'.th k).nx = .a35 ∨ (q'.th k).nx = .a38 → (q'.th k).seq = q'.seq → q'.work = 0 ∨ A29 q')
    (hw : q'.seq = q.seq → (q.work = 0 ∨ A29 q) → (q'.work = 0 ∨ A29 q'))
    (hi3 : 0 < q'.work → Awk q') : Kq q' i' := by
  refine ⟨by have := h.s0; omega, hsi, fun j hj => ?_, fun j hj hp => ?_, fun j hj hx hq => ?_, hi3⟩
  · rw [hn] at hj
    by_cases e : j = k
    · rw [e]; exact hk1
    · rw [(ht j hj e).2.1]; have := h.sq j hj; omega
  · rw [hn] at hj
    by_cases e : j = k
    · rw [e] at hp ⊢; exact hk2 hp
    · obtain ⟨a, b, c⟩ := ht j hj e
      obtain ⟨c1, c2⟩ := c hp
      obtain ⟨d1, d2⟩ := h.pb j hj c1
      exact ⟨c2 d1, a.trans d2⟩
  · rw [hn] at hj
    by_cases e : j = k
    · rw [e] at hx hq; exact hk3 hx hq
    · obtain ⟨a, b, c⟩ := ht j hj e
      rw [a] at hx
      rw [b] at hq
      have h1 := h.sq j hj
      have h2 : q'.seq = q.seq := by omega
      exact hw h2 (h.i2 j hj hx (by omega))
theorem a29_keep (k : Nat) (hn : q'.n = q.n) (ht : ∀ j, j ≠ k → (q'.th j).nx = (q.th j).nx) (hk : (q.th k).nx ≠ .a29) (h : A29 q) : A29 q' := by
  obtain ⟨m, h1, h2⟩ := h
  have e : m ≠ k := fun e => hk (e ▸ h2)
  exact ⟨m, by rw [hn]; exact h1, (ht m e).trans h2⟩
theorem awk_me (k : Nat) (hk : k < q'.n) (k1 : 1 ≤ k) (hp : (q'.th k).pk = false) (hx : (q'.th k).nx ≠ .a42) : Awk q' := .inr ⟨k, k1, hk, hp, fun e => absurd e hx⟩
theorem awk_gx (k : Nat) (hk : k < q'.n) (hx : Gx (q'.th k).nx) : Awk q' := .inl ⟨k, hk, hx⟩
theorem kq_pk (h : Kq q i) (k : Nat) (hk : k < q.n) (hx : (q.th k).nx ≠ .no) : (q.th k).pk = false := by
  cases hp : (q.th k).pk
  · rfl
  · exact absurd (h.pb k hk hp).2 hx
/-- how often, at most, a thread goes on until its operation ends, as long as no other's ends -/
def mj (q : Q) (x : T) : Nat :=
  match x.nx with
  | .no => 0
  | .a25 => 4
  | .a29 => 3
  | .a33 => 2
  | .a37 => if q.idle.testBit x.who = true then 1 else 3
  | .a26 => 5
  | .a30 => 4
  | .a34 => if q.work = x.work then 1 else 6
  | .a35 => 3
  | .a38 => 2
  | .a42 => 1
  | .a41 => 1
theorem mj_le (q : Q) (x : T) : mj q x ≤ 6 := by
  unfold mj
  cases x.nx <;> simp only <;> (try split) <;> omega
theorem mj_pos (q : Q) (x : T) (h : x.nx ≠ .no) : 1 ≤ mj q x := by
  unfold mj
  cases hx : x.nx <;> simp only <;> (try split) <;> first | omega | exact absurd hx h
/-- others are as far as before where work stays and bits only come -/
theorem mj_oth (x y : T) (hx : y.nx = x.nx) (hw : y.work = x.work) (ho : y.who = x.who) (e1 : q'.work = q.work) (e2 : q.idle.testBit x.who = true → q'.idle.testBit x.who = true) : mj q' y ≤ mj q x := by
  unfold mj
  rw [hx, hw, ho, e1]
  cases x.nx <;> simp only <;> try omega
  by_cases a : q.idle.testBit x.who = true
  · rw [if_pos a, if_pos (e2 a)]; exact Nat.le_refl 1
  · rw [if_neg a]; split <;> omega
/-- what a step of thread k leaves -/
structure Ks (q q' : Q) (k i : Nat) : Prop where
  kq : Kq q' (i + 1)
  n : q'.n = q.n
  nx : ∀ j, j ≠ k → (q'.th j).nx = (q.th j).nx
  m : (q.th k).nx ≠ .a25 → (q'.th k).nx = .no ∨ (mj q' (q'.th k) + 1 ≤ mj q (q.th k) ∧ ∀ j, j < q.n → j ≠ k → mj q' (q'.th j) ≤ mj q (q.th j))
theorem mj_at (q : Q) (x : T) (n : Nx) (h : x.nx = n) : mj q x = mj q (x.setN n) := by
  unfold mj
  rw [h]
  rfl
theorem ks25 (h : Kq q i) {k : Nat} (hB : Bk q k i) (hk : k < q.n) (hi : i ≤ 100000000000000) (hn : (q.th k).nx = .a25) (k0 : True) (hw : (q.th k).who < q.n) (h37 : (q.th k).nx = .a37 → 1 ≤ (q.th k).who) (h34 : (q.th k).nx = .a34 → 0 < (q.th k).work) : Ks q ((stepA q k).fin k) k i := by
  have hx : (q.th k).nx ≠ .no := by rw [hn]; decide
  have w0 := hB.w0
  have s0 := h.s0
  have si := h.si
  have hsk := h.sq k hk
  have hpk := kq_pk h k hk hx
  unfold stepA A.fin
  rw [hn]
  have ew : wrap64 (q.work + 1) = q.work + 1 := wrF _ (by omega) (by have := hB.wi; omega)
  refine ⟨h.upd k hk _ rfl (Int.le_refl _) (by show q.seq ≤ _; omega) (fun j hj e => by rw [setT_ne _ _ _ _ e]; exact ⟨rfl, rfl, fun hp => ⟨hp, id⟩⟩) (by rw [setT_at]; exact hsk) (by rw [setT_at]; intro e; exact absurd (show (q.th k).pk = true from e) (by rw [hpk]; decide)) (by rw [setT_at]; intro e; rcases e with e | e <;> cases e) (fun _ _ => .inr ⟨k, hk, by rw [setT_at]; rfl⟩) (fun _ => awk_gx k hk (by rw [setT_at]; exact .inl rfl)), rfl, (fun j e => congrArg T.nx (setT_ne _ _ _ _ e)), fun c => absurd hn c⟩
theorem ks29 (h : Kq q i) {k : Nat} (hB : Bk q k i) (hk : k < q.n) (hi : i ≤ 100000000000000) (hn : (q.th k).nx = .a29) (k0 : True) (hw : (q.th k).who < q.n) (h37 : (q.th k).nx = .a37 → 1 ≤ (q.th k).who) (h34 : (q.th k).nx = .a34 → 0 < (q.th k).work) : Ks q ((stepA q k).fin k) k i := by
  have hx : (q.th k).nx ≠ .no := by rw [hn]; decide
  have w0 := hB.w0
  have s0 := h.s0
  have si := h.si
  have hsk := h.sq k hk
  have hpk := kq_pk h k hk hx
  unfold stepA A.fin
  rw [hn]
  have ew : wrap64 (q.seq + 1) = q.seq + 1 := wrF _ (by omega) (by omega)
  refine ⟨h.upd k hk _ rfl (by show q.seq ≤ wrap64 (q.seq + 1); omega) (by show wrap64 (q.seq + 1) ≤ _; omega) (fun j hj e => by rw [setT_ne _ _ _ _ e]; exact ⟨rfl, rfl, fun hp => ⟨hp, id⟩⟩) (by rw [setT_at]; show (q.th k).seq ≤ wrap64 (q.seq + 1); omega) (by rw [setT_at]; intro e; exact absurd (show (q.th k).pk = true from e) (by rw [hpk]; decide)) (by rw [setT_at]; intro e; rcases e with e | e <;> cases e) (fun e => absurd (show wrap64 (q.seq + 1) = q.seq from e) (by omega)) (fun _ => awk_gx k hk (by rw [setT_at]; exact .inr (.inl rfl))), rfl, (fun j e => congrArg T.nx (setT_ne _ _ _ _ e)), fun _ => ?_⟩
  refine .inr ⟨by rw [setT_at]; rw [mj_at q _ _ hn]; exact Nat.le_refl 3, fun j hj e => by rw [setT_ne _ _ _ _ e]; exact mj_oth _ _ rfl rfl rfl rfl id⟩
theorem ks33 (h : Kq q i) {k : Nat} (hB : Bk q k i) (hk : k < q.n) (hi : i ≤ 100000000000000) (hn : (q.th k).nx = .a33) (k0 : True) (hw : (q.th k).who < q.n) (h37 : (q.th k).nx = .a37 → 1 ≤ (q.th k).who) (h34 : (q.th k).nx = .a34 → 0 < (q.th k).work) : Ks q ((stepA q k).fin k) k i := by
  have hx : (q.th k).nx ≠ .no := by rw [hn]; decide
  have w0 := hB.w0
  have s0 := h.s0
  have si := h.si
  have hsk := h.sq k hk
  have hpk := kq_pk h k hk hx
  unfold stepA A.fin
  rw [hn]
  by_cases e : q.idle = 0
  · rw [show act q k (q.th k) .a33 = ⟨q, .no, 0, 0⟩ from if_pos e]
    have hp1 : ∀ j, j < q.n → (q.th j).pk = false := fun j hj => by
      cases hp : (q.th j).pk
      · rfl
      · have := (h.pb j hj hp).1; rw [e, Nat.zero_testBit] at this; cases this
    refine ⟨h.upd k hk _ rfl (Int.le_refl _) (by show q.seq ≤ _; omega) (fun j hj e => by rw [setT_ne _ _ _ _ e]; exact ⟨rfl, rfl, fun hp => ⟨hp, id⟩⟩) (by rw [setT_at]; exact hsk) (by rw [setT_at]; intro e; exact absurd (show (q.th k).pk = true from e) (by rw [hpk]; decide)) (by rw [setT_at]; intro e; rcases e with e | e <;> cases e) (fun _ g => g.imp id (a29_keep (q := q) k rfl (fun j e => congrArg T.nx (setT_ne _ _ _ _ e)) (by rw [hn]; decide))) (fun _ => .inr ⟨1, Nat.le_refl _, (by have := hB.n1; show 1 < q.n; omega), (by rw [pk_setN]; exact hp1 1 (by have := hB.n1; omega)), fun _ => (by show q.idle.testBit 1 = false; rw [e, Nat.zero_testBit])⟩), rfl, (fun j e => congrArg T.nx (setT_ne _ _ _ _ e)), fun _ => ?_⟩
    exact .inl (by rw [setT_at]; rfl)
  · rw [show act q k (q.th k) .a33 = ⟨q.setT k ((q.th k).setK (Lib.ctz 64 q.idle)), .a37, -1, 0⟩ from if_neg e]
    obtain ⟨c1, c2, c3⟩ := ctz_at q.idle hB.lt e
    refine ⟨h.upd k hk _ rfl (Int.le_refl _) (by show q.seq ≤ _; omega) (fun j hj e => by rw [setT_ne _ _ _ _ e, setT_ne _ _ _ _ e]; exact ⟨rfl, rfl, fun hp => ⟨hp, id⟩⟩) (by rw [setT_at, setT_at]; exact hsk) (by rw [setT_at, setT_at]; intro e; exact absurd (show (q.th k).pk = true from e) (by rw [hpk]; decide)) (by rw [setT_at, setT_at]; intro e; rcases e with e | e <;> cases e) (fun _ g => g.imp id (a29_keep (q := q) k rfl (fun j e => congrArg T.nx ((setT_ne _ _ _ _ e).trans (setT_ne _ _ _ _ e))) (by rw [hn]; decide))) (fun _ => awk_gx k hk (by rw [setT_at, setT_at]; exact .inr (.inr rfl))), rfl, (fun j e => congrArg T.nx ((setT_ne _ _ _ _ e).trans (setT_ne _ _ _ _ e))), fun _ => ?_⟩
    refine .inr ⟨by rw [setT_at, setT_at]; rw [mj_at q _ _ hn]; show (if q.idle.testBit (Lib.ctz 64 q.idle) = true then 1 else 3) + 1 ≤ 2; rw [if_pos c2]; exact Nat.le_refl 2, fun j hj e => by rw [setT_ne _ _ _ _ e, setT_ne _ _ _ _ e]; exact mj_oth _ _ rfl rfl rfl rfl id⟩
theorem ks37 (h : Kq q i) {k : Nat} (hB : Bk q k i) (hk : k < q.n) (hi : i ≤ 100000000000000) (hn : (q.th k).nx = .a37) (k0 : True) (hw : (q.th k).who < q.n) (h37 : (q.th k).nx = .a37 → 1 ≤ (q.th k).who) (h34 : (q.th k).nx = .a34 → 0 < (q.th k).work) : Ks q ((stepA q k).fin k) k i := by
  have hx : (q.th k).nx ≠ .no := by rw [hn]; decide
  have w0 := hB.w0
  have s0 := h.s0
  have si := h.si
  have hsk := h.sq k hk
  have hpk := kq_pk h k hk hx
  unfold stepA A.fin
  rw [hn]
  have hw8 : (q.th k).who < 8 := by have := hB.n2; omega
  have hw1 := h37 hn
  by_cases e : q.idle.testBit (q.th k).who = true
  · rw [show act q k (q.th k) .a37 = ⟨(q.setI (clr q.idle (q.th k).who)).setT (q.th k).who ((q.th (q.th k).who).setP false), .no, 1, (q.th k).who⟩ from if_pos e]
    dsimp only
    generalize hwho : (q.th k).who = o at *
    have hc : ∀ j, j < 8 → (clr q.idle o).testBit j = (!decide (j = o) && q.idle.testBit j) := fun j hj => clr_at _ hB.lt _ hw8 j hj
    have hQ : ∀ j, ((q.setI (clr q.idle o)).setT o ((q.th o).setP false)).th j = if j = o then (q.th o).setP false else q.th j := fun j => rfl
    have hnx : ∀ j, (((q.setI (clr q.idle o)).setT o ((q.th o).setP false)).th j).nx = (q.th j).nx := fun j => by
      rw [hQ]; by_cases g : j = o
      · rw [if_pos g, g]; rfl
      · rw [if_neg g]
    have hsq : ∀ j, (((q.setI (clr q.idle o)).setT o ((q.th o).setP false)).th j).seq = (q.th j).seq := fun j => by
      rw [hQ]; by_cases g : j = o
      · rw [if_pos g, g]; rfl
      · rw [if_neg g]
    have hpo : ∀ j, (((q.setI (clr q.idle o)).setT o ((q.th o).setP false)).th j).pk = true → (q.th j).pk = true ∧ j ≠ o := fun j hp => by
      rw [hQ] at hp
      by_cases g : j = o
      · rw [if_pos g] at hp; cases hp
      · rw [if_neg g] at hp; exact ⟨hp, g⟩
    refine ⟨h.upd k hk _ rfl (Int.le_refl _) (by show q.seq ≤ _; omega) (fun j hj g => ?_) (by rw [setT_at]; show (((q.setI (clr q.idle o)).setT o ((q.th o).setP false)).th k).seq ≤ _; rw [hsq]; exact hsk) (by rw [setT_at]; intro c; exact absurd (hpo k c).1 (by rw [hpk]; decide)) (by rw [setT_at]; intro e; rcases e with e | e <;> cases e) (fun _ g => g.imp id (a29_keep (q := q) k rfl (fun j g => by rw [setT_ne _ _ _ _ g]; exact hnx j) (by rw [hn]; decide))) (fun _ => .inr ⟨o, hw1, hw, ?_, ?_⟩), rfl, (fun j g => by rw [setT_ne _ _ _ _ g]; exact hnx j), fun _ => .inl (by rw [setT_at]; rfl)⟩
    · rw [setT_ne _ _ _ _ g]
      refine ⟨hnx j, hsq j, fun hp => ?_⟩
      obtain ⟨a, b⟩ := hpo j hp
      exact ⟨a, fun c => by show (clr q.idle o).testBit j = true; rw [hc j (by have := hB.n2; omega), decide_eq_false b, c]; rfl⟩
    · rw [pk_setN, hQ, if_pos rfl]; rfl
    · intro _; show (clr q.idle o).testBit o = false; rw [hc o hw8, decide_eq_true rfl]; rfl
  · rw [show act q k (q.th k) .a37 = ⟨q, .a33, -1, 0⟩ from if_neg e]
    refine ⟨h.upd k hk _ rfl (Int.le_refl _) (by show q.seq ≤ _; omega) (fun j hj e => by rw [setT_ne _ _ _ _ e]; exact ⟨rfl, rfl, fun hp => ⟨hp, id⟩⟩) (by rw [setT_at]; exact hsk) (by rw [setT_at]; intro e; exact absurd (show (q.th k).pk = true from e) (by rw [hpk]; decide)) (by rw [setT_at]; intro e; rcases e with e | e <;> cases e) (fun _ g => g.imp id (a29_keep (q := q) k rfl (fun j e => congrArg T.nx (setT_ne _ _ _ _ e)) (by rw [hn]; decide))) (fun _ => awk_gx k hk (by rw [setT_at]; exact .inr (.inl rfl))), rfl, (fun j e => congrArg T.nx (setT_ne _ _ _ _ e)), fun _ => ?_⟩
    refine .inr ⟨by rw [setT_at]; rw [mj_at q _ _ hn]; show 2 + 1 ≤ (if q.idle.testBit (q.th k).who = true then 1 else 3); rw [if_neg e]; exact Nat.le_refl 3, fun j hj e => by rw [setT_ne _ _ _ _ e]; exact mj_oth _ _ rfl rfl rfl rfl id⟩
theorem ks26 (h : Kq q i) {k : Nat} (hB : Bk q k i) (hk : k < q.n) (hi : i ≤ 100000000000000) (hn : (q.th k).nx = .a26) (k0 : k ≠ 0) (hw : (q.th k).who < q.n) (h37 : (q.th k).nx = .a37 → 1 ≤ (q.th k).who) (h34 : (q.th k).nx = .a34 → 0 < (q.th k).work) : Ks q ((stepA q k).fin k) k i := by
  have hx : (q.th k).nx ≠ .no := by rw [hn]; decide
  have w0 := hB.w0
  have s0 := h.s0
  have si := h.si
  have hsk := h.sq k hk
  have hpk := kq_pk h k hk hx
  unfold stepA A.fin
  rw [hn]
  rw [show act q k (q.th k) .a26 = ⟨q.setT k ((q.th k).setS q.seq), .a30, -1, 0⟩ from rfl]
  refine ⟨h.upd k hk _ rfl (Int.le_refl _) (by show q.seq ≤ _; omega) (fun j hj e => by rw [setT_ne _ _ _ _ e, setT_ne _ _ _ _ e]; exact ⟨rfl, rfl, fun hp => ⟨hp, id⟩⟩) (by rw [setT_at, setT_at]; exact Int.le_refl _) (by rw [setT_at, setT_at]; intro e; exact absurd (show (q.th k).pk = true from e) (by rw [hpk]; decide)) (by rw [setT_at, setT_at]; intro e; rcases e with e | e <;> cases e) (fun _ g => g.imp id (a29_keep (q := q) k rfl (fun j e => congrArg T.nx ((setT_ne _ _ _ _ e).trans (setT_ne _ _ _ _ e))) (by rw [hn]; decide))) (fun _ => awk_me k hk (by omega) (by rw [setT_at, setT_at]; exact hpk) (by rw [setT_at, setT_at]; show Nx.a30 ≠ _; decide)), rfl, (fun j e => congrArg T.nx ((setT_ne _ _ _ _ e).trans (setT_ne _ _ _ _ e))), fun _ => ?_⟩
  refine .inr ⟨by rw [setT_at, setT_at]; rw [mj_at q _ _ hn]; exact Nat.le_refl 5, fun j hj e => by rw [setT_ne _ _ _ _ e, setT_ne _ _ _ _ e]; exact mj_oth _ _ rfl rfl rfl rfl id⟩
theorem ks30 (h : Kq q i) {k : Nat} (hB : Bk q k i) (hk : k < q.n) (hi : i ≤ 100000000000000) (hn : (q.th k).nx = .a30) (k0 : k ≠ 0) (hw : (q.th k).who < q.n) (h37 : (q.th k).nx = .a37 → 1 ≤ (q.th k).who) (h34 : (q.th k).nx = .a34 → 0 < (q.th k).work) : Ks q ((stepA q k).fin k) k i := by
  have hx : (q.th k).nx ≠ .no := by rw [hn]; decide
  have w0 := hB.w0
  have s0 := h.s0
  have si := h.si
  have hsk := h.sq k hk
  have hpk := kq_pk h k hk hx
  unfold stepA A.fin
  rw [hn]
  by_cases e : 0 < q.work
  · rw [show act q k (q.th k) .a30 = ⟨q.setT k ((q.th k).setW q.work), .a34, -1, 0⟩ from if_pos e]
    refine ⟨h.upd k hk _ rfl (Int.le_refl _) (by show q.seq ≤ _; omega) (fun j hj e => by rw [setT_ne _ _ _ _ e, setT_ne _ _ _ _ e]; exact ⟨rfl, rfl, fun hp => ⟨hp, id⟩⟩) (by rw [setT_at, setT_at]; exact hsk) (by rw [setT_at, setT_at]; intro e; exact absurd (show (q.th k).pk = true from e) (by rw [hpk]; decide)) (by rw [setT_at, setT_at]; intro e; rcases e with e | e <;> cases e) (fun _ g => g.imp id (a29_keep (q := q) k rfl (fun j e => congrArg T.nx ((setT_ne _ _ _ _ e).trans (setT_ne _ _ _ _ e))) (by rw [hn]; decide))) (fun _ => awk_me k hk (by omega) (by rw [setT_at, setT_at]; exact hpk) (by rw [setT_at, setT_at]; show Nx.a34 ≠ _; decide)), rfl, (fun j e => congrArg T.nx ((setT_ne _ _ _ _ e).trans (setT_ne _ _ _ _ e))), fun _ => ?_⟩
    refine .inr ⟨by rw [setT_at, setT_at]; rw [mj_at q _ _ hn]; show (if q.work = q.work then 1 else 6) + 1 ≤ 4; rw [if_pos rfl]; omega, fun j hj e => by rw [setT_ne _ _ _ _ e, setT_ne _ _ _ _ e]; exact mj_oth _ _ rfl rfl rfl rfl id⟩
  · rw [show act q k (q.th k) .a30 = ⟨q.setT k ((q.th k).setW q.work), .a35, -1, 0⟩ from if_neg e]
    refine ⟨h.upd k hk _ rfl (Int.le_refl _) (by show q.seq ≤ _; omega) (fun j hj e => by rw [setT_ne _ _ _ _ e, setT_ne _ _ _ _ e]; exact ⟨rfl, rfl, fun hp => ⟨hp, id⟩⟩) (by rw [setT_at, setT_at]; exact hsk) (by rw [setT_at, setT_at]; intro e; exact absurd (show (q.th k).pk = true from e) (by rw [hpk]; decide)) (by rw [setT_at, setT_at]; intro _ _; exact .inl (show q.work = 0 by omega)) (fun _ g => g.imp id (a29_keep (q := q) k rfl (fun j e => congrArg T.nx ((setT_ne _ _ _ _ e).trans (setT_ne _ _ _ _ e))) (by rw [hn]; decide))) (fun _ => awk_me k hk (by omega) (by rw [setT_at, setT_at]; exact hpk) (by rw [setT_at, setT_at]; show Nx.a35 ≠ _; decide)), rfl, (fun j e => congrArg T.nx ((setT_ne _ _ _ _ e).trans (setT_ne _ _ _ _ e))), fun _ => ?_⟩
    refine .inr ⟨by rw [setT_at, setT_at]; rw [mj_at q _ _ hn]; exact Nat.le_refl 4, fun j hj e => by rw [setT_ne _ _ _ _ e, setT_ne _ _ _ _ e]; exact mj_oth _ _ rfl rfl rfl rfl id⟩
theorem ks34 (h : Kq q i) {k : Nat} (hB : Bk q k i) (hk : k < q.n) (hi : i ≤ 100000000000000) (hn : (q.th k).nx = .a34) (k0 : k ≠ 0) (hw : (q.th k).who < q.n) (h37 : (q.th k).nx = .a37 → 1 ≤ (q.th k).who) (h34 : (q.th k).nx = .a34 → 0 < (q.th k).work) : Ks q ((stepA q k).fin k) k i := by
  have hx : (q.th k).nx ≠ .no := by rw [hn]; decide
  have w0 := hB.w0
  have s0 := h.s0
  have si := h.si
  have hsk := h.sq k hk
  have hpk := kq_pk h k hk hx
  unfold stepA A.fin
  rw [hn]
  have hw0 := h34 hn
  by_cases e : q.work = (q.th k).work
  · rw [show act q k (q.th k) .a34 = ⟨q.setW (wrap64 (q.work - 1)), .no, 2, 0⟩ from if_pos e]
    refine ⟨h.upd k hk _ rfl (Int.le_refl _) (by show q.seq ≤ _; omega) (fun j hj e => by rw [setT_ne _ _ _ _ e]; exact ⟨rfl, rfl, fun hp => ⟨hp, id⟩⟩) (by rw [setT_at]; exact hsk) (by rw [setT_at]; intro e; exact absurd (show (q.th k).pk = true from e) (by rw [hpk]; decide)) (by rw [setT_at]; intro e; rcases e with e | e <;> cases e) (fun _ g => g.elim (fun c => absurd c (by omega)) (fun c => .inr (a29_keep (q := q) k rfl (fun j e => congrArg T.nx (setT_ne _ _ _ _ e)) (by rw [hn]; decide) c))) (fun _ => awk_me k hk (by omega) (by rw [setT_at]; exact hpk) (by rw [setT_at]; show Nx.no ≠ _; decide)), rfl, (fun j e => congrArg T.nx (setT_ne _ _ _ _ e)), fun _ => ?_⟩
    exact .inl (by rw [setT_at]; rfl)
  · rw [show act q k (q.th k) .a34 = ⟨q, .a26, -1, 0⟩ from if_neg e]
    refine ⟨h.upd k hk _ rfl (Int.le_refl _) (by show q.seq ≤ _; omega) (fun j hj e => by rw [setT_ne _ _ _ _ e]; exact ⟨rfl, rfl, fun hp => ⟨hp, id⟩⟩) (by rw [setT_at]; exact hsk) (by rw [setT_at]; intro e; exact absurd (show (q.th k).pk = true from e) (by rw [hpk]; decide)) (by rw [setT_at]; intro e; rcases e with e | e <;> cases e) (fun _ g => g.imp id (a29_keep (q := q) k rfl (fun j e => congrArg T.nx (setT_ne _ _ _ _ e)) (by rw [hn]; decide))) (fun _ => awk_me k hk (by omega) (by rw [setT_at]; exact hpk) (by rw [setT_at]; show Nx.a26 ≠ _; decide)), rfl, (fun j e => congrArg T.nx (setT_ne _ _ _ _ e)), fun _ => ?_⟩
    refine .inr ⟨by rw [setT_at]; rw [mj_at q _ _ hn]; show 5 + 1 ≤ (if q.work = (q.th k).work then 1 else 6); rw [if_neg e]; exact Nat.le_refl 6, fun j hj e => by rw [setT_ne _ _ _ _ e]; exact mj_oth _ _ rfl rfl rfl rfl id⟩
theorem ks35 (h : Kq q i) {k : Nat} (hB : Bk q k i) (hk : k < q.n) (hi : i ≤ 100000000000000) (hn : (q.th k).nx = .a35) (k0 : k ≠ 0) (hw : (q.th k).who < q.n) (h37 : (q.th k).nx = .a37 → 1 ≤ (q.th k).who) (h34 : (q.th k).nx = .a34 → 0 < (q.th k).work) : Ks q ((stepA q k).fin k) k i := by
  have hx : (q.th k).nx ≠ .no := by rw [hn]; decide
  have w0 := hB.w0
  have s0 := h.s0
  have si := h.si
  have hsk := h.sq k hk
  have hpk := kq_pk h k hk hx
  unfold stepA A.fin
  rw [hn]
  have hk8 : k < 8 := by have := hB.n2; omega
  have hb : ∀ j, j < 8 → q.idle.testBit j = true → (bset q.idle k).testBit j = true := fun j hj c => by rw [bset_at _ hB.lt k hk8 j hj, c, Bool.or_true]
  have hwo : ∀ j, j < q.n → j ≠ k → (q.th j).who < 8 := fun j hj e => by have := (hB.th j hj e).who; have := hB.n2; omega
  rw [show act q k (q.th k) .a35 = ⟨q.setI (bset q.idle k), .a38, -1, 0⟩ from rfl]
  refine ⟨h.upd k hk _ rfl (Int.le_refl _) (by show q.seq ≤ _; omega) (fun j hj e => by rw [setT_ne _ _ _ _ e]; exact ⟨rfl, rfl, fun hp => ⟨hp, hb j (by have := hB.n2; omega)⟩⟩) (by rw [setT_at]; exact hsk) (by rw [setT_at]; intro e; exact absurd (show (q.th k).pk = true from e) (by rw [hpk]; decide)) (by rw [setT_at]; intro _ c; exact (h.i2 k hk (.inl hn) c).imp id (a29_keep (q := q) k rfl (fun j e => congrArg T.nx (setT_ne _ _ _ _ e)) (by rw [hn]; decide))) (fun _ g => g.imp id (a29_keep (q := q) k rfl (fun j e => congrArg T.nx (setT_ne _ _ _ _ e)) (by rw [hn]; decide))) (fun _ => awk_me k hk (by omega) (by rw [setT_at]; exact hpk) (by rw [setT_at]; show Nx.a38 ≠ _; decide)), rfl, (fun j e => congrArg T.nx (setT_ne _ _ _ _ e)), fun _ => ?_⟩
  refine .inr ⟨by rw [setT_at]; rw [mj_at q _ _ hn]; exact Nat.le_refl 3, fun j hj e => by rw [setT_ne _ _ _ _ e]; exact mj_oth _ _ rfl rfl rfl rfl (hb _ (hwo j hj e))⟩
theorem ks38 (h : Kq q i) {k : Nat} (hB : Bk q k i) (hk : k < q.n) (hi : i ≤ 100000000000000) (hn : (q.th k).nx = .a38) (k0 : k ≠ 0) (hw : (q.th k).who < q.n) (h37 : (q.th k).nx = .a37 → 1 ≤ (q.th k).who) (h34 : (q.th k).nx = .a34 → 0 < (q.th k).work) : Ks q ((stepA q k).fin k) k i := by
  have hx : (q.th k).nx ≠ .no := by rw [hn]; decide
  have w0 := hB.w0
  have s0 := h.s0
  have si := h.si
  have hsk := h.sq k hk
  have hpk := kq_pk h k hk hx
  unfold stepA A.fin
  rw [hn]
  by_cases e : q.seq = (q.th k).seq
  · rw [show act q k (q.th k) .a38 = ⟨q, .a42, -1, 0⟩ from if_pos e]
    refine ⟨h.upd k hk _ rfl (Int.le_refl _) (by show q.seq ≤ _; omega) (fun j hj e => by rw [setT_ne _ _ _ _ e]; exact ⟨rfl, rfl, fun hp => ⟨hp, id⟩⟩) (by rw [setT_at]; exact hsk) (by rw [setT_at]; intro e; exact absurd (show (q.th k).pk = true from e) (by rw [hpk]; decide)) (by rw [setT_at]; intro e; rcases e with e | e <;> cases e) (fun _ g => g.imp id (a29_keep (q := q) k rfl (fun j e => congrArg T.nx (setT_ne _ _ _ _ e)) (by rw [hn]; decide))) (fun g => by rcases h.i2 k hk (.inr hn) e.symm with c | ⟨m, c1, c2⟩; exact absurd (show 0 < q.work from g) (by omega); exact .inl ⟨m, c1, .inl (by rw [setT_ne _ _ _ _ (fun d => by rw [d, hn] at c2; cases c2)]; exact c2)⟩), rfl, (fun j e => congrArg T.nx (setT_ne _ _ _ _ e)), fun _ => ?_⟩
    refine .inr ⟨by rw [setT_at]; rw [mj_at q _ _ hn]; exact Nat.le_refl 2, fun j hj e => by rw [setT_ne _ _ _ _ e]; exact mj_oth _ _ rfl rfl rfl rfl id⟩
  · rw [show act q k (q.th k) .a38 = ⟨q, .a41, -1, 0⟩ from if_neg e]
    refine ⟨h.upd k hk _ rfl (Int.le_refl _) (by show q.seq ≤ _; omega) (fun j hj e => by rw [setT_ne _ _ _ _ e]; exact ⟨rfl, rfl, fun hp => ⟨hp, id⟩⟩) (by rw [setT_at]; exact hsk) (by rw [setT_at]; intro e; exact absurd (show (q.th k).pk = true from e) (by rw [hpk]; decide)) (by rw [setT_at]; intro e; rcases e with e | e <;> cases e) (fun _ g => g.imp id (a29_keep (q := q) k rfl (fun j e => congrArg T.nx (setT_ne _ _ _ _ e)) (by rw [hn]; decide))) (fun _ => awk_me k hk (by omega) (by rw [setT_at]; exact hpk) (by rw [setT_at]; show Nx.a41 ≠ _; decide)), rfl, (fun j e => congrArg T.nx (setT_ne _ _ _ _ e)), fun _ => ?_⟩
    refine .inr ⟨by rw [setT_at]; rw [mj_at q _ _ hn]; exact Nat.le_refl 2, fun j hj e => by rw [setT_ne _ _ _ _ e]; exact mj_oth _ _ rfl rfl rfl rfl id⟩
theorem ks42 (h : Kq q i) {k : Nat} (hB : Bk q k i) (hk : k < q.n) (hi : i ≤ 100000000000000) (hn : (q.th k).nx = .a42) (k0 : k ≠ 0) (hw : (q.th k).who < q.n) (h37 : (q.th k).nx = .a37 → 1 ≤ (q.th k).who) (h34 : (q.th k).nx = .a34 → 0 < (q.th k).work) : Ks q ((stepA q k).fin k) k i := by
  have hx : (q.th k).nx ≠ .no := by rw [hn]; decide
  have w0 := hB.w0
  have s0 := h.s0
  have si := h.si
  have hsk := h.sq k hk
  have hpk := kq_pk h k hk hx
  unfold stepA A.fin
  rw [hn]
  by_cases e : q.idle.testBit k = true
  · rw [show act q k (q.th k) .a42 = ⟨q.setT k ((q.th k).setP true), .no, 3, 0⟩ from if_pos e]
    refine ⟨h.upd k hk _ rfl (Int.le_refl _) (by show q.seq ≤ _; omega) (fun j hj e => by rw [setT_ne _ _ _ _ e, setT_ne _ _ _ _ e]; exact ⟨rfl, rfl, fun hp => ⟨hp, id⟩⟩) (by rw [setT_at, setT_at]; exact hsk) (by rw [setT_at, setT_at]; intro _; exact ⟨e, rfl⟩) (by rw [setT_at, setT_at]; intro e; rcases e with e | e <;> cases e) (fun _ g => g.imp id (a29_keep (q := q) k rfl (fun j e => congrArg T.nx ((setT_ne _ _ _ _ e).trans (setT_ne _ _ _ _ e))) (by rw [hn]; decide))) (fun g => by rcases h.i3 g with ⟨m, c1, c2⟩ | ⟨m, c1, c2, c3, c4⟩; exact .inl ⟨m, c1, by rw [setT_ne _ _ _ _ (fun d => by rw [d, hn] at c2; rcases c2 with c | c | c <;> cases c), setT_ne _ _ _ _ (fun d => by rw [d, hn] at c2; rcases c2 with c | c | c <;> cases c)]; exact c2⟩; have hmk : m ≠ k := (fun d => by rw [d] at c4; rw [c4 hn] at e; cases e); exact .inr ⟨m, c1, c2, by rw [setT_ne _ _ _ _ hmk, setT_ne _ _ _ _ hmk]; exact c3, by rw [setT_ne _ _ _ _ hmk, setT_ne _ _ _ _ hmk]; exact c4⟩), rfl, (fun j e => congrArg T.nx ((setT_ne _ _ _ _ e).trans (setT_ne _ _ _ _ e))), fun _ => ?_⟩
    exact .inl (by rw [setT_at, setT_at]; rfl)
  · rw [show act q k (q.th k) .a42 = ⟨q, .no, 4, 0⟩ from if_neg e]
    refine ⟨h.upd k hk _ rfl (Int.le_refl _) (by show q.seq ≤ _; omega) (fun j hj e => by rw [setT_ne _ _ _ _ e]; exact ⟨rfl, rfl, fun hp => ⟨hp, id⟩⟩) (by rw [setT_at]; exact hsk) (by rw [setT_at]; intro e; exact absurd (show (q.th k).pk = true from e) (by rw [hpk]; decide)) (by rw [setT_at]; intro e; rcases e with e | e <;> cases e) (fun _ g => g.imp id (a29_keep (q := q) k rfl (fun j e => congrArg T.nx (setT_ne _ _ _ _ e)) (by rw [hn]; decide))) (fun _ => awk_me k hk (by omega) (by rw [setT_at]; exact hpk) (by rw [setT_at]; show Nx.no ≠ _; decide)), rfl, (fun j e => congrArg T.nx (setT_ne _ _ _ _ e)), fun _ => ?_⟩
    exact .inl (by rw [setT_at]; rfl)
theorem ks41 (h : Kq q i) {k : Nat} (hB : Bk q k i) (hk : k < q.n) (hi : i ≤ 100000000000000) (hn : (q.th k).nx = .a41) (k0 : k ≠ 0) (hw : (q.th k).who < q.n) (h37 : (q.th k).nx = .a37 → 1 ≤ (q.th k).who) (h34 : (q.th k).nx = .a34 → 0 < (q.th k).work) : Ks q ((stepA q k).fin k) k i := by
  have hx : (q.th k).nx ≠ .no := by rw [hn]; decide
  have w0 := hB.w0
  have s0 := h.s0
  have si := h.si
  have hsk := h.sq k hk
  have hpk := kq_pk h k hk hx
  unfold stepA A.fin
  rw [hn]
  have hk8 : k < 8 := by have := hB.n2; omega
  rw [show act q k (q.th k) .a41 = ⟨q.setI (clr q.idle k), .no, 4, 0⟩ from rfl]
  refine ⟨h.upd k hk _ rfl (Int.le_refl _) (by show q.seq ≤ _; omega) (fun j hj e => by rw [setT_ne _ _ _ _ e]; exact ⟨rfl, rfl, fun hp => ⟨hp, fun c => by show (clr q.idle k).testBit j = true; rw [clr_at _ hB.lt k hk8 j (by have := hB.n2; omega), decide_eq_false e, c]; rfl⟩⟩) (by rw [setT_at]; exact hsk) (by rw [setT_at]; intro e; exact absurd (show (q.th k).pk = true from e) (by rw [hpk]; decide)) (by rw [setT_at]; intro e; rcases e with e | e <;> cases e) (fun _ g => g.imp id (a29_keep (q := q) k rfl (fun j e => congrArg T.nx (setT_ne _ _ _ _ e)) (by rw [hn]; decide))) (fun _ => awk_me k hk (by omega) (by rw [setT_at]; exact hpk) (by rw [setT_at]; show Nx.no ≠ _; decide)), rfl, (fun j e => congrArg T.nx (setT_ne _ _ _ _ e)), fun _ => ?_⟩
  exact .inl (by rw [setT_at]; rfl)
end
end Go.Proofs.YtpmkdhaponhacaaDoor
