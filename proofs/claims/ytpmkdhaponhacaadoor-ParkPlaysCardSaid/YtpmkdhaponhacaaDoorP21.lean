/- The lot and the reference's one, side by side. -/
import Derived.Test.YtpmkdhaponhacaaDoorP20
namespace Go.Proofs.YtpmkdhaponhacaaDoor
open Go.RowKit
set_option linter.unusedVariables false
set_option linter.unusedSimpArgs false
/-- what the reference has of a thread's next access -/
def Rn (x : T) (y : Y) : Prop :=
  match x.nx with
  | .no => y.on = false
  | .a25 => y.on = true ∧ y.op = 0 ∧ y.made = 0
  | .a29 => y.on = true ∧ y.op = 0 ∧ y.made = 1
  | .a33 => y.on = true ∧ y.op = 0 ∧ y.made = 2
  | .a37 => y.on = true ∧ y.op = 0 ∧ y.made = 3 ∧ y.k = x.who
  | .a26 => y.on = true ∧ y.op = 1 ∧ y.made = 0
  | .a30 => y.on = true ∧ y.op = 1 ∧ y.made = 1 ∧ y.s = x.seq
  | .a34 => y.on = true ∧ y.op = 1 ∧ y.made = 2 ∧ y.s = x.seq ∧ y.v = x.work ∧ 0 < x.work
  | .a35 => y.on = true ∧ y.op = 1 ∧ y.made = 2 ∧ y.s = x.seq ∧ y.v = 0
  | .a38 => y.on = true ∧ y.op = 1 ∧ y.made = 3 ∧ y.s = x.seq
  | .a42 => y.on = true ∧ y.op = 1 ∧ y.made = 4 ∧ y.same = true
  | .a41 => y.on = true ∧ y.op = 1 ∧ y.made = 4 ∧ y.same = false
structure Rl (n idle k : Nat) (x : T) (y : Y) : Prop where
  pk : y.pk = x.pk
  idle : y.idle = idle.testBit k
  nx : Rn x y
  z : k = 0 → x.nx = .no ∨ x.nx = .a25 ∨ x.nx = .a29 ∨ x.nx = .a33 ∨ x.nx = .a37
  kk : y.k < n
structure Rel (q : Q) (r : R) (i : Nat) : Prop where
  work : r.work = q.work
  seq : r.seq = q.seq
  n : r.n = q.n
  th : ∀ j, j < q.n → Rl q.n q.idle j (q.th j) (r.th j)
  wf : Wf q
  b0 : q.idle.testBit 0 = false
  w0 : 0 ≤ q.work
  wi : q.work ≤ i
theorem rn_on {x : T} {y : Y} (h : Rn x y) : y.on = decide (x.nx ≠ .no) := by
  unfold Rn at h
  cases hn : x.nx <;> rw [hn] at h <;> simp only at h
  case no => rw [h]; rfl
  all_goals (rw [h.1]; rfl)
theorem rn_ok {x : T} {y : Y} (h : Rn x y) (ho : y.on = true) : ((y.op = 0 ∧ (y.made = 0 ∨ y.made = 1 ∨ y.made = 2 ∨ y.made = 3)) ∨ (y.op = 1 ∧ (y.made = 0 ∨ y.made = 1 ∨ y.made = 2 ∨ y.made = 3 ∨ y.made = 4))) := by
  unfold Rn at h
  cases hn : x.nx <;> rw [hn] at h <;> simp only at h
  case no => rw [h] at ho; cases ho
  all_goals
    obtain ⟨_, a, b⟩ := h
    omega
/-- the least whose bit is there -/
def mq (q : Q) : Nat := if q.idle = 0 then 0 else Lib.ctz 64 q.idle
section
variable {q q1 : Q} {r r1 : R} {i i' : Nat}
theorem Rel.upd (h : Rel q r i) (k : Nat) (hn : q1.n = q.n) (hrn : r1.n = r.n) (hw : r1.work = q1.work) (hs : r1.seq = q1.seq) (hq : ∀ j, j ≠ k → q1.th j = q.th j) (hr : ∀ j, j ≠ k → r1.th j = r.th j) (hi : ∀ j, j < 8 → j ≠ k → q1.idle.testBit j = q.idle.testBit j) (hwf : Wf q1) (b0 : q1.idle.testBit 0 = false) (w0 : 0 ≤ q1.work) (wi : q1.work ≤ i') (hk : Rl q.n q1.idle k (q1.th k) (r1.th k)) : Rel q1 r1 i' := by
  refine ⟨hw, hs, by rw [hrn, hn]; exact h.n, fun j hj => ?_, hwf, b0, w0, wi⟩
  rw [hn] at hj ⊢
  by_cases e : j = k
  · rw [e]; exact hk
  · have := h.th j hj
    rw [hq j e, hr j e]
    exact ⟨this.pk, by rw [hi j (by have := h.wf.n2; omega) e]; exact this.idle, this.nx, this.z, this.kk⟩
theorem rel_least (h : Rel q r i) : Least r (mq q) := by
  have hl := h.wf.lt
  unfold mq Least
  by_cases e : q.idle = 0
  · rw [if_pos e]
    exact .inl ⟨rfl, fun j h1 h2 => by rw [(h.th j (by rw [← h.n]; exact h2)).idle, e, Nat.zero_testBit]⟩
  · rw [if_neg e]
    obtain ⟨c1, c2, c3⟩ := ctz_at q.idle hl e
    generalize Lib.ctz 64 q.idle = C at *
    have cn : C < q.n := by
      by_cases g : q.n ≤ C
      · rw [h.wf.out C c1 g] at c2; cases c2
      · omega
    have c0 : 1 ≤ C := by
      rcases Nat.eq_zero_or_pos C with g | g
      · rw [g, h.b0] at c2; cases c2
      · exact g
    have hrn := h.n
    exact .inr ⟨c0, by omega, by rw [(h.th C cn).idle]; exact c2, fun j h1 h2 => by rw [(h.th j (by omega)).idle]; exact c3 j (by omega) h2⟩
theorem mq_ne (h : Rel q r i) (e : q.idle ≠ 0) : mq q ≠ 0 ∧ mq q = Lib.ctz 64 q.idle := by
  have h1 : mq q = Lib.ctz 64 q.idle := if_neg e
  refine ⟨fun g => ?_, h1⟩
  obtain ⟨c1, c2, c3⟩ := ctz_at q.idle h.wf.lt e
  rw [← h1, g, h.b0] at c2
  cases c2
theorem mq_lt (h : Rel q r i) (e : q.idle ≠ 0) : Lib.ctz 64 q.idle < q.n := by
  obtain ⟨c1, c2, c3⟩ := ctz_at q.idle h.wf.lt e
  by_cases g : q.n ≤ Lib.ctz 64 q.idle
  · rw [h.wf.out _ c1 g] at c2; cases c2
  · omega
theorem rmore_at (r : R) (k : Nat) : (rmore r k).th k = { r.th k with made := (r.th k).made + 1 } := setY_at _ _ _
theorem rmore_ne (r : R) (k j : Nat) (e : j ≠ k) : (rmore r k).th j = r.th j := setY_ne _ _ _ _ e
theorem over_at (r : R) (k : Nat) : (over r k).th k = { r.th k with on := false, made := 0 } := setY_at _ _ _
theorem over_ne (r : R) (k j : Nat) (e : j ≠ k) : (over r k).th j = r.th j := setY_ne _ _ _ _ e
theorem rel25 (h : Rel q r i) (k : Nat) (hk : k < q.n) (hi : i ≤ 100000000000000) (hn : (q.th k).nx = .a25) (hwf : Wf ((stepA q k).fin k)) :
    (rgive (rmore r k) k (mq q)).1 = ((stepA q k).what, (stepA q k).who) ∧ Rel ((stepA q k).fin k) (rgive (rmore r k) k (mq q)).2 (i + 1) := by
  have hR := h.th k hk
  have h1 := hR.nx
  unfold Rn at h1
  rw [hn] at h1
  obtain ⟨ho, hp, hm⟩ := h1
  have e1 : ((rmore r k).th k).made = 1 := by rw [rmore_at]; show (r.th k).made + 1 = 1; omega
  have w0 := h.w0
  have wi := h.wi
  have hws := h.work
  have hss := h.seq
  unfold stepA A.fin at *
  rw [hn] at hwf ⊢
  rw [show rgive (rmore r k) k (mq q) = ((-1, 0), (rmore r k).setW (wrap64 ((rmore r k).work + 1))) from if_pos e1]
  have ew : wrap64 (q.work + 1) = q.work + 1 := wrE _ (by omega) (by omega)
  have ew2 : wrap64 ((rmore r k).work + 1) = q.work + 1 := by show wrap64 (r.work + 1) = _; rw [hws, ew]
  refine ⟨rfl, h.upd k rfl rfl (ew2.trans ew.symm) hss (fun j e => setT_ne _ _ _ _ e) (fun j e => rmore_ne _ _ _ e) (fun j _ _ => rfl) hwf h.b0 (by show 0 ≤ wrap64 (q.work + 1); omega) (by show wrap64 (q.work + 1) ≤ _; omega) ?_⟩
  rw [setT_at, show ((rmore r k).setW (wrap64 ((rmore r k).work + 1))).th k = (rmore r k).th k from rfl, rmore_at]
  exact ⟨hR.pk, hR.idle, And.intro ho (And.intro hp (show (r.th k).made + 1 = 1 by omega)), (fun e => by show _; first | exact .inl rfl | exact .inr (.inl rfl) | exact .inr (.inr (.inl rfl)) | exact .inr (.inr (.inr (.inl rfl))) | exact .inr (.inr (.inr (.inr rfl)))), hR.kk⟩
theorem rel29 (h : Rel q r i) (k : Nat) (hk : k < q.n) (hi : i ≤ 100000000000000) (hn : (q.th k).nx = .a29) (hwf : Wf ((stepA q k).fin k)) :
    (rgive (rmore r k) k (mq q)).1 = ((stepA q k).what, (stepA q k).who) ∧ Rel ((stepA q k).fin k) (rgive (rmore r k) k (mq q)).2 (i + 1) := by
  have hR := h.th k hk
  have h1 := hR.nx
  unfold Rn at h1
  rw [hn] at h1
  obtain ⟨ho, hp, hm⟩ := h1
  have e1 : ((rmore r k).th k).made = 2 := by rw [rmore_at]; show (r.th k).made + 1 = 2; omega
  have w0 := h.w0
  have wi := h.wi
  have hws := h.work
  have hss := h.seq
  unfold stepA A.fin at *
  rw [hn] at hwf ⊢
  rw [show rgive (rmore r k) k (mq q) = ((-1, 0), (rmore r k).setS (wrap64 ((rmore r k).seq + 1))) from by unfold rgive; rw [if_neg (by omega), if_pos e1]]
  refine ⟨rfl, h.upd k rfl rfl hws (by show wrap64 (r.seq + 1) = wrap64 (q.seq + 1); rw [hss]) (fun j e => setT_ne _ _ _ _ e) (fun j e => rmore_ne _ _ _ e) (fun j _ _ => rfl) hwf h.b0 w0 (by show q.work ≤ _; omega) ?_⟩
  rw [setT_at, show ((rmore r k).setS (wrap64 ((rmore r k).seq + 1))).th k = (rmore r k).th k from rfl, rmore_at]
  exact ⟨hR.pk, hR.idle, And.intro ho (And.intro hp (show (r.th k).made + 1 = 2 by omega)), (fun e => by show _; first | exact .inl rfl | exact .inr (.inl rfl) | exact .inr (.inr (.inl rfl)) | exact .inr (.inr (.inr (.inl rfl))) | exact .inr (.inr (.inr (.inr rfl)))), hR.kk⟩
theorem rel33 (h : Rel q r i) (k : Nat) (hk : k < q.n) (hi : i ≤ 100000000000000) (hn : (q.th k).nx = .a33) (hwf : Wf ((stepA q k).fin k)) :
    (rgive (rmore r k) k (mq q)).1 = ((stepA q k).what, (stepA q k).who) ∧ Rel ((stepA q k).fin k) (rgive (rmore r k) k (mq q)).2 (i + 1) := by
  have hR := h.th k hk
  have h1 := hR.nx
  unfold Rn at h1
  rw [hn] at h1
  obtain ⟨ho, hp, hm⟩ := h1
  have e1 : ((rmore r k).th k).made = 3 := by rw [rmore_at]; show (r.th k).made + 1 = 3; omega
  have w0 := h.w0
  have wi := h.wi
  have hws := h.work
  have hss := h.seq
  unfold stepA A.fin at *
  rw [hn] at hwf ⊢
  by_cases e : q.idle = 0
  · rw [show act q k (q.th k) .a33 = ⟨q, .no, 0, 0⟩ from if_pos e] at hwf ⊢
    rw [show rgive (rmore r k) k (mq q) = ((0, 0), over (rmore r k) k) from by unfold rgive; rw [if_neg (by omega), if_neg (by omega), if_pos e1, if_pos (show mq q = 0 from if_pos e)]]
    refine ⟨rfl, h.upd k rfl rfl hws hss (fun j e => setT_ne _ _ _ _ e) (fun j e => (over_ne _ _ _ e).trans (rmore_ne _ _ _ e)) (fun j _ _ => rfl) hwf h.b0 w0 (by show q.work ≤ _; omega) ?_⟩
    rw [setT_at, over_at, rmore_at]
    exact ⟨hR.pk, hR.idle, rfl, (fun e => by show _; first | exact .inl rfl | exact .inr (.inl rfl) | exact .inr (.inr (.inl rfl)) | exact .inr (.inr (.inr (.inl rfl))) | exact .inr (.inr (.inr (.inr rfl)))), hR.kk⟩
  · obtain ⟨m1, m2⟩ := mq_ne h e
    have m3 := mq_lt h e
    rw [show act q k (q.th k) .a33 = ⟨q.setT k ((q.th k).setK (Lib.ctz 64 q.idle)), .a37, -1, 0⟩ from if_neg e] at hwf ⊢
    rw [show rgive (rmore r k) k (mq q) = ((-1, 0), (rmore r k).setY k { (rmore r k).th k with k := mq q }) from by unfold rgive; rw [if_neg (by omega), if_neg (by omega), if_pos e1, if_neg m1]]
    refine ⟨rfl, h.upd k rfl rfl hws hss (fun j e => (setT_ne _ _ _ _ e).trans (setT_ne _ _ _ _ e)) (fun j e => (setY_ne _ _ _ _ e).trans (rmore_ne _ _ _ e)) (fun j _ _ => rfl) hwf h.b0 w0 (by show q.work ≤ _; omega) ?_⟩
    rw [setT_at, setT_at, setY_at, rmore_at, m2]
    exact ⟨hR.pk, hR.idle, And.intro ho (And.intro hp (And.intro (show (r.th k).made + 1 = 3 by omega) rfl)), (fun e => by show _; first | exact .inl rfl | exact .inr (.inl rfl) | exact .inr (.inr (.inl rfl)) | exact .inr (.inr (.inr (.inl rfl))) | exact .inr (.inr (.inr (.inr rfl)))), m3⟩
theorem rel37 (h : Rel q r i) (k : Nat) (hk : k < q.n) (hi : i ≤ 100000000000000) (hn : (q.th k).nx = .a37) (hwf : Wf ((stepA q k).fin k)) :
    (rgive (rmore r k) k (mq q)).1 = ((stepA q k).what, (stepA q k).who) ∧ Rel ((stepA q k).fin k) (rgive (rmore r k) k (mq q)).2 (i + 1) := by
  have hR := h.th k hk
  have h1 := hR.nx
  unfold Rn at h1
  rw [hn] at h1
  obtain ⟨ho, hp, hm, hw⟩ := h1
  have e1 : ((rmore r k).th k).made = 4 := by rw [rmore_at]; show (r.th k).made + 1 = 4; omega
  have w0 := h.w0
  have wi := h.wi
  have hws := h.work
  have hss := h.seq
  unfold stepA A.fin at *
  rw [hn] at hwf ⊢
  have hwn := h.wf.who k hk
  have hw8 : (q.th k).who < 8 := by have := h.wf.n2; omega
  have ekk : ((rmore r k).th k).k = (q.th k).who := by rw [rmore_at]; exact hw
  have hRw := h.th _ hwn
  have eid : ((rmore r k).th ((rmore r k).th k).k).idle = q.idle.testBit (q.th k).who := by
    rw [ekk, ← hRw.idle]
    by_cases e : (q.th k).who = k
    · rw [e, rmore_at]
    · rw [rmore_ne _ _ _ e]
  by_cases e : q.idle.testBit (q.th k).who = true
  · rw [show act q k (q.th k) .a37 = ⟨(q.setI (clr q.idle (q.th k).who)).setT (q.th k).who ((q.th (q.th k).who).setP false), .no, 1, (q.th k).who⟩ from if_pos e] at hwf ⊢
    rw [show rgive (rmore r k) k (mq q) = ((1, ((rmore r k).th k).k), over ((rmore r k).setY ((rmore r k).th k).k { (rmore r k).th ((rmore r k).th k).k with idle := false, pk := false }) k) from by unfold rgive; rw [if_neg (by omega), if_neg (by omega), if_neg (by omega), if_pos (eid.trans e)]]
    rw [ekk]
    dsimp only at hwf ⊢
    refine ⟨rfl, hws, hss, h.n, fun j hj => ?_, hwf, ?_, w0, (show q.work ≤ _ by omega)⟩
    · have hj' : j < q.n := hj
      have hRj := h.th j hj'
      have hj8 : j < 8 := by have := h.wf.n2; omega
      have hbit : (clr q.idle (q.th k).who).testBit j = (!decide (j = (q.th k).who) && q.idle.testBit j) := clr_at _ h.wf.lt _ hw8 j hj8
      show Rl q.n (clr q.idle (q.th k).who) j _ _
      by_cases ek : j = k
      · subst ek
        rw [setT_at, over_at]
        by_cases e3 : j = (q.th j).who
        · rw [← e3]
          rw [setT_at, setY_at, rmore_at]
          exact ⟨rfl, by rw [← e3] at hbit; rw [hbit, decide_eq_true rfl]; rfl, rfl, (fun e => by show _; first | exact .inl rfl | exact .inr (.inl rfl) | exact .inr (.inr (.inl rfl)) | exact .inr (.inr (.inr (.inl rfl))) | exact .inr (.inr (.inr (.inr rfl)))), hRj.kk⟩
        · rw [setT_ne _ _ _ _ e3, setY_ne _ _ _ _ e3, rmore_at]
          exact ⟨hRj.pk, by rw [hbit, decide_eq_false e3]; exact hRj.idle, rfl, (fun e => by show _; first | exact .inl rfl | exact .inr (.inl rfl) | exact .inr (.inr (.inl rfl)) | exact .inr (.inr (.inr (.inl rfl))) | exact .inr (.inr (.inr (.inr rfl)))), hRj.kk⟩
      · rw [setT_ne _ _ _ _ ek, over_ne _ _ _ ek]
        by_cases e3 : j = (q.th k).who
        · rw [← e3] at hbit ⊢
          rw [setT_at, setY_at, rmore_ne _ _ _ ek]
          exact ⟨rfl, by rw [hbit, decide_eq_true rfl]; rfl, hRj.nx, hRj.z, hRj.kk⟩
        · rw [setT_ne _ _ _ _ e3, setY_ne _ _ _ _ e3, rmore_ne _ _ _ ek]
          exact ⟨hRj.pk, by rw [hbit, decide_eq_false e3]; exact hRj.idle, hRj.nx, hRj.z, hRj.kk⟩
    · show (clr q.idle (q.th k).who).testBit 0 = false
      rw [clr_at _ h.wf.lt _ hw8 0 (by omega), h.b0, Bool.and_false]
  · rw [show act q k (q.th k) .a37 = ⟨q, .a33, -1, 0⟩ from if_neg e] at hwf ⊢
    rw [show rgive (rmore r k) k (mq q) = ((-1, 0), (rmore r k).setY k { (rmore r k).th k with made := 2 }) from by unfold rgive; rw [if_neg (by omega), if_neg (by omega), if_neg (by omega), if_neg (by rw [eid]; exact e)]]
    refine ⟨rfl, h.upd k rfl rfl hws hss (fun j e => setT_ne _ _ _ _ e) (fun j e => (setY_ne _ _ _ _ e).trans (rmore_ne _ _ _ e)) (fun j _ _ => rfl) hwf h.b0 w0 (by show q.work ≤ _; omega) ?_⟩
    rw [setT_at, setY_at, rmore_at]
    exact ⟨hR.pk, hR.idle, And.intro ho (And.intro hp rfl), (fun e => by show _; first | exact .inl rfl | exact .inr (.inl rfl) | exact .inr (.inr (.inl rfl)) | exact .inr (.inr (.inr (.inl rfl))) | exact .inr (.inr (.inr (.inr rfl)))), hR.kk⟩
theorem rel26 (h : Rel q r i) (k : Nat) (hk : k < q.n) (hi : i ≤ 100000000000000) (hn : (q.th k).nx = .a26) (hwf : Wf ((stepA q k).fin k)) :
    (rseek (rmore r k) k).1 = (stepA q k).what ∧ (stepA q k).who = 0 ∧ Rel ((stepA q k).fin k) (rseek (rmore r k) k).2 (i + 1) := by
  have hR := h.th k hk
  have k0 : k ≠ 0 := fun e => by rcases hR.z e with a | a | a | a | a <;> rw [hn] at a <;> cases a
  have h1 := hR.nx
  unfold Rn at h1
  rw [hn] at h1
  obtain ⟨ho, hp, hm⟩ := h1
  have e1 : ((rmore r k).th k).made = 1 := by rw [rmore_at]; show (r.th k).made + 1 = 1; omega
  have w0 := h.w0
  have wi := h.wi
  have hws := h.work
  have hss := h.seq
  have hk8 : k < 8 := by have := h.wf.n2; omega
  unfold stepA A.fin at *
  rw [hn] at hwf ⊢
  rw [show act q k (q.th k) .a26 = ⟨q.setT k ((q.th k).setS q.seq), .a30, -1, 0⟩ from rfl] at hwf ⊢
  rw [show rseek (rmore r k) k = (-1, (rmore r k).setY k { (rmore r k).th k with s := (rmore r k).seq }) from if_pos e1]
  refine ⟨rfl, rfl, h.upd k rfl rfl hws hss (fun j e => (setT_ne _ _ _ _ e).trans (setT_ne _ _ _ _ e)) (fun j e => ((setY_ne _ _ _ _ e).trans (rmore_ne _ _ _ e))) (fun j _ _ => rfl) hwf h.b0 w0 (by show q.work ≤ _; omega) ?_⟩
  rw [setT_at, setT_at, setY_at, rmore_at]
  exact ⟨hR.pk, hR.idle, And.intro ho (And.intro hp (And.intro (show (r.th k).made + 1 = 1 by omega) hss)), (fun e => absurd e k0), hR.kk⟩
theorem rel30 (h : Rel q r i) (k : Nat) (hk : k < q.n) (hi : i ≤ 100000000000000) (hn : (q.th k).nx = .a30) (hwf : Wf ((stepA q k).fin k)) :
    (rseek (rmore r k) k).1 = (stepA q k).what ∧ (stepA q k).who = 0 ∧ Rel ((stepA q k).fin k) (rseek (rmore r k) k).2 (i + 1) := by
  have hR := h.th k hk
  have k0 : k ≠ 0 := fun e => by rcases hR.z e with a | a | a | a | a <;> rw [hn] at a <;> cases a
  have h1 := hR.nx
  unfold Rn at h1
  rw [hn] at h1
  obtain ⟨ho, hp, hm, hs⟩ := h1
  have e1 : ((rmore r k).th k).made = 2 := by rw [rmore_at]; show (r.th k).made + 1 = 2; omega
  have w0 := h.w0
  have wi := h.wi
  have hws := h.work
  have hss := h.seq
  have hk8 : k < 8 := by have := h.wf.n2; omega
  unfold stepA A.fin at *
  rw [hn] at hwf ⊢
  rw [show rseek (rmore r k) k = (-1, (rmore r k).setY k { (rmore r k).th k with v := (rmore r k).work }) from by unfold rseek; rw [if_neg (by omega), if_pos e1]]
  by_cases e : 0 < q.work
  · rw [show act q k (q.th k) .a30 = ⟨q.setT k ((q.th k).setW q.work), .a34, -1, 0⟩ from if_pos e] at hwf ⊢
    refine ⟨rfl, rfl, h.upd k rfl rfl hws hss (fun j e => (setT_ne _ _ _ _ e).trans (setT_ne _ _ _ _ e)) (fun j e => ((setY_ne _ _ _ _ e).trans (rmore_ne _ _ _ e))) (fun j _ _ => rfl) hwf h.b0 w0 (by show q.work ≤ _; omega) ?_⟩
    rw [setT_at, setT_at, setY_at, rmore_at]
    exact ⟨hR.pk, hR.idle, And.intro ho (And.intro hp (And.intro (show (r.th k).made + 1 = 2 by omega) (And.intro hs (And.intro hws e)))), (fun e => absurd e k0), hR.kk⟩
  · rw [show act q k (q.th k) .a30 = ⟨q.setT k ((q.th k).setW q.work), .a35, -1, 0⟩ from if_neg e] at hwf ⊢
    refine ⟨rfl, rfl, h.upd k rfl rfl hws hss (fun j e => (setT_ne _ _ _ _ e).trans (setT_ne _ _ _ _ e)) (fun j e => ((setY_ne _ _ _ _ e).trans (rmore_ne _ _ _ e))) (fun j _ _ => rfl) hwf h.b0 w0 (by show q.work ≤ _; omega) ?_⟩
    rw [setT_at, setT_at, setY_at, rmore_at]
    exact ⟨hR.pk, hR.idle, And.intro ho (And.intro hp (And.intro (show (r.th k).made + 1 = 2 by omega) (And.intro hs (show r.work = 0 by omega)))), (fun e => absurd e k0), hR.kk⟩
theorem rel34 (h : Rel q r i) (k : Nat) (hk : k < q.n) (hi : i ≤ 100000000000000) (hn : (q.th k).nx = .a34) (hwf : Wf ((stepA q k).fin k)) :
    (rseek (rmore r k) k).1 = (stepA q k).what ∧ (stepA q k).who = 0 ∧ Rel ((stepA q k).fin k) (rseek (rmore r k) k).2 (i + 1) := by
  have hR := h.th k hk
  have k0 : k ≠ 0 := fun e => by rcases hR.z e with a | a | a | a | a <;> rw [hn] at a <;> cases a
  have h1 := hR.nx
  unfold Rn at h1
  rw [hn] at h1
  obtain ⟨ho, hp, hm, hs, hv, hx⟩ := h1
  have e1 : ((rmore r k).th k).made = 3 := by rw [rmore_at]; show (r.th k).made + 1 = 3; omega
  have w0 := h.w0
  have wi := h.wi
  have hws := h.work
  have hss := h.seq
  have hk8 : k < 8 := by have := h.wf.n2; omega
  unfold stepA A.fin at *
  rw [hn] at hwf ⊢
  have ev : ((rmore r k).th k).v = (q.th k).work := by rw [rmore_at]; exact hv
  by_cases e : q.work = (q.th k).work
  · rw [show act q k (q.th k) .a34 = ⟨q.setW (wrap64 (q.work - 1)), .no, 2, 0⟩ from if_pos e] at hwf ⊢
    rw [show rseek (rmore r k) k = (2, over ((rmore r k).setW (wrap64 ((rmore r k).work - 1))) k) from by unfold rseek; rw [if_neg (by omega), if_neg (by omega), if_pos e1, if_neg (by omega), if_pos (by rw [ev]; exact hws.trans e)]]
    have ew : wrap64 (q.work - 1) = q.work - 1 := wrE _ (by omega) (by omega)
    have ew2 : wrap64 ((rmore r k).work - 1) = q.work - 1 := by show wrap64 (r.work - 1) = _; rw [hws, ew]
    refine ⟨rfl, rfl, h.upd k rfl rfl (ew2.trans ew.symm) hss (fun j e => setT_ne _ _ _ _ e) (fun j e => (over_ne _ _ _ e).trans (rmore_ne _ _ _ e)) (fun j _ _ => rfl) hwf h.b0 (by show 0 ≤ wrap64 (q.work - 1); omega) (by show wrap64 (q.work - 1) ≤ _; omega) ?_⟩
    rw [setT_at, over_at, show ((rmore r k).setW (wrap64 ((rmore r k).work - 1))).th k = (rmore r k).th k from rfl, rmore_at]
    exact ⟨hR.pk, hR.idle, rfl, (fun e => absurd e k0), hR.kk⟩
  · rw [show act q k (q.th k) .a34 = ⟨q, .a26, -1, 0⟩ from if_neg e] at hwf ⊢
    rw [show rseek (rmore r k) k = (-1, (rmore r k).setY k { (rmore r k).th k with made := 0 }) from by unfold rseek; rw [if_neg (by omega), if_neg (by omega), if_pos e1, if_neg (by omega), if_neg (by rw [ev]; exact fun c => e (hws.symm.trans c))]]
    refine ⟨rfl, rfl, h.upd k rfl rfl hws hss (fun j e => (setT_ne _ _ _ _ e)) (fun j e => ((setY_ne _ _ _ _ e).trans (rmore_ne _ _ _ e))) (fun j _ _ => rfl) hwf h.b0 w0 (by show q.work ≤ _; omega) ?_⟩
    rw [setT_at, setY_at, rmore_at]
    exact ⟨hR.pk, hR.idle, And.intro ho (And.intro hp rfl), (fun e => absurd e k0), hR.kk⟩
theorem rel35 (h : Rel q r i) (k : Nat) (hk : k < q.n) (hi : i ≤ 100000000000000) (hn : (q.th k).nx = .a35) (hwf : Wf ((stepA q k).fin k)) :
    (rseek (rmore r k) k).1 = (stepA q k).what ∧ (stepA q k).who = 0 ∧ Rel ((stepA q k).fin k) (rseek (rmore r k) k).2 (i + 1) := by
  have hR := h.th k hk
  have k0 : k ≠ 0 := fun e => by rcases hR.z e with a | a | a | a | a <;> rw [hn] at a <;> cases a
  have h1 := hR.nx
  unfold Rn at h1
  rw [hn] at h1
  obtain ⟨ho, hp, hm, hs, hv⟩ := h1
  have e1 : ((rmore r k).th k).made = 3 := by rw [rmore_at]; show (r.th k).made + 1 = 3; omega
  have w0 := h.w0
  have wi := h.wi
  have hws := h.work
  have hss := h.seq
  have hk8 : k < 8 := by have := h.wf.n2; omega
  unfold stepA A.fin at *
  rw [hn] at hwf ⊢
  have ev : ((rmore r k).th k).v = 0 := by rw [rmore_at]; exact hv
  rw [show act q k (q.th k) .a35 = ⟨q.setI (bset q.idle k), .a38, -1, 0⟩ from rfl] at hwf ⊢
  rw [show rseek (rmore r k) k = (-1, (rmore r k).setY k { (rmore r k).th k with idle := true }) from by unfold rseek; rw [if_neg (by omega), if_neg (by omega), if_pos e1, if_pos ev]]
  refine ⟨rfl, rfl, h.upd k rfl rfl hws hss (fun j e => setT_ne _ _ _ _ e) (fun j e => (setY_ne _ _ _ _ e).trans (rmore_ne _ _ _ e)) (fun j h1 h2 => by show (bset q.idle k).testBit j = _; rw [bset_at _ h.wf.lt k hk8 j h1, decide_eq_false h2]; rfl) hwf (by show (bset q.idle k).testBit 0 = _; rw [bset_at _ h.wf.lt k hk8 0 (by omega), h.b0, decide_eq_false (Ne.symm k0)]; rfl) w0 (by show q.work ≤ _; omega) ?_⟩
  rw [setT_at, setY_at, rmore_at]
  exact ⟨hR.pk, by show true = (bset q.idle k).testBit k; rw [bset_at _ h.wf.lt k hk8 k hk8, decide_eq_true rfl]; rfl, And.intro ho (And.intro hp (And.intro (show (r.th k).made + 1 = 3 by omega) hs)), (fun e => absurd e k0), hR.kk⟩
theorem rel38 (h : Rel q r i) (k : Nat) (hk : k < q.n) (hi : i ≤ 100000000000000) (hn : (q.th k).nx = .a38) (hwf : Wf ((stepA q k).fin k)) :
    (rseek (rmore r k) k).1 = (stepA q k).what ∧ (stepA q k).who = 0 ∧ Rel ((stepA q k).fin k) (rseek (rmore r k) k).2 (i + 1) := by
  have hR := h.th k hk
  have k0 : k ≠ 0 := fun e => by rcases hR.z e with a | a | a | a | a <;> rw [hn] at a <;> cases a
  have h1 := hR.nx
  unfold Rn at h1
  rw [hn] at h1
  obtain ⟨ho, hp, hm, hs⟩ := h1
  have e1 : ((rmore r k).th k).made = 4 := by rw [rmore_at]; show (r.th k).made + 1 = 4; omega
  have w0 := h.w0
  have wi := h.wi
  have hws := h.work
  have hss := h.seq
  have hk8 : k < 8 := by have := h.wf.n2; omega
  unfold stepA A.fin at *
  rw [hn] at hwf ⊢
  have es : ((rmore r k).th k).s = (q.th k).seq := by rw [rmore_at]; exact hs
  rw [show rseek (rmore r k) k = (-1, (rmore r k).setY k { (rmore r k).th k with same := ((rmore r k).seq == ((rmore r k).th k).s) }) from by unfold rseek; rw [if_neg (by omega), if_neg (by omega), if_neg (by omega), if_pos e1]]
  by_cases e : q.seq = (q.th k).seq
  · rw [show act q k (q.th k) .a38 = ⟨q, .a42, -1, 0⟩ from if_pos e] at hwf ⊢
    refine ⟨rfl, rfl, h.upd k rfl rfl hws hss (fun j e => (setT_ne _ _ _ _ e)) (fun j e => ((setY_ne _ _ _ _ e).trans (rmore_ne _ _ _ e))) (fun j _ _ => rfl) hwf h.b0 w0 (by show q.work ≤ _; omega) ?_⟩
    rw [setT_at, setY_at, rmore_at]
    exact ⟨hR.pk, hR.idle, And.intro ho (And.intro hp (And.intro (show (r.th k).made + 1 = 4 by omega) (show (r.seq == (r.th k).s) = true by rw [hss, hs]; simpa using e))), (fun e => absurd e k0), hR.kk⟩
  · rw [show act q k (q.th k) .a38 = ⟨q, .a41, -1, 0⟩ from if_neg e] at hwf ⊢
    refine ⟨rfl, rfl, h.upd k rfl rfl hws hss (fun j e => (setT_ne _ _ _ _ e)) (fun j e => ((setY_ne _ _ _ _ e).trans (rmore_ne _ _ _ e))) (fun j _ _ => rfl) hwf h.b0 w0 (by show q.work ≤ _; omega) ?_⟩
    rw [setT_at, setY_at, rmore_at]
    exact ⟨hR.pk, hR.idle, And.intro ho (And.intro hp (And.intro (show (r.th k).made + 1 = 4 by omega) (show (r.seq == (r.th k).s) = false by rw [hss, hs]; simpa using e))), (fun e => absurd e k0), hR.kk⟩
theorem rel42 (h : Rel q r i) (k : Nat) (hk : k < q.n) (hi : i ≤ 100000000000000) (hn : (q.th k).nx = .a42) (hwf : Wf ((stepA q k).fin k)) :
    (rseek (rmore r k) k).1 = (stepA q k).what ∧ (stepA q k).who = 0 ∧ Rel ((stepA q k).fin k) (rseek (rmore r k) k).2 (i + 1) := by
  have hR := h.th k hk
  have k0 : k ≠ 0 := fun e => by rcases hR.z e with a | a | a | a | a <;> rw [hn] at a <;> cases a
  have h1 := hR.nx
  unfold Rn at h1
  rw [hn] at h1
  obtain ⟨ho, hp, hm, hs⟩ := h1
  have e1 : ((rmore r k).th k).made = 5 := by rw [rmore_at]; show (r.th k).made + 1 = 5; omega
  have w0 := h.w0
  have wi := h.wi
  have hws := h.work
  have hss := h.seq
  have hk8 : k < 8 := by have := h.wf.n2; omega
  unfold stepA A.fin at *
  rw [hn] at hwf ⊢
  have es : ((rmore r k).th k).same = true := by rw [rmore_at]; exact hs
  have ei : ((rmore r k).th k).idle = q.idle.testBit k := by rw [rmore_at]; exact hR.idle
  by_cases e : q.idle.testBit k = true
  · rw [show act q k (q.th k) .a42 = ⟨q.setT k ((q.th k).setP true), .no, 3, 0⟩ from if_pos e] at hwf ⊢
    rw [show rseek (rmore r k) k = (3, over ((rmore r k).setY k { (rmore r k).th k with pk := true }) k) from by unfold rseek; rw [if_neg (by omega), if_neg (by omega), if_neg (by omega), if_neg (by omega), if_pos ⟨es, ei.trans e⟩]]
    refine ⟨rfl, rfl, h.upd k rfl rfl hws hss (fun j e => (setT_ne _ _ _ _ e).trans (setT_ne _ _ _ _ e)) (fun j e => ((over_ne _ _ _ e).trans ((setY_ne _ _ _ _ e).trans (rmore_ne _ _ _ e)))) (fun j _ _ => rfl) hwf h.b0 w0 (by show q.work ≤ _; omega) ?_⟩
    rw [setT_at, setT_at, over_at, setY_at, rmore_at]
    exact ⟨rfl, hR.idle, rfl, (fun e => absurd e k0), hR.kk⟩
  · rw [show act q k (q.th k) .a42 = ⟨q, .no, 4, 0⟩ from if_neg e] at hwf ⊢
    rw [show rseek (rmore r k) k = (4, over ((rmore r k).setY k { (rmore r k).th k with idle := false }) k) from by unfold rseek; rw [if_neg (by omega), if_neg (by omega), if_neg (by omega), if_neg (by omega), if_neg (fun c => e (ei.symm.trans c.2))]]
    refine ⟨rfl, rfl, h.upd k rfl rfl hws hss (fun j e => (setT_ne _ _ _ _ e)) (fun j e => ((over_ne _ _ _ e).trans ((setY_ne _ _ _ _ e).trans (rmore_ne _ _ _ e)))) (fun j _ _ => rfl) hwf h.b0 w0 (by show q.work ≤ _; omega) ?_⟩
    rw [setT_at, over_at, setY_at, rmore_at]
    exact ⟨hR.pk, by show false = q.idle.testBit k; simpa using e, rfl, (fun e => absurd e k0), hR.kk⟩
theorem rel41 (h : Rel q r i) (k : Nat) (hk : k < q.n) (hi : i ≤ 100000000000000) (hn : (q.th k).nx = .a41) (hwf : Wf ((stepA q k).fin k)) :
    (rseek (rmore r k) k).1 = (stepA q k).what ∧ (stepA q k).who = 0 ∧ Rel ((stepA q k).fin k) (rseek (rmore r k) k).2 (i + 1) := by
  have hR := h.th k hk
  have k0 : k ≠ 0 := fun e => by rcases hR.z e with a | a | a | a | a <;> rw [hn] at a <;> cases a
  have h1 := hR.nx
  unfold Rn at h1
  rw [hn] at h1
  obtain ⟨ho, hp, hm, hs⟩ := h1
  have e1 : ((rmore r k).th k).made = 5 := by rw [rmore_at]; show (r.th k).made + 1 = 5; omega
  have w0 := h.w0
  have wi := h.wi
  have hws := h.work
  have hss := h.seq
  have hk8 : k < 8 := by have := h.wf.n2; omega
  unfold stepA A.fin at *
  rw [hn] at hwf ⊢
  have es : ((rmore r k).th k).same = false := by rw [rmore_at]; exact hs
  rw [show act q k (q.th k) .a41 = ⟨q.setI (clr q.idle k), .no, 4, 0⟩ from rfl] at hwf ⊢
  rw [show rseek (rmore r k) k = (4, over ((rmore r k).setY k { (rmore r k).th k with idle := false }) k) from by unfold rseek; rw [if_neg (by omega), if_neg (by omega), if_neg (by omega), if_neg (by omega), if_neg (fun c => by rw [es] at c; exact absurd c.1 (by decide))]]
  refine ⟨rfl, rfl, h.upd k rfl rfl hws hss (fun j e => setT_ne _ _ _ _ e) (fun j e => (over_ne _ _ _ e).trans ((setY_ne _ _ _ _ e).trans (rmore_ne _ _ _ e))) (fun j h1 h2 => by show (clr q.idle k).testBit j = _; rw [clr_at _ h.wf.lt k hk8 j h1, decide_eq_false h2]; rfl) hwf (by show (clr q.idle k).testBit 0 = _; rw [clr_at _ h.wf.lt k hk8 0 (by omega), h.b0, Bool.and_false]) w0 (by show q.work ≤ _; omega) ?_⟩
  rw [setT_at, over_at, setY_at, rmore_at]
  exact ⟨hR.pk, by show false = (clr q.idle k).testBit k; rw [clr_at _ h.wf.lt k hk8 k hk8, decide_eq_true rfl]; rfl, rfl, (fun e => absurd e k0), hR.kk⟩
theorem rel_step (h : Rel q r i) (k : Int) (hi : i ≤ 100000000000000) : (rstep r k (mq q)).1 = (step q k).1 ∧ Rel (step q k).2 (rstep r k (mq q)).2 (i + 1) := by
  have more : ∀ {q r i}, Rel q r i → Rel q r (i + 1) := fun h => { h with wi := by have := h.wi; omega }
  have hws := wf_step h.wf k
  by_cases h1 : 0 ≤ k ∧ k < (q.n : Int)
  · obtain ⟨n, rfl⟩ : ∃ n : Nat, k = n := ⟨k.toNat, by omega⟩
    have hn : n < q.n := by omega
    have hR := h.th n hn
    have hon := rn_on hR.nx
    have h1' : ¬ ¬ (0 ≤ (n : Int) ∧ (n : Int) < (q.n : Int)) := fun c => c h1
    have hs1 : step q n = (if (q.th n).nx = .no then ((0, 0, 13), q) else (((stepA q n).what, (stepA q n).who, 0), (stepA q n).fin n)) := by
      unfold step
      rw [if_neg h1', Int.toNat_natCast]
    have hs2 : rstep r n (mq q) = (if (r.th n).on = false then ((0, 0, 13), r) else if (r.th n).op = 0 then (((rgive (rmore r n) n (mq q)).1.1, (rgive (rmore r n) n (mq q)).1.2, 0), (rgive (rmore r n) n (mq q)).2) else (((rseek (rmore r n) n).1, 0, 0), (rseek (rmore r n) n).2)) := by
      unfold rstep
      rw [h.n, if_neg h1', Int.toNat_natCast]
    rw [hs1] at hws ⊢
    rw [hs2]
    clear hs1 hs2
    by_cases h2 : (q.th n).nx = .no
    · rw [if_pos h2]
      rw [if_pos (by rw [hon, h2]; rfl)]
      exact ⟨rfl, more h⟩
    · rw [if_neg h2] at hws ⊢
      rw [if_neg (by rw [hon, decide_eq_true h2]; decide)]
      have hm := hR.nx
      unfold Rn at hm
      cases hx : (q.th n).nx with
      | no => exact absurd hx h2
      | a25 =>
        rw [hx] at hm
        rw [if_pos hm.2.1]
        obtain ⟨a, b⟩ := rel25 h n hn hi hx hws
        exact ⟨by dsimp only; rw [a], b⟩
      | a29 =>
        rw [hx] at hm
        rw [if_pos hm.2.1]
        obtain ⟨a, b⟩ := rel29 h n hn hi hx hws
        exact ⟨by dsimp only; rw [a], b⟩
      | a33 =>
        rw [hx] at hm
        rw [if_pos hm.2.1]
        obtain ⟨a, b⟩ := rel33 h n hn hi hx hws
        exact ⟨by dsimp only; rw [a], b⟩
      | a37 =>
        rw [hx] at hm
        rw [if_pos hm.2.1]
        obtain ⟨a, b⟩ := rel37 h n hn hi hx hws
        exact ⟨by dsimp only; rw [a], b⟩
      | a26 =>
        rw [hx] at hm
        rw [if_neg (by have := hm.2.1; omega)]
        obtain ⟨a, b, d⟩ := rel26 h n hn hi hx hws
        exact ⟨by dsimp only; rw [a, b], d⟩
      | a30 =>
        rw [hx] at hm
        rw [if_neg (by have := hm.2.1; omega)]
        obtain ⟨a, b, d⟩ := rel30 h n hn hi hx hws
        exact ⟨by dsimp only; rw [a, b], d⟩
      | a34 =>
        rw [hx] at hm
        rw [if_neg (by have := hm.2.1; omega)]
        obtain ⟨a, b, d⟩ := rel34 h n hn hi hx hws
        exact ⟨by dsimp only; rw [a, b], d⟩
      | a35 =>
        rw [hx] at hm
        rw [if_neg (by have := hm.2.1; omega)]
        obtain ⟨a, b, d⟩ := rel35 h n hn hi hx hws
        exact ⟨by dsimp only; rw [a, b], d⟩
      | a38 =>
        rw [hx] at hm
        rw [if_neg (by have := hm.2.1; omega)]
        obtain ⟨a, b, d⟩ := rel38 h n hn hi hx hws
        exact ⟨by dsimp only; rw [a, b], d⟩
      | a41 =>
        rw [hx] at hm
        rw [if_neg (by have := hm.2.1; omega)]
        obtain ⟨a, b, d⟩ := rel41 h n hn hi hx hws
        exact ⟨by dsimp only; rw [a, b], d⟩
      | a42 =>
        rw [hx] at hm
        rw [if_neg (by have := hm.2.1; omega)]
        obtain ⟨a, b, d⟩ := rel42 h n hn hi hx hws
        exact ⟨by dsimp only; rw [a, b], d⟩
  · unfold step rstep
    rw [if_pos h1, if_pos (by rw [h.n]; exact h1)]
    exact ⟨rfl, more h⟩
theorem rel_begin (h : Rel q r i) (k op : Int) : (rbegin r k op).1 = (begin q k op).1 ∧ Rel (begin q k op).2 (rbegin r k op).2 i := by
  have hwb := wf_begin h.wf k op
  have hrn := h.n
  unfold begin rbegin at *
  by_cases h1 : ¬ (0 ≤ k ∧ k < (q.n : Int)) ∨ (op ≠ 0 ∧ op ≠ 1) ∨ (op = 1 ∧ k = 0)
  · rw [if_pos h1, if_pos (by rw [hrn]; exact h1)]
    exact ⟨rfl, h⟩
  · rw [if_neg h1] at hwb ⊢
    rw [if_neg (by rw [hrn]; exact h1)]
    obtain ⟨n, rfl⟩ : ∃ n : Nat, k = n := ⟨k.toNat, by omega⟩
    have hn : n < q.n := by omega
    have hR := h.th n hn
    have hon := rn_on hR.nx
    rw [Int.toNat_natCast] at hwb ⊢
    rw [hR.pk, hon]
    by_cases h2 : (q.th n).pk = true
    · rw [if_pos h2, if_pos h2]
      exact ⟨rfl, h⟩
    · rw [if_neg h2] at hwb
      rw [if_neg h2, if_neg h2]
      by_cases h3 : (q.th n).nx ≠ .no
      · rw [if_pos h3, if_pos (decide_eq_true h3)]
        exact ⟨rfl, h⟩
      · rw [if_neg h3] at hwb ⊢
        rw [if_neg (by simpa using h3)]
        refine ⟨rfl, h.upd n rfl rfl h.work h.seq (fun j e => setT_ne _ _ _ _ e) (fun j e => setY_ne _ _ _ _ e) (fun j _ _ => rfl) hwb h.b0 h.w0 h.wi ?_⟩
        rw [setT_at, setY_at]
        by_cases h4 : op = 1
        · subst h4
          rw [if_pos rfl]
          exact ⟨hR.pk, hR.idle, And.intro rfl (And.intro rfl rfl), fun e => absurd (.inr (.inr ⟨rfl, by omega⟩)) h1, hR.kk⟩
        · rw [if_neg h4]
          exact ⟨hR.pk, hR.idle, And.intro rfl (And.intro (show op = 0 by omega) rfl), fun _ => .inr (.inl rfl), hR.kk⟩
end
theorem rel_new (s : Int) : Rel (Q0 (nw s + 1)) (R0 (nw s + 1)) 0 := by
  have h1 := nw_lo s
  have h2 := nw_hi s
  exact ⟨rfl, rfl, rfl, fun j hj => ⟨rfl, (Nat.zero_testBit j).symm, rfl, fun _ => .inl rfl, by show 0 < nw s + 1; omega⟩, wf0 _ (by omega) (by omega), Nat.zero_testBit _, Int.le_refl _, Int.le_refl _⟩
theorem rel_ok {q : Q} {r : R} {i : Nat} (h : Rel q r i) : ∀ j, j < r.n → (r.th j).on = true → (r.th j).k < r.n ∧ (((r.th j).op = 0 ∧ ((r.th j).made = 0 ∨ (r.th j).made = 1 ∨ (r.th j).made = 2 ∨ (r.th j).made = 3)) ∨ ((r.th j).op = 1 ∧ ((r.th j).made = 0 ∨ (r.th j).made = 1 ∨ (r.th j).made = 2 ∨ (r.th j).made = 3 ∨ (r.th j).made = 4))) := by
  rw [h.n]
  exact fun j hj ho => ⟨(h.th j hj).kk, rn_ok (h.th j hj).nx ho⟩
end Go.Proofs.YtpmkdhaponhacaaDoor
