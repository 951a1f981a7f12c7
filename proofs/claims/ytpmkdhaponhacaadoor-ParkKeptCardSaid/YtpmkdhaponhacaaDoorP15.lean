/- The law Counts: the plain part. -/
import Derived.Test.YtpmkdhaponhacaaDoorP14
namespace Go.Proofs.YtpmkdhaponhacaaDoor
open Go.RowKit
set_option linter.unusedVariables false
set_option linter.unusedSimpArgs false
structure Ok (n k : Nat) (x : T) : Prop where
  who : x.who < n
  a25 : x.nx ≠ .a25
  a34 : x.nx = .a34 → 0 < x.work
  a37 : x.nx = .a37 → 1 ≤ x.who
  z : k = 0 → x.nx = .no ∨ x.nx = .a29 ∨ x.nx = .a33 ∨ x.nx = .a37
/-- all but thread k is in order -/
structure Bk (q : Q) (k i : Nat) : Prop where
  th : ∀ j, j < q.n → j ≠ k → Ok q.n j (q.th j)
  out : ∀ j, j < 8 → q.n ≤ j → q.idle.testBit j = false
  lt : q.idle < 256
  b0 : q.idle.testBit 0 = false
  n1 : 2 ≤ q.n
  n2 : q.n ≤ 8
  w0 : 0 ≤ q.work
  wi : q.work ≤ i
/-- between two rows -/
structure Ct (q : Q) (i : Nat) : Prop where
  b : Bk q 0 i
  o : Ok q.n 0 (q.th 0)
theorem Ct.ok {q : Q} {i : Nat} (h : Ct q i) (j : Nat) (hj : j < q.n) : Ok q.n j (q.th j) := by
  by_cases e : j = 0
  · subst e; exact h.o
  · exact h.b.th j hj e
theorem Ct.bk {q : Q} {i : Nat} (h : Ct q i) (k : Nat) : Bk q k i := { h.b with th := fun j hj _ => h.ok j hj }
theorem Bk.fin {q : Q} {k i : Nat} (h : Bk q k i) {y : T} (hy : Ok q.n k y) : Ct (q.setT k y) i := by
  have all : ∀ j, j < q.n → Ok q.n j ((q.setT k y).th j) := fun j hj => by
    by_cases e : j = k
    · subst e; rw [setT_at]; exact hy
    · rw [setT_ne _ _ _ _ e]; exact h.th j hj e
  exact ⟨{ h with th := fun j hj _ => all j hj }, all 0 (by have := h.n1; omega)⟩
theorem Bk.setT {q : Q} {k i : Nat} (h : Bk q k i) (y : T) : Bk (q.setT k y) k i := { h with th := fun j hj hn => by rw [setT_ne _ _ _ _ hn]; exact h.th j hj hn }
theorem Bk.more {q : Q} {k i i' : Nat} (h : Bk q k i) (e : i ≤ i') : Bk q k i' := { h with wi := by have := h.wi; omega }
theorem Bk.work {q : Q} {k i : Nat} (h : Bk q k i) (i' : Nat) (v : Int) (h0 : 0 ≤ v) (h1 : v ≤ i') : Bk (q.setW v) k i' := { h with w0 := h0, wi := h1 }
theorem Bk.seq {q : Q} {k i : Nat} (h : Bk q k i) (v : Int) : Bk (q.setS v) k i := { h with }
theorem Bk.idle {q : Q} {k i : Nat} (h : Bk q k i) (v : Nat) (h1 : ∀ j, j < 8 → q.n ≤ j → v.testBit j = false) (h2 : v < 256) (h3 : v.testBit 0 = false) : Bk (q.setI v) k i := { h with out := h1, lt := h2, b0 := h3 }
theorem Bk.clr {q : Q} {k i : Nat} (h : Bk q k i) (c : Nat) (hc : c < 8) : Bk (q.setI (clr q.idle c)) k i :=
  h.idle _ (fun j hj hn => by rw [clr_at _ h.lt c hc j hj, h.out j hj hn, Bool.and_false]) (clr_lt _ h.lt c hc) (by rw [clr_at _ h.lt c hc 0 (by omega), h.b0, Bool.and_false])
theorem Bk.bset {q : Q} {k i : Nat} (h : Bk q k i) (c : Nat) (hc : c < q.n) (c0 : c ≠ 0) : Bk (q.setI (bset q.idle c)) k i :=
  h.idle _ (fun j hj hn => by rw [bset_at _ h.lt c (by have := h.n2; omega) j hj, h.out j hj hn, decide_eq_false (by omega)]; rfl) (bset_lt _ h.lt c (by have := h.n2; omega)) (by rw [bset_at _ h.lt c (by have := h.n2; omega) 0 (by omega), h.b0, decide_eq_false (by omega)]; rfl)
theorem Bk.wake {q : Q} {k i : Nat} (h : Bk q k i) (c : Nat) : Bk (q.setT c ((q.th c).setP false)) k i := by
  have all : ∀ j, j < q.n → j ≠ k → Ok q.n j ((q.setT c ((q.th c).setP false)).th j) := fun j hj hn => by
    by_cases e : j = c
    · subst e
      rw [setT_at]
      have o := h.th j hj hn
      exact ⟨o.who, o.a25, o.a34, o.a37, o.z⟩
    · rw [setT_ne _ _ _ _ e]; exact h.th j hj hn
  exact { h with th := all }
theorem pk_set (q : Q) (k : Nat) (y : T) (h : y.pk = (q.th k).pk) (j : Nat) : ((q.setT k y).th j).pk = (q.th j).pk := by
  by_cases e : j = k
  · subst e; rw [setT_at]; exact h
  · rw [setT_ne _ _ _ _ e]
theorem pk_setN (q : Q) (k : Nat) (nx : Nx) (j : Nat) : ((q.setT k ((q.th k).setN nx)).th j).pk = (q.th j).pk := pk_set q k ((q.th k).setN nx) rfl j
/-- what a step leaves -/
structure Cs (q q2 : Q) (k i : Nat) (inc what : Int) (who : Nat) : Prop where
  ct : Ct q2 (i + 1)
  n : q2.n = q.n
  work : q2.work = q.work + inc - (if what = 2 then 1 else 0)
  pk : ∀ j, j < q.n → (q2.th j).pk = (if what = 3 ∧ j = k then true else if what = 1 ∧ j = who then false else (q.th j).pk)
  who : (what = 1 ∧ 1 ≤ who ∧ who < q.n) ∨ (what ≠ 1 ∧ who = 0)
theorem ct_step {q : Q} {k i : Nat} (h : Bk q k i) (hk : k < q.n) (hi : i ≤ 100000000000000) (hx : (q.th k).nx ≠ .no) (hw : (q.th k).who < q.n) (h34 : (q.th k).nx = .a34 → 0 < (q.th k).work) (h37 : (q.th k).nx = .a37 → 1 ≤ (q.th k).who)
    (h0 : k = 0 → (q.th k).nx = .a25 ∨ (q.th k).nx = .a29 ∨ (q.th k).nx = .a33 ∨ (q.th k).nx = .a37) :
    ∃ what who q2, step q (k : Int) = ((what, who, 0), q2) ∧ Cs q q2 k i (if (q.th k).nx = .a25 then 1 else 0) what who := by
  have hst : step q (k : Int) = (((stepA q k).what, (stepA q k).who, 0), (stepA q k).fin k) := by
    unfold step
    rw [if_neg (by omega), Int.toNat_natCast, if_neg hx]
  refine ⟨_, _, _, hst, ?_⟩
  unfold stepA A.fin
  generalize hX : q.th k = x at *
  have wb := h.w0
  have wb2 := h.wi
  have n2 := h.n2
  cases hn : x.nx with
  | no => exact absurd hn hx
  | a25 =>
    have e : wrap64 (q.work + 1) = q.work + 1 := by unfold wrap64; omega
    refine ⟨(h.work (i + 1) (wrap64 (q.work + 1)) (by rw [e]; omega) (by rw [e]; omega)).fin ?_, rfl, ?_, fun j hj => ?_, .inr ⟨by show (-1 : Int) ≠ 1; decide, rfl⟩⟩
    · show Ok q.n k ((q.th k).setN .a29)
      rw [hX]; exact ⟨hw, by show Nx.a29 ≠ _; decide, (fun e => by cases e), (fun e => by cases e), fun _ => .inr (.inl rfl)⟩
    · show wrap64 (q.work + 1) = _
      rw [e, if_pos rfl, if_neg (by show (-1 : Int) ≠ 2; decide)]; omega
    · rw [if_neg (fun c => absurd c.1 (by show (-1 : Int) ≠ 3; decide)), if_neg (fun c => absurd c.1 (by show (-1 : Int) ≠ 1; decide))]
      exact pk_setN _ k _ j
  | a29 =>
    refine ⟨((h.seq _).more (Nat.le_succ i)).fin ?_, rfl, ?_, fun j hj => ?_, .inr ⟨by show (-1 : Int) ≠ 1; decide, rfl⟩⟩
    · show Ok q.n k ((q.th k).setN .a33)
      rw [hX]; exact ⟨hw, by show Nx.a33 ≠ _; decide, (fun e => by cases e), (fun e => by cases e), fun _ => .inr (.inr (.inl rfl))⟩
    · show q.work = _
      rw [if_neg (by decide), if_neg (by show (-1 : Int) ≠ 2; decide)]; omega
    · rw [if_neg (fun c => absurd c.1 (by show (-1 : Int) ≠ 3; decide)), if_neg (fun c => absurd c.1 (by show (-1 : Int) ≠ 1; decide))]
      exact pk_setN _ k _ j
  | a33 =>
    by_cases hid0 : q.idle = 0
    · rw [show act q k x .a33 = ⟨q, .no, 0, 0⟩ from if_pos hid0]
      refine ⟨(h.more (Nat.le_succ i)).fin ?_, rfl, ?_, fun j hj => ?_, .inr ⟨by show (0 : Int) ≠ 1; decide, rfl⟩⟩
      · show Ok q.n k ((q.th k).setN .no)
        rw [hX]; exact ⟨hw, by show Nx.no ≠ _; decide, (fun e => by cases e), (fun e => by cases e), fun _ => .inl rfl⟩
      · show q.work = _
        rw [if_neg (by decide), if_neg (by show (0 : Int) ≠ 2; decide)]; omega
      · rw [if_neg (fun c => absurd c.1 (by show (0 : Int) ≠ 3; decide)), if_neg (fun c => absurd c.1 (by show (0 : Int) ≠ 1; decide))]
        exact pk_setN _ k _ j
    · rw [show act q k x .a33 = ⟨q.setT k (x.setK (Lib.ctz 64 q.idle)), .a37, -1, 0⟩ from if_neg hid0]
      obtain ⟨c8, cb, cl⟩ := ctz_at q.idle h.lt hid0
      generalize Lib.ctz 64 q.idle = c at *
      have hcn : c < q.n := by
        by_cases hcn : c < q.n
        · exact hcn
        · rw [h.out c c8 (by omega)] at cb; cases cb
      have c1 : 1 ≤ c := by
        by_cases c1 : 1 ≤ c
        · exact c1
        · obtain rfl : c = 0 := by omega
          rw [h.b0] at cb; cases cb
      refine ⟨((h.setT _).more (Nat.le_succ i)).fin ?_, rfl, ?_, fun j hj => ?_, .inr ⟨by show (-1 : Int) ≠ 1; decide, rfl⟩⟩
      · show Ok q.n k (((q.setT k (x.setK c)).th k).setN .a37)
        rw [setT_at]; exact ⟨hcn, by show Nx.a37 ≠ _; decide, (fun e => by cases e), (fun _ => c1), fun _ => .inr (.inr (.inr rfl))⟩
      · show q.work = _
        rw [if_neg (by decide), if_neg (by show (-1 : Int) ≠ 2; decide)]; omega
      · rw [if_neg (fun c => absurd c.1 (by show (-1 : Int) ≠ 3; decide)), if_neg (fun c => absurd c.1 (by show (-1 : Int) ≠ 1; decide))]
        show (((q.setT k (x.setK c)).setT k (((q.setT k (x.setK c)).th k).setN .a37)).th j).pk = _
        rw [pk_setN _ k _ j, pk_set _ k _ (by rw [hX]; rfl) j]
  | a37 =>
    have h1 := h37 hn
    by_cases hb : q.idle.testBit x.who = true
    · rw [show act q k x .a37 = ⟨(q.setI (clr q.idle x.who)).setT x.who ((q.th x.who).setP false), .no, 1, x.who⟩ from if_pos hb]
      have hp : ∀ j, (((q.setI (clr q.idle x.who)).setT x.who ((q.th x.who).setP false)).th j).pk = (if j = x.who then false else (q.th j).pk) := fun j => by
        by_cases e : j = x.who
        · rw [e, setT_at, if_pos rfl]; rfl
        · rw [setT_ne _ _ _ _ e, if_neg e]; rfl
      refine ⟨(((h.clr x.who (by omega)).wake x.who).more (Nat.le_succ i)).fin ?_, rfl, ?_, fun j hj => ?_, .inl ⟨rfl, h1, hw⟩⟩
      · show Ok q.n k ((((q.setI (clr q.idle x.who)).setT x.who ((q.th x.who).setP false)).th k).setN .no)
        refine ⟨?_, by show Nx.no ≠ _; decide, (fun e => by cases e), (fun e => by cases e), fun _ => .inl rfl⟩
        show (((q.setI (clr q.idle x.who)).setT x.who ((q.th x.who).setP false)).th k).who < q.n
        by_cases e : k = x.who
        · rw [← e, setT_at, hX]; exact hw
        · rw [setT_ne _ _ _ _ e]
          show (q.th k).who < q.n
          rw [hX]; exact hw
      · show q.work = _
        rw [if_neg (by decide), if_neg (by show (1 : Int) ≠ 2; decide)]; omega
      · rw [if_neg (fun c => absurd c.1 (by show (1 : Int) ≠ 3; decide))]
        show (((((q.setI (clr q.idle x.who)).setT x.who ((q.th x.who).setP false))).setT k ((((q.setI (clr q.idle x.who)).setT x.who ((q.th x.who).setP false)).th k).setN .no)).th j).pk = _
        rw [pk_setN _ k _ j, hp j]
        by_cases e : j = x.who
        · rw [if_pos e, if_pos ⟨rfl, e⟩]
        · rw [if_neg e, if_neg (fun c => e c.2)]
    · rw [show act q k x .a37 = ⟨q, .a33, -1, 0⟩ from if_neg hb]
      refine ⟨(h.more (Nat.le_succ i)).fin ?_, rfl, ?_, fun j hj => ?_, .inr ⟨by show (-1 : Int) ≠ 1; decide, rfl⟩⟩
      · show Ok q.n k ((q.th k).setN .a33)
        rw [hX]; exact ⟨hw, by show Nx.a33 ≠ _; decide, (fun e => by cases e), (fun e => by cases e), fun _ => .inr (.inr (.inl rfl))⟩
      · show q.work = _
        rw [if_neg (by decide), if_neg (by show (-1 : Int) ≠ 2; decide)]; omega
      · rw [if_neg (fun c => absurd c.1 (by show (-1 : Int) ≠ 3; decide)), if_neg (fun c => absurd c.1 (by show (-1 : Int) ≠ 1; decide))]
        exact pk_setN _ k _ j
  | a26 =>
    have k0 : k ≠ 0 := fun e => by rcases h0 e with a | a | a | a <;> rw [hn] at a <;> cases a
    refine ⟨((h.setT _).more (Nat.le_succ i)).fin ?_, rfl, ?_, fun j hj => ?_, .inr ⟨by show (-1 : Int) ≠ 1; decide, rfl⟩⟩
    · show Ok q.n k (((q.setT k (x.setS q.seq)).th k).setN .a30)
      rw [setT_at]; exact ⟨hw, by show Nx.a30 ≠ _; decide, (fun e => by cases e), (fun e => by cases e), fun e => absurd e k0⟩
    · show q.work = _
      rw [if_neg (by decide), if_neg (by show (-1 : Int) ≠ 2; decide)]; omega
    · rw [if_neg (fun c => absurd c.1 (by show (-1 : Int) ≠ 3; decide)), if_neg (fun c => absurd c.1 (by show (-1 : Int) ≠ 1; decide))]
      show (((q.setT k (x.setS q.seq)).setT k (((q.setT k (x.setS q.seq)).th k).setN .a30)).th j).pk = _
      rw [pk_setN _ k _ j, pk_set _ k _ (by rw [hX]; rfl) j]
  | a30 =>
    have k0 : k ≠ 0 := fun e => by rcases h0 e with a | a | a | a <;> rw [hn] at a <;> cases a
    by_cases hwk : 0 < q.work
    · rw [show act q k x .a30 = ⟨q.setT k (x.setW q.work), .a34, -1, 0⟩ from if_pos hwk]
      refine ⟨((h.setT _).more (Nat.le_succ i)).fin ?_, rfl, ?_, fun j hj => ?_, .inr ⟨by show (-1 : Int) ≠ 1; decide, rfl⟩⟩
      · show Ok q.n k (((q.setT k (x.setW q.work)).th k).setN .a34)
        rw [setT_at]; exact ⟨hw, by show Nx.a34 ≠ _; decide, (fun _ => hwk), (fun e => by cases e), fun e => absurd e k0⟩
      · show q.work = _
        rw [if_neg (by decide), if_neg (by show (-1 : Int) ≠ 2; decide)]; omega
      · rw [if_neg (fun c => absurd c.1 (by show (-1 : Int) ≠ 3; decide)), if_neg (fun c => absurd c.1 (by show (-1 : Int) ≠ 1; decide))]
        show (((q.setT k (x.setW q.work)).setT k (((q.setT k (x.setW q.work)).th k).setN .a34)).th j).pk = _
        rw [pk_setN _ k _ j, pk_set _ k _ (by rw [hX]; rfl) j]
    · rw [show act q k x .a30 = ⟨q.setT k (x.setW q.work), .a35, -1, 0⟩ from if_neg hwk]
      refine ⟨((h.setT _).more (Nat.le_succ i)).fin ?_, rfl, ?_, fun j hj => ?_, .inr ⟨by show (-1 : Int) ≠ 1; decide, rfl⟩⟩
      · show Ok q.n k (((q.setT k (x.setW q.work)).th k).setN .a35)
        rw [setT_at]; exact ⟨hw, by show Nx.a35 ≠ _; decide, (fun e => by cases e), (fun e => by cases e), fun e => absurd e k0⟩
      · show q.work = _
        rw [if_neg (by decide), if_neg (by show (-1 : Int) ≠ 2; decide)]; omega
      · rw [if_neg (fun c => absurd c.1 (by show (-1 : Int) ≠ 3; decide)), if_neg (fun c => absurd c.1 (by show (-1 : Int) ≠ 1; decide))]
        show (((q.setT k (x.setW q.work)).setT k (((q.setT k (x.setW q.work)).th k).setN .a35)).th j).pk = _
        rw [pk_setN _ k _ j, pk_set _ k _ (by rw [hX]; rfl) j]
  | a34 =>
    have k0 : k ≠ 0 := fun e => by rcases h0 e with a | a | a | a <;> rw [hn] at a <;> cases a
    have hpos := h34 hn
    by_cases he : q.work = x.work
    · rw [show act q k x .a34 = ⟨q.setW (wrap64 (q.work - 1)), .no, 2, 0⟩ from if_pos he]
      have e : wrap64 (q.work - 1) = q.work - 1 := by unfold wrap64; omega
      refine ⟨(h.work (i + 1) (wrap64 (q.work - 1)) (by rw [e]; omega) (by rw [e]; omega)).fin ?_, rfl, ?_, fun j hj => ?_, .inr ⟨by show (2 : Int) ≠ 1; decide, rfl⟩⟩
      · show Ok q.n k ((q.th k).setN .no)
        rw [hX]; exact ⟨hw, by show Nx.no ≠ _; decide, (fun e => by cases e), (fun e => by cases e), fun _ => .inl rfl⟩
      · show wrap64 (q.work - 1) = _
        rw [e, if_neg (by decide), if_pos rfl]; omega
      · rw [if_neg (fun c => absurd c.1 (by show (2 : Int) ≠ 3; decide)), if_neg (fun c => absurd c.1 (by show (2 : Int) ≠ 1; decide))]
        exact pk_setN _ k _ j
    · rw [show act q k x .a34 = ⟨q, .a26, -1, 0⟩ from if_neg he]
      refine ⟨(h.more (Nat.le_succ i)).fin ?_, rfl, ?_, fun j hj => ?_, .inr ⟨by show (-1 : Int) ≠ 1; decide, rfl⟩⟩
      · show Ok q.n k ((q.th k).setN .a26)
        rw [hX]; exact ⟨hw, by show Nx.a26 ≠ _; decide, (fun e => by cases e), (fun e => by cases e), fun e => absurd e k0⟩
      · show q.work = _
        rw [if_neg (by decide), if_neg (by show (-1 : Int) ≠ 2; decide)]; omega
      · rw [if_neg (fun c => absurd c.1 (by show (-1 : Int) ≠ 3; decide)), if_neg (fun c => absurd c.1 (by show (-1 : Int) ≠ 1; decide))]
        exact pk_setN _ k _ j
  | a35 =>
    have k0 : k ≠ 0 := fun e => by rcases h0 e with a | a | a | a <;> rw [hn] at a <;> cases a
    refine ⟨((h.bset k hk k0).more (Nat.le_succ i)).fin ?_, rfl, ?_, fun j hj => ?_, .inr ⟨by show (-1 : Int) ≠ 1; decide, rfl⟩⟩
    · show Ok q.n k ((q.th k).setN .a38)
      rw [hX]; exact ⟨hw, by show Nx.a38 ≠ _; decide, (fun e => by cases e), (fun e => by cases e), fun e => absurd e k0⟩
    · show q.work = _
      rw [if_neg (by decide), if_neg (by show (-1 : Int) ≠ 2; decide)]; omega
    · rw [if_neg (fun c => absurd c.1 (by show (-1 : Int) ≠ 3; decide)), if_neg (fun c => absurd c.1 (by show (-1 : Int) ≠ 1; decide))]
      exact pk_setN _ k _ j
  | a38 =>
    have k0 : k ≠ 0 := fun e => by rcases h0 e with a | a | a | a <;> rw [hn] at a <;> cases a
    by_cases he : q.seq = x.seq
    · rw [show act q k x .a38 = ⟨q, .a42, -1, 0⟩ from if_pos he]
      refine ⟨(h.more (Nat.le_succ i)).fin ?_, rfl, ?_, fun j hj => ?_, .inr ⟨by show (-1 : Int) ≠ 1; decide, rfl⟩⟩
      · show Ok q.n k ((q.th k).setN .a42)
        rw [hX]; exact ⟨hw, by show Nx.a42 ≠ _; decide, (fun e => by cases e), (fun e => by cases e), fun e => absurd e k0⟩
      · show q.work = _
        rw [if_neg (by decide), if_neg (by show (-1 : Int) ≠ 2; decide)]; omega
      · rw [if_neg (fun c => absurd c.1 (by show (-1 : Int) ≠ 3; decide)), if_neg (fun c => absurd c.1 (by show (-1 : Int) ≠ 1; decide))]
        exact pk_setN _ k _ j
    · rw [show act q k x .a38 = ⟨q, .a41, -1, 0⟩ from if_neg he]
      refine ⟨(h.more (Nat.le_succ i)).fin ?_, rfl, ?_, fun j hj => ?_, .inr ⟨by show (-1 : Int) ≠ 1; decide, rfl⟩⟩
      · show Ok q.n k ((q.th k).setN .a41)
        rw [hX]; exact ⟨hw, by show Nx.a41 ≠ _; decide, (fun e => by cases e), (fun e => by cases e), fun e => absurd e k0⟩
      · show q.work = _
        rw [if_neg (by decide), if_neg (by show (-1 : Int) ≠ 2; decide)]; omega
      · rw [if_neg (fun c => absurd c.1 (by show (-1 : Int) ≠ 3; decide)), if_neg (fun c => absurd c.1 (by show (-1 : Int) ≠ 1; decide))]
        exact pk_setN _ k _ j
  | a41 =>
    have k0 : k ≠ 0 := fun e => by rcases h0 e with a | a | a | a <;> rw [hn] at a <;> cases a
    refine ⟨((h.clr k (by omega)).more (Nat.le_succ i)).fin ?_, rfl, ?_, fun j hj => ?_, .inr ⟨by show (4 : Int) ≠ 1; decide, rfl⟩⟩
    · show Ok q.n k ((q.th k).setN .no)
      rw [hX]; exact ⟨hw, by show Nx.no ≠ _; decide, (fun e => by cases e), (fun e => by cases e), fun e => absurd e k0⟩
    · show q.work = _
      rw [if_neg (by decide), if_neg (by show (4 : Int) ≠ 2; decide)]; omega
    · rw [if_neg (fun c => absurd c.1 (by show (4 : Int) ≠ 3; decide)), if_neg (fun c => absurd c.1 (by show (4 : Int) ≠ 1; decide))]
      exact pk_setN _ k _ j
  | a42 =>
    have k0 : k ≠ 0 := fun e => by rcases h0 e with a | a | a | a <;> rw [hn] at a <;> cases a
    by_cases he : q.idle.testBit k = true
    · rw [show act q k x .a42 = ⟨q.setT k (x.setP true), .no, 3, 0⟩ from if_pos he]
      refine ⟨((h.setT _).more (Nat.le_succ i)).fin ?_, rfl, ?_, fun j hj => ?_, .inr ⟨by show (3 : Int) ≠ 1; decide, rfl⟩⟩
      · show Ok q.n k (((q.setT k (x.setP true)).th k).setN .no)
        rw [setT_at]; exact ⟨hw, by show Nx.no ≠ _; decide, (fun e => by cases e), (fun e => by cases e), fun e => absurd e k0⟩
      · show q.work = _
        rw [if_neg (by decide), if_neg (by show (3 : Int) ≠ 2; decide)]; omega
      · show (((q.setT k (x.setP true)).setT k (((q.setT k (x.setP true)).th k).setN .no)).th j).pk = _
        rw [pk_setN _ k _ j]
        by_cases e : j = k
        · rw [if_pos ⟨rfl, e⟩, e, setT_at]; rfl
        · rw [if_neg (fun c => e c.2), if_neg (fun c => absurd c.1 (by show (3 : Int) ≠ 1; decide)), setT_ne _ _ _ _ e]
    · rw [show act q k x .a42 = ⟨q, .no, 4, 0⟩ from if_neg he]
      refine ⟨(h.more (Nat.le_succ i)).fin ?_, rfl, ?_, fun j hj => ?_, .inr ⟨by show (4 : Int) ≠ 1; decide, rfl⟩⟩
      · show Ok q.n k ((q.th k).setN .no)
        rw [hX]; exact ⟨hw, by show Nx.no ≠ _; decide, (fun e => by cases e), (fun e => by cases e), fun e => absurd e k0⟩
      · show q.work = _
        rw [if_neg (by decide), if_neg (by show (4 : Int) ≠ 2; decide)]; omega
      · rw [if_neg (fun c => absurd c.1 (by show (4 : Int) ≠ 3; decide)), if_neg (fun c => absurd c.1 (by show (4 : Int) ≠ 1; decide))]
        exact pk_setN _ k _ j
/-- what a row's beginning leaves -/
def nxt (q : Q) (k : Nat) (o : Bool) : Bool × Q := if (q.th k).pk = true then (false, q) else (true, (begin q k (if o = true ∨ k = 0 then 0 else 1)).2)
theorem begin_at (q : Q) (k : Nat) (op : Int) (hk : k < q.n) (hp : (q.th k).pk = false) (ho : op = 0 ∨ (op = 1 ∧ k ≠ 0)) : (begin q k op).2 = (if (q.th k).nx = .no then q.setT k ((q.th k).setN (if op = 1 then .a26 else .a25)) else q) := by
  unfold begin
  rw [if_neg (by omega), Int.toNat_natCast, if_neg (by rw [hp]; decide)]
  by_cases h : (q.th k).nx = .no
  · rw [if_neg (by simpa using h), if_pos h]
  · rw [if_pos h, if_neg h]
/-- a row, whole -/
theorem ct_row {q : Q} {i : Nat} (h : Ct q i) (k : Nat) (hk : k < q.n) (hi : i ≤ 100000000000000) (o : Bool) (hp : (q.th k).pk = false) :
    ∃ what who q2, step (nxt q k o).2 (k : Int) = ((what, who, 0), q2) ∧ Cs q q2 k i (if (q.th k).nx = .no ∧ (o = true ∨ k = 0) then 1 else 0) what who := by
  have hB := h.bk k
  have hO := h.ok k hk
  unfold nxt
  rw [if_neg (by rw [hp]; decide)]
  dsimp only
  by_cases hg : o = true ∨ k = 0
  · rw [if_pos hg, begin_at q k 0 hk hp (.inl rfl)]
    by_cases hn : (q.th k).nx = .no
    · rw [if_pos hn, if_neg (by decide), if_pos ⟨hn, hg⟩]
      obtain ⟨what, who, q2, e, c⟩ := ct_step (hB.setT ((q.th k).setN .a25)) hk hi (by rw [setT_at]; show Nx.a25 ≠ _; decide) (by rw [setT_at]; exact hO.who) (by rw [setT_at]; intro e; cases e) (by rw [setT_at]; intro e; cases e) (fun _ => by rw [setT_at]; exact .inl rfl)
      rw [setT_at, if_pos (show ((q.th k).setN .a25).nx = .a25 from rfl)] at c
      exact ⟨what, who, q2, e, c.ct, c.n, c.work, fun j hj => by rw [c.pk j hj, pk_setN], c.who⟩
    · rw [if_neg hn, if_neg (fun c => hn c.1)]
      obtain ⟨what, who, q2, e, c⟩ := ct_step hB hk hi hn hO.who hO.a34 hO.a37 (fun e => by rcases hO.z e with a | a | a | a; exact absurd a hn; exact .inr (.inl a); exact .inr (.inr (.inl a)); exact .inr (.inr (.inr a)))
      rw [if_neg hO.a25] at c
      exact ⟨what, who, q2, e, c⟩
  · have hk0 : k ≠ 0 := fun e => hg (.inr e)
    have e1 : (if (q.th k).nx = .no ∧ (o = true ∨ k = 0) then (1 : Int) else 0) = 0 := if_neg (fun c => hg c.2)
    rw [if_neg hg, begin_at q k 1 hk hp (.inr ⟨rfl, hk0⟩), e1]
    by_cases hn : (q.th k).nx = .no
    · rw [if_pos hn, if_pos rfl]
      obtain ⟨what, who, q2, e, c⟩ := ct_step (hB.setT ((q.th k).setN .a26)) hk hi (by rw [setT_at]; show Nx.a26 ≠ _; decide) (by rw [setT_at]; exact hO.who) (by rw [setT_at]; intro e; cases e) (by rw [setT_at]; intro e; cases e) (fun e => absurd e hk0)
      rw [setT_at, if_neg (show ((q.th k).setN .a26).nx ≠ .a25 from (by show Nx.a26 ≠ Nx.a25; decide))] at c
      exact ⟨what, who, q2, e, c.ct, c.n, c.work, fun j hj => by rw [c.pk j hj, pk_setN], c.who⟩
    · rw [if_neg hn]
      obtain ⟨what, who, q2, e, c⟩ := ct_step hB hk hi hn hO.who hO.a34 hO.a37 (fun e => absurd e hk0)
      rw [if_neg hO.a25] at c
      exact ⟨what, who, q2, e, c⟩
theorem ct0 (s : Int) : Ct (Q0 (nw s + 1)) 0 := by
  have h1 := nw_lo s
  have h2 := nw_hi s
  refine ⟨⟨fun j hj _ => ⟨by show 0 < nw s + 1; omega, by show Nx.no ≠ _; decide, (fun e => by cases e), (fun e => by cases e), fun _ => .inl rfl⟩, fun _ _ _ => Nat.zero_testBit _, by show (0 : Nat) < 256; decide, Nat.zero_testBit _, by show 2 ≤ nw s + 1; omega, by show nw s + 1 ≤ 8; omega, Int.le_refl _, Int.le_refl _⟩, ⟨by show 0 < nw s + 1; omega, by show Nx.no ≠ _; decide, (fun e => by cases e), (fun e => by cases e), fun _ => .inl rfl⟩⟩
end Go.Proofs.YtpmkdhaponhacaaDoor
