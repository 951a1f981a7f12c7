/- The plain law: an operation run whole on a calm lot. -/
import Derived.Test.YtpmkdhaponhacaaDoorP10
namespace Go.Proofs.YtpmkdhaponhacaaDoor
open Go.RowKit
set_option linter.unusedVariables false
set_option linter.unusedSimpArgs false
theorem step_form (q : Q) (k : Nat) (x : T) (hk : k < q.n) (hx : x.nx ≠ .no) : step (q.setT k x) (k : Int) = (((act (q.setT k x) k x x.nx).what, (act (q.setT k x) k x x.nx).who, 0), (act (q.setT k x) k x x.nx).fin k) := by
  unfold step stepA
  have h1 : ¬ ¬ (0 ≤ (k : Int) ∧ (k : Int) < ((q.setT k x).n : Int)) := by
    show ¬ ¬ (0 ≤ (k : Int) ∧ (k : Int) < (q.n : Int)); omega
  rw [if_neg h1, Int.toNat_natCast, setT_at, if_neg hx]
theorem loopF_succ (f : Nat) (q : Q) (k : Int) : loopF (f + 1) q k = if (step q k).1.1 = -1 then loopF f (step q k).2 k else (((step q k).1.1, (step q k).1.2.1), (step q k).2) := rfl
theorem loop_more {f : Nat} {q q' : Q} {k : Nat} {x y : T} {nx' : Nx} (hk : k < q.n) (hx : x.nx ≠ .no) (ha : act (q.setT k x) k x x.nx = ⟨q'.setT k y, nx', -1, 0⟩) : loopF (f + 1) (q.setT k x) k = loopF f (q'.setT k (y.setN nx')) k := by
  have h := step_form q k x hk hx
  rw [ha] at h
  rw [loopF_succ, h, if_pos rfl]
  unfold A.fin
  dsimp only
  rw [setT_setT, setT_at]
theorem loop_done {f : Nat} {q q' : Q} {k : Nat} {x y : T} {nx' : Nx} {what : Int} {who : Nat} (hk : k < q.n) (hx : x.nx ≠ .no) (hw : what ≠ -1) (ha : act (q.setT k x) k x x.nx = ⟨q'.setT k y, nx', what, who⟩) : loopF (f + 1) (q.setT k x) k = ((what, who), q'.setT k (y.setN nx')) := by
  have h := step_form q k x hk hx
  rw [ha] at h
  rw [loopF_succ, h, if_neg hw]
  unfold A.fin
  dsimp only
  rw [setT_setT, setT_at]
/-- a calm lot -/
structure Cm (q : Q) : Prop where
  wf : Wf q
  no : ∀ j, j < q.n → (q.th j).nx = .no
  bit : ∀ j, j < q.n → q.idle.testBit j = (q.th j).pk
  p0 : (q.th 0).pk = false
  n1 : 2 ≤ q.n
theorem cm0 (s : Int) : Cm (Q0 (nw s + 1)) := ⟨wf0 _ (by omega) (by have := nw_hi s; omega), fun _ _ => rfl, fun _ _ => Nat.zero_testBit _, rfl, by have := nw_lo s; show 2 ≤ nw s + 1; omega⟩
theorem setT_comm (q : Q) (j k : Nat) (x y : T) (h : j ≠ k) : (q.setT k x).setT j y = (q.setT j y).setT k x := by
  unfold Q.setT
  congr 1
  funext i
  by_cases e : i = j
  · rw [if_pos e, if_neg (by omega)]; exact (if_pos e).symm
  · rw [if_neg e]
    by_cases e2 : i = k
    · rw [if_pos e2]; exact if_pos e2
    · rw [if_neg e2]; dsimp only; rw [if_neg e2, if_neg e]
theorem begin_ok {q : Q} (h : Cm q) {k : Nat} (hk : k < q.n) (hp : (q.th k).pk = false) (op : Int) (ho : op = 0 ∨ (op = 1 ∧ k ≠ 0)) : begin q k op = (0, q.setT k ((q.th k).setN (if op = 1 then .a26 else .a25))) := by
  unfold begin
  rw [if_neg (by omega), Int.toNat_natCast, if_neg (by rw [hp]; decide), if_neg (by rw [h.no k hk]; decide)]
theorem give0 {q : Q} (h : Cm q) {k : Nat} (hk : k < q.n) (hp : (q.th k).pk = false) (hi : q.idle = 0) : ∃ y : T, y.nx = .no ∧ y.pk = (q.th k).pk ∧ wholeF q k 0 = ((0, 0), ((q.setW (wrap64 (q.work + 1))).setS (wrap64 (q.seq + 1))).setT k y) := by
  unfold wholeF
  rw [begin_ok h hk hp 0 (.inl rfl), if_pos rfl]
  dsimp only
  rw [if_neg (by decide)]
  have s1 : loopF 9 (q.setT k ((q.th k).setN .a25)) k = loopF 8 ((q.setW (wrap64 (q.work + 1))).setT k (((q.th k).setN .a25).setN .a29)) k := loop_more hk (by show Nx.a25 ≠ Nx.no; decide) rfl
  have s2 : loopF 8 ((q.setW (wrap64 (q.work + 1))).setT k (((q.th k).setN .a25).setN .a29)) k = loopF 7 (((q.setW (wrap64 (q.work + 1))).setS (wrap64 (q.seq + 1))).setT k ((((q.th k).setN .a25).setN .a29).setN .a33)) k := loop_more hk (by show Nx.a29 ≠ Nx.no; decide) rfl
  have s3 : loopF 7 (((q.setW (wrap64 (q.work + 1))).setS (wrap64 (q.seq + 1))).setT k ((((q.th k).setN .a25).setN .a29).setN .a33)) k = ((0, 0), ((q.setW (wrap64 (q.work + 1))).setS (wrap64 (q.seq + 1))).setT k (((((q.th k).setN .a25).setN .a29).setN .a33).setN .no)) := loop_done hk (by show Nx.a33 ≠ Nx.no; decide) (by decide) (if_pos hi)
  rw [s1, s2, s3]
  refine ⟨_, ?_, ?_, rfl⟩
  · rfl
  · rfl
theorem give1 {q : Q} (h : Cm q) {k : Nat} (hk : k < q.n) (hp : (q.th k).pk = false) (hi : q.idle ≠ 0) : ∃ y : T, y.nx = .no ∧ y.pk = (q.th k).pk ∧ wholeF q k 0 = ((1, Lib.ctz 64 q.idle), ((((q.setW (wrap64 (q.work + 1))).setS (wrap64 (q.seq + 1))).setI (clr q.idle (Lib.ctz 64 q.idle))).setT (Lib.ctz 64 q.idle) ((q.th (Lib.ctz 64 q.idle)).setP false)).setT k y) := by
  obtain ⟨c8, cb, cl⟩ := ctz_at q.idle h.wf.lt hi
  generalize hC : Lib.ctz 64 q.idle = c at *
  have hne : c ≠ k := by
    rintro rfl
    rw [h.bit c hk, hp] at cb; cases cb
  unfold wholeF
  rw [begin_ok h hk hp 0 (.inl rfl), if_pos rfl]
  dsimp only
  rw [if_neg (by decide)]
  have s1 : loopF 9 (q.setT k ((q.th k).setN .a25)) k = loopF 8 ((q.setW (wrap64 (q.work + 1))).setT k (((q.th k).setN .a25).setN .a29)) k := loop_more hk (by show Nx.a25 ≠ Nx.no; decide) rfl
  have s2 : loopF 8 ((q.setW (wrap64 (q.work + 1))).setT k (((q.th k).setN .a25).setN .a29)) k = loopF 7 (((q.setW (wrap64 (q.work + 1))).setS (wrap64 (q.seq + 1))).setT k ((((q.th k).setN .a25).setN .a29).setN .a33)) k := loop_more hk (by show Nx.a29 ≠ Nx.no; decide) rfl
  rw [s1, s2]
  clear s1 s2
  generalize hx : (((q.th k).setN .a25).setN .a29).setN .a33 = x
  have x1 : x.nx = .a33 := by rw [← hx]; rfl
  have x2 : x.pk = (q.th k).pk := by rw [← hx]; rfl
  clear hx
  have hgi : ((q.setW (wrap64 (q.work + 1))).setS (wrap64 (q.seq + 1))).idle = q.idle := rfl
  have hgt : ((q.setW (wrap64 (q.work + 1))).setS (wrap64 (q.seq + 1))).th = q.th := rfl
  have hgn : ((q.setW (wrap64 (q.work + 1))).setS (wrap64 (q.seq + 1))).n = q.n := rfl
  generalize (q.setW (wrap64 (q.work + 1))).setS (wrap64 (q.seq + 1)) = g at *
  have hgk : k < g.n := by omega
  have s3 : loopF 7 (g.setT k x) k = loopF 6 (g.setT k ((x.setK c).setN .a37)) k := loop_more hgk (by rw [x1]; decide) (by
    rw [x1]
    show (if g.idle = 0 then (⟨g.setT k x, .no, 0, 0⟩ : A) else ⟨(g.setT k x).setT k (x.setK (Lib.ctz 64 g.idle)), .a37, -1, 0⟩) = _
    rw [hgi, if_neg hi, setT_setT, hC])
  have s4 : loopF 6 (g.setT k ((x.setK c).setN .a37)) k = ((1, c), ((g.setI (clr q.idle c)).setT c ((q.th c).setP false)).setT k (((x.setK c).setN .a37).setN .no)) := loop_done hgk (by show Nx.a37 ≠ Nx.no; decide) (by decide) (by
    show (if g.idle.testBit c = true then (⟨((g.setT k ((x.setK c).setN .a37)).setI (clr g.idle c)).setT c (((g.setT k ((x.setK c).setN .a37)).th c).setP false), .no, 1, c⟩ : A) else ⟨g.setT k ((x.setK c).setN .a37), .a33, -1, 0⟩) = _
    rw [hgi, if_pos cb, setT_ne _ _ _ _ hne, hgt]
    show (⟨((g.setI (clr q.idle c)).setT k ((x.setK c).setN .a37)).setT c ((q.th c).setP false), .no, 1, c⟩ : A) = _
    rw [setT_comm _ _ _ _ _ hne])
  rw [s3, s4]
  refine ⟨_, ?_, ?_, rfl⟩
  · rfl
  · exact x2
theorem take2 {q : Q} (h : Cm q) {k : Nat} (hk : k < q.n) (hk0 : k ≠ 0) (hp : (q.th k).pk = false) (hw : 0 < q.work) : ∃ y : T, y.nx = .no ∧ y.pk = (q.th k).pk ∧ wholeF q k 1 = ((2, 0), (q.setW (wrap64 (q.work - 1))).setT k y) := by
  unfold wholeF
  rw [begin_ok h hk hp 1 (.inr ⟨rfl, hk0⟩), if_pos rfl]
  dsimp only
  rw [if_pos rfl]
  have s1 : loopF 9 (q.setT k ((q.th k).setN .a26)) k = loopF 8 (q.setT k ((((q.th k).setN .a26).setS q.seq).setN .a30)) k := loop_more hk (by show Nx.a26 ≠ Nx.no; decide) (by
    show (⟨(q.setT k ((q.th k).setN .a26)).setT k (((q.th k).setN .a26).setS q.seq), .a30, -1, 0⟩ : A) = _
    rw [setT_setT])
  rw [s1]
  generalize hx : (((q.th k).setN .a26).setS q.seq).setN .a30 = x
  have x1 : x.nx = .a30 := by rw [← hx]; rfl
  have x2 : x.pk = (q.th k).pk := by rw [← hx]; rfl
  clear hx s1
  have s2 : loopF 8 (q.setT k x) k = loopF 7 (q.setT k ((x.setW q.work).setN .a34)) k := loop_more hk (by rw [x1]; decide) (by
    rw [x1]
    show (if 0 < q.work then (⟨(q.setT k x).setT k (x.setW q.work), .a34, -1, 0⟩ : A) else ⟨(q.setT k x).setT k (x.setW q.work), .a35, -1, 0⟩) = _
    rw [if_pos hw, setT_setT])
  have s3 : loopF 7 (q.setT k ((x.setW q.work).setN .a34)) k = ((2, 0), (q.setW (wrap64 (q.work - 1))).setT k (((x.setW q.work).setN .a34).setN .no)) := loop_done hk (by show Nx.a34 ≠ Nx.no; decide) (by decide) (if_pos rfl)
  rw [s2, s3]
  refine ⟨_, ?_, ?_, rfl⟩
  · rfl
  · exact x2
theorem take3 {q : Q} (h : Cm q) {k : Nat} (hk : k < q.n) (hk0 : k ≠ 0) (hp : (q.th k).pk = false) (hw : ¬ 0 < q.work) : ∃ y : T, y.nx = .no ∧ y.pk = true ∧ wholeF q k 1 = ((3, 0), (q.setI (bset q.idle k)).setT k y) := by
  unfold wholeF
  rw [begin_ok h hk hp 1 (.inr ⟨rfl, hk0⟩), if_pos rfl]
  dsimp only
  rw [if_pos rfl]
  have s1 : loopF 9 (q.setT k ((q.th k).setN .a26)) k = loopF 8 (q.setT k ((((q.th k).setN .a26).setS q.seq).setN .a30)) k := loop_more hk (by show Nx.a26 ≠ Nx.no; decide) (by
    show (⟨(q.setT k ((q.th k).setN .a26)).setT k (((q.th k).setN .a26).setS q.seq), .a30, -1, 0⟩ : A) = _
    rw [setT_setT])
  rw [s1]
  generalize hx : (((q.th k).setN .a26).setS q.seq).setN .a30 = x
  have x1 : x.nx = .a30 := by rw [← hx]; rfl
  have x3 : x.seq = q.seq := by rw [← hx]; rfl
  clear hx s1
  have s2 : loopF 8 (q.setT k x) k = loopF 7 (q.setT k ((x.setW q.work).setN .a35)) k := loop_more hk (by rw [x1]; decide) (by
    rw [x1]
    show (if 0 < q.work then (⟨(q.setT k x).setT k (x.setW q.work), .a34, -1, 0⟩ : A) else ⟨(q.setT k x).setT k (x.setW q.work), .a35, -1, 0⟩) = _
    rw [if_neg hw, setT_setT])
  have s3 : loopF 7 (q.setT k ((x.setW q.work).setN .a35)) k = loopF 6 ((q.setI (bset q.idle k)).setT k (((x.setW q.work).setN .a35).setN .a38)) k := loop_more hk (by show Nx.a35 ≠ Nx.no; decide) rfl
  rw [s2, s3]
  clear s2 s3
  generalize hx : (((x.setW q.work).setN .a35).setN .a38) = y
  have y1 : y.nx = .a38 := by rw [← hx]; rfl
  have y3 : y.seq = q.seq := by rw [← hx]; exact x3
  clear hx
  have s4 : loopF 6 ((q.setI (bset q.idle k)).setT k y) k = loopF 5 ((q.setI (bset q.idle k)).setT k (y.setN .a42)) k := loop_more hk (by rw [y1]; decide) (by
    rw [y1]
    show (if q.seq = y.seq then (⟨(q.setI (bset q.idle k)).setT k y, .a42, -1, 0⟩ : A) else ⟨(q.setI (bset q.idle k)).setT k y, .a41, -1, 0⟩) = _
    rw [if_pos y3.symm])
  have hb : (bset q.idle k).testBit k = true := by
    rw [bset_at _ h.wf.lt k (by have := h.wf.n2; omega) k (by have := h.wf.n2; omega), decide_eq_true rfl]; rfl
  have s5 : loopF 5 ((q.setI (bset q.idle k)).setT k (y.setN .a42)) k = ((3, 0), (q.setI (bset q.idle k)).setT k (((y.setN .a42).setP true).setN .no)) := loop_done hk (by show Nx.a42 ≠ Nx.no; decide) (by decide) (by
    show (if (bset q.idle k).testBit k = true then (⟨((q.setI (bset q.idle k)).setT k (y.setN .a42)).setT k ((y.setN .a42).setP true), .no, 3, 0⟩ : A) else ⟨(q.setI (bset q.idle k)).setT k (y.setN .a42), .no, 4, 0⟩) = _
    rw [if_pos hb, setT_setT])
  rw [s4, s5]
  refine ⟨_, ?_, ?_, rfl⟩
  · rfl
  · rfl
end Go.Proofs.YtpmkdhaponhacaaDoor
