/- The deque: its accesses. -/
import Derived.Test.YtldobbdaokjgaaaP1
import Derived.Deep.RegionHeld3
namespace Go.Proofs.Ytldobbdaokjgaaa
open Go.RowKit
set_option linter.unusedVariables false
set_option linter.unusedSimpArgs false
structure D where
  over : Bool := false
  op : Int := 0
  v : Int := 0
  err : Int := 0
structure A where
  q : Q
  nx : Nx
  d : D := {}
def T.setV (x : T) (v : Int) : T := { nx := x.nx, v := v, t := x.t, b := x.b, win := x.win }
def T.setT (x : T) (t : Int) : T := { nx := x.nx, v := x.v, t := t, b := x.b, win := x.win }
def T.setB (x : T) (b : Int) : T := { nx := x.nx, v := x.v, t := x.t, b := b, win := x.win }
def T.setW (x : T) (w : Bool) : T := { nx := x.nx, v := x.v, t := x.t, b := x.b, win := w }
def T.setN (x : T) (n : Nx) : T := { nx := n, v := x.v, t := x.t, b := x.b, win := x.win }
def Q.setTop (q : Q) (x : Int) : Q := { top := x, bot := q.bot, n := q.n, pl := q.pl, th := q.th }
def Q.setBot (q : Q) (x : Int) : Q := { top := q.top, bot := x, n := q.n, pl := q.pl, th := q.th }
def Q.setPl (q : Q) (i : Nat) (x : Int) : Q := { top := q.top, bot := q.bot, n := q.n, pl := fun j => if j = i then x else q.pl j, th := q.th }
/-- what an access comes to -/
def act (q : Q) (k : Nat) (x : T) : Nx → A
  | .no => ⟨q, .no, {}⟩
  | .a33 => ⟨q.setT k (x.setB q.bot), .a37, {}⟩
  | .a37 => if (q.n : Int) ≤ wrap64 (x.b - q.top) then ⟨q, .no, { over := true, op := 0, v := x.v, err := 7 }⟩ else ⟨q, .a41, {}⟩
  | .a41 => ⟨q.setPl (plc x.b q.n) x.v, .a44, {}⟩
  | .a44 => ⟨q.setBot (wrap64 (x.b + 1)), .no, { over := true, op := 0, v := x.v, err := 0 }⟩
  | .a34 => ⟨q.setT k (x.setB (wrap64 (q.bot - 1))), .a38, {}⟩
  | .a38 => ⟨q.setBot x.b, .a42, {}⟩
  | .a42 => if x.b < q.top then ⟨q.setT k (x.setT q.top), .a45, {}⟩ else ⟨q.setT k (x.setT q.top), .a46, {}⟩
  | .a46 => if x.t < x.b then ⟨q.setT k (x.setV (q.pl (plc x.b q.n))), .no, { over := true, op := 1, v := q.pl (plc x.b q.n), err := 0 }⟩ else ⟨q.setT k (x.setV (q.pl (plc x.b q.n))), .a48, {}⟩
  | .a48 => if q.top = x.t then ⟨(q.setTop (wrap64 (q.top + 1))).setT k (x.setW true), .a45, {}⟩ else ⟨q.setT k (x.setW false), .a45, {}⟩
  | .a45 => if x.win = true then ⟨q.setBot (wrap64 (x.b + 1)), .no, { over := true, op := 1, v := x.v, err := 0 }⟩ else ⟨q.setBot (wrap64 (x.b + 1)), .no, { over := true, op := 1, v := 0, err := 8 }⟩
  | .a35 => ⟨q.setT k (x.setT q.top), .a39, {}⟩
  | .a39 => if q.bot ≤ x.t then ⟨q, .no, { over := true, op := 2, v := 0, err := 8 }⟩ else ⟨q, .a43, {}⟩
  | .a43 => ⟨q.setT k (x.setV (q.pl (plc x.t q.n))), .a47, {}⟩
  | .a47 => if q.top = x.t then ⟨q.setTop (wrap64 (q.top + 1)), .no, { over := true, op := 2, v := x.v, err := 0 }⟩ else ⟨q, .no, { over := true, op := 2, v := 0, err := 17 }⟩
def dv (d : D) : Value := .agg #[.bool d.over, .int .i64 d.op, .int .i64 d.v, .int .i64 d.err]
/-- what a function of an access leaves -/
def Fx (w : World) (b p : Nat) (a : A) (e : Ending) (w' : World) : Prop := e = .returned (.tuple #[fv a.nx, dv a.d]) ∧ Dq w' b p a.q ∧ Fr w w' (S2 b p)
section
variable {w w1 : World} {b p : Nat} {q : Q}
theorem tc_ne {x y : T} {i : Nat} (h : ∀ j, j < 5 → j ≠ i → tcell y j = tcell x j) : ∀ j, j < 5 → j ≠ i → tcell y j = tcell x j := h
theorem Dq.fB (h : Dq w b p q) (k : Nat) (hk : k < 8) (x : Int) : Dq (w.setCell ⟨b, 3 + k * 5 + 3, none⟩ (.int .i64 x)) b p (q.setT k ((q.th k).setB x)) :=
  h.setF k 3 hk (by omega) _ _ rfl (fun j hj hn => by match j, hj, hn with | 0, _, _ => rfl | 1, _, _ => rfl | 2, _, _ => rfl | 4, _, _ => rfl)
theorem Dq.fT (h : Dq w b p q) (k : Nat) (hk : k < 8) (x : Int) : Dq (w.setCell ⟨b, 3 + k * 5 + 2, none⟩ (.int .i64 x)) b p (q.setT k ((q.th k).setT x)) :=
  h.setF k 2 hk (by omega) _ _ rfl (fun j hj hn => by match j, hj, hn with | 0, _, _ => rfl | 1, _, _ => rfl | 3, _, _ => rfl | 4, _, _ => rfl)
theorem Dq.fV (h : Dq w b p q) (k : Nat) (hk : k < 8) (x : Int) : Dq (w.setCell ⟨b, 3 + k * 5 + 1, none⟩ (.int .i64 x)) b p (q.setT k ((q.th k).setV x)) :=
  h.setF k 1 hk (by omega) _ _ rfl (fun j hj hn => by match j, hj, hn with | 0, _, _ => rfl | 2, _, _ => rfl | 3, _, _ => rfl | 4, _, _ => rfl)
theorem Dq.fW (h : Dq w b p q) (k : Nat) (hk : k < 8) (x : Bool) : Dq (w.setCell ⟨b, 3 + k * 5 + 4, none⟩ (.bool x)) b p (q.setT k ((q.th k).setW x)) :=
  h.setF k 4 hk (by omega) _ _ rfl (fun j hj hn => by
    have : j = 0 ∨ j = 1 ∨ j = 2 ∨ j = 3 := by omega
    rcases this with rfl | rfl | rfl | rfl <;> rfl)
set_option maxRecDepth 100000 in
set_option maxHeartbeats 2000000 in
theorem fn33 (h : Dq w b p q) (k : Nat) (hk : k < 8) : Calls Try.prog 33 #[.pointer (some ⟨b, 0, none⟩), .pointer (some ⟨b, 3 + k * 5, none⟩)] w (Fx w b p (act q k (q.th k) .a33)) := by
  have c0 := h.c0
  have c1 := h.c1
  have c2 := h.c2
  have t1 := h.t1 k hk
  have t2 := h.t2 k hk
  have t3 := h.t3 k hk
  have t4 := h.t4 k hk
  have f0 := h.fb 0
  have f1 := h.fb 1
  have g1 := h.fb (3 + k * 5 + 1)
  have g2 := h.fb (3 + k * 5 + 2)
  have g3 := h.fb (3 + k * 5 + 3)
  have g4 := h.fb (3 + k * 5 + 4)
  have hlb := h.s.lt
  have hlp := h.t.lt
  have hne := h.ne
  have hz := zero34
  have H := Lib.hid h
  unfold Fx act
  clear h
  go_enter Try.func33, Try.ntmps33
  go_wp2
  go_returns
  exact ⟨rfl, (H.out.fB k hk q.bot).alloc _, ((fr_set _ _ b _ _ (.inl rfl)).trans' (fr_alloc _ _ _))⟩
set_option maxRecDepth 100000 in
set_option maxHeartbeats 2000000 in
theorem fn34 (h : Dq w b p q) (k : Nat) (hk : k < 8) : Calls Try.prog 34 #[.pointer (some ⟨b, 0, none⟩), .pointer (some ⟨b, 3 + k * 5, none⟩)] w (Fx w b p (act q k (q.th k) .a34)) := by
  have c0 := h.c0
  have c1 := h.c1
  have c2 := h.c2
  have t1 := h.t1 k hk
  have t2 := h.t2 k hk
  have t3 := h.t3 k hk
  have t4 := h.t4 k hk
  have f0 := h.fb 0
  have f1 := h.fb 1
  have g1 := h.fb (3 + k * 5 + 1)
  have g2 := h.fb (3 + k * 5 + 2)
  have g3 := h.fb (3 + k * 5 + 3)
  have g4 := h.fb (3 + k * 5 + 4)
  have hlb := h.s.lt
  have hlp := h.t.lt
  have hne := h.ne
  have hz := zero34
  have H := Lib.hid h
  unfold Fx act
  clear h
  go_enter Try.func34, Try.ntmps34
  go_wp2
  go_returns
  exact ⟨rfl, (H.out.fB k hk _).alloc _, ((fr_set _ _ b _ _ (.inl rfl)).trans' (fr_alloc _ _ _))⟩
set_option maxRecDepth 100000 in
set_option maxHeartbeats 2000000 in
theorem fn35 (h : Dq w b p q) (k : Nat) (hk : k < 8) : Calls Try.prog 35 #[.pointer (some ⟨b, 0, none⟩), .pointer (some ⟨b, 3 + k * 5, none⟩)] w (Fx w b p (act q k (q.th k) .a35)) := by
  have c0 := h.c0
  have c1 := h.c1
  have c2 := h.c2
  have t1 := h.t1 k hk
  have t2 := h.t2 k hk
  have t3 := h.t3 k hk
  have t4 := h.t4 k hk
  have f0 := h.fb 0
  have f1 := h.fb 1
  have g1 := h.fb (3 + k * 5 + 1)
  have g2 := h.fb (3 + k * 5 + 2)
  have g3 := h.fb (3 + k * 5 + 3)
  have g4 := h.fb (3 + k * 5 + 4)
  have hlb := h.s.lt
  have hlp := h.t.lt
  have hne := h.ne
  have hz := zero34
  have H := Lib.hid h
  unfold Fx act
  clear h
  go_enter Try.func35, Try.ntmps35
  go_wp2
  go_returns
  exact ⟨rfl, (H.out.fT k hk q.top).alloc _, ((fr_set _ _ b _ _ (.inl rfl)).trans' (fr_alloc _ _ _))⟩
set_option maxRecDepth 100000 in
set_option maxHeartbeats 2000000 in
theorem fn38 (h : Dq w b p q) (k : Nat) (hk : k < 8) : Calls Try.prog 38 #[.pointer (some ⟨b, 0, none⟩), .pointer (some ⟨b, 3 + k * 5, none⟩)] w (Fx w b p (act q k (q.th k) .a38)) := by
  have c0 := h.c0
  have c1 := h.c1
  have c2 := h.c2
  have t1 := h.t1 k hk
  have t2 := h.t2 k hk
  have t3 := h.t3 k hk
  have t4 := h.t4 k hk
  have f0 := h.fb 0
  have f1 := h.fb 1
  have g1 := h.fb (3 + k * 5 + 1)
  have g2 := h.fb (3 + k * 5 + 2)
  have g3 := h.fb (3 + k * 5 + 3)
  have g4 := h.fb (3 + k * 5 + 4)
  have hlb := h.s.lt
  have hlp := h.t.lt
  have hne := h.ne
  have hz := zero34
  have H := Lib.hid h
  unfold Fx act
  clear h
  go_enter Try.func38, Try.ntmps38
  go_wp2
  go_returns
  exact ⟨rfl, (H.out.setBot _).alloc _, ((fr_set _ _ b _ _ (.inl rfl)).trans' (fr_alloc _ _ _))⟩
end
end Go.Proofs.Ytldobbdaokjgaaa
