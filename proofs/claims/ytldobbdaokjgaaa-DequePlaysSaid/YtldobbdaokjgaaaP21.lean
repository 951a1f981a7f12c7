/- The reference's deque: its blocks, New, at, over. -/
import Derived.Test.YtldobbdaokjgaaaP14
namespace Go.Proofs.Ytldobbdaokjgaaa
open Go.RowKit
set_option linter.unusedVariables false
set_option linter.unusedSimpArgs false
structure Y where
  on : Bool := false
  op : Int := 0
  made : Int := 0
  v : Int := 0
  t : Int := 0
  b : Int := 0
  won : Bool := false
structure R where
  top : Int
  bot : Int
  n : Nat
  pl : Nat → Int
  th : Nat → Y
def R.setY (r : R) (k : Nat) (y : Y) : R := { top := r.top, bot := r.bot, n := r.n, pl := r.pl, th := fun j => if j = k then y else r.th j }
def R.setTop (r : R) (x : Int) : R := { top := x, bot := r.bot, n := r.n, pl := r.pl, th := r.th }
def R.setBot (r : R) (x : Int) : R := { top := r.top, bot := x, n := r.n, pl := r.pl, th := r.th }
def R.setPl (r : R) (i : Nat) (x : Int) : R := { top := r.top, bot := r.bot, n := r.n, pl := fun j => if j = i then x else r.pl j, th := r.th }
def ycell (y : Y) (i : Nat) : Value := if i = 0 then .bool y.on else if i = 1 then .int .i64 y.op else if i = 2 then .int .i64 y.made else if i = 3 then .int .i64 y.v else if i = 4 then .int .i64 y.t else if i = 5 then .int .i64 y.b else .bool y.won
def yagg (y : Y) : Value := .agg #[.bool y.on, .int .i64 y.op, .int .i64 y.made, .int .i64 y.v, .int .i64 y.t, .int .i64 y.b, .bool y.won]
def hdf (top bot : Int) (n g p : Nat) (j : Nat) : Value := if j = 0 then .int .i64 top else if j = 1 then .int .i64 bot else if j = 2 then .slice (some ⟨p, 0, none⟩) n n else .slice (some ⟨g, 0, none⟩) 8 8
def thf (th : Nat → Y) (j : Nat) : Value := ycell (th (j / 7)) (j % 7)
structure Rf (w : World) (c g p : Nat) (r : R) : Prop where
  s : w.rowIs c 48 4 (hdf r.top r.bot r.n g p)
  t : w.rowIs g 55 56 (thf r.th)
  u : w.rowIs p 2 r.n (fun j => .int .i64 (r.pl j))
  cg : c ≠ g
  cp : c ≠ p
  gp : g ≠ p
  n1 : 1 ≤ r.n
  n2 : r.n ≤ 64
def S3 (c g p : Nat) (k : Nat) : Prop := k = c ∨ k = g ∨ k = p
section
variable {w w1 : World} {c g p : Nat} {r : R}
theorem Rf.frame (h : Rf w c g p r) {S : Nat → Prop} (f : Fr w w1 S) (hc : ¬ S c) (hg : ¬ S g) (hp : ¬ S p) : Rf w1 c g p r := { h with s := row_fr h.s f hc, t := row_fr h.t f hg, u := row_fr h.u f hp }
theorem Rf.same (h : Rf w c g p r) (e : w1.heap = w.heap) : Rf w1 c g p r := { h with s := h.s.of_block (by rw [e]), t := h.t.of_block (by rw [e]), u := h.u.of_block (by rw [e]) }
theorem Rf.below (h : Rf w c g p r) (f : Below w.heap.size w w1) : Rf w1 c g p r := { h with s := row_below h.s f h.s.lt, t := row_below h.t f h.t.lt, u := row_below h.u f h.u.lt }
theorem Rf.alloc (h : Rf w c g p r) (o : Obj) : Rf (w.alloc o) c g p r := { h with s := h.s.alloc o, t := h.t.alloc o, u := h.u.alloc o }
theorem Rf.drewN (h : Rf w c g p r) (m : Nat) : Rf (w.drewN m) c g p r := { h with s := h.s, t := h.t, u := h.u }
theorem Rf.drew (h : Rf w c g p r) : Rf w.drew c g p r := { h with s := h.s, t := h.t, u := h.u }
theorem Rf.far (h : Rf w c g p r) {B o : Nat} {v : Value} (h1 : c < B) (h2 : g < B) (h3 : p < B) : Rf (w.setCell ⟨B, o, none⟩ v) c g p r :=
  h.frame (fr_b w B o v) (Nat.ne_of_lt h1) (Nat.ne_of_lt h2) (Nat.ne_of_lt h3)
theorem Rf.c0 (h : Rf w c g p r) : w.cell? ⟨c, 0, none⟩ = some (.int .i64 r.top) := row_val h.s (by omega) rfl
theorem Rf.c1 (h : Rf w c g p r) : w.cell? ⟨c, 1, none⟩ = some (.int .i64 r.bot) := row_val h.s (by omega) rfl
theorem Rf.c2 (h : Rf w c g p r) : w.cell? ⟨c, 2, none⟩ = some (.slice (some ⟨p, 0, none⟩) r.n r.n) := row_val h.s (by omega) rfl
theorem Rf.c3 (h : Rf w c g p r) : w.cell? ⟨c, 3, none⟩ = some (.slice (some ⟨g, 0, none⟩) 8 8) := row_val h.s (by omega) rfl
theorem Rf.cu (h : Rf w c g p r) (i : Nat) (hi : i < r.n) : w.cell? ⟨p, i, none⟩ = some (.int .i64 (r.pl i)) := row_val h.u hi rfl
theorem Rf.fc (h : Rf w c g p r) (i : Nat) : w.frozen? ⟨c, i, none⟩ = false := World.rowIs.frozen h.s i
theorem Rf.fg (h : Rf w c g p r) (i : Nat) : w.frozen? ⟨g, i, none⟩ = false := World.rowIs.frozen h.t i
theorem Rf.fp (h : Rf w c g p r) (i : Nat) : w.frozen? ⟨p, i, none⟩ = false := World.rowIs.frozen h.u i
theorem Rf.ct (h : Rf w c g p r) (k : Nat) (hk : k < 8) (i : Nat) (hi : i < 7) : w.cell? ⟨g, k * 7 + i, none⟩ = some (ycell (r.th k) i) := by
  refine row_val h.t (by omega) ?_
  unfold thf
  rw [show (k * 7 + i) / 7 = k by omega, show (k * 7 + i) % 7 = i by omega]
theorem Rf.t0 (h : Rf w c g p r) (k : Nat) (hk : k < 8) : w.cell? ⟨g, k * 7, none⟩ = some (.bool (r.th k).on) := h.ct k hk 0 (by omega)
theorem Rf.t1 (h : Rf w c g p r) (k : Nat) (hk : k < 8) : w.cell? ⟨g, k * 7 + 1, none⟩ = some (.int .i64 (r.th k).op) := h.ct k hk 1 (by omega)
theorem Rf.t2 (h : Rf w c g p r) (k : Nat) (hk : k < 8) : w.cell? ⟨g, k * 7 + 2, none⟩ = some (.int .i64 (r.th k).made) := h.ct k hk 2 (by omega)
theorem Rf.t3 (h : Rf w c g p r) (k : Nat) (hk : k < 8) : w.cell? ⟨g, k * 7 + 3, none⟩ = some (.int .i64 (r.th k).v) := h.ct k hk 3 (by omega)
theorem Rf.t4 (h : Rf w c g p r) (k : Nat) (hk : k < 8) : w.cell? ⟨g, k * 7 + 4, none⟩ = some (.int .i64 (r.th k).t) := h.ct k hk 4 (by omega)
theorem Rf.t5 (h : Rf w c g p r) (k : Nat) (hk : k < 8) : w.cell? ⟨g, k * 7 + 5, none⟩ = some (.int .i64 (r.th k).b) := h.ct k hk 5 (by omega)
theorem Rf.t6 (h : Rf w c g p r) (k : Nat) (hk : k < 8) : w.cell? ⟨g, k * 7 + 6, none⟩ = some (.bool (r.th k).won) := h.ct k hk 6 (by omega)
def set7 (w : World) (g k : Nat) (y : Y) : World := (((((((w.setCell ⟨g, k * 7, none⟩ (.bool y.on)).setCell ⟨g, k * 7 + 1, none⟩ (.int .i64 y.op)).setCell ⟨g, k * 7 + 2, none⟩ (.int .i64 y.made)).setCell ⟨g, k * 7 + 3, none⟩ (.int .i64 y.v)).setCell ⟨g, k * 7 + 4, none⟩ (.int .i64 y.t)).setCell ⟨g, k * 7 + 5, none⟩ (.int .i64 y.b)).setCell ⟨g, k * 7 + 6, none⟩ (.bool y.won))
theorem fr_set7 (w : World) (g k : Nat) (y : Y) (S : Nat → Prop) (h : S g) : Fr w (set7 w g k y) S :=
  ((((((fr_set w S g _ _ h).trans' (fr_set _ S g _ _ h)).trans' (fr_set _ S g _ _ h)).trans' (fr_set _ S g _ _ h)).trans' (fr_set _ S g _ _ h)).trans' (fr_set _ S g _ _ h)).trans' (fr_set _ S g _ _ h)
theorem Rf.set7 (h : Rf w c g p r) (k : Nat) (hk : k < 8) (y : Y) : Rf (set7 w g k y) c g p (r.setY k y) := by
  have f : Fr w (Ytldobbdaokjgaaa.set7 w g k y) (fun b => b = g) := fr_set7 w g k _ _ rfl
  refine { h with s := row_fr h.s f h.cg, t := ?_, u := row_fr h.u f (Ne.symm h.gp) }
  refine (((((((h.t.set _ _).set _ _).set _ _).set _ _).set _ _).set _ _).set _ _).congr (fun i hi => ?_)
  unfold thf R.setY ycell
  dsimp only
  by_cases e : i / 7 = k
  · rw [if_pos e]
    have h7 : i = k * 7 ∨ i = k * 7 + 1 ∨ i = k * 7 + 2 ∨ i = k * 7 + 3 ∨ i = k * 7 + 4 ∨ i = k * 7 + 5 ∨ i = k * 7 + 6 := by omega
    rcases h7 with e | e | e | e | e | e | e
    · rw [if_neg (by omega), if_neg (by omega), if_neg (by omega), if_neg (by omega), if_neg (by omega), if_neg (by omega), if_pos e, if_pos (by omega)]
    · rw [if_neg (by omega), if_neg (by omega), if_neg (by omega), if_neg (by omega), if_neg (by omega), if_pos e, if_neg (by omega), if_pos (by omega)]
    · rw [if_neg (by omega), if_neg (by omega), if_neg (by omega), if_neg (by omega), if_pos e, if_neg (by omega), if_neg (by omega), if_pos (by omega)]
    · rw [if_neg (by omega), if_neg (by omega), if_neg (by omega), if_pos e, if_neg (by omega), if_neg (by omega), if_neg (by omega), if_pos (by omega)]
    · rw [if_neg (by omega), if_neg (by omega), if_pos e, if_neg (by omega), if_neg (by omega), if_neg (by omega), if_neg (by omega), if_pos (by omega)]
    · rw [if_neg (by omega), if_pos e, if_neg (by omega), if_neg (by omega), if_neg (by omega), if_neg (by omega), if_neg (by omega), if_pos (by omega)]
    · rw [if_pos e, if_neg (by omega), if_neg (by omega), if_neg (by omega), if_neg (by omega), if_neg (by omega), if_neg (by omega)]
  · rw [if_neg e, if_neg (by omega), if_neg (by omega), if_neg (by omega), if_neg (by omega), if_neg (by omega), if_neg (by omega), if_neg (by omega)]
theorem Rf.sTop (h : Rf w c g p r) (x : Int) : Rf (w.setCell ⟨c, 0, none⟩ (.int .i64 x)) c g p (r.setTop x) :=
  { h with s := (h.s.set 0 _).congr (fun j hj => by match j, hj with | 0, _ => rfl | 1, _ => rfl | 2, _ => rfl | 3, _ => rfl), t := row_fr h.t (fr_b w c 0 _) (Ne.symm h.cg), u := row_fr h.u (fr_b w c 0 _) (Ne.symm h.cp) }
theorem Rf.sBot (h : Rf w c g p r) (x : Int) : Rf (w.setCell ⟨c, 1, none⟩ (.int .i64 x)) c g p (r.setBot x) :=
  { h with s := (h.s.set 1 _).congr (fun j hj => by match j, hj with | 0, _ => rfl | 1, _ => rfl | 2, _ => rfl | 3, _ => rfl), t := row_fr h.t (fr_b w c 1 _) (Ne.symm h.cg), u := row_fr h.u (fr_b w c 1 _) (Ne.symm h.cp) }
theorem Rf.sPl (h : Rf w c g p r) (i : Nat) (x : Int) : Rf (w.setCell ⟨p, i, none⟩ (.int .i64 x)) c g p (r.setPl i x) :=
  { h with s := row_fr h.s (fr_b w p i _) h.cp, t := row_fr h.t (fr_b w p i _) h.gp, u := (h.u.set i _).congr (fun j hj => by unfold R.setPl; dsimp only; split <;> rfl) }
end
theorem zero51 (w : World) : (zeroValue 51).run Try.prog w = .ok (.agg #[.bool false, .int .i64 0, .int .i64 0, .int .i64 0]) w := by kernel_rfl
theorem zero55 (w : World) : (zeroValue 55).run Try.prog w = .ok (.agg #[.bool false, .int .i64 0, .int .i64 0, .int .i64 0, .int .i64 0, .int .i64 0, .bool false]) w := by kernel_rfl
theorem zero48 (w : World) : (zeroValue 48).run Try.prog w = .ok (.agg #[.int .i64 0, .int .i64 0, .slice none 0 0, .slice none 0 0]) w := by kernel_rfl
/-- its place of a number is ours -/
theorem plc_neg (x : Int) (n : Nat) (h : 1 ≤ n) (hx : x.tmod n < 0) : x.tmod n + n = (plc x n : Int) := by
  rw [← plc_eq x n h]
  have h1 := neg_lt_tmod x n (by omega)
  generalize x.tmod n = T at *
  rw [Int.tmod_eq_emod_of_nonneg (by omega), Int.emod_eq_of_lt (by omega) (by omega)]
theorem plc_pos (x : Int) (n : Nat) (h : 1 ≤ n) (hx : ¬ x.tmod n < 0) : x.tmod n = (plc x n : Int) := by
  rw [← plc_eq x n h]
  have h1 := Int.tmod_lt_of_pos x (show (0 : Int) < n by omega)
  generalize x.tmod n = T at *
  rw [Int.tmod_eq_emod_of_nonneg (show 0 ≤ T + n by omega), Int.add_emod_right, Int.emod_eq_of_lt (by omega) (by omega)]
section
variable {w w1 : World} {c g p : Nat} {r : R}
theorem at_any (h : Rf w c g p r) (x : Int) : Calls Try.prog 32 #[.pointer (some ⟨c, 0, none⟩), .int .i64 x] w fun e w' => e = .returned (.int .i64 (plc x r.n)) ∧ w' = w := by
  have c2 := h.c2
  have n1 := h.n1
  have n2 := h.n2
  clear h
  generalize r.n = N at *
  have hlt := plc_lt x N n1
  obtain ⟨b1, b2⟩ := tmod_b x N n1
  have hz : ((N : Int) == 0) = false := by simp; omega
  have hN0 : ¬ (N = 0) := by omega
  by_cases hn : x.tmod N < 0
  · have e := plc_neg x N n1 hn
    have hw1 : IntKind.i64.wrap (x.tmod N) = x.tmod N := IntWalk.i64_in _ (by omega)
    have hv : wrap64 (x.tmod N + N) = (plc x N : Int) := by rw [← e]; exact wrE _ (by omega) (by omega)
    have HV := Lib.hid hv
    clear e b1 b2 hlt hv
    generalize plc x N = P at *
    go_enter Try.func32, Try.ntmps32
    go_wp2
    go_ret
    exact ⟨rt1 (ri HV.out), rfl⟩
  · have e := plc_pos x N n1 hn
    have hw1 : IntKind.i64.wrap (x.tmod N) = x.tmod N := IntWalk.i64_in _ (by omega)
    have HV := Lib.hid e
    clear e b1 b2 hlt
    generalize plc x N = P at *
    go_enter Try.func32, Try.ntmps32
    go_wp2
    go_ret
    exact ⟨rt1 (ri HV.out), rfl⟩
theorem Fr.far {x y : World} {S : Nat → Prop} {N B o : Nat} {v : Value} (h : Fr x y (fun k => S k ∨ N ≤ k)) (hB : N ≤ B) : Fr x (y.setCell ⟨B, o, none⟩ v) (fun k => S k ∨ N ≤ k) := h.trans' (fr_set _ _ _ _ _ (.inr hB))
theorem Fr.up {x y : World} {S : Nat → Prop} {N : Nat} (h : Fr x y S) : Fr x y (fun k => S k ∨ N ≤ k) := ⟨h.os, h.tape, h.output, h.size, fun k hk n => h.block k hk (fun s => n (.inl s))⟩
def Pd (w : World) (c g p : Nat) (r' : R) (d : D) (e : Ending) (w' : World) : Prop := e = .returned (dv d) ∧ Rf w' c g p r' ∧ Fr w w' (S3 c g p)
set_option maxRecDepth 100000 in
set_option maxHeartbeats 4000000 in
theorem rover_any (h : Rf w c g p r) (k : Nat) (hk : k < 8) (v e : Int) : Calls Try.prog 36 #[.pointer (some ⟨c, 0, none⟩), .int .i64 k, .int .i64 v, .int .i64 e] w (Pd w c g p (r.setY k {}) { over := true, op := (r.th k).op, v := v, err := e }) := by
  have hz := zero51
  have hz5 := zero55
  have c3 := h.c3
  have hlc := h.s.lt
  have hlg := h.t.lt
  have hlp := h.u.lt
  have f0 := h.fg (k * 7)
  have f1 := h.fg (k * 7 + 1)
  have f2 := h.fg (k * 7 + 2)
  have f3 := h.fg (k * 7 + 3)
  have f4 := h.fg (k * 7 + 4)
  have f5 := h.fg (k * 7 + 5)
  have f6 := h.fg (k * 7 + 6)
  have t0 := h.t0 k hk
  have t1 := h.t1 k hk
  have t2 := h.t2 k hk
  have t3 := h.t3 k hk
  have t4 := h.t4 k hk
  have t5 := h.t5 k hk
  have t6 := h.t6 k hk
  have hk8 : (k : Int) < 8 := by omega
  have hk0 : (0 : Int) ≤ (k : Int) := by omega
  have n1 : g ≠ w.heap.size := by omega
  have n2 : w.heap.size ≠ g := by omega
  have n3 : c ≠ w.heap.size := by omega
  have H := Lib.hid h
  clear h
  generalize hop : (r.th k).op = o1 at *
  generalize (r.th k).on = o0 at *
  generalize (r.th k).made = o2 at *
  generalize (r.th k).v = o3 at *
  generalize (r.th k).t = o4 at *
  generalize (r.th k).b = o5 at *
  generalize (r.th k).won = o6 at *
  unfold Pd dv
  go_enter Try.func36, Try.ntmps36
  go_upto_region 3 with fail
  have hs : (set7 w g k {}).heap.size = w.heap.size := by simp [Ytldobbdaokjgaaa.set7, World.setCell]
  refine (show Code.wp Try.prog (Code.region 3 _ _) _ _ ((set7 w g k {}).alloc _) from ?_)
  have HF := Lib.hid (And.intro (H.out.set7 k hk {}) (fr_set7 w g k {} (S3 c g p) (.inr (.inl rfl))))
  generalize set7 w g k {} = W7 at *
  rw [← hs]
  have HS := Lib.hid hs
  clear f0 f1 f2 f3 f4 f5 f6 t0 t1 t2 t3 t4 t5 t6 c3 hs n1 n2 n3
  go_wp2
  go_returns
  rw [← HS.out] at hlc hlg hlp
  refine ⟨rfl, ?_, ?_⟩
  · exact HF.out.1.alloc _
  · exact HF.out.2.trans' (fr_alloc _ _ _)
end
end Go.Proofs.Ytldobbdaokjgaaa
