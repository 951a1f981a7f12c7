/- The reference's lot: its blocks, New, over, least. -/
import Derived.Test.YtpmkdhaponhacaaDoorP15
namespace Go.Proofs.YtpmkdhaponhacaaDoor
open Go.RowKit
set_option linter.unusedVariables false
set_option linter.unusedSimpArgs false
structure Y where
  on : Bool := false
  op : Int := 0
  made : Int := 0
  s : Int := 0
  v : Int := 0
  k : Nat := 0
  same : Bool := false
  pk : Bool := false
  idle : Bool := false
structure R where
  work : Int
  seq : Int
  n : Nat
  th : Nat → Y
def R.setY (r : R) (k : Nat) (y : Y) : R := { work := r.work, seq := r.seq, n := r.n, th := fun j => if j = k then y else r.th j }
def R.setW (r : R) (x : Int) : R := { work := x, seq := r.seq, n := r.n, th := r.th }
def R.setS (r : R) (x : Int) : R := { work := r.work, seq := x, n := r.n, th := r.th }
theorem setY_at (r : R) (k : Nat) (y : Y) : (r.setY k y).th k = y := if_pos rfl
theorem setY_ne (r : R) (k j : Nat) (y : Y) (h : j ≠ k) : (r.setY k y).th j = r.th j := if_neg h
theorem setY_setY (r : R) (k : Nat) (x y : Y) : (r.setY k x).setY k y = r.setY k y := by
  unfold R.setY
  congr 1
  funext j
  by_cases e : j = k
  · rw [if_pos e, if_pos e]
  · rw [if_neg e, if_neg e]; exact if_neg e
def ycell (y : Y) (i : Nat) : Value := if i = 0 then .bool y.on else if i = 1 then .int .i64 y.op else if i = 2 then .int .i64 y.made else if i = 3 then .int .i64 y.s else if i = 4 then .int .i64 y.v else if i = 5 then .int .i64 (y.k : Int) else if i = 6 then .bool y.same else if i = 7 then .bool y.pk else .bool y.idle
def yagg (y : Y) : Array Value := #[.bool y.on, .int .i64 y.op, .int .i64 y.made, .int .i64 y.s, .int .i64 y.v, .int .i64 (y.k : Int), .bool y.same, .bool y.pk, .bool y.idle]
def rhd (r : R) (g : Nat) (j : Nat) : Value := if j = 0 then .int .i64 r.work else if j = 1 then .int .i64 r.seq else .slice (some ⟨g, 0, none⟩) r.n r.n
def rthf (th : Nat → Y) (j : Nat) : Value := ycell (th (j / 9)) (j % 9)
structure Rf (w : World) (c g : Nat) (r : R) : Prop where
  s : w.rowIs c 40 3 (rhd r g)
  t : w.rowIs g 48 (r.n * 9) (rthf r.th)
  ne : c ≠ g
  n1 : 2 ≤ r.n
  n2 : r.n ≤ 8
section
variable {w w1 : World} {c g : Nat} {r : R}
theorem Rf.frame (h : Rf w c g r) {S : Nat → Prop} (f : Fr w w1 S) (hc : ¬ S c) (hg : ¬ S g) : Rf w1 c g r := { h with s := row_fr h.s f hc, t := row_fr h.t f hg }
theorem Rf.below (h : Rf w c g r) (f : Below w.heap.size w w1) : Rf w1 c g r := { h with s := row_below h.s f h.s.lt, t := row_below h.t f h.t.lt }
theorem Rf.alloc (h : Rf w c g r) (o : Obj) : Rf (w.alloc o) c g r := { h with s := h.s.alloc o, t := h.t.alloc o }
theorem Rf.same (h : Rf w c g r) (e : w1.heap = w.heap) : Rf w1 c g r := { h with s := h.s.of_block (by rw [e]), t := h.t.of_block (by rw [e]) }
theorem Rf.drew (h : Rf w c g r) : Rf w.drew c g r := h.same rfl
theorem Rf.drewN (h : Rf w c g r) (m : Nat) : Rf (w.drewN m) c g r := h.same rfl
theorem Rf.c0 (h : Rf w c g r) : w.cell? ⟨c, 0, none⟩ = some (.int .i64 r.work) := row_val h.s (by omega) rfl
theorem Rf.c1 (h : Rf w c g r) : w.cell? ⟨c, 1, none⟩ = some (.int .i64 r.seq) := row_val h.s (by omega) rfl
theorem Rf.c2 (h : Rf w c g r) : w.cell? ⟨c, 2, none⟩ = some (.slice (some ⟨g, 0, none⟩) r.n r.n) := row_val h.s (by omega) rfl
theorem Rf.fc (h : Rf w c g r) (i : Nat) : w.frozen? ⟨c, i, none⟩ = false := World.rowIs.frozen h.s i
theorem Rf.fg (h : Rf w c g r) (i : Nat) : w.frozen? ⟨g, i, none⟩ = false := World.rowIs.frozen h.t i
theorem Rf.ct (h : Rf w c g r) (k : Nat) (hk : k < r.n) (i : Nat) (hi : i < 9) : w.cell? ⟨g, k * 9 + i, none⟩ = some (ycell (r.th k) i) := by
  refine row_val h.t (by omega) ?_
  unfold rthf
  rw [show (k * 9 + i) / 9 = k by omega, show (k * 9 + i) % 9 = i by omega]
theorem Rf.t0 (h : Rf w c g r) (k : Nat) (hk : k < r.n) : w.cell? ⟨g, k * 9, none⟩ = some (.bool (r.th k).on) := h.ct k hk 0 (by omega)
theorem Rf.t1 (h : Rf w c g r) (k : Nat) (hk : k < r.n) : w.cell? ⟨g, k * 9 + 1, none⟩ = some (.int .i64 (r.th k).op) := h.ct k hk 1 (by omega)
theorem Rf.t2 (h : Rf w c g r) (k : Nat) (hk : k < r.n) : w.cell? ⟨g, k * 9 + 2, none⟩ = some (.int .i64 (r.th k).made) := h.ct k hk 2 (by omega)
theorem Rf.t3 (h : Rf w c g r) (k : Nat) (hk : k < r.n) : w.cell? ⟨g, k * 9 + 3, none⟩ = some (.int .i64 (r.th k).s) := h.ct k hk 3 (by omega)
theorem Rf.t4 (h : Rf w c g r) (k : Nat) (hk : k < r.n) : w.cell? ⟨g, k * 9 + 4, none⟩ = some (.int .i64 (r.th k).v) := h.ct k hk 4 (by omega)
theorem Rf.t5 (h : Rf w c g r) (k : Nat) (hk : k < r.n) : w.cell? ⟨g, k * 9 + 5, none⟩ = some (.int .i64 ((r.th k).k : Int)) := h.ct k hk 5 (by omega)
theorem Rf.t6 (h : Rf w c g r) (k : Nat) (hk : k < r.n) : w.cell? ⟨g, k * 9 + 6, none⟩ = some (.bool (r.th k).same) := h.ct k hk 6 (by omega)
theorem Rf.t7 (h : Rf w c g r) (k : Nat) (hk : k < r.n) : w.cell? ⟨g, k * 9 + 7, none⟩ = some (.bool (r.th k).pk) := h.ct k hk 7 (by omega)
theorem Rf.t8 (h : Rf w c g r) (k : Nat) (hk : k < r.n) : w.cell? ⟨g, k * 9 + 8, none⟩ = some (.bool (r.th k).idle) := h.ct k hk 8 (by omega)
theorem Rf.sW (h : Rf w c g r) (x : Int) : Rf (w.setCell ⟨c, 0, none⟩ (.int .i64 x)) c g (r.setW x) :=
  { h with s := (h.s.set 0 _).congr (fun j hj => by match j, hj with | 0, _ => rfl | 1, _ => rfl | 2, _ => rfl), t := row_fr h.t (fr_b w c 0 _) (Ne.symm h.ne) }
theorem Rf.sS (h : Rf w c g r) (x : Int) : Rf (w.setCell ⟨c, 1, none⟩ (.int .i64 x)) c g (r.setS x) :=
  { h with s := (h.s.set 1 _).congr (fun j hj => by match j, hj with | 0, _ => rfl | 1, _ => rfl | 2, _ => rfl), t := row_fr h.t (fr_b w c 1 _) (Ne.symm h.ne) }
theorem Rf.setF (h : Rf w c g r) (k i : Nat) (hk : k < r.n) (hi : i < 9) (y : Y) (v : Value) (hv : v = ycell y i) (he : ∀ j, j < 9 → j ≠ i → ycell y j = ycell (r.th k) j) : Rf (w.setCell ⟨g, k * 9 + i, none⟩ v) c g (r.setY k y) := by
  subst hv
  refine { h with s := row_fr h.s (fr_b w g _ _) h.ne, t := (h.t.set _ _).congr (fun j hj => ?_) }
  unfold rthf R.setY
  dsimp only
  by_cases e : j = k * 9 + i
  · subst e
    rw [if_pos rfl, show (k * 9 + i) / 9 = k by omega, show (k * 9 + i) % 9 = i by omega, if_pos rfl]
  · rw [if_neg e]
    by_cases ek : j / 9 = k
    · rw [if_pos ek, ek]
      exact (he _ (by omega) (by omega)).symm
    · rw [if_neg ek]
theorem Rf.f0 (h : Rf w c g r) (k : Nat) (hk : k < r.n) (x : Bool) : Rf (w.setCell ⟨g, k * 9, none⟩ (.bool x)) c g (r.setY k { r.th k with on := x }) :=
  h.setF k 0 hk (by omega) _ _ rfl (fun j hj hn => by
    have : j = 1 ∨ j = 2 ∨ j = 3 ∨ j = 4 ∨ j = 5 ∨ j = 6 ∨ j = 7 ∨ j = 8 := by omega
    rcases this with rfl | rfl | rfl | rfl | rfl | rfl | rfl | rfl <;> rfl)
theorem Rf.f1 (h : Rf w c g r) (k : Nat) (hk : k < r.n) (x : Int) : Rf (w.setCell ⟨g, k * 9 + 1, none⟩ (.int .i64 x)) c g (r.setY k { r.th k with op := x }) :=
  h.setF k 1 hk (by omega) _ _ rfl (fun j hj hn => by
    have : j = 0 ∨ j = 2 ∨ j = 3 ∨ j = 4 ∨ j = 5 ∨ j = 6 ∨ j = 7 ∨ j = 8 := by omega
    rcases this with rfl | rfl | rfl | rfl | rfl | rfl | rfl | rfl <;> rfl)
theorem Rf.f2 (h : Rf w c g r) (k : Nat) (hk : k < r.n) (x : Int) : Rf (w.setCell ⟨g, k * 9 + 2, none⟩ (.int .i64 x)) c g (r.setY k { r.th k with made := x }) :=
  h.setF k 2 hk (by omega) _ _ rfl (fun j hj hn => by
    have : j = 0 ∨ j = 1 ∨ j = 3 ∨ j = 4 ∨ j = 5 ∨ j = 6 ∨ j = 7 ∨ j = 8 := by omega
    rcases this with rfl | rfl | rfl | rfl | rfl | rfl | rfl | rfl <;> rfl)
theorem Rf.f3 (h : Rf w c g r) (k : Nat) (hk : k < r.n) (x : Int) : Rf (w.setCell ⟨g, k * 9 + 3, none⟩ (.int .i64 x)) c g (r.setY k { r.th k with s := x }) :=
  h.setF k 3 hk (by omega) _ _ rfl (fun j hj hn => by
    have : j = 0 ∨ j = 1 ∨ j = 2 ∨ j = 4 ∨ j = 5 ∨ j = 6 ∨ j = 7 ∨ j = 8 := by omega
    rcases this with rfl | rfl | rfl | rfl | rfl | rfl | rfl | rfl <;> rfl)
theorem Rf.f4 (h : Rf w c g r) (k : Nat) (hk : k < r.n) (x : Int) : Rf (w.setCell ⟨g, k * 9 + 4, none⟩ (.int .i64 x)) c g (r.setY k { r.th k with v := x }) :=
  h.setF k 4 hk (by omega) _ _ rfl (fun j hj hn => by
    have : j = 0 ∨ j = 1 ∨ j = 2 ∨ j = 3 ∨ j = 5 ∨ j = 6 ∨ j = 7 ∨ j = 8 := by omega
    rcases this with rfl | rfl | rfl | rfl | rfl | rfl | rfl | rfl <;> rfl)
theorem Rf.f5 (h : Rf w c g r) (k : Nat) (hk : k < r.n) (x : Nat) : Rf (w.setCell ⟨g, k * 9 + 5, none⟩ (.int .i64 (x : Int))) c g (r.setY k { r.th k with k := x }) :=
  h.setF k 5 hk (by omega) _ _ rfl (fun j hj hn => by
    have : j = 0 ∨ j = 1 ∨ j = 2 ∨ j = 3 ∨ j = 4 ∨ j = 6 ∨ j = 7 ∨ j = 8 := by omega
    rcases this with rfl | rfl | rfl | rfl | rfl | rfl | rfl | rfl <;> rfl)
theorem Rf.f6 (h : Rf w c g r) (k : Nat) (hk : k < r.n) (x : Bool) : Rf (w.setCell ⟨g, k * 9 + 6, none⟩ (.bool x)) c g (r.setY k { r.th k with same := x }) :=
  h.setF k 6 hk (by omega) _ _ rfl (fun j hj hn => by
    have : j = 0 ∨ j = 1 ∨ j = 2 ∨ j = 3 ∨ j = 4 ∨ j = 5 ∨ j = 7 ∨ j = 8 := by omega
    rcases this with rfl | rfl | rfl | rfl | rfl | rfl | rfl | rfl <;> rfl)
theorem Rf.f7 (h : Rf w c g r) (k : Nat) (hk : k < r.n) (x : Bool) : Rf (w.setCell ⟨g, k * 9 + 7, none⟩ (.bool x)) c g (r.setY k { r.th k with pk := x }) :=
  h.setF k 7 hk (by omega) _ _ rfl (fun j hj hn => by
    have : j = 0 ∨ j = 1 ∨ j = 2 ∨ j = 3 ∨ j = 4 ∨ j = 5 ∨ j = 6 ∨ j = 8 := by omega
    rcases this with rfl | rfl | rfl | rfl | rfl | rfl | rfl | rfl <;> rfl)
theorem Rf.f8 (h : Rf w c g r) (k : Nat) (hk : k < r.n) (x : Bool) : Rf (w.setCell ⟨g, k * 9 + 8, none⟩ (.bool x)) c g (r.setY k { r.th k with idle := x }) :=
  h.setF k 8 hk (by omega) _ _ rfl (fun j hj hn => by
    have : j = 0 ∨ j = 1 ∨ j = 2 ∨ j = 3 ∨ j = 4 ∨ j = 5 ∨ j = 6 ∨ j = 7 := by omega
    rcases this with rfl | rfl | rfl | rfl | rfl | rfl | rfl | rfl <;> rfl)
theorem meas1 (K i : Nat) (h : i < K) : K - (intOf (.int .i64 ((i : Int) + 1))).toNat < K - (intOf (.int .i64 (i : Int))).toNat := by
  simp [intOf]
  omega
theorem wrE (x : Int) (h1 : -1000000000000000000 ≤ x) (h2 : x ≤ 1000000000000000000) : wrap64 x = x := by unfold wrap64; omega
/-- what over leaves -/
def over (r : R) (k : Nat) : R := r.setY k { r.th k with on := false, made := 0 }
set_option maxRecDepth 100000 in
set_option maxHeartbeats 2000000 in
theorem over_any (h : Rf w c g r) (k : Nat) (hk : k < r.n) (x : Int) : Calls Tryd.prog 32 #[.pointer (some ⟨c, 0, none⟩), .int .i64 k, .int .i64 x] w fun e w' => e = .returned (.int .i64 x) ∧ Rf w' c g (over r k) ∧ Fr w w' (S2 c g) := by
  have c2 := h.c2
  have g0 := h.fg (k * 9)
  have g2 := h.fg (k * 9 + 2)
  have t0 := h.t0 k hk
  have t2 := h.t2 k hk
  have hcg := h.ne
  have hcg' := Ne.symm h.ne
  have K := (h.f0 k hk false).f2 k hk 0
  rw [setY_setY, setY_at] at K
  have HK := Lib.hid K
  have hk1 : (k : Int) < (r.n : Int) := by omega
  have hk0 : (0 : Int) ≤ (k : Int) := by omega
  clear h K
  go_enter Tryd.func32, Tryd.ntmps32
  go_wp2
  go_ret
  exact ⟨rfl, HK.out, (fr_set _ _ _ _ _ (.inr rfl)).trans' (fr_set _ _ _ _ _ (.inr rfl))⟩
/-- the least worker whose bit is there -/
def Least (r : R) (m : Nat) : Prop := (m = 0 ∧ ∀ j, 1 ≤ j → j < r.n → (r.th j).idle = false) ∨ (1 ≤ m ∧ m < r.n ∧ (r.th m).idle = true ∧ ∀ j, 1 ≤ j → j < m → (r.th j).idle = false)
set_option maxRecDepth 100000 in
set_option maxHeartbeats 2000000 in
theorem least_any (h : Rf w c g r) (m : Nat) (hm : Least r m) : Calls Tryd.prog 31 #[.pointer (some ⟨c, 0, none⟩)] w fun e w' => e = .returned (.int .i64 m) ∧ w' = w := by
  have c2 := h.c2
  have HT := Lib.hid (fun k hk => h.t8 k hk)
  have HM := Lib.hid hm
  have hn := Lib.hid h.n1
  have hn2 := Lib.hid h.n2
  clear h hm
  obtain ⟨n, hN⟩ : ∃ n, n = r.n := ⟨_, rfl⟩
  rw [← hN] at c2 HT hn hn2
  unfold Least at HM
  rw [← hN] at HM
  clear hN
  go_enter Tryd.func31, Tryd.ntmps31
  go_wp2
  go_loopw [3] (fun kv wr => ∃ i : Nat, 1 ≤ i ∧ i ≤ n ∧ kv = .int .i64 i ∧ wr = w ∧ ∀ j, 1 ≤ j → j < i → (r.th j).idle = false) (fun kv wr => n - (intOf kv).toNat)
  case atStart => exact ⟨1, by omega, by have := hn.out; omega, rfl, rfl, fun j h1 h2 => by omega⟩
  case round =>
    obtain ⟨i, h1, h2, rfl, rfl, hj⟩ := hrel
    have HJ := Lib.hid hj
    clear hj
    by_cases hlt : i < n
    · have t8 := HT.out i hlt
      have hl1 : (i : Int) < (n : Int) := by omega
      have hl0 : (0 : Int) ≤ (i : Int) := by omega
      cases hb : (r.th i).idle
      · rw [hb] at t8
        have HB := Lib.hid hb
        clear hb
        have hwi : wrap64 ((i : Int) + 1) = (i : Int) + 1 := wrE _ (by omega) (by have := hn2.out; omega)
        have HWI := Lib.hid hwi
        clear hwi HM
        go_wp2
        have hwi := HWI.out
        have HJ2 : ∀ j, 1 ≤ j → j < i + 1 → (r.th j).idle = false := fun j g1 g2 => by
          by_cases e : j = i
          · rw [e]; exact HB.out
          · exact HJ.out j g1 (by omega)
        clear HT HWI hl1 hl0
        rw [hwi]
        exact ⟨⟨i + 1, Nat.le_succ_of_le h1, hlt, rfl, by trivial, HJ2⟩, meas1 n i hlt⟩
      · rw [hb] at t8
        have HB := Lib.hid hb
        clear hb
        have hmi : m = i := by
          rcases HM.out with ⟨_, a⟩ | ⟨a, b, c', d⟩
          · exact absurd (a i h1 (by omega)) (by rw [HB.out]; decide)
          · by_cases e : m < i
            · exact absurd (HJ.out m a e) (by rw [c']; decide)
            · by_cases e2 : i < m
              · exact absurd (d i h1 e2) (by rw [HB.out]; decide)
              · omega
        subst hmi
        go_wp2
        go_ret
        exact ⟨rfl, rfl⟩
    · have hge : ¬ ((i : Int) < (n : Int)) := by omega
      have hm0 : m = 0 := by
        rcases HM.out with ⟨a, _⟩ | ⟨a, b, c', d⟩
        · exact a
        · exact absurd (HJ.out m a (by omega)) (by rw [c']; decide)
      subst hm0
      go_wp2
      go_ret
      exact ⟨rfl, rfl⟩
end
def R0 (m : Nat) : R := { work := 0, seq := 0, n := m, th := fun _ => {} }
def yz : Array Value := #[.bool false, .int .i64 0, .int .i64 0, .int .i64 0, .int .i64 0, .int .i64 0, .bool false, .bool false, .bool false]
theorem make38 (n : Nat) (hn : n ≤ 8) (w : World) : (Instr.makeSlice 38 (.int .i64 n) (.int .i64 n)).run Tryd.prog w = .ok (.slice (some ⟨w.heap.size, 0, none⟩) n n) (w.alloc (.cells (madeCells yz (n * 9)) 48)) := by
  have h : (Tryd.prog.info? 48).map (fun i => (i.zero, i.size, i.bytes)) = some (some (.agg yz), 9, 56) := by kernel_rfl
  obtain ⟨i, hi, hzz⟩ := Option.map_eq_some_iff.1 h
  simp only [Prod.mk.injEq] at hzz
  obtain ⟨hz, hs, hb⟩ := hzz
  have := run_make (P := Tryd.prog) w 38 48 i _ Tryd.underlying38 hi hz .i64 .i64 n n (by omega) (Int.le_refl _) (by rw [hb]; omega) (by omega)
  rw [hs] at this
  exact this
theorem made9 (n i : Nat) (hi : i < n * 9) : (madeCells yz (n * 9))[i]? = some (rthf (fun _ => {}) i) := by
  have h : i % 9 = 0 ∨ i % 9 = 1 ∨ i % 9 = 2 ∨ i % 9 = 3 ∨ i % 9 = 4 ∨ i % 9 = 5 ∨ i % 9 = 6 ∨ i % 9 = 7 ∨ i % 9 = 8 := by omega
  rcases h with e | e | e | e | e | e | e | e | e <;> simp [madeCells, hi, rthf, ycell, yz, e]
theorem zero40 (w : World) : (zeroValue 40).run Tryd.prog w = .ok (.agg #[.int .i64 0, .int .i64 0, .slice none 0 0]) w := by kernel_rfl
theorem rf_new (w : World) (m : Nat) (h1 : 2 ≤ m) (h2 : m ≤ 8) (A : Array Value) (hA : A = madeCells yz (m * 9)) : Rf ((w.alloc (.cells A 48)).alloc (.cells #[.int .i64 0, .int .i64 0, .slice (some ⟨w.heap.size, 0, none⟩) m m] 40)) (w.heap.size + 1) w.heap.size (R0 m) := by
  subst hA
  have r1 := row_new w (madeCells yz (m * 9)) 48 (m * 9) (rthf (fun _ => {})) (size_madeCells _ _) (made9 m)
  have r2 := row_new (w.alloc (.cells (madeCells yz (m * 9)) 48)) #[.int .i64 0, .int .i64 0, .slice (some ⟨w.heap.size, 0, none⟩) m m] 40 3 (rhd (R0 m) w.heap.size) rfl (fun i hi => by match i, hi with | 0, _ => rfl | 1, _ => rfl | 2, _ => rfl)
  rw [World.size_alloc] at r2
  exact ⟨r2, r1.alloc _, by omega, h1, h2⟩
set_option maxRecDepth 100000 in
set_option maxHeartbeats 2000000 in
theorem rnew_any (s : Int) (w : World) : Calls Tryd.prog 15 #[.int .i64 s] w fun e w' => ∃ c g, e = .returned (.pointer (some ⟨c, 0, none⟩)) ∧ Rf w' c g (R0 (nw s + 1)) ∧ Fr w w' (fun _ => False) ∧ w.heap.size ≤ c ∧ w.heap.size ≤ g := by
  have hmk := make38 (nw s + 1) (by have := nw_hi s; omega)
  generalize hA : madeCells yz ((nw s + 1) * 9) = Ac at *
  have HF := Lib.hid (rf_new w (nw s + 1) (by have := nw_lo s; omega) (by have := nw_hi s; omega) Ac hA.symm)
  have hz := zero40
  clear hA
  have hN : (s < 1 ∧ ((nw s + 1 : Nat) : Int) = 2) ∨ (1 ≤ s ∧ s ≤ 7 ∧ ((nw s + 1 : Nat) : Int) = s + 1) ∨ (1 ≤ s ∧ 7 < s ∧ ((nw s + 1 : Nat) : Int) = 8) := by
    unfold nw
    by_cases h1 : s < 1
    · exact .inl ⟨h1, by rw [if_pos h1]; rfl⟩
    · by_cases h2 : s ≤ 7
      · exact .inr (.inl ⟨by omega, h2, by rw [if_neg h1, if_pos h2]; omega⟩)
      · exact .inr (.inr ⟨by omega, by omega, by rw [if_neg h1, if_neg h2]; rfl⟩)
  generalize nw s + 1 = C at *
  rcases hN with ⟨h1, hC⟩ | ⟨h1, h2, hC⟩ | ⟨h1, h2, hC⟩
  all_goals
    rw [hC] at hmk
    go_enter Tryd.func15, Tryd.ntmps15
    go_wp2
    go_ret
    exact ⟨_, _, rfl, HF.out, (fr_alloc _ _ _).trans' (fr_alloc _ _ _), by omega, by omega⟩
end Go.Proofs.YtpmkdhaponhacaaDoor
