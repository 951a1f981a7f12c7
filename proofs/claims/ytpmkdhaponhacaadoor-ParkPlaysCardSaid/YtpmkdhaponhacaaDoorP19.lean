/- The reference's give and seek. -/
import Derived.Test.YtpmkdhaponhacaaDoorP18
import Derived.Deep.RegionHeld3
namespace Go.Proofs.YtpmkdhaponhacaaDoor
open Go.RowKit
set_option linter.unusedVariables false
set_option linter.unusedSimpArgs false
def rgive (r : R) (k m : Nat) : (Int × Nat) × R :=
  if (r.th k).made = 1 then ((-1, 0), r.setW (wrap64 (r.work + 1)))
  else if (r.th k).made = 2 then ((-1, 0), r.setS (wrap64 (r.seq + 1)))
  else if (r.th k).made = 3 then (if m = 0 then ((0, 0), over r k) else ((-1, 0), r.setY k { r.th k with k := m }))
  else if (r.th (r.th k).k).idle = true then ((1, (r.th k).k), over (r.setY (r.th k).k { r.th (r.th k).k with idle := false, pk := false }) k)
  else ((-1, 0), r.setY k { r.th k with made := 2 })
def rseek (r : R) (k : Nat) : Int × R :=
  if (r.th k).made = 1 then (-1, r.setY k { r.th k with s := r.seq })
  else if (r.th k).made = 2 then (-1, r.setY k { r.th k with v := r.work })
  else if (r.th k).made = 3 then (if (r.th k).v = 0 then (-1, r.setY k { r.th k with idle := true }) else if r.work = (r.th k).v then (2, over (r.setW (wrap64 (r.work - 1))) k) else (-1, r.setY k { r.th k with made := 0 }))
  else if (r.th k).made = 4 then (-1, r.setY k { r.th k with same := (r.seq == (r.th k).s) })
  else if (r.th k).same = true ∧ (r.th k).idle = true then (3, over (r.setY k { r.th k with pk := true }) k)
  else (4, over (r.setY k { r.th k with idle := false }) k)
def Pg (w : World) (c g : Nat) (x : (Int × Nat) × R) (e : Ending) (w' : World) : Prop := e = .returned (.tuple #[.int .i64 x.1.1, .int .i64 (x.1.2 : Int)]) ∧ Rf w' c g x.2 ∧ Fr w w' (S2 c g)
def Pk (w : World) (c g : Nat) (x : Int × R) (e : Ending) (w' : World) : Prop := e = .returned (.int .i64 x.1) ∧ Rf w' c g x.2 ∧ Fr w w' (S2 c g)
section
variable {w w1 : World} {c g : Nat} {r : R}
set_option maxRecDepth 100000 in
set_option maxHeartbeats 4000000 in
theorem rgive1 (h : Rf w c g r) (k m : Nat) (hk : k < r.n) (h1 : (r.th k).made = 1) : Calls Tryd.prog 27 #[.pointer (some ⟨c, 0, none⟩), .int .i64 k] w (Pg w c g (rgive r k m)) := by
  rw [show rgive r k m = ((-1, 0), r.setW (wrap64 (r.work + 1))) from if_pos h1]
  have c2 := h.c2
  have t2 := h.t2 k hk
  have hcg := h.ne
  have hcg' := Ne.symm h.ne
  have hk1 : (k : Int) < (r.n : Int) := by omega
  have hk0 : (0 : Int) ≤ (k : Int) := by omega
  rw [h1] at t2
  have c0 := h.c0
  have g0 := h.fc 0
  have HK := Lib.hid (h.sW (wrap64 (r.work + 1)))
  clear h h1
  go_enter Tryd.func27, Tryd.ntmps27
  go_wp2
  go_returns
  exact ⟨rfl, HK.out, fr_set _ _ _ _ _ (.inl rfl)⟩
set_option maxRecDepth 100000 in
set_option maxHeartbeats 4000000 in
theorem rgive2 (h : Rf w c g r) (k m : Nat) (hk : k < r.n) (h1 : (r.th k).made = 2) : Calls Tryd.prog 27 #[.pointer (some ⟨c, 0, none⟩), .int .i64 k] w (Pg w c g (rgive r k m)) := by
  rw [show rgive r k m = ((-1, 0), r.setS (wrap64 (r.seq + 1))) from by unfold rgive; rw [if_neg (by omega), if_pos h1]]
  have c2 := h.c2
  have t2 := h.t2 k hk
  have hcg := h.ne
  have hcg' := Ne.symm h.ne
  have hk1 : (k : Int) < (r.n : Int) := by omega
  have hk0 : (0 : Int) ≤ (k : Int) := by omega
  rw [h1] at t2
  have c1 := h.c1
  have g1 := h.fc 1
  have HK := Lib.hid (h.sS (wrap64 (r.seq + 1)))
  clear h h1
  go_enter Tryd.func27, Tryd.ntmps27
  go_wp2
  go_returns
  exact ⟨rfl, HK.out, fr_set _ _ _ _ _ (.inl rfl)⟩
set_option maxRecDepth 100000 in
set_option maxHeartbeats 4000000 in
theorem rgive3a (h : Rf w c g r) (k m : Nat) (hk : k < r.n) (h1 : (r.th k).made = 3) (hm : Least r m) (h2 : m = 0) : Calls Tryd.prog 27 #[.pointer (some ⟨c, 0, none⟩), .int .i64 k] w (Pg w c g (rgive r k m)) := by
  rw [show rgive r k m = ((0, 0), over r k) from by unfold rgive; rw [if_neg (by omega), if_neg (by omega), if_pos h1, if_pos h2]]
  have c2 := h.c2
  have t2 := h.t2 k hk
  have hcg := h.ne
  have hcg' := Ne.symm h.ne
  have hk1 : (k : Int) < (r.n : Int) := by omega
  have hk0 : (0 : Int) ≤ (k : Int) := by omega
  rw [h1] at t2
  subst h2
  have HL := Lib.hid (least_any h 0 hm)
  have HO := Lib.hid (over_any h k hk 0)
  clear h h1 hm
  go_enter Tryd.func27, Tryd.ntmps27
  go_wp2_with fail
  refine HL.out.mono ?_
  rintro e w1 ⟨rfl, rfl⟩
  go_wp2_with fail
  refine HO.out.mono ?_
  rintro e w2 ⟨rfl, k1, k2⟩
  go_wp2
  go_returns
  exact ⟨rfl, k1, k2⟩
set_option maxRecDepth 100000 in
set_option maxHeartbeats 4000000 in
theorem rgive3b (h : Rf w c g r) (k m : Nat) (hk : k < r.n) (h1 : (r.th k).made = 3) (hm : Least r m) (h2 : m ≠ 0) : Calls Tryd.prog 27 #[.pointer (some ⟨c, 0, none⟩), .int .i64 k] w (Pg w c g (rgive r k m)) := by
  rw [show rgive r k m = ((-1, 0), r.setY k { r.th k with k := m }) from by unfold rgive; rw [if_neg (by omega), if_neg (by omega), if_pos h1, if_neg h2]]
  have c2 := h.c2
  have t2 := h.t2 k hk
  have hcg := h.ne
  have hcg' := Ne.symm h.ne
  have hk1 : (k : Int) < (r.n : Int) := by omega
  have hk0 : (0 : Int) ≤ (k : Int) := by omega
  rw [h1] at t2
  have t5 := h.t5 k hk
  have g5 := h.fg (k * 9 + 5)
  have hmb : ((m : Int) == 0) = false := by simp; omega
  have HL := Lib.hid (least_any h m hm)
  have HK := Lib.hid (h.f5 k hk m)
  clear h h1 hm h2
  go_enter Tryd.func27, Tryd.ntmps27
  go_wp2_with fail
  refine HL.out.mono ?_
  rintro e w1 ⟨rfl, rfl⟩
  go_wp2
  go_returns
  exact ⟨rfl, HK.out, fr_set _ _ _ _ _ (.inr rfl)⟩
set_option maxRecDepth 100000 in
set_option maxHeartbeats 4000000 in
theorem rgive4a (h : Rf w c g r) (k m : Nat) (hk : k < r.n) (h1 : (r.th k).made = 4) (hkk : (r.th k).k < r.n) (h2 : (r.th (r.th k).k).idle = false) : Calls Tryd.prog 27 #[.pointer (some ⟨c, 0, none⟩), .int .i64 k] w (Pg w c g (rgive r k m)) := by
  rw [show rgive r k m = ((-1, 0), r.setY k { r.th k with made := 2 }) from by unfold rgive; rw [if_neg (by omega), if_neg (by omega), if_neg (by omega), if_neg (by rw [h2]; decide)]]
  have c2 := h.c2
  have t2 := h.t2 k hk
  have hcg := h.ne
  have hcg' := Ne.symm h.ne
  have hk1 : (k : Int) < (r.n : Int) := by omega
  have hk0 : (0 : Int) ≤ (k : Int) := by omega
  rw [h1] at t2
  have t5 := h.t5 k hk
  have t8 := h.t8 _ hkk
  rw [h2] at t8
  have g2 := h.fg (k * 9 + 2)
  have HK := Lib.hid (h.f2 k hk 2)
  have hj1 : ((r.th k).k : Int) < (r.n : Int) := by omega
  have hj0 : (0 : Int) ≤ ((r.th k).k : Int) := by omega
  clear h h1 h2
  generalize (r.th k).k = j at *
  go_enter Tryd.func27, Tryd.ntmps27
  go_wp2
  go_returns
  exact ⟨rfl, HK.out, fr_set _ _ _ _ _ (.inr rfl)⟩
set_option maxRecDepth 100000 in
set_option maxHeartbeats 4000000 in
theorem rgive4b (h : Rf w c g r) (k m : Nat) (hk : k < r.n) (h1 : (r.th k).made = 4) (hkk : (r.th k).k < r.n) (h2 : (r.th (r.th k).k).idle = true) : Calls Tryd.prog 27 #[.pointer (some ⟨c, 0, none⟩), .int .i64 k] w (Pg w c g (rgive r k m)) := by
  rw [show rgive r k m = ((1, (r.th k).k), over (r.setY (r.th k).k { r.th (r.th k).k with idle := false, pk := false }) k) from by unfold rgive; rw [if_neg (by omega), if_neg (by omega), if_neg (by omega), if_pos h2]]
  have c2 := h.c2
  have t2 := h.t2 k hk
  have hcg := h.ne
  have hcg' := Ne.symm h.ne
  have hk1 : (k : Int) < (r.n : Int) := by omega
  have hk0 : (0 : Int) ≤ (k : Int) := by omega
  rw [h1] at t2
  have t5 := h.t5 k hk
  have t8 := h.t8 _ hkk
  have t7 := h.t7 _ hkk
  rw [h2] at t8
  have g7 := h.fg ((r.th k).k * 9 + 7)
  have g8 := h.fg ((r.th k).k * 9 + 8)
  have K := (h.f8 _ hkk false).f7 (r.th k).k hkk false
  rw [setY_setY, setY_at] at K
  have HO := Lib.hid (over_any K k hk 1)
  have hj1 : ((r.th k).k : Int) < (r.n : Int) := by omega
  have hj0 : (0 : Int) ≤ ((r.th k).k : Int) := by omega
  clear h h1 h2 K
  generalize (r.th k).k = j at *
  go_enter Tryd.func27, Tryd.ntmps27
  go_wp2_with fail
  refine HO.out.mono ?_
  rintro e w2 ⟨rfl, k1, k2⟩
  go_wp2
  go_returns
  exact ⟨rfl, k1, ((fr_set _ _ _ _ _ (.inr rfl)).trans' (fr_set _ _ _ _ _ (.inr rfl))).trans' k2⟩
theorem give_any (h : Rf w c g r) (k m : Nat) (hk : k < r.n) (h1 : (r.th k).made = 1 ∨ (r.th k).made = 2 ∨ (r.th k).made = 3 ∨ (r.th k).made = 4) (hm : Least r m) (hkk : (r.th k).k < r.n) : Calls Tryd.prog 27 #[.pointer (some ⟨c, 0, none⟩), .int .i64 k] w (Pg w c g (rgive r k m)) := by
  rcases h1 with h1 | h1 | h1 | h1
  · exact rgive1 h k m hk h1
  · exact rgive2 h k m hk h1
  · by_cases h2 : m = 0
    · exact rgive3a h k m hk h1 hm h2
    · exact rgive3b h k m hk h1 hm h2
  · cases h2 : (r.th (r.th k).k).idle
    · exact rgive4a h k m hk h1 hkk h2
    · exact rgive4b h k m hk h1 hkk h2
set_option maxRecDepth 100000 in
set_option maxHeartbeats 4000000 in
theorem seek1 (h : Rf w c g r) (k : Nat) (hk : k < r.n) (h1 : (r.th k).made = 1) : Calls Tryd.prog 28 #[.pointer (some ⟨c, 0, none⟩), .int .i64 k] w (Pk w c g (rseek r k)) := by
  rw [show rseek r k = (-1, r.setY k { r.th k with s := r.seq }) from by unfold rseek; rw [if_pos h1]]
  have c2 := h.c2
  have t2 := h.t2 k hk
  have hcg := h.ne
  have hcg' := Ne.symm h.ne
  have hk1 : (k : Int) < (r.n : Int) := by omega
  have hk0 : (0 : Int) ≤ (k : Int) := by omega
  have t0 := h.t0 k hk
  have t1 := h.t1 k hk
  have t3 := h.t3 k hk
  have t4 := h.t4 k hk
  have t5 := h.t5 k hk
  have t6 := h.t6 k hk
  have t7 := h.t7 k hk
  have t8 := h.t8 k hk
  have c0 := h.c0
  have c1 := h.c1
  have hlc := h.s.lt
  have hlg := h.t.lt
  have n1 : c ≠ w.heap.size := by omega
  have n2 : g ≠ w.heap.size := by omega
  have n3 : w.heap.size ≠ c := by omega
  have n4 : w.heap.size ≠ g := by omega
  rw [h1] at t2
  have g3 := h.fg (k * 9 + 3)
  have HK := Lib.hid ((h.f3 k hk r.seq).alloc (.cells #[.bool (r.th k).on, .int .i64 (r.th k).op, .int .i64 1, .int .i64 (r.th k).s, .int .i64 (r.th k).v, .int .i64 ((r.th k).k : Int), .bool (r.th k).same, .bool (r.th k).pk, .bool (r.th k).idle] 48))
  clear h h1
  generalize (r.th k).on = y0 at *
  generalize (r.th k).op = y1 at *
  generalize (r.th k).s = y3 at *
  generalize (r.th k).v = y4 at *
  generalize (r.th k).k = y5 at *
  generalize (r.th k).same = y6 at *
  generalize (r.th k).pk = y7 at *
  generalize (r.th k).idle = y8 at *
  go_enter Tryd.func28, Tryd.ntmps28
  go_wp2
  go_region
  all_goals
    go_wp2
    go_ret
    exact ⟨rfl, HK.out.drew, ((fr_set _ _ _ _ _ (.inr rfl)).trans' (fr_alloc _ _ _)).trans' (fr_drew _ _)⟩
set_option maxRecDepth 100000 in
set_option maxHeartbeats 4000000 in
theorem seek2 (h : Rf w c g r) (k : Nat) (hk : k < r.n) (h1 : (r.th k).made = 2) : Calls Tryd.prog 28 #[.pointer (some ⟨c, 0, none⟩), .int .i64 k] w (Pk w c g (rseek r k)) := by
  rw [show rseek r k = (-1, r.setY k { r.th k with v := r.work }) from by unfold rseek; rw [if_neg (by omega), if_pos h1]]
  have c2 := h.c2
  have t2 := h.t2 k hk
  have hcg := h.ne
  have hcg' := Ne.symm h.ne
  have hk1 : (k : Int) < (r.n : Int) := by omega
  have hk0 : (0 : Int) ≤ (k : Int) := by omega
  have t0 := h.t0 k hk
  have t1 := h.t1 k hk
  have t3 := h.t3 k hk
  have t4 := h.t4 k hk
  have t5 := h.t5 k hk
  have t6 := h.t6 k hk
  have t7 := h.t7 k hk
  have t8 := h.t8 k hk
  have c0 := h.c0
  have c1 := h.c1
  have hlc := h.s.lt
  have hlg := h.t.lt
  have n1 : c ≠ w.heap.size := by omega
  have n2 : g ≠ w.heap.size := by omega
  have n3 : w.heap.size ≠ c := by omega
  have n4 : w.heap.size ≠ g := by omega
  rw [h1] at t2
  have g4 := h.fg (k * 9 + 4)
  have HK := Lib.hid ((h.f4 k hk r.work).alloc (.cells #[.bool (r.th k).on, .int .i64 (r.th k).op, .int .i64 2, .int .i64 (r.th k).s, .int .i64 (r.th k).v, .int .i64 ((r.th k).k : Int), .bool (r.th k).same, .bool (r.th k).pk, .bool (r.th k).idle] 48))
  clear h h1
  generalize (r.th k).on = y0 at *
  generalize (r.th k).op = y1 at *
  generalize (r.th k).s = y3 at *
  generalize (r.th k).v = y4 at *
  generalize (r.th k).k = y5 at *
  generalize (r.th k).same = y6 at *
  generalize (r.th k).pk = y7 at *
  generalize (r.th k).idle = y8 at *
  go_enter Tryd.func28, Tryd.ntmps28
  go_wp2
  go_region
  all_goals
    go_wp2
    go_ret
    exact ⟨rfl, HK.out.drew, ((fr_set _ _ _ _ _ (.inr rfl)).trans' (fr_alloc _ _ _)).trans' (fr_drew _ _)⟩
set_option maxRecDepth 100000 in
set_option maxHeartbeats 4000000 in
theorem seek4 (h : Rf w c g r) (k : Nat) (hk : k < r.n) (h1 : (r.th k).made = 4) : Calls Tryd.prog 28 #[.pointer (some ⟨c, 0, none⟩), .int .i64 k] w (Pk w c g (rseek r k)) := by
  rw [show rseek r k = (-1, r.setY k { r.th k with same := (r.seq == (r.th k).s) }) from by unfold rseek; rw [if_neg (by omega), if_neg (by omega), if_neg (by omega), if_pos h1]]
  have c2 := h.c2
  have t2 := h.t2 k hk
  have hcg := h.ne
  have hcg' := Ne.symm h.ne
  have hk1 : (k : Int) < (r.n : Int) := by omega
  have hk0 : (0 : Int) ≤ (k : Int) := by omega
  have t0 := h.t0 k hk
  have t1 := h.t1 k hk
  have t3 := h.t3 k hk
  have t4 := h.t4 k hk
  have t5 := h.t5 k hk
  have t6 := h.t6 k hk
  have t7 := h.t7 k hk
  have t8 := h.t8 k hk
  have c0 := h.c0
  have c1 := h.c1
  have hlc := h.s.lt
  have hlg := h.t.lt
  have n1 : c ≠ w.heap.size := by omega
  have n2 : g ≠ w.heap.size := by omega
  have n3 : w.heap.size ≠ c := by omega
  have n4 : w.heap.size ≠ g := by omega
  rw [h1] at t2
  have g6 := h.fg (k * 9 + 6)
  have HK := Lib.hid ((h.f6 k hk (r.seq == (r.th k).s)).alloc (.cells #[.bool (r.th k).on, .int .i64 (r.th k).op, .int .i64 4, .int .i64 (r.th k).s, .int .i64 (r.th k).v, .int .i64 ((r.th k).k : Int), .bool (r.th k).same, .bool (r.th k).pk, .bool (r.th k).idle] 48))
  clear h h1
  generalize (r.th k).on = y0 at *
  generalize (r.th k).op = y1 at *
  generalize (r.th k).s = y3 at *
  generalize (r.th k).v = y4 at *
  generalize (r.th k).k = y5 at *
  generalize (r.th k).same = y6 at *
  generalize (r.th k).pk = y7 at *
  generalize (r.th k).idle = y8 at *
  go_enter Tryd.func28, Tryd.ntmps28
  go_wp2
  go_region
  all_goals
    go_wp2
    go_ret
    exact ⟨rfl, HK.out.drew, ((fr_set _ _ _ _ _ (.inr rfl)).trans' (fr_alloc _ _ _)).trans' (fr_drew _ _)⟩
set_option maxRecDepth 100000 in
set_option maxHeartbeats 4000000 in
theorem seek3a (h : Rf w c g r) (k : Nat) (hk : k < r.n) (h1 : (r.th k).made = 3) (h2 : (r.th k).v = 0) : Calls Tryd.prog 28 #[.pointer (some ⟨c, 0, none⟩), .int .i64 k] w (Pk w c g (rseek r k)) := by
  rw [show rseek r k = (-1, r.setY k { r.th k with idle := true }) from by unfold rseek; rw [if_neg (by omega), if_neg (by omega), if_pos h1, if_pos h2]]
  have c2 := h.c2
  have t2 := h.t2 k hk
  have hcg := h.ne
  have hcg' := Ne.symm h.ne
  have hk1 : (k : Int) < (r.n : Int) := by omega
  have hk0 : (0 : Int) ≤ (k : Int) := by omega
  have t0 := h.t0 k hk
  have t1 := h.t1 k hk
  have t3 := h.t3 k hk
  have t4 := h.t4 k hk
  have t5 := h.t5 k hk
  have t6 := h.t6 k hk
  have t7 := h.t7 k hk
  have t8 := h.t8 k hk
  have c0 := h.c0
  have c1 := h.c1
  have hlc := h.s.lt
  have hlg := h.t.lt
  have n1 : c ≠ w.heap.size := by omega
  have n2 : g ≠ w.heap.size := by omega
  have n3 : w.heap.size ≠ c := by omega
  have n4 : w.heap.size ≠ g := by omega
  rw [h1] at t2
  rw [h2] at t4
  have g8 := h.fg (k * 9 + 8)
  have HK := Lib.hid ((h.f8 k hk true).alloc (.cells #[.bool (r.th k).on, .int .i64 (r.th k).op, .int .i64 3, .int .i64 (r.th k).s, .int .i64 (r.th k).v, .int .i64 ((r.th k).k : Int), .bool (r.th k).same, .bool (r.th k).pk, .bool (r.th k).idle] 48))
  rw [h2] at HK
  clear h2
  clear h h1
  generalize (r.th k).on = y0 at *
  generalize (r.th k).op = y1 at *
  generalize (r.th k).s = y3 at *
  generalize (r.th k).v = y4 at *
  generalize (r.th k).k = y5 at *
  generalize (r.th k).same = y6 at *
  generalize (r.th k).pk = y7 at *
  generalize (r.th k).idle = y8 at *
  go_enter Tryd.func28, Tryd.ntmps28
  go_wp2
  go_ret
  exact ⟨rfl, HK.out, (fr_set _ _ _ _ _ (.inr rfl)).trans' (fr_alloc _ _ _)⟩
set_option maxRecDepth 100000 in
set_option maxHeartbeats 4000000 in
theorem seek3b (h : Rf w c g r) (k : Nat) (hk : k < r.n) (h1 : (r.th k).made = 3) (h2 : (r.th k).v ≠ 0) (h3 : r.work ≠ (r.th k).v) : Calls Tryd.prog 28 #[.pointer (some ⟨c, 0, none⟩), .int .i64 k] w (Pk w c g (rseek r k)) := by
  rw [show rseek r k = (-1, r.setY k { r.th k with made := 0 }) from by unfold rseek; rw [if_neg (by omega), if_neg (by omega), if_pos h1, if_neg h2, if_neg h3]]
  have c2 := h.c2
  have t2 := h.t2 k hk
  have hcg := h.ne
  have hcg' := Ne.symm h.ne
  have hk1 : (k : Int) < (r.n : Int) := by omega
  have hk0 : (0 : Int) ≤ (k : Int) := by omega
  have t0 := h.t0 k hk
  have t1 := h.t1 k hk
  have t3 := h.t3 k hk
  have t4 := h.t4 k hk
  have t5 := h.t5 k hk
  have t6 := h.t6 k hk
  have t7 := h.t7 k hk
  have t8 := h.t8 k hk
  have c0 := h.c0
  have c1 := h.c1
  have hlc := h.s.lt
  have hlg := h.t.lt
  have n1 : c ≠ w.heap.size := by omega
  have n2 : g ≠ w.heap.size := by omega
  have n3 : w.heap.size ≠ c := by omega
  have n4 : w.heap.size ≠ g := by omega
  rw [h1] at t2
  have g2 := h.fg (k * 9 + 2)
  have b4 : ((r.th k).v == 0) = false := by simpa using h2
  have b5 : (r.work != (r.th k).v) = true := by simpa using h3
  have HK := Lib.hid (fun nq => ((h.alloc (.cells #[.bool (r.th k).on, .int .i64 (r.th k).op, .int .i64 3, .int .i64 (r.th k).s, .int .i64 (r.th k).v, .int .i64 ((r.th k).k : Int), .bool (r.th k).same, .bool (r.th k).pk, .bool (r.th k).idle] 48)).drewN nq).f2 k hk 0)
  clear h2 h3
  clear h h1
  generalize (r.th k).on = y0 at *
  generalize (r.th k).op = y1 at *
  generalize (r.th k).s = y3 at *
  generalize (r.th k).v = y4 at *
  generalize (r.th k).k = y5 at *
  generalize (r.th k).same = y6 at *
  generalize (r.th k).pk = y7 at *
  generalize (r.th k).idle = y8 at *
  go_enter Tryd.func28, Tryd.ntmps28
  go_wp2_with fail
  go_quiet (fail)
  go_wp2
  go_ret
  exact ⟨rfl, HK.out _, ((fr_alloc _ _ _).trans' (fr_drewN _ _ _)).trans' (fr_set _ _ _ _ _ (.inr rfl))⟩
set_option maxRecDepth 100000 in
set_option maxHeartbeats 4000000 in
theorem seek3c (h : Rf w c g r) (k : Nat) (hk : k < r.n) (h1 : (r.th k).made = 3) (h2 : (r.th k).v ≠ 0) (h3 : r.work = (r.th k).v) : Calls Tryd.prog 28 #[.pointer (some ⟨c, 0, none⟩), .int .i64 k] w (Pk w c g (rseek r k)) := by
  rw [show rseek r k = (2, over (r.setW (wrap64 (r.work - 1))) k) from by unfold rseek; rw [if_neg (by omega), if_neg (by omega), if_pos h1, if_neg h2, if_pos h3]]
  have c2 := h.c2
  have t2 := h.t2 k hk
  have hcg := h.ne
  have hcg' := Ne.symm h.ne
  have hk1 : (k : Int) < (r.n : Int) := by omega
  have hk0 : (0 : Int) ≤ (k : Int) := by omega
  have t0 := h.t0 k hk
  have t1 := h.t1 k hk
  have t3 := h.t3 k hk
  have t4 := h.t4 k hk
  have t5 := h.t5 k hk
  have t6 := h.t6 k hk
  have t7 := h.t7 k hk
  have t8 := h.t8 k hk
  have c0 := h.c0
  have c1 := h.c1
  have hlc := h.s.lt
  have hlg := h.t.lt
  have n1 : c ≠ w.heap.size := by omega
  have n2 : g ≠ w.heap.size := by omega
  have n3 : w.heap.size ≠ c := by omega
  have n4 : w.heap.size ≠ g := by omega
  rw [h1] at t2
  have b4 : ((r.th k).v == 0) = false := by simpa using h2
  have b5 : (r.work != (r.th k).v) = false := by simpa using h3
  have g0 := h.fc 0
  have HO := Lib.hid (fun nq => over_any (((h.alloc (.cells #[.bool (r.th k).on, .int .i64 (r.th k).op, .int .i64 3, .int .i64 (r.th k).s, .int .i64 (r.th k).v, .int .i64 ((r.th k).k : Int), .bool (r.th k).same, .bool (r.th k).pk, .bool (r.th k).idle] 48)).drewN nq).sW (wrap64 (r.work - 1))) k hk 2)
  clear h2 h3
  clear h h1
  generalize (r.th k).on = y0 at *
  generalize (r.th k).op = y1 at *
  generalize (r.th k).s = y3 at *
  generalize (r.th k).v = y4 at *
  generalize (r.th k).k = y5 at *
  generalize (r.th k).same = y6 at *
  generalize (r.th k).pk = y7 at *
  generalize (r.th k).idle = y8 at *
  go_enter Tryd.func28, Tryd.ntmps28
  go_wp2_with fail
  go_quiet (fail)
  go_wp2_with fail
  refine (HO.out _).mono ?_
  rintro e w2 ⟨rfl, k1, k2⟩
  go_wp2
  go_ret
  exact ⟨rfl, k1, (((fr_alloc _ _ _).trans' (fr_drewN _ _ _)).trans' (fr_set _ _ _ _ _ (.inl rfl))).trans' k2⟩
set_option maxRecDepth 100000 in
set_option maxHeartbeats 4000000 in
theorem seek5a (h : Rf w c g r) (k : Nat) (hk : k < r.n) (h1 : (r.th k).made = 5) (h2 : (r.th k).same = true) (h3 : (r.th k).idle = true) : Calls Tryd.prog 28 #[.pointer (some ⟨c, 0, none⟩), .int .i64 k] w (Pk w c g (rseek r k)) := by
  rw [show rseek r k = (3, over (r.setY k { r.th k with pk := true }) k) from by unfold rseek; rw [if_neg (by omega), if_neg (by omega), if_neg (by omega), if_neg (by omega), if_pos ⟨h2, h3⟩]]
  have c2 := h.c2
  have t2 := h.t2 k hk
  have hcg := h.ne
  have hcg' := Ne.symm h.ne
  have hk1 : (k : Int) < (r.n : Int) := by omega
  have hk0 : (0 : Int) ≤ (k : Int) := by omega
  have t0 := h.t0 k hk
  have t1 := h.t1 k hk
  have t3 := h.t3 k hk
  have t4 := h.t4 k hk
  have t5 := h.t5 k hk
  have t6 := h.t6 k hk
  have t7 := h.t7 k hk
  have t8 := h.t8 k hk
  have c0 := h.c0
  have c1 := h.c1
  have hlc := h.s.lt
  have hlg := h.t.lt
  have n1 : c ≠ w.heap.size := by omega
  have n2 : g ≠ w.heap.size := by omega
  have n3 : w.heap.size ≠ c := by omega
  have n4 : w.heap.size ≠ g := by omega
  rw [h1] at t2
  rw [h2] at t6
  rw [h3] at t8
  have g7 := h.fg (k * 9 + 7)
  have HO := Lib.hid (over_any ((h.f7 k hk true).alloc (.cells #[.bool (r.th k).on, .int .i64 (r.th k).op, .int .i64 5, .int .i64 (r.th k).s, .int .i64 (r.th k).v, .int .i64 ((r.th k).k : Int), .bool (r.th k).same, .bool (r.th k).pk, .bool (r.th k).idle] 48)) k hk 3)
  rw [h2, h3] at HO
  clear h2 h3
  clear h h1
  go_enter Tryd.func28, Tryd.ntmps28
  go_wp2_with fail
  refine HO.out.mono ?_
  rintro e w2 ⟨rfl, k1, k2⟩
  go_wp2
  go_ret
  exact ⟨rfl, k1, ((fr_set _ _ _ _ _ (.inr rfl)).trans' (fr_alloc _ _ _)).trans' k2⟩
set_option maxRecDepth 100000 in
set_option maxHeartbeats 4000000 in
theorem seek5b (h : Rf w c g r) (k : Nat) (hk : k < r.n) (h1 : (r.th k).made = 5) (h2 : (r.th k).same = false) : Calls Tryd.prog 28 #[.pointer (some ⟨c, 0, none⟩), .int .i64 k] w (Pk w c g (rseek r k)) := by
  rw [show rseek r k = (4, over (r.setY k { r.th k with idle := false }) k) from by unfold rseek; rw [if_neg (by omega), if_neg (by omega), if_neg (by omega), if_neg (by omega), if_neg (fun x => by rw [h2] at x; exact absurd x.1 (by decide))]]
  have c2 := h.c2
  have t2 := h.t2 k hk
  have hcg := h.ne
  have hcg' := Ne.symm h.ne
  have hk1 : (k : Int) < (r.n : Int) := by omega
  have hk0 : (0 : Int) ≤ (k : Int) := by omega
  have t0 := h.t0 k hk
  have t1 := h.t1 k hk
  have t3 := h.t3 k hk
  have t4 := h.t4 k hk
  have t5 := h.t5 k hk
  have t6 := h.t6 k hk
  have t7 := h.t7 k hk
  have t8 := h.t8 k hk
  have c0 := h.c0
  have c1 := h.c1
  have hlc := h.s.lt
  have hlg := h.t.lt
  have n1 : c ≠ w.heap.size := by omega
  have n2 : g ≠ w.heap.size := by omega
  have n3 : w.heap.size ≠ c := by omega
  have n4 : w.heap.size ≠ g := by omega
  rw [h1] at t2
  rw [h2] at t6
  have g8 := h.fg (k * 9 + 8)
  have HO := Lib.hid (over_any ((h.f8 k hk false).alloc (.cells #[.bool (r.th k).on, .int .i64 (r.th k).op, .int .i64 5, .int .i64 (r.th k).s, .int .i64 (r.th k).v, .int .i64 ((r.th k).k : Int), .bool (r.th k).same, .bool (r.th k).pk, .bool (r.th k).idle] 48)) k hk 4)
  rw [h2] at HO
  clear h2
  clear h h1
  go_enter Tryd.func28, Tryd.ntmps28
  go_wp2_with fail
  refine HO.out.mono ?_
  rintro e w2 ⟨rfl, k1, k2⟩
  go_wp2
  go_ret
  exact ⟨rfl, k1, ((fr_set _ _ _ _ _ (.inr rfl)).trans' (fr_alloc _ _ _)).trans' k2⟩
set_option maxRecDepth 100000 in
set_option maxHeartbeats 4000000 in
theorem seek5c (h : Rf w c g r) (k : Nat) (hk : k < r.n) (h1 : (r.th k).made = 5) (h2 : (r.th k).same = true) (h3 : (r.th k).idle = false) : Calls Tryd.prog 28 #[.pointer (some ⟨c, 0, none⟩), .int .i64 k] w (Pk w c g (rseek r k)) := by
  rw [show rseek r k = (4, over (r.setY k { r.th k with idle := false }) k) from by unfold rseek; rw [if_neg (by omega), if_neg (by omega), if_neg (by omega), if_neg (by omega), if_neg (fun x => by rw [h3] at x; exact absurd x.2 (by decide))]]
  have c2 := h.c2
  have t2 := h.t2 k hk
  have hcg := h.ne
  have hcg' := Ne.symm h.ne
  have hk1 : (k : Int) < (r.n : Int) := by omega
  have hk0 : (0 : Int) ≤ (k : Int) := by omega
  have t0 := h.t0 k hk
  have t1 := h.t1 k hk
  have t3 := h.t3 k hk
  have t4 := h.t4 k hk
  have t5 := h.t5 k hk
  have t6 := h.t6 k hk
  have t7 := h.t7 k hk
  have t8 := h.t8 k hk
  have c0 := h.c0
  have c1 := h.c1
  have hlc := h.s.lt
  have hlg := h.t.lt
  have n1 : c ≠ w.heap.size := by omega
  have n2 : g ≠ w.heap.size := by omega
  have n3 : w.heap.size ≠ c := by omega
  have n4 : w.heap.size ≠ g := by omega
  rw [h1] at t2
  rw [h2] at t6
  rw [h3] at t8
  have g8 := h.fg (k * 9 + 8)
  have HO := Lib.hid (over_any ((h.f8 k hk false).alloc (.cells #[.bool (r.th k).on, .int .i64 (r.th k).op, .int .i64 5, .int .i64 (r.th k).s, .int .i64 (r.th k).v, .int .i64 ((r.th k).k : Int), .bool (r.th k).same, .bool (r.th k).pk, .bool (r.th k).idle] 48)) k hk 4)
  rw [h2, h3] at HO
  clear h2 h3
  clear h h1
  go_enter Tryd.func28, Tryd.ntmps28
  go_wp2_with fail
  refine HO.out.mono ?_
  rintro e w2 ⟨rfl, k1, k2⟩
  go_wp2
  go_ret
  exact ⟨rfl, k1, ((fr_set _ _ _ _ _ (.inr rfl)).trans' (fr_alloc _ _ _)).trans' k2⟩
theorem seek_any (h : Rf w c g r) (k : Nat) (hk : k < r.n) (h1 : (r.th k).made = 1 ∨ (r.th k).made = 2 ∨ (r.th k).made = 3 ∨ (r.th k).made = 4 ∨ (r.th k).made = 5) : Calls Tryd.prog 28 #[.pointer (some ⟨c, 0, none⟩), .int .i64 k] w (Pk w c g (rseek r k)) := by
  rcases h1 with h1 | h1 | h1 | h1 | h1
  · exact seek1 h k hk h1
  · exact seek2 h k hk h1
  · by_cases h2 : (r.th k).v = 0
    · exact seek3a h k hk h1 h2
    · by_cases h3 : r.work = (r.th k).v
      · exact seek3c h k hk h1 h2 h3
      · exact seek3b h k hk h1 h2 h3
  · exact seek4 h k hk h1
  · cases h2 : (r.th k).same
    · exact seek5b h k hk h1 h2
    · cases h3 : (r.th k).idle
      · exact seek5c h k hk h1 h2 h3
      · exact seek5a h k hk h1 h2 h3
end
end Go.Proofs.YtpmkdhaponhacaaDoor
