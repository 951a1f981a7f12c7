/- The reference's hold and wake. -/
import Derived.Test.YtildpjgjnfiihaaP14
namespace Go.Proofs.Ytildpjgjnfiihaa
open Go.RowKit
set_option linter.unusedVariables false
set_option linter.unusedSimpArgs false
theorem stp_eq (q : Q) (k : Nat) (a : A) (h : stepA q k = a) : stp q k = ({ now := a.now, held := a.held, th := q.th } : Q).set k a.nx := by
  unfold stp; rw [h]; rfl
section
variable {w w1 : World} {c g : Nat} {q : Q}
theorem Rf.drew (h : Rf w c g q) : Rf w.drew c g q := ⟨h.s, h.t, h.cg⟩
def Hp (w : World) (c g : Nat) (q : Q) (k : Nat) (e : Ending) (w' : World) : Prop := e = .returned (.int .i64 (stepA q k).what) ∧ Rf w' c g (stp q k) ∧ Fr w w' (S2 c g)
theorem hp_mk {k : Nat} {w' : World} (a : A) (h : stepA q k = a) (hr : Rf w' c g (({ now := a.now, held := a.held, th := q.th } : Q).set k a.nx)) (f : Fr w w' (S2 c g)) (e : Ending) (he : e = .returned (.int .i64 a.what)) : Hp w c g q k e w' :=
  ⟨by rw [h]; exact he, by rw [stp_eq q k a h]; exact hr, f⟩
set_option maxHeartbeats 1000000 in
theorem mhold_start (h : Rf w c g q) (hx : q.th 0 = .start) : Calls Try.prog 23 #[.pointer (some ⟨c, 0, none⟩), .agg #[.bool true, .int .i64 1, .int .i64 1, .int .i64 0]] w (Hp w c g q 0) := by
  have c0 := h.c0
  have c1 := h.c1
  have c2 := h.c2
  have z0 := h.fc 0
  have z2 := h.fc 2
  have hlc := h.s.lt
  have hlg := h.t.lt
  have hcg := h.cg
  have hz := zero43
  have t0 := h.t0 0 (by omega)
  have t1 := h.t1 0 (by omega)
  have t2 := h.t2 0 (by omega)
  have t3 := h.t3 0 (by omega)
  rw [Nat.zero_mul] at t0
  rw [Nat.zero_mul, Nat.zero_add] at t1 t2 t3
  have f0 := h.fg 0
  have f1 := h.fg 1
  have f2 := h.fg 2
  have f3 := h.fg 3
  by_cases hnow : q.now = 1
  · have e : stepA q 0 = ⟨2, true, .no, 0⟩ := by
      unfold stepA; rw [hx]
      show (if q.now = 1 then _ else _) = _; rw [if_pos hnow]
    have hc0 := Lib.hid (change_yes (h.alloc (.cells #[.bool true, .int .i64 1, .int .i64 1, .int .i64 0] 43)) 1 2 hnow)
    have HE := Lib.hid e
    have H := Lib.hid h
    clear h e hx
    try clear hnow
    try clear hn2
    try clear hn3
    generalize (enc (q.th 0)).on = u0 at t0
    generalize ((enc (q.th 0)).op : Int) = u1 at t1
    generalize ((enc (q.th 0)).made : Int) = u2 at t2
    generalize ((enc (q.th 0)).read : Int) = u3 at t3
    go_enter Try.func23, Try.ntmps23
    go_wp2_with fail
    refine hc0.out.mono ?_
    rintro e w' ⟨rfl, rfl⟩
    go_wp2
    go_ret
    exact hp_mk _ HE.out ((Rf.set4 (Rf.setHeld (Rf.setNow H.out 2) true) 0 (by omega) .no).alloc _) ((((fr_set _ _ c 0 _ (.inl rfl)).trans' (fr_set _ _ c 2 _ (.inl rfl))).trans' (fr_set4 _ g 0 (enc .no) _ (.inr rfl))).trans' (fr_alloc _ _ _)) _ rfl
  · have e : stepA q 0 = ⟨q.now, q.held, .no, 3⟩ := by
      unfold stepA; rw [hx]
      show (if q.now = 1 then _ else _) = _; rw [if_neg hnow]
    have hc0 := Lib.hid (change_no (h.alloc (.cells #[.bool true, .int .i64 1, .int .i64 1, .int .i64 0] 43)) 1 2 hnow)
    have HE := Lib.hid e
    have H := Lib.hid h
    clear h e hx
    try clear hnow
    try clear hn2
    try clear hn3
    generalize (enc (q.th 0)).on = u0 at t0
    generalize ((enc (q.th 0)).op : Int) = u1 at t1
    generalize ((enc (q.th 0)).made : Int) = u2 at t2
    generalize ((enc (q.th 0)).read : Int) = u3 at t3
    go_enter Try.func23, Try.ntmps23
    go_wp2_with fail
    refine hc0.out.mono ?_
    rintro e w' ⟨rfl, rfl⟩
    go_wp2
    go_ret
    exact hp_mk _ HE.out ((Rf.set4 H.out 0 (by omega) .no).alloc _) ((fr_set4 _ g 0 (enc .no) _ (.inr rfl)).trans' (fr_alloc _ _ _)) _ rfl
set_option maxHeartbeats 1000000 in
theorem mhold_sleep (h : Rf w c g q) (hx : q.th 0 = .sleep) : Calls Try.prog 23 #[.pointer (some ⟨c, 0, none⟩), .agg #[.bool true, .int .i64 2, .int .i64 1, .int .i64 0]] w (Hp w c g q 0) := by
  have c0 := h.c0
  have c1 := h.c1
  have c2 := h.c2
  have z0 := h.fc 0
  have z2 := h.fc 2
  have hlc := h.s.lt
  have hlg := h.t.lt
  have hcg := h.cg
  have hz := zero43
  have t0 := h.t0 0 (by omega)
  have t1 := h.t1 0 (by omega)
  have t2 := h.t2 0 (by omega)
  have t3 := h.t3 0 (by omega)
  rw [Nat.zero_mul] at t0
  rw [Nat.zero_mul, Nat.zero_add] at t1 t2 t3
  have f0 := h.fg 0
  have f1 := h.fg 1
  have f2 := h.fg 2
  have f3 := h.fg 3
  by_cases hnow : q.now = 2
  · have e : stepA q 0 = ⟨0, false, .no, 0⟩ := by
      unfold stepA; rw [hx]
      show (if q.now = 2 then _ else _) = _; rw [if_pos hnow]
    have hc0 := Lib.hid (change_yes (h.alloc (.cells #[.bool true, .int .i64 2, .int .i64 1, .int .i64 0] 43)) 2 0 hnow)
    have HE := Lib.hid e
    have H := Lib.hid h
    clear h e hx
    try clear hnow
    try clear hn2
    try clear hn3
    generalize (enc (q.th 0)).on = u0 at t0
    generalize ((enc (q.th 0)).op : Int) = u1 at t1
    generalize ((enc (q.th 0)).made : Int) = u2 at t2
    generalize ((enc (q.th 0)).read : Int) = u3 at t3
    go_enter Try.func23, Try.ntmps23
    go_wp2_with fail
    refine hc0.out.mono ?_
    rintro e w' ⟨rfl, rfl⟩
    go_wp2
    go_ret
    exact hp_mk _ HE.out ((Rf.set4 (Rf.setHeld (Rf.setNow H.out 0) false) 0 (by omega) .no).alloc _) ((((fr_set _ _ c 0 _ (.inl rfl)).trans' (fr_set _ _ c 2 _ (.inl rfl))).trans' (fr_set4 _ g 0 (enc .no) _ (.inr rfl))).trans' (fr_alloc _ _ _)) _ rfl
  · have e : stepA q 0 = ⟨q.now, q.held, .goes, -1⟩ := by
      unfold stepA; rw [hx]
      show (if q.now = 2 then _ else _) = _; rw [if_neg hnow]
    have hc0 := Lib.hid (change_no (h.alloc (.cells #[.bool true, .int .i64 2, .int .i64 1, .int .i64 0] 43)) 2 0 hnow)
    have HE := Lib.hid e
    have H := Lib.hid h
    clear h e hx
    try clear hnow
    try clear hn2
    try clear hn3
    generalize (enc (q.th 0)).on = u0 at t0
    generalize ((enc (q.th 0)).op : Int) = u1 at t1
    generalize ((enc (q.th 0)).made : Int) = u2 at t2
    generalize ((enc (q.th 0)).read : Int) = u3 at t3
    go_enter Try.func23, Try.ntmps23
    go_wp2_with fail
    refine hc0.out.mono ?_
    rintro e w' ⟨rfl, rfl⟩
    go_wp2
    go_region
    go_wp2
    go_ret
    exact hp_mk _ HE.out (((Rf.set4 H.out 0 (by omega) .goes).alloc _).drew) (((fr_set4 _ g 0 (enc .goes) _ (.inr rfl)).trans' (fr_alloc _ _ _)).trans' (fr_drew _ _)) _ rfl
set_option maxHeartbeats 1000000 in
theorem mhold_goes (h : Rf w c g q) (hx : q.th 0 = .goes) : Calls Try.prog 23 #[.pointer (some ⟨c, 0, none⟩), .agg #[.bool true, .int .i64 2, .int .i64 2, .int .i64 0]] w (Hp w c g q 0) := by
  have c0 := h.c0
  have c1 := h.c1
  have c2 := h.c2
  have z0 := h.fc 0
  have z2 := h.fc 2
  have hlc := h.s.lt
  have hlg := h.t.lt
  have hcg := h.cg
  have hz := zero43
  have t0 := h.t0 0 (by omega)
  have t1 := h.t1 0 (by omega)
  have t2 := h.t2 0 (by omega)
  have t3 := h.t3 0 (by omega)
  rw [Nat.zero_mul] at t0
  rw [Nat.zero_mul, Nat.zero_add] at t1 t2 t3
  have f0 := h.fg 0
  have f1 := h.fg 1
  have f2 := h.fg 2
  have f3 := h.fg 3
  by_cases hnow : q.now = 3
  · have e : stepA q 0 = ⟨2, q.held, .no, 2⟩ := by
      unfold stepA; rw [hx]
      show (if q.now = 3 then _ else _) = _; rw [if_pos hnow]
    have hc0 := Lib.hid (change_yes (h.alloc (.cells #[.bool true, .int .i64 2, .int .i64 2, .int .i64 0] 43)) 3 2 hnow)
    have HE := Lib.hid e
    have H := Lib.hid h
    clear h e hx
    try clear hnow
    try clear hn2
    try clear hn3
    generalize (enc (q.th 0)).on = u0 at t0
    generalize ((enc (q.th 0)).op : Int) = u1 at t1
    generalize ((enc (q.th 0)).made : Int) = u2 at t2
    generalize ((enc (q.th 0)).read : Int) = u3 at t3
    go_enter Try.func23, Try.ntmps23
    go_wp2_with fail
    refine hc0.out.mono ?_
    rintro e w' ⟨rfl, rfl⟩
    go_wp2
    go_ret
    exact hp_mk _ HE.out ((Rf.set4 (Rf.setNow H.out 2) 0 (by omega) .no).alloc _) (((fr_set _ _ c 0 _ (.inl rfl)).trans' (fr_set4 _ g 0 (enc .no) _ (.inr rfl))).trans' (fr_alloc _ _ _)) _ rfl
  · have e : stepA q 0 = ⟨q.now, q.held, .no, 3⟩ := by
      unfold stepA; rw [hx]
      show (if q.now = 3 then _ else _) = _; rw [if_neg hnow]
    have hc0 := Lib.hid (change_no (h.alloc (.cells #[.bool true, .int .i64 2, .int .i64 2, .int .i64 0] 43)) 3 2 hnow)
    have HE := Lib.hid e
    have H := Lib.hid h
    clear h e hx
    try clear hnow
    try clear hn2
    try clear hn3
    generalize (enc (q.th 0)).on = u0 at t0
    generalize ((enc (q.th 0)).op : Int) = u1 at t1
    generalize ((enc (q.th 0)).made : Int) = u2 at t2
    generalize ((enc (q.th 0)).read : Int) = u3 at t3
    go_enter Try.func23, Try.ntmps23
    go_wp2_with fail
    refine hc0.out.mono ?_
    rintro e w' ⟨rfl, rfl⟩
    go_wp2
    go_ret
    exact hp_mk _ HE.out ((Rf.set4 H.out 0 (by omega) .no).alloc _) ((fr_set4 _ g 0 (enc .no) _ (.inr rfl)).trans' (fr_alloc _ _ _)) _ rfl
set_option maxHeartbeats 1000000 in
theorem mhold_die (h : Rf w c g q) (hx : q.th 0 = .die) : Calls Try.prog 23 #[.pointer (some ⟨c, 0, none⟩), .agg #[.bool true, .int .i64 4, .int .i64 1, .int .i64 0]] w (Hp w c g q 0) := by
  have c0 := h.c0
  have c1 := h.c1
  have c2 := h.c2
  have z0 := h.fc 0
  have z2 := h.fc 2
  have hlc := h.s.lt
  have hlg := h.t.lt
  have hcg := h.cg
  have hz := zero43
  have t0 := h.t0 0 (by omega)
  have t1 := h.t1 0 (by omega)
  have t2 := h.t2 0 (by omega)
  have t3 := h.t3 0 (by omega)
  rw [Nat.zero_mul] at t0
  rw [Nat.zero_mul, Nat.zero_add] at t1 t2 t3
  have f0 := h.fg 0
  have f1 := h.fg 1
  have f2 := h.fg 2
  have f3 := h.fg 3
  have e : stepA q 0 = ⟨4, false, .no, 0⟩ := by
    unfold stepA; rw [hx]
    rfl
  have HE := Lib.hid e
  have H := Lib.hid h
  clear h e hx
  try clear hnow
  try clear hn2
  try clear hn3
  generalize (enc (q.th 0)).on = u0 at t0
  generalize ((enc (q.th 0)).op : Int) = u1 at t1
  generalize ((enc (q.th 0)).made : Int) = u2 at t2
  generalize ((enc (q.th 0)).read : Int) = u3 at t3
  go_enter Try.func23, Try.ntmps23
  go_wp2
  go_ret
  exact hp_mk _ HE.out ((Rf.set4 (Rf.setHeld (Rf.setNow H.out 4) false) 0 (by omega) .no).alloc _) ((((fr_set _ _ c 0 _ (.inl rfl)).trans' (fr_set _ _ c 2 _ (.inl rfl))).trans' (fr_set4 _ g 0 (enc .no) _ (.inr rfl))).trans' (fr_alloc _ _ _)) _ rfl
set_option maxHeartbeats 1000000 in
theorem mhold_yield (h : Rf w c g q) (hx : q.th 0 = .yield) : Calls Try.prog 23 #[.pointer (some ⟨c, 0, none⟩), .agg #[.bool true, .int .i64 3, .int .i64 1, .int .i64 0]] w (Hp w c g q 0) := by
  have c0 := h.c0
  have c1 := h.c1
  have c2 := h.c2
  have z0 := h.fc 0
  have z2 := h.fc 2
  have hlc := h.s.lt
  have hlg := h.t.lt
  have hcg := h.cg
  have hz := zero43
  have t0 := h.t0 0 (by omega)
  have t1 := h.t1 0 (by omega)
  have t2 := h.t2 0 (by omega)
  have t3 := h.t3 0 (by omega)
  rw [Nat.zero_mul] at t0
  rw [Nat.zero_mul, Nat.zero_add] at t1 t2 t3
  have f0 := h.fg 0
  have f1 := h.fg 1
  have f2 := h.fg 2
  have f3 := h.fg 3
  by_cases hn2 : q.now = 2
  · have hnow := hn2
    have e : stepA q 0 = ⟨1, false, .no, 1⟩ := by
      unfold stepA; rw [hx]
      show (if q.now = 2 then _ else _) = _; rw [if_pos hnow]
    have hc0 := Lib.hid (change_yes (h.alloc (.cells #[.bool true, .int .i64 3, .int .i64 1, .int .i64 0] 43)) 2 1 hnow)
    have HE := Lib.hid e
    have H := Lib.hid h
    clear h e hx
    try clear hnow
    try clear hn2
    try clear hn3
    generalize (enc (q.th 0)).on = u0 at t0
    generalize ((enc (q.th 0)).op : Int) = u1 at t1
    generalize ((enc (q.th 0)).made : Int) = u2 at t2
    generalize ((enc (q.th 0)).read : Int) = u3 at t3
    go_enter Try.func23, Try.ntmps23
    go_wp2_with fail
    refine hc0.out.mono ?_
    rintro e w' ⟨rfl, rfl⟩
    go_wp2
    go_ret
    exact hp_mk _ HE.out ((Rf.set4 (Rf.setHeld (Rf.setNow H.out 1) false) 0 (by omega) .no).alloc _) ((((fr_set _ _ c 0 _ (.inl rfl)).trans' (fr_set _ _ c 2 _ (.inl rfl))).trans' (fr_set4 _ g 0 (enc .no) _ (.inr rfl))).trans' (fr_alloc _ _ _)) _ rfl
  · by_cases hn3 : q.now = 3
    · have hnow := hn3
      have e : stepA q 0 = ⟨1, false, .no, 1⟩ := by
        unfold stepA; rw [hx]
        show (if q.now = 2 then _ else _) = _; rw [if_neg hn2, if_pos hnow]
      have hc0 := Lib.hid (change_no (h.alloc (.cells #[.bool true, .int .i64 3, .int .i64 1, .int .i64 0] 43)) 2 1 hn2)
      have hc1 := Lib.hid (change_yes (h.alloc (.cells #[.bool true, .int .i64 3, .int .i64 1, .int .i64 0] 43)) 3 1 hnow)
      have HE := Lib.hid e
      have H := Lib.hid h
      clear h e hx
      try clear hnow
      try clear hn2
      try clear hn3
      generalize (enc (q.th 0)).on = u0 at t0
      generalize ((enc (q.th 0)).op : Int) = u1 at t1
      generalize ((enc (q.th 0)).made : Int) = u2 at t2
      generalize ((enc (q.th 0)).read : Int) = u3 at t3
      go_enter Try.func23, Try.ntmps23
      go_wp2_with fail
      refine hc0.out.mono ?_
      rintro e w' ⟨rfl, rfl⟩
      go_wp2_with fail
      refine hc1.out.mono ?_
      rintro e w' ⟨rfl, rfl⟩
      go_wp2
      go_ret
      exact hp_mk _ HE.out ((Rf.set4 (Rf.setHeld (Rf.setNow H.out 1) false) 0 (by omega) .no).alloc _) ((((fr_set _ _ c 0 _ (.inl rfl)).trans' (fr_set _ _ c 2 _ (.inl rfl))).trans' (fr_set4 _ g 0 (enc .no) _ (.inr rfl))).trans' (fr_alloc _ _ _)) _ rfl
    · have e : stepA q 0 = ⟨q.now, false, .no, 3⟩ := by
        unfold stepA; rw [hx]
        show (if q.now = 2 then _ else _) = _; rw [if_neg hn2, if_neg hn3]
      have hc0 := Lib.hid (change_no (h.alloc (.cells #[.bool true, .int .i64 3, .int .i64 1, .int .i64 0] 43)) 2 1 hn2)
      have hc1 := Lib.hid (change_no (h.alloc (.cells #[.bool true, .int .i64 3, .int .i64 1, .int .i64 0] 43)) 3 1 hn3)
      have HE := Lib.hid e
      have H := Lib.hid h
      clear h e hx
      try clear hnow
      try clear hn2
      try clear hn3
      generalize (enc (q.th 0)).on = u0 at t0
      generalize ((enc (q.th 0)).op : Int) = u1 at t1
      generalize ((enc (q.th 0)).made : Int) = u2 at t2
      generalize ((enc (q.th 0)).read : Int) = u3 at t3
      go_enter Try.func23, Try.ntmps23
      go_wp2_with fail
      refine hc0.out.mono ?_
      rintro e w' ⟨rfl, rfl⟩
      go_wp2_with fail
      refine hc1.out.mono ?_
      rintro e w' ⟨rfl, rfl⟩
      go_wp2
      go_ret
      exact hp_mk _ HE.out ((Rf.set4 (Rf.setHeld H.out false) 0 (by omega) .no).alloc _) (((fr_set _ _ c 2 _ (.inl rfl)).trans' (fr_set4 _ g 0 (enc .no) _ (.inr rfl))).trans' (fr_alloc _ _ _)) _ rfl
set_option maxHeartbeats 1000000 in
theorem mwake_look (h : Rf w c g q) (n : Nat) (hn : n < 8) (hx : q.th n = .look) : Calls Try.prog 24 #[.pointer (some ⟨c, 0, none⟩), .int .i64 n, .agg #[.bool true, .int .i64 0, .int .i64 1, .int .i64 0]] w (Hp w c g q n) := by
  have c0 := h.c0
  have c1 := h.c1
  have c2 := h.c2
  have z0 := h.fc 0
  have z2 := h.fc 2
  have hlc := h.s.lt
  have hlg := h.t.lt
  have hcg := h.cg
  have hz := zero43
  have t0 := h.t0 n hn
  have t1 := h.t1 n hn
  have t2 := h.t2 n hn
  have t3 := h.t3 n hn
  have f0 := h.fg (n * 4)
  have f1 := h.fg (n * 4 + 1)
  have f2 := h.fg (n * 4 + 2)
  have f3 := h.fg (n * 4 + 3)
  have hk9 : (n : Int) < 8 := by omega
  have hk0 : (0 : Int) ≤ n := by omega
  by_cases hn3 : q.now = 0
  · have hnow := hn3
    rw [hn3] at c0
    have e : stepA q n = ⟨q.now, q.held, .wk false, -1⟩ := by
      unfold stepA; rw [hx]
      show (if q.now = 0 then _ else _) = _; rw [if_pos hnow]
    have HE := Lib.hid e
    have H := Lib.hid h
    clear h e hx
    try clear hnow
    try clear hn2
    try clear hn3
    generalize (enc (q.th n)).on = u0 at t0
    generalize ((enc (q.th n)).op : Int) = u1 at t1
    generalize ((enc (q.th n)).made : Int) = u2 at t2
    generalize ((enc (q.th n)).read : Int) = u3 at t3
    go_enter Try.func24, Try.ntmps24
    go_wp2
    go_region
    go_wp2
    go_ret
    exact hp_mk _ HE.out (((Rf.set4 H.out n hn (.wk false)).alloc _).drew) (((fr_set4 _ g n (enc (.wk false)) _ (.inr rfl)).trans' (fr_alloc _ _ _)).trans' (fr_drew _ _)) _ rfl
  · by_cases hn2 : q.now = 2
    · have hnow := hn2
      rw [hn2] at c0
      have e : stepA q n = ⟨q.now, q.held, .wk true, -1⟩ := by
        unfold stepA; rw [hx]
        show (if q.now = 0 then _ else _) = _; rw [if_neg hn3, if_pos hnow]
      have HE := Lib.hid e
      have H := Lib.hid h
      clear h e hx
      try clear hnow
      try clear hn2
      try clear hn3
      generalize (enc (q.th n)).on = u0 at t0
      generalize ((enc (q.th n)).op : Int) = u1 at t1
      generalize ((enc (q.th n)).made : Int) = u2 at t2
      generalize ((enc (q.th n)).read : Int) = u3 at t3
      go_enter Try.func24, Try.ntmps24
      go_wp2
      go_region
      go_wp2
      go_ret
      exact hp_mk _ HE.out (((Rf.set4 H.out n hn (.wk true)).alloc _).drew) (((fr_set4 _ g n (enc (.wk true)) _ (.inr rfl)).trans' (fr_alloc _ _ _)).trans' (fr_drew _ _)) _ rfl
    · have hb0 : ((q.now : Int) != 0) = true := by simp; omega
      have hb2 : ((q.now : Int) != 2) = true := by simp; omega
      have e : stepA q n = ⟨q.now, q.held, .no, 0⟩ := by
        unfold stepA; rw [hx]
        show (if q.now = 0 then _ else _) = _; rw [if_neg hn3, if_neg hn2]
      have HE := Lib.hid e
      have H := Lib.hid h
      generalize hNN : (q.now : Int) = NN at c0 hb0 hb2
      clear hNN
      clear h e hx
      try clear hnow
      try clear hn2
      try clear hn3
      generalize (enc (q.th n)).on = u0 at t0
      generalize ((enc (q.th n)).op : Int) = u1 at t1
      generalize ((enc (q.th n)).made : Int) = u2 at t2
      generalize ((enc (q.th n)).read : Int) = u3 at t3
      go_enter Try.func24, Try.ntmps24
      go_wp2
      go_ret
      exact hp_mk _ HE.out ((Rf.set4 H.out n hn .no).alloc _) ((fr_set4 _ g n (enc .no) _ (.inr rfl)).trans' (fr_alloc _ _ _)) _ rfl
set_option maxHeartbeats 1000000 in
theorem mwake_wkf (h : Rf w c g q) (n : Nat) (hn : n < 8) (hx : q.th n = .wk false) : Calls Try.prog 24 #[.pointer (some ⟨c, 0, none⟩), .int .i64 n, .agg #[.bool true, .int .i64 0, .int .i64 2, .int .i64 0]] w (Hp w c g q n) := by
  have c0 := h.c0
  have c1 := h.c1
  have c2 := h.c2
  have z0 := h.fc 0
  have z2 := h.fc 2
  have hlc := h.s.lt
  have hlg := h.t.lt
  have hcg := h.cg
  have hz := zero43
  have t0 := h.t0 n hn
  have t1 := h.t1 n hn
  have t2 := h.t2 n hn
  have t3 := h.t3 n hn
  have f0 := h.fg (n * 4)
  have f1 := h.fg (n * 4 + 1)
  have f2 := h.fg (n * 4 + 2)
  have f3 := h.fg (n * 4 + 3)
  have hk9 : (n : Int) < 8 := by omega
  have hk0 : (0 : Int) ≤ n := by omega
  by_cases hnow : q.now = 0
  · have e : stepA q n = ⟨1, q.held, .no, 1⟩ := by
      unfold stepA; rw [hx]
      show (if q.now = 0 then _ else _) = _; rw [if_pos hnow]
    have hc0 := Lib.hid (change_yes (h.alloc (.cells #[.bool true, .int .i64 0, .int .i64 2, .int .i64 0] 43)) 0 1 hnow)
    have HE := Lib.hid e
    have H := Lib.hid h
    clear h e hx
    try clear hnow
    try clear hn2
    try clear hn3
    generalize (enc (q.th n)).on = u0 at t0
    generalize ((enc (q.th n)).op : Int) = u1 at t1
    generalize ((enc (q.th n)).made : Int) = u2 at t2
    generalize ((enc (q.th n)).read : Int) = u3 at t3
    go_enter Try.func24, Try.ntmps24
    go_wp2_with fail
    refine hc0.out.mono ?_
    rintro e w' ⟨rfl, rfl⟩
    go_wp2
    go_ret
    exact hp_mk _ HE.out ((Rf.set4 (Rf.setNow H.out 1) n hn .no).alloc _) (((fr_set _ _ c 0 _ (.inl rfl)).trans' (fr_set4 _ g n (enc .no) _ (.inr rfl))).trans' (fr_alloc _ _ _)) _ rfl
  · have e : stepA q n = ⟨q.now, q.held, .look, -1⟩ := by
      unfold stepA; rw [hx]
      show (if q.now = 0 then _ else _) = _; rw [if_neg hnow]
    have hc0 := Lib.hid (change_no (h.alloc (.cells #[.bool true, .int .i64 0, .int .i64 2, .int .i64 0] 43)) 0 1 hnow)
    have HE := Lib.hid e
    have H := Lib.hid h
    clear h e hx
    try clear hnow
    try clear hn2
    try clear hn3
    generalize (enc (q.th n)).on = u0 at t0
    generalize ((enc (q.th n)).op : Int) = u1 at t1
    generalize ((enc (q.th n)).made : Int) = u2 at t2
    generalize ((enc (q.th n)).read : Int) = u3 at t3
    go_enter Try.func24, Try.ntmps24
    go_wp2_with fail
    refine hc0.out.mono ?_
    rintro e w' ⟨rfl, rfl⟩
    go_wp2
    go_ret
    exact hp_mk _ HE.out ((Rf.set4 H.out n hn .look).alloc _) ((fr_set4 _ g n (enc .look) _ (.inr rfl)).trans' (fr_alloc _ _ _)) _ rfl
set_option maxHeartbeats 1000000 in
theorem mwake_wkt (h : Rf w c g q) (n : Nat) (hn : n < 8) (hx : q.th n = .wk true) : Calls Try.prog 24 #[.pointer (some ⟨c, 0, none⟩), .int .i64 n, .agg #[.bool true, .int .i64 0, .int .i64 2, .int .i64 2]] w (Hp w c g q n) := by
  have c0 := h.c0
  have c1 := h.c1
  have c2 := h.c2
  have z0 := h.fc 0
  have z2 := h.fc 2
  have hlc := h.s.lt
  have hlg := h.t.lt
  have hcg := h.cg
  have hz := zero43
  have t0 := h.t0 n hn
  have t1 := h.t1 n hn
  have t2 := h.t2 n hn
  have t3 := h.t3 n hn
  have f0 := h.fg (n * 4)
  have f1 := h.fg (n * 4 + 1)
  have f2 := h.fg (n * 4 + 2)
  have f3 := h.fg (n * 4 + 3)
  have hk9 : (n : Int) < 8 := by omega
  have hk0 : (0 : Int) ≤ n := by omega
  by_cases hnow : q.now = 2
  · have e : stepA q n = ⟨3, q.held, .no, 0⟩ := by
      unfold stepA; rw [hx]
      show (if q.now = 2 then _ else _) = _; rw [if_pos hnow]
    have hc0 := Lib.hid (change_yes (h.alloc (.cells #[.bool true, .int .i64 0, .int .i64 2, .int .i64 2] 43)) 2 3 hnow)
    have HE := Lib.hid e
    have H := Lib.hid h
    clear h e hx
    try clear hnow
    try clear hn2
    try clear hn3
    generalize (enc (q.th n)).on = u0 at t0
    generalize ((enc (q.th n)).op : Int) = u1 at t1
    generalize ((enc (q.th n)).made : Int) = u2 at t2
    generalize ((enc (q.th n)).read : Int) = u3 at t3
    go_enter Try.func24, Try.ntmps24
    go_wp2_with fail
    refine hc0.out.mono ?_
    rintro e w' ⟨rfl, rfl⟩
    go_wp2
    go_ret
    exact hp_mk _ HE.out ((Rf.set4 (Rf.setNow H.out 3) n hn .no).alloc _) (((fr_set _ _ c 0 _ (.inl rfl)).trans' (fr_set4 _ g n (enc .no) _ (.inr rfl))).trans' (fr_alloc _ _ _)) _ rfl
  · have e : stepA q n = ⟨q.now, q.held, .look, -1⟩ := by
      unfold stepA; rw [hx]
      show (if q.now = 2 then _ else _) = _; rw [if_neg hnow]
    have hc0 := Lib.hid (change_no (h.alloc (.cells #[.bool true, .int .i64 0, .int .i64 2, .int .i64 2] 43)) 2 3 hnow)
    have HE := Lib.hid e
    have H := Lib.hid h
    clear h e hx
    try clear hnow
    try clear hn2
    try clear hn3
    generalize (enc (q.th n)).on = u0 at t0
    generalize ((enc (q.th n)).op : Int) = u1 at t1
    generalize ((enc (q.th n)).made : Int) = u2 at t2
    generalize ((enc (q.th n)).read : Int) = u3 at t3
    go_enter Try.func24, Try.ntmps24
    go_wp2_with fail
    refine hc0.out.mono ?_
    rintro e w' ⟨rfl, rfl⟩
    go_wp2
    go_ret
    exact hp_mk _ HE.out ((Rf.set4 H.out n hn .look).alloc _) ((fr_set4 _ g n (enc .look) _ (.inr rfl)).trans' (fr_alloc _ _ _)) _ rfl
end
end Go.Proofs.Ytildpjgjnfiihaa
