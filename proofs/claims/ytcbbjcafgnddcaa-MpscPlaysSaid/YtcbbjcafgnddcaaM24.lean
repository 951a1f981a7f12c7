/- The reference's put and take. -/
import Derived.Test.YtcbbjcafgnddcaaM23
namespace Go.Proofs.Ytcbbjcafgnddcaa
open Go.RowKit Go.Shelf
set_option linter.unusedVariables false
set_option linter.unusedSimpArgs false
theorem ls_some {w : World} {v : Value} {l : List Int} (h : Ls w v l) (hl : 1 ≤ l.length) : ∃ g off cap, v = .slice (some ⟨g, off, none⟩) l.length cap := by
  rcases h with ⟨rfl, rfl⟩ | ⟨g, off, cap, cur, rfl, _⟩
  · simp at hl
  · exact ⟨_, _, _, rfl⟩
theorem Rf.ns {w : World} {c g : Nat} {vv vn : Value} {q : Q} (h : Rf w c g vv vn q) (V : Val q) : ∃ gn on cap, vn = .slice (some ⟨gn, on, none⟩) q.n cap := by
  have := ls_some h.ln (by rw [rl_len]; exact V.n1)
  rwa [rl_len] at this
theorem Rf.vs {w : World} {c g : Nat} {vv vn : Value} {q : Q} (h : Rf w c g vv vn q) (V : Val q) : ∃ gn on cap, vv = .slice (some ⟨gn, on, none⟩) q.n cap := by
  have := ls_some h.lv (by rw [rl_len]; exact V.n1)
  rwa [rl_len] at this
theorem ls_get {w : World} {b o n cap : Nat} {f : Nat → Int} {m : Nat} (h : Ls w (.slice (some ⟨b, o, none⟩) n cap) (rl m f)) (i : Nat) (hi : i < m) : w.cell? ⟨b, o + i, none⟩ = some (.int .i64 (f i)) := by
  obtain ⟨b', o', e, hc⟩ := ls_cell h i (by rw [rl_len]; exact hi)
  cases e
  rw [hc, rl_get _ _ _ hi]
set_option maxRecDepth 100000 in
set_option maxHeartbeats 2000000 in
theorem mput1 {w : World} {c g : Nat} {vv vn : Value} {q : Q} (h : Rf w c g vv vn q) (V : Val q) (n : Nat) (hn : n < 8) (i : Nat) (hi : i < q.n) :
    Calls Try.prog 25 #[.pointer (some ⟨c, 0, none⟩), .int .i64 n, .agg #[.bool true, .int .i64 1, .int .i64 i, .int .i64 0]] w fun e w' => e = .returned (.agg #[.bool false, .bool false, .int .i64 0, .int .i64 0]) ∧ Rf w' c g vv vn { n := q.n, v := q.v, nx := fun j => if j = i then 0 else q.nx j, head := q.head, tail := q.tail, th := (q.set n { on := true, made := 1, node := i }).th } ∧ Fr w w' (S0 c g vv vn) := by
  obtain ⟨gn, on, cap, rfl⟩ := h.ns V
  have c1 := h.c1
  have c4 := h.c4
  have x1 := ls_get h.ln i hi
  have z1 := ls_fz h.ln (on + i)
  have t0 := h.t0 n hn
  have t1 := h.t1 n hn
  have t2 := h.t2 n hn
  have t3 := h.t3 n hn
  have f0 := h.fg (n * 4)
  have f1 := h.fg (n * 4 + 1)
  have f2 := h.fg (n * 4 + 2)
  have f3 := h.fg (n * 4 + 3)
  have hlc := h.s.lt
  have hlg := h.t.lt
  have hln := ls_lt h.ln rfl
  have hcg := h.cg
  have hnc : gn ≠ c := (h.dn gn rfl).1
  have hng : gn ≠ g := (h.dn gn rfl).2.1
  have hz := zero48
  have hz43 := zero43
  have hi8 : (n : Int) < 8 := by omega
  have hi0 : (0 : Int) ≤ n := by omega
  have hii : (i : Int) < q.n := by omega
  have hii0 : (0 : Int) ≤ i := by omega
  have H := Lib.hid h
  have HI := Lib.hid hi
  clear h V hi
  generalize hN : q.n = N at c1 x1 hii
  go_enter Try.func25, Try.ntmps25
  go_wp2
  go_region
  go_wp2
  go_region
  go_wp2
  subst hN
  go_returns
  exact ⟨rfl, ((((H.out.setNx i HI.out 0).set4 n hn { on := true, made := 1, node := i }).alloc _).alloc _).same rfl, (((((fr_set w _ gn _ _ (.inr (.inr (.inr rfl)))).trans' (fr_set4 _ g n { on := true, made := 1, node := i } _ (.inr (.inl rfl)))).trans' (fr_alloc _ _ _)).trans' (fr_alloc _ _ _)).trans' (fr_drew _ _)).trans' (fr_drew _ _)⟩
set_option maxRecDepth 100000 in
set_option maxHeartbeats 2000000 in
theorem mput2 {w : World} {c g : Nat} {vv vn : Value} {q : Q} (h : Rf w c g vv vn q) (V : Val q) (n : Nat) (hn : n < 8) (i : Nat) :
    Calls Try.prog 25 #[.pointer (some ⟨c, 0, none⟩), .int .i64 n, .agg #[.bool true, .int .i64 2, .int .i64 i, .int .i64 0]] w fun e w' => e = .returned (.agg #[.bool false, .bool false, .int .i64 0, .int .i64 0]) ∧ Rf w' c g vv vn { n := q.n, v := q.v, nx := q.nx, head := i, tail := q.tail, th := (q.set n { on := true, made := 2, node := i, prev := q.head }).th } ∧ Fr w w' (S0 c g vv vn) := by
  have c2 := h.c2
  have c4 := h.c4
  have fc2 := h.fc 2
  have t0 := h.t0 n hn
  have t1 := h.t1 n hn
  have t2 := h.t2 n hn
  have t3 := h.t3 n hn
  have f0 := h.fg (n * 4)
  have f1 := h.fg (n * 4 + 1)
  have f2 := h.fg (n * 4 + 2)
  have f3 := h.fg (n * 4 + 3)
  have hlc := h.s.lt
  have hlg := h.t.lt
  have hcg := h.cg
  have hz := zero48
  have hz43 := zero43
  have hi8 : (n : Int) < 8 := by omega
  have hi0 : (0 : Int) ≤ n := by omega
  have H := Lib.hid h
  clear h V
  generalize hh : q.head = hd at c2
  go_enter Try.func25, Try.ntmps25
  go_wp2
  go_region
  go_wp2
  subst hh
  go_returns
  exact ⟨rfl, ((((H.out.setHead i).set4 n hn { on := true, made := 2, node := i, prev := q.head }).alloc _).alloc _).same rfl, ((((fr_set w _ c _ _ (.inl rfl)).trans' (fr_set4 _ g n { on := true, made := 2, node := i, prev := q.head } _ (.inr (.inl rfl)))).trans' (fr_alloc _ _ _)).trans' (fr_alloc _ _ _)).trans' (fr_drew _ _)⟩
set_option maxRecDepth 100000 in
set_option maxHeartbeats 2000000 in
theorem mput3 {w : World} {c g : Nat} {vv vn : Value} {q : Q} (h : Rf w c g vv vn q) (V : Val q) (n : Nat) (hn : n < 8) (i p : Nat) (hi : i < q.n) (hp : p < q.n) :
    Calls Try.prog 25 #[.pointer (some ⟨c, 0, none⟩), .int .i64 n, .agg #[.bool true, .int .i64 3, .int .i64 i, .int .i64 p]] w fun e w' => e = .returned (.agg #[.bool true, .bool false, .int .i64 (q.v i), .int .i64 0]) ∧ Rf w' c g vv vn { n := q.n, v := q.v, nx := fun j => if j = p then i else q.nx j, head := q.head, tail := q.tail, th := (q.set n {}).th } ∧ Fr w w' (S0 c g vv vn) := by
  obtain ⟨gn, on, cap, rfl⟩ := h.ns V
  obtain ⟨gv, ov, cav, rfl⟩ := h.vs V
  have c0 := h.c0
  have c1 := h.c1
  have c4 := h.c4
  have x1 := ls_get h.ln p hp
  have x2 := ls_get h.lv i hi
  have z1 := ls_fz h.ln (on + p)
  have t0 := h.t0 n hn
  have t1 := h.t1 n hn
  have t2 := h.t2 n hn
  have t3 := h.t3 n hn
  have f0 := h.fg (n * 4)
  have f1 := h.fg (n * 4 + 1)
  have f2 := h.fg (n * 4 + 2)
  have f3 := h.fg (n * 4 + 3)
  have hlc := h.s.lt
  have hlg := h.t.lt
  have hln := ls_lt h.ln rfl
  have hlv := ls_lt h.lv rfl
  have hcg := h.cg
  have hnc : gn ≠ c := (h.dn gn rfl).1
  have hng : gn ≠ g := (h.dn gn rfl).2.1
  have hvc : gv ≠ c := (h.dv gv rfl).1
  have hvg : gv ≠ g := (h.dv gv rfl).2.1
  have hvn : gn ≠ gv := fun e => (h.dv gv rfl).2.2 (by rw [e]; rfl)
  have hz := zero48
  have hz43 := zero43
  have hi8 : (n : Int) < 8 := by omega
  have hi0 : (0 : Int) ≤ n := by omega
  have hii : (i : Int) < q.n := by omega
  have hii0 : (0 : Int) ≤ i := by omega
  have hpp : (p : Int) < q.n := by omega
  have hpp0 : (0 : Int) ≤ p := by omega
  have H := Lib.hid h
  have HP := Lib.hid hp
  clear h V hi hp
  generalize hN : q.n = N at c0 c1 hii hpp
  generalize hX : q.v i = X at x2
  go_enter Try.func25, Try.ntmps25
  go_wp2
  go_region
  go_wp2
  go_region
  go_wp2
  subst hN hX
  go_returns
  exact ⟨rfl, ((((H.out.setNx p HP.out i).set4 n hn {}).alloc _).alloc _).same rfl, (((((fr_set w _ gn _ _ (.inr (.inr (.inr rfl)))).trans' (fr_set4 _ g n {} _ (.inr (.inl rfl)))).trans' (fr_alloc _ _ _)).trans' (fr_alloc _ _ _)).trans' (fr_drew _ _)).trans' (fr_drew _ _)⟩
set_option maxRecDepth 100000 in
set_option maxHeartbeats 2000000 in
theorem mtake1 {w : World} {c g : Nat} {vv vn : Value} {q : Q} (h : Rf w c g vv vn q) (V : Val q) (m : Nat) :
    Calls Try.prog 26 #[.pointer (some ⟨c, 0, none⟩), .agg #[.bool true, .int .i64 1, .int .i64 m, .int .i64 0]] w fun e w' => e = .returned (.agg #[.bool false, .bool false, .int .i64 0, .int .i64 0]) ∧ Rf w' c g vv vn (q.set 0 { on := true, made := 1, node := q.nx q.tail }) ∧ Fr w w' (S0 c g vv vn) := by
  obtain ⟨gn, on, cap, rfl⟩ := h.ns V
  have c1 := h.c1
  have c3 := h.c3
  have c4 := h.c4
  have x1 := ls_get h.ln q.tail V.tail
  have t0 := h.t0 0 (by omega)
  have t1 := h.t1 0 (by omega)
  have t2 := h.t2 0 (by omega)
  have t3 := h.t3 0 (by omega)
  have f0 := h.fg 0
  have f1 := h.fg 1
  have f2 := h.fg 2
  have f3 := h.fg 3
  rw [Nat.zero_mul] at t0
  rw [Nat.zero_mul, Nat.zero_add] at t1 t2 t3
  have hlc := h.s.lt
  have hlg := h.t.lt
  have hln := ls_lt h.ln rfl
  have hcg := h.cg
  have hnc : gn ≠ c := (h.dn gn rfl).1
  have hng : gn ≠ g := (h.dn gn rfl).2.1
  have hz := zero48
  have hz43 := zero43
  have hii : (q.tail : Int) < q.n := by have := V.tail; omega
  have hii0 : (0 : Int) ≤ q.tail := by omega
  have H := Lib.hid h
  clear h V
  generalize hN : q.n = N at c1 hii
  generalize hX : q.nx q.tail = X at x1 ⊢
  generalize hT : q.tail = tl at c3 x1 hii hii0
  go_enter Try.func26, Try.ntmps26
  go_wp2
  go_region
  go_wp2
  go_region
  go_wp2
  subst hN
  go_returns
  exact ⟨rfl, (((H.out.set4 0 (by omega) { on := true, made := 1, node := X }).alloc _).alloc _).same rfl, ((((fr_set4 w g 0 { on := true, made := 1, node := X } _ (.inr (.inl rfl))).trans' (fr_alloc _ _ _)).trans' (fr_alloc _ _ _)).trans' (fr_drew _ _)).trans' (fr_drew _ _)⟩
set_option maxRecDepth 100000 in
set_option maxHeartbeats 2000000 in
theorem mtake2 {w : World} {c g : Nat} {vv vn : Value} {q : Q} (h : Rf w c g vv vn q) (V : Val q) (i : Nat) (hi : i < q.n) (h0 : i ≠ 0) :
    Calls Try.prog 26 #[.pointer (some ⟨c, 0, none⟩), .agg #[.bool true, .int .i64 2, .int .i64 i, .int .i64 0]] w fun e w' => e = .returned (.agg #[.bool true, .bool true, .int .i64 (q.v i), .int .i64 0]) ∧ Rf w' c g vv vn { n := q.n, v := q.v, nx := q.nx, head := q.head, tail := i, th := (q.set 0 {}).th } ∧ Fr w w' (S0 c g vv vn) := by
  obtain ⟨gv, ov, cav, rfl⟩ := h.vs V
  have c0 := h.c0
  have c3 := h.c3
  have c4 := h.c4
  have fc3 := h.fc 3
  have x2 := ls_get h.lv i hi
  have t0 := h.t0 0 (by omega)
  have t1 := h.t1 0 (by omega)
  have t2 := h.t2 0 (by omega)
  have t3 := h.t3 0 (by omega)
  have f0 := h.fg 0
  have f1 := h.fg 1
  have f2 := h.fg 2
  have f3 := h.fg 3
  rw [Nat.zero_mul] at t0
  rw [Nat.zero_mul, Nat.zero_add] at t1 t2 t3
  have hlc := h.s.lt
  have hlg := h.t.lt
  have hlv := ls_lt h.lv rfl
  have hcg := h.cg
  have hvc : gv ≠ c := (h.dv gv rfl).1
  have hvg : gv ≠ g := (h.dv gv rfl).2.1
  have hz := zero48
  have hz43 := zero43
  have hii : (i : Int) < q.n := by omega
  have hii0 : (0 : Int) < i := by omega
  have H := Lib.hid h
  clear h V hi
  generalize hN : q.n = N at c0 hii
  generalize hX : q.v i = X at x2
  go_enter Try.func26, Try.ntmps26
  go_wp2
  go_region
  go_wp2
  subst hN hX
  go_returns
  exact ⟨rfl, ((((H.out.set4 0 (by omega) {}).setTail i).alloc _).alloc _).same rfl, ((((fr_set4 w g 0 {} _ (.inr (.inl rfl))).trans' (fr_set _ _ c _ _ (.inl rfl))).trans' (fr_alloc _ _ _)).trans' (fr_alloc _ _ _)).trans' (fr_drew _ _)⟩
set_option maxRecDepth 100000 in
set_option maxHeartbeats 2000000 in
theorem mtake3 {w : World} {c g : Nat} {vv vn : Value} {q : Q} (h : Rf w c g vv vn q) (V : Val q) (E : Int) (hE : E = if q.head = q.tail then 8 else 14) :
    Calls Try.prog 26 #[.pointer (some ⟨c, 0, none⟩), .agg #[.bool true, .int .i64 2, .int .i64 0, .int .i64 0]] w fun e w' => e = .returned (.agg #[.bool true, .bool true, .int .i64 0, .int .i64 E]) ∧ Rf w' c g vv vn (q.set 0 {}) ∧ Fr w w' (S0 c g vv vn) := by
  have c2 := h.c2
  have c3 := h.c3
  have c4 := h.c4
  have t0 := h.t0 0 (by omega)
  have t1 := h.t1 0 (by omega)
  have t2 := h.t2 0 (by omega)
  have t3 := h.t3 0 (by omega)
  have f0 := h.fg 0
  have f1 := h.fg 1
  have f2 := h.fg 2
  have f3 := h.fg 3
  rw [Nat.zero_mul] at t0
  rw [Nat.zero_mul, Nat.zero_add] at t1 t2 t3
  have hlc := h.s.lt
  have hlg := h.t.lt
  have hcg := h.cg
  have hz := zero48
  have hz43 := zero43
  have H := Lib.hid h
  clear h V
  by_cases he : q.head = q.tail
  · rw [if_pos he] at hE
    subst hE
    have hb : ((q.head : Int) == q.tail) = true := by rw [he]; simp
    clear he
    generalize (q.head : Int) = A at *
    generalize (q.tail : Int) = B at *
    go_enter Try.func26, Try.ntmps26
    go_wp2
    go_region
    go_wp2
    go_returns
    exact ⟨rfl, (((H.out.set4 0 (by omega) {}).alloc _).alloc _).same rfl, (((fr_set4 w g 0 {} _ (.inr (.inl rfl))).trans' (fr_alloc _ _ _)).trans' (fr_alloc _ _ _)).trans' (fr_drew _ _)⟩
  · rw [if_neg he] at hE
    subst hE
    have hb : ((q.head : Int) == q.tail) = false := by simp; omega
    clear he
    generalize (q.head : Int) = A at *
    generalize (q.tail : Int) = B at *
    go_enter Try.func26, Try.ntmps26
    go_wp2
    go_region
    go_wp2
    go_returns
    exact ⟨rfl, (((H.out.set4 0 (by omega) {}).alloc _).alloc _).same rfl, (((fr_set4 w g 0 {} _ (.inr (.inl rfl))).trans' (fr_alloc _ _ _)).trans' (fr_alloc _ _ _)).trans' (fr_drew _ _)⟩
end Go.Proofs.Ytcbbjcafgnddcaa
