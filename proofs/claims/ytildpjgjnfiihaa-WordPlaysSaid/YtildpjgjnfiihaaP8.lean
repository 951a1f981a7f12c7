/- The laws' rows, thread and begin. -/
import Derived.Test.YtildpjgjnfiihaaP7
import Derived.Deep.DeepCutAuto
namespace Go.Proofs.Ytildpjgjnfiihaa
open Go.RowKit Go.ChangeShapes Go.WideShapes Go.Deep
set_option linter.unusedVariables false
set_option linter.unusedSimpArgs false
theorem cells4 : Try.prog.cellsOf 4 = 1 := by kernel_rfl
theorem cells3 : Try.prog.cellsOf 3 = 1 := by kernel_rfl
theorem move_read {H : Type} {enc : TypeId × Value → H} {w : World} {v : Value} {d : DataW H} {p : List MemPlace} (h : DataW.Trod enc Try.prog w 0 (fun _ => true) true 37 v d p) (hv : ∃ cs, v = .agg cs ∧ cs.size = Try.prog.cellsOf 37) :
    ∃ (bg : Bool) (t x : Int), v = .agg #[.bool bg, .int .i64 t, .int .i64 x] := by
  obtain ⟨cs, rfl, hc⟩ := hv
  have h24 : Try.prog.cellsOf 37 = 3 := by kernel_rfl
  rw [h24] at hc
  obtain ⟨n, hn⟩ := h
  obtain ⟨xs, n', _, _, _, hxs, hf⟩ := DataW.trod_struct Try.underlying37 hn
  have hxl : xs.length = 3 := hxs
  have h4 := cells4
  have h3 := cells3
  obtain ⟨l⟩ := cs
  match l, hc with
  | [c0, c1, c2], _ =>
    have f0 := hf 0 _ rfl
    have f1 := hf 1 _ rfl
    have f2 := hf 2 _ rfl
    rw [List.getElem?_eq_getElem (by omega)] at f0 f1 f2
    simp [Value.cells, h4, h3] at f0 f1 f2
    obtain ⟨b, hb, _⟩ := DataW.trod_bool Try.underlying4 f0
    obtain ⟨m, hm, _, _⟩ := DataW.trod_int Try.underlying3 f1
    obtain ⟨x, hx, _, _⟩ := DataW.trod_int Try.underlying3 f2
    have hb : c0 = .bool b := by simpa using hb
    have hm : c1 = .int .i64 m := by simpa using hm
    have hx : c2 = .int .i64 x := by simpa using hx
    subst hb hm hx
    exact ⟨b, m, x, rfl⟩
/-- the rows, as they lie -/
def Rws (w : World) (a : Option Addr) (len : Nat) (t o : Nat → Int) : Prop :=
  ∀ i, i < len → ∃ b off, a = some ⟨b, off, none⟩ ∧ b < w.heap.size ∧ w.cell? ⟨b, off + i * 2, none⟩ = some (.int .i64 (t i)) ∧ w.cell? ⟨b, off + i * 2 + 1, none⟩ = some (.int .i64 (o i))
theorem rows_read {H : Type} {enc : TypeId × Value → H} {w : World} {v : Value} {d : DataW H} {p : List MemPlace} (h : DataW.Trod enc Try.prog w 0 (fun _ => true) true 45 v d p) (hv : ∃ a len cap, v = .slice a len cap) :
    ∃ (a : Option Addr) (len cap : Nat) (t o : Nat → Int), v = .slice a len cap ∧ Rws w a len t o ∧ (len = 0 ∨ ∃ el sp, d = .slice el sp ∧ el.length = len) := by
  obtain ⟨a, len, cap, rfl, _, hr, hd0⟩ := slice_reads Try.underlying45 2 (by kernel_rfl) (by omega) h hv
  have key : ∀ i, i < len → ∃ x : Int × Int, ∃ b off, a = some ⟨b, off, none⟩ ∧ b < w.heap.size ∧ w.cell? ⟨b, off + i * 2, none⟩ = some (.int .i64 x.1) ∧ w.cell? ⟨b, off + i * 2 + 1, none⟩ = some (.int .i64 x.2) := fun i hi => by
    obtain ⟨b, off, cs, n, x, rfl, hb, hlen, hc, hd⟩ := hr i hi
    obtain ⟨xs, n', rfl, _, _, hxs, hf⟩ := DataW.trod_struct Try.underlying47 hd
    have hxl : xs.length = 2 := hxs
    match cs, hlen with
    | [c0, c1], _ =>
      have f0 := hf 0 _ rfl
      have f1 := hf 1 _ rfl
      rw [List.getElem?_eq_getElem (by omega)] at f0 f1
      have h3 := cells3
      obtain ⟨b0, e0, _, _⟩ := DataW.trod_int Try.underlying3 f0
      obtain ⟨b1, e1, _, _⟩ := DataW.trod_int Try.underlying3 f1
      have e0' : c0 = .int .i64 b0 := by simpa [h3] using e0
      have e1' : c1 = .int .i64 b1 := by simpa [h3] using e1
      have k0 := hc 0 (by omega)
      have k1 := hc 1 (by omega)
      refine ⟨(b0, b1), b, off, rfl, hb, ?_, ?_⟩
      · rw [← e0']; simpa using k0
      · rw [← e1', show off + i * 2 + 1 = off + (i * 2 + 1) by omega]; simpa using k1
  obtain ⟨z, hz⟩ := Go.Deep.choose_lt key
  exact ⟨a, len, cap, fun i => (z i).1, fun i => (z i).2, rfl, hz, hd0⟩
theorem modN (x : Int) (n : Nat) (h1 : 1 ≤ n) (h2 : n ≤ 64) : ∃ k : Nat, k < n ∧ wrap64 ((IntKind.u64.wrap x).tmod n) = (k : Int) := by
  have h0 : 0 ≤ IntKind.u64.wrap x := by rw [IntKind.wrap_u64]; omega
  generalize IntKind.u64.wrap x = y at h0
  have h3 := Int.tmod_nonneg (n : Int) h0
  have h4 := Int.tmod_lt_of_pos y (show (0 : Int) < n by omega)
  refine ⟨(y.tmod n).toNat, by omega, ?_⟩
  unfold wrap64; omega
theorem mod8 (x : Int) : ∃ k : Nat, k < 8 ∧ wrap64 ((IntKind.u64.wrap x).tmod 8) = (k : Int) := modN x 8 (by omega) (by omega)
theorem mod7 (x : Int) : ∃ k : Nat, k < 7 ∧ wrap64 ((IntKind.u64.wrap x).tmod 7) = (k : Int) := modN x 7 (by omega) (by omega)
theorem mod3 (x : Int) : ∃ k : Nat, k < 3 ∧ wrap64 ((IntKind.u64.wrap x).tmod 3) = (k : Int) := modN x 3 (by omega) (by omega)
theorem meas (K i : Nat) (h : i < K) : K - (intOf (.int .i64 ((i : Int) + 1))).toNat < K - (intOf (.int .i64 (i : Int))).toNat := by
  simp [intOf]; omega
theorem zero47 (w : World) : (zeroValue 47).run Try.prog w = .ok (.agg #[.int .i64 0, .int .i64 0]) w := by kernel_rfl
theorem thread_any (t o : Int) (k : Nat) (ek : Hid (wrap64 ((IntKind.u64.wrap t).tmod 8) = (k : Int))) (w : World) : Calls Try.prog 19 #[.agg #[.int .i64 t, .int .i64 o]] w fun e w' => e = .returned (.int .i64 k) ∧ w' = w.alloc (.cells #[.int .i64 t, .int .i64 o] 47) := by
  go_enter Try.func19, Try.ntmps19
  go_wp2
  go_ret
  exact ⟨by first | rfl | (simp [ek.out]), rfl⟩
theorem beg_hold (q : Q) (m : Nat) (hm : m < 3) (h0 : q.th 0 = .no) (hh : q.held = true) : begin q 0 (2 + (m : Int)) = (0, q.set 0 (hop m)) := by
  have hf : first 0 (2 + (m : Int)) = hop m := by
    have : m = 0 ∨ m = 1 ∨ m = 2 := by omega
    rcases this with rfl | rfl | rfl <;> rfl
  have hc : ¬ ((0 : Int) < 0 ∨ (8 : Int) ≤ 0 ∨ first 0 (2 + (m : Int)) = .no) := by
    rintro (h | h | h)
    · omega
    · omega
    · rw [hf] at h; exact hop_no m h
  unfold begin
  rw [if_neg hc, if_neg (by simpa using h0), if_neg (by rw [hh, decide_eq_false (by omega)]; simp), hf]
  rfl
theorem beg_start (q : Q) (h0 : q.th 0 = .no) (hh : q.held = false) : begin q 0 1 = (0, q.set 0 .start) := by
  have hc : ¬ ((0 : Int) < 0 ∨ (8 : Int) ≤ 0 ∨ first 0 1 = .no) := by decide
  unfold begin
  rw [if_neg hc, if_neg (by simpa using h0), if_neg (by rw [hh]; simp)]
  rfl
theorem beg_wake (q : Q) (k : Nat) (hk : k < 8) (k0 : k ≠ 0) (h0 : q.th k = .no) : begin q k 0 = (0, q.set k .look) := by
  have hf : first k 0 = .look := by unfold first; rw [if_pos (by omega), if_pos rfl]
  have hc : ¬ ((k : Int) < 0 ∨ (8 : Int) ≤ k ∨ first k 0 = .no) := by
    rintro (h | h | h)
    · omega
    · omega
    · rw [hf] at h; cases h
  unfold begin
  rw [if_neg hc, if_neg (by rw [Int.toNat_natCast]; simpa using h0), if_neg (by omega), Int.toNat_natCast, hf]
set_option maxRecDepth 100000 in
set_option maxHeartbeats 4000000 in
theorem lbegin {w0 w : World} {b : Nat} {q : Q} (h : Ws w0 w b q) (t o : Int) (k : Nat) (hk : k < 8) (ek : Hid (wrap64 ((IntKind.u64.wrap t).tmod 8) = (k : Int))) (m : Nat) (hm : m < 3) (em : Hid (wrap64 ((IntKind.u64.wrap o).tmod 3) = (m : Int))) :
    Calls Try.prog 20 #[.pointer (some ⟨b, 0, none⟩), .agg #[.int .i64 t, .int .i64 o]] w fun e w' => (∃ v, e = .returned v) ∧ Ws w0 w' b (lb q k m) ∧ Fr w w' (fun j => j = b) := by
  have hz := zero47
  have f0 := fr_alloc w (fun j => j = b) (.cells #[.int .i64 t, .int .i64 o] 47)
  have hlt := h.lt
  have r2 := row_new w #[.int .i64 t, .int .i64 o] 47 2 (fun i => if i = 0 then .int .i64 t else .int .i64 o) rfl (fun i hi => by match i, hi with | 0, _ => rfl | 1, _ => rfl)
  have h1 := (h.alloc (.cells #[.int .i64 t, .int .i64 o] 47)).alloc (.cells #[.int .i64 t, .int .i64 o] 47)
  have r2' := r2.alloc (.cells #[.int .i64 t, .int .i64 o] 47)
  have c1 := row_val r2' (i := 1) (v := .int .i64 o) (by omega) rfl
  have fA := f0.trans' (fr_alloc _ _ (.cells #[.int .i64 t, .int .i64 o] 47))
  have HA := Lib.hid fA
  clear h r2 r2' f0 fA
  by_cases hx : q.th k = .no
  · have hbz := ws_busy h1 k hk false (by rw [decide_eq_false (by simpa using hx)])
    by_cases k0 : k = 0
    · subst k0
      cases hh : q.held
      · have e : lb q 0 m = q.set 0 .start := by unfold lb; rw [if_neg (by simpa using hx), if_pos rfl, if_neg (by rw [hh]; simp)]
        rw [e]
        have hbeg := beg_start q hx hh
        have HB := Lib.hid hbeg
        have HH := Lib.hid hh
        clear e hx hh hbeg
        go_enter Try.func20, Try.ntmps20
        go_wp2_with fail
        refine (thread_any t o 0 ek _).mono ?_
        rintro e w' ⟨rfl, rfl⟩
        go_wp2_with fail
        refine hbz.mono ?_
        rintro e w' ⟨rfl, rfl⟩
        go_wp2_with fail
        refine (ws_holds h1 false HH.out).mono ?_
        rintro e w' ⟨rfl, rfl⟩
        go_wp2_with fail
        refine (ws_holds h1 false HH.out).mono ?_
        rintro e w' ⟨rfl, rfl⟩
        go_wp2_with fail
        refine (ws_begin h1 0 1 0 HB.out).mono ?_
        rintro e w' ⟨rfl, h2, g2⟩
        go_wp2
        go_end0
        exact ⟨⟨_, rfl⟩, h2, HA.out.trans' g2⟩
      · have e : lb q 0 m = q.set 0 (hop m) := by unfold lb; rw [if_neg (by simpa using hx), if_pos rfl, if_pos hh]
        rw [e]
        have hbeg := beg_hold q m hm hx hh
        have HB := Lib.hid hbeg
        have HH := Lib.hid hh
        have em' := em.out
        have hwm : IntKind.i64.wrap (2 + (m : Int)) = 2 + (m : Int) := by clear em'; rw [IntKind.wrap_i64]; omega
        clear e hx hh hbeg
        go_enter Try.func20, Try.ntmps20
        go_wp2_with fail
        refine (thread_any t o 0 ek _).mono ?_
        rintro e w' ⟨rfl, rfl⟩
        go_wp2_with fail
        refine hbz.mono ?_
        rintro e w' ⟨rfl, rfl⟩
        go_wp2_with fail
        refine (ws_holds h1 true HH.out).mono ?_
        rintro e w' ⟨rfl, rfl⟩
        go_wp2_with fail
        refine (ws_holds h1 true HH.out).mono ?_
        rintro e w' ⟨rfl, rfl⟩
        clear em'
        go_wp2_with fail
        refine (ws_begin h1 0 (2 + (m : Int)) 0 HB.out).mono ?_
        rintro e w' ⟨rfl, h2, g2⟩
        go_wp2
        go_end0
        exact ⟨⟨_, rfl⟩, h2, HA.out.trans' g2⟩
    · have e : lb q k m = q.set k .look := by unfold lb; rw [if_neg (by simpa using hx), if_neg k0]
      rw [e]
      have hbeg := beg_wake q k hk k0 hx
      have HB := Lib.hid hbeg
      have hz0 : ((k : Int) == 0) = false := by simp; exact k0
      clear e hx hbeg k0
      go_enter Try.func20, Try.ntmps20
      go_wp2_with fail
      refine (thread_any t o k ek _).mono ?_
      rintro e w' ⟨rfl, rfl⟩
      go_wp2_with fail
      refine hbz.mono ?_
      rintro e w' ⟨rfl, rfl⟩
      go_wp2_with fail
      refine (ws_begin h1 k 0 0 HB.out).mono ?_
      rintro e w' ⟨rfl, h2, g2⟩
      go_wp2
      go_end0
      exact ⟨⟨_, rfl⟩, h2, HA.out.trans' g2⟩
  · have e : lb q k m = q := by unfold lb; rw [if_pos hx]
    rw [e]
    have hbz := ws_busy h1 k hk true (by rw [decide_eq_true hx])
    clear e hx
    go_enter Try.func20, Try.ntmps20
    go_wp2_with fail
    refine (thread_any t o k ek _).mono ?_
    rintro e w' ⟨rfl, rfl⟩
    go_wp2_with fail
    refine hbz.mono ?_
    rintro e w' ⟨rfl, rfl⟩
    go_wp2
    refine bodyPost_ret (results_none rfl _ _ _) rfl ?_
    exact ⟨⟨_, rfl⟩, h1, HA.out⟩
end Go.Proofs.Ytildpjgjnfiihaa
