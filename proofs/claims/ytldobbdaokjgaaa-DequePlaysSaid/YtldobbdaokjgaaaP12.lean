/- The laws' rows, thread and next. -/
import Derived.Test.YtldobbdaokjgaaaP11
import Derived.Deep.DeepCutAuto
namespace Go.Proofs.Ytldobbdaokjgaaa
open Go.RowKit Go.ChangeShapes Go.WideShapes Go.Deep
set_option linter.unusedVariables false
set_option linter.unusedSimpArgs false
theorem cells4 : Try.prog.cellsOf 4 = 1 := by kernel_rfl
theorem cells3 : Try.prog.cellsOf 3 = 1 := by kernel_rfl
theorem cells2 : Try.prog.cellsOf 2 = 1 := by kernel_rfl
theorem move_read {H : Type} {enc : TypeId × Value → H} {w : World} {v : Value} {d : DataW H} {p : List MemPlace} (h : DataW.Trod enc Try.prog w 0 (fun _ => true) true 50 v d p) (hv : ∃ cs, v = .agg cs ∧ cs.size = Try.prog.cellsOf 50) :
    ∃ (bg : Bool) (t x y : Int), v = .agg #[.bool bg, .int .i64 t, .int .i64 x, .int .i64 y] := by
  obtain ⟨cs, rfl, hc⟩ := hv
  have h24 : Try.prog.cellsOf 50 = 4 := by kernel_rfl
  rw [h24] at hc
  obtain ⟨n, hn⟩ := h
  obtain ⟨xs, n', _, _, _, hxs, hf⟩ := DataW.trod_struct Try.underlying50 hn
  have hxl : xs.length = 4 := hxs
  have h4 := cells4
  have h3 := cells3
  have h2 := cells2
  obtain ⟨l⟩ := cs
  match l, hc with
  | [c0, c1, c2, c3], _ =>
    have f0 := hf 0 _ rfl
    have f1 := hf 1 _ rfl
    have f2 := hf 2 _ rfl
    have f3 := hf 3 _ rfl
    rw [List.getElem?_eq_getElem (by omega)] at f0 f1 f2 f3
    simp [Value.cells, h4, h3, h2] at f0 f1 f2 f3
    obtain ⟨b, hb, _⟩ := DataW.trod_bool Try.underlying4 f0
    obtain ⟨m, hm, _, _⟩ := DataW.trod_int Try.underlying3 f1
    obtain ⟨x, hx, _, _⟩ := DataW.trod_int Try.underlying3 f2
    obtain ⟨y, hy, _, _⟩ := DataW.trod_int Try.underlying2 f3
    have hb : c0 = .bool b := by simpa using hb
    have hm : c1 = .int .i64 m := by simpa using hm
    have hx : c2 = .int .i64 x := by simpa using hx
    have hy : c3 = .int .i64 y := by simpa using hy
    subst hb hm hx hy
    exact ⟨b, m, x, y, rfl⟩
/-- the rows, as they lie -/
def Rws (w : World) (a : Option Addr) (len : Nat) (t : Nat → Int) (o : Nat → Bool) : Prop :=
  ∀ i, i < len → ∃ b off, a = some ⟨b, off, none⟩ ∧ b < w.heap.size ∧ w.cell? ⟨b, off + i * 2, none⟩ = some (.int .i64 (t i)) ∧ w.cell? ⟨b, off + i * 2 + 1, none⟩ = some (.bool (o i))
theorem rows_read {H : Type} {enc : TypeId × Value → H} {w : World} {v : Value} {d : DataW H} {p : List MemPlace} (h : DataW.Trod enc Try.prog w 0 (fun _ => true) true 22 v d p) (hv : ∃ a len cap, v = .slice a len cap) :
    ∃ (a : Option Addr) (len cap : Nat) (t : Nat → Int) (o : Nat → Bool), v = .slice a len cap ∧ Rws w a len t o ∧ (len = 0 ∨ ∃ el sp, d = .slice el sp ∧ el.length = len) := by
  obtain ⟨a, len, cap, rfl, _, hr, hd0⟩ := slice_reads Try.underlying22 2 (by kernel_rfl) (by omega) h hv
  have key : ∀ i, i < len → ∃ x : Int × Bool, ∃ b off, a = some ⟨b, off, none⟩ ∧ b < w.heap.size ∧ w.cell? ⟨b, off + i * 2, none⟩ = some (.int .i64 x.1) ∧ w.cell? ⟨b, off + i * 2 + 1, none⟩ = some (.bool x.2) := fun i hi => by
    obtain ⟨b, off, cs, n, x, rfl, hb, hlen, hc, hd⟩ := hr i hi
    obtain ⟨xs, n', rfl, _, _, hxs, hf⟩ := DataW.trod_struct Try.underlying29 hd
    have hxl : xs.length = 2 := hxs
    match cs, hlen with
    | [c0, c1], _ =>
      have f0 := hf 0 _ rfl
      have f1 := hf 1 _ rfl
      rw [List.getElem?_eq_getElem (by omega)] at f0 f1
      have h3 := cells3
      have h4 := cells4
      obtain ⟨b0, e0, _, _⟩ := DataW.trod_int Try.underlying3 f0
      obtain ⟨b1, e1, _⟩ := DataW.trod_bool Try.underlying4 f1
      have e0' : c0 = .int .i64 b0 := by simpa [h3] using e0
      have e1' : c1 = .bool b1 := by simpa [h3, h4] using e1
      have k0 := hc 0 (by omega)
      have k1 := hc 1 (by omega)
      refine ⟨(b0, b1), b, off, rfl, hb, ?_, ?_⟩
      · rw [← e0']; simpa using k0
      · rw [← e1', show off + i * 2 + 1 = off + (i * 2 + 1) by omega]; simpa using k1
  obtain ⟨z, hz⟩ := Go.Deep.choose_lt key
  exact ⟨a, len, cap, fun i => (z i).1, fun i => (z i).2, rfl, hz, hd0⟩
theorem mod8 (x : Int) : ∃ k : Nat, k < 8 ∧ wrap64 ((IntKind.u64.wrap x).tmod 8) = (k : Int) := by
  have h0 : 0 ≤ IntKind.u64.wrap x := by rw [IntKind.wrap_u64]; omega
  generalize IntKind.u64.wrap x = y at h0
  have h3 := Int.tmod_nonneg (8 : Int) h0
  have h4 := Int.tmod_lt_of_pos y (show (0 : Int) < 8 by omega)
  refine ⟨(y.tmod 8).toNat, by omega, ?_⟩
  unfold wrap64; omega
theorem meas1 (K i : Nat) (h : i < K) : K - (intOf (.int .i64 ((i : Int) + 1))).toNat < K - (intOf (.int .i64 (i : Int))).toNat := by
  simp [intOf]; omega
theorem zero29 (w : World) : (zeroValue 29).run Try.prog w = .ok (.agg #[.int .i64 0, .bool false]) w := by kernel_rfl
theorem thr_any (t : Int) (o : Bool) (k : Nat) (ek : Hid (wrap64 ((IntKind.u64.wrap t).tmod 8) = (k : Int))) (w : World) : Calls Try.prog 12 #[.agg #[.int .i64 t, .bool o]] w fun e w' => e = .returned (.int .i64 k) ∧ w' = w.alloc (.cells #[.int .i64 t, .bool o] 29) := by
  go_enter Try.func12, Try.ntmps12
  go_wp2
  go_ret
  exact ⟨by first | rfl | (simp [ek.out]), rfl⟩
theorem beg_push (q : Q) (v : Int) (h0 : (q.th 0).nx = .no) : begin q 0 0 v = (0, q.setT 0 { nx := .a33, v := v }) := by
  unfold begin
  rw [if_neg (by decide), if_neg (by simpa using h0)]; rfl
theorem beg_pop (q : Q) (v : Int) (h0 : (q.th 0).nx = .no) : begin q 0 1 v = (0, q.setT 0 { nx := .a34, v := v }) := by
  unfold begin
  rw [if_neg (by decide), if_neg (by simpa using h0)]; rfl
theorem beg_steal (q : Q) (k : Nat) (hk : k < 8) (k0 : k ≠ 0) (v : Int) (h0 : (q.th k).nx = .no) : begin q k 2 v = (0, q.setT k { nx := .a35, v := v }) := by
  have hf : first k 2 = .a35 := by unfold first; rw [if_neg (by omega), if_neg (by omega), if_pos ⟨by omega, rfl⟩]
  unfold begin
  rw [hf, if_neg (by rintro (h | h | h); omega; omega; cases h), if_neg (by rw [Int.toNat_natCast]; simpa using h0), Int.toNat_natCast]
set_option maxRecDepth 100000 in
set_option maxHeartbeats 4000000 in
theorem next_any {w0 w : World} {b p : Nat} {q : Q} (h : Ds w0 w b p q) (t : Int) (o : Bool) (m : Int) (hm0 : 0 ≤ m) (hm1 : m ≤ 1000000000000000) (k : Nat) (hk : k < 8) (ek : Hid (wrap64 ((IntKind.u64.wrap t).tmod 8) = (k : Int))) :
    Calls Try.prog 11 #[.pointer (some ⟨b, 0, none⟩), .agg #[.int .i64 t, .bool o], .int .i64 m] w fun e w' => e = .returned (.int .i64 (nxq q k o m).2) ∧ Ds w0 w' b p (nxq q k o m).1 ∧ Fr w w' (S2 b p) := by
  have hz := zero29
  have f0 := fr_alloc w (S2 b p) (.cells #[.int .i64 t, .bool o] 29)
  have r2 := row_new w #[.int .i64 t, .bool o] 29 2 (fun i => if i = 0 then .int .i64 t else .bool o) rfl (fun i hi => by match i, hi with | 0, _ => rfl | 1, _ => rfl)
  have h1 := (h.alloc (.cells #[.int .i64 t, .bool o] 29)).alloc (.cells #[.int .i64 t, .bool o] 29)
  have r2' := r2.alloc (.cells #[.int .i64 t, .bool o] 29)
  have c1 := row_val r2' (i := 1) (v := .bool o) (by omega) rfl
  have HA := Lib.hid (f0.trans' (fr_alloc _ _ (.cells #[.int .i64 t, .bool o] 29)))
  have hw : IntKind.i64.wrap (m + 1) = m + 1 := by rw [IntKind.wrap_i64]; omega
  have HW := Lib.hid (wrE (m + 1) (by omega) (by omega))
  clear h r2 r2' f0 hm0 hm1
  by_cases hx : (q.th k).nx = .no
  · have hbz := ds_busy h1 k hk false (by rw [decide_eq_false (by simpa using hx)])
    by_cases k0 : k = 0
    · subst k0
      cases o
      · have e : nxq q 0 false m = (q.setT 0 { nx := .a34, v := m + 1 }, m) := by unfold nxq; rw [if_neg (by simpa using hx), if_pos rfl, if_neg (by decide)]
        rw [e]
        have HB := Lib.hid (beg_pop q (m + 1) hx)
        clear e hx
        go_enter Try.func11, Try.ntmps11
        go_wp2_with fail
        refine (thr_any t false 0 ek _).mono ?_
        rintro e w' ⟨rfl, rfl⟩
        go_wp2_with fail
        refine hbz.mono ?_
        rintro e w' ⟨rfl, rfl⟩
        go_wp2_with fail
        refine (ds_begin h1 0 1 (m + 1) 0 HB.out).mono ?_
        rintro e w' ⟨rfl, h2, g2⟩
        go_wp2
        go_ret
        exact ⟨rfl, h2, HA.out.trans' g2⟩
      · have e : nxq q 0 true m = (q.setT 0 { nx := .a33, v := m + 1 }, m + 1) := by unfold nxq; rw [if_neg (by simpa using hx), if_pos rfl, if_pos rfl]
        rw [e]
        have HB := Lib.hid (beg_push q (m + 1) hx)
        clear e hx
        go_enter Try.func11, Try.ntmps11
        go_wp2_with fail
        refine (thr_any t true 0 ek _).mono ?_
        rintro e w' ⟨rfl, rfl⟩
        go_wp2_with fail
        refine hbz.mono ?_
        rintro e w' ⟨rfl, rfl⟩
        go_wp2_with fail
        refine (ds_begin h1 0 0 (m + 1) 0 HB.out).mono ?_
        rintro e w' ⟨rfl, h2, g2⟩
        go_wp2
        go_ret
        exact ⟨by first | rfl | (rw [HW.out]), h2, HA.out.trans' g2⟩
    · have e : nxq q k o m = (q.setT k { nx := .a35, v := m + 1 }, m) := by unfold nxq; rw [if_neg (by simpa using hx), if_neg k0]
      rw [e]
      have HB := Lib.hid (beg_steal q k hk k0 (m + 1) hx)
      have hz0 : ((k : Int) == 0) = false := by simp; exact k0
      clear e hx k0
      go_enter Try.func11, Try.ntmps11
      go_wp2_with fail
      refine (thr_any t o k ek _).mono ?_
      rintro e w' ⟨rfl, rfl⟩
      go_wp2_with fail
      refine hbz.mono ?_
      rintro e w' ⟨rfl, rfl⟩
      go_wp2_with fail
      refine (ds_begin h1 k 2 (m + 1) 0 HB.out).mono ?_
      rintro e w' ⟨rfl, h2, g2⟩
      go_wp2
      go_ret
      exact ⟨rfl, h2, HA.out.trans' g2⟩
  · have e : nxq q k o m = (q, m) := by unfold nxq; rw [if_pos hx]
    rw [e]
    have hbz := ds_busy h1 k hk true (by rw [decide_eq_true hx])
    clear e hx
    go_enter Try.func11, Try.ntmps11
    go_wp2_with fail
    refine (thr_any t o k ek _).mono ?_
    rintro e w' ⟨rfl, rfl⟩
    go_wp2_with fail
    refine hbz.mono ?_
    rintro e w' ⟨rfl, rfl⟩
    go_wp2
    go_ret
    exact ⟨rfl, h1, HA.out⟩
end Go.Proofs.Ytldobbdaokjgaaa
