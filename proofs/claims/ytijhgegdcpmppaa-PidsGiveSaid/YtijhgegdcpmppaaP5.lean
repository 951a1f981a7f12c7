/- All, the iterator, and what a range over it collects. -/
import Derived.Test.YtijhgegdcpmppaaP4
import Derived.RangeFuncNested
import Derived.RangeFuncBound
import Derived.RangeFuncCalls
import Derived.RangeFuncLeaves
import Derived.RangeFuncBox
import Derived.Shelf.Abstract
import Derived.Shelf.RegionOpen
import Derived.OwnWalkIn
import Derived.TacticsInMore
import Derived.LoopNIn
import Derived.LoopIn
namespace Go.Proofs.Ytijhgegdcpmppaa
open Go.RowKit Go.Shelf
set_option linter.unusedVariables false
set_option linter.unusedSimpArgs false
attribute [local go_sem] Oper.semAt_some

theorem run_loadVar_cells {P : Program} (w : World) (a : Addr) (ty : TypeId) (n : Nat) (f : Nat → Value) (d : TypeDesc) (hu : P.underlying ty = some d) (hd : (match d with | .struct _ | .array _ _ => true | _ => false) = true) (hi : (P.info? ty).map (·.size) = some n)
    (hc : ∀ j, j < n → w.cell? (a.add j) = some (f j)) : (loadVar ty a).run P w = .ok (.agg ((List.range n).map f).toArray) w := by
  have hl := run_loadCells (P := P) w a n f hc
  cases hq : P.info? ty with
  | none => simp [hq] at hi
  | some i =>
    have hs : i.size = n := by simpa [hq] using hi
    have hagg : (isAgg ty).run P w = .ok true w := by
      unfold isAgg
      rw [Sem.run_bind, run_underlying hu w]
      cases d <;> simp_all
    simp [loadVar, Sem.run_bind, hagg, sizeOf, typeInfo, hq, hs, hl]
theorem wpListIn_load_var {F : Fence} {n : Nat} {P : Program} {w : World} {ops : Array Oper} {rest : List Oper} {o : Oper} {a : Act} {Q : Exit → Act → World → Prop}
    (hg : o.guard = none) (ty : TypeId) (x : Operand) (ho : o.op = .load ty x) (ad : Addr) (hx : a.eval x = .pointer (some ad)) (v : Value) (hrun : (loadVar ty ad).run P w = .ok v w)
    (h : wpListIn F n P ops Q rest (a.put o.dst v) w) : wpListIn F n P ops Q (o :: rest) a w := by
  refine wpListIn_plain hg fun K hK => ?_
  unfold Oper.wpIn
  refine ⟨by simp [Oper.about, ho], ?_⟩
  rw [Oper.semAt_plain F _ _ (by rw [ho]; intro c hc; cases hc)]
  unfold execOp
  simp only [ho, hx, Instr.loadAt, Instr.sureAddr, Sem.run_bind, Sem.run_pure, Result.andThen_ok, hrun]
  exact hK _ _ h

theorem pids_prefix (t : Tb) (m n : Nat) (h : m ≤ n) : t.pids m <+: t.pids n := by
  induction n with
  | zero =>
    obtain rfl : m = 0 := by omega
    exact List.prefix_refl _
  | succ n ih =>
    by_cases e : m = n + 1
    · subst e; exact List.prefix_refl _
    · have := ih (by omega)
      rw [t.pids_succ]
      split
      · exact this.trans (List.prefix_append _ _)
      · exact this
theorem size54 : (Try.prog.info? 54).map (·.size) = some 2 := by kernel_rfl
theorem idx_row (t : Tb) (m : Nat) (hm : m < 32) (w : World) : (Instr.index 55 (.agg ((List.range 64).map t.cell).toArray) (.int .i64 (m : Int))).run Try.prog w = .ok (.agg #[.int .i64 (t.gen m), .bool (t.tk m)]) w := by
  have e : (((List.range 64).map t.cell).toArray).extract (m * 2) (m * 2 + 2) = #[.int .i64 (t.gen m), .bool (t.tk m)] := by
    apply Array.ext'
    simp only [Array.toList_extract, List.extract_eq_take_drop, show m * 2 + 2 - m * 2 = 2 by omega]
    apply List.ext_getElem?
    intro i
    rw [List.getElem?_take]
    by_cases h : i < 2
    · rw [if_pos h, List.getElem?_drop, List.getElem?_map, List.getElem?_range (by omega)]
      match i, h with
      | 0, _ => simp [t.cell_gen m hm]
      | 1, _ => simp [t.cell_tk m hm]
    · rw [if_neg h, List.getElem?_eq_none (by simpa using h)]
  have h2 : (isAgg 54).run Try.prog w = .ok true w := by kernel_rfl
  have h3 : (sizeOf 54).run Try.prog w = .ok 2 w := by kernel_rfl
  have h4 : (part 54 ((List.range 64).map t.cell).toArray (m * 2)).run Try.prog w = .ok (.agg #[.int .i64 (t.gen m), .bool (t.tk m)]) w := by
    unfold part
    rw [Sem.run_bind, h2]
    simp only [Result.andThen_ok, if_true]
    rw [Sem.run_bind, h3]
    simp only [Result.andThen_ok, Sem.run_pure, e]
  unfold Instr.index
  have h5 : (0 : Int) ≤ m ∧ (m : Int) < 32 := by omega
  have h6 : ¬ 32 ≤ m := by omega
  simp [asIntOf, Sem.run_bind, run_underlying Try.underlying55, h3, h4]
  intro h7; exact absurd h7 h6
set_option maxRecDepth 100000 in
set_option maxHeartbeats 2000000 in
theorem iter_in (F : Fence) (n : Nat) (h25 : F.fn 25) (hro : F.round = none) (hn : 1 ≤ n) (l Bx b n₀ : Nat) (t : Tb) (ok : t.Ok) (J Jx : List Int → World → Prop) (W : World)
    (hJ : AbidesFrom W.heap.size J)
    (hY : ∀ pre x W, J pre W → pre ++ [x] <+: t.pids 32 → YieldAt F (n - 1) Try.prog l #[.int .i64 x] W fun e W' =>
      (e = .returned (.bool true) ∧ J (pre ++ [x]) W' ∧ Below n₀ W W') ∨ (e = .returned (.bool false) ∧ Jx (pre ++ [x]) W'))
    (hB : W.cell? ⟨Bx, 0, none⟩ = some (.pointer (some ⟨b, 0, none⟩))) (ht : IsTb W b t) (h0 : J [] W) :
    CallsIn F n Try.prog 25 #[.func (.yield l) #[] #[], .pointer (some ⟨Bx, 0, none⟩)] W fun e W' => (∃ v, e = .returned v) ∧
      ((∃ ys, ys = t.pids 32 ∧ J ys W') ∨ (∃ pre, pre <+: t.pids 32 ∧ Jx pre W')) := by
  have hld : (loadVar 55 ⟨b, 0, none⟩).run Try.prog W = .ok (.agg ((List.range 64).map t.cell).toArray) W :=
    run_loadVar_cells (P := Try.prog) W ⟨b, 0, none⟩ 55 64 t.cell _ Try.underlying55 rfl (by kernel_rfl) (fun j hj => by rw [Go.WideShapes.add_plain]; simpa using (ht : W.rowIs b 57 65 t.cell).cell (i := j) (by omega))
  have hid := idx_row t
  generalize hC : ((List.range 64).map t.cell).toArray = C at hld hid
  have HC := Lib.hid hC
  have HL := Lib.hid hld
  have HI := Lib.hid hid
  clear hC hld hid
  refine callsIn_of_wp Try.func25 rfl h25 ?_ hro
  simp only [Try.ntmps25, List.size_toArray, List.length_cons, List.length_nil, Nat.reduceAdd, Nat.reduceSub, Array.replicate_succ, Array.replicate_zero, List.push_toArray, List.append_toArray, List.nil_append, List.cons_append]
  gi_wp2_with (refine wpListIn_load_var rfl 55 (.tmp 9) rfl ⟨b, 0, none⟩ rfl _ HL.out ?_)
  gi_loopw [3, 4, 11] (fun s x k wr => ∃ m : Nat, m ≤ 32 ∧ k = .int .i64 m ∧ J (t.pids m) wr ∧ W.heap.size ≤ wr.heap.size) (fun s x k wr => 32 - (intOf k).toNat)
  case atStart => exact ⟨0, by omega, rfl, h0, Nat.le_refl _⟩
  case round =>
    obtain ⟨m, hm, rfl, hj, hs⟩ := hrel
    by_cases hlt : m < 32
    · have hi := HI.out m hlt
      cases htk : t.tk m
      · rw [htk] at hi
        have HE : Hid (t.pids (m + 1) = t.pids m) := Lib.hid (by rw [t.pids_succ, htk]; rfl)
        gi_wp2
        refine ⟨fun _ h => (by cases h), ?_⟩
        gi_wp2
        go_roundw
        case rel => exact ⟨m + 1, by omega, by go_num, by rw [HE.out]; exact hJ _ _ _ none hj (gb_alloc _ _ _) (fun r e => by cases e), by simp; omega⟩
        case measure => simp [intOf]; omega
      · rw [htk] at hi
        have HE : Hid (t.pids (m + 1) = t.pids m ++ [t.gen m * 32 + m + 1]) := Lib.hid (by rw [t.pids_succ, htk]; rfl)
        have hj2 : J (t.pids m) (wr.alloc (.cells #[.int .i64 (t.gen m), .bool true] 54)) := hJ _ _ _ none hj (gb_alloc _ _ _) (fun r e => by cases e)
        obtain ⟨fn, tmps, assign, body, hy, hR⟩ := hY (t.pids m) (t.gen m * 32 + m + 1) _ hj2 (by rw [← HE.out]; exact pids_prefix t (m + 1) 32 (by omega))
        have g0 := ok.g0 m hlt
        have g1 := ok.g1 m hlt
        gi_wp2
        refine hR.mono ?_
        rintro e W3 (⟨rfl, hJ3, hk3⟩ | ⟨rfl, hJx3⟩)
        · gi_wp2
          go_roundw
          case rel => exact ⟨m + 1, by omega, by go_num, by rw [HE.out]; exact hJ3, by have := hk3.size; simp at this; omega⟩
          case measure => simp [intOf]; omega
        · gi_wp2
          refine bodyPost_ret (results_none rfl _ _ _) rfl ?_
          refine ⟨⟨_, rfl⟩, .inr ⟨_, ?_, hJx3⟩⟩
          have : t.pids (m + 1) <+: t.pids 32 := pids_prefix t (m + 1) 32 (by omega)
          rw [HE.out] at this; exact this
    · obtain rfl : m = 32 := by omega
      gi_wp2
      go_end0
      exact ⟨⟨_, rfl⟩, .inl ⟨_, rfl, hj⟩⟩

set_option maxHeartbeats 1000000 in
theorem iter_nil (F : Fence) (n : Nat) (h25 : F.fn 25) (hro : F.round = none) (l Bx : Nat) (J Jx : List Int → World → Prop) (W : World) (hB : W.cell? ⟨Bx, 0, none⟩ = some (.pointer none)) (h0 : J [] W) :
    CallsIn F n Try.prog 25 #[.func (.yield l) #[] #[], .pointer (some ⟨Bx, 0, none⟩)] W fun e W' => (∃ v, e = .returned v) ∧
      ((∃ ys, ys = [] ∧ J ys W') ∨ (∃ pre, pre <+: ([] : List Int) ∧ Jx pre W')) := by
  refine callsIn_of_wp Try.func25 rfl h25 ?_ hro
  simp only [Try.ntmps25, List.size_toArray, List.length_cons, List.length_nil, Nat.reduceAdd, Nat.reduceSub, Array.replicate_succ, Array.replicate_zero, List.push_toArray, List.append_toArray, List.nil_append, List.cons_append]
  gi_wp2
  refine bodyPost_ret (results_none rfl _ _ _) rfl ?_
  exact ⟨⟨_, rfl⟩, .inl ⟨_, rfl, h0⟩⟩

set_option maxHeartbeats 1000000 in
theorem all_in (F : Fence) (n : Nat) (h5 : F.fn 22) (hro : F.round = none) (p0 : Option Addr) (w : World) :
    CallsIn F n Try.prog 22 #[.pointer p0] w fun e w' => e = .returned (.func (.func 25) #[] #[.pointer (some ⟨w.heap.size, 0, none⟩)]) ∧ w' = w.alloc (.cells #[.pointer p0] 24) := by
  refine callsIn_of_wp Try.func22 rfl h5 ?_ hro
  simp only [Try.ntmps22, List.size_toArray, List.length_cons, List.length_nil, Nat.reduceAdd, Nat.reduceSub, Array.replicate_succ, Array.replicate_zero, List.push_toArray, List.append_toArray, List.nil_append, List.cons_append]
  gi_wp2
  go_ret
  exact ⟨rfl, rfl⟩

/-- what a table's All gives: 'xs'; no table: nothing -/
def Gives (w : World) (p0 : Option Addr) (xs : List Int) : Prop :=
  (p0 = none ∧ xs = []) ∨ ∃ b t, p0 = some ⟨b, 0, none⟩ ∧ IsTb w b t ∧ t.Ok ∧ xs = t.pids 32
theorem Gives.below {w w' : World} {p0 : Option Addr} {xs : List Int} (h : Gives w p0 xs) (g : Below w.heap.size w w') : Gives w' p0 xs := by
  rcases h with h | ⟨b, t, rfl, h1, h2, h3⟩
  · exact .inl h
  · exact .inr ⟨b, t, rfl, row_below h1 g (World.rowIs.lt h1), h2, h3⟩
theorem Gives.len {w : World} {p0 : Option Addr} {xs : List Int} (h : Gives w p0 xs) : xs.length ≤ 32 := by
  rcases h with ⟨_, rfl⟩ | ⟨b, t, rfl, h1, h2, rfl⟩
  · simp
  · exact t.pids_le 32

theorem all_stops (F : Fence) (n : Nat) (h6 : F.fn 25) (hro : F.round = none) (hn : 1 ≤ n) (Bx n₀ : Nat) (p0 : Option Addr) (xs : List Int) (w : World) (hBx : Bx < w.heap.size)
    (hc : w.cell? ⟨Bx, 0, none⟩ = some (.pointer p0)) (hL : Gives w p0 xs) :
    SeqStopsK F n Try.prog 25 #[.pointer (some ⟨Bx, 0, none⟩)] (fun x : Int => #[Value.int .i64 x]) (Below n₀) (fun ys => ys = xs) (fun pre => pre <+: xs) 32 w := fun l J Jx W hW hJ hJx hY h0 => by
  have hc' : W.cell? ⟨Bx, 0, none⟩ = some (.pointer p0) := (hW.cell (p := ⟨Bx, 0, none⟩) hBx).trans hc
  have hL' := hL.below hW
  rcases hL' with ⟨rfl, rfl⟩ | ⟨b, t, rfl, h1, h2, rfl⟩
  · exact iter_nil F n h6 hro l Bx J Jx W hc' h0
  · exact iter_in F n h6 hro hn l Bx b n₀ t h2 J Jx W hJ (fun pre x W1 hj hpre => hY pre x W1 hj (by have := hpre.length_le; have := t.pids_le 32; simp at *; omega)) hc' h1 h0

set_option maxRecDepth 100000 in
set_option maxHeartbeats 2000000 in
theorem coll_in (F : Fence) (n : Nat) (h3 : F.fn 21) (h4 : F.fn 22) (h5 : F.fn 25) (hro : F.round = none) (hn : 3 ≤ n) (p0 : Option Addr) (xs : List Int) (w : World) (hL : Gives w p0 xs) :
    CallsIn F n Try.prog 21 #[.pointer p0] w fun e W' => ∃ v, e = .returned v ∧ Own W' w.heap.size v xs ∧ Below w.heap.size w W' := by
  have h1 : 1 ≤ n := by omega
  have hxl := hL.len
  obtain ⟨i0, hi, hz0, hz1, hz2⟩ := info2'
  refine callsIn_of_wp_marks Try.func21 rfl h3 ?_ hro
  simp only [Try.ntmps21, List.size_toArray, List.length_cons, List.length_nil, Nat.reduceAdd, Nat.reduceSub, Array.replicate_succ, Array.replicate_zero, List.push_toArray, List.append_toArray, List.nil_append, List.cons_append]
  gi_wp2_with (gi_at_call 22; refine (all_in F (n - 1) h4 hro _ _).mono ?_; rintro e w' ⟨rfl, rfl⟩)
  have bO := Boxed.new w 39 (.slice none 0 0)
  have bN := Boxed.new (w.alloc (.cells #[.slice none 0 0] 39)) 24 (.pointer p0)
  rw [World.size_alloc] at bN
  have hB0 : Below w.heap.size w ((w.alloc (.cells #[.slice none 0 0] 39)).alloc (.cells #[.pointer p0] 24)) := ((Below.refl _ w).alloc (Nat.le_refl _) _).alloc (by simp) _
  refine wpIn_rangeFunc_ownG hro h1 (gf := 25) (lb := #[.pointer (some ⟨w.heap.size + 1, 0, none⟩)]) rfl h5 (enters_of Try.func25 (by kernel_rfl) rfl)
    (all_stops F (n - 1) h5 hro (by omega) (w.heap.size + 1) w.heap.size p0 xs _ (by simp) bN.cell (hL.below hB0)) belowK_t (belowK_b (by simp; omega)) (Below.refl _ _) (fun _ => rfl)
    (fun pre W => (∃ v, Boxed W w.heap.size 39 v ∧ W.ownsRow w.heap.size 2 1 v pre.length (pre.map (Value.int .i64)) ∧ True) ∧ Below w.heap.size w W)
    (fun _ _ _ => False)
    (OwnFrom.and (Own.from (holdsRow_own w.heap.size w.heap.size 39 2 1 (fun pre : List Int => pre.length) (fun pre => pre.map (Value.int .i64)) (fun _ _ => True)) _) (ownFrom_below (Nat.le_refl _) (by simp; omega)))
    (fun _ _ _ _ _ hs _ _ => hs)
    ⟨⟨_, bO.alloc _, World.ownsRow_nil _ _ _ _, trivial⟩, hB0⟩
    (fun x => { tmps := #[.pointer p0, undef, .slice none 0 0, .pointer (some ⟨w.heap.size, 0, none⟩), .int .i64 x, .pointer p0, .func (.func 25) #[] #[.pointer (some ⟨w.heap.size + 1, 0, none⟩)], .int .i64 x, undef, undef, undef, undef, undef], defers := [] }) ?assign ?body ?done ?stop
  case assign =>
    intro l x W K hK
    gi_wp2
    exact hK
  case body =>
    rintro l pre x W ⟨⟨v, hv, hrow, hnil⟩, hB⟩ hlt
    have hc := hv.cell
    gi_wp2_with (gi_at_builtin; refine wpListIn_append_own _ rfl _ _ 39 rfl w.heap.size 2 i0 (.int .i64 0) 1 8 Try.underlying39 hi hz0 hz1 hz2 rfl (by decide) _ _ _ rfl (hrow.alloc _) ⟨W.heap.size, 0, none⟩ 1 1 [.int .i64 x] rfl rfl (cell_one_new _ _ _) (by simp [Value.oneCell']) (by unfold maxLen; omega) (by omega) (by have := hB.size; simp; omega) ?_; intro v' w1 hown' hgrow _; obtain ⟨g', cap', rfl⟩ := ownsRow_succ hown'; obtain ⟨hv1, hv2, hr2, hk2, hb2⟩ := hv.appended (by decide) hrow hB.size (Nat.le_refl _) hown' hgrow; have hc1 := hv1.cell; have hf1 := hv1.frozen)
    exact ⟨hk2.from _, hb2, ⟨_, hv2, by simpa using hr2, trivial⟩, hB.trans hb2⟩
  case done =>
    rintro D ys W hD rfl ⟨⟨v, hv, hrow, hnil⟩, hB⟩ hK
    have hc := hv.cell
    gi_wp2
    refine ⟨by simp, .inl ⟨_, _, rfl, run_takeDeferred hK, ?_⟩⟩
    exact ⟨_, results_tmp rfl _ _ _, v, rfl, ownsRow_putObj hrow _ hK rfl, hB.trans (belowK_b (w := w) (Nat.le_refl _) W D _ _ (by simp at hD; omega) hK rfl rfl)⟩
  case stop =>
    rintro D c pre W _ _ h _
    exact h.elim

theorem coll_any (p0 : Option Addr) (xs : List Int) (w : World) (hL : Gives w p0 xs) :
    Calls Try.prog 21 #[.pointer p0] w fun e W' => ∃ v, e = .returned v ∧ Own W' w.heap.size v xs ∧ Below w.heap.size w W' :=
  (callsIn_wide (n := 3)).1 (coll_in Fence.wide 3 trivial trivial trivial rfl (by omega) p0 xs w hL)
end Go.Proofs.Ytijhgegdcpmppaa
