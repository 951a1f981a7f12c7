/- The reference's ring: a list in a slice of its own, anywhere in its row. -/
import Derived.Test.YtcofoknkmkfbkaaP8
import Derived.ArgAppend
namespace Go.Proofs.Ytcofoknkmkfbkaa
open Go.RowKit Go.Shelf
set_option linter.unusedVariables false
set_option linter.unusedSimpArgs false

/-- a slice of numbers of one's own, no block below B, wherever it begins in its row -/
def Lo (w : World) (B : Nat) (v : Value) (l : List Int) : Prop :=
  (v = .slice none 0 0 ∧ l = []) ∨ ∃ g off cap cur, v = .slice (some ⟨g, off, none⟩) l.length cap ∧ B ≤ g ∧ w.heap[g]? = some (.cells cur 3) ∧ l.length ≤ cap ∧ off + cap ≤ cur.size ∧ ∀ i, i < l.length → cur[off + i]? = some (.int .i64 (l.getD i 0))
/-- nothing below B turned but block c -/
structure Cm (w w' : World) (c B : Nat) : Prop where
  os : w'.os = w.os
  tape : w'.tape = w.tape
  output : w'.output = w.output
  size : w.heap.size ≤ w'.heap.size
  block : ∀ k, k < w.heap.size → k < B → k ≠ c → w'.heap[k]? = w.heap[k]?
theorem Cm.refl (w : World) (c B : Nat) : Cm w w c B := ⟨rfl, rfl, rfl, Nat.le_refl _, fun _ _ _ _ => rfl⟩
theorem Cm.trans {x y z : World} {c B : Nat} (h : Cm x y c B) (g : Cm y z c B) : Cm x z c B :=
  ⟨g.os.trans h.os, g.tape.trans h.tape, g.output.trans h.output, Nat.le_trans h.size g.size, fun k hk n1 n2 => (g.block k (Nat.lt_of_lt_of_le hk h.size) n1 n2).trans (h.block k hk n1 n2)⟩
theorem Cm.below {x y : World} {c B : Nat} (h : Cm x y c B) {n : Nat} (hn : n ≤ x.heap.size) (hc : n ≤ c) (hB : n ≤ B) : Below n x y :=
  ⟨h.os, h.tape, h.output, h.size, fun k hk => h.block k (by omega) (by omega) (by omega)⟩
theorem cm_gb {w w' : World} {r : Option Nat} (g : w.grownBy w' r) (c B : Nat) (hr : ∀ k, r = some k → k = c ∨ B ≤ k) : Cm w w' c B :=
  ⟨g.os, g.tape, g.output, g.size, fun k hk n1 n2 => g.block k hk (fun e => by rcases hr k e.symm with h | h <;> omega)⟩
theorem lo_slice {w : World} {B : Nat} {v : Value} {l : List Int} (h : Lo w B v l) : ∃ a cap, v = .slice a l.length cap := by
  rcases h with ⟨rfl, rfl⟩ | ⟨g, off, cap, cur, rfl, _⟩
  · exact ⟨_, _, rfl⟩
  · exact ⟨_, _, rfl⟩
theorem lo_own {w : World} {B : Nat} {v : Value} {l : List Int} (h : w.ownsRow B 3 1 v l.length (l.map (Value.int .i64))) : Lo w B v l := by
  rcases h with ⟨h1, ⟨h2, h3⟩ | ⟨s, cap, cur, e, hb, hg, hnc, hcm, hcs, hr⟩⟩
  · exact .inl ⟨h2, List.eq_nil_of_length_eq_zero h3⟩
  · refine .inr ⟨s, 0, cap, cur, e, hb, hg, hnc, by omega, fun i hi => ?_⟩
    have := congrArg (fun q : List Value => q[i]?) hr
    simp only [List.getElem?_take, List.getElem?_map, Array.getElem?_toList] at this
    rw [if_pos (by omega)] at this
    rw [Nat.zero_add, this]
    simp [hi, List.getD]
/-- append of one number -/
theorem lo_append {w : World} {B : Nat} {v : Value} {l : List Int} (h : Lo w B v l) (hB : B ≤ w.heap.size) (ty : TypeId) (ad : Addr) (x : Int) (hx : w.cell? ad = some (.int .i64 x)) (hl : l.length ≤ 5000) :
    ∃ v' w', (Builtin.append_ #[22, 22] ty #[v, .slice (some ad) 1 1]).run Try.prog w = .ok v' w' ∧ Lo w' B v' (l ++ [x]) ∧ Cm w w' B B := by
  obtain ⟨i0, hi, hz0, hz1, hz2⟩ := info3
  have hnews : ∀ j u, ([Value.int .i64 x] : List Value)[j]? = some u → w.cell? (ad.add j) = some u := fun j u hj => by
    cases j with
    | zero => have e : u = .int .i64 x := by simpa using hj.symm
              subst e; rw [show ad.add 0 = ad by cases ad; simp [Addr.add]]; exact hx
    | succ j => simp at hj
  rcases h with ⟨rfl, rfl⟩ | ⟨g, off, cap, cur, rfl, hg, hc, hn, ho, hi2⟩
  · obtain ⟨v', w', h1, h2, h3, _⟩ := run_append_own (P := Try.prog) w B 22 ty 3 i0 (.int .i64 0) 1 8 Try.underlying22 hi hz0 hz1 hz2 rfl (by decide) (.slice none 0 0) 0 [] (World.ownsRow_nil w B 3 1) ad 1 1 [.int .i64 x] rfl hnews (by simp [Value.oneCell']) (by unfold maxLen; omega) (by omega) hB
    exact ⟨v', w', h1, lo_own (l := [x]) h2, cm_gb h3 B B (fun k e => by cases e)⟩
  · have hcell : ∀ j, w.cell? ⟨g, j, none⟩ = cur[j]? := fun j => cell_of_row w g j cur 3 (0, 0) hc
    have hfr : ∀ j, w.frozen? ⟨g, j, none⟩ = false := fun j => frozen_of_row w g j cur 3 hc
    by_cases hroom : l.length + 1 ≤ cap
    · have hr := run_append_room_cells (P := Try.prog) w 22 ty 3 i0 Try.underlying22 hi g off l.length cap ad 1 1 [.int .i64 x] (by simp [hz1]) hnews (by simp [Value.oneCell']) hroom
        (fun j hj => by rw [hcell, hz1]; have : j < 1 := hj; rw [Array.getElem?_eq_getElem (by omega)]; rfl) (fun j hj => hfr _)
      refine ⟨_, _, hr, .inr ⟨g, off, cap, cur.setIfInBounds (off + l.length) (.int .i64 x), by simp, hg, ?_, by simp; omega, by simpa using ho, fun i hi' => ?_⟩, ?_⟩
      · rw [hz1, Nat.mul_one]
        exact Go.heap_setCell_same w g (off + l.length) cur 3 _ hc
      · rw [List.length_append] at hi'
        have hi'' : i < l.length + 1 := hi'
        rw [Array.getElem?_setIfInBounds]
        by_cases e : i = l.length
        · subst e
          rw [if_pos rfl, if_pos (by omega)]
          simp
        · rw [if_neg (by omega), hi2 i (by omega), List.getD_eq_getElem?_getD, List.getD_eq_getElem?_getD, List.getElem?_append_left (by omega)]
      · refine ⟨rfl, rfl, rfl, by simp [World.setCells, World.setCell], fun k hk n1 _ => ?_⟩
        exact Below.heap_setCell _ _ _ _ (by show k ≠ g; omega)
    · have holds : ∀ j u, (l.map (Value.int .i64))[j]? = some u → w.cell? ((⟨g, off, none⟩ : Addr).add j) = some u := fun j u hj => by
        rw [Go.WideShapes.add_plain, hcell]
        rw [List.getElem?_map] at hj
        have hjl : j < l.length := by
          by_cases h : j < l.length
          · exact h
          · rw [List.getElem?_eq_none (by omega)] at hj; cases hj
        rw [hi2 j hjl]
        rw [List.getElem?_eq_getElem hjl] at hj
        simpa [List.getD, hjl] using hj
      obtain ⟨v', w', h1, h2, h3⟩ := run_append_arg_grows (P := Try.prog) w 22 ty 3 i0 (.int .i64 0) 1 8 Try.underlying22 hi hz0 hz1 hz2 rfl (by decide) ⟨g, off, none⟩ l.length cap (l.map (Value.int .i64)) (by simp) holds ad 1 1 [.int .i64 x] rfl hnews (by omega) (by unfold maxLen; omega) (by omega)
      refine ⟨v', w', h1, ?_, cm_gb h3 B B (fun k e => by cases e)⟩
      have : w'.ownsRow B 3 1 v' (l ++ [x]).length ((l ++ [x]).map (Value.int .i64)) := by
        simp only [List.length_append, List.length_cons, List.length_nil, List.map_append, List.map_cons, List.map_nil]
        rcases h2 with ⟨e1, e2 | ⟨s, cp, cr, e, hb, r⟩⟩
        · exact ⟨e1, .inl e2⟩
        · exact ⟨e1, .inr ⟨s, cp, cr, e, by omega, r⟩⟩
      exact lo_own this

/-- append of all of it behind one number -/
theorem lo_cons {w : World} {B : Nat} {v : Value} {l : List Int} (h : Lo w B v l) (n : Nat) (hB : B ≤ n) (ty : TypeId) (x : Int) (hx : Boxed w n 3 (.int .i64 x)) (hl : l.length ≤ 5000) :
    ∃ v' w', (Builtin.append_ #[22, 22] ty #[.slice (some ⟨n, 0, none⟩) 1 1, v]).run Try.prog w = .ok v' w' ∧ Lo w' B v' (x :: l) ∧ Cm w w' B B := by
  obtain ⟨i0, hi, hz0, hz1, hz2⟩ := info3
  have hone : Lo w B (.slice (some ⟨n, 0, none⟩) 1 1) [x] := .inr ⟨n, 0, 1, #[.int .i64 x], rfl, hB, hx, by simp, by simp, fun i hi => by
    obtain rfl : i = 0 := by simpa using hi
    rfl⟩
  by_cases hl0 : l = []
  · subst hl0
    obtain ⟨a, cap, rfl⟩ := lo_slice h
    refine ⟨_, w, ?_, hone, Cm.refl _ _ _⟩
    cases a with
    | none => simp [Builtin.append_, run_underlying Try.underlying22, sizeOf, typeInfo, hi, Builtin.lenOf, Builtin.firstCells, storeCells]
    | some a => simp [Builtin.append_, run_underlying Try.underlying22, sizeOf, typeInfo, hi, Builtin.lenOf, Builtin.firstCells, storeCells, loadCells, loadCellsFrom]
  · have hpos : 1 ≤ l.length := List.length_pos_iff.2 hl0
    rcases h with ⟨_, h⟩ | ⟨g, off, cap, cur, rfl, hg, hc, hn, ho, hi2⟩
    · exact absurd h hl0
    · have hcell : ∀ j, w.cell? ⟨g, j, none⟩ = cur[j]? := fun j => cell_of_row w g j cur 3 (0, 0) hc
      have holds : ∀ j u, (l.map (Value.int .i64))[j]? = some u → w.cell? ((⟨g, off, none⟩ : Addr).add j) = some u := fun j u hj => by
        rw [Go.WideShapes.add_plain, hcell]
        rw [List.getElem?_map] at hj
        have hjl : j < l.length := by
          by_cases h : j < l.length
          · exact h
          · rw [List.getElem?_eq_none (by omega)] at hj; cases hj
        rw [hi2 j hjl]
        rw [List.getElem?_eq_getElem hjl] at hj
        simpa [List.getD, hjl] using hj
      obtain ⟨v', w', h1, h2, h3⟩ := run_append_arg_grows (P := Try.prog) w 22 ty 3 i0 (.int .i64 0) 1 8 Try.underlying22 hi hz0 hz1 hz2 rfl (by decide) ⟨n, 0, none⟩ 1 1 [.int .i64 x] rfl (fun j u hj => by
        cases j with
        | zero => have e : u = .int .i64 x := by simpa using hj.symm
                  subst e; exact hx.cell
        | succ j => simp at hj) ⟨g, off, none⟩ l.length cap (l.map (Value.int .i64)) (by simp) holds (by omega) (by unfold maxLen; omega) (by omega)
      refine ⟨v', w', h1, ?_, cm_gb h3 B B (fun k e => by cases e)⟩
      have hnl : n < w.heap.size := by
        by_cases h : n < w.heap.size
        · exact h
        · have hh : w.heap[n]? = _ := hx
          rw [Array.getElem?_eq_none (by simpa using h)] at hh; cases hh
      have : w'.ownsRow B 3 1 v' (x :: l).length ((x :: l).map (Value.int .i64)) := by
        rw [List.length_cons, Nat.add_comm, List.map_cons]
        rcases h2 with ⟨e1, e2 | ⟨s, cp, cr, e, hb, r⟩⟩
        · exact ⟨e1, .inl e2⟩
        · exact ⟨e1, .inr ⟨s, cp, cr, e, by omega, r⟩⟩
      exact lo_own this
/-- the reference's ring in block c -/
structure IsM (w : World) (c B N : Nat) (v : Value) (l : List Int) : Prop where
  s : w.rowIs c 57 2 (fun i => if i = 0 then v else .int .i64 N)
  o : Lo w B v l
  cB : c < B
  bs : B ≤ w.heap.size
  n1 : 1 ≤ N
  n2 : N ≤ 4096
  le : l.length ≤ N
section
variable {w w1 : World} {c B N : Nat} {v : Value} {l : List Int}
theorem IsM.c0 (h : IsM w c B N v l) : w.cell? ⟨c, 0, none⟩ = some v := row_val h.s (by omega) rfl
theorem IsM.c1 (h : IsM w c B N v l) : w.cell? ⟨c, 1, none⟩ = some (.int .i64 N) := row_val h.s (by omega) rfl
theorem IsM.froz (h : IsM w c B N v l) (i : Nat) : w.frozen? ⟨c, i, none⟩ = false := World.rowIs.frozen h.s i
theorem Lo.blk (h : Lo w B v l) (hk : ∀ k, k < w.heap.size → B ≤ k → w1.heap[k]? = w.heap[k]?) : Lo w1 B v l := by
  rcases h with h | ⟨g, off, cap, cur, e, hg, hc, r⟩
  · exact .inl h
  · refine .inr ⟨g, off, cap, cur, e, hg, ?_, r⟩
    rw [hk g (by
      by_cases h : g < w.heap.size
      · exact h
      · rw [Array.getElem?_eq_none (by simpa using h)] at hc; cases hc) hg]
    exact hc
theorem IsM.same (h : IsM w c B N v l) (e : w1.heap = w.heap) : IsM w1 c B N v l :=
  { h with s := h.s.of_block (by rw [e]), o := h.o.blk (fun k _ _ => by rw [e]), bs := by rw [e]; exact h.bs }
theorem IsM.below (h : IsM w c B N v l) (g : Below w.heap.size w w1) : IsM w1 c B N v l :=
  { h with s := row_below h.s g (World.rowIs.lt h.s), o := h.o.blk (fun k hk _ => g.block k hk), bs := Nat.le_trans h.bs g.size }
theorem IsM.ch (h : IsM w c B N v l) {b d : Nat} (g : Ch w w1 b d) (h1 : c ≠ b) (h2 : c ≠ d) (h3 : b < B) (h4 : d < B) : IsM w1 c B N v l :=
  { h with s := row_ch h.s g h1 h2, o := h.o.blk (fun k hk hB => g.block k hk (by omega) (by omega)), bs := Nat.le_trans h.bs g.size }
end

theorem wpList_append_run {P : Program} {w : World} {ops : Array Oper} {rest : List Oper} {o : Oper} {a : Act} {Q : Exit → Act → World → Prop}
    (hg : o.guard = none) (s x : Operand) (t : TypeId) (hop : o.op = Op.call { callee := Callee.builtin Builtin.append, args := #[s, x], argTypes := #[t, t] })
    (vs vx : Value) (hs : a.eval s = vs) (hx : a.eval x = vx) (v' : Value) (w' : World) (hrun : (Builtin.append_ #[t, t] o.type #[vs, vx]).run P w = .ok v' w')
    (hK : wpList P ops Q rest (a.put o.dst v') w') : wpList P ops Q (o :: rest) a w := by
  refine wpList_plain hg fun K hK' => ?_
  unfold Oper.wp
  simp [execOp, hop, resolve, invoke, builtin, hs, hx, hrun, Result.andThen]
  exact hK' _ _ hK
theorem zero57 (w : World) : (zeroValue 57).run Try.prog w = .ok (.agg #[.slice none 0 0, .int .i64 0]) w := by kernel_rfl
set_option maxRecDepth 100000 in
set_option maxHeartbeats 1000000 in
theorem m_new (s : Int) (w : World) (hs : I64 s) :
    Calls Try.prog 30 #[.int .i64 s] w fun e w' => e = .returned (.pointer (some ⟨w.heap.size, 0, none⟩)) ∧ IsM w' w.heap.size (w.heap.size + 1) (capN s) (.slice none 0 0) [] ∧ w.grownBy w' none := by
  have hfin : IsM (w.alloc (.cells #[.slice none 0 0, .int .i64 (capN s)] 57)) w.heap.size (w.heap.size + 1) (capN s) (.slice none 0 0) [] :=
    ⟨row_new _ _ _ _ _ rfl (fun i hi => by match i, hi with | 0, _ => rfl | 1, _ => rfl), .inl ⟨rfl, rfl⟩, by omega, by simp, capN_lo s, capN_hi s, Nat.zero_le _⟩
  have hz := zero57
  have hN : ∃ c : Int, c = capN s ∧ ((s < 1 ∧ c = 1) ∨ (s = c ∧ 1 ≤ c ∧ c ≤ 4096) ∨ (1 ≤ s ∧ 4096 < s ∧ c = 4096)) := by
    unfold capN
    by_cases h1 : s < 1
    · exact ⟨1, by simp [h1], .inl ⟨h1, rfl⟩⟩
    · by_cases h2 : s ≤ 4096
      · exact ⟨s, by simp [h1, h2]; omega, .inr (.inl ⟨rfl, by omega, h2⟩)⟩
      · exact ⟨4096, by simp [h1, h2], .inr (.inr ⟨by omega, by omega, rfl⟩)⟩
  obtain ⟨c, hc, hN⟩ := hN
  rw [← hc] at hfin
  have HF := Lib.hid hfin
  clear hfin
  generalize capN s = C at *
  clear hc
  rcases hN with ⟨h1, rfl⟩ | ⟨rfl, h1, h2⟩ | ⟨h1, h2, rfl⟩
  all_goals
    go_enter Try.func30, Try.ntmps30
    go_wp2
    go_ret
    exact ⟨rfl, HF.out, gb_alloc _ _ _⟩
section
variable {w w1 : World} {c B N : Nat} {v : Value} {l : List Int}
set_option maxRecDepth 100000 in
set_option maxHeartbeats 2000000 in
theorem m_put (h : IsM w c B N v l) (x : Int) : Calls Try.prog 32 #[.pointer (some ⟨c, 0, none⟩), .int .i64 x] w fun e w' => e = .returned (.int .i64 (putE N l)) ∧ ∃ v', IsM w' c B N v' (putL N l x) ∧ Cm w w' c B := by
  obtain ⟨a, cap, rfl⟩ := lo_slice h.o
  have c0 := h.c0
  have c1 := h.c1
  have hf := h.froz 0
  have hle := h.le
  have hn2 := h.n2
  by_cases hfull : l.length = N
  · have hge : (N : Int) ≤ (l.length : Int) := by omega
    have HE : Hid (putE N l = 7 ∧ putL N l x = l) := Lib.hid ⟨by unfold putE; rw [if_pos hfull], by unfold putL; rw [if_pos hfull]⟩
    have H := Lib.hid h
    clear h hfull
    go_enter Try.func32, Try.ntmps32
    go_wp2_with fail
    go_quiet (fail)
    go_wp2
    go_ret
    exact ⟨by rw [HE.out.1]; rfl, _, by rw [HE.out.2]; exact H.out.same rfl, cm_gb (gb_drewN _ _ none) _ _ (fun k e => by cases e)⟩
  · have hlt : ¬ (N : Int) ≤ (l.length : Int) := by omega
    have hltN : l.length < N := by omega
    have HE : Hid (putE N l = 0 ∧ putL N l x = l ++ [x]) := Lib.hid ⟨by unfold putE; rw [if_neg hfull], by unfold putL; rw [if_neg hfull]⟩
    have H := Lib.hid h
    clear h hfull
    go_enter Try.func32, Try.ntmps32
    go_wp2_with fail
    go_quiet (fail)
    have hlo : Lo ((w.drewN nq).alloc (.cells #[.int .i64 x] 3)) B (.slice a l.length cap) l := H.out.o.blk (fun k hk _ => Below.heap_alloc (w.drewN nq) _ k hk)
    obtain ⟨v8, w8, h8, lo8, cm8⟩ := lo_append hlo (by have := H.out.bs; simp; omega) 22 ⟨w.heap.size, 0, none⟩ x (Boxed.new (w.drewN nq) 3 (.int .i64 x)).cell (by omega)
    have hrow : w8.rowIs c 57 2 (fun i => if i = 0 then .slice a l.length cap else .int .i64 N) := H.out.s.of_block (by
      have hcs := World.rowIs.lt H.out.s
      have := H.out.cB
      have hsz : ((w.drewN nq).alloc (.cells #[.int .i64 x] 3)).heap.size = w.heap.size + 1 := by simp
      rw [cm8.block c (by omega) this (by omega)]
      exact Below.heap_alloc (w.drewN nq) _ c hcs)
    have c8 := row_val hrow (i := 0) (v := .slice a l.length cap) (by omega) rfl
    have f8 := World.rowIs.frozen hrow 0
    obtain ⟨a8, k8, e8⟩ := lo_slice lo8
    generalize (l ++ [x]).length = q8 at e8
    subst e8
    have H8 := Lib.hid h8
    have L8 := Lib.hid lo8
    have C8 := Lib.hid cm8
    have R8 := Lib.hid hrow
    clear h8 lo8 cm8 hrow hlo
    go_wp2_with (at_builtin; refine wpList_append_run rfl _ _ 22 rfl _ _ rfl rfl _ w8 H8.out ?_)
    go_ret
    refine ⟨by rw [HE.out.1]; rfl, .slice a8 q8 k8, ?_, ?_⟩
    · rw [HE.out.2]
      exact ⟨(R8.out.set _ _).congr (fun i hi => by match i, hi with | 0, _ => rfl | 1, _ => rfl), L8.out.blk (fun k hk hB => Below.heap_setCell _ _ _ _ (by have := H.out.cB; show k ≠ c; omega)), H.out.cB, by rw [World.size_setCell]; exact Nat.le_trans H.out.bs (Nat.le_trans (by simp) C8.out.size), H.out.n1, H.out.n2, by simp; omega⟩
    · have hs := C8.out.size
      have hcB := H.out.cB
      rw [World.size_alloc] at hs
      exact ⟨C8.out.os, C8.out.tape, C8.out.output, by rw [World.size_setCell]; exact Nat.le_trans (Nat.le_succ _) hs, fun k hk n1 n2 => (Below.heap_setCell _ _ _ _ (by show k ≠ c; exact n2)).trans ((C8.out.block k (by simp; omega) n1 (by omega)).trans (Below.heap_alloc (w.drewN nq) _ k hk))⟩
set_option maxRecDepth 100000 in
set_option maxHeartbeats 2000000 in
theorem m_push (h : IsM w c B N v l) (x : Int) : Calls Try.prog 31 #[.pointer (some ⟨c, 0, none⟩), .int .i64 x] w fun e w' => e = .returned (.int .i64 (putE N l)) ∧ ∃ v', IsM w' c B N v' (pushL N l x) ∧ Cm w w' c B := by
  obtain ⟨a, cap, rfl⟩ := lo_slice h.o
  have c0 := h.c0
  have c1 := h.c1
  have hf := h.froz 0
  have hle := h.le
  have hn2 := h.n2
  by_cases hfull : l.length = N
  · have hge : (N : Int) ≤ (l.length : Int) := by omega
    have HE : Hid (putE N l = 7 ∧ pushL N l x = l) := Lib.hid ⟨by unfold putE; rw [if_pos hfull], by unfold pushL; rw [if_pos hfull]⟩
    have H := Lib.hid h
    clear h hfull
    go_enter Try.func31, Try.ntmps31
    go_wp2_with fail
    go_quiet (fail)
    go_wp2
    go_ret
    exact ⟨by rw [HE.out.1]; rfl, _, by rw [HE.out.2]; exact H.out.same rfl, cm_gb (gb_drewN _ _ none) _ _ (fun k e => by cases e)⟩
  · have hlt : ¬ (N : Int) ≤ (l.length : Int) := by omega
    have hltN : l.length < N := by omega
    have HE : Hid (putE N l = 0 ∧ pushL N l x = x :: l) := Lib.hid ⟨by unfold putE; rw [if_neg hfull], by unfold pushL; rw [if_neg hfull]⟩
    have H := Lib.hid h
    clear h hfull
    go_enter Try.func31, Try.ntmps31
    go_wp2_with fail
    go_quiet (fail)
    have hlo : Lo ((w.drewN nq).alloc (.cells #[.int .i64 x] 3)) B (.slice a l.length cap) l := H.out.o.blk (fun k hk _ => Below.heap_alloc (w.drewN nq) _ k hk)
    obtain ⟨v8, w8, h8, lo8, cm8⟩ := lo_cons hlo w.heap.size H.out.bs 22 x (Boxed.new (w.drewN nq) 3 (.int .i64 x)) (by omega)
    have hsa : ((w.drewN nq).alloc (.cells #[.int .i64 x] 3)).heap.size = w.heap.size + 1 := by simp
    have hrow0 : ((w.drewN nq).alloc (.cells #[.int .i64 x] 3)).rowIs c 57 2 (fun i => if i = 0 then .slice a l.length cap else .int .i64 N) := H.out.s.of_block (Below.heap_alloc (w.drewN nq) _ c (World.rowIs.lt H.out.s))
    have ca := row_val hrow0 (i := 0) (v := .slice a l.length cap) (by omega) rfl
    have hrow : w8.rowIs c 57 2 (fun i => if i = 0 then .slice a l.length cap else .int .i64 N) := hrow0.of_block (by
      have hcs := World.rowIs.lt H.out.s
      have := H.out.cB
      exact cm8.block c (by omega) this (by omega))
    have c8 := row_val hrow (i := 0) (v := .slice a l.length cap) (by omega) rfl
    have f8 := World.rowIs.frozen hrow 0
    obtain ⟨a8, k8, e8⟩ := lo_slice lo8
    generalize (x :: l).length = q8 at e8
    subst e8
    have H8 := Lib.hid h8
    have L8 := Lib.hid lo8
    have C8 := Lib.hid cm8
    have R8 := Lib.hid hrow
    clear h8 lo8 cm8 hrow hlo hrow0
    go_wp2_with (at_builtin; refine wpList_append_run rfl _ _ 22 rfl _ _ rfl rfl _ w8 H8.out ?_)
    go_ret
    refine ⟨by rw [HE.out.1]; rfl, .slice a8 q8 k8, ?_, ?_⟩
    · rw [HE.out.2]
      exact ⟨(R8.out.set _ _).congr (fun i hi => by match i, hi with | 0, _ => rfl | 1, _ => rfl), L8.out.blk (fun k hk hB => Below.heap_setCell _ _ _ _ (by have := H.out.cB; show k ≠ c; omega)), H.out.cB, by rw [World.size_setCell]; exact Nat.le_trans H.out.bs (Nat.le_trans (by simp) C8.out.size), H.out.n1, H.out.n2, by simp; omega⟩
    · have hs := C8.out.size
      have hcB := H.out.cB
      rw [World.size_alloc] at hs
      exact ⟨C8.out.os, C8.out.tape, C8.out.output, by rw [World.size_setCell]; exact Nat.le_trans (Nat.le_succ _) hs, fun k hk n1 n2 => (Below.heap_setCell _ _ _ _ (by show k ≠ c; exact n2)).trans ((C8.out.block k (by simp; omega) n1 (by omega)).trans (Below.heap_alloc (w.drewN nq) _ k hk))⟩
end
end Go.Proofs.Ytcofoknkmkfbkaa
