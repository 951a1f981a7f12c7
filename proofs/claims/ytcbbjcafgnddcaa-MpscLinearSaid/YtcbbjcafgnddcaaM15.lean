/- A list copied, a number appended: as steps of a region that draws its order. -/
import Derived.Test.YtcbbjcafgnddcaaM13
import Derived.Deep.RegionLaw
namespace Go.Proofs.Ytcbbjcafgnddcaa
open Go.RowKit Go.Shelf
set_option linter.unusedVariables false
set_option linter.unusedSimpArgs false
theorem Fr.cell {w w' : World} {S : Nat → Prop} (g : Fr w w' S) {p : Addr} (hp : p.block < w.heap.size) (hs : ¬ S p.block) : w'.cell? p = w.cell? p := by
  unfold World.cell?
  rw [g.block _ hp hs]
/-- append(nil, list...) -/
theorem ls_copy {w : World} {v : Value} {l : List Int} (h : Ls w v l) (ty : TypeId) (hl : l.length ≤ 100000) :
    ∃ v' w', (Builtin.append_ #[22, 22] ty #[.slice none 0 0, v]).run Try.prog w = .ok v' w' ∧ Ls w' v' l ∧ Fr w w' (fun _ => False) ∧ ∀ g, blk v' = some g → w.heap.size ≤ g := by
  obtain ⟨i0, hi, hz0, hz1, hz2⟩ := info2
  by_cases hl0 : l = []
  · subst hl0
    obtain ⟨a, cap, rfl⟩ := ls_slice h
    refine ⟨_, w, ?_, .inl ⟨rfl, rfl⟩, Fr.refl _ _, fun g hg => by cases hg⟩
    cases a with
    | none => simp [Builtin.append_, run_underlying Try.underlying22, sizeOf, typeInfo, hi, Builtin.lenOf, Builtin.firstCells, storeCells]
    | some a => simp [Builtin.append_, run_underlying Try.underlying22, sizeOf, typeInfo, hi, Builtin.lenOf, Builtin.firstCells, storeCells, loadCells, loadCellsFrom]
  · rcases h with ⟨_, h⟩ | ⟨g, off, cap, cur, rfl, hc, hn, ho, hi2⟩
    · exact absurd h hl0
    · have hcell : ∀ j, w.cell? ⟨g, j, none⟩ = cur[j]? := fun j => cell_of_row w g j cur 2 (0, 0) hc
      have holds : ∀ j u, (l.map (Value.int .i64))[j]? = some u → w.cell? ((⟨g, off, none⟩ : Addr).add j) = some u := fun j u hj => by
        rw [Go.WideShapes.add_plain, hcell]
        rw [List.getElem?_map] at hj
        have hjl : j < l.length := by
          by_cases h : j < l.length
          · exact h
          · rw [List.getElem?_eq_none (by omega)] at hj; cases hj
        rw [hi2 j hjl]
        rw [List.getElem?_eq_getElem hjl] at hj
        simpa [List.getD, hjl] using hj
      obtain ⟨v', w', h1, h2, h3, _⟩ := run_append_own (P := Try.prog) w w.heap.size 22 ty 2 i0 (.int .i64 0) 1 8 Try.underlying22 hi hz0 hz1 hz2 rfl (by decide) (.slice none 0 0) 0 [] (World.ownsRow_nil w w.heap.size 2 1) ⟨g, off, none⟩ l.length cap (l.map (Value.int .i64)) (by simp) holds (fun u hu => by obtain ⟨x, _, rfl⟩ := List.mem_map.1 hu; rfl) (by unfold maxLen; omega) (by omega) (Nat.le_refl _)
      rw [Nat.zero_add, List.nil_append] at h2
      refine ⟨v', w', h1, ls_own h2, ⟨h3.os, h3.tape, h3.output, h3.size, fun k hk _ => h3.block k hk (by intro e; cases e)⟩, fun k hk => ?_⟩
      rcases h2 with ⟨_, ⟨e, _⟩ | ⟨s, cp, cr, e, hb, _⟩⟩
      · rw [e] at hk; cases hk
      · subst e; cases hk; exact hb
theorem step_run {P : Program} {ops : Array Oper} {o : Oper} {a : Act} {w : World} {K : Act → World → Prop} {Q : Exit → Act → World → Prop} {E : Prop}
    (hg : o.guard = none) (s x : Operand) (t : TypeId) (hop : o.op = Op.call { callee := Callee.builtin Builtin.append, args := #[s, x], argTypes := #[t, t] })
    (vs vx : Value) (hs : a.eval s = vs) (hx : a.eval x = vx) (v' : Value) (w' : World) (hrun : (Builtin.append_ #[t, t] o.type #[vs, vx]).run P w = .ok v' w')
    (hK : K (a.put o.dst v') w') : if Region.wanted o (yielded ops a.tmps) = true then Oper.wp P o a w K Q else E := by
  have hw : Region.wanted o (yielded ops a.tmps) = true := by simp [Region.wanted, hg]
  rw [if_pos hw]
  unfold Oper.wp
  simp [execOp, hop, resolve, invoke, builtin, hs, hx, hrun, Result.andThen]
  exact hK
theorem step_copy {ops : Array Oper} {o : Oper} {a : Act} {w : World} {K : Act → World → Prop} {Q : Exit → Act → World → Prop} {E : Prop}
    (hg : o.guard = none) (s x : Operand) (hop : o.op = Op.call { callee := Callee.builtin Builtin.append, args := #[s, x], argTypes := #[22, 22] })
    (v : Value) (l : List Int) (hs : a.eval s = .slice none 0 0) (hx : a.eval x = v) (h : Ls w v l) (hl : l.length ≤ 100000)
    (hK : ∀ v' w', Ls w' v' l → Fr w w' (fun _ => False) → (∀ g, blk v' = some g → w.heap.size ≤ g) → K (a.put o.dst v') w') : if Region.wanted o (yielded ops a.tmps) = true then Oper.wp Try.prog o a w K Q else E := by
  obtain ⟨v', w', e1, e2, e3, e4⟩ := ls_copy h o.type hl
  exact step_run hg s x 22 hop _ _ hs hx v' w' e1 (hK v' w' e2 e3 e4)
theorem step_app {ops : Array Oper} {o : Oper} {a : Act} {w : World} {K : Act → World → Prop} {Q : Exit → Act → World → Prop} {E : Prop}
    (hg : o.guard = none) (s x : Operand) (hop : o.op = Op.call { callee := Callee.builtin Builtin.append, args := #[s, x], argTypes := #[22, 22] })
    (v : Value) (l : List Int) (ad : Addr) (y : Int) (hs : a.eval s = v) (hx : a.eval x = .slice (some ad) 1 1) (h : Ls w v l) (hy : w.cell? ad = some (.int .i64 y)) (hl : l.length ≤ 100000)
    (hK : ∀ v' w', Ls w' v' (l ++ [y]) → Fr w w' (fun k => blk v = some k) → (∀ g, blk v' = some g → blk v = some g ∨ w.heap.size ≤ g) → K (a.put o.dst v') w') : if Region.wanted o (yielded ops a.tmps) = true then Oper.wp Try.prog o a w K Q else E := by
  obtain ⟨v', w', e1, e2, e3, e4⟩ := ls_append h o.type ad y hy hl
  exact step_run hg s x 22 hop _ _ hs hx v' w' e1 (hK v' w' e2 e3 e4)
end Go.Proofs.Ytcbbjcafgnddcaa
