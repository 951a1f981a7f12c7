/- Lists of numbers in slices. -/
import Derived.Test.YtldobbdaokjgaaaP12
import Derived.ArgAppend
namespace Go.Proofs.Ytldobbdaokjgaaa
open Go.RowKit
set_option linter.unusedVariables false
set_option linter.unusedSimpArgs false
def blk : Value → Option Nat | .slice (some a) _ _ => some a.block | _ => none
/-- a slice of numbers, wherever it begins in its row -/
def Ls (w : World) (v : Value) (l : List Int) : Prop :=
  (v = .slice none 0 0 ∧ l = []) ∨ ∃ g off cap cur, v = .slice (some ⟨g, off, none⟩) l.length cap ∧ w.heap[g]? = some (.cells cur 2) ∧ l.length ≤ cap ∧ off + cap ≤ cur.size ∧ ∀ i, i < l.length → cur[off + i]? = some (.int .i64 (l.getD i 0))
theorem ls_slice {w : World} {v : Value} {l : List Int} (h : Ls w v l) : ∃ a cap, v = .slice a l.length cap := by
  rcases h with ⟨rfl, rfl⟩ | ⟨g, off, cap, cur, rfl, _⟩
  · exact ⟨_, _, rfl⟩
  · exact ⟨_, _, rfl⟩
theorem ls_own {w : World} {B : Nat} {v : Value} {l : List Int} (h : w.ownsRow B 2 1 v l.length (l.map (Value.int .i64))) : Ls w v l := by
  rcases h with ⟨h1, ⟨h2, h3⟩ | ⟨s, cap, cur, e, hb, hg, hnc, hcm, hcs, hr⟩⟩
  · exact .inl ⟨h2, List.eq_nil_of_length_eq_zero h3⟩
  · refine .inr ⟨s, 0, cap, cur, e, hg, hnc, by omega, fun i hi => ?_⟩
    have := congrArg (fun q : List Value => q[i]?) hr
    simp only [List.getElem?_take, List.getElem?_map, Array.getElem?_toList] at this
    rw [if_pos (by omega)] at this
    rw [Nat.zero_add, this]
    simp [hi, List.getD]
theorem ls_lt {w : World} {v : Value} {l : List Int} (h : Ls w v l) {g : Nat} (hg : blk v = some g) : g < w.heap.size := by
  rcases h with ⟨rfl, _⟩ | ⟨g', off, cap, cur, rfl, hc, _⟩
  · cases hg
  · have e : g' = g := by simpa [blk] using hg
    subst e
    by_cases h : g' < w.heap.size
    · exact h
    · rw [Array.getElem?_eq_none (by simpa using h)] at hc; cases hc
theorem Ls.of {w w1 : World} {v : Value} {l : List Int} (h : Ls w v l) (hk : ∀ g, blk v = some g → g < w.heap.size → w1.heap[g]? = w.heap[g]?) : Ls w1 v l := by
  have hl := fun g hg => ls_lt h (g := g) hg
  rcases h with h | ⟨g, off, cap, cur, rfl, hc, r⟩
  · exact .inl h
  · exact .inr ⟨g, off, cap, cur, rfl, (hk g rfl (hl g rfl)).trans hc, r⟩
theorem Ls.below {w w1 : World} {v : Value} {l : List Int} (h : Ls w v l) (g : Below w.heap.size w w1) : Ls w1 v l := h.of (fun k _ hk => g.block k hk)
theorem ls_cell {w : World} {a : Option Addr} {n cap : Nat} {l : List Int} (h : Ls w (.slice a n cap) l) (i : Nat) (hi : i < l.length) :
    ∃ b o, a = some ⟨b, o, none⟩ ∧ w.cell? ⟨b, o + i, none⟩ = some (.int .i64 (l.getD i 0)) := by
  rcases h with ⟨_, h0⟩ | ⟨g, off, cap, cur, e, hc, hn, ho, hi2⟩
  · subst h0; simp at hi
  · cases e
    exact ⟨g, off, rfl, by rw [cell_of_row w g _ cur 2 (0, 0) hc, hi2 i hi]⟩
/-- append of one number -/
theorem ls_append {w : World} {v : Value} {l : List Int} (h : Ls w v l) (ty : TypeId) (ad : Addr) (x : Int) (hx : w.cell? ad = some (.int .i64 x)) (hl : l.length ≤ 100000) :
    ∃ v' w', (Builtin.append_ #[37, 37] ty #[v, .slice (some ad) 1 1]).run Try.prog w = .ok v' w' ∧ Ls w' v' (l ++ [x]) ∧ Fr w w' (fun k => blk v = some k) ∧ ∀ g, blk v' = some g → blk v = some g ∨ w.heap.size ≤ g := by
  obtain ⟨i0, hi, hz0, hz1, hz2⟩ := info2
  have hnews : ∀ j u, ([Value.int .i64 x] : List Value)[j]? = some u → w.cell? (ad.add j) = some u := fun j u hj => by
    cases j with
    | zero => have e : u = .int .i64 x := by simpa using hj.symm
              subst e; rw [show ad.add 0 = ad by cases ad; simp [Addr.add]]; exact hx
    | succ j => simp at hj
  rcases h with ⟨rfl, rfl⟩ | ⟨g, off, cap, cur, rfl, hc, hn, ho, hi2⟩
  · obtain ⟨v', w', h1, h2, h3, _⟩ := run_append_own (P := Try.prog) w w.heap.size 37 ty 2 i0 (.int .i64 0) 1 8 Try.underlying37 hi hz0 hz1 hz2 rfl (by decide) (.slice none 0 0) 0 [] (World.ownsRow_nil w w.heap.size 2 1) ad 1 1 [.int .i64 x] rfl hnews (by simp [Value.oneCell']) (by unfold maxLen; omega) (by omega) (Nat.le_refl _)
    refine ⟨v', w', h1, ls_own (l := [x]) h2, ⟨h3.os, h3.tape, h3.output, h3.size, fun k hk _ => h3.block k hk (by intro e; cases e)⟩, fun g hg => ?_⟩
    right
    rcases h2 with ⟨_, ⟨_, e⟩ | ⟨s, cp, cr, e, hb, _⟩⟩
    · cases e
    · subst e; cases hg; exact hb
  · have hcell : ∀ j, w.cell? ⟨g, j, none⟩ = cur[j]? := fun j => cell_of_row w g j cur 2 (0, 0) hc
    have hfr : ∀ j, w.frozen? ⟨g, j, none⟩ = false := fun j => frozen_of_row w g j cur 2 hc
    by_cases hroom : l.length + 1 ≤ cap
    · have hr := run_append_room_cells (P := Try.prog) w 37 ty 2 i0 Try.underlying37 hi g off l.length cap ad 1 1 [.int .i64 x] (by simp [hz1]) hnews (by simp [Value.oneCell']) hroom
        (fun j hj => by rw [hcell, hz1]; have : j < 1 := hj; rw [Array.getElem?_eq_getElem (by omega)]; rfl) (fun j hj => hfr _)
      refine ⟨_, _, hr, .inr ⟨g, off, cap, cur.setIfInBounds (off + l.length) (.int .i64 x), by simp, ?_, by simp; omega, by simpa using ho, fun i hi' => ?_⟩, ?_, fun k hk => ?_⟩
      · rw [hz1, Nat.mul_one]
        exact Go.heap_setCell_same w g (off + l.length) cur 2 _ hc
      · rw [List.length_append] at hi'
        have hi'' : i < l.length + 1 := hi'
        rw [Array.getElem?_setIfInBounds]
        by_cases e : i = l.length
        · subst e
          rw [if_pos rfl, if_pos (by omega)]
          simp
        · rw [if_neg (by omega), hi2 i (by omega), List.getD_eq_getElem?_getD, List.getD_eq_getElem?_getD, List.getElem?_append_left (by omega)]
      · refine ⟨rfl, rfl, rfl, by simp [World.setCells, World.setCell], fun k hk n1 => ?_⟩
        exact Below.heap_setCell _ _ _ _ (fun e => n1 (by have e' : k = g := e; rw [e']; rfl))
      · left; cases hk; rfl
    · have holds : ∀ j u, (l.map (Value.int .i64))[j]? = some u → w.cell? ((⟨g, off, none⟩ : Addr).add j) = some u := fun j u hj => by
        rw [Go.WideShapes.add_plain, hcell]
        rw [List.getElem?_map] at hj
        have hjl : j < l.length := by
          by_cases h : j < l.length
          · exact h
          · rw [List.getElem?_eq_none (by omega)] at hj; cases hj
        rw [hi2 j hjl]
        rw [List.getElem?_eq_getElem hjl] at hj
        simpa [List.getD, hjl] using hj
      obtain ⟨v', w', h1, h2, h3⟩ := run_append_arg_grows (P := Try.prog) w 37 ty 2 i0 (.int .i64 0) 1 8 Try.underlying37 hi hz0 hz1 hz2 rfl (by decide) ⟨g, off, none⟩ l.length cap (l.map (Value.int .i64)) (by simp) holds ad 1 1 [.int .i64 x] rfl hnews (by omega) (by unfold maxLen; omega) (by omega)
      have ho2 : w'.ownsRow w.heap.size 2 1 v' (l ++ [x]).length ((l ++ [x]).map (Value.int .i64)) := by
        simp only [List.length_append, List.length_cons, List.length_nil, List.map_append, List.map_cons, List.map_nil]
        rcases h2 with ⟨e1, e2 | ⟨s, cp, cr, e, hb, r⟩⟩
        · exact ⟨e1, .inl e2⟩
        · exact ⟨e1, .inr ⟨s, cp, cr, e, by omega, r⟩⟩
      refine ⟨v', w', h1, ls_own ho2, ⟨h3.os, h3.tape, h3.output, h3.size, fun k hk _ => h3.block k hk (by intro e; cases e)⟩, fun k hk => ?_⟩
      right
      rcases ho2 with ⟨_, ⟨_, e⟩ | ⟨s, cp, cr, e, hb, _⟩⟩
      · simp at e
      · subst e; cases hk; exact hb
theorem wpList_append_run {P : Program} {w : World} {ops : Array Oper} {rest : List Oper} {o : Oper} {a : Act} {Q : Exit → Act → World → Prop}
    (hg : o.guard = none) (s x : Operand) (t : TypeId) (hop : o.op = Op.call { callee := Callee.builtin Builtin.append, args := #[s, x], argTypes := #[t, t] })
    (vs vx : Value) (hs : a.eval s = vs) (hx : a.eval x = vx) (v' : Value) (w' : World) (hrun : (Builtin.append_ #[t, t] o.type #[vs, vx]).run P w = .ok v' w')
    (hK : wpList P ops Q rest (a.put o.dst v') w') : wpList P ops Q (o :: rest) a w := by
  refine wpList_plain hg fun K hK' => ?_
  unfold Oper.wp
  simp [execOp, hop, resolve, invoke, builtin, hs, hx, hrun, Result.andThen]
  exact hK' _ _ hK
/-- the tail of it -/
theorem ls_tail {w : World} {g off cap : Nat} {x : Int} {l : List Int} (h : Ls w (.slice (some ⟨g, off, none⟩) (x :: l).length cap) (x :: l)) :
    (cap ≠ 1 → Ls w (.slice (some ⟨g, off + 1, none⟩) l.length (cap - 1)) l) ∧ (cap = 1 → l = [] ∧ Ls w (.slice (some ⟨g, off, none⟩) 0 0) l) ∧ l.length + 1 ≤ cap := by
  rcases h with ⟨h, _⟩ | ⟨g', off', cap', cur, e, hc, hn, ho, hi⟩
  · cases h
  · cases e
    have hn' : l.length + 1 ≤ cap := hn
    refine ⟨fun _ => .inr ⟨g, off + 1, cap - 1, cur, rfl, hc, by omega, by omega, fun i hi' => ?_⟩, fun e => ?_, hn'⟩
    · have := hi (i + 1) (by simp; omega)
      rw [show off + 1 + i = off + (i + 1) by omega, this]; rfl
    · have h0 : l = [] := List.eq_nil_of_length_eq_zero (by omega)
      exact ⟨h0, .inr ⟨g, off, 0, cur, by subst h0; rfl, hc, by subst h0; simp, by omega, fun i hi' => by subst h0; simp at hi'⟩⟩
set_option maxHeartbeats 1000000 in
theorem same_any (la lb : List Int) (a b : Option Addr) (na nb ca cb : Nat) (w : World) (ha : ∀ i, i < la.length → ∃ g o, a = some ⟨g, o, none⟩ ∧ w.cell? ⟨g, o + i, none⟩ = some (.int .i64 (la.getD i 0))) (hb : ∀ i, i < la.length → ∃ g o, b = some ⟨g, o, none⟩ ∧ w.cell? ⟨g, o + i, none⟩ = some (.int .i64 (la.getD i 0))) (h1 : na = la.length) (h2 : nb = la.length) (hl : la.length ≤ 9223372036854775807) :
    Calls Try.prog 15 #[.slice a na ca, .slice b nb cb] w fun e w' => e = .returned (.bool true) ∧ ∃ m, w' = w.drewN m := by
  subst h1 h2
  go_enter Try.func15, Try.ntmps15
  go_wp2
  go_loopw [5] (fun k wr => ∃ n m : Nat, n ≤ la.length ∧ k = .int .i64 n ∧ wr = w.drewN m) (fun k wr => la.length - (intOf k).toNat)
  case atStart => exact ⟨0, 0, by omega, rfl, rfl⟩
  case round =>
    obtain ⟨n, m, hn, rfl, rfl⟩ := hrel
    by_cases hlt : n < la.length
    · obtain ⟨b1, o1, rfl, c1⟩ := ha n hlt
      obtain ⟨b2, o2, rfl, c2⟩ := hb n hlt
      clear ha hb
      generalize la.getD n 0 = X at c1 c2
      have hi : (n : Int) < (la.length : Int) := by omega
      have hi0 : (0 : Int) ≤ (n : Int) := by omega
      go_wp2
      go_quiet (fail)
      go_wp2
      exact ⟨⟨n + 1, m + nq, by omega, by go_num, rfl⟩, by simp [intOf]; omega⟩
    · go_wp2
      go_ret
      exact ⟨rfl, m, rfl⟩
end Go.Proofs.Ytldobbdaokjgaaa
