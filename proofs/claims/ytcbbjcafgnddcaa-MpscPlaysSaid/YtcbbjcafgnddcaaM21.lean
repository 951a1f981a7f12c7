/- The reference: its blocks, and what New and Begin come to. -/
import Derived.Test.YtcbbjcafgnddcaaM13
namespace Go.Proofs.Ytcbbjcafgnddcaa
open Go.RowKit Go.Shelf
set_option linter.unusedVariables false
set_option linter.unusedSimpArgs false
/-- a number in a list is written -/
theorem ls_setc {w : World} {g off n cap : Nat} {l : List Int} (h : Ls w (.slice (some ⟨g, off, none⟩) n cap) l) (i : Nat) (x : Int) (hi : i < l.length) :
    Ls (w.setCell ⟨g, off + i, none⟩ (.int .i64 x)) (.slice (some ⟨g, off, none⟩) n cap) (l.set i x) := by
  rcases h with ⟨h0, _⟩ | ⟨g', off', cap', cur, e, hc, hn, ho, hi2⟩
  · cases h0
  · cases e
    refine .inr ⟨g, off, cap, _, by rw [List.length_set], Go.heap_setCell_same w g (off + i) cur 2 _ hc, by rw [List.length_set]; exact hn, by simpa using ho, fun j hj => ?_⟩
    rw [List.length_set] at hj
    rw [Array.getElem?_setIfInBounds]
    by_cases e : j = i
    · subst e
      rw [if_pos rfl, if_pos (by omega)]
      simp [List.getD, hi]
    · rw [if_neg (by omega), hi2 j hj]
      simp [List.getD, List.getElem?_set, Ne.symm e]
theorem ls_fz {w : World} {g off n cap : Nat} {l : List Int} (h : Ls w (.slice (some ⟨g, off, none⟩) n cap) l) (j : Nat) : w.frozen? ⟨g, j, none⟩ = false := by
  rcases h with ⟨h0, _⟩ | ⟨g', off', cap', cur, e, hc, hn, ho, hi2⟩
  · cases h0
  · cases e; exact frozen_of_row w g j cur 2 hc
/-- the list of a function's values -/
def rl (n : Nat) (f : Nat → Int) : List Int := (List.range n).map f
theorem rl_len (n : Nat) (f : Nat → Int) : (rl n f).length = n := by simp [rl]
theorem rl_get (n : Nat) (f : Nat → Int) (i : Nat) (hi : i < n) : (rl n f).getD i 0 = f i := by simp [rl, List.getD, hi]
theorem rl_set (n : Nat) (f : Nat → Int) (i : Nat) (x : Int) (hi : i < n) : (rl n f).set i x = rl n (fun j => if j = i then x else f j) := by
  apply List.ext_getElem
  · simp [rl]
  · intro j h1 h2
    rw [List.getElem_set]
    simp only [rl, List.getElem_map, List.getElem_range]
    by_cases e : i = j
    · subst e; simp
    · rw [if_neg e, if_neg (Ne.symm e)]
theorem rl_snoc (n : Nat) (f : Nat → Int) (x : Int) : rl n f ++ [x] = rl (n + 1) (fun j => if j = n then x else f j) := by
  unfold rl
  rw [List.range_succ, List.map_append]
  congr 1
  · exact List.map_congr_left (fun j hj => by rw [if_neg (by have := List.mem_range.1 hj; omega)])
  · simp
theorem rl_congr {n : Nat} {f g : Nat → Int} (h : ∀ i, i < n → f i = g i) : rl n f = rl n g := List.map_congr_left (fun i hi => h i (List.mem_range.1 hi))
/-- the reference's five cells -/
def hd5 (vv vn : Value) (h t g : Nat) (j : Nat) : Value :=
  if j = 0 then vv else if j = 1 then vn else if j = 2 then .int .i64 h else if j = 3 then .int .i64 t else .slice (some ⟨g, 0, none⟩) 8 8
/-- the threads' cells -/
def tc4f (th : Nat → T) (j : Nat) : Value :=
  if j % 4 = 0 then .bool (th (j / 4)).on else if j % 4 = 1 then .int .i64 (th (j / 4)).made else if j % 4 = 2 then .int .i64 (th (j / 4)).node else .int .i64 (th (j / 4)).prev
/-- the reference's blocks -/
def S0 (c g : Nat) (vv vn : Value) (k : Nat) : Prop := k = c ∨ k = g ∨ blk vv = some k ∨ blk vn = some k
structure Rf (w : World) (c g : Nat) (vv vn : Value) (q : Q) : Prop where
  s : w.rowIs c 51 5 (hd5 vv vn q.head q.tail g)
  t : w.rowIs g 48 32 (tc4f q.th)
  lv : Ls w vv (rl q.n q.v)
  ln : Ls w vn (rl q.n (fun i => (q.nx i : Int)))
  cg : c ≠ g
  dv : ∀ k, blk vv = some k → k ≠ c ∧ k ≠ g ∧ blk vn ≠ some k
  dn : ∀ k, blk vn = some k → k ≠ c ∧ k ≠ g ∧ blk vv ≠ some k
section
variable {w w1 : World} {c g : Nat} {vv vn : Value} {q : Q}
theorem Rf.frame (h : Rf w c g vv vn q) {S' : Nat → Prop} (f : Fr w w1 S') (hS : ∀ k, S0 c g vv vn k → ¬ S' k) : Rf w1 c g vv vn q :=
  { h with
    s := row_fr h.s f (hS _ (.inl rfl))
    t := row_fr h.t f (hS _ (.inr (.inl rfl)))
    lv := h.lv.of (fun k e hk => f.block k hk (hS _ (.inr (.inr (.inl e)))))
    ln := h.ln.of (fun k e hk => f.block k hk (hS _ (.inr (.inr (.inr e))))) }
theorem Rf.same (h : Rf w c g vv vn q) (e : w1.heap = w.heap) : Rf w1 c g vv vn q :=
  { h with s := h.s.of_block (by rw [e]), t := h.t.of_block (by rw [e]), lv := h.lv.of (fun k _ _ => by rw [e]), ln := h.ln.of (fun k _ _ => by rw [e]) }
theorem Rf.below (h : Rf w c g vv vn q) (f : Below w.heap.size w w1) : Rf w1 c g vv vn q :=
  { h with s := row_below h.s f h.s.lt, t := row_below h.t f h.t.lt, lv := h.lv.below f, ln := h.ln.below f }
theorem Rf.alloc (h : Rf w c g vv vn q) (o : Obj) : Rf (w.alloc o) c g vv vn q := h.below ((Below.refl w.heap.size w).alloc (Nat.le_refl _) o)
theorem Rf.hi (h : Rf w c g vv vn q) : ∀ k, S0 c g vv vn k → k < w.heap.size := by
  intro k hk
  rcases hk with rfl | rfl | e | e
  · exact h.s.lt
  · exact h.t.lt
  · exact ls_lt h.lv e
  · exact ls_lt h.ln e
theorem Rf.c0 (h : Rf w c g vv vn q) : w.cell? ⟨c, 0, none⟩ = some vv := row_val h.s (by omega) rfl
theorem Rf.c1 (h : Rf w c g vv vn q) : w.cell? ⟨c, 1, none⟩ = some vn := row_val h.s (by omega) rfl
theorem Rf.c2 (h : Rf w c g vv vn q) : w.cell? ⟨c, 2, none⟩ = some (.int .i64 q.head) := row_val h.s (by omega) rfl
theorem Rf.c3 (h : Rf w c g vv vn q) : w.cell? ⟨c, 3, none⟩ = some (.int .i64 q.tail) := row_val h.s (by omega) rfl
theorem Rf.c4 (h : Rf w c g vv vn q) : w.cell? ⟨c, 4, none⟩ = some (.slice (some ⟨g, 0, none⟩) 8 8) := row_val h.s (by omega) rfl
theorem Rf.fc (h : Rf w c g vv vn q) (i : Nat) : w.frozen? ⟨c, i, none⟩ = false := World.rowIs.frozen h.s i
theorem Rf.fg (h : Rf w c g vv vn q) (i : Nat) : w.frozen? ⟨g, i, none⟩ = false := World.rowIs.frozen h.t i
theorem Rf.t0 (h : Rf w c g vv vn q) (k : Nat) (hk : k < 8) : w.cell? ⟨g, k * 4, none⟩ = some (.bool (q.th k).on) := by
  refine row_val h.t (by omega) ?_
  unfold tc4f; rw [if_pos (by omega), show k * 4 / 4 = k by omega]
theorem Rf.t1 (h : Rf w c g vv vn q) (k : Nat) (hk : k < 8) : w.cell? ⟨g, k * 4 + 1, none⟩ = some (.int .i64 (q.th k).made) := by
  refine row_val h.t (by omega) ?_
  unfold tc4f; rw [if_neg (by omega), if_pos (by omega), show (k * 4 + 1) / 4 = k by omega]
theorem Rf.t2 (h : Rf w c g vv vn q) (k : Nat) (hk : k < 8) : w.cell? ⟨g, k * 4 + 2, none⟩ = some (.int .i64 (q.th k).node) := by
  refine row_val h.t (by omega) ?_
  unfold tc4f; rw [if_neg (by omega), if_neg (by omega), if_pos (by omega), show (k * 4 + 2) / 4 = k by omega]
theorem Rf.t3 (h : Rf w c g vv vn q) (k : Nat) (hk : k < 8) : w.cell? ⟨g, k * 4 + 3, none⟩ = some (.int .i64 (q.th k).prev) := by
  refine row_val h.t (by omega) ?_
  unfold tc4f; rw [if_neg (by omega), if_neg (by omega), if_neg (by omega), show (k * 4 + 3) / 4 = k by omega]
theorem Rf.nv (h : Rf w c g vv vn q) : ∃ a cap, vv = .slice a q.n cap := by
  obtain ⟨a, cap, e⟩ := ls_slice h.lv
  exact ⟨a, cap, by rw [e, rl_len]⟩
theorem Rf.nn (h : Rf w c g vv vn q) : ∃ a cap, vn = .slice a q.n cap := by
  obtain ⟨a, cap, e⟩ := ls_slice h.ln
  exact ⟨a, cap, by rw [e, rl_len]⟩
/-- a thread's four cells -/
def set4 (w : World) (g k : Nat) (t : T) : World := (((w.setCell ⟨g, k * 4, none⟩ (.bool t.on)).setCell ⟨g, k * 4 + 1, none⟩ (.int .i64 t.made)).setCell ⟨g, k * 4 + 2, none⟩ (.int .i64 t.node)).setCell ⟨g, k * 4 + 3, none⟩ (.int .i64 t.prev)
theorem fr_set4 (w : World) (g k : Nat) (t : T) (S : Nat → Prop) (h : S g) : Fr w (set4 w g k t) S :=
  (((fr_set w S g _ _ h).trans' (fr_set _ S g _ _ h)).trans' (fr_set _ S g _ _ h)).trans' (fr_set _ S g _ _ h)
theorem Rf.set4 (h : Rf w c g vv vn q) (k : Nat) (hk : k < 8) (t : T) : Rf (set4 w g k t) c g vv vn (q.set k t) := by
  have f : Fr w (Ytcbbjcafgnddcaa.set4 w g k t) (fun b => b = g) := fr_set4 w g k t _ rfl
  refine { h with s := row_fr h.s f h.cg, t := ?_, lv := h.lv.of (fun x e hx => f.block x hx (h.dv x e).2.1), ln := h.ln.of (fun x e hx => f.block x hx (h.dn x e).2.1) }
  refine ((((h.t.set _ _).set _ _).set _ _).set _ _).congr (fun i hi => ?_)
  unfold tc4f Q.set
  dsimp only
  by_cases e : i / 4 = k
  · rw [if_pos e]
    have h4 : i = k * 4 ∨ i = k * 4 + 1 ∨ i = k * 4 + 2 ∨ i = k * 4 + 3 := by omega
    rcases h4 with e | e | e | e
    · rw [if_neg (by omega), if_neg (by omega), if_neg (by omega), if_pos e, if_pos (by omega)]
    · rw [if_neg (by omega), if_neg (by omega), if_pos e, if_neg (by omega), if_pos (by omega)]
    · rw [if_neg (by omega), if_pos e, if_neg (by omega), if_neg (by omega), if_pos (by omega)]
    · rw [if_pos e, if_neg (by omega), if_neg (by omega), if_neg (by omega)]
  · rw [if_neg e, if_neg (by omega), if_neg (by omega), if_neg (by omega), if_neg (by omega)]
theorem Rf.setHead (h : Rf w c g vv vn q) (i : Nat) : Rf (w.setCell ⟨c, 2, none⟩ (.int .i64 i)) c g vv vn { q with head := i } := by
  have f : Fr w (w.setCell ⟨c, 2, none⟩ (.int .i64 i)) (fun b => b = c) := fr_set w _ c 2 _ rfl
  refine { h with s := ?_, t := row_fr h.t f (Ne.symm h.cg), lv := h.lv.of (fun x e hx => f.block x hx (h.dv x e).1), ln := h.ln.of (fun x e hx => f.block x hx (h.dn x e).1) }
  exact (h.s.set 2 _).congr (fun j hj => by match j, hj with | 0, _ => rfl | 1, _ => rfl | 2, _ => rfl | 3, _ => rfl | 4, _ => rfl)
theorem Rf.setTail (h : Rf w c g vv vn q) (i : Nat) : Rf (w.setCell ⟨c, 3, none⟩ (.int .i64 i)) c g vv vn { q with tail := i } := by
  have f : Fr w (w.setCell ⟨c, 3, none⟩ (.int .i64 i)) (fun b => b = c) := fr_set w _ c 3 _ rfl
  refine { h with s := ?_, t := row_fr h.t f (Ne.symm h.cg), lv := h.lv.of (fun x e hx => f.block x hx (h.dv x e).1), ln := h.ln.of (fun x e hx => f.block x hx (h.dn x e).1) }
  exact (h.s.set 3 _).congr (fun j hj => by match j, hj with | 0, _ => rfl | 1, _ => rfl | 2, _ => rfl | 3, _ => rfl | 4, _ => rfl)
/-- a next one is written -/
theorem Rf.setNx {gn on capn : Nat} (h : Rf w c g vv (.slice (some ⟨gn, on, none⟩) q.n capn) q) (i : Nat) (hi : i < q.n) (k : Nat) : Rf (w.setCell ⟨gn, on + i, none⟩ (.int .i64 k)) c g vv (.slice (some ⟨gn, on, none⟩) q.n capn) { q with nx := fun j => if j = i then k else q.nx j } := by
  have f : Fr w (w.setCell ⟨gn, on + i, none⟩ (.int .i64 k)) (fun b => b = gn) := fr_set w _ gn _ _ rfl
  have d := h.dn gn rfl
  refine { h with s := row_fr h.s f (Ne.symm d.1), t := row_fr h.t f (Ne.symm d.2.1), lv := h.lv.of (fun x e hx => f.block x hx (fun e' => (h.dv x e).2.2 (by rw [e']; rfl))), ln := ?_ }
  have := ls_setc h.ln i k (by rw [rl_len]; exact hi)
  rw [rl_set _ _ _ _ hi] at this
  refine this |> fun x => ?_
  have e : rl q.n (fun j => if j = i then (k : Int) else (q.nx j : Int)) = rl q.n (fun j => ((if j = i then k else q.nx j : Nat) : Int)) := rl_congr (fun j _ => by split <;> rfl)
  rw [e] at x
  exact x
end
end Go.Proofs.Ytcbbjcafgnddcaa
