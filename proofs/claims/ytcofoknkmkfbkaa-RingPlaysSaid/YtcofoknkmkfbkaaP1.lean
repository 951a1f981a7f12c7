/- A ring of numbers: its block and its row, and what place, room, out and New come to. -/
import Derived.Test.YtcofoknkmkfbkaaK
namespace Go.Proofs.Ytcofoknkmkfbkaa
open Go.RowKit
set_option linter.unusedVariables false
set_option linter.unusedSimpArgs false

/-- nothing turned but the blocks b and d -/
structure Ch (w w' : World) (b d : Nat) : Prop where
  os : w'.os = w.os
  tape : w'.tape = w.tape
  output : w'.output = w.output
  size : w.heap.size ≤ w'.heap.size
  block : ∀ k, k < w.heap.size → k ≠ b → k ≠ d → w'.heap[k]? = w.heap[k]?
theorem Ch.refl (w : World) (b d : Nat) : Ch w w b d := ⟨rfl, rfl, rfl, Nat.le_refl _, fun _ _ _ _ => rfl⟩
theorem Ch.trans {x y z : World} {b d : Nat} (h : Ch x y b d) (g : Ch y z b d) : Ch x z b d :=
  ⟨g.os.trans h.os, g.tape.trans h.tape, g.output.trans h.output, Nat.le_trans h.size g.size, fun k hk n1 n2 => (g.block k (Nat.lt_of_lt_of_le hk h.size) n1 n2).trans (h.block k hk n1 n2)⟩
theorem Ch.below {x y : World} {b d : Nat} (h : Ch x y b d) {B : Nat} (hB : B ≤ x.heap.size) (hb : B ≤ b) (hd : B ≤ d) : Below B x y :=
  ⟨h.os, h.tape, h.output, h.size, fun k hk => h.block k (by omega) (by omega) (by omega)⟩
theorem ch_b (w : World) (b d o : Nat) (v : Value) : Ch w (w.setCell ⟨b, o, none⟩ v) b d := ⟨rfl, rfl, rfl, by simp [World.setCell], fun k hk n1 _ => Below.heap_setCell _ _ _ _ n1⟩
theorem ch_d (w : World) (b d o : Nat) (v : Value) : Ch w (w.setCell ⟨d, o, none⟩ v) b d := ⟨rfl, rfl, rfl, by simp [World.setCell], fun k hk _ n2 => Below.heap_setCell _ _ _ _ n2⟩
theorem ch_drewN (w : World) (b d n : Nat) : Ch w (w.drewN n) b d := ⟨rfl, rfl, rfl, Nat.le_refl _, fun _ _ _ _ => rfl⟩
theorem ch_drew (w : World) (b d : Nat) : Ch w w.drew b d := ⟨rfl, rfl, rfl, Nat.le_refl _, fun _ _ _ _ => rfl⟩
theorem row_ch {w w' : World} {b d k : Nat} {t : TypeId} {n : Nat} {f : Nat → Value} (h : w.rowIs k t n f) (g : Ch w w' b d) (h1 : k ≠ b) (h2 : k ≠ d) : w'.rowIs k t n f :=
  h.of_block (g.block k h.lt h1 h2)

def rc (d N f c : Nat) (i : Nat) : Value := if i = 0 then .slice (some ⟨d, 0, none⟩) N N else if i = 1 then .int .i64 f else .int .i64 c
structure Raw (w : World) (b d N f c : Nat) (ar : Nat → Int) : Prop where
  s : w.rowIs b 64 3 (rc d N f c)
  a : w.rowIs d 3 N (fun i => .int .i64 (ar i))
  ne : b ≠ d
  n1 : 1 ≤ N
  n2 : N ≤ 4096
  fN : f < N
  cN : c ≤ N
section
variable {w w1 : World} {b d N f c : Nat} {ar : Nat → Int}
theorem Raw.things (h : Raw w b d N f c ar) : w.cell? ⟨b, 0, none⟩ = some (.slice (some ⟨d, 0, none⟩) N N) := row_val h.s (by omega) rfl
theorem Raw.first (h : Raw w b d N f c ar) : w.cell? ⟨b, 1, none⟩ = some (.int .i64 f) := row_val h.s (by omega) rfl
theorem Raw.count (h : Raw w b d N f c ar) : w.cell? ⟨b, 2, none⟩ = some (.int .i64 c) := row_val h.s (by omega) rfl
theorem Raw.at_ (h : Raw w b d N f c ar) (i : Nat) (hi : i < N) : w.cell? ⟨d, i, none⟩ = some (.int .i64 (ar i)) := row_val h.a hi rfl
theorem Raw.frozB (h : Raw w b d N f c ar) (i : Nat) : w.frozen? ⟨b, i, none⟩ = false := World.rowIs.frozen h.s i
theorem Raw.frozD (h : Raw w b d N f c ar) (i : Nat) : w.frozen? ⟨d, i, none⟩ = false := World.rowIs.frozen h.a i
theorem Raw.same (h : Raw w b d N f c ar) (e : w1.heap = w.heap) : Raw w1 b d N f c ar := { h with s := h.s.of_block (by rw [e]), a := h.a.of_block (by rw [e]) }
theorem Raw.drewN (h : Raw w b d N f c ar) (k : Nat) : Raw (w.drewN k) b d N f c ar := { h with s := h.s, a := h.a }
theorem Raw.drew (h : Raw w b d N f c ar) : Raw w.drew b d N f c ar := { h with s := h.s, a := h.a }
theorem Raw.ch (h : Raw w b d N f c ar) {b' d' : Nat} (g : Ch w w1 b' d') (h1 : b ≠ b') (h2 : b ≠ d') (h3 : d ≠ b') (h4 : d ≠ d') : Raw w1 b d N f c ar := { h with s := row_ch h.s g h1 h2, a := row_ch h.a g h3 h4 }
theorem Raw.below (h : Raw w b d N f c ar) {B : Nat} (g : Below B w w1) (h1 : b < B) (h2 : d < B) : Raw w1 b d N f c ar := { h with s := row_below h.s g h1, a := row_below h.a g h2 }
theorem Raw.setA (h : Raw w b d N f c ar) (p : Nat) (x : Int) : Raw (w.setCell ⟨d, p, none⟩ (.int .i64 x)) b d N f c (fun i => if i = p then x else ar i) :=
  { h with s := h.s.setOther h.ne _, a := (h.a.set _ _).congr (fun i hi => by by_cases e : i = p <;> simp [e]) }
theorem Raw.setF (h : Raw w b d N f c ar) (x : Nat) (hx : x < N) : Raw (w.setCell ⟨b, 1, none⟩ (.int .i64 x)) b d N x c ar :=
  { h with s := (h.s.set _ _).congr (fun i hi => by unfold rc; match i, hi with | 0, _ => rfl | 1, _ => rfl | 2, _ => rfl), a := h.a.setOther h.ne.symm _, fN := hx }
theorem Raw.setC (h : Raw w b d N f c ar) (x : Nat) (hx : x ≤ N) : Raw (w.setCell ⟨b, 2, none⟩ (.int .i64 x)) b d N f x ar :=
  { h with s := (h.s.set _ _).congr (fun i hi => by unfold rc; match i, hi with | 0, _ => rfl | 1, _ => rfl | 2, _ => rfl), a := h.a.setOther h.ne.symm _, cN := hx }
end
def capN (s : Int) : Nat := if s < 1 then 1 else if s ≤ 4096 then s.toNat else 4096
theorem capN_lo (s : Int) : 1 ≤ capN s := by unfold capN; split; omega; split <;> omega
theorem capN_hi (s : Int) : capN s ≤ 4096 := by unfold capN; split; omega; split <;> omega
def I64 (x : Int) : Prop := -9223372036854775808 ≤ x ∧ x ≤ 9223372036854775807

theorem zero64 (w : World) : (zeroValue 64).run Try.prog w = .ok (.agg #[.slice none 0 0, .int .i64 0, .int .i64 0]) w := by kernel_rfl
theorem info3 : ∃ i0 : TypeInfo, Try.prog.info? 3 = some i0 ∧ i0.zero = some (.int .i64 0) ∧ i0.size = 1 ∧ i0.bytes = 8 := by
  have h : (Try.prog.info? 3).map (fun i => (i.zero, i.size, i.bytes)) = some (some (.int .i64 0), 1, 8) := by kernel_rfl
  obtain ⟨i0, h1, h2⟩ := Option.map_eq_some_iff.1 h
  simp only [Prod.mk.injEq] at h2
  exact ⟨i0, h1, h2.1, h2.2.1, h2.2.2⟩
set_option maxRecDepth 100000 in
set_option maxHeartbeats 1000000 in
theorem new_any (s : Int) (w : World) (hs : I64 s) :
    Calls Try.prog 10 #[.int .i64 s] w fun e w' => e = .returned (.pointer (some ⟨w.heap.size + 1, 0, none⟩)) ∧ Raw w' (w.heap.size + 1) w.heap.size (capN s) 0 0 (fun _ => 0) ∧ w.grownBy w' none := by
  obtain ⟨i0, hi, hz0, hz1, hz2⟩ : ∃ i0 : TypeInfo, Try.prog.info? 3 = some i0 ∧ i0.zero = some (.int .i64 0) ∧ i0.size = 1 ∧ i0.bytes = 8 := info3
  have hmk : ∀ w, (Instr.makeSlice 22 (.int .i64 (capN s)) (.int .i64 (capN s))).run Try.prog w = .ok (.slice (some ⟨w.heap.size, 0, none⟩) (capN s) (capN s)) (w.alloc (.cells (madeCells #[.int .i64 0] (capN s)) 3)) := fun w => by
    have := run_make w 22 3 i0 (.int .i64 0) Try.underlying22 hi hz0 .i64 .i64 (capN s) (capN s) (by omega) (Int.le_refl _) (by have := capN_hi s; rw [hz2]; omega) (by have := capN_hi s; omega)
    simpa [hz1, Value.cells] using this
  have hfin : Raw ((w.alloc (.cells (madeCells #[.int .i64 0] (capN s)) 3)).alloc (.cells #[.slice (some ⟨w.heap.size, 0, none⟩) (capN s) (capN s), .int .i64 0, .int .i64 0] 64)) (w.heap.size + 1) w.heap.size (capN s) 0 0 (fun _ => 0) := by
    refine ⟨?_, World.rowIs.alloc (World.rowIs_made _ _ _ _) _, by omega, capN_lo s, capN_hi s, capN_lo s, Nat.zero_le _⟩
    have := row_new (w.alloc (.cells (madeCells #[.int .i64 0] (capN s)) 3)) #[.slice (some ⟨w.heap.size, 0, none⟩) (capN s) (capN s), .int .i64 0, .int .i64 0] 64 3 (rc w.heap.size (capN s) 0 0) rfl (fun i hi => by match i, hi with | 0, _ => rfl | 1, _ => rfl | 2, _ => rfl)
    simpa using this
  have HF := Lib.hid hfin
  have hz := zero64
  clear hi hfin
  have hN : ∃ c : Int, c = capN s ∧ ((s < 1 ∧ c = 1) ∨ (s = c ∧ 1 ≤ c ∧ c ≤ 4096) ∨ (1 ≤ s ∧ 4096 < s ∧ c = 4096)) := by
    unfold capN
    by_cases h1 : s < 1
    · exact ⟨1, by simp [h1], .inl ⟨h1, rfl⟩⟩
    · by_cases h2 : s ≤ 4096
      · exact ⟨s, by simp [h1, h2]; omega, .inr (.inl ⟨rfl, by omega, h2⟩)⟩
      · exact ⟨4096, by simp [h1, h2], .inr (.inr ⟨by omega, by omega, rfl⟩)⟩
  obtain ⟨c, hc, hN⟩ := hN
  rw [← hc] at hmk
  generalize capN s = C at *
  clear hc
  rcases hN with ⟨h1, rfl⟩ | ⟨rfl, h1, h2⟩ | ⟨h1, h2, rfl⟩
  all_goals
    go_enter Try.func10, Try.ntmps10
    go_wp2
    go_ret
    exact ⟨by simp, HF.out, gb_trans (gb_alloc _ _ _) (gb_alloc _ _ _)⟩
end Go.Proofs.Ytcofoknkmkfbkaa
