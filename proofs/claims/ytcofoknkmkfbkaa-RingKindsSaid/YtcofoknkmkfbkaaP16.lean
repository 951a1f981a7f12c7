/- A ring of pairs as a list. -/
import Derived.Test.YtcofoknkmkfbkaaP3
namespace Go.Proofs.Ytcofoknkmkfbkaa.D
open Go.RowKit
set_option linter.unusedVariables false
set_option linter.unusedSimpArgs false
def pc (ar : Nat → Int × Int) (i : Nat) : Value := if i % 2 = 0 then .int .i64 (ar (i / 2)).1 else .int .i64 (ar (i / 2)).2
theorem ch_alloc (w : World) (b d : Nat) (o : Obj) : Ch w (w.alloc o) b d := ⟨rfl, rfl, rfl, by simp, fun k hk _ _ => Below.heap_alloc w o k hk⟩
def rc (d N f c : Nat) (i : Nat) : Value := if i = 0 then .slice (some ⟨d, 0, none⟩) N N else if i = 1 then .int .i64 f else .int .i64 c
structure Raw (w : World) (b d N f c : Nat) (ar : Nat → Int × Int) : Prop where
  s : w.rowIs b 72 3 (rc d N f c)
  a : w.rowIs d 40 (N * 2) (pc ar)
  ne : b ≠ d
  n1 : 1 ≤ N
  n2 : N ≤ 4096
  fN : f < N
  cN : c ≤ N
section
variable {w w1 : World} {b d N f c : Nat} {ar : Nat → Int × Int}
theorem Raw.things (h : Raw w b d N f c ar) : w.cell? ⟨b, 0, none⟩ = some (.slice (some ⟨d, 0, none⟩) N N) := row_val h.s (by omega) rfl
theorem Raw.first (h : Raw w b d N f c ar) : w.cell? ⟨b, 1, none⟩ = some (.int .i64 f) := row_val h.s (by omega) rfl
theorem Raw.count (h : Raw w b d N f c ar) : w.cell? ⟨b, 2, none⟩ = some (.int .i64 c) := row_val h.s (by omega) rfl
theorem Raw.at0 (h : Raw w b d N f c ar) (i : Nat) (hi : i < N) : w.cell? ⟨d, i * 2, none⟩ = some (.int .i64 (ar i).1) := row_val h.a (by omega) (by unfold pc; rw [if_pos (by omega), show i * 2 / 2 = i by omega])
theorem Raw.at1 (h : Raw w b d N f c ar) (i : Nat) (hi : i < N) : w.cell? ⟨d, i * 2 + 1, none⟩ = some (.int .i64 (ar i).2) := row_val h.a (by omega) (by unfold pc; rw [if_neg (by omega), show (i * 2 + 1) / 2 = i by omega])
theorem Raw.frozB (h : Raw w b d N f c ar) (i : Nat) : w.frozen? ⟨b, i, none⟩ = false := World.rowIs.frozen h.s i
theorem Raw.frozD (h : Raw w b d N f c ar) (i : Nat) : w.frozen? ⟨d, i, none⟩ = false := World.rowIs.frozen h.a i
theorem Raw.same (h : Raw w b d N f c ar) (e : w1.heap = w.heap) : Raw w1 b d N f c ar := { h with s := h.s.of_block (by rw [e]), a := h.a.of_block (by rw [e]) }
theorem Raw.drewN (h : Raw w b d N f c ar) (k : Nat) : Raw (w.drewN k) b d N f c ar := { h with s := h.s, a := h.a }
theorem Raw.drew (h : Raw w b d N f c ar) : Raw w.drew b d N f c ar := { h with s := h.s, a := h.a }
theorem Raw.ch (h : Raw w b d N f c ar) {b' d' : Nat} (g : Ch w w1 b' d') (h1 : b ≠ b') (h2 : b ≠ d') (h3 : d ≠ b') (h4 : d ≠ d') : Raw w1 b d N f c ar := { h with s := row_ch h.s g h1 h2, a := row_ch h.a g h3 h4 }
theorem Raw.below (h : Raw w b d N f c ar) {B : Nat} (g : Below B w w1) (h1 : b < B) (h2 : d < B) : Raw w1 b d N f c ar := { h with s := row_below h.s g h1, a := row_below h.a g h2 }
theorem Raw.setA (h : Raw w b d N f c ar) (p : Nat) (x : Int × Int) : Raw ((w.setCell ⟨d, p * 2, none⟩ (.int .i64 x.1)).setCell ⟨d, p * 2 + 1, none⟩ (.int .i64 x.2)) b d N f c (fun i => if i = p then x else ar i) :=
  { h with s := (h.s.setOther h.ne _).setOther h.ne _, a := ((h.a.set _ _).set _ _).congr (fun i hi => by
      unfold pc
      dsimp only
      by_cases e1 : i = p * 2 + 1
      · subst e1; rw [if_pos rfl, if_neg (by omega), if_pos (by omega)]
      · by_cases e2 : i = p * 2
        · subst e2; rw [if_neg (by omega), if_pos rfl, if_pos (by omega), if_pos (by omega)]
        · rw [if_neg e1, if_neg e2]
          by_cases e3 : i % 2 = 0
          · rw [if_pos e3, if_pos e3, if_neg (by omega)]
          · rw [if_neg e3, if_neg e3, if_neg (by omega)]) }
theorem Raw.setOther (h : Raw w b d N f c ar) {k : Nat} (h1 : b ≠ k) (h2 : d ≠ k) (o : Nat) (v : Value) : Raw (w.setCell ⟨k, o, none⟩ v) b d N f c ar := { h with s := h.s.setOther h1 v, a := h.a.setOther h2 v }
theorem Raw.alloc (h : Raw w b d N f c ar) (o : Obj) : Raw (w.alloc o) b d N f c ar := { h with s := h.s.alloc o, a := h.a.alloc o }
theorem Raw.setF (h : Raw w b d N f c ar) (x : Nat) (hx : x < N) : Raw (w.setCell ⟨b, 1, none⟩ (.int .i64 x)) b d N x c ar :=
  { h with s := (h.s.set _ _).congr (fun i hi => by unfold rc; match i, hi with | 0, _ => rfl | 1, _ => rfl | 2, _ => rfl), a := h.a.setOther h.ne.symm _, fN := hx }
theorem Raw.setC (h : Raw w b d N f c ar) (x : Nat) (hx : x ≤ N) : Raw (w.setCell ⟨b, 2, none⟩ (.int .i64 x)) b d N f x ar :=
  { h with s := (h.s.set _ _).congr (fun i hi => by unfold rc; match i, hi with | 0, _ => rfl | 1, _ => rfl | 2, _ => rfl), a := h.a.setOther h.ne.symm _, cN := hx }
end
theorem zero64 (w : World) : (zeroValue 72).run Try.prog w = .ok (.agg #[.slice none 0 0, .int .i64 0, .int .i64 0]) w := by kernel_rfl
theorem info40 : ∃ i0 : TypeInfo, Try.prog.info? 40 = some i0 ∧ i0.zero = some (.agg #[.int .i64 0, .int .i64 0]) ∧ i0.size = 2 ∧ i0.bytes = 16 := by
  have h : (Try.prog.info? 40).map (fun i => (i.zero, i.size, i.bytes)) = some (some (.agg #[.int .i64 0, .int .i64 0]), 2, 16) := by kernel_rfl
  obtain ⟨i0, h1, h2⟩ := Option.map_eq_some_iff.1 h
  simp only [Prod.mk.injEq] at h2
  exact ⟨i0, h1, h2.1, h2.2.1, h2.2.2⟩
theorem made2 (w : World) (n : Nat) : (w.alloc (.cells (madeCells #[.int .i64 0, .int .i64 0] (n * 2)) 40)).rowIs w.heap.size 40 (n * 2) (pc (fun _ => (0, 0))) := by
  refine row_new _ _ _ _ _ (size_madeCells _ _) (fun i hi => ?_)
  rcases (show i % 2 = 0 ∨ i % 2 = 1 by omega) with h | h <;> simp [madeCells, hi, pc, h]
set_option maxRecDepth 100000 in
set_option maxHeartbeats 1000000 in
theorem new_any (s : Int) (w : World) (hs : I64 s) :
    Calls Try.prog 17 #[.int .i64 s] w fun e w' => e = .returned (.pointer (some ⟨w.heap.size + 1, 0, none⟩)) ∧ Raw w' (w.heap.size + 1) w.heap.size (capN s) 0 0 (fun _ => (0, 0)) ∧ w.grownBy w' none := by
  obtain ⟨i0, hi, hz0, hz1, hz2⟩ : ∃ i0 : TypeInfo, Try.prog.info? 40 = some i0 ∧ i0.zero = some (.agg #[.int .i64 0, .int .i64 0]) ∧ i0.size = 2 ∧ i0.bytes = 16 := info40
  have hmk : ∀ w, (Instr.makeSlice 70 (.int .i64 (capN s)) (.int .i64 (capN s))).run Try.prog w = .ok (.slice (some ⟨w.heap.size, 0, none⟩) (capN s) (capN s)) (w.alloc (.cells (madeCells #[.int .i64 0, .int .i64 0] (capN s * 2)) 40)) := fun w => by
    have := run_make w 70 40 i0 (.agg #[.int .i64 0, .int .i64 0]) Try.underlying70 hi hz0 .i64 .i64 (capN s) (capN s) (by omega) (Int.le_refl _) (by have := capN_hi s; rw [hz2]; omega) (by have := capN_hi s; omega)
    simpa [hz1, Value.cells] using this
  have hfin : Raw ((w.alloc (.cells (madeCells #[.int .i64 0, .int .i64 0] (capN s * 2)) 40)).alloc (.cells #[.slice (some ⟨w.heap.size, 0, none⟩) (capN s) (capN s), .int .i64 0, .int .i64 0] 72)) (w.heap.size + 1) w.heap.size (capN s) 0 0 (fun _ => (0, 0)) := by
    refine ⟨?_, World.rowIs.alloc (made2 w (capN s)) _, by omega, capN_lo s, capN_hi s, capN_lo s, Nat.zero_le _⟩
    have := row_new (w.alloc (.cells (madeCells #[.int .i64 0, .int .i64 0] (capN s * 2)) 40)) #[.slice (some ⟨w.heap.size, 0, none⟩) (capN s) (capN s), .int .i64 0, .int .i64 0] 72 3 (rc w.heap.size (capN s) 0 0) rfl (fun i hi => by match i, hi with | 0, _ => rfl | 1, _ => rfl | 2, _ => rfl)
    simpa using this
  have HF := Lib.hid hfin
  have hz := zero64
  clear hi hfin
  have hN : ∃ c : Int, c = capN s ∧ ((s < 1 ∧ c = 1) ∨ (s = c ∧ 1 ≤ c ∧ c ≤ 4096) ∨ (1 ≤ s ∧ 4096 < s ∧ c = 4096)) := by
    unfold capN
    by_cases h1 : s < 1
    · exact ⟨1, by simp [h1], .inl ⟨h1, rfl⟩⟩
    · by_cases h2 : s ≤ 4096
      · exact ⟨s, by simp [h1, h2]; omega, .inr (.inl ⟨rfl, by omega, h2⟩)⟩
      · exact ⟨4096, by simp [h1, h2], .inr (.inr ⟨by omega, by omega, rfl⟩)⟩
  obtain ⟨c, hc, hN⟩ := hN
  rw [← hc] at hmk
  generalize capN s = C at *
  clear hc
  rcases hN with ⟨h1, rfl⟩ | ⟨rfl, h1, h2⟩ | ⟨h1, h2, rfl⟩
  all_goals
    go_enter Try.func17, Try.ntmps17
    go_wp2
    go_ret
    exact ⟨by simp, HF.out, gb_trans (gb_alloc _ _ _) (gb_alloc _ _ _)⟩
section
variable {w : World} {b d N f c : Nat} {ar : Nat → Int × Int}
theorem len_any (h : Raw w b d N f c ar) : Calls Try.prog 29 #[.pointer (some ⟨b, 0, none⟩)] w fun e w' => e = .returned (.int .i64 c) ∧ w = w' := by
  have hc := h.count
  clear h
  go_enter Try.func29, Try.ntmps29
  go_wp2
  go_ret; exact ⟨rfl, rfl⟩
set_option maxHeartbeats 1000000 in
theorem place_any (h : Raw w b d N f c ar) (i : Nat) (hi : i ≤ 4096) : Calls Try.prog 46 #[.pointer (some ⟨b, 0, none⟩), .int .i64 i] w fun e w' => e = .returned (.int .i64 ((f + i) % N : Nat)) ∧ ∃ k, w' = w.drewN k := by
  have hf := h.first
  have ht := h.things
  have n1 := h.n1
  have n2 := h.n2
  have hfn := h.fN
  have hm : IntKind.i64.wrap (((f : Int) + i).tmod N) = ((f + i) % N : Nat) := by
    have e : ((f : Int) + i).tmod N = ((f + i) % N : Nat) := by rw [Int.tmod_eq_emod_of_nonneg (by omega)]; simp
    rw [e]; exact IntWalk.i64_in _ (by have := Nat.mod_lt (f + i) (show N > 0 by omega); omega)
  clear h
  go_enter Try.func46, Try.ntmps46
  go_wp2
  go_quiet (fail)
  go_wp2
  go_ret
  exact ⟨rt1 (ri (by simp)), nq, rfl⟩
set_option maxHeartbeats 1000000 in
theorem room_any (h : Raw w b d N f c ar) (q : Bool) (hq : decide (c = N) = q) : Calls Try.prog 45 #[.pointer (some ⟨b, 0, none⟩)] w fun e w' => e = .returned (.int .i64 (if q then 7 else 0)) ∧ ∃ k, w' = w.drewN k := by
  have hf := h.count
  have ht := h.things
  have n1 := h.n1
  have n2 := h.n2
  have hfn := h.cN
  have hb : ((c : Int) == (N : Int)) = q := by rw [← hq]; by_cases e : c = N <;> simp [e]; omega
  clear h hq
  cases q
  all_goals
    go_enter Try.func45, Try.ntmps45
    go_wp2
    go_quiet (fail)
    go_wp2
    go_ret
  · exact ⟨rfl, nq, rfl⟩
  · exact ⟨rfl, nq, rfl⟩
set_option maxHeartbeats 1000000 in
theorem out_any (h : Raw w b d N f c ar) (p : Nat) (hp : p < N) (hc : 1 ≤ c) : Calls Try.prog 48 #[.pointer (some ⟨b, 0, none⟩), .int .i64 p] w fun e w' => e = .returned (.agg #[.int .i64 (ar p).1, .int .i64 (ar p).2]) ∧ Raw w' b d N f (c - 1) (fun i => if i = p then (0, 0) else ar i) ∧ Ch w w' b d := by
  have hf := h.count
  have ht := h.things
  have hx := h.at0 p hp
  have hx' := h.at1 p hp
  have f1 := h.frozB 2
  have f2 := h.frozD (p * 2)
  have f2' := h.frozD (p * 2 + 1)
  have ne := h.ne
  have bl := World.rowIs.lt h.s
  have dl := World.rowIs.lt h.a
  have ne2 := h.ne.symm
  have n2 := h.n2
  have hcn := h.cN
  have H := Lib.hid h
  clear h
  go_enter Try.func48, Try.ntmps48
  go_wp2
  have H3 := ((H.out.alloc (.cells #[.int .i64 0, .int .i64 0] 40)).alloc (.cells #[.int .i64 0, .int .i64 0] 40)).alloc (.cells #[.int .i64 (ar p).1, .int .i64 (ar p).2] 40)
  have C3 := ((ch_alloc w b d (.cells #[.int .i64 0, .int .i64 0] 40)).trans (ch_alloc _ b d (.cells #[.int .i64 0, .int .i64 0] 40))).trans (ch_alloc _ b d (.cells #[.int .i64 (ar p).1, .int .i64 (ar p).2] 40))
  have r4 : ((((w.alloc (.cells #[.int .i64 0, .int .i64 0] 40)).alloc (.cells #[.int .i64 0, .int .i64 0] 40)).alloc (.cells #[.int .i64 (ar p).1, .int .i64 (ar p).2] 40))).rowIs w.heap.size 40 2 (fun _ => .int .i64 0) := ((row_new w #[.int .i64 0, .int .i64 0] 40 2 (fun _ => .int .i64 0) rfl (fun i hi => by match i, hi with | 0, _ => rfl | 1, _ => rfl)).alloc _).alloc _
  have r5 : ((((w.alloc (.cells #[.int .i64 0, .int .i64 0] 40)).alloc (.cells #[.int .i64 0, .int .i64 0] 40)).alloc (.cells #[.int .i64 (ar p).1, .int .i64 (ar p).2] 40))).rowIs (w.heap.size + 1) 40 2 (fun _ => .int .i64 0) := by
    have := (row_new (w.alloc (.cells #[.int .i64 0, .int .i64 0] 40)) #[.int .i64 0, .int .i64 0] 40 2 (fun _ => .int .i64 0) rfl (fun i hi => by match i, hi with | 0, _ => rfl | 1, _ => rfl)).alloc (.cells #[.int .i64 (ar p).1, .int .i64 (ar p).2] 40)
    simpa using this
  have r6 : ((((w.alloc (.cells #[.int .i64 0, .int .i64 0] 40)).alloc (.cells #[.int .i64 0, .int .i64 0] 40)).alloc (.cells #[.int .i64 (ar p).1, .int .i64 (ar p).2] 40))).rowIs (w.heap.size + 1 + 1) 40 2 (fun i => if i = 0 then .int .i64 (ar p).1 else .int .i64 (ar p).2) := by
    have := row_new ((w.alloc (.cells #[.int .i64 0, .int .i64 0] 40)).alloc (.cells #[.int .i64 0, .int .i64 0] 40)) #[.int .i64 (ar p).1, .int .i64 (ar p).2] 40 2 (fun i => if i = 0 then .int .i64 (ar p).1 else .int .i64 (ar p).2) rfl (fun i hi => by match i, hi with | 0, _ => rfl | 1, _ => rfl)
    simpa using this
  generalize ((w.alloc (.cells #[.int .i64 0, .int .i64 0] 40)).alloc (.cells #[.int .i64 0, .int .i64 0] 40)).alloc (.cells #[.int .i64 (ar p).1, .int .i64 (ar p).2] 40) = W3 at *
  have hs : w.heap.size = w.heap.size := rfl
  clear hf ht hx hx' f1 f2 f2'
  have bn4 : b ≠ w.heap.size := by omega
  have dn4 : d ≠ w.heap.size := by omega
  have bn5 : b ≠ w.heap.size + 1 := by omega
  have dn5 : d ≠ w.heap.size + 1 := by omega
  have bn6 : b ≠ w.heap.size + 1 + 1 := by omega
  have dn6 : d ≠ w.heap.size + 1 + 1 := by omega
  have s45 : w.heap.size ≠ w.heap.size + 1 := by omega
  have s46 : w.heap.size ≠ w.heap.size + 1 + 1 := by omega
  have hC : ∀ W4 : World, Ch W3 W4 b d → Ch w (W4.setCell ⟨w.heap.size, 0, none⟩ (.int .i64 (ar p).1) |>.setCell ⟨w.heap.size, 1, none⟩ (.int .i64 (ar p).2)) b d := fun W4 g => by
    have g2 := C3.trans g
    exact ⟨g2.os, g2.tape, g2.output, by simpa [World.size_setCell] using g2.size, fun k hk n1 n2 => ((Below.heap_setCell _ _ _ _ (by show k ≠ w.heap.size; omega)).trans (Below.heap_setCell _ _ _ _ (by show k ≠ w.heap.size; omega))).trans (g2.block k hk n1 n2)⟩
  have HC := Lib.hid hC
  clear hC
  generalize w.heap.size + 1 + 1 = S6 at *
  generalize w.heap.size + 1 = S5 at *
  generalize w.heap.size = S4 at *
  have hf := H3.count
  have ht := H3.things
  have hx := H3.at0 p hp
  have hx' := H3.at1 p hp
  have f1 := H3.frozB 2
  have f2 := H3.frozD (p * 2)
  have f2' := H3.frozD (p * 2 + 1)
  have u50 := row_val r5 (i := 0) (by omega) rfl
  have u51 := row_val r5 (i := 1) (by omega) rfl
  have u60 := row_val r6 (i := 0) (by omega) rfl
  have u61 := row_val r6 (i := 1) (by omega) rfl
  have u40 := row_val r4 (i := 0) (by omega) rfl
  have u41 := row_val r4 (i := 1) (by omega) rfl
  have f40 := World.rowIs.frozen r4 0
  have f41 := World.rowIs.frozen r4 1
  simp only [if_true] at u60
  rw [if_neg (by decide)] at u61
  have H3' := Lib.hid H3
  clear H3 r4 r5 r6 C3 hs
  go_region
  all_goals go_wp2
  generalize hW : World.drew _ = W4
  have q0 : W4.cell? ⟨S4, 0, none⟩ = some (.int .i64 (ar p).1) := by subst hW; go_cell
  have q1 : W4.cell? ⟨S4, 1, none⟩ = some (.int .i64 (ar p).2) := by subst hW; go_cell
  refine bodyPost_ret (by simp [results, Try.results48, go_sem, q0, q1]; try rfl) rfl ?_
  have e : (c : Int) - 1 = ((c - 1 : Nat) : Int) := by omega
  rw [← hW, e]
  have H4 := (H3'.out.setA p (0, 0)).setC (c - 1) (by omega)
  refine ⟨rfl, ?_, ?_⟩
  · exact ((H4.setOther bn4 dn4 0 _).setOther bn4 dn4 1 _).drew
  · exact (HC.out _ (((ch_d W3 b d (p * 2) (.int .i64 0)).trans (ch_d _ b d (p * 2 + 1) (.int .i64 0))).trans (ch_b _ _ _ 2 (.int .i64 (c - 1 : Nat))))).trans (ch_drew _ _ _)
set_option maxHeartbeats 1000000 in
theorem put_full (h : Raw w b d N f N ar) (x : Int × Int) : Calls Try.prog 20 #[.pointer (some ⟨b, 0, none⟩), .agg #[.int .i64 x.1, .int .i64 x.2]] w fun e w' => e = .returned (.int .i64 7) ∧ Raw w' b d N f N ar ∧ Ch w w' b d := by
  have HR := Lib.hid (fun o => room_any (h.alloc o) true (by simp))
  have H := Lib.hid h
  clear h
  go_enter Try.func20, Try.ntmps20
  go_wp2_with (go_at_call 45; refine (HR.out _).mono ?_; rintro e w' ⟨rfl, k, rfl⟩)
  go_ret
  exact ⟨rfl, (H.out.alloc _).drewN k, (ch_alloc _ _ _ _).trans (ch_drewN _ _ _ _)⟩
set_option maxHeartbeats 1000000 in
theorem push_full (h : Raw w b d N f N ar) (x : Int × Int) : Calls Try.prog 23 #[.pointer (some ⟨b, 0, none⟩), .agg #[.int .i64 x.1, .int .i64 x.2]] w fun e w' => e = .returned (.int .i64 7) ∧ Raw w' b d N f N ar ∧ Ch w w' b d := by
  have HR := Lib.hid (fun o => room_any (h.alloc o) true (by simp))
  have H := Lib.hid h
  clear h
  go_enter Try.func23, Try.ntmps23
  go_wp2_with (go_at_call 45; refine (HR.out _).mono ?_; rintro e w' ⟨rfl, k, rfl⟩)
  go_ret
  exact ⟨rfl, (H.out.alloc _).drewN k, (ch_alloc _ _ _ _).trans (ch_drewN _ _ _ _)⟩
set_option maxHeartbeats 2000000 in
theorem put_ok (h : Raw w b d N f c ar) (hc : c < N) (x : Int × Int) : Calls Try.prog 20 #[.pointer (some ⟨b, 0, none⟩), .agg #[.int .i64 x.1, .int .i64 x.2]] w fun e w' => e = .returned (.int .i64 0) ∧ Raw w' b d N f (c + 1) (fun i => if i = (f + c) % N then x else ar i) ∧ Ch w w' b d := by
  have H1 := h.alloc (.cells #[.int .i64 x.1, .int .i64 x.2] 40)
  have C1 := ch_alloc w b d (.cells #[.int .i64 x.1, .int .i64 x.2] 40)
  have r3 := row_new w #[.int .i64 x.1, .int .i64 x.2] 40 2 (fun i => if i = 0 then .int .i64 x.1 else .int .i64 x.2) rfl (fun i hi => by match i, hi with | 0, _ => rfl | 1, _ => rfl)
  have bl := World.rowIs.lt h.s
  have dl := World.rowIs.lt h.a
  have hP := Nat.mod_lt (f + c) (show N > 0 by have := h.n1; omega)
  clear h
  go_enter Try.func20, Try.ntmps20
  go_wp2_with fail
  generalize w.alloc (.cells #[.int .i64 x.1, .int .i64 x.2] 40) = W1 at *
  have bn : b ≠ w.heap.size := by omega
  have dn : d ≠ w.heap.size := by omega
  generalize w.heap.size = S at *
  have hHC : ∀ W4, Ch W1 W4 b d → Ch w W4 b d := fun W4 g => C1.trans g
  have HC := Lib.hid hHC
  refine (room_any H1 false (by simp; omega)).mono ?_
  rintro e w' ⟨rfl, k, rfl⟩
  have HP := Lib.hid (fun (w1 : World) (e : w1.heap = W1.heap) => place_any (H1.same e) c (by have := H1.n2; omega))
  have ht := H1.things
  have hf := H1.count
  have f1 := H1.frozB 2
  have n1 := H1.n1
  have n2 := H1.n2
  have ne := H1.ne
  have ne2 := H1.ne.symm
  have f2 := H1.frozD ((f + c) % N * 2)
  have f2' := H1.frozD ((f + c) % N * 2 + 1)
  have hx := H1.at0 _ hP
  have hx' := H1.at1 _ hP
  have u0 := row_val r3 (i := 0) (by omega) rfl
  have u1 := row_val r3 (i := 1) (by omega) rfl
  simp only [if_true] at u0
  rw [if_neg (by decide)] at u1
  have H := Lib.hid H1
  clear H1 r3 hHC C1
  generalize hpe : (f + c) % N = p at *
  have HPE := Lib.hid hpe
  clear hpe
  go_wp2_with fail
  go_region_with (go_at_call 46; refine (HP.out _ (by rfl)).mono ?_; rintro e w' ⟨rfl, k2, rfl⟩)
  all_goals go_wp2
  all_goals go_ret
  all_goals
    have e : (c : Int) + 1 = ((c + 1 : Nat) : Int) := by omega
    rw [e, HPE.out]
    exact ⟨rfl, ((H.out.drewN _).setA p x).setC (c + 1) (by omega), HC.out _ ((((ch_drewN _ _ _ _).trans (ch_d _ _ _ _ _)).trans (ch_d _ _ _ _ _)).trans (ch_b _ _ _ _ _))⟩
set_option maxHeartbeats 2000000 in
theorem push_ok (h : Raw w b d N f c ar) (hc : c < N) (x : Int × Int) : Calls Try.prog 23 #[.pointer (some ⟨b, 0, none⟩), .agg #[.int .i64 x.1, .int .i64 x.2]] w fun e w' => e = .returned (.int .i64 0) ∧ Raw w' b d N ((f + (N - 1)) % N) (c + 1) (fun i => if i = (f + (N - 1)) % N then x else ar i) ∧ Ch w w' b d := by
  have H1 := h.alloc (.cells #[.int .i64 x.1, .int .i64 x.2] 40)
  have C1 := ch_alloc w b d (.cells #[.int .i64 x.1, .int .i64 x.2] 40)
  have r3 := row_new w #[.int .i64 x.1, .int .i64 x.2] 40 2 (fun i => if i = 0 then .int .i64 x.1 else .int .i64 x.2) rfl (fun i hi => by match i, hi with | 0, _ => rfl | 1, _ => rfl)
  have bl := World.rowIs.lt h.s
  have dl := World.rowIs.lt h.a
  have hP := Nat.mod_lt (f + (N - 1)) (show N > 0 by have := h.n1; omega)
  clear h
  go_enter Try.func23, Try.ntmps23
  go_wp2_with fail
  generalize w.alloc (.cells #[.int .i64 x.1, .int .i64 x.2] 40) = W1 at *
  have bn : b ≠ w.heap.size := by omega
  have dn : d ≠ w.heap.size := by omega
  generalize w.heap.size = S at *
  have hHC : ∀ W4, Ch W1 W4 b d → Ch w W4 b d := fun W4 g => C1.trans g
  have HC := Lib.hid hHC
  refine (room_any H1 false (by simp; omega)).mono ?_
  rintro e w' ⟨rfl, k, rfl⟩
  have HP := Lib.hid (fun (w1 : World) (e : w1.heap = W1.heap) => place_any (H1.same e) (N - 1) (by have := H1.n2; omega))
  have en : ((N - 1 : Nat) : Int) = (N : Int) - 1 := by have := H1.n1; omega
  rw [en] at HP
  have ht := H1.things
  have hf := H1.count
  have hfi := H1.first
  have f1 := H1.frozB 2
  have f3 := H1.frozB 1
  have n1 := H1.n1
  have n2 := H1.n2
  have ne := H1.ne
  have ne2 := H1.ne.symm
  have f2 := H1.frozD ((f + (N - 1)) % N * 2)
  have f2' := H1.frozD ((f + (N - 1)) % N * 2 + 1)
  have hx := H1.at0 _ hP
  have hx' := H1.at1 _ hP
  have u0 := row_val r3 (i := 0) (by omega) rfl
  have u1 := row_val r3 (i := 1) (by omega) rfl
  simp only [if_true] at u0
  rw [if_neg (by decide)] at u1
  have H := Lib.hid H1
  clear H1 r3 hHC C1
  generalize hpe : (f + (N - 1)) % N = p at *
  have HPE := Lib.hid hpe
  clear hpe
  go_wp2_with fail
  refine (HP.out _ (by rfl)).mono ?_
  rintro e w' ⟨rfl, k2, rfl⟩
  go_wp2_with fail
  go_region
  all_goals go_wp2
  all_goals go_ret
  all_goals
    have e : (c : Int) + 1 = ((c + 1 : Nat) : Int) := by omega
    rw [e, HPE.out]
    exact ⟨rfl, ((((H.out.drewN _).setF p hP).setA p x).setC (c + 1) (by omega)).drew, HC.out _ (((((((ch_drewN _ _ _ _).trans (ch_b _ _ _ _ _)).trans (ch_d _ _ _ _ _)).trans (ch_d _ _ _ _ _)).trans (ch_b _ _ _ _ _)).trans (ch_drew _ _ _)))⟩
end
end Go.Proofs.Ytcofoknkmkfbkaa.D
