/- A ring of pairs as a list. -/
import Derived.Test.YtcofoknkmkfbkaaP16
namespace Go.Proofs.Ytcofoknkmkfbkaa.D
open Go.RowKit
set_option linter.unusedVariables false
set_option linter.unusedSimpArgs false
section
variable {w : World} {b d N f c : Nat} {ar : Nat → Int × Int}
set_option maxHeartbeats 2000000 in
theorem take_none (h : Raw w b d N f 0 ar) : Calls Try.prog 25 #[.pointer (some ⟨b, 0, none⟩)] w fun e w' => e = .returned (.tuple #[.agg #[.int .i64 0, .int .i64 0], .bool false]) ∧ Raw w' b d N f 0 ar ∧ Ch w w' b d := by
  have H2 := (h.alloc (.cells #[.int .i64 0, .int .i64 0] 40)).alloc (.cells #[.int .i64 0, .int .i64 0] 40)
  have C2 := (ch_alloc w b d (.cells #[.int .i64 0, .int .i64 0] 40)).trans (ch_alloc _ b d (.cells #[.int .i64 0, .int .i64 0] 40))
  have r2 : ((w.alloc (.cells #[.int .i64 0, .int .i64 0] 40)).alloc (.cells #[.int .i64 0, .int .i64 0] 40)).rowIs w.heap.size 40 2 (fun _ => .int .i64 0) := (row_new w #[.int .i64 0, .int .i64 0] 40 2 (fun _ => .int .i64 0) rfl (fun i hi => by match i, hi with | 0, _ => rfl | 1, _ => rfl)).alloc _
  have r4 : ((w.alloc (.cells #[.int .i64 0, .int .i64 0] 40)).alloc (.cells #[.int .i64 0, .int .i64 0] 40)).rowIs (w.heap.size + 1) 40 2 (fun _ => .int .i64 0) := by
    have := row_new (w.alloc (.cells #[.int .i64 0, .int .i64 0] 40)) #[.int .i64 0, .int .i64 0] 40 2 (fun _ => .int .i64 0) rfl (fun i hi => by match i, hi with | 0, _ => rfl | 1, _ => rfl)
    simpa using this
  have hs2 : ((w.alloc (.cells #[.int .i64 0, .int .i64 0] 40)).alloc (.cells #[.int .i64 0, .int .i64 0] 40)).heap.size = w.heap.size + 2 := by simp
  have bl := World.rowIs.lt h.s
  have dl := World.rowIs.lt h.a
  clear h
  go_enter Try.func25, Try.ntmps25
  go_wp2_with fail
  generalize (w.alloc (.cells #[.int .i64 0, .int .i64 0] 40)).alloc (.cells #[.int .i64 0, .int .i64 0] 40) = W2 at *
  have bn2 : b ≠ w.heap.size := by omega
  have dn2 : d ≠ w.heap.size := by omega
  have bn4 : b ≠ w.heap.size + 1 := by omega
  have dn4 : d ≠ w.heap.size + 1 := by omega
  have s24 : w.heap.size ≠ w.heap.size + 1 := by omega
  have hHC : ∀ W4 : World, ∀ v1 v2, Ch W2 W4 b d → Ch w ((W4.setCell ⟨w.heap.size, 0, none⟩ v1).setCell ⟨w.heap.size, 1, none⟩ v2) b d := fun W4 v1 v2 g => by
    have g2 := C2.trans g
    exact ⟨g2.os, g2.tape, g2.output, by simpa [World.size_setCell] using g2.size, fun k hk n1 n2 => ((Below.heap_setCell _ _ _ _ (by show k ≠ w.heap.size; omega)).trans (Below.heap_setCell _ _ _ _ (by show k ≠ w.heap.size; omega))).trans (g2.block k hk n1 n2)⟩
  have HC := Lib.hid hHC
  clear hHC C2
  have b2s : b < W2.heap.size := by omega
  have d2s : d < W2.heap.size := by omega
  have s2s : w.heap.size < W2.heap.size := by omega
  have s4s : w.heap.size + 1 < W2.heap.size := by omega
  clear hs2
  generalize w.heap.size + 1 = S4 at *
  generalize w.heap.size = S2 at *
  have u20 := row_val r2 (i := 0) (by omega) rfl
  have u21 := row_val r2 (i := 1) (by omega) rfl
  have f20 := World.rowIs.frozen r2 0
  have f21 := World.rowIs.frozen r2 1
  have u40 := row_val r4 (i := 0) (by omega) rfl
  have u41 := row_val r4 (i := 1) (by omega) rfl
  have HR := Lib.hid (len_any H2)
  have H := Lib.hid H2
  clear H2 r2 r4
  refine (HR.out).mono ?_
  rintro e w' ⟨rfl, rfl⟩
  go_wp2
  generalize hW : (World.setCell _ _ _) = W4
  have q0 : W4.cell? ⟨S2, 0, none⟩ = some (.int .i64 0) := by subst hW; go_cell
  have q1 : W4.cell? ⟨S2, 1, none⟩ = some (.int .i64 0) := by subst hW; go_cell
  refine bodyPost_ret (by simp [results, Try.results25, go_sem, q0, q1]; try rfl) rfl ?_
  rw [← hW]
  exact ⟨rfl, (H.out.setOther bn2 dn2 0 _).setOther bn2 dn2 1 _, HC.out _ _ _ (Ch.refl _ _ _)⟩
set_option maxHeartbeats 2000000 in
theorem pop_none (h : Raw w b d N f 0 ar) : Calls Try.prog 27 #[.pointer (some ⟨b, 0, none⟩)] w fun e w' => e = .returned (.tuple #[.agg #[.int .i64 0, .int .i64 0], .bool false]) ∧ Raw w' b d N f 0 ar ∧ Ch w w' b d := by
  have H2 := (h.alloc (.cells #[.int .i64 0, .int .i64 0] 40)).alloc (.cells #[.int .i64 0, .int .i64 0] 40)
  have C2 := (ch_alloc w b d (.cells #[.int .i64 0, .int .i64 0] 40)).trans (ch_alloc _ b d (.cells #[.int .i64 0, .int .i64 0] 40))
  have r2 : ((w.alloc (.cells #[.int .i64 0, .int .i64 0] 40)).alloc (.cells #[.int .i64 0, .int .i64 0] 40)).rowIs w.heap.size 40 2 (fun _ => .int .i64 0) := (row_new w #[.int .i64 0, .int .i64 0] 40 2 (fun _ => .int .i64 0) rfl (fun i hi => by match i, hi with | 0, _ => rfl | 1, _ => rfl)).alloc _
  have r4 : ((w.alloc (.cells #[.int .i64 0, .int .i64 0] 40)).alloc (.cells #[.int .i64 0, .int .i64 0] 40)).rowIs (w.heap.size + 1) 40 2 (fun _ => .int .i64 0) := by
    have := row_new (w.alloc (.cells #[.int .i64 0, .int .i64 0] 40)) #[.int .i64 0, .int .i64 0] 40 2 (fun _ => .int .i64 0) rfl (fun i hi => by match i, hi with | 0, _ => rfl | 1, _ => rfl)
    simpa using this
  have hs2 : ((w.alloc (.cells #[.int .i64 0, .int .i64 0] 40)).alloc (.cells #[.int .i64 0, .int .i64 0] 40)).heap.size = w.heap.size + 2 := by simp
  have bl := World.rowIs.lt h.s
  have dl := World.rowIs.lt h.a
  clear h
  go_enter Try.func27, Try.ntmps27
  go_wp2_with fail
  generalize (w.alloc (.cells #[.int .i64 0, .int .i64 0] 40)).alloc (.cells #[.int .i64 0, .int .i64 0] 40) = W2 at *
  have bn2 : b ≠ w.heap.size := by omega
  have dn2 : d ≠ w.heap.size := by omega
  have bn4 : b ≠ w.heap.size + 1 := by omega
  have dn4 : d ≠ w.heap.size + 1 := by omega
  have s24 : w.heap.size ≠ w.heap.size + 1 := by omega
  have hHC : ∀ W4 : World, ∀ v1 v2, Ch W2 W4 b d → Ch w ((W4.setCell ⟨w.heap.size, 0, none⟩ v1).setCell ⟨w.heap.size, 1, none⟩ v2) b d := fun W4 v1 v2 g => by
    have g2 := C2.trans g
    exact ⟨g2.os, g2.tape, g2.output, by simpa [World.size_setCell] using g2.size, fun k hk n1 n2 => ((Below.heap_setCell _ _ _ _ (by show k ≠ w.heap.size; omega)).trans (Below.heap_setCell _ _ _ _ (by show k ≠ w.heap.size; omega))).trans (g2.block k hk n1 n2)⟩
  have HC := Lib.hid hHC
  clear hHC C2
  have b2s : b < W2.heap.size := by omega
  have d2s : d < W2.heap.size := by omega
  have s2s : w.heap.size < W2.heap.size := by omega
  have s4s : w.heap.size + 1 < W2.heap.size := by omega
  clear hs2
  generalize w.heap.size + 1 = S4 at *
  generalize w.heap.size = S2 at *
  have u20 := row_val r2 (i := 0) (by omega) rfl
  have u21 := row_val r2 (i := 1) (by omega) rfl
  have f20 := World.rowIs.frozen r2 0
  have f21 := World.rowIs.frozen r2 1
  have u40 := row_val r4 (i := 0) (by omega) rfl
  have u41 := row_val r4 (i := 1) (by omega) rfl
  have HR := Lib.hid (len_any H2)
  have H := Lib.hid H2
  clear H2 r2 r4
  refine (HR.out).mono ?_
  rintro e w' ⟨rfl, rfl⟩
  go_wp2
  generalize hW : (World.setCell _ _ _) = W4
  have q0 : W4.cell? ⟨S2, 0, none⟩ = some (.int .i64 0) := by subst hW; go_cell
  have q1 : W4.cell? ⟨S2, 1, none⟩ = some (.int .i64 0) := by subst hW; go_cell
  refine bodyPost_ret (by simp [results, Try.results27, go_sem, q0, q1]; try rfl) rfl ?_
  rw [← hW]
  exact ⟨rfl, (H.out.setOther bn2 dn2 0 _).setOther bn2 dn2 1 _, HC.out _ _ _ (Ch.refl _ _ _)⟩
set_option maxHeartbeats 2000000 in
theorem take_ok (h : Raw w b d N f c ar) (hc : 1 ≤ c) : Calls Try.prog 25 #[.pointer (some ⟨b, 0, none⟩)] w fun e w' => e = .returned (.tuple #[.agg #[.int .i64 (ar f).1, .int .i64 (ar f).2], .bool true]) ∧ Raw w' b d N ((f + 1) % N) (c - 1) (fun i => if i = f then (0, 0) else ar i) ∧ Ch w w' b d := by
  have hP := Nat.mod_lt (f + 1) (show N > 0 by have := h.n1; omega)
  have H2 := (h.alloc (.cells #[.int .i64 0, .int .i64 0] 40)).alloc (.cells #[.int .i64 0, .int .i64 0] 40)
  have C2 := (ch_alloc w b d (.cells #[.int .i64 0, .int .i64 0] 40)).trans (ch_alloc _ b d (.cells #[.int .i64 0, .int .i64 0] 40))
  have r2 : ((w.alloc (.cells #[.int .i64 0, .int .i64 0] 40)).alloc (.cells #[.int .i64 0, .int .i64 0] 40)).rowIs w.heap.size 40 2 (fun _ => .int .i64 0) := (row_new w #[.int .i64 0, .int .i64 0] 40 2 (fun _ => .int .i64 0) rfl (fun i hi => by match i, hi with | 0, _ => rfl | 1, _ => rfl)).alloc _
  have r4 : ((w.alloc (.cells #[.int .i64 0, .int .i64 0] 40)).alloc (.cells #[.int .i64 0, .int .i64 0] 40)).rowIs (w.heap.size + 1) 40 2 (fun _ => .int .i64 0) := by
    have := row_new (w.alloc (.cells #[.int .i64 0, .int .i64 0] 40)) #[.int .i64 0, .int .i64 0] 40 2 (fun _ => .int .i64 0) rfl (fun i hi => by match i, hi with | 0, _ => rfl | 1, _ => rfl)
    simpa using this
  have hs2 : ((w.alloc (.cells #[.int .i64 0, .int .i64 0] 40)).alloc (.cells #[.int .i64 0, .int .i64 0] 40)).heap.size = w.heap.size + 2 := by simp
  have bl := World.rowIs.lt h.s
  have dl := World.rowIs.lt h.a
  clear h
  go_enter Try.func25, Try.ntmps25
  go_wp2_with fail
  generalize (w.alloc (.cells #[.int .i64 0, .int .i64 0] 40)).alloc (.cells #[.int .i64 0, .int .i64 0] 40) = W2 at *
  have bn2 : b ≠ w.heap.size := by omega
  have dn2 : d ≠ w.heap.size := by omega
  have bn4 : b ≠ w.heap.size + 1 := by omega
  have dn4 : d ≠ w.heap.size + 1 := by omega
  have s24 : w.heap.size ≠ w.heap.size + 1 := by omega
  have hHC : ∀ W4 : World, ∀ v1 v2, Ch W2 W4 b d → Ch w ((W4.setCell ⟨w.heap.size, 0, none⟩ v1).setCell ⟨w.heap.size, 1, none⟩ v2) b d := fun W4 v1 v2 g => by
    have g2 := C2.trans g
    exact ⟨g2.os, g2.tape, g2.output, by simpa [World.size_setCell] using g2.size, fun k hk n1 n2 => ((Below.heap_setCell _ _ _ _ (by show k ≠ w.heap.size; omega)).trans (Below.heap_setCell _ _ _ _ (by show k ≠ w.heap.size; omega))).trans (g2.block k hk n1 n2)⟩
  have HC := Lib.hid hHC
  clear hHC C2
  have b2s : b < W2.heap.size := by omega
  have d2s : d < W2.heap.size := by omega
  have s2s : w.heap.size < W2.heap.size := by omega
  have s4s : w.heap.size + 1 < W2.heap.size := by omega
  clear hs2
  generalize w.heap.size + 1 = S4 at *
  generalize w.heap.size = S2 at *
  have u20 := row_val r2 (i := 0) (by omega) rfl
  have u21 := row_val r2 (i := 1) (by omega) rfl
  have f20 := World.rowIs.frozen r2 0
  have f21 := World.rowIs.frozen r2 1
  have u40 := row_val r4 (i := 0) (by omega) rfl
  have u41 := row_val r4 (i := 1) (by omega) rfl
  have hc0 : ((c : Int) == 0) = false := by simp; omega
  have hf := H2.first
  refine (len_any H2).mono ?_
  rintro e w' ⟨rfl, rfl⟩
  have hout := out_any H2 f H2.fN hc
  clear H2
  generalize hxe : ar f = x at *
  have HXE := Lib.hid hxe
  clear hxe
  go_wp2_with fail
  refine hout.mono ?_
  rintro e w1 ⟨rfl, H1, g1⟩
  have r2' := row_ch r2 g1 (Ne.symm bn2) (Ne.symm dn2)
  have b1s : b < w1.heap.size := Nat.lt_of_lt_of_le b2s g1.size
  have d1s : d < w1.heap.size := Nat.lt_of_lt_of_le d2s g1.size
  have s1s : S2 < w1.heap.size := Nat.lt_of_lt_of_le s2s g1.size
  clear hout hf u20 u21 f20 f21 u40 u41 r2 r4
  go_wp2_with fail
  have H5 := H1.alloc (.cells #[.int .i64 x.1, .int .i64 x.2] 40)
  have g5 := g1.trans (ch_alloc w1 b d (.cells #[.int .i64 x.1, .int .i64 x.2] 40))
  have r5 := row_new w1 #[.int .i64 x.1, .int .i64 x.2] 40 2 (fun i => if i = 0 then .int .i64 x.1 else .int .i64 x.2) rfl (fun i hi => by match i, hi with | 0, _ => rfl | 1, _ => rfl)
  have r2 := r2'.alloc (.cells #[.int .i64 x.1, .int .i64 x.2] 40)
  clear H1 g1 r2'
  generalize w1.alloc (.cells #[.int .i64 x.1, .int .i64 x.2] 40) = W5 at *
  have bn5 : b ≠ w1.heap.size := by omega
  have dn5 : d ≠ w1.heap.size := by omega
  have sn5 : S2 ≠ w1.heap.size := by omega
  generalize w1.heap.size = S5 at *
  have u20 := row_val r2 (i := 0) (by omega) rfl
  have u21 := row_val r2 (i := 1) (by omega) rfl
  have f20 := World.rowIs.frozen r2 0
  have f21 := World.rowIs.frozen r2 1
  have u50 := row_val r5 (i := 0) (by omega) rfl
  have u51 := row_val r5 (i := 1) (by omega) rfl
  simp only [if_true] at u50
  rw [if_neg (by decide)] at u51
  refine (place_any H5 1 (by omega)).mono ?_
  rintro e w' ⟨rfl, k2, rfl⟩
  have f1 := H5.frozB 1
  have c1 := H5.first
  have H1 := Lib.hid H5
  have G5 := Lib.hid g5
  clear H5 g5 r2 r5
  generalize hpe : (f + 1) % N = p at *
  have HPE := Lib.hid hpe
  clear hpe
  go_wp2
  generalize hW : (World.setCell _ _ _) = W4
  have q0 : W4.cell? ⟨S2, 0, none⟩ = some (.int .i64 x.1) := by subst hW; go_cell
  have q1 : W4.cell? ⟨S2, 1, none⟩ = some (.int .i64 x.2) := by subst hW; go_cell
  refine bodyPost_ret (by simp [results, Try.results25, go_sem, q0, q1]; try rfl) rfl ?_
  rw [← hW, HPE.out, HXE.out]
  exact ⟨rfl, (((H1.out.drewN k2).setF _ hP).setOther bn2 dn2 0 _).setOther bn2 dn2 1 _, HC.out _ _ _ ((G5.out.trans (ch_drewN _ _ _ _)).trans (ch_b _ _ _ _ _))⟩
set_option maxHeartbeats 2000000 in
theorem pop_ok (h : Raw w b d N f c ar) (hc : 1 ≤ c) : Calls Try.prog 27 #[.pointer (some ⟨b, 0, none⟩)] w fun e w' => e = .returned (.tuple #[.agg #[.int .i64 (ar ((f + (c - 1)) % N)).1, .int .i64 (ar ((f + (c - 1)) % N)).2], .bool true]) ∧ Raw w' b d N f (c - 1) (fun i => if i = (f + (c - 1)) % N then (0, 0) else ar i) ∧ Ch w w' b d := by
  have hP := Nat.mod_lt (f + (c - 1)) (show N > 0 by have := h.n1; omega)
  have H2 := (h.alloc (.cells #[.int .i64 0, .int .i64 0] 40)).alloc (.cells #[.int .i64 0, .int .i64 0] 40)
  have C2 := (ch_alloc w b d (.cells #[.int .i64 0, .int .i64 0] 40)).trans (ch_alloc _ b d (.cells #[.int .i64 0, .int .i64 0] 40))
  have r2 : ((w.alloc (.cells #[.int .i64 0, .int .i64 0] 40)).alloc (.cells #[.int .i64 0, .int .i64 0] 40)).rowIs w.heap.size 40 2 (fun _ => .int .i64 0) := (row_new w #[.int .i64 0, .int .i64 0] 40 2 (fun _ => .int .i64 0) rfl (fun i hi => by match i, hi with | 0, _ => rfl | 1, _ => rfl)).alloc _
  have r4 : ((w.alloc (.cells #[.int .i64 0, .int .i64 0] 40)).alloc (.cells #[.int .i64 0, .int .i64 0] 40)).rowIs (w.heap.size + 1) 40 2 (fun _ => .int .i64 0) := by
    have := row_new (w.alloc (.cells #[.int .i64 0, .int .i64 0] 40)) #[.int .i64 0, .int .i64 0] 40 2 (fun _ => .int .i64 0) rfl (fun i hi => by match i, hi with | 0, _ => rfl | 1, _ => rfl)
    simpa using this
  have hs2 : ((w.alloc (.cells #[.int .i64 0, .int .i64 0] 40)).alloc (.cells #[.int .i64 0, .int .i64 0] 40)).heap.size = w.heap.size + 2 := by simp
  have bl := World.rowIs.lt h.s
  have dl := World.rowIs.lt h.a
  clear h
  go_enter Try.func27, Try.ntmps27
  go_wp2_with fail
  generalize (w.alloc (.cells #[.int .i64 0, .int .i64 0] 40)).alloc (.cells #[.int .i64 0, .int .i64 0] 40) = W2 at *
  have bn2 : b ≠ w.heap.size := by omega
  have dn2 : d ≠ w.heap.size := by omega
  have bn4 : b ≠ w.heap.size + 1 := by omega
  have dn4 : d ≠ w.heap.size + 1 := by omega
  have s24 : w.heap.size ≠ w.heap.size + 1 := by omega
  have hHC : ∀ W4 : World, ∀ v1 v2, Ch W2 W4 b d → Ch w ((W4.setCell ⟨w.heap.size, 0, none⟩ v1).setCell ⟨w.heap.size, 1, none⟩ v2) b d := fun W4 v1 v2 g => by
    have g2 := C2.trans g
    exact ⟨g2.os, g2.tape, g2.output, by simpa [World.size_setCell] using g2.size, fun k hk n1 n2 => ((Below.heap_setCell _ _ _ _ (by show k ≠ w.heap.size; omega)).trans (Below.heap_setCell _ _ _ _ (by show k ≠ w.heap.size; omega))).trans (g2.block k hk n1 n2)⟩
  have HC := Lib.hid hHC
  clear hHC C2
  have b2s : b < W2.heap.size := by omega
  have d2s : d < W2.heap.size := by omega
  have s2s : w.heap.size < W2.heap.size := by omega
  have s4s : w.heap.size + 1 < W2.heap.size := by omega
  clear hs2
  generalize w.heap.size + 1 = S4 at *
  generalize w.heap.size = S2 at *
  have u20 := row_val r2 (i := 0) (by omega) rfl
  have u21 := row_val r2 (i := 1) (by omega) rfl
  have f20 := World.rowIs.frozen r2 0
  have f21 := World.rowIs.frozen r2 1
  have u40 := row_val r4 (i := 0) (by omega) rfl
  have u41 := row_val r4 (i := 1) (by omega) rfl
  have hc0 : ((c : Int) == 0) = false := by simp; omega
  have hf := H2.count
  have n2 := H2.n2
  have hcn := H2.cN
  have HP := Lib.hid (place_any H2 (c - 1) (by omega))
  have HO := Lib.hid (fun (w1 : World) (e : w1.heap = W2.heap) => out_any (H2.same e) _ hP hc)
  have en : ((c - 1 : Nat) : Int) = (c : Int) - 1 := by omega
  rw [en] at HP
  refine (len_any H2).mono ?_
  rintro e w' ⟨rfl, rfl⟩
  clear H2
  generalize hxe : ar ((f + (c - 1)) % N) = x at *
  have HXE := Lib.hid hxe
  clear hxe
  generalize hpe : (f + (c - 1)) % N = p at *
  have HPE := Lib.hid hpe
  clear hpe
  go_wp2_with fail
  refine HP.out.mono ?_
  rintro e w' ⟨rfl, k2, rfl⟩
  go_wp2_with fail
  refine (HO.out _ (by rfl)).mono ?_
  rintro e w1 ⟨rfl, H1, g1⟩
  have r2' := row_ch r2 ((ch_drewN W2 b d k2).trans g1) (Ne.symm bn2) (Ne.symm dn2)
  clear hf u20 u21 f20 f21 u40 u41 r2 r4 HP HO
  have u20 := row_val r2' (i := 0) (by omega) rfl
  have u21 := row_val r2' (i := 1) (by omega) rfl
  have f20 := World.rowIs.frozen r2' 0
  have f21 := World.rowIs.frozen r2' 1
  have H1' := Lib.hid H1
  have G5 := Lib.hid g1
  clear H1 g1 r2'
  go_wp2
  generalize hW : (World.setCell _ _ _) = W4
  have q0 : W4.cell? ⟨S2, 0, none⟩ = some (.int .i64 x.1) := by subst hW; go_cell
  have q1 : W4.cell? ⟨S2, 1, none⟩ = some (.int .i64 x.2) := by subst hW; go_cell
  refine bodyPost_ret (by simp [results, Try.results27, go_sem, q0, q1]; try rfl) rfl ?_
  rw [← hW, HPE.out, HXE.out]
  exact ⟨rfl, (H1'.out.setOther bn2 dn2 0 _).setOther bn2 dn2 1 _, HC.out _ _ _ ((ch_drewN _ _ _ _).trans G5.out)⟩
end
structure IsR (w : World) (b d N : Nat) (l : List (Int × Int)) : Prop where
  p : ∃ f ar, Raw w b d N f l.length ar ∧ ∀ i, i < l.length → ar ((f + i) % N) = l.getD i (0, 0)
section
variable {w w1 : World} {b d N : Nat} {l : List (Int × Int)}
theorem IsR.le (h : IsR w b d N l) : l.length ≤ N := by obtain ⟨f, ar, r, _⟩ := h.p; exact r.cN
theorem IsR.n1 (h : IsR w b d N l) : 1 ≤ N := by obtain ⟨f, ar, r, _⟩ := h.p; exact r.n1
theorem IsR.n2 (h : IsR w b d N l) : N ≤ 4096 := by obtain ⟨f, ar, r, _⟩ := h.p; exact r.n2
theorem IsR.bl (h : IsR w b d N l) : b < w.heap.size := by obtain ⟨f, ar, r, _⟩ := h.p; exact World.rowIs.lt r.s
theorem IsR.dl (h : IsR w b d N l) : d < w.heap.size := by obtain ⟨f, ar, r, _⟩ := h.p; exact World.rowIs.lt r.a
theorem IsR.ne (h : IsR w b d N l) : b ≠ d := by obtain ⟨f, ar, r, _⟩ := h.p; exact r.ne
theorem IsR.same (h : IsR w b d N l) (e : w1.heap = w.heap) : IsR w1 b d N l := by obtain ⟨f, ar, r, hi⟩ := h.p; exact ⟨f, ar, r.same e, hi⟩
theorem IsR.ch (h : IsR w b d N l) {b' d' : Nat} (g : Ch w w1 b' d') (h1 : b ≠ b') (h2 : b ≠ d') (h3 : d ≠ b') (h4 : d ≠ d') : IsR w1 b d N l := by obtain ⟨f, ar, r, hi⟩ := h.p; exact ⟨f, ar, r.ch g h1 h2 h3 h4, hi⟩
theorem IsR.below (h : IsR w b d N l) {B : Nat} (g : Below B w w1) (h1 : b < B) (h2 : d < B) : IsR w1 b d N l := by obtain ⟨f, ar, r, hi⟩ := h.p; exact ⟨f, ar, r.below g h1 h2, hi⟩
theorem r_new (s : Int) (w : World) (hs : I64 s) :
    Calls Try.prog 17 #[.int .i64 s] w fun e w' => e = .returned (.pointer (some ⟨w.heap.size + 1, 0, none⟩)) ∧ IsR w' (w.heap.size + 1) w.heap.size (capN s) [] ∧ w.grownBy w' none := by
  refine (new_any s w hs).mono ?_
  rintro e w' ⟨rfl, h, g⟩
  exact ⟨rfl, ⟨0, _, h, fun i hi => by simp at hi⟩, g⟩
theorem r_len (h : IsR w b d N l) : Calls Try.prog 29 #[.pointer (some ⟨b, 0, none⟩)] w fun e w' => e = .returned (.int .i64 l.length) ∧ w = w' := by
  obtain ⟨f, ar, r, _⟩ := h.p; exact len_any r
def putE (N : Nat) (l : List (Int × Int)) : Int := if l.length = N then 7 else 0
def putL (N : Nat) (l : List (Int × Int)) (x : Int × Int) : List (Int × Int) := if l.length = N then l else l ++ [x]
def pushL (N : Nat) (l : List (Int × Int)) (x : Int × Int) : List (Int × Int) := if l.length = N then l else x :: l
theorem r_put (h : IsR w b d N l) (x : Int × Int) : Calls Try.prog 20 #[.pointer (some ⟨b, 0, none⟩), .agg #[.int .i64 x.1, .int .i64 x.2]] w fun e w' => e = .returned (.int .i64 (putE N l)) ∧ IsR w' b d N (putL N l x) ∧ Ch w w' b d := by
  obtain ⟨f, ar, r, hi⟩ := h.p
  by_cases e : l.length = N
  · unfold putE putL
    rw [if_pos e, if_pos e]
    rw [e] at r
    refine (put_full r x).mono ?_
    rintro e' w' ⟨rfl, r', g⟩
    exact ⟨rfl, ⟨f, ar, by rw [e]; exact r', hi⟩, g⟩
  · unfold putE putL
    rw [if_neg e, if_neg e]
    have hN := r.cN
    have hf := r.fN
    refine (put_ok r (by omega) x).mono ?_
    rintro e' w' ⟨rfl, r', g⟩
    refine ⟨rfl, ⟨f, _, by rw [List.length_append]; exact r', fun i hi' => ?_⟩, g⟩
    rw [List.length_append] at hi'
    have hi'' : i < l.length + 1 := hi'
    have e1 := wrapm hf (show i < N by omega)
    have e2 := wrapm hf (show l.length < N by omega)
    by_cases ei : i = l.length
    · subst ei
      simp
    · have : (f + i) % N ≠ (f + l.length) % N := by rw [e1, e2]; split <;> split <;> omega
      simp only [if_neg this]
      rw [hi i (by omega), List.getD_eq_getElem?_getD, List.getD_eq_getElem?_getD, List.getElem?_append_left (by omega)]
theorem r_push (h : IsR w b d N l) (x : Int × Int) : Calls Try.prog 23 #[.pointer (some ⟨b, 0, none⟩), .agg #[.int .i64 x.1, .int .i64 x.2]] w fun e w' => e = .returned (.int .i64 (putE N l)) ∧ IsR w' b d N (pushL N l x) ∧ Ch w w' b d := by
  obtain ⟨f, ar, r, hi⟩ := h.p
  by_cases e : l.length = N
  · unfold putE pushL
    rw [if_pos e, if_pos e]
    rw [e] at r
    refine (push_full r x).mono ?_
    rintro e' w' ⟨rfl, r', g⟩
    exact ⟨rfl, ⟨f, ar, by rw [e]; exact r', hi⟩, g⟩
  · unfold putE pushL
    rw [if_neg e, if_neg e]
    have hN := r.cN
    have hf := r.fN
    refine (push_ok r (by omega) x).mono ?_
    rintro e' w' ⟨rfl, r', g⟩
    refine ⟨rfl, ⟨_, _, r', fun i hi' => ?_⟩, g⟩
    have hi'' : i < l.length + 1 := hi'
    have n1 := r.n1
    have hp := Nat.mod_lt (f + (N - 1)) (show N > 0 by omega)
    have e0 := wrapm hf (show N - 1 < N by omega)
    have e1 := wrapm hp (show i < N by omega)
    cases i with
    | zero => simp [Nat.mod_eq_of_lt hp]
    | succ i =>
      have e2 := wrapm hf (show i < N by omega)
      have e3 : ((f + (N - 1)) % N + (i + 1)) % N = (f + i) % N := by rw [e1, e2, e0]; split <;> split <;> split <;> omega
      have : (f + i) % N ≠ (f + (N - 1)) % N := by rw [e2, e0]; split <;> split <;> omega
      show (if _ = _ then _ else _) = _
      rw [e3, if_neg this, hi i (by omega)]; simp
theorem r_take (h : IsR w b d N l) : Calls Try.prog 25 #[.pointer (some ⟨b, 0, none⟩)] w fun e w' => e = .returned (.tuple #[.agg #[.int .i64 (l.headD (0, 0)).1, .int .i64 (l.headD (0, 0)).2], .bool (!l.isEmpty)]) ∧ IsR w' b d N l.tail ∧ Ch w w' b d := by
  obtain ⟨f, ar, r, hi⟩ := h.p
  cases l with
  | nil =>
    refine (take_none r).mono ?_
    rintro e w' ⟨rfl, r', g⟩
    exact ⟨rfl, ⟨f, ar, r', hi⟩, g⟩
  | cons y l =>
    have hf := r.fN
    have hN := r.cN
    have n1 := r.n1
    have hN' : l.length + 1 ≤ N := hN
    have e0 : ar f = y := by have := hi 0 (by simp); rw [Nat.add_zero, Nat.mod_eq_of_lt hf] at this; simpa using this
    refine (take_ok r (by simp)).mono ?_
    rintro e w' ⟨rfl, r', g⟩
    refine ⟨by rw [e0]; rfl, ⟨_, _, r', fun i hi' => ?_⟩, g⟩
    have hi'' : i < l.length := hi'
    have hp := Nat.mod_lt (f + 1) (show N > 0 by omega)
    have e1 := wrapm hp (show i < N by omega)
    have e2 := wrapN hf 1 n1
    have e3 := wrapm hf (show i + 1 < N by omega)
    have e4 : ((f + 1) % N + i) % N = (f + (i + 1)) % N := by rw [e1, e3, e2]; split <;> split <;> split <;> omega
    have : (f + (i + 1)) % N ≠ f := by rw [e3]; split <;> omega
    show (if _ = _ then _ else _) = _
    rw [e4, if_neg this, hi (i + 1) (by simp; omega)]; simp
theorem r_pop (h : IsR w b d N l) : Calls Try.prog 27 #[.pointer (some ⟨b, 0, none⟩)] w fun e w' => e = .returned (.tuple #[.agg #[.int .i64 (l.getLastD (0, 0)).1, .int .i64 (l.getLastD (0, 0)).2], .bool (!l.isEmpty)]) ∧ IsR w' b d N l.dropLast ∧ Ch w w' b d := by
  obtain ⟨f, ar, r, hi⟩ := h.p
  by_cases hl : l = []
  · subst hl
    refine (pop_none r).mono ?_
    rintro e w' ⟨rfl, r', g⟩
    exact ⟨rfl, ⟨f, ar, r', hi⟩, g⟩
  · have hpos : 1 ≤ l.length := List.length_pos_iff.2 hl
    have hf := r.fN
    have hN := r.cN
    have n1 := r.n1
    have e0 : ar ((f + (l.length - 1)) % N) = l.getLastD (0, 0) := by
      rw [hi (l.length - 1) (by omega), List.getD_eq_getElem?_getD, ← List.getLast?_eq_getElem?, List.getLastD_eq_getLast?]
    have e5 : l.isEmpty = false := by cases l <;> simp_all
    refine (pop_ok r hpos).mono ?_
    rintro e w' ⟨rfl, r', g⟩
    refine ⟨by rw [e0, e5]; rfl, ⟨_, _, by rw [List.length_dropLast]; exact r', fun i hi' => ?_⟩, g⟩
    rw [List.length_dropLast] at hi'
    have e1 := wrapm hf (show i < N by omega)
    have e2 := wrapm hf (show l.length - 1 < N by omega)
    have : (f + i) % N ≠ (f + (l.length - 1)) % N := by rw [e1, e2]; split <;> split <;> omega
    simp only [if_neg this]
    rw [hi i (by omega), List.getD_eq_getElem?_getD, List.getD_eq_getElem?_getD, List.getElem?_dropLast, if_pos (by omega)]
end

theorem put_is {w : World} {b d N : Nat} {l : List (Int × Int)} (h : IsR w b d N l) (x : Int × Int) (e : Int) (l' : List (Int × Int)) (he : putE N l = e) (hl : putL N l x = l') : Calls Try.prog 20 #[.pointer (some ⟨b, 0, none⟩), .agg #[.int .i64 x.1, .int .i64 x.2]] w fun e' w' => e' = .returned (.int .i64 e) ∧ IsR w' b d N l' ∧ Ch w w' b d := by
  subst he hl; exact r_put h x
theorem take_is {w : World} {b d N : Nat} {y : Int × Int} {l : List (Int × Int)} (h : IsR w b d N (y :: l)) : Calls Try.prog 25 #[.pointer (some ⟨b, 0, none⟩)] w fun e w' => e = .returned (.tuple #[.agg #[.int .i64 y.1, .int .i64 y.2], .bool true]) ∧ IsR w' b d N l ∧ Ch w w' b d := r_take h
theorem len_is {w : World} {b d N : Nat} {l : List (Int × Int)} (h : IsR w b d N l) (n : Int) (hn : (l.length : Int) = n) : Calls Try.prog 29 #[.pointer (some ⟨b, 0, none⟩)] w fun e w' => e = .returned (.int .i64 n) ∧ w = w' := by
  subst hn; exact r_len h
end Go.Proofs.Ytcofoknkmkfbkaa.D
