/- A ring of texts as a list (printed by gen15.py out of the ring of numbers). -/
import Derived.Test.YtcofoknkmkfbkaaP3
namespace Go.Proofs.Ytcofoknkmkfbkaa.S
open Go.RowKit
set_option linter.unusedVariables false
set_option linter.unusedSimpArgs false
def rc (d N f c : Nat) (i : Nat) : Value := if i = 0 then .slice (some ⟨d, 0, none⟩) N N else if i = 1 then .int .i64 f else .int .i64 c
structure Raw (w : World) (b d N f c : Nat) (ar : Nat → ByteArray) : Prop where
  s : w.rowIs b 69 3 (rc d N f c)
  a : w.rowIs d 9 N (fun i => .string (ar i))
  ne : b ≠ d
  n1 : 1 ≤ N
  n2 : N ≤ 4096
  fN : f < N
  cN : c ≤ N
section
variable {w w1 : World} {b d N f c : Nat} {ar : Nat → ByteArray}
theorem Raw.things (h : Raw w b d N f c ar) : w.cell? ⟨b, 0, none⟩ = some (.slice (some ⟨d, 0, none⟩) N N) := row_val h.s (by omega) rfl
theorem Raw.first (h : Raw w b d N f c ar) : w.cell? ⟨b, 1, none⟩ = some (.int .i64 f) := row_val h.s (by omega) rfl
theorem Raw.count (h : Raw w b d N f c ar) : w.cell? ⟨b, 2, none⟩ = some (.int .i64 c) := row_val h.s (by omega) rfl
theorem Raw.at_ (h : Raw w b d N f c ar) (i : Nat) (hi : i < N) : w.cell? ⟨d, i, none⟩ = some (.string (ar i)) := row_val h.a hi rfl
theorem Raw.frozB (h : Raw w b d N f c ar) (i : Nat) : w.frozen? ⟨b, i, none⟩ = false := World.rowIs.frozen h.s i
theorem Raw.frozD (h : Raw w b d N f c ar) (i : Nat) : w.frozen? ⟨d, i, none⟩ = false := World.rowIs.frozen h.a i
theorem Raw.same (h : Raw w b d N f c ar) (e : w1.heap = w.heap) : Raw w1 b d N f c ar := { h with s := h.s.of_block (by rw [e]), a := h.a.of_block (by rw [e]) }
theorem Raw.drewN (h : Raw w b d N f c ar) (k : Nat) : Raw (w.drewN k) b d N f c ar := { h with s := h.s, a := h.a }
theorem Raw.drew (h : Raw w b d N f c ar) : Raw w.drew b d N f c ar := { h with s := h.s, a := h.a }
theorem Raw.ch (h : Raw w b d N f c ar) {b' d' : Nat} (g : Ch w w1 b' d') (h1 : b ≠ b') (h2 : b ≠ d') (h3 : d ≠ b') (h4 : d ≠ d') : Raw w1 b d N f c ar := { h with s := row_ch h.s g h1 h2, a := row_ch h.a g h3 h4 }
theorem Raw.below (h : Raw w b d N f c ar) {B : Nat} (g : Below B w w1) (h1 : b < B) (h2 : d < B) : Raw w1 b d N f c ar := { h with s := row_below h.s g h1, a := row_below h.a g h2 }
theorem Raw.setA (h : Raw w b d N f c ar) (p : Nat) (x : ByteArray) : Raw (w.setCell ⟨d, p, none⟩ (.string x)) b d N f c (fun i => if i = p then x else ar i) :=
  { h with s := h.s.setOther h.ne _, a := (h.a.set _ _).congr (fun i hi => by by_cases e : i = p <;> simp [e]) }
theorem Raw.setF (h : Raw w b d N f c ar) (x : Nat) (hx : x < N) : Raw (w.setCell ⟨b, 1, none⟩ (.int .i64 x)) b d N x c ar :=
  { h with s := (h.s.set _ _).congr (fun i hi => by unfold rc; match i, hi with | 0, _ => rfl | 1, _ => rfl | 2, _ => rfl), a := h.a.setOther h.ne.symm _, fN := hx }
theorem Raw.setC (h : Raw w b d N f c ar) (x : Nat) (hx : x ≤ N) : Raw (w.setCell ⟨b, 2, none⟩ (.int .i64 x)) b d N f x ar :=
  { h with s := (h.s.set _ _).congr (fun i hi => by unfold rc; match i, hi with | 0, _ => rfl | 1, _ => rfl | 2, _ => rfl), a := h.a.setOther h.ne.symm _, cN := hx }
end
theorem zero64 (w : World) : (zeroValue 69).run Try.prog w = .ok (.agg #[.slice none 0 0, .int .i64 0, .int .i64 0]) w := by kernel_rfl
theorem info9 : ∃ i0 : TypeInfo, Try.prog.info? 9 = some i0 ∧ i0.zero = some (.string ⟨#[]⟩) ∧ i0.size = 1 ∧ i0.bytes = 16 := by
  have h : (Try.prog.info? 9).map (fun i => (i.zero, i.size, i.bytes)) = some (some (.string ⟨#[]⟩), 1, 16) := by kernel_rfl
  obtain ⟨i0, h1, h2⟩ := Option.map_eq_some_iff.1 h
  simp only [Prod.mk.injEq] at h2
  exact ⟨i0, h1, h2.1, h2.2.1, h2.2.2⟩
set_option maxRecDepth 100000 in
set_option maxHeartbeats 1000000 in
theorem new_any (s : Int) (w : World) (hs : I64 s) :
    Calls Try.prog 16 #[.int .i64 s] w fun e w' => e = .returned (.pointer (some ⟨w.heap.size + 1, 0, none⟩)) ∧ Raw w' (w.heap.size + 1) w.heap.size (capN s) 0 0 (fun _ => ⟨#[]⟩) ∧ w.grownBy w' none := by
  obtain ⟨i0, hi, hz0, hz1, hz2⟩ : ∃ i0 : TypeInfo, Try.prog.info? 9 = some i0 ∧ i0.zero = some (.string ⟨#[]⟩) ∧ i0.size = 1 ∧ i0.bytes = 16 := info9
  have hmk : ∀ w, (Instr.makeSlice 67 (.int .i64 (capN s)) (.int .i64 (capN s))).run Try.prog w = .ok (.slice (some ⟨w.heap.size, 0, none⟩) (capN s) (capN s)) (w.alloc (.cells (madeCells #[.string ⟨#[]⟩] (capN s)) 9)) := fun w => by
    have := run_make w 67 9 i0 (.string ⟨#[]⟩) Try.underlying67 hi hz0 .i64 .i64 (capN s) (capN s) (by omega) (Int.le_refl _) (by have := capN_hi s; rw [hz2]; omega) (by have := capN_hi s; omega)
    simpa [hz1, Value.cells] using this
  have hfin : Raw ((w.alloc (.cells (madeCells #[.string ⟨#[]⟩] (capN s)) 9)).alloc (.cells #[.slice (some ⟨w.heap.size, 0, none⟩) (capN s) (capN s), .int .i64 0, .int .i64 0] 69)) (w.heap.size + 1) w.heap.size (capN s) 0 0 (fun _ => ⟨#[]⟩) := by
    refine ⟨?_, World.rowIs.alloc (World.rowIs_made _ _ _ _) _, by omega, capN_lo s, capN_hi s, capN_lo s, Nat.zero_le _⟩
    have := row_new (w.alloc (.cells (madeCells #[.string ⟨#[]⟩] (capN s)) 9)) #[.slice (some ⟨w.heap.size, 0, none⟩) (capN s) (capN s), .int .i64 0, .int .i64 0] 69 3 (rc w.heap.size (capN s) 0 0) rfl (fun i hi => by match i, hi with | 0, _ => rfl | 1, _ => rfl | 2, _ => rfl)
    simpa using this
  have HF := Lib.hid hfin
  have hz := zero64
  clear hi hfin
  have hN : ∃ c : Int, c = capN s ∧ ((s < 1 ∧ c = 1) ∨ (s = c ∧ 1 ≤ c ∧ c ≤ 4096) ∨ (1 ≤ s ∧ 4096 < s ∧ c = 4096)) := by
    unfold capN
    by_cases h1 : s < 1
    · exact ⟨1, by simp [h1], .inl ⟨h1, rfl⟩⟩
    · by_cases h2 : s ≤ 4096
      · exact ⟨s, by simp [h1, h2]; omega, .inr (.inl ⟨rfl, by omega, h2⟩)⟩
      · exact ⟨4096, by simp [h1, h2], .inr (.inr ⟨by omega, by omega, rfl⟩)⟩
  obtain ⟨c, hc, hN⟩ := hN
  rw [← hc] at hmk
  generalize capN s = C at *
  clear hc
  rcases hN with ⟨h1, rfl⟩ | ⟨rfl, h1, h2⟩ | ⟨h1, h2, rfl⟩
  all_goals
    go_enter Try.func16, Try.ntmps16
    go_wp2
    go_ret
    exact ⟨by simp, HF.out, gb_trans (gb_alloc _ _ _) (gb_alloc _ _ _)⟩
section
variable {w : World} {b d N f c : Nat} {ar : Nat → ByteArray}
theorem len_any (h : Raw w b d N f c ar) : Calls Try.prog 28 #[.pointer (some ⟨b, 0, none⟩)] w fun e w' => e = .returned (.int .i64 c) ∧ w = w' := by
  have hc := h.count
  clear h
  go_enter Try.func28, Try.ntmps28
  go_wp2
  go_ret; exact ⟨rfl, rfl⟩
set_option maxHeartbeats 1000000 in
theorem place_any (h : Raw w b d N f c ar) (i : Nat) (hi : i ≤ 4096) : Calls Try.prog 44 #[.pointer (some ⟨b, 0, none⟩), .int .i64 i] w fun e w' => e = .returned (.int .i64 ((f + i) % N : Nat)) ∧ ∃ k, w' = w.drewN k := by
  have hf := h.first
  have ht := h.things
  have n1 := h.n1
  have n2 := h.n2
  have hfn := h.fN
  have hm : IntKind.i64.wrap (((f : Int) + i).tmod N) = ((f + i) % N : Nat) := by
    have e : ((f : Int) + i).tmod N = ((f + i) % N : Nat) := by rw [Int.tmod_eq_emod_of_nonneg (by omega)]; simp
    rw [e]; exact IntWalk.i64_in _ (by have := Nat.mod_lt (f + i) (show N > 0 by omega); omega)
  clear h
  go_enter Try.func44, Try.ntmps44
  go_wp2
  go_quiet (fail)
  go_wp2
  go_ret
  exact ⟨rt1 (ri (by simp)), nq, rfl⟩
set_option maxHeartbeats 1000000 in
theorem room_any (h : Raw w b d N f c ar) (q : Bool) (hq : decide (c = N) = q) : Calls Try.prog 43 #[.pointer (some ⟨b, 0, none⟩)] w fun e w' => e = .returned (.int .i64 (if q then 7 else 0)) ∧ ∃ k, w' = w.drewN k := by
  have hf := h.count
  have ht := h.things
  have n1 := h.n1
  have n2 := h.n2
  have hfn := h.cN
  have hb : ((c : Int) == (N : Int)) = q := by rw [← hq]; by_cases e : c = N <;> simp [e]; omega
  clear h hq
  cases q
  all_goals
    go_enter Try.func43, Try.ntmps43
    go_wp2
    go_quiet (fail)
    go_wp2
    go_ret
  · exact ⟨rfl, nq, rfl⟩
  · exact ⟨rfl, nq, rfl⟩
set_option maxHeartbeats 1000000 in
theorem out_any (h : Raw w b d N f c ar) (p : Nat) (hp : p < N) (hc : 1 ≤ c) : Calls Try.prog 47 #[.pointer (some ⟨b, 0, none⟩), .int .i64 p] w fun e w' => e = .returned (.string (ar p)) ∧ Raw w' b d N f (c - 1) (fun i => if i = p then ⟨#[]⟩ else ar i) ∧ Ch w w' b d := by
  have hf := h.count
  have ht := h.things
  have hx := h.at_ p hp
  have f1 := h.frozB 2
  have f2 := h.frozD p
  have ne := h.ne
  have ne2 := h.ne.symm
  have n2 := h.n2
  have hcn := h.cN
  have H := Lib.hid h
  clear h
  go_enter Try.func47, Try.ntmps47
  go_wp2
  go_ret
  have e : (c : Int) - 1 = ((c - 1 : Nat) : Int) := by omega
  rw [e]
  exact ⟨rfl, (H.out.setA p ⟨#[]⟩).setC (c - 1) (by omega), (ch_d _ _ _ _ _).trans (ch_b _ _ _ _ _)⟩
set_option maxHeartbeats 1000000 in
theorem put_full (h : Raw w b d N f N ar) (x : ByteArray) : Calls Try.prog 19 #[.pointer (some ⟨b, 0, none⟩), .string x] w fun e w' => e = .returned (.int .i64 7) ∧ Raw w' b d N f N ar ∧ Ch w w' b d := by
  have HR := Lib.hid (room_any h true (by simp))
  have H := Lib.hid h
  clear h
  go_enter Try.func19, Try.ntmps19
  go_wp2_with (go_at_call 43; refine (HR.out).mono ?_; rintro e w' ⟨rfl, k, rfl⟩)
  go_ret
  exact ⟨rfl, H.out.drewN k, ch_drewN _ _ _ _⟩
set_option maxHeartbeats 1000000 in
theorem push_full (h : Raw w b d N f N ar) (x : ByteArray) : Calls Try.prog 22 #[.pointer (some ⟨b, 0, none⟩), .string x] w fun e w' => e = .returned (.int .i64 7) ∧ Raw w' b d N f N ar ∧ Ch w w' b d := by
  have HR := Lib.hid (room_any h true (by simp))
  have H := Lib.hid h
  clear h
  go_enter Try.func22, Try.ntmps22
  go_wp2_with (go_at_call 43; refine (HR.out).mono ?_; rintro e w' ⟨rfl, k, rfl⟩)
  go_ret
  exact ⟨rfl, H.out.drewN k, ch_drewN _ _ _ _⟩
set_option maxHeartbeats 2000000 in
theorem put_ok (h : Raw w b d N f c ar) (hc : c < N) (x : ByteArray) : Calls Try.prog 19 #[.pointer (some ⟨b, 0, none⟩), .string x] w fun e w' => e = .returned (.int .i64 0) ∧ Raw w' b d N f (c + 1) (fun i => if i = (f + c) % N then x else ar i) ∧ Ch w w' b d := by
  have HR := Lib.hid (room_any h false (by simp; omega))
  have ht := h.things
  have hf := h.count
  have f1 := h.frozB 2
  have n1 := h.n1
  have n2 := h.n2
  have ne := h.ne
  have ne2 := h.ne.symm
  have hP := Nat.mod_lt (f + c) (show N > 0 by omega)
  have f2 := h.frozD ((f + c) % N)
  have hx := h.at_ _ hP
  have HP := Lib.hid (fun (w1 : World) (e : w1.heap = w.heap) => place_any (h.same e) c (by omega))
  have H := Lib.hid h
  clear h
  generalize (f + c) % N = p at *
  go_enter Try.func19, Try.ntmps19
  go_wp2_with (go_at_call 43; refine (HR.out).mono ?_; rintro e w' ⟨rfl, k, rfl⟩)
  go_region_with (go_at_call 44; refine (HP.out _ (by rfl)).mono ?_; rintro e w' ⟨rfl, k2, rfl⟩)
  all_goals go_wp2
  all_goals go_ret
  all_goals
    have e : (c : Int) + 1 = ((c + 1 : Nat) : Int) := by omega
    rw [e]
    exact ⟨rfl, ((H.out.drewN _).setA p x).setC (c + 1) (by omega), ((ch_drewN _ _ _ _).trans (ch_d _ _ _ _ _)).trans (ch_b _ _ _ _ _)⟩
set_option maxHeartbeats 2000000 in
theorem push_ok (h : Raw w b d N f c ar) (hc : c < N) (x : ByteArray) : Calls Try.prog 22 #[.pointer (some ⟨b, 0, none⟩), .string x] w fun e w' => e = .returned (.int .i64 0) ∧ Raw w' b d N ((f + (N - 1)) % N) (c + 1) (fun i => if i = (f + (N - 1)) % N then x else ar i) ∧ Ch w w' b d := by
  have HR := Lib.hid (room_any h false (by simp; omega))
  have ht := h.things
  have hf := h.count
  have hfi := h.first
  have f1 := h.frozB 2
  have f3 := h.frozB 1
  have n1 := h.n1
  have n2 := h.n2
  have ne := h.ne
  have ne2 := h.ne.symm
  have hP := Nat.mod_lt (f + (N - 1)) (show N > 0 by omega)
  have f2 := h.frozD ((f + (N - 1)) % N)
  have hx := h.at_ _ hP
  have HP := Lib.hid (fun (w1 : World) (e : w1.heap = w.heap) => place_any (h.same e) (N - 1) (by omega))
  have H := Lib.hid h
  have en : ((N - 1 : Nat) : Int) = (N : Int) - 1 := by omega
  rw [en] at HP
  clear h
  generalize (f + (N - 1)) % N = p at *
  go_enter Try.func22, Try.ntmps22
  go_wp2_with (first | (go_at_call 43; refine (HR.out).mono ?_; rintro e w' ⟨rfl, k, rfl⟩) | (go_at_call 44; refine (HP.out _ (by rfl)).mono ?_; rintro e w' ⟨rfl, k2, rfl⟩))
  all_goals go_region
  all_goals go_wp2
  all_goals go_ret
  all_goals
    have e : (c : Int) + 1 = ((c + 1 : Nat) : Int) := by omega
    rw [e]
    exact ⟨rfl, ((((H.out.drewN _).setF p hP).setA p x).setC (c + 1) (by omega)).drew, ((((ch_drewN _ _ _ _).trans (ch_b _ _ _ _ _)).trans (ch_d _ _ _ _ _)).trans (ch_b _ _ _ _ _)).trans (ch_drew _ _ _)⟩
theorem take_none (h : Raw w b d N f 0 ar) : Calls Try.prog 24 #[.pointer (some ⟨b, 0, none⟩)] w fun e w' => e = .returned (.tuple #[.string ⟨#[]⟩, .bool false]) ∧ w = w' := by
  have HR := Lib.hid (len_any h)
  clear h
  go_enter Try.func24, Try.ntmps24
  go_wp2_with (go_at_call 28; refine (HR.out).mono ?_; rintro e w' ⟨rfl, rfl⟩)
  go_ret2; exact ⟨rfl, rfl⟩
theorem pop_none (h : Raw w b d N f 0 ar) : Calls Try.prog 26 #[.pointer (some ⟨b, 0, none⟩)] w fun e w' => e = .returned (.tuple #[.string ⟨#[]⟩, .bool false]) ∧ w = w' := by
  have HR := Lib.hid (len_any h)
  clear h
  go_enter Try.func26, Try.ntmps26
  go_wp2_with (go_at_call 28; refine (HR.out).mono ?_; rintro e w' ⟨rfl, rfl⟩)
  go_ret2; exact ⟨rfl, rfl⟩
set_option maxHeartbeats 2000000 in
theorem take_ok (h : Raw w b d N f c ar) (hc : 1 ≤ c) : Calls Try.prog 24 #[.pointer (some ⟨b, 0, none⟩)] w fun e w' => e = .returned (.tuple #[.string (ar f), .bool true]) ∧ Raw w' b d N ((f + 1) % N) (c - 1) (fun i => if i = f then ⟨#[]⟩ else ar i) ∧ Ch w w' b d := by
  have HL := Lib.hid (len_any h)
  have hf := h.first
  have n2 := h.n2
  have hcn := h.cN
  have hc0 : ((c : Int) == 0) = false := by simp; omega
  have HO := Lib.hid (out_any h f h.fN hc)
  have hP := Nat.mod_lt (f + 1) (show N > 0 by have := h.n1; omega)
  generalize ar f = x at HO ⊢
  clear h
  go_enter Try.func24, Try.ntmps24
  go_wp2_with (first | (go_at_call 28; refine (HL.out).mono ?_; rintro e w' ⟨rfl, rfl⟩) | (go_at_call 47; refine (HO.out).mono ?_; rintro e w1 ⟨rfl, h1, g1⟩; have H1 := Lib.hid h1; have G1 := Lib.hid g1; have f1 := h1.frozB 1; have c1 := h1.first; clear h1 g1) | (go_at_call 44; refine (place_any H1.out 1 (by omega)).mono ?_; rintro e w' ⟨rfl, k2, rfl⟩))
  go_ret2
  exact ⟨rfl, (H1.out.drewN k2).setF _ hP, (G1.out.trans (ch_drewN _ _ _ _)).trans (ch_b _ _ _ _ _)⟩
set_option maxHeartbeats 2000000 in
theorem pop_ok (h : Raw w b d N f c ar) (hc : 1 ≤ c) : Calls Try.prog 26 #[.pointer (some ⟨b, 0, none⟩)] w fun e w' => e = .returned (.tuple #[.string (ar ((f + (c - 1)) % N)), .bool true]) ∧ Raw w' b d N f (c - 1) (fun i => if i = (f + (c - 1)) % N then ⟨#[]⟩ else ar i) ∧ Ch w w' b d := by
  have HL := Lib.hid (len_any h)
  have hf := h.count
  have n2 := h.n2
  have hcn := h.cN
  have hc0 : ((c : Int) == 0) = false := by simp; omega
  have hP := Nat.mod_lt (f + (c - 1)) (show N > 0 by have := h.n1; omega)
  have HP := Lib.hid (place_any h (c - 1) (by omega))
  have HO := Lib.hid (fun (w1 : World) (e : w1.heap = w.heap) => out_any (h.same e) _ hP hc)
  have en : ((c - 1 : Nat) : Int) = (c : Int) - 1 := by omega
  rw [en] at HP
  generalize ar ((f + (c - 1)) % N) = x at HO ⊢
  generalize (f + (c - 1)) % N = p at *
  clear h
  go_enter Try.func26, Try.ntmps26
  go_wp2_with (first | (go_at_call 28; refine (HL.out).mono ?_; rintro e w' ⟨rfl, rfl⟩) | (go_at_call 47; refine (HO.out _ (by rfl)).mono ?_; rintro e w1 ⟨rfl, h1, g1⟩; have H1 := Lib.hid h1; have G1 := Lib.hid g1; clear h1 g1) | (go_at_call 44; refine (HP.out).mono ?_; rintro e w' ⟨rfl, k2, rfl⟩))
  go_ret2
  exact ⟨rfl, H1.out, (ch_drewN _ _ _ _).trans G1.out⟩
end
structure IsR (w : World) (b d N : Nat) (l : List ByteArray) : Prop where
  p : ∃ f ar, Raw w b d N f l.length ar ∧ ∀ i, i < l.length → ar ((f + i) % N) = l.getD i ⟨#[]⟩
section
variable {w w1 : World} {b d N : Nat} {l : List ByteArray}
theorem IsR.le (h : IsR w b d N l) : l.length ≤ N := by obtain ⟨f, ar, r, _⟩ := h.p; exact r.cN
theorem IsR.n1 (h : IsR w b d N l) : 1 ≤ N := by obtain ⟨f, ar, r, _⟩ := h.p; exact r.n1
theorem IsR.n2 (h : IsR w b d N l) : N ≤ 4096 := by obtain ⟨f, ar, r, _⟩ := h.p; exact r.n2
theorem IsR.bl (h : IsR w b d N l) : b < w.heap.size := by obtain ⟨f, ar, r, _⟩ := h.p; exact World.rowIs.lt r.s
theorem IsR.dl (h : IsR w b d N l) : d < w.heap.size := by obtain ⟨f, ar, r, _⟩ := h.p; exact World.rowIs.lt r.a
theorem IsR.ne (h : IsR w b d N l) : b ≠ d := by obtain ⟨f, ar, r, _⟩ := h.p; exact r.ne
theorem IsR.same (h : IsR w b d N l) (e : w1.heap = w.heap) : IsR w1 b d N l := by obtain ⟨f, ar, r, hi⟩ := h.p; exact ⟨f, ar, r.same e, hi⟩
theorem IsR.ch (h : IsR w b d N l) {b' d' : Nat} (g : Ch w w1 b' d') (h1 : b ≠ b') (h2 : b ≠ d') (h3 : d ≠ b') (h4 : d ≠ d') : IsR w1 b d N l := by obtain ⟨f, ar, r, hi⟩ := h.p; exact ⟨f, ar, r.ch g h1 h2 h3 h4, hi⟩
theorem IsR.below (h : IsR w b d N l) {B : Nat} (g : Below B w w1) (h1 : b < B) (h2 : d < B) : IsR w1 b d N l := by obtain ⟨f, ar, r, hi⟩ := h.p; exact ⟨f, ar, r.below g h1 h2, hi⟩
theorem r_new (s : Int) (w : World) (hs : I64 s) :
    Calls Try.prog 16 #[.int .i64 s] w fun e w' => e = .returned (.pointer (some ⟨w.heap.size + 1, 0, none⟩)) ∧ IsR w' (w.heap.size + 1) w.heap.size (capN s) [] ∧ w.grownBy w' none := by
  refine (new_any s w hs).mono ?_
  rintro e w' ⟨rfl, h, g⟩
  exact ⟨rfl, ⟨0, _, h, fun i hi => by simp at hi⟩, g⟩
theorem r_len (h : IsR w b d N l) : Calls Try.prog 28 #[.pointer (some ⟨b, 0, none⟩)] w fun e w' => e = .returned (.int .i64 l.length) ∧ w = w' := by
  obtain ⟨f, ar, r, _⟩ := h.p; exact len_any r
def putE (N : Nat) (l : List ByteArray) : Int := if l.length = N then 7 else 0
def putL (N : Nat) (l : List ByteArray) (x : ByteArray) : List ByteArray := if l.length = N then l else l ++ [x]
def pushL (N : Nat) (l : List ByteArray) (x : ByteArray) : List ByteArray := if l.length = N then l else x :: l
theorem r_put (h : IsR w b d N l) (x : ByteArray) : Calls Try.prog 19 #[.pointer (some ⟨b, 0, none⟩), .string x] w fun e w' => e = .returned (.int .i64 (putE N l)) ∧ IsR w' b d N (putL N l x) ∧ Ch w w' b d := by
  obtain ⟨f, ar, r, hi⟩ := h.p
  by_cases e : l.length = N
  · unfold putE putL
    rw [if_pos e, if_pos e]
    rw [e] at r
    refine (put_full r x).mono ?_
    rintro e' w' ⟨rfl, r', g⟩
    exact ⟨rfl, ⟨f, ar, by rw [e]; exact r', hi⟩, g⟩
  · unfold putE putL
    rw [if_neg e, if_neg e]
    have hN := r.cN
    have hf := r.fN
    refine (put_ok r (by omega) x).mono ?_
    rintro e' w' ⟨rfl, r', g⟩
    refine ⟨rfl, ⟨f, _, by rw [List.length_append]; exact r', fun i hi' => ?_⟩, g⟩
    rw [List.length_append] at hi'
    have hi'' : i < l.length + 1 := hi'
    have e1 := wrapm hf (show i < N by omega)
    have e2 := wrapm hf (show l.length < N by omega)
    by_cases ei : i = l.length
    · subst ei
      simp
    · have : (f + i) % N ≠ (f + l.length) % N := by rw [e1, e2]; split <;> split <;> omega
      simp only [if_neg this]
      rw [hi i (by omega), List.getD_eq_getElem?_getD, List.getD_eq_getElem?_getD, List.getElem?_append_left (by omega)]
theorem r_push (h : IsR w b d N l) (x : ByteArray) : Calls Try.prog 22 #[.pointer (some ⟨b, 0, none⟩), .string x] w fun e w' => e = .returned (.int .i64 (putE N l)) ∧ IsR w' b d N (pushL N l x) ∧ Ch w w' b d := by
  obtain ⟨f, ar, r, hi⟩ := h.p
  by_cases e : l.length = N
  · unfold putE pushL
    rw [if_pos e, if_pos e]
    rw [e] at r
    refine (push_full r x).mono ?_
    rintro e' w' ⟨rfl, r', g⟩
    exact ⟨rfl, ⟨f, ar, by rw [e]; exact r', hi⟩, g⟩
  · unfold putE pushL
    rw [if_neg e, if_neg e]
    have hN := r.cN
    have hf := r.fN
    refine (push_ok r (by omega) x).mono ?_
    rintro e' w' ⟨rfl, r', g⟩
    refine ⟨rfl, ⟨_, _, r', fun i hi' => ?_⟩, g⟩
    have hi'' : i < l.length + 1 := hi'
    have n1 := r.n1
    have hp := Nat.mod_lt (f + (N - 1)) (show N > 0 by omega)
    have e0 := wrapm hf (show N - 1 < N by omega)
    have e1 := wrapm hp (show i < N by omega)
    cases i with
    | zero => simp [Nat.mod_eq_of_lt hp]
    | succ i =>
      have e2 := wrapm hf (show i < N by omega)
      have e3 : ((f + (N - 1)) % N + (i + 1)) % N = (f + i) % N := by rw [e1, e2, e0]; split <;> split <;> split <;> omega
      have : (f + i) % N ≠ (f + (N - 1)) % N := by rw [e2, e0]; split <;> split <;> omega
      show (if _ = _ then _ else _) = _
      rw [e3, if_neg this, hi i (by omega)]; simp
theorem r_take (h : IsR w b d N l) : Calls Try.prog 24 #[.pointer (some ⟨b, 0, none⟩)] w fun e w' => e = .returned (.tuple #[Value.string (l.headD ⟨#[]⟩), .bool (!l.isEmpty)]) ∧ IsR w' b d N l.tail ∧ Ch w w' b d := by
  obtain ⟨f, ar, r, hi⟩ := h.p
  cases l with
  | nil =>
    refine (take_none r).mono ?_
    rintro e w' ⟨rfl, rfl⟩
    exact ⟨rfl, ⟨f, ar, r, hi⟩, Ch.refl _ _ _⟩
  | cons y l =>
    have hf := r.fN
    have hN := r.cN
    have n1 := r.n1
    have hN' : l.length + 1 ≤ N := hN
    have e0 : ar f = y := by have := hi 0 (by simp); rw [Nat.add_zero, Nat.mod_eq_of_lt hf] at this; simpa using this
    refine (take_ok r (by simp)).mono ?_
    rintro e w' ⟨rfl, r', g⟩
    refine ⟨by rw [e0]; rfl, ⟨_, _, r', fun i hi' => ?_⟩, g⟩
    have hi'' : i < l.length := hi'
    have hp := Nat.mod_lt (f + 1) (show N > 0 by omega)
    have e1 := wrapm hp (show i < N by omega)
    have e2 := wrapN hf 1 n1
    have e3 := wrapm hf (show i + 1 < N by omega)
    have e4 : ((f + 1) % N + i) % N = (f + (i + 1)) % N := by rw [e1, e3, e2]; split <;> split <;> split <;> omega
    have : (f + (i + 1)) % N ≠ f := by rw [e3]; split <;> omega
    show (if _ = _ then _ else _) = _
    rw [e4, if_neg this, hi (i + 1) (by simp; omega)]; simp
theorem r_pop (h : IsR w b d N l) : Calls Try.prog 26 #[.pointer (some ⟨b, 0, none⟩)] w fun e w' => e = .returned (.tuple #[Value.string (l.getLastD ⟨#[]⟩), .bool (!l.isEmpty)]) ∧ IsR w' b d N l.dropLast ∧ Ch w w' b d := by
  obtain ⟨f, ar, r, hi⟩ := h.p
  by_cases hl : l = []
  · subst hl
    refine (pop_none r).mono ?_
    rintro e w' ⟨rfl, rfl⟩
    exact ⟨rfl, ⟨f, ar, r, hi⟩, Ch.refl _ _ _⟩
  · have hpos : 1 ≤ l.length := List.length_pos_iff.2 hl
    have hf := r.fN
    have hN := r.cN
    have n1 := r.n1
    have e0 : ar ((f + (l.length - 1)) % N) = l.getLastD ⟨#[]⟩ := by
      rw [hi (l.length - 1) (by omega), List.getD_eq_getElem?_getD, ← List.getLast?_eq_getElem?, List.getLastD_eq_getLast?]
    have e5 : l.isEmpty = false := by cases l <;> simp_all
    refine (pop_ok r hpos).mono ?_
    rintro e w' ⟨rfl, r', g⟩
    refine ⟨by rw [e0, e5]; rfl, ⟨_, _, by rw [List.length_dropLast]; exact r', fun i hi' => ?_⟩, g⟩
    rw [List.length_dropLast] at hi'
    have e1 := wrapm hf (show i < N by omega)
    have e2 := wrapm hf (show l.length - 1 < N by omega)
    have : (f + i) % N ≠ (f + (l.length - 1)) % N := by rw [e1, e2]; split <;> split <;> omega
    simp only [if_neg this]
    rw [hi i (by omega), List.getD_eq_getElem?_getD, List.getD_eq_getElem?_getD, List.getElem?_dropLast, if_pos (by omega)]
end

theorem put_is {w : World} {b d N : Nat} {l : List ByteArray} (h : IsR w b d N l) (x : ByteArray) (e : Int) (l' : List ByteArray) (he : putE N l = e) (hl : putL N l x = l') : Calls Try.prog 19 #[.pointer (some ⟨b, 0, none⟩), .string x] w fun e' w' => e' = .returned (.int .i64 e) ∧ IsR w' b d N l' ∧ Ch w w' b d := by
  subst he hl; exact r_put h x
theorem take_is {w : World} {b d N : Nat} {y : ByteArray} {l : List ByteArray} (h : IsR w b d N (y :: l)) : Calls Try.prog 24 #[.pointer (some ⟨b, 0, none⟩)] w fun e w' => e = .returned (.tuple #[.string y, .bool true]) ∧ IsR w' b d N l ∧ Ch w w' b d := r_take h
theorem len_is {w : World} {b d N : Nat} {l : List ByteArray} (h : IsR w b d N l) (n : Int) (hn : (l.length : Int) = n) : Calls Try.prog 28 #[.pointer (some ⟨b, 0, none⟩)] w fun e w' => e = .returned (.int .i64 n) ∧ w = w' := by
  subst hn; exact r_len h
end Go.Proofs.Ytcofoknkmkfbkaa.S
