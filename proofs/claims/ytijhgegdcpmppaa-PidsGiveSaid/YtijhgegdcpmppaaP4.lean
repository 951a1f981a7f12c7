/- The law's own small calls: lives, which, SameLongs, has; and PidsFull's walk. -/
import Derived.Test.YtijhgegdcpmppaaP3
namespace Go.Proofs.Ytijhgegdcpmppaa
open Go.RowKit
set_option linter.unusedVariables false
set_option linter.unusedSimpArgs false

set_option maxHeartbeats 2000000 in
theorem lives_any (w : World) : Calls Try.prog 7 #[] w fun e w' => e = .returned (.bool true) ∧ w.grownBy w' none := by
  have o0 := new_ok
  have o1 := alloc_ok _ o0
  have o2 := alloc_ok _ o1
  have o3 := free_ok _ o2 1
  have o4 := alloc_ok _ o3
  have v1 : Tb.new.allocV = 1 := by decide +kernel
  have v2 : Tb.new.allocE = 0 := by decide +kernel
  have v3 : Tb.new.allocT.allocV = 2 := by decide +kernel
  have v4 : Tb.new.allocT.allocE = 0 := by decide +kernel
  have v5 : Tb.new.allocT.allocT.freeE 1 = 0 := by decide +kernel
  have v6 : (Tb.new.allocT.allocT.freeT 1).allocV = 33 := by decide +kernel
  have v7 : (Tb.new.allocT.allocT.freeT 1).allocE = 0 := by decide +kernel
  have v8 : (Tb.new.allocT.allocT.freeT 1).allocT.has 1 = false := by decide +kernel
  have v9 : (Tb.new.allocT.allocT.freeT 1).allocT.live = 2 := by decide +kernel
  go_enter Try.func7, Try.ntmps7
  go_wp2_with fail
  refine (new_any _).mono ?_
  rintro e w1 ⟨rfl, h1, g1⟩
  go_wp2_with fail
  refine (alloc_any _ _ _ h1 o0).mono ?_
  rintro e w2 ⟨rfl, h2, g2⟩
  go_wp2_with fail
  refine (alloc_any _ _ _ h2 o1).mono ?_
  rintro e w3 ⟨rfl, h3, g3⟩
  go_wp2_with fail
  refine (free_any _ _ _ _ h3 o2 (by omega)).mono ?_
  rintro e w4 ⟨rfl, h4, g4⟩
  go_wp2_with fail
  refine (alloc_any _ _ _ h4 o3).mono ?_
  rintro e w5 ⟨rfl, h5, g5⟩
  go_wp2_with (first | (go_at_call 18; refine (live_any _ _ _ _ h5 o4 (by omega)).mono ?_; rintro e w' ⟨rfl, rfl⟩) | (go_at_call 12; refine (len_any _ _ _ h5).mono ?_; rintro e w' ⟨rfl, rfl⟩))
  go_ret
  exact ⟨rfl, gb_new (gb_new (gb_new (gb_new g1 g2 (Nat.le_refl _)) g3 (Nat.le_refl _)) g4 (Nat.le_refl _)) g5 (Nat.le_refl _)⟩

/-- a slice of ints that is read: its elements by their index -/
def Reads (w : World) (a : Option Addr) (len : Nat) (z : Nat → Int) : Prop :=
  ∀ i, i < len → ∃ b off, a = some ⟨b, off, none⟩ ∧ b < w.heap.size ∧ w.cell? ⟨b, off + i, none⟩ = some (.int .i64 (z i))
theorem Reads.below {w w' : World} {a : Option Addr} {len : Nat} {z : Nat → Int} (h : Reads w a len z) (g : Below w.heap.size w w') (i : Nat) (hi : i < len) :
    ∃ b off, a = some ⟨b, off, none⟩ ∧ w'.cell? ⟨b, off + i, none⟩ = some (.int .i64 (z i)) := by
  obtain ⟨b, off, e, hb, hc⟩ := h i hi
  exact ⟨b, off, e, (g.cell (p := ⟨b, off + i, none⟩) hb).trans hc⟩

/-- what the table is like in PidsFull: which were freed (op), how far they were taken anew (k) -/
structure Sh (t : Tb) (op : Nat → Bool) (k : Nat) : Prop where
  ok : t.Ok
  gen : ∀ s, s < 32 → t.gen s = if op s then 1 else 0
  tk : ∀ s, s < 32 → t.tk s = if op s then decide (s < k) else true

/-- the first k are taken, nothing was freed -/
structure Fl (t : Tb) (k : Nat) : Prop where
  ok : t.Ok
  gen : ∀ s, s < 32 → t.gen s = 0
  tk : ∀ s, s < 32 → t.tk s = decide (s < k)
theorem Fl.new : Fl Tb.new 0 := ⟨new_ok, fun _ _ => rfl, fun s _ => by simp [Tb.new]⟩
theorem Fl.first {t : Tb} {k : Nat} (h : Fl t k) (hk : k < 32) : t.first = k := by
  refine t.first_spec k hk ?_ (fun j hj => ?_)
  · unfold Tb.free; rw [h.gen k hk, h.tk k hk]; simp
  · unfold Tb.free; rw [h.tk j (by omega)]; simp [hj]
theorem Fl.alloc {t : Tb} {k : Nat} (h : Fl t k) (hk : k < 32) : t.allocV = (k : Int) + 1 ∧ t.allocE = 0 ∧ Fl t.allocT (k + 1) := by
  have e := h.first hk
  refine ⟨?_, ?_, alloc_ok t h.ok, fun s hs => ?_, fun s hs => ?_⟩
  · unfold Tb.allocV Tb.num; rw [e, if_pos hk, h.gen k hk]; omega
  · unfold Tb.allocE; rw [e, if_pos hk]
  · unfold Tb.allocT; rw [e, if_pos hk]; exact h.gen s hs
  · unfold Tb.allocT; rw [e, if_pos hk]
    show (if s = k then true else t.tk s) = _
    rw [h.tk s hs]
    by_cases e : s = k
    · simp [e]
    · rw [if_neg e]; simp; omega
theorem Fl.full {t : Tb} (h : Fl t 32) : Sh t (fun _ => false) 0 := ⟨h.ok, fun s hs => by simpa using h.gen s hs, fun s hs => by rw [h.tk s hs]; simp [hs]⟩
theorem full_alloc {t : Tb} (h : ∀ s, s < 32 → t.tk s = true) : t.allocV = 0 ∧ t.allocE = 7 ∧ t.allocT = t := by
  have e := t.first_none (fun j hj => by unfold Tb.free; rw [h j hj]; rfl)
  exact ⟨by unfold Tb.allocV; rw [e]; rfl, by unfold Tb.allocE; rw [e]; rfl, by unfold Tb.allocT; rw [e]; rfl⟩
theorem Sh.free {t : Tb} {op : Nat → Bool} (h : Sh t op 0) (s : Nat) (hs : s < 32) : t.freeE ((s : Int) + 1) = (if op s then 6 else 0) ∧ Sh (t.freeT ((s : Int) + 1)) (fun j => if j = s then true else op j) 0 := by
  have ea : Tb.at_ ((s : Int) + 1) = s := by unfold Tb.at_; omega
  have eh : t.has ((s : Int) + 1) = !op s := by
    unfold Tb.has; rw [ea, h.tk s hs]
    unfold Tb.num; rw [h.gen s hs]
    cases op s
    · simp; omega
    · simp
  refine ⟨by unfold Tb.freeE; rw [eh]; cases op s <;> rfl, free_ok t h.ok _, fun j hj => ?_, fun j hj => ?_⟩
  · unfold Tb.freeT; rw [eh, ea]
    cases ho : op s
    · simp only [Bool.not_false, if_true]
      by_cases e : j = s
      · subst e; simp [h.gen j hj, ho]
      · simp only [if_neg e]; exact h.gen j hj
    · simp only [Bool.not_true]
      rw [show (if false = true then _ else t : Tb) = t from rfl, h.gen j hj]
      by_cases e : j = s
      · subst e; simp [ho]
      · simp [e]
  · unfold Tb.freeT; rw [eh, ea]
    cases ho : op s
    · simp only [Bool.not_false, if_true]
      by_cases e : j = s
      · subst e; simp
      · simp only [if_neg e]; exact h.tk j hj
    · simp only [Bool.not_true]
      rw [show (if false = true then _ else t : Tb) = t from rfl, h.tk j hj]
      by_cases e : j = s
      · subst e; simp [ho]
      · simp [e]
theorem Sh.skip {t : Tb} {op : Nat → Bool} {k : Nat} (h : Sh t op k) (ho : op k = false) : Sh t op (k + 1) :=
  ⟨h.ok, h.gen, fun s hs => by
    rw [h.tk s hs]
    by_cases e : s = k
    · subst e; simp [ho]
    · cases op s
      · rfl
      · simp; omega⟩
theorem Sh.again {t : Tb} {op : Nat → Bool} {k : Nat} (h : Sh t op k) (hk : k < 32) (ho : op k = true) :
    t.allocV = 32 + (k : Int) + 1 ∧ t.allocE = 0 ∧ Sh t.allocT op (k + 1) ∧ t.allocT.slotV (32 + (k : Int) + 1) = k ∧ t.allocT.has (32 + (k : Int) + 1) = true := by
  have e : t.first = k := by
    refine t.first_spec k hk ?_ (fun j hj => ?_)
    · unfold Tb.free; rw [h.gen k hk, h.tk k hk, ho]; simp
    · unfold Tb.free; rw [h.tk j (by omega)]; cases op j <;> simp [hj]
  have et : t.allocT = { t with tk := fun s => if s = k then true else t.tk s, live := t.live + 1 } := by unfold Tb.allocT; rw [e, if_pos hk]
  have ea : Tb.at_ (32 + (k : Int) + 1) = k := by unfold Tb.at_; omega
  have eh : t.allocT.has (32 + (k : Int) + 1) = true := by
    unfold Tb.has; rw [ea, et]; unfold Tb.num; simp only [if_true]; rw [h.gen k hk, ho]; simp; omega
  refine ⟨?_, ?_, ⟨alloc_ok t h.ok, fun s hs => ?_, fun s hs => ?_⟩, ?_, eh⟩
  · unfold Tb.allocV Tb.num; rw [e, if_pos hk, h.gen k hk, ho]; simp
  · unfold Tb.allocE; rw [e, if_pos hk]
  · rw [et]; exact h.gen s hs
  · rw [et]; show (if s = k then true else t.tk s) = _
    by_cases e : s = k
    · subst e; simp [ho]
    · rw [if_neg e, h.tk s hs]
      cases op s
      · rfl
      · simp; omega
  · unfold Tb.slotV; rw [eh, ea]; rfl
theorem Sh.all {t : Tb} {op : Nat → Bool} (h : Sh t op 32) : (∀ s, s < 32 → t.tk s = true) ∧ t.live = 32 := by
  have h1 : ∀ s, s < 32 → t.tk s = true := fun s hs => by rw [h.tk s hs]; cases op s <;> simp [hs]
  refine ⟨h1, ?_⟩
  rw [h.ok.l]
  have : (List.range 32).countP t.tk = 32 := by
    rw [List.countP_eq_length.2 (fun x hx => h1 x (List.mem_range.1 hx))]; simp
  rw [this]; rfl

theorem mod32 (x : Int) : ∃ S : Nat, S < 32 ∧ wrap64 ((IntKind.u64.wrap x).tmod 32) = (S : Int) := by
  have h0 : 0 ≤ IntKind.u64.wrap x := by rw [IntKind.wrap_u64]; omega
  refine ⟨(IntKind.u64.wrap x % 32).toNat, by omega, ?_⟩
  rw [Int.tmod_eq_emod_of_nonneg h0]; unfold wrap64; omega

theorem full_call (b bo : Nat) (t : Tb) (op : Nat → Bool) (S B : Nat) (w wr : World) (h4 : IsTb wr b t) (hsh : Sh t op 0) (hS0 : S < 32) (o4 : wr.rowIs bo 4 32 (fun s => .bool (op s))) (B4 : Below B w wr) (s1 : B ≤ b) (n4 : b ≠ bo) (hB : B ≤ w.heap.size := by omega) :
    Calls Try.prog 10 #[.pointer (some ⟨b, 0, none⟩), .int .i64 ((S : Int) + 1)] wr.drew fun e w5 => e = .returned (.int .i64 (t.freeE ((S : Int) + 1))) ∧ IsTb w5 b (t.freeT ((S : Int) + 1)) ∧ w5.rowIs bo 4 32 (fun s => .bool (op s)) ∧ (∀ i, w5.frozen? ⟨bo, i, none⟩ = false) ∧ w5.cell? ⟨bo, S, none⟩ = some (.bool (op S)) ∧ Below B w w5 := by
  refine (free_any b t ((S : Int) + 1) wr.drew h4 hsh.ok (by omega)).mono ?_
  rintro e w5 ⟨rfl, h5, g5⟩
  have g : wr.grownBy w5 (some b) := gb_trans (gb_drew wr _) g5
  have o5 := row_kept o4 g (by simp; omega)
  exact ⟨rfl, h5, o5, o5.frozen, o5.cell hS0, B4.trans (gb_below g (Nat.le_trans hB B4.size) (fun k h => by cases h; exact s1))⟩

theorem info4 : (Try.prog.info? 4).map (fun i => (i.zero, i.size, i.bytes)) = some (some (.bool false), 1, 1) := by kernel_rfl

set_option maxHeartbeats 2000000 in
theorem full_any (a : Option Addr) (len cap : Nat) (z : Nat → Int) (w : World) (hr : Reads w a len z) (hlen : len ≤ 9223372036854775807) :
    Calls Try.prog 3 #[.slice a len cap] w fun e w' => e = .returned (.bool true) ∧ Below w.heap.size w w' := by
  have hmk : ∀ w, (Instr.makeSlice 29 (.int .i64 32) (.int .i64 32)).run Try.prog w = .ok (.slice (some ⟨w.heap.size, 0, none⟩) 32 32) (w.alloc (.cells (madeCells #[.bool false] 32) 4)) :=
    fun w => run_make_row' (P := Try.prog) 29 4 (.bool false) 1 Try.underlying29 info4 rfl .i64 .i64 32 (by decide) (by decide) w
  go_enter Try.func3, Try.ntmps3
  go_wp2_with fail
  refine (lives_any _).mono ?_
  rintro e w1 ⟨rfl, g1⟩
  go_wp2_with fail
  refine (new_any _).mono ?_
  rintro e w2 ⟨rfl, h2, g2⟩
  have B2 : Below w.heap.size w w2 := gb_below (gb_trans g1 g2) (Nat.le_refl _) (fun k h => by cases h)
  have s1 : w.heap.size ≤ w1.heap.size := g1.size
  generalize w1.heap.size = b at h2 s1 ⊢
  clear g1 g2
  go_wp2
  go_loopw [4] (fun k wr => ∃ (n : Nat) (t : Tb), n ≤ 32 ∧ k = .int .i64 n ∧ IsTb wr b t ∧ Fl t n ∧ Below w.heap.size w wr) (fun k wr => 32 - (intOf k).toNat)
  case atStart => exact ⟨0, _, by omega, rfl, h2, Fl.new, B2⟩
  case round =>
    obtain ⟨n, t, hn, rfl, ht, hf, hB⟩ := hrel
    by_cases hlt : n < 32
    · obtain ⟨v1, v2, hf'⟩ := hf.alloc hlt
      go_wp2_with (go_at_call 9; refine (alloc_any _ _ _ ht hf.ok).mono ?_; rintro e w3 ⟨rfl, h3, g3⟩)
      exact ⟨⟨n + 1, _, by omega, by go_num, h3, hf', hB.trans (gb_below g3 hB.size (fun k h => by cases h; exact s1))⟩, by simp [intOf]; omega⟩
    · obtain rfl : n = 32 := by omega
      obtain ⟨v1, v2, v3⟩ := full_alloc (t := t) (fun s hs => by rw [hf.tk s hs]; simp [hs])
      have hsh := hf.full
      clear w2 h2 B2
      go_wp2_with fail
      refine (alloc_any _ _ _ ht hf.ok).mono ?_
      rintro e w3 ⟨rfl, h3, g3⟩
      rw [v3] at h3
      have B3 := hB.trans (gb_below g3 hB.size (fun k h => by cases h; exact s1))
      clear hf ht hB g3
      go_wp2
      have h4 : IsTb (w3.alloc (.cells (madeCells #[.bool false] 32) 4)) b t := World.rowIs.alloc h3 _
      have o4 : (w3.alloc (.cells (madeCells #[.bool false] 32) 4)).rowIs w3.heap.size 4 32 (fun s => .bool ((fun _ => false) s)) := row_new _ _ _ _ _ (by simp [madeCells]) (fun i hi => by simp [madeCells, hi, Nat.mod_one])
      have B4 := B3.alloc B3.size (.cells (madeCells #[.bool false] 32) 4)
      have s4 : w.heap.size ≤ w3.heap.size := B3.size
      have n4 : b ≠ w3.heap.size := by have := World.rowIs.lt h3; omega
      generalize w3.alloc (.cells (madeCells #[.bool false] 32) 4) = w4 at h4 o4 B4 ⊢
      generalize w3.heap.size = bo at o4 s4 n4 ⊢
      clear h3 B3 w3 v1 v2 v3
      go_loopw [10] (fun k wr => ∃ (n : Nat) (t : Tb) (op : Nat → Bool), n ≤ len ∧ k = .int .i64 n ∧ IsTb wr b t ∧ Sh t op 0 ∧ wr.rowIs bo 4 32 (fun s => .bool (op s)) ∧ Below w.heap.size w wr) (fun k wr => len - (intOf k).toNat)
      case atStart => exact ⟨0, t, fun _ => false, by omega, rfl, h4, hsh, o4, B4⟩
      case round =>
        clear h4 hsh o4 B4
        obtain ⟨n, t, op, hn, rfl, h4, hsh, o4, B4⟩ := hrel
        by_cases hlt : n < len
        · obtain ⟨bf, off, rfl, hc⟩ := hr.below B4 n hlt
          obtain ⟨S, hS0, hS⟩ := mod32 (z n)
          obtain ⟨f1, f2⟩ := hsh.free S hS0
          have no : some bo ≠ some b := by simp; omega
          have c4 : wr.cell? ⟨bo, S, none⟩ = some (.bool (op S)) := o4.cell hS0
          have fz : ∀ i, wr.frozen? ⟨bo, i, none⟩ = false := o4.frozen
          have hw : IntKind.i64.wrap ((S : Int) + 1) = (S : Int) + 1 := IntWalk.i64_in _ (by omega)
          have HC := Lib.hid (full_call b bo t op S w.heap.size w wr h4 hsh hS0 o4 B4 s1 n4)
          go_wp2_with fail
          cases ho : op S
          · rw [ho] at f1 c4
            simp only [if_false, Bool.false_eq_true] at f1
            go_region_with (go_at_call 10; refine (HC.out).mono ?_; rintro e w5 ⟨rfl, h5, o5, z5, c5, B5⟩; rw [ho] at c5)
            all_goals go_wp2
            all_goals exact ⟨⟨n + 1, _, _, by omega, by go_num, World.rowIs.setOther h5 n4 _, f2, (o5.set S (.bool true)).congr (fun i hi => by by_cases e : i = S <;> simp [e]), B5.setCell s4 _⟩, by simp [intOf]; omega⟩
          · rw [ho] at f1 c4
            simp only [if_true] at f1
            go_region_with (go_at_call 10; refine (HC.out).mono ?_; rintro e w5 ⟨rfl, h5, o5, z5, c5, B5⟩; rw [ho] at c5)
            all_goals go_wp2
            all_goals exact ⟨⟨n + 1, _, _, by omega, by go_num, World.rowIs.setOther h5 n4 _, f2, (o5.set S (.bool true)).congr (fun i hi => by by_cases e : i = S <;> simp [e]), B5.setCell s4 _⟩, by simp [intOf]; omega⟩
        · obtain rfl : n = len := by omega
          clear hr hlen hn hlt
          go_wp2_with fail
          go_loopw [12] (fun k wr => ∃ (m : Nat) (t : Tb), m ≤ 32 ∧ k = .int .i64 m ∧ IsTb wr b t ∧ Sh t op m ∧ wr.rowIs bo 4 32 (fun s => .bool (op s)) ∧ Below w.heap.size w wr) (fun k wr => 32 - (intOf k).toNat)
          case atStart => exact ⟨0, t, by omega, rfl, h4, hsh, o4, B4⟩
          case round =>
            clear h4 hsh o4 B4
            obtain ⟨m, t, hm, rfl, h4, hsh, o4, B4⟩ := hrel
            have no : some bo ≠ some b := by simp; omega
            by_cases hlt : m < 32
            · have c4 : wr.cell? ⟨bo, m, none⟩ = some (.bool (op m)) := o4.cell hlt
              cases ho : op m
              · rw [ho] at c4
                have HO := Lib.hid ho
                clear ho
                go_wp2
                exact ⟨⟨m + 1, _, by omega, by go_num, h4, hsh.skip HO.out, o4, B4⟩, by simp [intOf]; omega⟩
              · rw [ho] at c4
                obtain ⟨v1, v2, f3, v4, v5⟩ := hsh.again hlt ho
                have HO := Lib.hid ho
                clear ho
                go_wp2_with fail
                refine (alloc_any _ _ _ h4 hsh.ok).mono ?_
                rintro e w5 ⟨rfl, h5, g5⟩
                go_wp2_with (go_at_call 11; refine (slot_any b _ _ _ h5 f3.ok (by omega)).mono ?_; rintro e w6 ⟨rfl, rfl⟩)
                exact ⟨⟨m + 1, _, by omega, by go_num, h5, f3, row_kept o4 g5 no, B4.trans (gb_below g5 B4.size (fun k h => by cases h; exact s1))⟩, by simp [intOf]; omega⟩
            · obtain rfl : m = 32 := by omega
              obtain ⟨a1, a2⟩ := hsh.all
              obtain ⟨v1, v2, v3⟩ := full_alloc a1
              have HA := Lib.hid a1
              clear a1
              go_wp2_with fail
              refine (alloc_any _ _ _ h4 hsh.ok).mono ?_
              rintro e w5 ⟨rfl, h5, g5⟩
              rw [v3] at h5
              go_wp2_with (go_at_call 12; refine (len_any b _ _ h5).mono ?_; rintro e w6 ⟨rfl, rfl⟩)
              go_ret
              exact ⟨rfl, B4.trans (gb_below g5 B4.size (fun k h => by cases h; exact s1))⟩
end Go.Proofs.Ytijhgegdcpmppaa
