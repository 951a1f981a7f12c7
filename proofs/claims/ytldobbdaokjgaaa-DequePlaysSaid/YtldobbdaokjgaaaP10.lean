/- The deque: New, Items; the deque behind a first world; lives; DequeNil's walk. -/
import Derived.Test.YtldobbdaokjgaaaP6
import Derived.Test.YtldobbdaokjgaaaP9
import Derived.Test.YtldobbdaokjgaaaO
namespace Go.Proofs.Ytldobbdaokjgaaa
open Go.RowKit Go.ChangeShapes Go.WideShapes Go.Deep
set_option linter.unusedVariables false
set_option linter.unusedSimpArgs false
theorem info2 : ∃ i0 : TypeInfo, Try.prog.info? 2 = some i0 ∧ i0.zero = some (.int .i64 0) ∧ i0.size = 1 ∧ i0.bytes = 8 := by
  have h : (Try.prog.info? 2).map (fun i => (i.zero, i.size, i.bytes)) = some (some (.int .i64 0), 1, 8) := by kernel_rfl
  obtain ⟨i0, h1, h2⟩ := Option.map_eq_some_iff.1 h
  simp only [Prod.mk.injEq] at h2
  exact ⟨i0, h1, h2.1, h2.2.1, h2.2.2⟩
def c43 (s : Value) : Array Value := #[.int .i64 0, .int .i64 0, s, .nilFunc, .int .i64 0, .int .i64 0, .int .i64 0, .bool false, .nilFunc, .int .i64 0, .int .i64 0, .int .i64 0, .bool false, .nilFunc, .int .i64 0, .int .i64 0, .int .i64 0, .bool false, .nilFunc, .int .i64 0, .int .i64 0, .int .i64 0, .bool false, .nilFunc, .int .i64 0, .int .i64 0, .int .i64 0, .bool false, .nilFunc, .int .i64 0, .int .i64 0, .int .i64 0, .bool false, .nilFunc, .int .i64 0, .int .i64 0, .int .i64 0, .bool false, .nilFunc, .int .i64 0, .int .i64 0, .int .i64 0, .bool false]
theorem zero68 (w : World) : (zeroValue 68).run Try.prog w = .ok (.agg #[.int .i64 0, .int .i64 0, .slice none 0 0, .nilFunc, .int .i64 0, .int .i64 0, .int .i64 0, .bool false, .nilFunc, .int .i64 0, .int .i64 0, .int .i64 0, .bool false, .nilFunc, .int .i64 0, .int .i64 0, .int .i64 0, .bool false, .nilFunc, .int .i64 0, .int .i64 0, .int .i64 0, .bool false, .nilFunc, .int .i64 0, .int .i64 0, .int .i64 0, .bool false, .nilFunc, .int .i64 0, .int .i64 0, .int .i64 0, .bool false, .nilFunc, .int .i64 0, .int .i64 0, .int .i64 0, .bool false, .nilFunc, .int .i64 0, .int .i64 0, .int .i64 0, .bool false]) w := by kernel_rfl
def Q0 (n : Nat) : Q := { top := 0, bot := 0, n := n, pl := fun _ => 0, th := fun _ => {} }
theorem c43_at (p n : Nat) (i : Nat) (hi : i < 43) : (c43 (.slice (some ⟨p, 0, none⟩) n n))[i]? = some (dqf 0 0 n p (fun _ => {}) i) := by
  match i, hi with
  | 0, _ => rfl
  | 1, _ => rfl
  | 2, _ => rfl
  | 3, _ => rfl
  | 4, _ => rfl
  | 5, _ => rfl
  | 6, _ => rfl
  | 7, _ => rfl
  | 8, _ => rfl
  | 9, _ => rfl
  | 10, _ => rfl
  | 11, _ => rfl
  | 12, _ => rfl
  | 13, _ => rfl
  | 14, _ => rfl
  | 15, _ => rfl
  | 16, _ => rfl
  | 17, _ => rfl
  | 18, _ => rfl
  | 19, _ => rfl
  | 20, _ => rfl
  | 21, _ => rfl
  | 22, _ => rfl
  | 23, _ => rfl
  | 24, _ => rfl
  | 25, _ => rfl
  | 26, _ => rfl
  | 27, _ => rfl
  | 28, _ => rfl
  | 29, _ => rfl
  | 30, _ => rfl
  | 31, _ => rfl
  | 32, _ => rfl
  | 33, _ => rfl
  | 34, _ => rfl
  | 35, _ => rfl
  | 36, _ => rfl
  | 37, _ => rfl
  | 38, _ => rfl
  | 39, _ => rfl
  | 40, _ => rfl
  | 41, _ => rfl
  | 42, _ => rfl
  | k + 43, h => exact absurd h (by omega)
/-- how many places there are -/
def capN (s : Int) : Nat := if s < 1 then 1 else if s ≤ 64 then s.toNat else 64
theorem capN_lo (s : Int) : 1 ≤ capN s := by unfold capN; split; exact Nat.le_refl _; split <;> omega
theorem capN_hi (s : Int) : capN s ≤ 64 := by unfold capN; split; omega; split <;> omega
theorem new_fin (w : World) (n : Nat) (h1 : 1 ≤ n) (h2 : n ≤ 64) : Dq ((w.alloc (.cells (madeCells #[.int .i64 0] n) 2)).alloc (.cells (c43 (.slice (some ⟨w.heap.size, 0, none⟩) n n)) 68)) (w.heap.size + 1) w.heap.size (Q0 n) := by
  refine ⟨?_, World.rowIs.alloc (World.rowIs_made _ _ _ _) _, by omega, h1, h2⟩
  have := row_new (w.alloc (.cells (madeCells #[.int .i64 0] n) 2)) (c43 (.slice (some ⟨w.heap.size, 0, none⟩) n n)) 68 43 (dqf 0 0 n w.heap.size (fun _ => {})) rfl (c43_at w.heap.size n)
  rw [show (w.alloc (.cells (madeCells #[.int .i64 0] n) 2)).heap.size = w.heap.size + 1 by simp] at this
  exact this
set_option maxRecDepth 100000 in
set_option maxHeartbeats 2000000 in
theorem new_any (s : Int) (w : World) : Calls Try.prog 10 #[.int .i64 s] w fun e w' => e = .returned (.pointer (some ⟨w.heap.size + 1, 0, none⟩)) ∧ Dq w' (w.heap.size + 1) w.heap.size (Q0 (capN s)) ∧ Fr w w' (fun _ => False) := by
  obtain ⟨i0, hi, hz0, hz1, hz2⟩ := info2
  have hmk : ∀ w, (Instr.makeSlice 37 (.int .i64 (capN s)) (.int .i64 (capN s))).run Try.prog w = .ok (.slice (some ⟨w.heap.size, 0, none⟩) (capN s) (capN s)) (w.alloc (.cells (madeCells #[.int .i64 0] (capN s)) 2)) := fun w => by
    have := run_make w 37 2 i0 (.int .i64 0) Try.underlying37 hi hz0 .i64 .i64 (capN s) (capN s) (by omega) (Int.le_refl _) (by have := capN_hi s; rw [hz2]; omega) (by have := capN_hi s; omega)
    simpa [hz1, Value.cells] using this
  have HF := Lib.hid (new_fin w (capN s) (capN_lo s) (capN_hi s))
  have hz := zero68
  clear hi
  have hN : ∃ c : Int, c = capN s ∧ ((s < 1 ∧ c = 1) ∨ (s = c ∧ 1 ≤ c ∧ c ≤ 64) ∨ (1 ≤ s ∧ 64 < s ∧ c = 64)) := by
    unfold capN
    by_cases h1 : s < 1
    · exact ⟨1, by simp [h1], .inl ⟨h1, rfl⟩⟩
    · by_cases h2 : s ≤ 64
      · exact ⟨s, by simp [h1, h2]; omega, .inr (.inl ⟨rfl, by omega, h2⟩)⟩
      · exact ⟨64, by simp [h1, h2], .inr (.inr ⟨by omega, by omega, rfl⟩)⟩
  obtain ⟨c, hc, hN⟩ := hN
  rw [← hc] at hmk
  generalize capN s = C at *
  clear hc
  unfold c43 at HF
  rcases hN with ⟨h1, rfl⟩ | ⟨rfl, h1, h2⟩ | ⟨h1, h2, rfl⟩
  all_goals
    go_enter Try.func10, Try.ntmps10
    go_wp2
    go_ret
    exact ⟨by simp, HF.out, (fr_alloc _ _ _).trans' (fr_alloc _ _ _)⟩
/-- the numbers l are owned: no block below B -/
def Own (w : World) (B : Nat) (v : Value) (l : List Int) : Prop := w.ownsRow B 2 1 v l.length (l.map (Value.int .i64))
theorem own_slice {w : World} {B : Nat} {v : Value} {l : List Int} (h : Own w B v l) : ∃ a cap, v = .slice a l.length cap := by
  rcases h with ⟨_, ⟨h2, h3⟩ | ⟨s, cap, cur, e, _⟩⟩
  · exact ⟨none, 0, by rw [h2, h3]⟩
  · exact ⟨_, _, e⟩
theorem items_nil (w : World) : Calls Try.prog 16 #[.pointer none] w fun e w' => e = .returned (.slice none 0 0) ∧ w' = w := by
  go_enter Try.func16, Try.ntmps16
  go_wp2_with fail
  refine (top_nil w).mono ?_
  rintro e w' ⟨rfl, rfl⟩
  go_wp2_with fail
  go_loopw [3, 4] (fun v k wr => v = .slice none 0 0 ∧ k = .int .i64 0 ∧ wr = w') (fun v k wr => 0)
  case atStart => exact ⟨rfl, rfl, rfl⟩
  case round =>
    obtain ⟨rfl, rfl, rfl⟩ := hrel
    go_wp2_with fail
    refine (bot_nil _).mono ?_
    rintro e w' ⟨rfl, rfl⟩
    go_wp2
    go_ret
    exact ⟨rfl, rfl⟩
theorem items_at (q : Q) (n : Nat) (h : n < (items q).length) : (items q).take (n + 1) = (items q).take n ++ [q.pl (plc (q.top + n) q.n)] := by
  have hl := items_len q
  rw [List.take_add_one]
  congr 1
  unfold items
  rw [List.getElem?_map, List.getElem?_range (by omega)]
  rfl
set_option maxRecDepth 100000 in
set_option maxHeartbeats 4000000 in
theorem items_any {w : World} {b p : Nat} {q : Q} (h : Dq w b p q) (h0 : 0 ≤ q.top) (h1 : q.bot ≤ 1000000000000000000) (hd : q.bot - q.top ≤ 64) :
    Calls Try.prog 16 #[.pointer (some ⟨b, 0, none⟩)] w fun e w' => ∃ v, e = .returned v ∧ Own w' w.heap.size v (items q) ∧ Below w.heap.size w w' := by
  obtain ⟨i0, hi, hz0, hz1, hz2⟩ := info2
  have H := Lib.hid h
  have HN := Lib.hid (items_at q)
  have hlen := items_len q
  have HT := Lib.hid (fun (W : World) (h : Dq W b p q) => top_any h)
  have HBo := Lib.hid (fun (W : World) (h : Dq W b p q) => bot_any h)
  have HPl := Lib.hid (fun (W : World) (h : Dq W b p q) (x : Int) => place_any h x)
  have HC := Lib.hid (fun (W : World) (h : Dq W b p q) (x : Int) => h.cp (plc x q.n) (plc_lt x q.n h.n1))
  have hlen' : (items q).length = (q.bot - q.top).toNat := hlen
  clear h hlen
  generalize items q = l at *
  generalize htp : q.top = tp at *
  generalize hbt : q.bot = bt at *
  have HQ := Lib.hid (And.intro htp hbt)
  clear htp hbt
  go_enter Try.func16, Try.ntmps16
  go_wp2_with fail
  refine (HT.out _ H.out).mono ?_
  rintro e w' ⟨rfl, rfl⟩
  go_wp2_with fail
  go_loopw [3, 4] (fun v k wr => ∃ n : Nat, n ≤ l.length ∧ k = .int .i64 (tp + (n : Int)) ∧ Own wr w'.heap.size v (l.take n) ∧ Below w'.heap.size w' wr) (fun v k wr => (bt - intOf k).toNat)
  case atStart => exact ⟨0, by omega, by rw [show tp + ((0 : Nat) : Int) = tp by omega], World.ownsRow_nil _ _ _ _, Below.refl _ _⟩
  case round =>
    obtain ⟨n, hn, rfl, hown, hb⟩ := hrel
    have H2 := H.out.below hb
    by_cases hlt : n < l.length
    · have hlt2 : tp + (n : Int) < bt := by omega
      have hcell := HC.out _ H2 (tp + (n : Int))
      have hadd := HN.out n hlt
      have HP := HPl.out _ H2 (tp + (n : Int))
      generalize plc (tp + (n : Int)) q.n = P at *
      generalize q.pl P = X at *
      have HX := Lib.hid hadd
      have ho : wr.ownsRow w'.heap.size 2 1 u3 (l.take n).length ((l.take n).map (Value.int .i64)) := hown
      have hln : (l.take n).length = n := by rw [List.length_take]; omega
      have HLN := Lib.hid hln
      have HO := Lib.hid ho
      have HB := Lib.hid hb
      have HLT := Lib.hid (And.intro hlt (And.intro hn hlen'))
      have hn64 : n < 64 := by omega
      clear hown hb hadd hln hlt hn hlen' ho
      go_wp2_with fail
      refine (HBo.out _ H2).mono ?_
      rintro e w2 ⟨rfl, rfl⟩
      go_wp2_with fail
      refine HP.mono ?_
      rintro e w3 ⟨rfl, m, rfl⟩
      have hown3 : (w2.drewN m).ownsRow w'.heap.size 2 1 u3 (l.take n).length ((l.take n).map (Value.int .i64)) := HO.out
      have hwr : IntKind.i64.wrap (tp + (n : Int) + 1) = tp + (n : Int) + 1 := by rw [IntKind.wrap_i64]; omega
      have HWR := Lib.hid hwr
      have HSZ := Lib.hid HB.out.size
      clear hwr HP H2
      go_wp2_with (at_builtin; refine wpList_append_own _ rfl _ _ 37 rfl w'.heap.size 2 i0 (.int .i64 0) 1 8 Try.underlying37 hi hz0 hz1 hz2 rfl (by decide) _ _ _ rfl (hown3.alloc _) ⟨(w2.drewN m).heap.size, 0, none⟩ 1 1 [.int .i64 X] rfl rfl (cell_one_new _ _ _) (by simp [Value.oneCell']) (by have := HLN.out; unfold maxLen; omega) (by have := HLN.out; omega) (by have := HSZ.out; simp; omega) ?_; intro v' w1 hown1 hgrow _)
      have hg : ((w2.drewN m).alloc (.cells #[.int .i64 X] 2)).grownBy w1 u3.ownBlock := hgrow
      have hbm := below_append hown3 (HB.out.trans (gb_below (gb_drewN w2 m none) HSZ.out (fun k e => by cases e))) (Nat.le_refl _) hg
      have hl := HLT.out
      have hw2 : wrap64 (tp + (n : Int) + 1) = tp + (n : Int) + 1 := wrE _ (by omega) (by omega)
      go_roundw
      case rel =>
        refine ⟨n + 1, by omega, by first | (rw [hw2]; congr 1; omega) | (congr 1; omega), ?_, hbm⟩
        show w1.ownsRow _ _ _ _ _ _
        rw [HX.out]; simpa using hown1
      case measure => simp only [intOf]; (try rw [hw2]); omega
    · have hlt2 : ¬ (tp + (n : Int) < bt) := by omega
      obtain rfl : n = l.length := by omega
      rw [List.take_length] at hown
      have HO := Lib.hid hown
      have HB := Lib.hid hb
      clear hown hb hlen' hn hlt
      go_wp2_with fail
      refine (HBo.out _ H2).mono ?_
      rintro e w2 ⟨rfl, rfl⟩
      go_wp2
      go_ret
      exact ⟨_, rfl, HO.out, HB.out⟩
end Go.Proofs.Ytldobbdaokjgaaa
