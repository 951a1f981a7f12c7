/- The ring of workers: bits.Mul and slices.Repeat, as New calls them. -/
import Derived.Test.YtmagenfndbaliaaK
import Derived.Shelf.Bits.Mul64
import Derived.Laws.CopyRow
import Derived.Laws.CopyOwn
import Derived.Deep.RegionLaw
namespace Go.Proofs.Ytmagenfndbaliaa
open Go.RowKit
set_option linter.unusedVariables false
set_option linter.unusedSimpArgs false
set_option maxHeartbeats 1000000 in
theorem mul64_one (n : Nat) (hn : n ≤ 64) (w : World) : Calls Try.prog 21 #[.int .u64 1, .int .u64 n] w fun e w' => e = .returned (.tuple #[.int .u64 0, .int .u64 n]) ∧ w' = w := by
  have hm := Mul64.maskN n (by omega)
  have hm1 : bits .and .u64 (1 : Int) 4294967295 = 1 := Mul64.maskN 1 (by omega)
  have hm0 : bits .and .u64 (0 : Int) 4294967295 = 0 := Mul64.maskN 0 (by omega)
  have hd : (n : Int) / 4294967296 = 0 := by omega
  rw [Nat.mod_eq_of_lt (by omega)] at hm
  have hw : IntKind.u64.wrap (n : Int) = n := by rw [IntKind.wrap_u64]; omega
  have h0 : IntKind.u64.wrap 0 = 0 := by rw [IntKind.wrap_u64]; omega
  go_enter Try.func21, Try.ntmps21
  go_wp2
  go_ret2
  simp [hw, hd, h0, hm0, hm1]
set_option maxHeartbeats 1000000 in
theorem mul_one (n : Nat) (hn : n ≤ 64) (w : World) : Calls Try.prog 19 #[.int .u64 1, .int .u64 n] w fun e w' => e = .returned (.tuple #[.int .u64 0, .int .u64 n]) ∧ w' = w := by
  go_enter Try.func19, Try.ntmps19
  go_wp2_with fail
  refine (mul64_one n hn _).mono ?_
  rintro e w' ⟨rfl, rfl⟩
  go_wp2
  go_ret2
  exact ⟨rfl, rfl⟩
theorem info48 : ∃ i0 : TypeInfo, Try.prog.info? 48 = some i0 ∧ i0.zero = some (.int .i64 0) ∧ i0.size = 1 ∧ i0.bytes = 8 := by
  have h : (Try.prog.info? 48).map (fun i => (i.zero, i.size, i.bytes)) = some (some (.int .i64 0), 1, 8) := by kernel_rfl
  obtain ⟨i0, h1, h2⟩ := Option.map_eq_some_iff.1 h
  simp only [Prod.mk.injEq] at h2
  exact ⟨i0, h1, h2.1, h2.2.1, h2.2.2⟩
theorem make46 (n : Nat) (hn : n ≤ 64) (w : World) : (Instr.makeSlice 46 (.int .i64 n) (.int .i64 n)).run Try.prog w = .ok (.slice (some ⟨w.heap.size, 0, none⟩) n n) (w.alloc (.cells (madeCells #[.int .i64 0] n) 48)) := by
  have h : (Try.prog.info? 48).map (fun i => (i.zero, i.size, i.bytes)) = some (some (.int .i64 0), 1, 8) := by kernel_rfl
  exact run_make_row' 46 48 (.int .i64 0) 8 Try.underlying46 h rfl .i64 .i64 n (by omega) (by omega) w
/-- the first m of n cells are black -/
def blk (n m : Nat) (j : Nat) : Value := if j < m then .int .i64 1 else .int .i64 0
/-- copy of the first cells behind them -/
theorem copy_any (w : World) (g n m : Nat) (hr : w.rowIs g 48 n (blk n m)) (ad : Addr) (sn sc dn dc ty : Nat) (hdn : m + dn = n) (hs : ∀ j, j < Nat.min sn dn → w.cell? (ad.add j) = some (.int .i64 1)) :
    ∃ w', (Builtin.copy_ #[46, 46] ty #[.slice (some ⟨g, m, none⟩) dn dc, .slice (some ad) sn sc]).run Try.prog w = .ok (.int .i64 (Nat.min sn dn : Nat)) w' ∧ w'.rowIs g 48 n (blk n (m + Nat.min sn dn)) ∧ w.grownBy w' (some g) := by
  obtain ⟨cur, hc, hsz, hcur⟩ := hr
  generalize hk : Nat.min sn dn = k at *
  have hkd : k ≤ dn := by rw [← hk]; exact Nat.min_le_right _ _
  have hrun := run_copy_row Try.prog w 46 46 ty 48 g m dn dc ad sn sc cur 48 (List.replicate k (.int .i64 1)) Try.underlying46 (by kernel_rfl) hc (by simp [hk]) (fun j v hj => by
    rw [List.getElem?_replicate] at hj
    split at hj
    · rename_i h; cases hj; exact hs j h
    · cases hj) (by simp; omega) (fun v hv => by rw [List.eq_of_mem_replicate hv]; rfl)
  rw [List.length_replicate] at hrun
  refine ⟨_, hrun, ?_, ?_⟩
  · refine ⟨_, setRow_heap w g cur _ 48 _ hc, by simp; omega, fun i hi => ?_⟩
    have hi' := hcur i hi
    simp only [List.getElem?_toArray, List.getElem?_append, List.length_append, List.length_take, List.length_replicate, Array.length_toList, List.getElem?_take, List.getElem?_drop, List.getElem?_replicate, Array.getElem?_toList]
    unfold blk at hi' ⊢
    by_cases h1 : i < m
    · rw [if_pos (by omega), if_pos (by omega), if_pos h1, if_pos (by omega), hi', if_pos h1]
    · by_cases h2 : i < m + k
      · rw [if_pos (by omega), if_neg (by omega), if_pos (by omega), if_pos h2]
      · rw [if_neg (by omega), if_neg h2, show m + k + (i - (min m cur.size + k)) = i by omega, hi', if_neg h1]
  · exact ⟨rfl, rfl, rfl, by simp, fun j hj hn => setRow_other w g j _ (fun e => hn (by rw [e]))⟩
theorem step_cp {ops : Array Oper} {o : Oper} {a : Act} {w : World} {K : Act → World → Prop} {Q : Exit → Act → World → Prop} {E : Prop}
    (hg : o.guard = none) (s x : Operand) (hop : o.op = Op.call { callee := Callee.builtin Builtin.copy, args := #[s, x], argTypes := #[46, 46] })
    (g n m sn sc dn dc : Nat) (ad : Addr) (hs : a.eval s = .slice (some ⟨g, m, none⟩) dn dc) (hx : a.eval x = .slice (some ad) sn sc) (hr : w.rowIs g 48 n (blk n m)) (hdn : m + dn = n) (hc : ∀ j, j < Nat.min sn dn → w.cell? (ad.add j) = some (.int .i64 1))
    (hK : ∀ w', w'.rowIs g 48 n (blk n (m + Nat.min sn dn)) → w.grownBy w' (some g) → K (a.put o.dst (.int .i64 (Nat.min sn dn : Nat))) w') : if Region.wanted o (yielded ops a.tmps) = true then Oper.wp Try.prog o a w K Q else E := by
  have hw : Region.wanted o (yielded ops a.tmps) = true := by simp [Region.wanted, hg]
  rw [if_pos hw]
  obtain ⟨w', hrun, h1, h2⟩ := copy_any w g n m hr ad sn sc dn dc o.type hdn hc
  unfold Oper.wp
  simp [execOp, hop, resolve, invoke, builtin, hs, hx, hrun, Result.andThen]
  exact hK w' h1 h2
theorem list_cp {ops : Array Oper} {rest : List Oper} {o : Oper} {a : Act} {w : World} {Q : Exit → Act → World → Prop}
    (hg : o.guard = none) (s x : Operand) (hop : o.op = Op.call { callee := Callee.builtin Builtin.copy, args := #[s, x], argTypes := #[46, 46] })
    (g n m sn sc dn dc : Nat) (ad : Addr) (hs : a.eval s = .slice (some ⟨g, m, none⟩) dn dc) (hx : a.eval x = .slice (some ad) sn sc) (hr : w.rowIs g 48 n (blk n m)) (hdn : m + dn = n) (hc : ∀ j, j < Nat.min sn dn → w.cell? (ad.add j) = some (.int .i64 1))
    (hK : ∀ w', w'.rowIs g 48 n (blk n (m + Nat.min sn dn)) → w.grownBy w' (some g) → wpList Try.prog ops Q rest (a.put o.dst (.int .i64 (Nat.min sn dn : Nat))) w') : wpList Try.prog ops Q (o :: rest) a w := by
  refine wpList_plain hg fun K hK' => ?_
  obtain ⟨w', hrun, h1, h2⟩ := copy_any w g n m hr ad sn sc dn dc o.type hdn hc
  unfold Oper.wp
  simp [execOp, hop, resolve, invoke, builtin, hs, hx, hrun, Result.andThen]
  exact hK' _ _ (hK w' h1 h2)
set_option maxRecDepth 100000 in
set_option maxHeartbeats 2000000 in
theorem repeat_any (w : World) (X n : Nat) (hX : w.cell? ⟨X, 0, none⟩ = some (.int .i64 1)) (hXl : X < w.heap.size) (h1 : 1 ≤ n) (h2 : n ≤ 64) :
    Calls Try.prog 17 #[.slice (some ⟨X, 0, none⟩) 1 1, .int .i64 n] w fun e w' => e = .returned (.slice (some ⟨w.heap.size, 0, none⟩) n n) ∧ w'.rowIs w.heap.size 48 n (fun _ => .int .i64 1) ∧ w.grownBy w' none := by
  have hn0 : ¬ (n : Int) < 0 := by omega
  have hu : IntKind.u64.wrap (n : Int) = n := by rw [IntKind.wrap_u64]; omega
  have hi : IntKind.i64.wrap (n : Int) = n := by rw [IntKind.wrap_i64]; omega
  have hb : ¬ ((9223372036854775807 : Int) < n) := by omega
  have hmk := make46 n h2
  go_enter Try.func17, Try.ntmps17
  go_wp2_with fail
  refine (mul_one n h2 _).mono ?_
  rintro e w' ⟨rfl, rfl⟩
  have hr0 : (w'.alloc (.cells (madeCells #[.int .i64 0] n) 48)).rowIs w'.heap.size 48 n (blk n 0) := by
    refine row_new w' _ 48 n _ (size_madeCells _ _) (fun i hlt => ?_)
    unfold blk
    rw [if_neg (by omega)]
    simp [madeCells, hlt, Nat.mod_one]
  have hx0 : (w'.alloc (.cells (madeCells #[.int .i64 0] n) 48)).cell? ⟨X, 0, none⟩ = some (.int .i64 1) := by rw [World.cell?_alloc_past _ _ _ hXl]; exact hX
  have hm1 : Nat.min 1 n = 1 := Nat.min_eq_left h1
  go_wp2_with (refine list_cp rfl (.tmp 31) (.tmp 32) rfl w'.heap.size n 0 1 1 n n ⟨X, 0, none⟩ rfl rfl hr0 (Nat.zero_add n) (fun j hj => by have : j = 0 := by omega
                                                                                                                                             subst this; exact hx0) ?_; intro w2 hr2 hg2)
  rw [hm1] at hr2
  have hgn : w'.grownBy w2 none := gb_new (gb_alloc w' _ none) hg2 (Nat.le_refl _)
  generalize hG : w'.heap.size = G at *
  clear hr0 hx0 hg2 hm1 hmk
  have HX := Lib.hid hG
  have H2 := Lib.hid h2
  clear hG
  go_loopw [8] (fun kv wr => ∃ m : Nat, 1 ≤ m ∧ m ≤ n ∧ kv = .int .i64 m ∧ wr.rowIs G 48 n (blk n m) ∧ w'.grownBy wr none) (fun kv wr => n - (intOf kv).toNat)
  case atStart => exact ⟨1, by omega, h1, rfl, hr2, hgn⟩
  case round =>
    clear hr2 hgn
    obtain ⟨m, hm1, hmn, rfl, hr, hg⟩ := hrel
    by_cases hlt : m < n
    · have c1 : (m : Int) < n := by omega
      have c2 : (m : Int) ≤ n := by omega
      have c0 : (0 : Int) ≤ m := by omega
      have hnm : ((n : Int) - m).toNat = n - m := by omega
      have HNE := Lib.hid (show ¬ n = m by omega)
      have HR := Lib.hid hr
      have HG := Lib.hid hg
      have HC := Lib.hid (fun (j : Nat) (hj : j < Nat.min m (n - m)) => show wr.drew.cell? ((⟨G, 0, none⟩ : Addr).add j) = some (.int .i64 1) by
        have hj2 : j < m := Nat.lt_of_lt_of_le hj (Nat.min_le_left _ _)
        rw [Go.WideShapes.add_plain, Nat.zero_add]
        refine row_val (show wr.drew.rowIs G 48 n (blk n m) from hr) (by omega) ?_
        unfold blk; rw [if_pos hj2])
      clear hr hg
      go_wp2_with fail
      go_region_law (refine step_cp rfl (.tmp 41) (.tmp 44) rfl G n m m n (n - m) (n - m) ⟨G, 0, none⟩ (by simp [Act.eval, Act.put, HNE.out]) (by simp [Act.eval, Act.put]) HR.out (by omega) (fun j hj => HC.out j hj) ?_; intro w4 hr4 hg4)
      go_wp2
      have hk : 1 ≤ Nat.min m (n - m) ∧ m + Nat.min m (n - m) ≤ n := by
        have e : Nat.min m (n - m) = min m (n - m) := rfl
        rw [e]; omega
      generalize Nat.min m (n - m) = k at *
      have hk2 := H2.out
      have hwk : IntKind.i64.wrap ((m : Int) + k) = ((m + k : Nat) : Int) := by rw [IntKind.wrap_i64]; omega
      rw [hwk]
      refine ⟨⟨m + k, by omega, hk.2, rfl, hr4, gb_new (gb_trans HG.out (gb_drew wr none)) hg4 (by rw [HX.out]; exact Nat.le_refl _)⟩, by simp [intOf]; omega⟩
    · obtain rfl : m = n := by omega
      have HR := Lib.hid hr
      have HG := Lib.hid hg
      clear hr hg
      go_wp2
      go_ret
      have e := HX.out
      subst e
      refine ⟨rfl, HR.out.congr (fun i hi => ?_), HG.out⟩
      unfold blk; rw [if_pos hi]
end Go.Proofs.Ytmagenfndbaliaa
