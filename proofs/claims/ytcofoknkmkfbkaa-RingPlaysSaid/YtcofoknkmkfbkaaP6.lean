/- The list that a ring gives, and what a range over All collects. -/
import Derived.Test.YtcofoknkmkfbkaaP3
import Derived.RangeFuncNested
import Derived.RangeFuncBound
import Derived.RangeFuncCalls
import Derived.RangeFuncLeaves
import Derived.RangeFuncWrites
import Derived.RangeFuncBox
import Derived.Shelf.Abstract
import Derived.Deep.RegionLaw
import Derived.Shelf.RegionOpen
import Derived.OwnWalkIn
import Derived.TacticsInMore
import Derived.LoopNIn
import Derived.LoopIn
namespace Go.Proofs.Ytcofoknkmkfbkaa
open Go.RowKit Go.Shelf
set_option linter.unusedVariables false
set_option linter.unusedSimpArgs false
attribute [local go_sem] Oper.semAt_some
/-- the numbers l are owned: no block below B -/
def Own (w : World) (B : Nat) (v : Value) (l : List Int) : Prop := w.ownsRow B 3 1 v l.length (l.map (Value.int .i64))

theorem own_same {w w1 : World} {B : Nat} {v : Value} {n : Nat} {xs : List Value} {e : TypeId} {k : Nat} (h : w.ownsRow B e k v n xs) (he : w1.heap = w.heap) : w1.ownsRow B e k v n xs := by
  unfold World.ownsRow at *; rw [he]; exact h
theorem step_append_own {P : Program} {ops : Array Oper} {o : Oper} {a : Act} {w : World} {K : Act → World → Prop} {Q : Exit → Act → World → Prop} {E : Prop}
    (hg : o.guard = none) (s x : Operand) (t : TypeId) (hop : o.op = Op.call { callee := Callee.builtin Builtin.append, args := #[s, x], argTypes := #[t, t] })
    (base : Nat) (e : TypeId) (i : TypeInfo) (z : Value) (size bytes : Nat) (h1 : P.underlying t = some (.slice e)) (h2 : P.info? e = some i) (h3 : i.zero = some z) (h4 : i.size = size) (h5 : i.bytes = bytes) (h6 : z.cells.size = size) (h7 : 0 < size)
    (v : Value) (n : Nat) (xs : List Value) (hs : a.eval s = v) (hown : w.ownsRow base e size v n xs)
    (ad : Addr) (m c : Nat) (news : List Value) (hx : a.eval x = .slice (some ad) m c) (hn : news.length = m * size) (hc : ∀ j u, news[j]? = some u → w.cell? (ad.add j) = some u) (h1c : ∀ u ∈ news, u.oneCell' = true)
    (b1 : n + m ≤ maxLen) (b2 : (n + m) * bytes ≤ 140737488355328) (b3 : base ≤ w.heap.size)
    (hK : ∀ v' w', w'.ownsRow base e size v' (n + m) (xs ++ news) → w.grownBy w' v.ownBlock → K (a.put o.dst v') w') :
    if Region.wanted o (yielded ops a.tmps) = true then Oper.wp P o a w K Q else E := by
  have hw : Region.wanted o (yielded ops a.tmps) = true := by simp [Region.wanted, hg]
  rw [if_pos hw]
  obtain ⟨v', w', hrun, r1, r2, _⟩ := run_append_own (P := P) w base t o.type e i z size bytes h1 h2 h3 h4 h5 h6 h7 v n xs hown ad m c news hn hc h1c b1 b2 b3
  unfold Oper.wp
  simp [execOp, hop, resolve, invoke, builtin, hs, hx, hrun, Result.andThen]
  exact hK v' w' r1 r2
theorem list_nil (w : World) : Calls Try.prog 50 #[.pointer none] w fun e w' => e = .returned (.slice none 0 0) ∧ w = w' := by
  go_enter Try.func50, Try.ntmps50
  go_wp2_with fail
  refine (len_nil w).mono ?_
  rintro e w' ⟨rfl, rfl⟩
  go_wp2_with fail
  go_loopw [3, 4, 7] (fun v u k wr => v = .slice none 0 0 ∧ k = .int .i64 0 ∧ wr = w) (fun v u k wr => 0)
  case atStart => exact ⟨rfl, rfl, rfl⟩
  case round =>
    obtain ⟨rfl, rfl, rfl⟩ := hrel
    go_wp2
    go_ret; exact ⟨rfl, rfl⟩
set_option maxRecDepth 100000 in
set_option maxHeartbeats 4000000 in
theorem list_any {b d N : Nat} {l : List Int} (w : World) (h : IsR w b d N l) : Calls Try.prog 50 #[.pointer (some ⟨b, 0, none⟩)] w fun e w' => ∃ v, e = .returned v ∧ Own w' w.heap.size v l ∧ Below w.heap.size w w' := by
  obtain ⟨i0, hi, hz0, hz1, hz2⟩ := info3
  obtain ⟨f, ar, r, har⟩ := h.p
  have n1 := r.n1
  have n2 := r.n2
  have hcN := r.cN
  have HR := Lib.hid r
  have HA := Lib.hid har
  have HL := Lib.hid (len_any r)
  have hbl := h.bl
  have hdl := h.dl
  clear h r har
  go_enter Try.func50, Try.ntmps50
  go_wp2_with fail
  refine HL.out.mono ?_
  rintro e w' ⟨rfl, rfl⟩
  go_wp2_with fail
  go_loopw [3, 4, 7] (fun v u k wr => ∃ n : Nat, n ≤ l.length ∧ k = .int .i64 n ∧ Own wr w.heap.size v (l.take n) ∧ Below w.heap.size w wr) (fun v u k wr => l.length - (intOf k).toNat)
  case atStart => exact ⟨0, by omega, rfl, World.ownsRow_nil _ _ _ _, Below.refl _ _⟩
  case round =>
    obtain ⟨n, hn, rfl, hown, hb⟩ := hrel
    by_cases hlt : n < l.length
    · have r2 : Raw wr b d N f l.length ar := HR.out.below hb hbl hdl
      have hP := Nat.mod_lt (f + n) (show N > 0 by omega)
      have hx := r2.at_ _ hP
      rw [HA.out n hlt] at hx
      have ht := r2.things
      have HP := Lib.hid (fun (w1 : World) (e : w1.heap = wr.heap) => place_any (r2.same e) n (by omega))
      have ho : wr.ownsRow w.heap.size 3 1 _ (l.take n).length ((l.take n).map (Value.int .i64)) := hown
      have hln : (l.take n).length = n := by rw [List.length_take]; omega
      rw [hln] at ho
      clear r2
      generalize (f + n) % N = p at *
      generalize hX : l.getD n 0 = X at *
      have HX := Lib.hid hX
      clear hX
      have HO := Lib.hid ho
      have HB := Lib.hid hb
      clear ho hown hb
      go_wp2_with fail
      go_region_law (first | (refine step_append_own rfl (.tmp 10) (.tmp 20) 22 rfl w.heap.size 3 i0 (.int .i64 0) 1 8 Try.underlying22 hi hz0 hz1 hz2 rfl (by decide) _ _ _ (by simp [Act.eval, Act.put]) (World.ownsRow.alloc (own_same HO.out (by rfl)) _) ⟨wr.heap.size, 0, none⟩ 1 1 [.int .i64 X] (by simp [Act.eval, Act.put]) rfl (cell_one_new _ _ _) (by simp [Value.oneCell']) (by unfold maxLen; omega) (by omega) (by have := HB.out.size; simp; omega) ?_; intro v8 w8 ho8 hg8) | (go_simp; go_at_call 41; refine (HP.out _ (by rfl)).mono ?_; rintro e w' ⟨rfl, k2, rfl⟩))
      all_goals go_wp2
      all_goals
        have hB8 := below_append (own_same HO.out (show (wr.drewN (1 + k2)).heap = wr.heap from rfl)) (HB.out.trans (gb_below (gb_drewN wr (1 + k2) none) HB.out.size (fun k e => by cases e))) (Nat.le_refl _) hg8
        have e1 : l.take (n + 1) = l.take n ++ [X] := by rw [← HX.out, List.take_add_one, List.getElem?_eq_getElem hlt]; simp [List.getD, hlt]
        exact ⟨⟨n + 1, by omega, by go_num, by unfold Own; rw [e1, List.length_append, hln, List.map_append]; exact ho8, hB8⟩, by simp [intOf]; omega⟩
    · obtain rfl : n = l.length := by omega
      rw [List.take_length] at hown
      have HO := Lib.hid hown
      clear hown
      go_wp2
      go_ret
      exact ⟨_, rfl, HO.out, hb⟩
end Go.Proofs.Ytcofoknkmkfbkaa
