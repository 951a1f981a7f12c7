/- Back, the iterator; the reference. -/
import Derived.Test.YtcofoknkmkfbkaaP8
namespace Go.Proofs.Ytcofoknkmkfbkaa
open Go.RowKit Go.Shelf
set_option linter.unusedVariables false
set_option linter.unusedSimpArgs false
attribute [local go_sem] Oper.semAt_some

/-- the numbers that Back gives: the last m of l, the last one first -/
def bks (l : List Int) (m : Nat) : List Int := (List.range m).map (fun i => l.getD (l.length - 1 - i) 0)
theorem bks_prefix (l : List Int) (m n : Nat) (h : m ≤ n) : bks l m <+: bks l n := by
  obtain ⟨k, rfl⟩ : ∃ k, n = m + k := ⟨n - m, by omega⟩
  unfold bks
  rw [List.range_add, List.map_append]
  exact List.prefix_append _ _
set_option maxRecDepth 100000 in
set_option maxHeartbeats 2000000 in
theorem back_iter (F : Fence) (n : Nat) (h49 : F.fn 49) (h50 : ∀ (w : World) (p0 : Option Addr) (l : List Int), GivesR w p0 l → CallsIn F (n - 1) Try.prog 50 #[.pointer p0] w fun e w' => ∃ v, e = .returned v ∧ Own w' w.heap.size v l ∧ Below w.heap.size w w') (h50f : F.fn 50) (hro : F.round = none) (hn : 1 ≤ n) (S : World → Nat → Prop) (lp Bx : Nat) (p0 : Option Addr) (l : List Int) (J Jx : List Int → World → Prop) (W : World)
    (hJ : AbidesFrom W.heap.size J) (hS : ∀ W1, Below W.heap.size W W1 → ∀ k, S W1 k → k < W.heap.size)
    (hY : ∀ pre x W1, J pre W1 → pre.length < 4096 → YieldAt F (n - 1) Try.prog lp #[.int .i64 x] W1 fun e W' =>
      (e = .returned (.bool true) ∧ J (pre ++ [x]) W' ∧ KpS S W1 W') ∨ (e = .returned (.bool false) ∧ Jx (pre ++ [x]) W'))
    (hB : W.cell? ⟨Bx, 0, none⟩ = some (.pointer p0)) (hl : GivesR W p0 l) (h0 : J [] W) :
    CallsIn F n Try.prog 49 #[.func (.yield lp) #[] #[], .pointer (some ⟨Bx, 0, none⟩)] W fun e W' => (∃ v, e = .returned v) ∧
      ((∃ ys, ys = bks l l.length ∧ J ys W') ∨ (∃ pre, pre <+: bks l l.length ∧ Jx pre W')) := by
  have hlen := hl.len
  have HL := Lib.hid hl
  clear hl
  refine callsIn_of_wp Try.func49 rfl h49 ?_ hro
  simp only [Try.ntmps49, List.size_toArray, List.length_cons, List.length_nil, Nat.reduceAdd, Nat.reduceSub, Array.replicate_succ, Array.replicate_zero, List.push_toArray, List.append_toArray, List.nil_append, List.cons_append]
  gi_wp2_with fail
  refine (h50 _ _ _ HL.out).mono ?_
  rintro e W1 ⟨v, rfl, hown, hbel⟩
  obtain ⟨a, cap, rfl⟩ := own_slice hown
  have hJ1 : J [] W1 := hJ _ _ _ none h0 (below_gb hbel none) (fun r e => by cases e)
  have hns : ∀ s, (Value.slice a l.length cap).ownBlock = some s → ¬ S W1 s := fun s e hs => by
    have := hS W1 hbel s hs
    have := (World.ownsRow.lt hown s e).1
    omega
  gi_wp2_with fail
  gi_loopw [4, 9] (fun i k wr => ∃ m : Nat, m ≤ l.length ∧ k = .int .i64 m ∧ J (bks l m) wr ∧ Own wr W.heap.size (.slice a l.length cap) l ∧ ∀ s, (Value.slice a l.length cap).ownBlock = some s → ¬ S wr s) (fun i k wr => l.length - (intOf k).toNat)
  case atStart => exact ⟨0, by omega, rfl, hJ1, hown, hns⟩
  case round =>
    clear hJ1 hown hns
    obtain ⟨m, hm, rfl, hj, hown, hns⟩ := hrel
    by_cases hlt : m < l.length
    · obtain ⟨b, rfl, _, _, hc⟩ := own_cell hown (l.length - 1 - m) (by omega)
      obtain ⟨fn, tmps, assign, body, hy, hR⟩ := hY (bks l m) (l.getD (l.length - 1 - m) 0) _ hj (by simp [bks]; omega)
      have HE : Hid (bks l (m + 1) = bks l m ++ [l.getD (l.length - 1 - m) 0]) := Lib.hid (by simp [bks, List.range_succ])
      generalize l.getD (l.length - 1 - m) 0 = X at *
      obtain ⟨q, hq, hq2⟩ : ∃ q : Nat, (l.length : Int) - 1 - (m : Int) = q ∧ q = l.length - 1 - m := ⟨_, by omega, rfl⟩
      have hql : q < l.length := by omega
      rw [← hq2] at hc
      clear hq2
      gi_wp2
      refine hR.mono ?_
      rintro e W3 (⟨rfl, hJ3, hk3⟩ | ⟨rfl, hJx3⟩)
      · have hown3 := own_kps hown hk3 hns
        have hns3 : ∀ s, (Value.slice (some ⟨b, 0, none⟩) l.length cap).ownBlock = some s → ¬ S W3 s := fun s e hs => hns s e (hk3.back s (World.ownsRow.lt hown s e).2 hs)
        gi_wp2
        go_roundw
        case rel => exact ⟨m + 1, by omega, by go_num, by rw [HE.out]; exact hJ3, hown3, hns3⟩
        case measure => simp [intOf]; omega
      · gi_wp2
        refine bodyPost_ret (results_none rfl _ _ _) rfl ?_
        refine ⟨⟨_, rfl⟩, .inr ⟨_, ?_, hJx3⟩⟩
        rw [← HE.out]
        exact bks_prefix l (m + 1) l.length (by omega)
    · obtain rfl : m = l.length := by omega
      gi_wp2
      go_end0
      exact ⟨⟨_, rfl⟩, .inl ⟨_, rfl, hj⟩⟩
set_option maxHeartbeats 1000000 in
theorem back_in (F : Fence) (n : Nat) (h5 : F.fn 33) (hro : F.round = none) (p0 : Option Addr) (w : World) :
    CallsIn F n Try.prog 33 #[.pointer p0] w fun e w' => e = .returned (.func (.func 49) #[] #[.pointer (some ⟨w.heap.size, 0, none⟩)]) ∧ w' = w.alloc (.cells #[.pointer p0] 26) := by
  refine callsIn_of_wp Try.func33 rfl h5 ?_ hro
  simp only [Try.ntmps33, List.size_toArray, List.length_cons, List.length_nil, Nat.reduceAdd, Nat.reduceSub, Array.replicate_succ, Array.replicate_zero, List.push_toArray, List.append_toArray, List.nil_append, List.cons_append]
  gi_wp2
  go_ret
  exact ⟨rfl, rfl⟩
theorem back_stops (n : Nat) (hn : 1 ≤ n) (S : World → Nat → Prop) (Bx : Nat) (p0 : Option Addr) (l : List Int) (w : World) (hBx : Bx < w.heap.size)
    (hS : ∀ W W1, Below w.heap.size w W → Below W.heap.size W W1 → ∀ k, S W1 k → k < W.heap.size)
    (hc : w.cell? ⟨Bx, 0, none⟩ = some (.pointer p0)) (hL : GivesR w p0 l) :
    SeqStopsK Fence.wide n Try.prog 49 #[.pointer (some ⟨Bx, 0, none⟩)] (fun x : Int => #[Value.int .i64 x]) (KpS S) (fun ys => ys = bks l l.length) (fun pre => pre <+: bks l l.length) 4096 w := fun lp J Jx W hW hJ hJx hY h0 =>
  back_iter Fence.wide n trivial (fun w p0 l h => callsIn_wide.2 (list_p h)) trivial rfl hn S lp Bx p0 l J Jx W hJ (hS W · hW) hY ((hW.cell (p := ⟨Bx, 0, none⟩) hBx).trans hc) (hL.below hW) h0
end Go.Proofs.Ytcofoknkmkfbkaa
