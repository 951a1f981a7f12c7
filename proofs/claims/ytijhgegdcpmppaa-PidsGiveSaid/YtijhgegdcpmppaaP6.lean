/- PidsNil's walk, and the law's small calls: which, has, SameLongs. -/
import Derived.Test.YtijhgegdcpmppaaP5
namespace Go.Proofs.Ytijhgegdcpmppaa
open Go.RowKit
set_option linter.unusedVariables false
set_option linter.unusedSimpArgs false

theorem own_slice {w : World} {B : Nat} {v : Value} {l : List Int} (h : Own w B v l) : ∃ a cap, v = .slice a l.length cap := by
  rcases h.2 with ⟨rfl, h0⟩ | ⟨g, cap, cur, rfl, _⟩
  · exact ⟨none, 0, by rw [h0]⟩
  · exact ⟨_, cap, rfl⟩
theorem own_cell {w : World} {B : Nat} {a : Option Addr} {cap : Nat} {l : List Int} (h : Own w B (.slice a l.length cap) l) (i : Nat) (hi : i < l.length) :
    ∃ b, a = some ⟨b, 0, none⟩ ∧ B ≤ b ∧ b < w.heap.size ∧ w.cell? ⟨b, i, none⟩ = some (.int .i64 (l.getD i 0)) := by
  rcases h.2 with ⟨he, h0⟩ | ⟨g, cap', cur, he, hb, hg, _⟩
  · omega
  · cases he
    refine ⟨g, rfl, hb, (Array.getElem?_eq_some_iff.1 hg).1, ?_⟩
    have := World.ownsRow.cells h (g := g) rfl i (.int .i64 (l.getD i 0)) (by simp [List.getD, hi])
    rw [Go.WideShapes.add_plain] at this
    simpa using this
theorem own_below {w w' : World} {B C : Nat} {v : Value} {l : List Int} (h : Own w B v l) (g : Below C w w') (hC : w.heap.size ≤ C) : Own w' B v l :=
  World.ownsRow.kept h (row := none) ⟨g.os, g.tape, g.output, g.size, fun k hk _ => g.block k (by omega)⟩ (by cases hv : v.ownBlock <;> simp)
theorem own_kept {w w' : World} {B : Nat} {v : Value} {l : List Int} {r : Option Nat} (h : Own w B v l) (g : w.grownBy w' r) (hne : ∀ k, v.ownBlock = some k → r ≠ some k) : Own w' B v l :=
  World.ownsRow.kept h g (by
    cases hv : v.ownBlock with
    | none => exact .inl rfl
    | some k => exact .inr (fun e => hne k hv e.symm))

set_option maxHeartbeats 1000000 in
theorem nil_any (p : Int) (w : World) : Calls Try.prog 5 #[.int .i64 p] w fun e w' => e = .returned (.bool true) ∧ Below w.heap.size w w' := by
  go_enter Try.func5, Try.ntmps5
  go_wp2_with fail
  refine (lives_any _).mono ?_
  rintro e w1 ⟨rfl, g1⟩
  go_wp2_with (first | (go_at_call 9; refine (alloc_nil _).mono ?_; rintro e w' ⟨rfl, rfl⟩) | (go_at_call 10; refine (free_nil _ _).mono ?_; rintro e w' ⟨rfl, rfl⟩) | (go_at_call 11; refine (slot_nil _ _).mono ?_; rintro e w' ⟨rfl, rfl⟩) | (go_at_call 18; refine (live_nil _ _).mono ?_; rintro e w' ⟨rfl, rfl⟩) | (go_at_call 12; refine (len_nil _).mono ?_; rintro e w' ⟨rfl, rfl⟩) | (go_at_call 21; refine (coll_any none [] _ (.inl ⟨rfl, rfl⟩)).mono ?_; rintro e w2 ⟨v, rfl, ho, hb⟩; obtain ⟨a, cap, rfl⟩ := own_slice ho))
  go_ret
  exact ⟨rfl, (gb_below g1 (Nat.le_refl _) (fun k h => by cases h)).trans (hb.mono g1.size)⟩

set_option maxHeartbeats 1000000 in
theorem same_any (la lb : List Int) (a b : Option Addr) (ca cb : Nat) (w : World) (B B2 : Nat) (ha : Own w B (.slice a la.length ca) la) (hb : Own w B2 (.slice b lb.length cb) lb) (he : la = lb) (hl : la.length ≤ 9223372036854775807) :
    Calls Try.prog 20 #[.slice a la.length ca, .slice b lb.length cb] w fun e w' => e = .returned (.bool true) ∧ ∃ m, w' = w.drewN m := by
  subst he
  go_enter Try.func20, Try.ntmps20
  go_wp2
  go_loopw [5] (fun k wr => ∃ n m : Nat, n ≤ la.length ∧ k = .int .i64 n ∧ wr = w.drewN m) (fun k wr => la.length - (intOf k).toNat)
  case atStart => exact ⟨0, 0, by omega, rfl, rfl⟩
  case round =>
    obtain ⟨n, m, hn, rfl, rfl⟩ := hrel
    by_cases hlt : n < la.length
    · obtain ⟨b1, rfl, _, _, c1⟩ := own_cell ha n hlt
      obtain ⟨b2, rfl, _, _, c2⟩ := own_cell hb n hlt
      clear ha hb
      have hi : (n : Int) < (la.length : Int) := by omega
      have hi0 : (0 : Int) ≤ (n : Int) := by omega
      go_wp2
      go_quiet (fail)
      go_wp2
      exact ⟨⟨n + 1, m + nq, by omega, by go_num, rfl⟩, by simp [intOf]; omega⟩
    · go_wp2
      go_ret
      exact ⟨rfl, m, rfl⟩

theorem modn (x : Int) (n : Nat) (hn : 0 < n) (hn2 : n ≤ 9223372036854775807) : ∃ S : Nat, S < n ∧ wrap64 ((IntKind.u64.wrap x).tmod n) = (S : Int) := by
  have h0 : 0 ≤ IntKind.u64.wrap x := by rw [IntKind.wrap_u64]; omega
  have h1 := Int.emod_nonneg (IntKind.u64.wrap x) (show (n : Int) ≠ 0 by omega)
  have h2 := Int.emod_lt_of_pos (IntKind.u64.wrap x) (show 0 < (n : Int) by omega)
  refine ⟨(IntKind.u64.wrap x % n).toNat, by omega, ?_⟩
  rw [Int.tmod_eq_emod_of_nonneg h0]; unfold wrap64; omega
def I64 (x : Int) : Prop := -9223372036854775808 ≤ x ∧ x ≤ 9223372036854775807
set_option maxHeartbeats 1000000 in
theorem which_any (al kn : Bool) (pid : Int) (l : List Int) (a : Option Addr) (cap B : Nat) (w : World) (ho : Own w B (.slice a l.length cap) l) (hp : I64 pid) (hl : ∀ x ∈ l, I64 x) (hlen : l.length ≤ 9223372036854775807) :
    Calls Try.prog 15 #[.agg #[.bool al, .bool kn, .int .i64 pid], .slice a l.length cap] w fun e w' => ∃ p, e = .returned (.int .i64 p) ∧ I64 p ∧ Below w.heap.size w w' := by
  have HP := Lib.hid hp
  clear hp
  cases kn
  · go_enter Try.func15, Try.ntmps15
    go_wp2
    go_ret
    exact ⟨_, rfl, HP.out, (Below.refl _ _).alloc (Nat.le_refl _) _⟩
  · by_cases h0 : l.length = 0
    · go_enter Try.func15, Try.ntmps15
      go_wp2
      go_ret
      exact ⟨_, rfl, HP.out, (Below.refl _ _).alloc (Nat.le_refl _) _⟩
    · obtain ⟨S, hS0, hS⟩ := modn pid l.length (by omega) hlen
      obtain ⟨b1, rfl, _, hb1, c1⟩ := own_cell ho S hS0
      have HX : Hid (I64 (l.getD S 0)) := Lib.hid (hl _ (by simp [List.getD, hS0]))
      have hb0 : ((l.length : Int) == 0) = false := by rw [beq_eq_false_iff_ne]; omega
      have c2 : (w.alloc (.cells #[.bool al, .bool true, .int .i64 pid] 41)).cell? ⟨b1, S, none⟩ = some (.int .i64 (l.getD S 0)) := by rw [World.cell?_alloc_past _ _ _ hb1]; exact c1
      generalize l.getD S 0 = x at c1 c2 HX
      clear ho hl c1 h0
      go_enter Try.func15, Try.ntmps15
      go_wp2
      go_ret
      exact ⟨_, rfl, HX.out, (Below.refl _ _).alloc (Nat.le_refl _) _⟩
theorem has_any (l : List Int) (a : Option Addr) (cap B : Nat) (p : Int) (w : World) (ho : Own w B (.slice a l.length cap) l) (hlen : l.length ≤ 9223372036854775807) :
    Calls Try.prog 23 #[.slice a l.length cap, .int .i64 p] w fun e w' => e = .returned (.bool (decide (p ∈ l))) ∧ w = w' := by
  go_enter Try.func23, Try.ntmps23
  go_wp2
  go_loop [5] (fun k => ∃ n : Nat, n ≤ l.length ∧ k = .int .i64 n ∧ Hid (∀ j, j < n → l.getD j 0 ≠ p)) (fun k => l.length - (intOf k).toNat)
  case atStart => exact ⟨0, by omega, rfl, fun j hj => by omega⟩
  case round =>
    obtain ⟨n, hn, rfl, hh⟩ := hrel
    by_cases hlt : n < l.length
    · obtain ⟨b1, rfl, _, _, c1⟩ := own_cell ho n hlt
      clear ho
      generalize hx : l.getD n 0 = x at c1
      have HX := Lib.hid hx
      clear hx
      cases he : (x == p)
      · go_wp2
        refine ⟨⟨n + 1, by omega, by go_num, fun j hj => ?_⟩, by simp [intOf]; omega⟩
        by_cases e : j = n
        · subst e; rw [HX.out]; simpa using he
        · exact hh.out j (by omega)
      · go_wp2
        go_ret
        refine ⟨rt1 (rb ?_), rfl⟩
        have e1 : x = p := by simpa using he
        have : p ∈ l := by rw [← e1, ← HX.out]; simp [List.getD, hlt]
        simp [this]
    · go_wp2
      go_ret
      refine ⟨rt1 (rb ?_), rfl⟩
      have : ¬ p ∈ l := fun hp => by
        obtain ⟨j, hj, he⟩ := List.getElem_of_mem hp
        exact hh.out j (by omega) (by simp [List.getD, hj, he])
      simp [this]
end Go.Proofs.Ytijhgegdcpmppaa
