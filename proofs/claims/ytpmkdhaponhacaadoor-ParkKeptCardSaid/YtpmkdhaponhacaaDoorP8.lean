/- The lot: its invariant; an operation run whole. -/
import Derived.Test.YtpmkdhaponhacaaDoorP7
namespace Go.Proofs.YtpmkdhaponhacaaDoor
open Go.RowKit
set_option linter.unusedVariables false
set_option linter.unusedSimpArgs false
structure Wf (q : Q) : Prop where
  who : ∀ n, n < q.n → (q.th n).who < q.n
  out : ∀ j, j < 8 → q.n ≤ j → q.idle.testBit j = false
  lt : q.idle < 256
  n2 : q.n ≤ 8
theorem wf0 (m : Nat) (h1 : 1 ≤ m) (h : m ≤ 8) : Wf (Q0 m) := ⟨fun _ _ => h1, fun _ _ _ => Nat.zero_testBit _, by show (0 : Nat) < 256; decide, h⟩
theorem Wf.th {q : Q} (h : Wf q) (k : Nat) (x : T) (hx : k < q.n → x.who < q.n) : Wf (q.setT k x) := by
  refine ⟨fun n hn => ?_, h.out, h.lt, h.n2⟩
  by_cases e : n = k
  · subst e
    rw [setT_at]; exact hx hn
  · rw [setT_ne _ _ _ _ e]; exact h.who n hn
theorem Wf.id {q : Q} (h : Wf q) (x : Nat) (hl : x < 256) (hx : ∀ j, j < 8 → q.n ≤ j → x.testBit j = false) : Wf (q.setI x) := ⟨h.who, hx, hl, h.n2⟩
theorem Wf.setN {q : Q} (h : Wf q) (k : Nat) (x : Nx) : Wf (q.setT k ((q.th k).setN x)) := h.th k _ (fun hk => h.who k hk)
theorem Wf.clr {q : Q} (h : Wf q) (k : Nat) (hk : k < 8) : Wf (q.setI (clr q.idle k)) := h.id _ (clr_lt _ h.lt k hk) (fun j hj hn => by rw [clr_at _ h.lt k hk j hj, h.out j hj hn, Bool.and_false])
theorem Wf.bset {q : Q} (h : Wf q) (k : Nat) (hk : k < q.n) : Wf (q.setI (bset q.idle k)) := h.id _ (bset_lt _ h.lt k (by have := h.n2; omega)) (fun j hj hn => by rw [bset_at _ h.lt k (by have := h.n2; omega) j hj, h.out j hj hn, decide_eq_false (by omega)]; rfl)
theorem wf_act {q : Q} (h : Wf q) (k : Nat) (hk : k < q.n) (x : Nx) : Wf (act q k (q.th k) x).q := by
  have n2 := h.n2
  cases x with
  | no => exact h
  | a25 => exact ⟨h.who, h.out, h.lt, h.n2⟩
  | a29 => exact ⟨h.who, h.out, h.lt, h.n2⟩
  | a33 =>
    simp only [act]
    split
    · exact h
    · rename_i h0
      refine h.th k _ (fun _ => ?_)
      obtain ⟨a, b, _⟩ := ctz_at q.idle h.lt h0
      by_cases e : Lib.ctz 64 q.idle < q.n
      · exact e
      · rw [h.out _ a (by omega)] at b; cases b
  | a37 =>
    simp only [act]
    split
    · exact (h.clr _ (by have := h.who k hk; omega)).th _ _ (fun hw => h.who _ hw)
    · exact h
  | a26 => exact h.th k _ (fun hk => h.who k hk)
  | a30 =>
    simp only [act]
    split <;> exact h.th k _ (fun hk => h.who k hk)
  | a34 =>
    simp only [act]
    split
    · exact ⟨h.who, h.out, h.lt, h.n2⟩
    · exact h
  | a35 => exact h.bset k hk
  | a38 =>
    simp only [act]
    split <;> exact h
  | a41 => exact h.clr k (by omega)
  | a42 =>
    simp only [act]
    split
    · exact h.th k _ (fun hk => h.who k hk)
    · exact h
theorem wf_step {q : Q} (h : Wf q) (k : Int) : Wf (step q k).2 := by
  unfold step
  split
  · exact h
  · rename_i hk
    split
    · exact h
    · exact (wf_act h k.toNat (by omega) _).setN _ _
theorem wf_begin {q : Q} (h : Wf q) (k op : Int) : Wf (begin q k op).2 := by
  unfold begin
  split
  · exact h
  · split
    · exact h
    · split
      · exact h
      · exact h.setN _ _
def loopF : Nat → Q → Int → (Int × Nat) × Q
  | 0, q, _ => ((-3, 0), q)
  | f + 1, q, k => if (step q k).1.1 = -1 then loopF f (step q k).2 k else (((step q k).1.1, (step q k).1.2.1), (step q k).2)
def wholeF (q : Q) (k op : Int) : (Int × Nat) × Q := if (begin q k op).1 = 0 then loopF 9 (begin q k op).2 k else ((-2, 0), (begin q k op).2)
theorem wf_loop {q : Q} (h : Wf q) (k : Int) : ∀ f, Wf (loopF f q k).2 := by
  intro f
  induction f generalizing q with
  | zero => exact h
  | succ f ih =>
    unfold loopF
    split
    · exact ih (wf_step h k)
    · exact wf_step h k
theorem wf_whole {q : Q} (h : Wf q) (k op : Int) : Wf (wholeF q k op).2 := by
  unfold wholeF
  split
  · exact wf_loop (wf_begin h k op) k 9
  · exact wf_begin h k op
section
variable {w w1 : World} {b p : Nat} {q : Q}
set_option maxRecDepth 100000 in
set_option maxHeartbeats 4000000 in
theorem whole_any (h : Lq w b p q) (hw : Wf q) (k op : Int) : Calls Tryd.prog 14 #[.pointer (some ⟨b, 0, none⟩), .int .i64 k, .int .i64 op] w fun e w' => e = .returned (.tuple #[.int .i64 (wholeF q k op).1.1, .int .i64 ((wholeF q k op).1.2 : Int)]) ∧ Lq w' b p (wholeF q k op).2 ∧ Fr w w' (S2 b p) := by
  have hB := begin_any h k op
  have hwb := wf_begin hw k op
  unfold wholeF
  generalize begin q k op = r at *
  obtain ⟨r1, r2⟩ := r
  by_cases h0 : r1 = 0
  · rw [if_pos h0]
    subst h0
    have HB := Lib.hid hB
    have HW := Lib.hid hwb
    clear h hB hw hwb
    generalize hL : loopF 9 r2 k = L at *
    have HL := Lib.hid hL
    clear hL
    go_enter Tryd.func14, Tryd.ntmps14
    go_wp2_with fail
    refine HB.out.mono ?_
    rintro e w2 ⟨rfl, k1, k2⟩
    have K1 := Lib.hid k1
    have K2 := Lib.hid k2
    clear k1 k2 HB
    go_wp2
    go_loopw [8] (fun iv wr => ∃ (n : Nat) (q' : Q), n ≤ 9 ∧ iv = .int .i64 n ∧ Lq wr b p q' ∧ Wf q' ∧ Fr w wr (S2 b p) ∧ loopF (9 - n) q' k = L) (fun iv wr => 9 - (intOf iv).toNat)
    case atStart => exact ⟨0, r2, by omega, rfl, K1.out, HW.out, K2.out, HL.out⟩
    case round =>
      obtain ⟨n, q', hn, rfl, l1, l2, l3, l4⟩ := hrel
      by_cases hlt : n < 9
      · have hS := Lib.hid (step_any l1 k l2.who)
        have hws := Lib.hid (wf_step l2 k)
        have hlt' : ((n : Nat) : Int) < 9 := by omega
        rw [show 9 - n = (9 - (n + 1)) + 1 by omega] at l4
        unfold loopF at l4
        have L4 := Lib.hid l4
        have L3 := Lib.hid l3
        clear l1 l2 l3 l4 HL K1 K2 HW
        generalize step q' k = st at *
        obtain ⟨⟨s1, s2, s3⟩, q2⟩ := st
        by_cases h1 : s1 = -1
        · subst h1
          go_wp2_with fail
          refine hS.out.mono ?_
          rintro e w3 ⟨rfl, m1, m2⟩
          go_wp2
          exact ⟨⟨n + 1, q2, by omega, by go_num, m1, hws.out, L3.out.trans' m2, by have := L4.out; rw [if_pos trivial] at this; exact this⟩, by simp [intOf]; omega⟩
        · have hb : (s1 != -1) = true := by simpa using h1
          go_wp2_with fail
          refine hS.out.mono ?_
          rintro e w3 ⟨rfl, m1, m2⟩
          go_wp2
          go_returns
          have e := L4.out
          rw [if_neg h1] at e
          subst e
          exact ⟨rfl, m1, L3.out.trans' m2⟩
      · obtain rfl : n = 9 := by omega
        have L4 := Lib.hid l4
        clear HL K1 K2 HW l4
        go_wp2
        go_returns
        have e := L4.out
        unfold loopF at e
        subst e
        exact ⟨rfl, l1, l3⟩
  · rw [if_neg h0]
    have hb : (r1 != 0) = true := by simpa using h0
    have HB := Lib.hid hB
    clear h hB hw hwb
    go_enter Tryd.func14, Tryd.ntmps14
    go_wp2_with fail
    refine HB.out.mono ?_
    rintro e w2 ⟨rfl, k1, k2⟩
    go_wp2
    go_returns
    exact ⟨rfl, k1, k2⟩
end
end Go.Proofs.YtpmkdhaponhacaaDoor
