/- The deque and the reference's one, side by side. -/
import Derived.Test.YtldobbdaokjgaaaP24
import Derived.Test.YtldobbdaokjgaaaP20
namespace Go.Proofs.Ytldobbdaokjgaaa
open Go.RowKit Go.ChangeShapes Go.WideShapes Go.Deep
set_option linter.unusedVariables false
set_option linter.unusedSimpArgs false
/-- what the reference has of a thread -/
def Rl (x : T) (y : Y) : Prop :=
  match x.nx with
  | .no => y.on = false
  | .a33 => ∃ t b w, y = { on := true, op := 0, made := 0, v := x.v, t := t, b := b, won := w }
  | .a37 => ∃ t w, y = { on := true, op := 0, made := 1, v := x.v, t := t, b := x.b, won := w }
  | .a41 => ∃ t w, y = { on := true, op := 0, made := 2, v := x.v, t := t, b := x.b, won := w }
  | .a44 => ∃ t w, y = { on := true, op := 0, made := 3, v := x.v, t := t, b := x.b, won := w }
  | .a34 => x.win = false ∧ ∃ v t b w, y = { on := true, op := 1, made := 0, v := v, t := t, b := b, won := w }
  | .a38 => x.win = false ∧ ∃ v t w, y = { on := true, op := 1, made := 1, v := v, t := t, b := x.b, won := w }
  | .a42 => x.win = false ∧ ∃ v t w, y = { on := true, op := 1, made := 2, v := v, t := t, b := x.b, won := w }
  | .a46 => ¬ (x.b < x.t) ∧ ∃ v w, y = { on := true, op := 1, made := 3, v := v, t := x.t, b := x.b, won := w }
  | .a48 => ∃ w, y = { on := true, op := 1, made := 4, v := x.v, t := x.t, b := x.b, won := w }
  | .a45 => (x.win = false ∧ x.b < x.t ∧ ∃ v w, y = { on := true, op := 1, made := 3, v := v, t := x.t, b := x.b, won := w }) ∨ (∃ t, y = { on := true, op := 1, made := 5, v := x.v, t := t, b := x.b, won := x.win })
  | .a35 => ∃ v t b w, y = { on := true, op := 2, made := 0, v := v, t := t, b := b, won := w }
  | .a39 => ∃ v b w, y = { on := true, op := 2, made := 1, v := v, t := x.t, b := b, won := w }
  | .a43 => ∃ v b w, y = { on := true, op := 2, made := 2, v := v, t := x.t, b := b, won := w }
  | .a47 => ∃ b w, y = { on := true, op := 2, made := 3, v := x.v, t := x.t, b := b, won := w }
structure Rel (q : Q) (r : R) : Prop where
  top : r.top = q.top
  bot : r.bot = q.bot
  n : r.n = q.n
  pl : r.pl = q.pl
  th : ∀ k, k < 8 → Rl (q.th k) (r.th k)
theorem rel_new (n : Nat) : Rel (Q0 n) (R0 n) := ⟨rfl, rfl, rfl, rfl, fun k _ => rfl⟩
theorem rel_items {q : Q} {r : R} (h : Rel q r) : ritems r = items q := by unfold ritems items; rw [h.top, h.bot, h.n, h.pl]
theorem rl_on {x : T} {y : Y} (h : Rl x y) : y.on = decide (x.nx ≠ .no) := by
  unfold Rl at h
  cases hn : x.nx <;> rw [hn] at h <;> simp only at h
  case no => rw [h]; rfl
  case a34 => obtain ⟨_, v, t, b, w, rfl⟩ := h; rfl
  case a38 => obtain ⟨_, v, t, w, rfl⟩ := h; rfl
  case a42 => obtain ⟨_, v, t, w, rfl⟩ := h; rfl
  case a46 => obtain ⟨_, v, w, rfl⟩ := h; rfl
  case a45 => rcases h with ⟨_, _, v, w, rfl⟩ | ⟨t, rfl⟩ <;> rfl
  case a33 => obtain ⟨t, b, w, rfl⟩ := h; rfl
  case a37 => obtain ⟨t, w, rfl⟩ := h; rfl
  case a41 => obtain ⟨t, w, rfl⟩ := h; rfl
  case a44 => obtain ⟨t, w, rfl⟩ := h; rfl
  case a48 => obtain ⟨w, rfl⟩ := h; rfl
  case a35 => obtain ⟨v, t, b, w, rfl⟩ := h; rfl
  case a39 => obtain ⟨v, b, w, rfl⟩ := h; rfl
  case a43 => obtain ⟨v, b, w, rfl⟩ := h; rfl
  case a47 => obtain ⟨b, w, rfl⟩ := h; rfl
theorem rel_set {q q1 : Q} {r r1 : R} (h : Rel q r) (h1 : r1.top = q1.top) (h2 : r1.bot = q1.bot) (h3 : r1.n = q1.n) (h4 : r1.pl = q1.pl) (hq : ∀ j, q1.th j = q.th j) (hr : ∀ j, r1.th j = r.th j) (k : Nat) (x : T) (y : Y) (hx : Rl x y) : Rel (q1.setT k x) (r1.setY k y) := by
  refine ⟨h1, h2, h3, h4, fun j hj => ?_⟩
  show Rl (if j = k then x else q1.th j) (if j = k then y else r1.th j)
  by_cases e : j = k
  · rw [if_pos e, if_pos e]; exact hx
  · rw [if_neg e, if_neg e, hq, hr]; exact h.th j hj
section
variable {w w1 : World} {c g p : Nat} {q : Q} {r : R}
def Sp (w : World) (c g p k : Nat) (q : Q) (e : Ending) (w' : World) : Prop := ∃ r', e = .returned (.tuple #[dv (stepA q k).d, .int .i64 0]) ∧ Rf w' c g p r' ∧ Fr w w' (S3 c g p) ∧ Rel (stp q k) r'
theorem sp_mk {k : Nat} {r' : R} {d : D} {e : Ending} {w' : World} (hd : (stepA q k).d = d) (hr : Rel (stp q k) r') (h : e = .returned (.tuple #[dv d, .int .i64 0]) ∧ Rf w' c g p r' ∧ Fr w w' (S3 c g p)) : Sp w c g p k q e w' :=
  ⟨r', by rw [hd]; exact h.1, h.2.1, h.2.2, hr⟩
theorem wrp (m : Int) (h : -1000 ≤ m) (h2 : m ≤ 1000) : IntKind.i64.wrap m = m := by rw [IntKind.wrap_i64]; omega
set_option maxHeartbeats 2000000 in
theorem mstep_on (h : Rf w c g p r) (R0 : Rel q r) {L : List Int} {tk : Option Int} (I : Iv q L tk) (k : Nat) (hk : k < 8) (hx : (q.th k).nx ≠ .no) : Calls Try.prog 21 #[.pointer (some ⟨c, 0, none⟩), .int .i64 k] w (Sp w c g p k q) := by
  have hrl := R0.th k hk
  unfold Rl at hrl
  have e1 := R0.top
  have e2 := R0.bot
  have e3 := R0.n
  have e4 := R0.pl
  by_cases k0 : k = 0
  · subst k0
    have ow := I.ow
    unfold Ow at ow
    cases hn : (q.th 0).nx with
    | no => exact absurd hn hx
    | a35 => rw [hn] at ow; exact ow.elim
    | a39 => rw [hn] at ow; exact ow.elim
    | a43 => rw [hn] at ow; exact ow.elim
    | a47 => rw [hn] at ow; exact ow.elim
    | a33 =>
      rw [hn] at hrl
      obtain ⟨t, b, wn, hy⟩ := hrl
      have e : stepA q 0 = ⟨q.setT 0 ((q.th 0).setB q.bot), .a37, {}⟩ := by unfold stepA; rw [hn]; rfl
      refine (mstep_push h 0 1 _ _ _ _ hy (wrp _ (by omega) (by omega)) _ _ (fun W hW => rp0_1 hW _ _ _ _)).mono fun e' w' hp => sp_mk (by rw [e]) ?_ hp
      rw [stp_set e]
      exact rel_set R0 e1 e2 e3 e4 (fun _ => rfl) (fun _ => rfl) 0 _ _ ⟨t, wn, by show _ = Y.mk _ _ _ _ _ _ _; rw [e2]; rfl⟩
    | a37 =>
      rw [hn] at hrl
      obtain ⟨t, wn, hy⟩ := hrl
      by_cases hc : (q.n : Int) ≤ wrap64 ((q.th 0).b - q.top)
      · have e : stepA q 0 = ⟨q, .no, { over := true, op := 0, v := (q.th 0).v, err := 7 }⟩ := by unfold stepA; rw [hn]; exact if_pos hc
        refine (mstep_push h 1 2 _ _ _ _ hy (wrp _ (by omega) (by omega)) _ _ (fun W hW => rp0_2o hW _ _ _ _ (by rw [e3, e1]; exact hc) (by rw [hy]))).mono fun e' w' hp => sp_mk (by rw [e]) ?_ hp
        rw [stp_same e]
        exact rel_set R0 e1 e2 e3 e4 (fun _ => rfl) (fun _ => rfl) 0 _ _ rfl
      · have e : stepA q 0 = ⟨q, .a41, {}⟩ := by unfold stepA; rw [hn]; exact if_neg hc
        refine (mstep_push h 1 2 _ _ _ _ hy (wrp _ (by omega) (by omega)) _ _ (fun W hW => rp0_2k hW _ _ _ _ (by rw [e3, e1]; exact hc))).mono fun e' w' hp => sp_mk (by rw [e]) ?_ hp
        rw [stp_same e]
        exact rel_set R0 e1 e2 e3 e4 (fun _ => rfl) (fun _ => rfl) 0 _ _ ⟨_, _, rfl⟩
    | a41 =>
      rw [hn] at hrl
      obtain ⟨t, wn, hy⟩ := hrl
      have e : stepA q 0 = ⟨q.setPl (plc (q.th 0).b q.n) (q.th 0).v, .a44, {}⟩ := by unfold stepA; rw [hn]; rfl
      refine (mstep_push h 2 3 _ _ _ _ hy (wrp _ (by omega) (by omega)) _ _ (fun W hW => rp0_3 hW _ _ _ _)).mono fun e' w' hp => sp_mk (by rw [e]) ?_ hp
      rw [stp_same e]
      exact rel_set (q1 := q.setPl (plc (q.th 0).b q.n) (q.th 0).v) (r1 := r.setPl (plc (q.th 0).b r.n) (q.th 0).v) R0 e1 e2 e3 (by show (fun j => if j = plc (q.th 0).b r.n then (q.th 0).v else r.pl j) = (fun j => if j = plc (q.th 0).b q.n then (q.th 0).v else q.pl j); rw [e3, e4]) (fun _ => rfl) (fun _ => rfl) 0 _ _ ⟨_, _, rfl⟩
    | a44 =>
      rw [hn] at hrl
      obtain ⟨t, wn, hy⟩ := hrl
      have e : stepA q 0 = ⟨q.setBot (wrap64 ((q.th 0).b + 1)), .no, { over := true, op := 0, v := (q.th 0).v, err := 0 }⟩ := by unfold stepA; rw [hn]; rfl
      refine (mstep_push h 3 4 _ _ _ _ hy (wrp _ (by omega) (by omega)) _ _ (fun W hW => rp0_4 hW _ _ _ _ (by rw [hy]))).mono fun e' w' hp => sp_mk (by rw [e]) ?_ hp
      rw [stp_same e]
      exact rel_set (q1 := q.setBot (wrap64 ((q.th 0).b + 1))) (r1 := r.setBot (wrap64 ((q.th 0).b + 1))) R0 e1 rfl e3 e4 (fun _ => rfl) (fun _ => rfl) 0 _ _ rfl
    | a34 =>
      rw [hn] at hrl
      obtain ⟨hw, v, t, b, wn, hy⟩ := hrl
      have e : stepA q 0 = ⟨q.setT 0 ((q.th 0).setB (wrap64 (q.bot - 1))), .a38, {}⟩ := by unfold stepA; rw [hn]; rfl
      refine (mstep_pop h 0 1 _ _ _ _ hy (wrp _ (by omega) (by omega)) _ _ (fun W hW => rp1_1 hW _ _ _ _)).mono fun e' w' hp => sp_mk (by rw [e]) ?_ hp
      rw [stp_set e]
      exact rel_set R0 e1 e2 e3 e4 (fun _ => rfl) (fun _ => rfl) 0 _ _ ⟨hw, _, _, _, by rw [e2]; rfl⟩
    | a38 =>
      rw [hn] at hrl
      obtain ⟨hw, v, t, wn, hy⟩ := hrl
      have e : stepA q 0 = ⟨q.setBot (q.th 0).b, .a42, {}⟩ := by unfold stepA; rw [hn]; rfl
      refine (mstep_pop h 1 2 _ _ _ _ hy (wrp _ (by omega) (by omega)) _ _ (fun W hW => rp1_2 hW _ _ _ _)).mono fun e' w' hp => sp_mk (by rw [e]) ?_ hp
      rw [stp_same e]
      exact rel_set (q1 := q.setBot (q.th 0).b) (r1 := r.setBot (q.th 0).b) R0 e1 rfl e3 e4 (fun _ => rfl) (fun _ => rfl) 0 _ _ ⟨hw, _, _, _, rfl⟩
    | a42 =>
      rw [hn] at hrl
      obtain ⟨hw, v, t, wn, hy⟩ := hrl
      by_cases hc : (q.th 0).b < q.top
      · have e : stepA q 0 = ⟨q.setT 0 ((q.th 0).setT q.top), .a45, {}⟩ := by unfold stepA; rw [hn]; exact if_pos hc
        refine (mstep_pop h 2 3 _ _ _ _ hy (wrp _ (by omega) (by omega)) _ _ (fun W hW => rp1_3 hW _ _ _ _)).mono fun e' w' hp => sp_mk (by rw [e]) ?_ hp
        rw [stp_set e]
        exact rel_set R0 e1 e2 e3 e4 (fun _ => rfl) (fun _ => rfl) 0 _ _ (.inl ⟨hw, hc, _, _, by rw [e1]; rfl⟩)
      · have e : stepA q 0 = ⟨q.setT 0 ((q.th 0).setT q.top), .a46, {}⟩ := by unfold stepA; rw [hn]; exact if_neg hc
        refine (mstep_pop h 2 3 _ _ _ _ hy (wrp _ (by omega) (by omega)) _ _ (fun W hW => rp1_3 hW _ _ _ _)).mono fun e' w' hp => sp_mk (by rw [e]) ?_ hp
        rw [stp_set e]
        exact rel_set R0 e1 e2 e3 e4 (fun _ => rfl) (fun _ => rfl) 0 _ _ ⟨hc, _, _, by rw [e1]; rfl⟩
    | a46 =>
      rw [hn] at hrl
      obtain ⟨hw, v, wn, hy⟩ := hrl
      by_cases hc : (q.th 0).t < (q.th 0).b
      · have e : stepA q 0 = ⟨q.setT 0 ((q.th 0).setV (q.pl (plc (q.th 0).b q.n))), .no, { over := true, op := 1, v := q.pl (plc (q.th 0).b q.n), err := 0 }⟩ := by unfold stepA; rw [hn]; exact if_pos hc
        refine (mstep_pop h 3 4 _ _ _ _ hy (wrp _ (by omega) (by omega)) _ _ (fun W hW => rp1_4o hW _ _ _ _ hw hc (by rw [hy]))).mono fun e' w' hp => sp_mk (by rw [e, e3, e4]) ?_ hp
        rw [stp_set e]
        exact rel_set R0 e1 e2 e3 e4 (fun _ => rfl) (fun _ => rfl) 0 _ _ rfl
      · have e : stepA q 0 = ⟨q.setT 0 ((q.th 0).setV (q.pl (plc (q.th 0).b q.n))), .a48, {}⟩ := by unfold stepA; rw [hn]; exact if_neg hc
        refine (mstep_pop h 3 4 _ _ _ _ hy (wrp _ (by omega) (by omega)) _ _ (fun W hW => rp1_4k hW _ _ _ _ hw hc)).mono fun e' w' hp => sp_mk (by rw [e]) ?_ hp
        rw [stp_set e]
        exact rel_set R0 e1 e2 e3 e4 (fun _ => rfl) (fun _ => rfl) 0 _ _ ⟨_, by rw [e3, e4]; rfl⟩
    | a48 =>
      rw [hn] at hrl
      obtain ⟨wn, hy⟩ := hrl
      by_cases hc : q.top = (q.th 0).t
      · have e : stepA q 0 = ⟨(q.setTop (wrap64 (q.top + 1))).setT 0 ((q.th 0).setW true), .a45, {}⟩ := by unfold stepA; rw [hn]; exact if_pos hc
        refine (mstep_pop h 4 5 _ _ _ _ hy (wrp _ (by omega) (by omega)) _ _ (fun W hW => rp1_5y hW _ _ _ _ (by rw [e1]; exact hc))).mono fun e' w' hp => sp_mk (by rw [e]) ?_ hp
        rw [stp_set e]
        exact rel_set (q1 := q.setTop (wrap64 (q.top + 1))) (r1 := r.setTop (wrap64 ((q.th 0).t + 1))) R0 (by show wrap64 ((q.th 0).t + 1) = wrap64 (q.top + 1); rw [hc]) e2 e3 e4 (fun _ => rfl) (fun _ => rfl) 0 _ _ (.inr ⟨_, rfl⟩)
      · have e : stepA q 0 = ⟨q.setT 0 ((q.th 0).setW false), .a45, {}⟩ := by unfold stepA; rw [hn]; exact if_neg hc
        refine (mstep_pop h 4 5 _ _ _ _ hy (wrp _ (by omega) (by omega)) _ _ (fun W hW => rp1_5n hW _ _ _ _ (by rw [e1]; exact hc))).mono fun e' w' hp => sp_mk (by rw [e]) ?_ hp
        rw [stp_set e]
        exact rel_set R0 e1 e2 e3 e4 (fun _ => rfl) (fun _ => rfl) 0 _ _ (.inr ⟨_, rfl⟩)
    | a45 =>
      rw [hn] at hrl
      rcases hrl with ⟨hw, hbt, v, wn, hy⟩ | ⟨t, hy⟩
      · have e : stepA q 0 = ⟨q.setBot (wrap64 ((q.th 0).b + 1)), .no, { over := true, op := 1, v := 0, err := 8 }⟩ := by unfold stepA; rw [hn]; exact if_neg (by rw [hw]; decide)
        refine (mstep_pop h 3 4 _ _ _ _ hy (wrp _ (by omega) (by omega)) _ _ (fun W hW => rp1_4e hW _ _ _ _ hbt (by rw [hy]))).mono fun e' w' hp => sp_mk (by rw [e]) ?_ hp
        rw [stp_same e]
        exact rel_set (q1 := q.setBot (wrap64 ((q.th 0).b + 1))) (r1 := r.setBot (wrap64 ((q.th 0).b + 1))) R0 e1 rfl e3 e4 (fun _ => rfl) (fun _ => rfl) 0 _ _ rfl
      · cases hw : (q.th 0).win
        · have e : stepA q 0 = ⟨q.setBot (wrap64 ((q.th 0).b + 1)), .no, { over := true, op := 1, v := 0, err := 8 }⟩ := by unfold stepA; rw [hn]; exact if_neg (by rw [hw]; decide)
          rw [hw] at hy
          refine (mstep_pop h 5 6 _ _ _ _ hy (wrp _ (by omega) (by omega)) _ _ (fun W hW => rp1_6n hW _ _ _ false (by rw [hy]))).mono fun e' w' hp => sp_mk (by rw [e]) ?_ hp
          rw [stp_same e]
          exact rel_set (q1 := q.setBot (wrap64 ((q.th 0).b + 1))) (r1 := r.setBot (wrap64 ((q.th 0).b + 1))) R0 e1 rfl e3 e4 (fun _ => rfl) (fun _ => rfl) 0 _ _ rfl
        · have e : stepA q 0 = ⟨q.setBot (wrap64 ((q.th 0).b + 1)), .no, { over := true, op := 1, v := (q.th 0).v, err := 0 }⟩ := by unfold stepA; rw [hn]; exact if_pos hw
          rw [hw] at hy
          refine (mstep_pop h 5 6 _ _ _ _ hy (wrp _ (by omega) (by omega)) _ _ (fun W hW => rp1_6y hW _ _ _ true (by rw [hy]))).mono fun e' w' hp => sp_mk (by rw [e]) ?_ hp
          rw [stp_same e]
          exact rel_set (q1 := q.setBot (wrap64 ((q.th 0).b + 1))) (r1 := r.setBot (wrap64 ((q.th 0).b + 1))) R0 e1 rfl e3 e4 (fun _ => rfl) (fun _ => rfl) 0 _ _ rfl
  · have tf := I.th k (by omega) hk
    unfold Tf at tf
    cases hn : (q.th k).nx with
    | no => exact absurd hn hx
    | a33 => rw [hn] at tf; exact tf.elim
    | a37 => rw [hn] at tf; exact tf.elim
    | a41 => rw [hn] at tf; exact tf.elim
    | a44 => rw [hn] at tf; exact tf.elim
    | a34 => rw [hn] at tf; exact tf.elim
    | a38 => rw [hn] at tf; exact tf.elim
    | a42 => rw [hn] at tf; exact tf.elim
    | a46 => rw [hn] at tf; exact tf.elim
    | a48 => rw [hn] at tf; exact tf.elim
    | a45 => rw [hn] at tf; exact tf.elim
    | a35 =>
      rw [hn] at hrl
      obtain ⟨v, t, b, wn, hy⟩ := hrl
      have e : stepA q k = ⟨q.setT k ((q.th k).setT q.top), .a39, {}⟩ := by unfold stepA; rw [hn]; rfl
      refine (mstep_steal h k hk k0 0 1 _ _ _ _ hy (wrp _ (by omega) (by omega)) _ _ (fun W hW => rp2_1 hW k hk k0 _ _ _ _)).mono fun e' w' hp => sp_mk (by rw [e]) ?_ hp
      rw [stp_set e]
      exact rel_set R0 e1 e2 e3 e4 (fun _ => rfl) (fun _ => rfl) k _ _ ⟨_, _, _, by rw [e1]; rfl⟩
    | a39 =>
      rw [hn] at hrl
      obtain ⟨v, b, wn, hy⟩ := hrl
      by_cases hc : q.bot ≤ (q.th k).t
      · have e : stepA q k = ⟨q, .no, { over := true, op := 2, v := 0, err := 8 }⟩ := by unfold stepA; rw [hn]; exact if_pos hc
        refine (mstep_steal h k hk k0 1 2 _ _ _ _ hy (wrp _ (by omega) (by omega)) _ _ (fun W hW => rp2_2o hW k hk k0 _ _ _ _ (by rw [e2]; exact hc) (by rw [hy]))).mono fun e' w' hp => sp_mk (by rw [e]) ?_ hp
        rw [stp_same e]
        exact rel_set R0 e1 e2 e3 e4 (fun _ => rfl) (fun _ => rfl) k _ _ rfl
      · have e : stepA q k = ⟨q, .a43, {}⟩ := by unfold stepA; rw [hn]; exact if_neg hc
        refine (mstep_steal h k hk k0 1 2 _ _ _ _ hy (wrp _ (by omega) (by omega)) _ _ (fun W hW => rp2_2k hW k hk k0 _ _ _ _ (by rw [e2]; exact hc))).mono fun e' w' hp => sp_mk (by rw [e]) ?_ hp
        rw [stp_same e]
        exact rel_set R0 e1 e2 e3 e4 (fun _ => rfl) (fun _ => rfl) k _ _ ⟨_, _, _, rfl⟩
    | a43 =>
      rw [hn] at hrl
      obtain ⟨v, b, wn, hy⟩ := hrl
      have e : stepA q k = ⟨q.setT k ((q.th k).setV (q.pl (plc (q.th k).t q.n))), .a47, {}⟩ := by unfold stepA; rw [hn]; rfl
      refine (mstep_steal h k hk k0 2 3 _ _ _ _ hy (wrp _ (by omega) (by omega)) _ _ (fun W hW => rp2_3 hW k hk k0 _ _ _ _)).mono fun e' w' hp => sp_mk (by rw [e]) ?_ hp
      rw [stp_set e]
      exact rel_set R0 e1 e2 e3 e4 (fun _ => rfl) (fun _ => rfl) k _ _ ⟨_, _, by rw [e3, e4]; rfl⟩
    | a47 =>
      rw [hn] at hrl
      obtain ⟨b, wn, hy⟩ := hrl
      by_cases hc : q.top = (q.th k).t
      · have e : stepA q k = ⟨q.setTop (wrap64 (q.top + 1)), .no, { over := true, op := 2, v := (q.th k).v, err := 0 }⟩ := by unfold stepA; rw [hn]; exact if_pos hc
        refine (mstep_steal h k hk k0 3 4 _ _ _ _ hy (wrp _ (by omega) (by omega)) _ _ (fun W hW => rp2_4y hW k hk k0 _ _ _ _ (by rw [e1]; exact hc) (by rw [hy]))).mono fun e' w' hp => sp_mk (by rw [e]) ?_ hp
        rw [stp_same e]
        exact rel_set (q1 := q.setTop (wrap64 (q.top + 1))) (r1 := r.setTop (wrap64 ((q.th k).t + 1))) R0 (by show wrap64 ((q.th k).t + 1) = wrap64 (q.top + 1); rw [hc]) e2 e3 e4 (fun _ => rfl) (fun _ => rfl) k _ _ rfl
      · have e : stepA q k = ⟨q, .no, { over := true, op := 2, v := 0, err := 17 }⟩ := by unfold stepA; rw [hn]; exact if_neg hc
        refine (mstep_steal h k hk k0 3 4 _ _ _ _ hy (wrp _ (by omega) (by omega)) _ _ (fun W hW => rp2_4n hW k hk k0 _ _ _ _ (by rw [e1]; exact hc) (by rw [hy]))).mono fun e' w' hp => sp_mk (by rw [e]) ?_ hp
        rw [stp_same e]
        exact rel_set R0 e1 e2 e3 e4 (fun _ => rfl) (fun _ => rfl) k _ _ rfl
/-- Step, side by side -/
theorem mstep_any (h : Rf w c g p r) (R0 : Rel q r) {L : List Int} {tk : Option Int} (I : Iv q L tk) (k : Int) : Calls Try.prog 21 #[.pointer (some ⟨c, 0, none⟩), .int .i64 k] w fun e w' => ∃ r', e = .returned (.tuple #[dv (step q k).1.1, .int .i64 (step q k).1.2]) ∧ Rf w' c g p r' ∧ Fr w w' (S3 c g p) ∧ Rel (step q k).2 r' := by
  by_cases h1 : k < 0 ∨ 8 ≤ k
  · have e : step q k = (({}, 1), q) := by unfold step; rw [if_pos h1]
    rw [e]
    exact (mstep_no h k h1).mono fun e' w' hp => ⟨r, hp.1, hp.2.1, hp.2.2, R0⟩
  · obtain ⟨n, rfl⟩ : ∃ n : Nat, k = n := ⟨k.toNat, by omega⟩
    have hn : n < 8 := by omega
    by_cases h2 : (q.th n).nx = .no
    · have e : step q n = (({}, 13), q) := by unfold step; rw [if_neg h1, if_pos (by rw [Int.toNat_natCast]; exact h2)]
      rw [e]
      have hoff : (r.th n).on = false := by rw [rl_on (R0.th n hn), decide_eq_false (by simpa using h2)]
      exact (mstep_off h n hn hoff).mono fun e' w' hp => ⟨r, hp.1, hp.2.1, hp.2.2, R0⟩
    · rw [step_at q n hn h2]
      exact mstep_on h R0 I n hn h2
theorem rl_begin {k : Nat} {op v : Int} (hf : first k op ≠ .no) : Rl { nx := first k op, v := v } { on := true, op := op, v := if op = 0 then v else 0 } := by
  rcases first_cases hf with ⟨rfl, rfl | rfl⟩ | ⟨h0, rfl⟩
  · exact ⟨0, 0, false, rfl⟩
  · exact ⟨rfl, 0, 0, 0, false, rfl⟩
  · have : first k 2 = .a35 := by unfold first; rw [if_neg (by omega), if_neg (by omega), if_pos ⟨by omega, rfl⟩]
    rw [this]
    exact ⟨0, 0, 0, false, rfl⟩
theorem rel_begin (R0 : Rel q r) (k op v : Int) : (rbegin r k op v).1 = (begin q k op v).1 ∧ Rel (begin q k op v).2 (rbegin r k op v).2 := by
  unfold rbegin begin
  by_cases hc : k < 0 ∨ 8 ≤ k ∨ first k op = .no
  · rw [if_pos hc, if_pos hc]; exact ⟨rfl, R0⟩
  · rw [if_neg hc, if_neg hc]
    obtain ⟨n, rfl⟩ : ∃ n : Nat, k = n := ⟨k.toNat, by omega⟩
    have hn : n < 8 := by omega
    rw [Int.toNat_natCast]
    have hon := rl_on (R0.th n hn)
    by_cases h2 : (q.th n).nx = .no
    · rw [if_neg (show ¬ (r.th n).on = true by rw [hon, decide_eq_false (by simpa using h2)]; decide), if_neg (show ¬ ((q.th n).nx ≠ .no) by simpa using h2)]
      exact ⟨rfl, rel_set R0 R0.top R0.bot R0.n R0.pl (fun _ => rfl) (fun _ => rfl) n _ _ (rl_begin (fun e => hc (.inr (.inr e))))⟩
    · rw [if_pos (show (r.th n).on = true by rw [hon, decide_eq_true h2]), if_pos h2]; exact ⟨rfl, R0⟩
end
theorem iv_begin {q : Q} {L : List Int} {tk : Option Int} (I : Iv q L tk) (k op v : Int) : Iv (begin q k op v).2 L tk := by
  unfold begin
  split
  · exact I
  · rename_i hc
    split
    · exact I
    · rename_i hb
      obtain ⟨n, rfl⟩ : ∃ n : Nat, k = n := ⟨k.toNat, by omega⟩
      rw [Int.toNat_natCast] at hb ⊢
      have hn : (q.th n).nx = .no := by simpa using hb
      rcases first_cases (k := n) (op := op) (fun e => hc (.inr (.inr e))) with ⟨rfl, rfl | rfl⟩ | ⟨h0, rfl⟩
      · have o := ow_no I hn
        exact iv_own I q { nx := .a33, v := v } rfl (fun _ => rfl) I.t0 I.hl I.w ⟨o.1, o.2⟩ (.inr ⟨rfl, fun _ h => h⟩)
      · have o := ow_no I hn
        exact iv_own I q { nx := .a34, v := v } rfl (fun _ => rfl) I.t0 I.hl I.w ⟨o.1, o.2, rfl⟩ (.inr ⟨rfl, fun _ h => h⟩)
      · have : first n 2 = .a35 := by unfold first; rw [if_neg (by omega), if_neg (by omega), if_pos ⟨by omega, rfl⟩]
        rw [this]
        exact iv_thf I q n { nx := .a35, v := v } (by omega) rfl (fun _ => rfl) I.t0 I.hl I.w I.ow (show True from trivial) (.inr ⟨rfl, fun _ h => h⟩)
theorem begin_top (q : Q) (k op v : Int) : (begin q k op v).2.top = q.top := by
  unfold begin; repeat (first | rfl | split)
/-- the invariant and how far it reaches -/
def Ir (q : Q) (i : Nat) : Prop := ∃ L tk, Iv q L tk ∧ q.top + (L.length : Int) ≤ i
theorem ir_begin {q : Q} {i : Nat} (h : Ir q i) (k op v : Int) : Ir (begin q k op v).2 (i + 1) := by
  obtain ⟨L, tk, I, r⟩ := h
  exact ⟨L, tk, iv_begin I k op v, by rw [begin_top]; omega⟩
theorem ir_step {q : Q} {i : Nat} (h : Ir q i) (k : Int) (hi : i ≤ 10000000000000000) : Ir (step q k).2 (i + 1) := by
  obtain ⟨L, tk, I, r⟩ := h
  by_cases h1 : k < 0 ∨ 8 ≤ k
  · unfold step; rw [if_pos h1]; exact ⟨L, tk, I, by show q.top + _ ≤ _; omega⟩
  · obtain ⟨n, rfl⟩ : ∃ n : Nat, k = n := ⟨k.toNat, by omega⟩
    by_cases hx : (q.th n).nx = .no
    · unfold step; rw [if_neg h1, if_pos (by rw [Int.toNat_natCast]; exact hx)]; exact ⟨L, tk, I, by show q.top + _ ≤ _; omega⟩
    · rw [step_at q n (by omega) hx]
      obtain ⟨L', tk', I', ev⟩ := any_step I n (by omega) hx (by omega)
      have hr := ev_reach I.t0 (by omega) ev
      exact ⟨L', tk', I', by show (stp q n).top + _ ≤ _; omega⟩
theorem ir_bounds {q : Q} {i : Nat} (h : Ir q i) (hi : i ≤ 10000000000000000) : 0 ≤ q.top ∧ q.bot ≤ 1000000000000000000 ∧ q.bot - q.top ≤ 64 := by
  obtain ⟨L, tk, I, r⟩ := h
  have h1 := I.t0
  have h2 := ow_bot I.ow
  have h3 := I.hl
  have h4 := I.n2
  omega
end Go.Proofs.Ytldobbdaokjgaaa
