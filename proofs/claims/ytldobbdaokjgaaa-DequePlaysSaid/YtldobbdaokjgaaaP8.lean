/- The deque, as plain law: what an access comes to. -/
import Derived.Test.YtldobbdaokjgaaaP7
namespace Go.Proofs.Ytldobbdaokjgaaa
open Go.RowKit
set_option linter.unusedVariables false
set_option linter.unusedSimpArgs false
theorem pv_set (q1 : Q) (y : T) : pvOf (q1.setT 0 y) = if pushing y.nx = true then some y.v else none := by unfold pvOf; rw [setT_at]
theorem pv_th (q1 q : Q) (k : Nat) (y : T) (hk : 1 ≤ k) (ht : ∀ j, q1.th j = q.th j) : pvOf (q1.setT k y) = pvOf q := by unfold pvOf; rw [setT_ne _ _ _ _ (by omega), ht]
/-- what the laws ask of the owner's access -/
structure More (q : Q) (L L' : List Int) (tk tk' : Option Int) : Prop where
  a42 : (q.th 0).nx = .a42 → (stp q 0).top = q.top ∧ (stp q 0).bot = q.bot ∧ (stepA q 0).d = {} ∧ (L.length : Int) = q.bot - q.top + 1 ∧ (0 < q.bot - q.top → ∃ y, L = L' ++ [y] ∧ tk' = some y) ∧ (¬ 0 < q.bot - q.top → L' = L ∧ tk' = tk)
  a48 : (q.th 0).nx = .a48 → (stepA q 0).d = {} ∧ ((stp q 0).top ≠ q.top → ∃ y, L = [y] ∧ L' = [] ∧ tk' = some y) ∧ ((stp q 0).top = q.top → L' = L ∧ tk' = tk)
  oth : (q.th 0).nx ≠ .a42 → (q.th 0).nx ≠ .a48 → (stepA q 0).d.over = false → L' = L ∧ tk' = tk
theorem more_same {q : Q} {L L' : List Int} {tk tk' : Option Int} {x : Nx} (hn : (q.th 0).nx = x) (h2 : x ≠ .a42) (h8 : x ≠ .a48) (h : (stepA q 0).d.over = false → L' = L ∧ tk' = tk) : More q L L' tk tk' :=
  ⟨fun e => absurd (hn.symm.trans e) h2, fun e => absurd (hn.symm.trans e) h8, fun _ _ => h⟩
theorem last_of (L : List Int) (h : L ≠ []) : ∃ L' y, L = L' ++ [y] := ⟨L.dropLast, L.getLast h, (List.dropLast_concat_getLast h).symm⟩
theorem ow_no {q : Q} {L : List Int} {tk : Option Int} (I : Iv q L tk) (hn : (q.th 0).nx = .no) : tk = none ∧ q.bot = q.top + L.length := by
  have h := I.ow; unfold Ow at h; rw [hn] at h; exact h
set_option maxHeartbeats 1000000 in
theorem own_step {q : Q} {L : List Int} {tk : Option Int} (I : Iv q L tk) (hx : (q.th 0).nx ≠ .no) (hb : q.top + L.length ≤ 100000000000000000) :
    ∃ L' tk', Iv (stp q 0) L' tk' ∧ Ev q.n L tk (pvOf q) (stepA q 0).d L' tk' (pvOf (stp q 0)) ∧ More q L L' tk tk' := by
  have h0 := I.t0
  have ow := I.ow
  unfold Ow at ow
  cases hn : (q.th 0).nx with
  | no => exact absurd hn hx
  | a35 => rw [hn] at ow; exact ow.elim
  | a39 => rw [hn] at ow; exact ow.elim
  | a43 => rw [hn] at ow; exact ow.elim
  | a47 => rw [hn] at ow; exact ow.elim
  | a33 =>
    rw [hn] at ow
    have e : stepA q 0 = ⟨q.setT 0 ((q.th 0).setB q.bot), .a37, {}⟩ := by unfold stepA; rw [hn]; rfl
    have hp : pvOf q = some (q.th 0).v := by unfold pvOf; rw [hn]; rfl
    refine ⟨L, tk, ?_, ?_, more_same hn (by decide) (by decide) (fun _ => ⟨rfl, rfl⟩)⟩
    · rw [stp_set e]
      exact iv_own I q _ rfl (fun _ => rfl) I.t0 I.hl I.w ⟨ow.1, ow.2, rfl⟩ (.inr ⟨rfl, fun _ h => h⟩)
    · rw [stp_set e, pv_set, hp, e]; exact .quiet _ _ _ _
  | a37 =>
    rw [hn] at ow
    obtain ⟨o1, o2, o3⟩ := ow
    have hp : pvOf q = some (q.th 0).v := by unfold pvOf; rw [hn]; rfl
    by_cases h : (q.n : Int) ≤ wrap64 ((q.th 0).b - q.top)
    · have e : stepA q 0 = ⟨q, .no, { over := true, op := 0, v := (q.th 0).v, err := 7 }⟩ := by unfold stepA; rw [hn]; exact if_pos h
      rw [wrE _ (by omega) (by omega)] at h
      have hl := I.hl
      refine ⟨L, tk, ?_, ?_, more_same hn (by decide) (by decide) (fun _ => ⟨rfl, rfl⟩)⟩
      · rw [stp_same e]
        exact iv_own I q _ rfl (fun _ => rfl) I.t0 I.hl I.w ⟨o1, o2⟩ (.inr ⟨rfl, fun _ h => h⟩)
      · rw [stp_same e, pv_set, hp, e, o1]; exact .full _ _ _ (by omega)
    · have e : stepA q 0 = ⟨q, .a41, {}⟩ := by unfold stepA; rw [hn]; exact if_neg h
      rw [wrE _ (by omega) (by omega)] at h
      refine ⟨L, tk, ?_, ?_, more_same hn (by decide) (by decide) (fun _ => ⟨rfl, rfl⟩)⟩
      · rw [stp_same e]
        exact iv_own I q _ rfl (fun _ => rfl) I.t0 I.hl I.w ⟨o1, o2, o3, by omega⟩ (.inr ⟨rfl, fun _ h => h⟩)
      · rw [stp_same e, pv_set, hp, e]; exact .quiet _ _ _ _
  | a41 =>
    rw [hn] at ow
    obtain ⟨o1, o2, o3, o4⟩ := ow
    have hp : pvOf q = some (q.th 0).v := by unfold pvOf; rw [hn]; rfl
    have e : stepA q 0 = ⟨q.setPl (plc (q.th 0).b q.n) (q.th 0).v, .a44, {}⟩ := by unfold stepA; rw [hn]; rfl
    have eb : (q.th 0).b = q.top + L.length := by omega
    refine ⟨L, tk, ?_, ?_, more_same hn (by decide) (by decide) (fun _ => ⟨rfl, rfl⟩)⟩
    · rw [stp_same e]
      refine iv_own I (q.setPl (plc (q.th 0).b q.n) (q.th 0).v) _ rfl (fun _ => rfl) I.t0 I.hl ?_ ⟨o1, o2, o3, o4, ?_⟩ (.inr ⟨rfl, fun _ h => h⟩)
      · rw [eb]; exact win_set I.w I.t0 I.n1 o4 _
      · show (if plc (q.th 0).b q.n = plc (q.th 0).b q.n then _ else _) = _
        rw [if_pos rfl]; rfl
    · rw [stp_same e, pv_set, hp, e]; exact .quiet _ _ _ _
  | a44 =>
    rw [hn] at ow
    obtain ⟨o1, o2, o3, o4, o5⟩ := ow
    have hp : pvOf q = some (q.th 0).v := by unfold pvOf; rw [hn]; rfl
    have e : stepA q 0 = ⟨q.setBot (wrap64 ((q.th 0).b + 1)), .no, { over := true, op := 0, v := (q.th 0).v, err := 0 }⟩ := by unfold stepA; rw [hn]; rfl
    have eb : (q.th 0).b = q.top + L.length := by omega
    refine ⟨L ++ [(q.th 0).v], tk, ?_, ?_, more_same hn (by decide) (by decide) (fun h => by rw [e] at h; cases h)⟩
    · rw [stp_same e]
      refine iv_own I (q.setBot (wrap64 ((q.th 0).b + 1))) _ rfl (fun _ => rfl) I.t0 (by simp; omega) (win_push I.w _ (by rw [← eb]; exact o5)) ⟨o1, ?_⟩ (.inr ⟨rfl, head_app _ _⟩)
      show wrap64 ((q.th 0).b + 1) = q.top + ((L ++ [(q.th 0).v]).length : Int)
      rw [wrE _ (by omega) (by omega)]; simp; omega
    · rw [stp_same e, pv_set, hp, e, o1]; exact .pushed _ _ _
  | a34 =>
    rw [hn] at ow
    obtain ⟨o1, o2, o3⟩ := ow
    have hp : pvOf q = none := by unfold pvOf; rw [hn]; rfl
    have e : stepA q 0 = ⟨q.setT 0 ((q.th 0).setB (wrap64 (q.bot - 1))), .a38, {}⟩ := by unfold stepA; rw [hn]; rfl
    refine ⟨L, tk, ?_, ?_, more_same hn (by decide) (by decide) (fun _ => ⟨rfl, rfl⟩)⟩
    · rw [stp_set e]
      exact iv_own I q _ rfl (fun _ => rfl) I.t0 I.hl I.w ⟨o1, o2, wrE _ (by omega) (by omega), o3⟩ (.inr ⟨rfl, fun _ h => h⟩)
    · rw [stp_set e, pv_set, hp, e]; exact .quiet _ _ _ _
  | a38 =>
    rw [hn] at ow
    obtain ⟨o1, o2, o3, o4⟩ := ow
    have hp : pvOf q = none := by unfold pvOf; rw [hn]; rfl
    have e : stepA q 0 = ⟨q.setBot (q.th 0).b, .a42, {}⟩ := by unfold stepA; rw [hn]; rfl
    refine ⟨L, tk, ?_, ?_, more_same hn (by decide) (by decide) (fun _ => ⟨rfl, rfl⟩)⟩
    · rw [stp_same e]
      exact iv_own I (q.setBot (q.th 0).b) _ rfl (fun _ => rfl) I.t0 I.hl I.w ⟨o1, rfl, show (q.th 0).b + 1 = q.top + L.length by omega, o4⟩ (.inr ⟨rfl, fun _ h => h⟩)
    · rw [stp_same e, pv_set, hp, e]; exact .quiet _ _ _ _
  | a42 =>
    rw [hn] at ow
    obtain ⟨o1, o2, o3, o4⟩ := ow
    have hp : pvOf q = none := by unfold pvOf; rw [hn]; rfl
    by_cases h : (q.th 0).b < q.top
    · have e : stepA q 0 = ⟨q.setT 0 ((q.th 0).setT q.top), .a45, {}⟩ := by unfold stepA; rw [hn]; exact if_pos h
      have hl : L = [] := List.eq_nil_of_length_eq_zero (by omega)
      refine ⟨L, tk, ?_, ?_, ⟨fun _ => ⟨by rw [stp_set e]; rfl, by rw [stp_set e]; rfl, by rw [e], by omega, fun h => by omega, fun _ => ⟨rfl, rfl⟩⟩, fun e' => (by rw [hn] at e'; cases e'), fun h => absurd hn h⟩⟩
      · rw [stp_set e]
        refine iv_own I q _ rfl (fun _ => rfl) I.t0 I.hl I.w ⟨o2, hl, ?_, ?_⟩ (.inr ⟨rfl, fun _ h => h⟩)
        · show (q.th 0).b + 1 = q.top
          subst hl; simp at o3; exact o3
        · show tk = if (q.th 0).win = true then _ else _
          rw [o4]; exact o1
      · rw [stp_set e, pv_set, hp, e]; exact .quiet _ _ _ _
    · have e : stepA q 0 = ⟨q.setT 0 ((q.th 0).setT q.top), .a46, {}⟩ := by unfold stepA; rw [hn]; exact if_neg h
      by_cases h2 : q.top < (q.th 0).b
      · obtain ⟨L', y, rfl⟩ := last_of L (by intro h; subst h; simp at o3; omega)
        have hln : ((L' ++ [y]).length : Int) = L'.length + 1 := by simp
        obtain ⟨w1, w2⟩ := win_init I.w
        have hlen := I.hl
        refine ⟨L', some y, ?_, ?_, ⟨fun _ => ⟨by rw [stp_set e]; rfl, by rw [stp_set e]; rfl, by rw [e], by omega, fun _ => ⟨y, rfl, rfl⟩, fun h => by omega⟩, fun e' => (by rw [hn] at e'; cases e'), fun h => absurd hn h⟩⟩
        · rw [stp_set e]
          refine iv_own I q _ rfl (fun _ => rfl) I.t0 (by simp at hlen; omega) w1 ⟨o2, show q.top ≤ q.top by omega, show q.top ≤ (q.th 0).b by omega, .inl ⟨h2, show q.top + (L'.length : Int) = (q.th 0).b by omega, ?_⟩⟩ (.inr ⟨rfl, fun z hz => ?_⟩)
          · show some y = some (q.pl (plc (q.th 0).b q.n))
            rw [w2, show q.top + (L'.length : Int) = (q.th 0).b by omega]
          · cases L' with
            | nil => simp at o3; omega
            | cons a l => exact hz
        · rw [stp_set e, pv_set, hp, e, o1]; exact .took _ _ _
      · refine ⟨L, tk, ?_, ?_, ⟨fun _ => ⟨by rw [stp_set e]; rfl, by rw [stp_set e]; rfl, by rw [e], by omega, fun h => by omega, fun _ => ⟨rfl, rfl⟩⟩, fun e' => (by rw [hn] at e'; cases e'), fun h => absurd hn h⟩⟩
        · rw [stp_set e]
          exact iv_own I q _ rfl (fun _ => rfl) I.t0 I.hl I.w ⟨o2, show q.top ≤ q.top by omega, show q.top ≤ (q.th 0).b by omega, .inr ⟨show q.top = (q.th 0).b by omega, o1, o3⟩⟩ (.inr ⟨rfl, fun _ h => h⟩)
        · rw [stp_set e, pv_set, hp, e]; exact .quiet _ _ _ _
  | a46 =>
    rw [hn] at ow
    obtain ⟨o1, o2, o3, o4⟩ := ow
    have hp : pvOf q = none := by unfold pvOf; rw [hn]; rfl
    by_cases h : (q.th 0).t < (q.th 0).b
    · have e : stepA q 0 = ⟨q.setT 0 ((q.th 0).setV (q.pl (plc (q.th 0).b q.n))), .no, { over := true, op := 1, v := q.pl (plc (q.th 0).b q.n), err := 0 }⟩ := by unfold stepA; rw [hn]; exact if_pos h
      rcases o4 with ⟨_, p1, p2⟩ | ⟨p1, _⟩
      · refine ⟨L, none, ?_, ?_, more_same hn (by decide) (by decide) (fun h => by rw [e] at h; cases h)⟩
        · rw [stp_set e]
          exact iv_own I q _ rfl (fun _ => rfl) I.t0 I.hl I.w ⟨rfl, by omega⟩ (.inr ⟨rfl, fun _ h => h⟩)
        · rw [stp_set e, pv_set, hp, e, p2]; exact .popped _ _ _
      · omega
    · have e : stepA q 0 = ⟨q.setT 0 ((q.th 0).setV (q.pl (plc (q.th 0).b q.n))), .a48, {}⟩ := by unfold stepA; rw [hn]; exact if_neg h
      rcases o4 with ⟨p1, _⟩ | ⟨p1, p2, p3⟩
      · omega
      · refine ⟨L, tk, ?_, ?_, more_same hn (by decide) (by decide) (fun _ => ⟨rfl, rfl⟩)⟩
        · rw [stp_set e]
          refine iv_own I q _ rfl (fun _ => rfl) I.t0 I.hl I.w ⟨o1, p1, o2, p3, p2, fun y hy => ?_⟩ (.inr ⟨rfl, fun _ h => h⟩)
          show y = q.pl (plc (q.th 0).b q.n)
          have w := I.w
          match L, hy, w, p3 with
          | [a], hy, w, p3 =>
            have := (win_tail w).2
            have p3' : (q.th 0).b + 1 = q.top + 1 := p3
            rw [show (q.th 0).b = q.top by omega, ← this]
            simpa using hy
          | a :: b :: l, hy, w, p3 => simp at p3; omega
        · rw [stp_set e, pv_set, hp, e]; exact .quiet _ _ _ _
  | a48 =>
    rw [hn] at ow
    obtain ⟨o1, o2, o3, o4, o5, o6⟩ := ow
    have hp : pvOf q = none := by unfold pvOf; rw [hn]; rfl
    by_cases h : q.top = (q.th 0).t
    · have e : stepA q 0 = ⟨(q.setTop (wrap64 (q.top + 1))).setT 0 ((q.th 0).setW true), .a45, {}⟩ := by unfold stepA; rw [hn]; exact if_pos h
      have ew : wrap64 (q.top + 1) = q.top + 1 := wrE _ (by omega) (by omega)
      obtain ⟨y, rfl⟩ : ∃ y, L = [y] := by
        match L, o4 with
        | [], o4 => simp at o4; omega
        | [y], _ => exact ⟨y, rfl⟩
        | a :: b :: l, o4 => simp at o4; omega
      have hy := o6 y (by simp)
      refine ⟨[], some y, ?_, ?_, ⟨fun e' => (by rw [hn] at e'; cases e'), fun _ => ⟨by rw [e], fun _ => ⟨y, rfl, rfl, rfl⟩, fun h => ?_⟩, fun _ h => absurd hn h⟩⟩
      · rw [stp_set e]
        refine iv_own I (q.setTop (wrap64 (q.top + 1))) _ rfl (fun _ => rfl) (by show 0 ≤ wrap64 (q.top + 1); rw [ew]; omega) (by simp) (win_nil _ _ _) ⟨o1, rfl, ?_, ?_⟩ (.inl (by show q.top < wrap64 (q.top + 1); rw [ew]; omega))
        · show (q.th 0).b + 1 = wrap64 (q.top + 1)
          rw [ew]; omega
        · show some y = if true = true then some (q.th 0).v else none
          rw [if_pos rfl, hy]
      · rw [stp_set e, pv_set, hp, e, o5]; exact .took _ [] y
      · rw [stp_set e] at h
        have h' : wrap64 (q.top + 1) = q.top := h
        omega
    · have e : stepA q 0 = ⟨q.setT 0 ((q.th 0).setW false), .a45, {}⟩ := by unfold stepA; rw [hn]; exact if_neg h
      have hl : L = [] := List.eq_nil_of_length_eq_zero (by omega)
      refine ⟨L, tk, ?_, ?_, ⟨fun e' => (by rw [hn] at e'; cases e'), fun _ => ⟨by rw [e], fun h => ?_, fun _ => ⟨rfl, rfl⟩⟩, fun _ h => absurd hn h⟩⟩
      · rw [stp_set e]
        refine iv_own I q _ rfl (fun _ => rfl) I.t0 I.hl I.w ⟨o1, hl, ?_, ?_⟩ (.inr ⟨rfl, fun _ h => h⟩)
        · show (q.th 0).b + 1 = q.top
          subst hl; simp at o4; exact o4
        · exact o5
      · rw [stp_set e, pv_set, hp, e]; exact .quiet _ _ _ _
      · rw [stp_set e] at h; exact absurd rfl h
  | a45 =>
    rw [hn] at ow
    obtain ⟨o1, o2, o3, o4⟩ := ow
    have hp : pvOf q = none := by unfold pvOf; rw [hn]; rfl
    subst o2
    have ew : wrap64 ((q.th 0).b + 1) = (q.th 0).b + 1 := wrE _ (by omega) (by simp at hb; omega)
    by_cases h : (q.th 0).win = true
    · have e : stepA q 0 = ⟨q.setBot (wrap64 ((q.th 0).b + 1)), .no, { over := true, op := 1, v := (q.th 0).v, err := 0 }⟩ := by unfold stepA; rw [hn]; exact if_pos h
      rw [if_pos h] at o4
      refine ⟨[], none, ?_, ?_, more_same hn (by decide) (by decide) (fun h => by rw [e] at h; cases h)⟩
      · rw [stp_same e]
        exact iv_own I (q.setBot (wrap64 ((q.th 0).b + 1))) _ rfl (fun _ => rfl) I.t0 I.hl I.w ⟨rfl, by show wrap64 ((q.th 0).b + 1) = q.top + 0; omega⟩ (.inr ⟨rfl, fun _ h => h⟩)
      · rw [stp_same e, pv_set, hp, e, o4]; exact .popped _ _ _
    · have e : stepA q 0 = ⟨q.setBot (wrap64 ((q.th 0).b + 1)), .no, { over := true, op := 1, v := 0, err := 8 }⟩ := by unfold stepA; rw [hn]; exact if_neg h
      rw [if_neg h] at o4
      refine ⟨[], none, ?_, ?_, more_same hn (by decide) (by decide) (fun h => by rw [e] at h; cases h)⟩
      · rw [stp_same e]
        exact iv_own I (q.setBot (wrap64 ((q.th 0).b + 1))) _ rfl (fun _ => rfl) I.t0 I.hl I.w ⟨rfl, by show wrap64 ((q.th 0).b + 1) = q.top + 0; omega⟩ (.inr ⟨rfl, fun _ h => h⟩)
      · rw [stp_same e, pv_set, hp, e, o4]; exact .empty _
theorem ow_bot {top bot : Int} {n : Nat} {pl : Nat → Int} {L : List Int} {tk : Option Int} {x : T} (h : Ow top bot n pl L tk x) : bot ≤ top + L.length := by
  unfold Ow at h
  cases hn : x.nx <;> rw [hn] at h <;> simp only at h
  case a45 => obtain ⟨h1, h2, h3, _⟩ := h; subst h2; simp; omega
  case a46 => obtain ⟨h1, h2, h3, h4⟩ := h; omega
  all_goals omega
theorem ow_steal {top bot : Int} {n : Nat} {pl : Nat → Int} {y : Int} {L : List Int} {tk : Option Int} {x : T} (h : Ow top bot n pl (y :: L) tk x) : Ow (top + 1) bot n pl L tk x := by
  unfold Ow at *
  have hl : ((y :: L).length : Int) = L.length + 1 := by simp
  cases hn : x.nx <;> rw [hn] at h <;> simp only at h ⊢
  case a45 => exact absurd h.2.1 (by simp)
  case a46 =>
    obtain ⟨h1, h2, h3, h4⟩ := h
    refine ⟨h1, by omega, h3, ?_⟩
    rcases h4 with ⟨p1, p2, p3⟩ | ⟨p1, p2, p3⟩
    · exact .inl ⟨p1, by omega, p3⟩
    · exact .inr ⟨p1, p2, by omega⟩
  case a48 =>
    obtain ⟨h1, h2, h3, h4, h5, h6⟩ := h
    exact ⟨h1, h2, by omega, by omega, h5, fun z hz => h6 z (List.mem_cons_of_mem _ hz)⟩
  case a41 => obtain ⟨h1, h2, h3, h4⟩ := h; exact ⟨h1, by omega, h3, by simp at h4; omega⟩
  case a44 => obtain ⟨h1, h2, h3, h4, h5⟩ := h; exact ⟨h1, by omega, h3, by simp at h4; omega, h5⟩
  case a42 => obtain ⟨h1, h2, h3, h4⟩ := h; exact ⟨h1, h2, by omega, h4⟩
  case a38 => obtain ⟨h1, h2, h3, h4⟩ := h; exact ⟨h1, by omega, h3, h4⟩
  case a37 => obtain ⟨h1, h2, h3⟩ := h; exact ⟨h1, by omega, h3⟩
  case a34 => obtain ⟨h1, h2, h3⟩ := h; exact ⟨h1, by omega, h3⟩
  case a33 => obtain ⟨h1, h2⟩ := h; exact ⟨h1, by omega⟩
  case no => obtain ⟨h1, h2⟩ := h; exact ⟨h1, by omega⟩
theorem thf_step {q : Q} {L : List Int} {tk : Option Int} (I : Iv q L tk) (k : Nat) (k1 : 1 ≤ k) (k8 : k < 8) (hx : (q.th k).nx ≠ .no) (hb : q.top + L.length ≤ 100000000000000000) :
    ∃ L', Iv (stp q k) L' tk ∧ Ev q.n L tk (pvOf q) (stepA q k).d L' tk (pvOf (stp q k)) := by
  have h0 := I.t0
  have tf := I.th k k1 k8
  unfold Tf at tf
  cases hn : (q.th k).nx with
  | no => exact absurd hn hx
  | a33 => rw [hn] at tf; exact tf.elim
  | a37 => rw [hn] at tf; exact tf.elim
  | a41 => rw [hn] at tf; exact tf.elim
  | a44 => rw [hn] at tf; exact tf.elim
  | a34 => rw [hn] at tf; exact tf.elim
  | a38 => rw [hn] at tf; exact tf.elim
  | a42 => rw [hn] at tf; exact tf.elim
  | a46 => rw [hn] at tf; exact tf.elim
  | a48 => rw [hn] at tf; exact tf.elim
  | a45 => rw [hn] at tf; exact tf.elim
  | a35 =>
    have e : stepA q k = ⟨q.setT k ((q.th k).setT q.top), .a39, {}⟩ := by unfold stepA; rw [hn]; rfl
    refine ⟨L, ?_, ?_⟩
    · rw [stp_set e]
      exact iv_thf I q k _ k1 rfl (fun _ => rfl) I.t0 I.hl I.w I.ow (Int.le_refl q.top) (.inr ⟨rfl, fun _ h => h⟩)
    · rw [stp_set e, pv_th q q k _ k1 (fun _ => rfl), e]; exact .quiet _ _ _ _
  | a39 =>
    rw [hn] at tf
    by_cases h : q.bot ≤ (q.th k).t
    · have e : stepA q k = ⟨q, .no, { over := true, op := 2, v := 0, err := 8 }⟩ := by unfold stepA; rw [hn]; exact if_pos h
      refine ⟨L, ?_, ?_⟩
      · rw [stp_same e]
        exact iv_thf I q k _ k1 rfl (fun _ => rfl) I.t0 I.hl I.w I.ow (show True from trivial) (.inr ⟨rfl, fun _ h => h⟩)
      · rw [stp_same e, pv_th q q k _ k1 (fun _ => rfl), e]; exact .none2 _ _ _ _ _ (by decide)
    · have e : stepA q k = ⟨q, .a43, {}⟩ := by unfold stepA; rw [hn]; exact if_neg h
      have hbot := ow_bot I.ow
      refine ⟨L, ?_, ?_⟩
      · rw [stp_same e]
        refine iv_thf I q k _ k1 rfl (fun _ => rfl) I.t0 I.hl I.w I.ow ⟨tf, fun he => ?_⟩ (.inr ⟨rfl, fun _ h => h⟩)
        have he' : (q.th k).t = q.top := he
        cases L with
        | nil => simp at hbot; omega
        | cons a l => simp
      · rw [stp_same e, pv_th q q k _ k1 (fun _ => rfl), e]; exact .quiet _ _ _ _
  | a43 =>
    rw [hn] at tf
    have e : stepA q k = ⟨q.setT k ((q.th k).setV (q.pl (plc (q.th k).t q.n))), .a47, {}⟩ := by unfold stepA; rw [hn]; rfl
    refine ⟨L, ?_, ?_⟩
    · rw [stp_set e]
      refine iv_thf I q k _ k1 rfl (fun _ => rfl) I.t0 I.hl I.w I.ow ⟨tf.1, fun he => ?_⟩ (.inr ⟨rfl, fun _ h => h⟩)
      have he' : (q.th k).t = q.top := he
      show L.head? = some (q.pl (plc (q.th k).t q.n))
      have w := I.w
      have t2 := tf.2 he'
      cases L with
      | nil => exact absurd rfl t2
      | cons a l => rw [he', ← (win_tail w).2]; rfl
    · rw [stp_set e, pv_th q q k _ k1 (fun _ => rfl), e]; exact .quiet _ _ _ _
  | a47 =>
    rw [hn] at tf
    by_cases h : q.top = (q.th k).t
    · have e : stepA q k = ⟨q.setTop (wrap64 (q.top + 1)), .no, { over := true, op := 2, v := (q.th k).v, err := 0 }⟩ := by unfold stepA; rw [hn]; exact if_pos h
      have ew : wrap64 (q.top + 1) = q.top + 1 := wrE _ (by omega) (by omega)
      have hh := tf.2 h.symm
      obtain ⟨l, rfl⟩ : ∃ l, L = (q.th k).v :: l := by
        cases L with
        | nil => cases hh
        | cons a l => exact ⟨l, by rw [show a = (q.th k).v by simpa using hh]⟩
      have hlen := I.hl
      refine ⟨l, ?_, ?_⟩
      · rw [stp_same e]
        refine iv_thf I (q.setTop (wrap64 (q.top + 1))) k _ k1 rfl (fun _ => rfl) (by show 0 ≤ wrap64 (q.top + 1); omega) (by simp at hlen; omega) ?_ ?_ (show True from trivial) (.inl (by show q.top < wrap64 (q.top + 1); omega))
        · show Win (wrap64 (q.top + 1)) q.n q.pl l
          rw [ew]; exact (win_tail I.w).1
        · show Ow (wrap64 (q.top + 1)) q.bot q.n q.pl l tk (q.th 0)
          rw [ew]; exact ow_steal I.ow
      · rw [stp_same e, pv_th (q.setTop (wrap64 (q.top + 1))) q k _ k1 (fun _ => rfl), e]; exact .stolen _ _ _ _ _
    · have e : stepA q k = ⟨q, .no, { over := true, op := 2, v := 0, err := 17 }⟩ := by unfold stepA; rw [hn]; exact if_neg h
      refine ⟨L, ?_, ?_⟩
      · rw [stp_same e]
        exact iv_thf I q k _ k1 rfl (fun _ => rfl) I.t0 I.hl I.w I.ow (show True from trivial) (.inr ⟨rfl, fun _ h => h⟩)
      · rw [stp_same e, pv_th q q k _ k1 (fun _ => rfl), e]; exact .none2 _ _ _ _ _ (by decide)
end Go.Proofs.Ytldobbdaokjgaaa
