/- The deque, as plain law: beginning anew, how many accesses are left, the laws' words. -/
import Derived.Test.YtldobbdaokjgaaaP8
namespace Go.Proofs.Ytldobbdaokjgaaa
open Go.RowKit
set_option linter.unusedVariables false
set_option linter.unusedSimpArgs false
/-- one step of a busy thread -/
theorem any_step {q : Q} {L : List Int} {tk : Option Int} (I : Iv q L tk) (k : Nat) (k8 : k < 8) (hx : (q.th k).nx ≠ .no) (hb : q.top + L.length ≤ 100000000000000000) :
    ∃ L' tk', Iv (stp q k) L' tk' ∧ Ev q.n L tk (pvOf q) (stepA q k).d L' tk' (pvOf (stp q k)) := by
  by_cases e : k = 0
  · subst e; obtain ⟨L', tk', h1, h2, _⟩ := own_step I hx hb; exact ⟨L', tk', h1, h2⟩
  · obtain ⟨L', h1, h2⟩ := thf_step I k (by omega) k8 hx hb; exact ⟨L', tk, h1, h2⟩
/-- beginning anew -/
def nxq (q : Q) (k : Nat) (p : Bool) (m : Int) : Q × Int :=
  if (q.th k).nx ≠ .no then (q, m)
  else if k = 0 then (if p = true then (q.setT 0 { nx := .a33, v := m + 1 }, m + 1) else (q.setT 0 { nx := .a34, v := m + 1 }, m))
  else (q.setT k { nx := .a35, v := m + 1 }, m)
theorem nxq_on (q : Q) (k : Nat) (p : Bool) (m : Int) : ((nxq q k p m).1.th k).nx ≠ .no := by
  unfold nxq
  split
  · assumption
  · split
    · subst_vars; split <;> (rw [setT_at]; intro h; cases h)
    · rw [setT_at]; intro h; cases h
theorem iv_nxq {q : Q} {L : List Int} {tk : Option Int} (I : Iv q L tk) (k : Nat) (p : Bool) (m : Int) : Iv (nxq q k p m).1 L tk := by
  unfold nxq
  split
  · exact I
  · rename_i hn
    have hn : (q.th k).nx = .no := by simpa using hn
    split
    · subst_vars
      have o := ow_no I hn
      split
      · exact iv_own I q _ rfl (fun _ => rfl) I.t0 I.hl I.w ⟨o.1, o.2⟩ (.inr ⟨rfl, fun _ h => h⟩)
      · exact iv_own I q _ rfl (fun _ => rfl) I.t0 I.hl I.w ⟨o.1, o.2, rfl⟩ (.inr ⟨rfl, fun _ h => h⟩)
    · exact iv_thf I q k _ (by omega) rfl (fun _ => rfl) I.t0 I.hl I.w I.ow (show True from trivial) (.inr ⟨rfl, fun _ h => h⟩)
/-- what is being pushed, behind a begin -/
theorem pv_nxq (q : Q) (k : Nat) (p : Bool) (m : Int) : (pvOf (nxq q k p m).1 = pvOf q ∧ (nxq q k p m).2 = m) ∨ (k = 0 ∧ p = true ∧ (q.th 0).nx = .no ∧ pvOf q = none ∧ pvOf (nxq q k p m).1 = some (m + 1) ∧ (nxq q k p m).2 = m + 1) := by
  unfold nxq
  split
  · exact .inl ⟨rfl, rfl⟩
  · rename_i hn
    have hn : (q.th k).nx = .no := by simpa using hn
    split
    · subst_vars
      have hp : pvOf q = none := by unfold pvOf; rw [hn]; rfl
      split
      · rename_i h; exact .inr ⟨rfl, h, hn, hp, by rw [pv_set]; rfl, rfl⟩
      · exact .inl ⟨by rw [pv_set, hp]; rfl, rfl⟩
    · exact .inl ⟨by rw [pv_th q q k _ (by omega) (fun _ => rfl)], rfl⟩
theorem nxq_top (q : Q) (k : Nat) (p : Bool) (m : Int) : (nxq q k p m).1.top = q.top ∧ (nxq q k p m).1.bot = q.bot ∧ (nxq q k p m).1.n = q.n ∧ (nxq q k p m).1.pl = q.pl := by
  unfold nxq; repeat (first | split | exact ⟨rfl, rfl, rfl, rfl⟩)
theorem nxq_oth (q : Q) (k j : Nat) (p : Bool) (m : Int) (h : j ≠ k) : (nxq q k p m).1.th j = q.th j := by
  unfold nxq
  split
  · rfl
  · split
    · split <;> exact setT_ne _ _ _ _ (by omega)
    · exact setT_ne _ _ _ _ h
theorem stp_n (q : Q) (k : Nat) : (stp q k).n = q.n := by
  unfold stp A.fin stepA act
  cases (q.th k).nx <;> dsimp only <;> first | rfl | (split <;> rfl)
theorem stp_oth (q : Q) (k j : Nat) (h : j ≠ k) : (stp q k).th j = q.th j := by
  have e : (stp q k).th j = (stepA q k).q.th j := setT_ne _ _ _ _ h
  rw [e]
  unfold stepA act
  cases (q.th k).nx <;> dsimp only <;> first | rfl | exact setT_ne _ _ _ _ h | (split <;> first | rfl | exact setT_ne _ _ _ _ h)
/-- how many accesses are left at most -/
def meas : Nx → Nat | .no => 0 | .a33 => 4 | .a37 => 3 | .a41 => 2 | .a44 => 1 | .a34 => 6 | .a38 => 5 | .a42 => 4 | .a46 => 3 | .a48 => 2 | .a45 => 1 | .a35 => 4 | .a39 => 3 | .a43 => 2 | .a47 => 1
theorem meas_le (x : Nx) : meas x ≤ 6 := by cases x <;> decide
theorem meas_no {x : Nx} (h : meas x = 0) : x = .no := by cases x <;> first | rfl | (simp [meas] at h)
/-- how many accesses the owner has made -/
def mkd : Nx → Nat → Prop
  | .a33, m => m = 0 | .a37, m => m = 1 | .a41, m => m = 2 | .a44, m => m = 3
  | .a34, m => m = 0 | .a38, m => m = 1 | .a42, m => m = 2 | .a46, m => m = 3 | .a48, m => m = 4 | .a45, m => m = 3 ∨ m = 5
  | _, _ => True
theorem stp_nx (q : Q) (k : Nat) : ((stp q k).th k).nx = (stepA q k).nx := by
  unfold stp A.fin; rw [setT_at]; rfl
structure Nxt (x y : Nx) (d : D) : Prop where
  m : meas y < meas x
  over : d.over = true ↔ y = .no
  quiet : d.over = false → d = {}
  ps : d.over = false → pushing y = pushing x ∧ popping y = popping x
  mkh : d.over = false → ∀ m, mkd x m → mkd y (m + 1)
  op : d.over = true → (pushing x = true → d.op = 0) ∧ (popping x = true → d.op = 1) ∧ (pushing x = false → popping x = false → d.op = 2)
theorem nxt_step (q : Q) (k : Nat) (hx : (q.th k).nx ≠ .no) : Nxt (q.th k).nx ((stp q k).th k).nx (stepA q k).d := by
  rw [stp_nx]
  unfold stepA
  have F : ∀ {x y : Nx} {d : D}, meas y < meas x → d.over = false → d = {} → y ≠ .no → pushing y = pushing x ∧ popping y = popping x → (∀ m, mkd x m → mkd y (m + 1)) → Nxt x y d := fun h1 h2 h3 h4 h5 h6 =>
    ⟨h1, ⟨fun h => (by rw [h2] at h; cases h), fun h => absurd h h4⟩, fun _ => h3, fun _ => h5, fun _ => h6, fun h => (by rw [h2] at h; cases h)⟩
  have G : ∀ {x : Nx} {d : D}, 0 < meas x → d.over = true → ((pushing x = true → d.op = 0) ∧ (popping x = true → d.op = 1) ∧ (pushing x = false → popping x = false → d.op = 2)) → Nxt x .no d := fun h1 h2 h3 =>
    ⟨h1, ⟨fun _ => rfl, fun _ => h2⟩, fun h => (by rw [h2] at h; cases h), fun h => (by rw [h2] at h; cases h), fun h => (by rw [h2] at h; cases h), fun _ => h3⟩
  cases hn : (q.th k).nx with
  | no => exact absurd hn hx
  | a33 => show Nxt _ .a37 {}; exact F (by decide) rfl rfl (by decide) ⟨rfl, rfl⟩ (fun m h => by simp only [mkd] at *; omega)
  | a34 => show Nxt _ .a38 {}; exact F (by decide) rfl rfl (by decide) ⟨rfl, rfl⟩ (fun m h => by simp only [mkd] at *; omega)
  | a35 => show Nxt _ .a39 {}; exact F (by decide) rfl rfl (by decide) ⟨rfl, rfl⟩ (fun m h => trivial)
  | a37 =>
    show Nxt _ (act q k (q.th k) .a37).nx (act q k (q.th k) .a37).d
    by_cases h : (q.n : Int) ≤ wrap64 ((q.th k).b - q.top)
    · rw [show act q k (q.th k) .a37 = ⟨q, .no, { over := true, op := 0, v := (q.th k).v, err := 7 }⟩ from if_pos h]
      exact G (by decide) rfl ⟨fun _ => rfl, fun h => (by cases h), fun h => (by cases h)⟩
    · rw [show act q k (q.th k) .a37 = ⟨q, .a41, {}⟩ from if_neg h]
      exact F (by dsimp only; decide) rfl rfl (by dsimp only; decide) ⟨rfl, rfl⟩ (fun m h => by simp only [mkd] at *; omega)
  | a38 => show Nxt _ .a42 {}; exact F (by decide) rfl rfl (by decide) ⟨rfl, rfl⟩ (fun m h => by simp only [mkd] at *; omega)
  | a39 =>
    show Nxt _ (act q k (q.th k) .a39).nx (act q k (q.th k) .a39).d
    by_cases h : q.bot ≤ (q.th k).t
    · rw [show act q k (q.th k) .a39 = ⟨q, .no, { over := true, op := 2, v := 0, err := 8 }⟩ from if_pos h]
      exact G (by decide) rfl ⟨fun h => (by cases h), fun h => (by cases h), fun _ _ => rfl⟩
    · rw [show act q k (q.th k) .a39 = ⟨q, .a43, {}⟩ from if_neg h]
      exact F (by dsimp only; decide) rfl rfl (by dsimp only; decide) ⟨rfl, rfl⟩ (fun m h => trivial)
  | a41 => show Nxt _ .a44 {}; exact F (by decide) rfl rfl (by decide) ⟨rfl, rfl⟩ (fun m h => by simp only [mkd] at *; omega)
  | a42 =>
    show Nxt _ (act q k (q.th k) .a42).nx (act q k (q.th k) .a42).d
    by_cases h : (q.th k).b < q.top
    · rw [show act q k (q.th k) .a42 = ⟨q.setT k ((q.th k).setT q.top), .a45, {}⟩ from if_pos h]
      exact F (by dsimp only; decide) rfl rfl (by dsimp only; decide) ⟨rfl, rfl⟩ (fun m h => by simp only [mkd] at *; omega)
    · rw [show act q k (q.th k) .a42 = ⟨q.setT k ((q.th k).setT q.top), .a46, {}⟩ from if_neg h]
      exact F (by dsimp only; decide) rfl rfl (by dsimp only; decide) ⟨rfl, rfl⟩ (fun m h => by simp only [mkd] at *; omega)
  | a43 => show Nxt _ .a47 {}; exact F (by decide) rfl rfl (by decide) ⟨rfl, rfl⟩ (fun m h => trivial)
  | a44 => show Nxt _ .no { over := true, op := 0, v := (q.th k).v, err := 0 }; exact G (by decide) rfl ⟨fun _ => rfl, fun h => (by cases h), fun h => (by cases h)⟩
  | a45 =>
    show Nxt _ (act q k (q.th k) .a45).nx (act q k (q.th k) .a45).d
    by_cases h : (q.th k).win = true
    · rw [show act q k (q.th k) .a45 = ⟨q.setBot (wrap64 ((q.th k).b + 1)), .no, { over := true, op := 1, v := (q.th k).v, err := 0 }⟩ from if_pos h]
      exact G (by decide) rfl ⟨fun h => (by cases h), fun _ => rfl, fun _ h => (by cases h)⟩
    · rw [show act q k (q.th k) .a45 = ⟨q.setBot (wrap64 ((q.th k).b + 1)), .no, { over := true, op := 1, v := 0, err := 8 }⟩ from if_neg h]
      exact G (by decide) rfl ⟨fun h => (by cases h), fun _ => rfl, fun _ h => (by cases h)⟩
  | a46 =>
    show Nxt _ (act q k (q.th k) .a46).nx (act q k (q.th k) .a46).d
    by_cases h : (q.th k).t < (q.th k).b
    · rw [show act q k (q.th k) .a46 = ⟨q.setT k ((q.th k).setV (q.pl (plc (q.th k).b q.n))), .no, { over := true, op := 1, v := q.pl (plc (q.th k).b q.n), err := 0 }⟩ from if_pos h]
      exact G (by decide) rfl ⟨fun h => (by cases h), fun _ => rfl, fun _ h => (by cases h)⟩
    · rw [show act q k (q.th k) .a46 = ⟨q.setT k ((q.th k).setV (q.pl (plc (q.th k).b q.n))), .a48, {}⟩ from if_neg h]
      exact F (by dsimp only; decide) rfl rfl (by dsimp only; decide) ⟨rfl, rfl⟩ (fun m h => by simp only [mkd] at *; omega)
  | a47 =>
    show Nxt _ (act q k (q.th k) .a47).nx (act q k (q.th k) .a47).d
    by_cases h : q.top = (q.th k).t
    · rw [show act q k (q.th k) .a47 = ⟨q.setTop (wrap64 (q.top + 1)), .no, { over := true, op := 2, v := (q.th k).v, err := 0 }⟩ from if_pos h]
      exact G (by decide) rfl ⟨fun h => (by cases h), fun h => (by cases h), fun _ _ => rfl⟩
    · rw [show act q k (q.th k) .a47 = ⟨q, .no, { over := true, op := 2, v := 0, err := 17 }⟩ from if_neg h]
      exact G (by decide) rfl ⟨fun h => (by cases h), fun h => (by cases h), fun _ _ => rfl⟩
  | a48 =>
    show Nxt _ (act q k (q.th k) .a48).nx (act q k (q.th k) .a48).d
    by_cases h : q.top = (q.th k).t
    · rw [show act q k (q.th k) .a48 = ⟨(q.setTop (wrap64 (q.top + 1))).setT k ((q.th k).setW true), .a45, {}⟩ from if_pos h]
      exact F (by dsimp only; decide) rfl rfl (by dsimp only; decide) ⟨rfl, rfl⟩ (fun m h => by simp only [mkd] at *; omega)
    · rw [show act q k (q.th k) .a48 = ⟨q.setT k ((q.th k).setW false), .a45, {}⟩ from if_neg h]
      exact F (by dsimp only; decide) rfl rfl (by dsimp only; decide) ⟨rfl, rfl⟩ (fun m h => by simp only [mkd] at *; omega)
theorem stp_top (q : Q) (k : Nat) (h0 : 0 ≤ q.top) (hb : q.top ≤ 100000000000000000) : (stp q k).top ≤ q.top + 1 ∧ ((stepA q k).d.over = true → (stepA q k).d.op = 0 → (stp q k).top = q.top) := by
  have e : (stp q k).top = (stepA q k).q.top := rfl
  have ew : wrap64 (q.top + 1) = q.top + 1 := wrE _ (by omega) (by omega)
  rw [e]
  unfold stepA act
  cases (q.th k).nx <;> dsimp only
  case a48 =>
    split
    · refine ⟨?_, fun h => (by cases h)⟩
      show wrap64 (q.top + 1) ≤ _
      omega
    · exact ⟨by show q.top ≤ _; omega, fun h => (by cases h)⟩
  case a47 =>
    split
    · refine ⟨?_, fun _ h => (by cases h)⟩
      show wrap64 (q.top + 1) ≤ _
      omega
    · exact ⟨by show q.top ≤ _; omega, fun _ h => (by cases h)⟩
  all_goals first
    | exact ⟨by show q.top ≤ q.top + 1; omega, fun _ _ => rfl⟩
    | (split <;> exact ⟨by show q.top ≤ q.top + 1; omega, fun _ _ => rfl⟩)
/-- how far top and the list reach together -/
theorem ev_reach {q : Q} {k : Nat} {L L' : List Int} {tk tk' pv pv' : Option Int} {n : Nat} (h0 : 0 ≤ q.top) (hb : q.top + L.length ≤ 100000000000000000) (ev : Ev n L tk pv (stepA q k).d L' tk' pv') : (stp q k).top + L'.length ≤ q.top + L.length + 1 := by
  obtain ⟨h1, h2⟩ := stp_top q k h0 (by omega)
  generalize (stp q k).top = t' at *
  generalize (stepA q k).d = d at *
  cases ev with
  | pushed L v => have := h2 rfl rfl; simp; omega
  | took L y => simp; omega
  | stolen L y tk pv => simp; omega
  | _ => omega
/-- what stands there when the owner rests -/
def items (q : Q) : List Int := (List.range (q.bot - q.top).toNat).map fun (i : Nat) => q.pl (plc (q.top + (i : Int)) q.n)
theorem items_len (q : Q) : (items q).length = (q.bot - q.top).toNat := by unfold items; simp
theorem items_iv {q : Q} {L : List Int} {tk : Option Int} (I : Iv q L tk) (hn : (q.th 0).nx = .no) : items q = L := by
  have o := (ow_no I hn).2
  have hl : (q.bot - q.top).toNat = L.length := by omega
  apply List.ext_getElem?
  intro i
  unfold items
  rw [hl]
  by_cases h : i < L.length
  · rw [I.w i h]; simp [h]
  · rw [List.getElem?_eq_none (by simp; omega), List.getElem?_eq_none (by omega)]
/-- DequeFifo's words -/
structure Vf (L : List Int) (tk pv : Option Int) (m last : Int) : Prop where
  srt : L.Pairwise (· < ·)
  lo : ∀ y ∈ L, last < y
  hi : ∀ y ∈ L, y ≤ m
  pvh : ∀ v, pv = some v → v = m ∧ last < v ∧ ∀ y ∈ L, y < v
  tkh : ∀ y, tk = some y → ∀ z ∈ L, z < y
  lm : last ≤ m
theorem vf_nil : Vf [] none none 0 0 := ⟨List.Pairwise.nil, fun _ h => (by cases h), fun _ h => (by cases h), fun _ h => (by cases h), fun _ h => (by cases h), by omega⟩
theorem vf_new {L : List Int} {tk : Option Int} {m last : Int} (h : Vf L tk none m last) : Vf L tk (some (m + 1)) (m + 1) last :=
  ⟨h.srt, h.lo, fun y hy => by have := h.hi y hy; omega, fun v e => by
    have e : m + 1 = v := by simpa using e
    subst e
    exact ⟨rfl, by have := h.lm; omega, fun y hy => by have := h.hi y hy; omega⟩, h.tkh, by have := h.lm; omega⟩
theorem pw_app {L : List Int} {y : Int} (h : L.Pairwise (· < ·)) (g : ∀ z ∈ L, z < y) : (L ++ [y]).Pairwise (· < ·) := by
  rw [List.pairwise_append]
  exact ⟨h, by simp, fun a ha b hb => by have : b = y := by simpa using hb
                                         subst this; exact g a ha⟩
theorem pw_of {L : List Int} {y : Int} (h : (L ++ [y]).Pairwise (· < ·)) : L.Pairwise (· < ·) ∧ ∀ z ∈ L, z < y := by
  rw [List.pairwise_append] at h
  exact ⟨h.1, fun z hz => h.2.2 z hz y (by simp)⟩
/-- last, behind an access -/
def lastOf (last : Int) (d : D) : Int := if d.over = true ∧ d.err = 0 ∧ d.op = 2 then d.v else last
theorem vf_ev {n : Nat} {L L' : List Int} {tk tk' pv pv' : Option Int} {d : D} {m last : Int} (h : Vf L tk pv m last) (ev : Ev n L tk pv d L' tk' pv') :
    Vf L' tk' pv' m (lastOf last d) ∧ (d.over = true → d.err = 0 → (d.op = 2 → last < d.v) ∧ (d.op = 1 → ∀ z ∈ L', z < d.v)) := by
  cases ev with
  | quiet => exact ⟨h, fun e => by cases e⟩
  | pushed L v =>
    obtain ⟨p1, p2, p3⟩ := h.pvh v rfl
    refine ⟨⟨pw_app h.srt p3, fun y hy => ?_, fun y hy => ?_, fun _ e => (by cases e), fun _ e => (by cases e), h.lm⟩, fun _ _ => ⟨fun e => (by cases e), fun e => (by cases e)⟩⟩
    · rcases List.mem_append.1 hy with hy | hy
      · exact h.lo y hy
      · have : y = v := by simpa using hy
        subst this; exact p2
    · rcases List.mem_append.1 hy with hy | hy
      · exact h.hi y hy
      · have : y = v := by simpa using hy
        omega
  | full L v hl => exact ⟨⟨h.srt, h.lo, h.hi, fun _ e => (by cases e), h.tkh, h.lm⟩, fun _ e => by cases e⟩
  | took L y =>
    obtain ⟨p1, p2⟩ := pw_of h.srt
    exact ⟨⟨p1, fun z hz => h.lo z (by simp [hz]), fun z hz => h.hi z (by simp [hz]), fun _ e => (by cases e), fun z e => (by
      have e : y = z := by simpa using e
      subst e; exact p2), h.lm⟩, fun e => by cases e⟩
  | popped L y => exact ⟨⟨h.srt, h.lo, h.hi, fun _ e => (by cases e), fun _ e => (by cases e), h.lm⟩, fun _ _ => ⟨fun e => (by cases e), fun _ => h.tkh y rfl⟩⟩
  | empty => exact ⟨h, fun _ e => by cases e⟩
  | stolen L y tk pv =>
    have hs := List.pairwise_cons.1 h.srt
    have ey : lastOf last { over := true, op := 2, v := y, err := 0 } = y := if_pos ⟨rfl, rfl, rfl⟩
    refine ⟨?_, fun _ _ => ⟨fun _ => h.lo y (by simp), fun e => (by cases e)⟩⟩
    rw [ey]
    exact ⟨hs.2, fun z hz => hs.1 z hz, fun z hz => h.hi z (by simp [hz]), fun v e => ⟨(h.pvh v e).1, (h.pvh v e).2.2 y (by simp), fun z hz => (h.pvh v e).2.2 z (by simp [hz])⟩, fun z e w hw => h.tkh z e w (by simp [hw]), h.hi y (by simp)⟩
  | none2 L tk pv e he =>
    have ey : lastOf last { over := true, op := 2, v := 0, err := e } = last := if_neg (fun h => he h.2.1)
    rw [ey]
    exact ⟨h, fun _ e' => absurd e' he⟩
/-- DequeOnce's words -/
structure Vo (L : List Int) (tk pv : Option Int) (m : Int) (inn out : Int → Bool) : Prop where
  srt : L.Pairwise (· < ·)
  hi : ∀ y ∈ L, 1 ≤ y ∧ y ≤ m
  pvh : ∀ v, pv = some v → v = m ∧ 1 ≤ m ∧ inn v = false ∧ out v = false ∧ ∀ y ∈ L, y < v
  tkh : ∀ y, tk = some y → 1 ≤ y ∧ y ≤ m ∧ ∀ z ∈ L, z < y
  mem : ∀ y, (inn y = true ∧ out y = false) ↔ (y ∈ L ∨ tk = some y)
  fut : ∀ y, m < y → inn y = false ∧ out y = false
  oi : ∀ y, out y = true → inn y = true
  m0 : 0 ≤ m
theorem vo_nil : Vo [] none none 0 (fun _ => false) (fun _ => false) :=
  ⟨List.Pairwise.nil, fun _ h => (by cases h), fun _ h => (by cases h), fun _ h => (by cases h), fun y => ⟨fun h => (by cases h.1), fun h => (by rcases h with h | h <;> cases h)⟩, fun _ _ => ⟨rfl, rfl⟩, fun _ h => (by cases h), by omega⟩
theorem vo_new {L : List Int} {tk : Option Int} {m : Int} {inn out : Int → Bool} (h : Vo L tk none m inn out) : Vo L tk (some (m + 1)) (m + 1) inn out :=
  ⟨h.srt, fun y hy => by have := h.hi y hy; omega, fun v e => by
    have e : m + 1 = v := by simpa using e
    subst e
    have := h.fut (m + 1) (by omega)
    exact ⟨rfl, by have := h.m0; omega, this.1, this.2, fun y hy => by have := h.hi y hy; omega⟩, fun y e => by have := h.tkh y e; exact ⟨this.1, by omega, this.2.2⟩, h.mem, fun y hy => h.fut y (by omega), h.oi, by have := h.m0; omega⟩
def upd (f : Int → Bool) (x : Int) : Int → Bool := fun y => if y = x then true else f y
def isOk (d : D) : Prop := d.over = true ∧ d.err = 0
instance (d : D) : Decidable (isOk d) := by unfold isOk; infer_instance
def innOf (f : Int → Bool) (d : D) : Int → Bool := if isOk d ∧ d.op = 0 then upd f d.v else f
def outOf (f : Int → Bool) (d : D) : Int → Bool := if isOk d ∧ d.op ≠ 0 then upd f d.v else f
theorem vo_ev {n : Nat} {L L' : List Int} {tk tk' pv pv' : Option Int} {d : D} {m : Int} {inn out : Int → Bool} (h : Vo L tk pv m inn out) (ev : Ev n L tk pv d L' tk' pv') :
    Vo L' tk' pv' m (innOf inn d) (outOf out d) ∧ (isOk d → 1 ≤ d.v ∧ d.v ≤ m ∧ (d.op ≠ 0 → out d.v = false)) := by
  cases ev with
  | quiet =>
    have e1 : innOf inn {} = inn := if_neg (fun h => by cases h.1.1)
    have e2 : outOf out {} = out := if_neg (fun h => by cases h.1.1)
    rw [e1, e2]
    exact ⟨h, fun e => by cases e.1⟩
  | pushed L v =>
    obtain ⟨p1, p2, p3, p4, p5⟩ := h.pvh v rfl
    have e1 : innOf inn { over := true, op := 0, v := v, err := 0 } = upd inn v := if_pos ⟨⟨rfl, rfl⟩, rfl⟩
    have e2 : outOf out { over := true, op := 0, v := v, err := 0 } = out := if_neg (fun h => h.2 rfl)
    rw [e1, e2]
    refine ⟨⟨pw_app h.srt p5, fun y hy => ?_, fun _ e => (by cases e), fun _ e => (by cases e), fun y => ?_, fun y hy => ?_, fun y hy => ?_, h.m0⟩, fun _ => ⟨by show 1 ≤ v; omega, by show v ≤ m; omega, fun h => absurd rfl h⟩⟩
    · rcases List.mem_append.1 hy with hy | hy
      · exact h.hi y hy
      · have : y = v := by simpa using hy
        omega
    · by_cases e : y = v
      · subst e
        simp [upd, p4]
      · have := h.mem y
        simp only [upd, if_neg e, List.mem_append, List.mem_singleton]
        rw [this]
        constructor
        · rintro (g | g)
          · exact .inl (.inl g)
          · cases g
        · rintro ((g | g) | g)
          · exact .inl g
          · exact absurd g e
          · cases g
    · have := h.fut y hy
      exact ⟨by unfold upd; rw [if_neg (by omega)]; exact this.1, this.2⟩
    · by_cases e : y = v
      · unfold upd; rw [if_pos e]
      · unfold upd; rw [if_neg e]; exact h.oi y hy
  | full L v hl =>
    have e1 : innOf inn { over := true, op := 0, v := v, err := 7 } = inn := if_neg (fun h => by cases h.1.2)
    have e2 : outOf out { over := true, op := 0, v := v, err := 7 } = out := if_neg (fun h => by cases h.1.2)
    rw [e1, e2]
    exact ⟨⟨h.srt, h.hi, fun _ e => (by cases e), h.tkh, h.mem, h.fut, h.oi, h.m0⟩, fun e => by cases e.2⟩
  | took L y =>
    have e1 : innOf inn {} = inn := if_neg (fun h => by cases h.1.1)
    have e2 : outOf out {} = out := if_neg (fun h => by cases h.1.1)
    rw [e1, e2]
    obtain ⟨p1, p2⟩ := pw_of h.srt
    refine ⟨⟨p1, fun z hz => h.hi z (by simp [hz]), fun _ e => (by cases e), fun z e => ?_, fun z => ?_, h.fut, h.oi, h.m0⟩, fun e => by cases e.1⟩
    · have e : y = z := by simpa using e
      subst e
      have := h.hi y (by simp)
      exact ⟨this.1, this.2, p2⟩
    · rw [h.mem z]
      simp only [List.mem_append, List.mem_singleton, Option.some.injEq]
      constructor
      · rintro ((g | g) | g)
        · exact .inl g
        · exact .inr g.symm
        · cases g
      · rintro (g | g)
        · exact .inl (.inl g)
        · exact .inl (.inr g.symm)
  | popped L y =>
    obtain ⟨p1, p2, p3⟩ := h.tkh y rfl
    have hm := (h.mem y).2 (.inr rfl)
    have e1 : innOf inn { over := true, op := 1, v := y, err := 0 } = inn := if_neg (fun h => by cases h.2)
    have e2 : outOf out { over := true, op := 1, v := y, err := 0 } = upd out y := if_pos ⟨⟨rfl, rfl⟩, by dsimp only; decide⟩
    rw [e1, e2]
    refine ⟨⟨h.srt, h.hi, fun _ e => (by cases e), fun _ e => (by cases e), fun z => ?_, fun z hz => ?_, fun z hz => ?_, h.m0⟩, fun _ => ⟨p1, p2, fun _ => hm.2⟩⟩
    · by_cases e : z = y
      · subst e
        simp only [upd, if_pos]
        constructor
        · rintro ⟨_, g⟩; cases g
        · rintro (g | g)
          · have := p3 z g; omega
          · cases g
      · have := h.mem z
        simp only [upd, if_neg e]
        rw [this]
        constructor
        · rintro (g | g)
          · exact .inl g
          · exact absurd (by simpa using g.symm) e
        · rintro (g | g)
          · exact .inl g
          · cases g
    · have := h.fut z hz
      exact ⟨this.1, by unfold upd; rw [if_neg (by omega)]; exact this.2⟩
    · by_cases e : z = y
      · subst e; exact hm.1
      · unfold upd at hz; rw [if_neg e] at hz; exact h.oi z hz
  | empty =>
    have e1 : innOf inn { over := true, op := 1, v := 0, err := 8 } = inn := if_neg (fun h => by cases h.1.2)
    have e2 : outOf out { over := true, op := 1, v := 0, err := 8 } = out := if_neg (fun h => by cases h.1.2)
    rw [e1, e2]
    exact ⟨h, fun e => by cases e.2⟩
  | stolen L y tk pv =>
    have hs := List.pairwise_cons.1 h.srt
    have hh := h.hi y (by simp)
    have hm := (h.mem y).2 (.inl (by simp))
    have e1 : innOf inn { over := true, op := 2, v := y, err := 0 } = inn := if_neg (fun h => by cases h.2)
    have e2 : outOf out { over := true, op := 2, v := y, err := 0 } = upd out y := if_pos ⟨⟨rfl, rfl⟩, by dsimp only; decide⟩
    rw [e1, e2]
    refine ⟨⟨hs.2, fun z hz => h.hi z (by simp [hz]), fun v e => ?_, fun z e => ?_, fun z => ?_, fun z hz => ?_, fun z hz => ?_, h.m0⟩, fun _ => ⟨hh.1, hh.2, fun _ => hm.2⟩⟩
    · obtain ⟨p1, p2, p3, p4, p5⟩ := h.pvh v e
      have := p5 y (by simp)
      exact ⟨p1, p2, p3, by unfold upd; rw [if_neg (by omega)]; exact p4, fun z hz => p5 z (by simp [hz])⟩
    · obtain ⟨p1, p2, p3⟩ := h.tkh z e
      exact ⟨p1, p2, fun w hw => p3 w (by simp [hw])⟩
    · by_cases e : z = y
      · subst e
        simp only [upd, if_pos]
        constructor
        · rintro ⟨_, g⟩; cases g
        · rintro (g | g)
          · have := hs.1 z g; omega
          · have := (h.tkh z g).2.2 z (by simp); omega
      · have := h.mem z
        simp only [upd, if_neg e]
        rw [this]
        constructor
        · rintro (g | g)
          · rcases List.mem_cons.1 g with g | g
            · exact absurd g e
            · exact .inl g
          · exact .inr g
        · rintro (g | g)
          · exact .inl (List.mem_cons_of_mem _ g)
          · exact .inr g
    · have := h.fut z hz
      exact ⟨this.1, by unfold upd; rw [if_neg (by omega)]; exact this.2⟩
    · by_cases e : z = y
      · subst e; exact hm.1
      · unfold upd at hz; rw [if_neg e] at hz; exact h.oi z hz
  | none2 L tk pv e he =>
    have e1 : innOf inn { over := true, op := 2, v := 0, err := e } = inn := if_neg (fun h => he h.1.2)
    have e2 : outOf out { over := true, op := 2, v := 0, err := e } = out := if_neg (fun h => he h.1.2)
    rw [e1, e2]
    exact ⟨h, fun g => absurd g.2 he⟩
/-- what is wanted at the end -/
def wantOf (inn out : Int → Bool) (n : Nat) : List Int := ((List.range n).map (fun (i : Nat) => (i : Int) + 1)).filter (fun v => inn v && !out v)
theorem want_succ (inn out : Int → Bool) (n : Nat) : wantOf inn out (n + 1) = if (inn ((n : Int) + 1) && !out ((n : Int) + 1)) = true then wantOf inn out n ++ [(n : Int) + 1] else wantOf inn out n := by
  unfold wantOf
  rw [List.range_succ, List.map_append, List.filter_append]
  by_cases h : (inn ((n : Int) + 1) && !out ((n : Int) + 1)) = true
  · rw [if_pos h]; simp [h]
  · rw [if_neg h]; simp [h]
theorem sorted_ext : ∀ (A B : List Int), A.Pairwise (· < ·) → B.Pairwise (· < ·) → (∀ y, y ∈ A ↔ y ∈ B) → A = B
  | [], [], _, _, _ => rfl
  | [], b :: B, _, _, h => by have := (h b).2 (by simp); cases this
  | a :: A, [], _, _, h => by have := (h a).1 (by simp); cases this
  | a :: A, b :: B, ha, hb, h => by
    have ha' := List.pairwise_cons.1 ha
    have hb' := List.pairwise_cons.1 hb
    have e : a = b := by
      rcases List.mem_cons.1 ((h a).1 (by simp)) with g | g
      · exact g
      · rcases List.mem_cons.1 ((h b).2 (by simp)) with g' | g'
        · exact g'.symm
        · have := hb'.1 a g; have := ha'.1 b g'; omega
    subst e
    have := sorted_ext A B ha'.2 hb'.2 (fun y => ?_)
    · rw [this]
    · constructor
      · intro g
        rcases List.mem_cons.1 ((h y).1 (List.mem_cons_of_mem _ g)) with g' | g'
        · have := ha'.1 y g; omega
        · exact g'
      · intro g
        rcases List.mem_cons.1 ((h y).2 (List.mem_cons_of_mem _ g)) with g' | g'
        · have := hb'.1 y g; omega
        · exact g'
theorem range_sorted (n : Nat) : ((List.range n).map (fun (i : Nat) => (i : Int) + 1)).Pairwise (· < ·) := by
  rw [List.pairwise_map]
  exact List.Pairwise.imp (fun h => by omega) List.pairwise_lt_range
theorem want_all {L : List Int} {m : Nat} {inn out : Int → Bool} (h : Vo L none none (m : Int) inn out) : wantOf inn out m = L := by
  refine sorted_ext _ _ ((range_sorted m).sublist List.filter_sublist) h.srt (fun y => ?_)
  unfold wantOf
  rw [List.mem_filter]
  have hm := h.mem y
  constructor
  · rintro ⟨_, g⟩
    rcases hm.1 (by simpa using g) with g | g
    · exact g
    · cases g
  · intro g
    have := h.hi y g
    refine ⟨?_, by simpa using hm.2 (.inl g)⟩
    rw [List.mem_map]
    exact ⟨(y - 1).toNat, by rw [List.mem_range]; omega, by omega⟩
end Go.Proofs.Ytldobbdaokjgaaa
