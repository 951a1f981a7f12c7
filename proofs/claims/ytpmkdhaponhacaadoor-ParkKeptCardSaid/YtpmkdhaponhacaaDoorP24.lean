/- The law Kept: rows, and how far off the end is. -/
import Derived.Test.YtpmkdhaponhacaaDoorP23
namespace Go.Proofs.YtpmkdhaponhacaaDoor
open Go.RowKit
set_option linter.unusedVariables false
set_option linter.unusedSimpArgs false
section
variable {q q2 : Q} {i k : Nat}
theorem ks_step (h : Kq q i) (hB : Bk q k i) (hk : k < q.n) (hi : i ≤ 100000000000000) (hx : (q.th k).nx ≠ .no) (hw : (q.th k).who < q.n) (h34 : (q.th k).nx = .a34 → 0 < (q.th k).work) (h37 : (q.th k).nx = .a37 → 1 ≤ (q.th k).who)
    (h0 : k = 0 → (q.th k).nx = .a25 ∨ (q.th k).nx = .a29 ∨ (q.th k).nx = .a33 ∨ (q.th k).nx = .a37) : Ks q ((stepA q k).fin k) k i := by
  have k0 : ∀ x, (q.th k).nx = x → x ≠ .a25 → x ≠ .a29 → x ≠ .a33 → x ≠ .a37 → k ≠ 0 := fun x hx a b c d e => by
    rcases h0 e with g | g | g | g <;> rw [hx] at g
    · exact a g
    · exact b g
    · exact c g
    · exact d g
  cases hn : (q.th k).nx with
  | no => exact absurd hn hx
  | a25 => exact ks25 h hB hk hi hn trivial hw h37 h34
  | a29 => exact ks29 h hB hk hi hn trivial hw h37 h34
  | a33 => exact ks33 h hB hk hi hn trivial hw h37 h34
  | a37 => exact ks37 h hB hk hi hn trivial hw h37 h34
  | a26 => exact ks26 h hB hk hi hn (k0 _ hn (by decide) (by decide) (by decide) (by decide)) hw h37 h34
  | a30 => exact ks30 h hB hk hi hn (k0 _ hn (by decide) (by decide) (by decide) (by decide)) hw h37 h34
  | a34 => exact ks34 h hB hk hi hn (k0 _ hn (by decide) (by decide) (by decide) (by decide)) hw h37 h34
  | a35 => exact ks35 h hB hk hi hn (k0 _ hn (by decide) (by decide) (by decide) (by decide)) hw h37 h34
  | a38 => exact ks38 h hB hk hi hn (k0 _ hn (by decide) (by decide) (by decide) (by decide)) hw h37 h34
  | a41 => exact ks41 h hB hk hi hn (k0 _ hn (by decide) (by decide) (by decide) (by decide)) hw h37 h34
  | a42 => exact ks42 h hB hk hi hn (k0 _ hn (by decide) (by decide) (by decide) (by decide)) hw h37 h34
theorem kq_begin (h : Kq q i) (hk : k < q.n) (hp : (q.th k).pk = false) (hn : (q.th k).nx = .no) (x : Nx) (hx : x = .a25 ∨ x = .a26) : Kq (q.setT k ((q.th k).setN x)) i := by
  refine h.upd k hk _ rfl (Int.le_refl _) h.si (fun j hj e => by rw [setT_ne _ _ _ _ e]; exact ⟨rfl, rfl, fun hp => ⟨hp, id⟩⟩) (by rw [setT_at]; exact h.sq k hk) (by rw [setT_at]; intro e; exact absurd (show (q.th k).pk = true from e) (by rw [hp]; decide)) (by rw [setT_at]; intro e; rcases hx with rfl | rfl <;> rcases e with e | e <;> cases e) (fun _ g => g.imp id (a29_keep (q := q) k rfl (fun j e => congrArg T.nx (setT_ne _ _ _ _ e)) (by rw [hn]; decide))) (fun g => ?_)
  rcases h.i3 g with ⟨m, c1, c2⟩ | ⟨m, c1, c2, c3, c4⟩
  · have hmk : m ≠ k := fun d => by rw [d, hn] at c2; rcases c2 with c | c | c <;> cases c
    exact .inl ⟨m, c1, by rw [setT_ne _ _ _ _ hmk]; exact c2⟩
  · refine .inr ⟨m, c1, c2, by rw [pk_setN]; exact c3, fun e => ?_⟩
    by_cases hmk : m = k
    · rw [hmk, setT_at] at e
      rcases hx with rfl | rfl <;> cases e
    · rw [setT_ne _ _ _ _ hmk] at e; exact c4 e
theorem Kq.more (h : Kq q i) : Kq q (i + 1) := { h with si := by have := h.si; omega }
theorem Ct.more (h : Ct q i) : Ct q (i + 1) := ⟨h.b.more (Nat.le_succ i), h.o⟩
theorem step_fin (hk : k < q.n) (hx : (q.th k).nx ≠ .no) : (step q (k : Int)).2 = (stepA q k).fin k := by
  unfold step
  rw [if_neg (by omega), Int.toNat_natCast, if_neg hx]
/-- a row, whole -/
theorem kq_row (h : Ct q i) (g : Kq q i) (hk : k < q.n) (hi : i ≤ 100000000000000) (o : Bool) (hp : (q.th k).pk = false) :
    Ct (step (nxt q k o).2 (k : Int)).2 (i + 1) ∧ Kq (step (nxt q k o).2 (k : Int)).2 (i + 1) ∧ (step (nxt q k o).2 (k : Int)).2.n = q.n := by
  obtain ⟨what, who, q2, e, C⟩ := ct_row h k hk hi o hp
  rw [e]
  refine ⟨C.ct, ?_, C.n⟩
  have hO := h.ok k hk
  have hB := h.bk k
  have e2 : q2 = (step (nxt q k o).2 (k : Int)).2 := by rw [e]
  have en : (nxt q k o).2 = (begin q k (if o = true ∨ k = 0 then 0 else 1)).2 := by unfold nxt; rw [if_neg (by rw [hp]; decide)]
  have hop : (if o = true ∨ k = 0 then (0 : Int) else 1) = 0 ∨ ((if o = true ∨ k = 0 then (0 : Int) else 1) = 1 ∧ k ≠ 0) := by
    by_cases h : o = true ∨ k = 0
    · rw [if_pos h]; exact .inl rfl
    · rw [if_neg h]; exact .inr ⟨rfl, fun e => h (.inr e)⟩
  rw [en] at e2
  generalize (if o = true ∨ k = 0 then (0 : Int) else 1) = op at *
  rw [begin_at q k op hk hp hop] at e2
  by_cases hn : (q.th k).nx = .no
  · rw [if_pos hn] at e2
    have hx : (if op = 1 then Nx.a26 else Nx.a25) = .a25 ∨ (if op = 1 then Nx.a26 else Nx.a25) = .a26 := by split; exact .inr rfl; exact .inl rfl
    have h0 : k = 0 → (if op = 1 then Nx.a26 else Nx.a25) = .a25 := fun e => by rcases hop with c | c; rw [if_neg (by omega)]; exact absurd e c.2
    generalize (if op = 1 then Nx.a26 else Nx.a25) = x at *
    have hxn : x ≠ .no ∧ x ≠ .a34 ∧ x ≠ .a37 := by rcases hx with rfl | rfl <;> decide
    have K := kq_begin g hk hp hn x hx
    have en2 : ((q.setT k ((q.th k).setN x)).th k).nx = x := by rw [setT_at]; rfl
    rw [step_fin (q := q.setT k ((q.th k).setN x)) hk (by rw [en2]; exact hxn.1)] at e2
    rw [e2]
    exact (ks_step K (hB.setT _) hk hi (by rw [en2]; exact hxn.1) (by rw [setT_at]; exact hO.who) (by rw [en2]; intro e; exact absurd e hxn.2.1) (by rw [en2]; intro e; exact absurd e hxn.2.2) (fun e => by rw [en2]; exact .inl (h0 e))).kq
  · rw [if_neg hn, step_fin hk hn] at e2
    rw [e2]
    exact (ks_step g hB hk hi hn hO.who hO.a34 hO.a37 (fun e => by rcases hO.z e with a | a | a | a; exact absurd a hn; exact .inr (.inl a); exact .inr (.inr (.inl a)); exact .inr (.inr (.inr a)))).kq
theorem kq_one (h : Ct q i) (g : Kq q i) (hk : k < q.n) (hi : i ≤ 100000000000000) (hn : (q.th k).nx ≠ .no) :
    Ct (step q (k : Int)).2 (i + 1) ∧ Ks q (step q (k : Int)).2 k i := by
  have hO := h.ok k hk
  have hB := h.bk k
  have h0 : k = 0 → (q.th k).nx = .a25 ∨ (q.th k).nx = .a29 ∨ (q.th k).nx = .a33 ∨ (q.th k).nx = .a37 := fun e => by rcases hO.z e with a | a | a | a; exact absurd a hn; exact .inr (.inl a); exact .inr (.inr (.inl a)); exact .inr (.inr (.inr a))
  obtain ⟨what, who, q2, e, C⟩ := ct_step hB hk hi hn hO.who hO.a34 hO.a37 h0
  constructor
  · rw [e]; exact C.ct
  · rw [step_fin hk hn]
    exact ks_step g hB hk hi hn hO.who hO.a34 hO.a37 h0
/-- nothing is under way -/
def Quiet (q : Q) : Prop := ∀ j, j < q.n → (q.th j).nx = .no
def AllPk (q : Q) : Prop := ∀ j, 1 ≤ j → j < q.n → (q.th j).pk = true
theorem kq_law (g : Kq q i) (h : Quiet q) (hw : 0 < q.work) : ¬ AllPk q := by
  intro ha
  rcases g.i3 hw with ⟨m, c1, c2⟩ | ⟨m, c1, c2, c3, c4⟩
  · rw [h m c1] at c2; rcases c2 with c | c | c <;> cases c
  · rw [ha m c1 c2] at c3; cases c3
def cnt (f : Nat → Bool) : Nat → Nat
  | 0 => 0
  | n + 1 => cnt f n + (if f n = true then 1 else 0)
theorem cnt_le (f : Nat → Bool) (n : Nat) : cnt f n ≤ n := by
  induction n with
  | zero => exact Nat.le_refl 0
  | succ n ih => unfold cnt; split <;> omega
theorem cnt_congr (f g : Nat → Bool) (n : Nat) (h : ∀ j, j < n → g j = f j) : cnt g n = cnt f n := by
  induction n with
  | zero => rfl
  | succ n ih => unfold cnt; rw [ih (fun j hj => h j (by omega)), h n (by omega)]
theorem cnt_zero (f : Nat → Bool) (n : Nat) (h : cnt f n = 0) : ∀ j, j < n → f j = false := by
  induction n with
  | zero => intro j hj; omega
  | succ n ih =>
    unfold cnt at h
    intro j hj
    cases hf : f n
    · by_cases e : j = n
      · rw [e]; exact hf
      · exact ih (by omega) j (by omega)
    · rw [hf, if_pos rfl] at h; omega
theorem cnt_less (f g : Nat → Bool) (n k : Nat) (hk : k < n) (h1 : f k = true) (h2 : g k = false) (h : ∀ j, j ≠ k → g j = f j) : cnt g n + 1 = cnt f n := by
  induction n with
  | zero => omega
  | succ n ih =>
    unfold cnt
    by_cases e : k = n
    · subst e
      rw [cnt_congr f g k (fun j hj => h j (by omega)), h1, h2, if_pos rfl, if_neg (by decide)]
    · rw [h n (fun c => e c.symm)]
      have := ih (by omega)
      omega
/-- how many rounds off a thread is -/
def off (n p j : Nat) : Nat := if p ≤ j then j - p else j + n - p
def nxp (n p : Nat) : Nat := if p + 1 = n then 0 else p + 1
theorem nxp_mod (n i : Nat) (hn : 0 < n) : (i + 1) % n = nxp n (i % n) := by
  have h := Nat.mod_lt i hn
  rw [← Nat.mod_add_mod]
  unfold nxp
  split
  · rename_i e; rw [e, Nat.mod_self]
  · exact Nat.mod_eq_of_lt (by omega)
theorem off_at (n p : Nat) (hp : p < n) : off n p p = 0 ∧ off n (nxp n p) p + 1 = n := by
  unfold off nxp
  constructor
  · rw [if_pos (Nat.le_refl p)]; omega
  · split <;> split <;> omega
theorem off_ne (n p j : Nat) (hp : p < n) (hj : j < n) (e : j ≠ p) : off n (nxp n p) j + 1 = off n p j := by
  unfold off nxp
  split <;> split <;> split <;> omega
theorem off_lt (n p j : Nat) (hp : p < n) (hj : j < n) : off n p j < n := by
  unfold off
  split <;> omega
def busy (q : Q) (j : Nat) : Bool := decide ((q.th j).nx ≠ .no)
structure Dn (q : Q) (p d m : Nat) : Prop where
  dl : ∀ j, j < q.n → (q.th j).nx ≠ .no → off q.n p j + q.n * (mj q (q.th j) - 1) + 1 ≤ d
  cn : cnt (busy q) q.n ≤ m + 1
theorem dn_new (q : Q) (p m : Nat) (hn : q.n ≤ 8) (hp : p < q.n) (hc : cnt (busy q) q.n ≤ m + 1) : Dn q p 48 m := by
  refine ⟨fun j hj hx => ?_, hc⟩
  have h1 := off_lt q.n p j hp hj
  have h2 := mj_le q (q.th j)
  have h3 : q.n * (mj q (q.th j) - 1) ≤ q.n * 5 := Nat.mul_le_mul_left _ (by omega)
  omega
/-- how far the end is -/
def Far (q : Q) (i t : Nat) : Prop := Quiet q ∨ ∃ d m, Dn q (i % q.n) d m ∧ i + 48 * m + d ≤ t
theorem far_new (q : Q) (t : Nat) (hn : q.n ≤ 8) (h2 : 2 ≤ q.n) (ht : 384 ≤ t) : Far q 0 t :=
  .inr ⟨48, 7, dn_new q _ 7 hn (by rw [Nat.zero_mod]; omega) (by have := cnt_le (busy q) q.n; omega), by omega⟩
theorem not_quiet (h : ¬ Quiet q) : ∃ j, j < q.n ∧ (q.th j).nx ≠ .no := by
  refine Classical.byContradiction fun c => h (fun j hj => ?_)
  refine Classical.byContradiction fun e => c ⟨j, hj, e⟩
theorem far_lt {t : Nat} (h : Far q i t) (hq : ¬ Quiet q) : i < t := by
  rcases h with h | ⟨d, m, h1, h2⟩
  · exact absurd h hq
  · obtain ⟨j, hj, hx⟩ := not_quiet hq
    have := h1.dl j hj hx
    omega
theorem far_idle {t : Nat} (h : Far q i t) (hq : ¬ Quiet q) (h2 : 2 ≤ q.n) (hx : (q.th (i % q.n)).nx = .no) : Far q (i + 1) t := by
  rcases h with h | ⟨d, m, h1, h3⟩
  · exact absurd h hq
  · obtain ⟨j, hj, hxj⟩ := not_quiet hq
    have hd := h1.dl j hj hxj
    have hp : i % q.n < q.n := Nat.mod_lt _ (by omega)
    refine .inr ⟨d - 1, m, ⟨fun j hj hxj => ?_, h1.cn⟩, by omega⟩
    have := h1.dl j hj hxj
    have := off_ne q.n (i % q.n) j hp hj (fun e => hxj (e ▸ hx))
    rw [nxp_mod _ _ (by omega)]
    omega
theorem far_step {t s : Nat} (h : Far q i t) (hq : ¬ Quiet q) (h2 : 2 ≤ q.n) (h8 : q.n ≤ 8) (hx : (q.th (i % q.n)).nx ≠ .no) (hx5 : (q.th (i % q.n)).nx ≠ .a25) (K : Ks q q2 (i % q.n) s) : Far q2 (i + 1) t := by
  rcases h with h | ⟨d, m, h1, h3⟩
  · exact absurd h hq
  · have hp : i % q.n < q.n := Nat.mod_lt _ (by omega)
    have hd := h1.dl _ hp hx
    have hn := K.n
    have hnp : nxp q.n (i % q.n) < q.n := by unfold nxp; split <;> omega
    rcases K.m hx5 with he | ⟨m1, m2⟩
    · have hc := cnt_less (busy q) (busy q2) q.n (i % q.n) hp (decide_eq_true hx) (decide_eq_false (by rw [he]; simp)) (fun j e => by unfold busy; rw [K.nx j e])
      have hcn := h1.cn
      by_cases hm : m = 0
      · refine .inl (fun j hj => ?_)
        have := cnt_zero (busy q2) q.n (by omega) j (by rw [← hn]; exact hj)
        simpa [busy] using this
      · refine .inr ⟨48, m - 1, dn_new q2 _ _ (by omega) (by rw [hn]; exact Nat.mod_lt _ (by omega)) (by rw [hn]; omega), by omega⟩
    · by_cases hq2 : Quiet q2
      · exact .inl hq2
      refine .inr ⟨d - 1, m, ⟨fun j hj hxj => ?_, ?_⟩, by omega⟩
      · rw [hn] at hj ⊢
        rw [nxp_mod _ _ (by omega)]
        by_cases e : j = i % q.n
        · rw [e] at hxj ⊢
          have h4 := mj_pos q2 _ hxj
          obtain ⟨o1, o2⟩ := off_at q.n (i % q.n) hp
          have h5 : q.n * (mj q2 (q2.th (i % q.n)) - 1 + 1) ≤ q.n * (mj q (q.th (i % q.n)) - 1) := Nat.mul_le_mul_left _ (by omega)
          rw [Nat.mul_add, Nat.mul_one] at h5
          omega
        · have h4 := h1.dl j hj (by rw [← K.nx j e]; exact hxj)
          have h5 : q.n * (mj q2 (q2.th j) - 1) ≤ q.n * (mj q (q.th j) - 1) := Nat.mul_le_mul_left _ (by have := m2 j hj e; omega)
          have := off_ne q.n (i % q.n) j hp hj e
          omega
      · have hc : cnt (busy q2) q2.n ≤ cnt (busy q) q.n := by
          rw [hn]
          by_cases he : (q2.th (i % q.n)).nx = .no
          · have := cnt_less (busy q) (busy q2) q.n (i % q.n) hp (decide_eq_true hx) (decide_eq_false (by rw [he]; simp)) (fun j e => by unfold busy; rw [K.nx j e])
            omega
          · rw [cnt_congr (busy q) (busy q2) q.n (fun j hj => by
              unfold busy
              by_cases e : j = i % q.n
              · rw [e, decide_eq_true hx, decide_eq_true he]
              · rw [K.nx j e])]
            exact Nat.le_refl _
        have := h1.cn
        omega
end
theorem kq0 (s : Int) : Kq (Q0 (nw s + 1)) 0 :=
  ⟨Int.le_refl _, Int.le_refl _, fun _ _ => Int.le_refl _, fun _ _ e => (by cases e), fun _ _ e => (by rcases e with e | e <;> cases e), fun e => absurd (show (0 : Int) < 0 from e) (by decide)⟩
end Go.Proofs.YtpmkdhaponhacaaDoor
