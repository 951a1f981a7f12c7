/- MpscOrder's walk. -/
import Derived.Test.YtcbbjcafgnddcaaM13
import Derived.Test.YtcbbjcafgnddcaaM19
import Derived.Deep.DeepCutAuto
namespace Go.Proofs.Ytcbbjcafgnddcaa
open Go.RowKit Go.Shelf
set_option linter.unusedVariables false
set_option linter.unusedSimpArgs false
/-- the queue and the two arrays, as they lie -/
structure Lp (w W : World) (b : Nat) (S : Nat → Prop) (q : Q) (bp bg : Nat) (pt gt : Nat → Int) : Prop where
  qs : Qs w W b S q
  rp : W.rowIs bp 2 8 (fun i => .int .i64 (pt i))
  rg : W.rowIs bg 2 8 (fun i => .int .i64 (gt i))
  np : ¬ S bp
  ng : ¬ S bg
  ne : bp ≠ bg
  lp : w.heap.size ≤ bp
  lg : w.heap.size ≤ bg
section
variable {w W W' : World} {b : Nat} {S S' : Nat → Prop} {q q' : Q} {bp bg : Nat} {pt gt pt' gt' : Nat → Int}
theorem Lp.below (h : Lp w W b S q bp bg pt gt) (g : Below W.heap.size W W') : Lp w W' b S q bp bg pt gt :=
  { h with qs := h.qs.below g, rp := row_below h.rp g (World.rowIs.lt h.rp), rg := row_below h.rg g (World.rowIs.lt h.rg) }
theorem Lp.alloc (h : Lp w W b S q bp bg pt gt) (o : Obj) : Lp w (W.alloc o) b S q bp bg pt gt := h.below ((Below.refl W.heap.size W).alloc (Nat.le_refl _) o)
theorem Lp.drewN (h : Lp w W b S q bp bg pt gt) (n : Nat) : Lp w (W.drewN n) b S q bp bg pt gt := h.below (gb_below (gb_drewN W n none) (Nat.le_refl _) (fun k e => by cases e))
theorem Lp.cp (h : Lp w W b S q bp bg pt gt) (k : Nat) (hk : k < 8) : W.cell? ⟨bp, k, none⟩ = some (.int .i64 (pt k)) := World.rowIs.cell h.rp hk
theorem Lp.cg (h : Lp w W b S q bp bg pt gt) (k : Nat) (hk : k < 8) : W.cell? ⟨bg, k, none⟩ = some (.int .i64 (gt k)) := World.rowIs.cell h.rg hk
theorem Lp.fp (h : Lp w W b S q bp bg pt gt) (k : Nat) : W.frozen? ⟨bp, k, none⟩ = false := World.rowIs.frozen h.rp k
theorem Lp.fg (h : Lp w W b S q bp bg pt gt) (k : Nat) : W.frozen? ⟨bg, k, none⟩ = false := World.rowIs.frozen h.rg k
theorem Lp.setP (h : Lp w W b S q bp bg pt gt) (k : Nat) (x : Int) : Lp w (W.setCell ⟨bp, k, none⟩ (.int .i64 x)) b S q bp bg (fun i => if i = k then x else pt i) gt :=
  { h with
    qs := h.qs.set h.np h.lp k _
    rp := (h.rp.set k _).congr (fun i hi => by by_cases e : i = k <;> simp [e])
    rg := h.rg.setOther (Ne.symm h.ne) _ }
theorem Lp.setG (h : Lp w W b S q bp bg pt gt) (k : Nat) (x : Int) : Lp w (W.setCell ⟨bg, k, none⟩ (.int .i64 x)) b S q bp bg pt (fun i => if i = k then x else gt i) :=
  { h with
    qs := h.qs.set h.ng h.lg k _
    rg := (h.rg.set k _).congr (fun i hi => by by_cases e : i = k <;> simp [e])
    rp := h.rp.setOther h.ne _ }
theorem Lp.nx (h : Lp w W b S q bp bg pt gt) (qs : Qs w W' b S' q') (g : Nx W W' S S') : Lp w W' b S' q' bp bg pt gt :=
  ⟨qs, (row_nx h.rp h.np g).1, (row_nx h.rg h.ng g).1, (row_nx h.rp h.np g).2, (row_nx h.rg h.ng g).2, h.ne, h.lp, h.lg⟩
theorem Lp.eqv (h : Lp w W b S q bp bg pt gt) (e1 : ∀ i, i < 8 → pt i = pt' i) (e2 : ∀ i, i < 8 → gt i = gt' i) : Lp w W b S q bp bg pt' gt' :=
  { h with rp := h.rp.congr (fun i hi => by rw [e1 i hi]), rg := h.rg.congr (fun i hi => by rw [e2 i hi]) }
end
/-- how often k was met since P -/
def Vis (q : Q) (P i : Nat) : Prop := P ≤ i → ∀ k, 1 ≤ k → k < 8 → (q.th k).on = true → (i + 7 - k) / 8 ≤ (q.th k).made + (P + 7 - k) / 8
/-- between two rounds -/
structure Rn (w W : World) (b : Nat) (S : Nat → Prop) (q : Q) (r : List Nat) (bp bg : Nat) (pt gt : Nat → Int) (i : Nat) : Prop where
  m : Lp w W b S q bp bg pt gt
  I : Inv q r
  o : Or q r pt gt
  n : q.n ≤ i + 1
  hi : ∀ p, p < 8 → pt p ≤ i ∧ pt p ≤ 800 ∧ 0 ≤ pt p
/-- between an operation's beginning and its step -/
structure Md (w W : World) (b : Nat) (S : Nat → Prop) (q : Q) (r : List Nat) (bp bg : Nat) (pt gt : Nat → Int) (i P k : Nat) : Prop where
  m : Lp w W b S q bp bg pt gt
  I : Inv q r
  o : Or q r pt gt
  n : q.n ≤ i + 2
  hi : ∀ p, p < 8 → pt p ≤ i + 1 ∧ pt p ≤ 800 ∧ 0 ≤ pt p
  k8 : k < 8
  on : (q.th k).on = true
  vis : P ≤ i → k = i % 8 ∧ Vis q P i
theorem vis_step {q q' : Q} {P i k : Nat} {d : D} (h : P ≤ i → k = i % 8 ∧ Vis q P i) (hon : (q.th k).on = true) (s : Sr q k d q') (hm : (q'.th k).on = true → (q'.th k).made = (q.th k).made + 1) : Vis q' P (i + 1) := by
  intro hP j j1 j8 jon
  by_cases hi : P ≤ i
  · obtain ⟨hk, hv⟩ := h hi
    by_cases e : j = k
    · subst e
      have := hv hi j j1 j8 hon
      rw [hm jon]
      omega
    · rw [s.oth j e] at jon ⊢
      have := hv hi j j1 j8 jon
      omega
  · omega
theorem busy_fact (q : Q) {n : Nat} {o : Bool} (hn : n < 8) (ho : o = (q.th n).on) : o = (decide (0 ≤ (n : Int) ∧ (n : Int) < 8) && (q.th (n : Int).toNat).on) := by
  rw [decide_eq_true (by omega), ho]; simp
theorem meas9 {i : Nat} {a : Int} (hi : i < 900) (h : a = (i : Int) + 1) : 900 - (intOf (.int .i64 a)).toNat < 900 - (intOf (.int .i64 (i : Int))).toNat := by
  show 900 - a.toNat < 900 - ((i : Int)).toNat
  omega
theorem meas_len {n j : Nat} {a : Int} (hi : j < n) (h : a = (j : Int) + 1) : n - (intOf (.int .i64 a)).toNat < n - (intOf (.int .i64 (j : Int))).toNat := by
  show n - a.toNat < n - ((j : Int)).toNat
  omega
theorem busy_same {w0 w w1 : World} {b : Nat} {S : Nat → Prop} {q : Q} (h : Qs w0 w b S q) (hh : w1.heap = w.heap) (k : Int) (o : Bool) (ho : o = (decide (0 ≤ k ∧ k < 8) && (q.th k.toNat).on)) : Calls Try.prog 19 #[.pointer (some ⟨b, 0, none⟩), .int .i64 k] w1 fun e w' => e = .returned (.bool o) ∧ w' = w1 := by
  obtain ⟨nd, f, i⟩ := h.i
  exact busy_any ⟨i.r.same hh, i.t⟩ k o ho
theorem bound_E (len : Nat) (h : len ≤ 9223372036854775807) : ∃ (E : Nat) (n : Int), IntKind.i64.wrap ((len : Int) + 32) = n ∧ (∀ i : Nat, (i : Int) < n ↔ i < E) ∧ (E = len + 32 ∨ E = 0) := by
  by_cases e : len + 32 ≤ 9223372036854775807
  · exact ⟨len + 32, (len : Int) + 32, IntWalk.i64_in _ (by omega), fun i => by omega, .inl rfl⟩
  · refine ⟨0, (len : Int) + 32 - 18446744073709551616, ?_, fun i => by omega, .inr rfl⟩
    rw [IntKind.wrap_i64]
    omega
theorem vis_off {q : Q} {P i : Nat} (h : Vis q P i) (hi : P ≤ i) (hoff : (q.th (i % 8)).on = false) : Vis q P (i + 1) := by
  intro hP j j1 j8 jon
  have := h hi j j1 j8 jon
  by_cases e : j = i % 8
  · subst e; rw [hoff] at jon; cases jon
  · omega
theorem vis_end {q : Q} {P i : Nat} (V : Val q) (h : Vis q P i) (hi : P + 32 ≤ i) : ∀ k, 1 ≤ k → k < 8 → (q.th k).on = false := by
  intro k k1 k8
  cases hon : (q.th k).on
  · rfl
  · have h1 := h (by omega) k k1 k8 hon
    have h2 := V.made k k8 hon
    rw [if_neg (by omega)] at h2
    omega
theorem or_put {q : Q} {r : List Nat} {pt gt : Nat → Int} (V : Val q) (I : Inv q r) (o : Or q r pt gt) {k : Nat} (hk : k < 8) (h0 : k ≠ 0) (hon : (q.th k).on = true) (hp : pt k < 1000) :
    ∃ (ov : Bool) (v : Int) (q1 : Q) (r1 : List Nat), Sr q k { over := ov, take := false, v := v, err := 0 } q1 ∧ Inv q1 r1 ∧ Or q1 r1 pt gt ∧ ((q1.th k).on = true → (q1.th k).made = (q.th k).made + 1) := by
  have hmd := V.made k hk hon
  rw [if_neg h0] at hmd
  by_cases m0 : (q.th k).made = 0
  · obtain ⟨q1, s, I1, hth⟩ := sr_put0 V I hk h0 hon m0
    exact ⟨_, _, q1, r, s, I1, or_same o s hk (fun _ => by unfold mid; rw [hth, hon, m0]; rfl) (fun _ _ _ => ⟨hon, by omega, by rw [hth]⟩), fun _ => by rw [hth, m0]⟩
  · by_cases m1 : (q.th k).made = 1
    · obtain ⟨q1, s, I1, hth⟩ := sr_put1 V I hk h0 hon m1
      exact ⟨_, _, q1, _, s, I1, or_swap o s hk h0 hon m1 (by rw [hth]) hp, fun _ => by rw [hth, m1]⟩
    · have m2 : (q.th k).made = 2 := by omega
      obtain ⟨q1, s, I1, hth⟩ := sr_put2 V I hk h0 hon m2
      exact ⟨_, _, q1, r, s, I1, or_same o s hk (fun _ => by unfold mid; rw [hth, hon, m2]; rfl) (fun _ h _ => by rw [hth] at h; cases h), fun h => by rw [hth] at h; cases h⟩
theorem or_took {q : Q} {r : List Nat} {pt gt : Nat → Int} (V : Val q) (I : Inv q r) (o : Or q r pt gt) (hon : (q.th 0).on = true) :
    ∃ (ov tk : Bool) (v e : Int) (q1 : Q) (r1 : List Nat), Sr q 0 { over := ov, take := tk, v := v, err := e } q1 ∧ Inv q1 r1 ∧ ((q1.th 0).on = true → (q1.th 0).made = (q.th 0).made + 1) ∧
      ((ov = false ∧ Or q1 r1 pt gt) ∨ (ov = true ∧ e ≠ 0 ∧ Or q1 r1 pt gt) ∨ (ov = true ∧ e = 0 ∧ ∃ p : Nat, 1 ≤ p ∧ p < 8 ∧ 0 ≤ gt p ∧ gt p < 999 ∧ v = 1000 * (p : Int) + (gt p + 1) ∧ Or q1 r1 pt (up gt p))) := by
  have hmd := V.made 0 (by omega) hon
  rw [if_pos rfl] at hmd
  by_cases m0 : (q.th 0).made = 0
  · obtain ⟨q1, s, I1, hth⟩ := sr_take0 V I hon m0
    exact ⟨_, _, _, _, q1, r, s, I1, fun _ => by rw [hth, m0], .inl ⟨rfl, or_same o s (by omega) (fun h => absurd rfl h) (fun h => absurd rfl h)⟩⟩
  · obtain ⟨v, e, q1, r1, s, I1, hth, hT⟩ := sr_take1 V I hon (by omega)
    refine ⟨_, _, _, _, q1, r1, s, I1, (fun h => by rw [hth] at h; cases h), .inr ?_⟩
    rcases hT with ⟨x, hrr, hv, he⟩ | ⟨hrr, _, _, he⟩ | ⟨hrr, _, _, he⟩
    · subst hrr
      obtain ⟨p, p1, p8, h0, h9, hx, o1⟩ := or_take o s
      exact .inr ⟨rfl, he, p, p1, p8, h0, h9, hv.trans hx, o1⟩
    · subst hrr
      exact .inl ⟨rfl, by omega, or_same o s (by omega) (fun h => absurd rfl h) (fun h => absurd rfl h)⟩
    · subst hrr
      exact .inl ⟨rfl, by omega, or_same o s (by omega) (fun h => absurd rfl h) (fun h => absurd rfl h)⟩
theorem lnk_off1 {q : Q} (ho : ∀ k, 1 ≤ k → k < 8 → (q.th k).on = false) : ∀ (l : List Nat) (a : Nat), Lk q a l → lnk q a l = l
  | [], _, _ => rfl
  | c :: l, a, h => by
    unfold lnk
    have e : q.nx a = c := by
      rcases h.1 with e | ⟨_, k, k8, k0, h1, _⟩
      · exact e
      · rw [ho k (by omega) k8] at h1; cases h1
    rw [if_pos e, lnk_off1 ho l c h.2.2]
theorem own_new {w : World} {B : Nat} {v : Value} {l : List Int} (h : Own w B v l) : ∀ g, blk v = some g → B ≤ g := by
  intro g hg
  rcases h.2 with ⟨h2, _⟩ | ⟨s, cap, cur, e, hb, _⟩
  · rw [h2] at hg; cases hg
  · rw [e] at hg
    have : s = g := by simpa [blk] using hg
    omega
theorem make22 (w : World) : (Instr.makeSlice 22 (.int .i64 8) (.int .i64 8)).run Try.prog w = .ok (.slice (some ⟨w.heap.size, 0, none⟩) 8 8) (w.alloc (.cells (madeCells #[.int .i64 0] 8) 2)) := by
  have h : (Try.prog.info? 2).map (fun i => (i.zero, i.size, i.bytes)) = some (some (.int .i64 0), 1, 8) := by kernel_rfl
  exact run_make_row' 22 2 (.int .i64 0) 8 Try.underlying22 h rfl .i64 .i64 8 (by omega) (by omega) w
theorem mod8 (x : Int) : ∃ k : Nat, k < 8 ∧ wrap64 ((IntKind.u64.wrap x).tmod 8) = (k : Int) := by
  have h0 : 0 ≤ IntKind.u64.wrap x := by rw [IntKind.wrap_u64]; omega
  refine ⟨((IntKind.u64.wrap x).tmod 8).toNat, ?_, ?_⟩
  · rw [Int.tmod_eq_emod_of_nonneg h0]; omega
  · rw [Int.tmod_eq_emod_of_nonneg h0]
    unfold wrap64
    omega
set_option maxRecDepth 100000 in
set_option maxHeartbeats 8000000 in
theorem order_any (a : Option Addr) (len cap : Nat) (z : Nat → Int) (w : World) (hr : Ins w a len z) (hlen : len ≤ 9223372036854775807) :
    Calls Try.prog 6 #[.slice a len cap] w fun e w' => e = .returned (.bool true) ∧ Below w.heap.size w w' := by
  have hz := zero29
  have hk2 := make22
  go_enter Try.func6, Try.ntmps6
  go_wp2_with fail
  refine (lives_any _).mono ?_
  rintro e w1 ⟨rfl, g1⟩
  go_wp2_with fail
  refine (q_new g1).mono ?_
  rintro e w2 ⟨b, S0, rfl, h2⟩
  have C0 : Rn w ((w2.alloc (.cells (madeCells #[.int .i64 0] 8) 2)).alloc (.cells (madeCells #[.int .i64 0] 8) 2)) b S0 Q0 [] w2.heap.size (w2.heap.size + 1) (fun _ => 0) (fun _ => 0) 0 := by
    have h3 := h2.alloc (.cells (madeCells #[.int .i64 0] 8) 2)
    have n3 := h3.new
    have hb := h2.bel.size
    rw [World.size_alloc] at n3
    have r1 := (World.rowIs_made w2 (.int .i64 0) 8 2).alloc (.cells (madeCells #[.int .i64 0] 8) 2)
    have r2 := World.rowIs_made (w2.alloc (.cells (madeCells #[.int .i64 0] 8) 2)) (.int .i64 0) 8 2
    rw [World.size_alloc] at r2
    exact ⟨⟨h3.alloc _, r1, r2, h2.new, n3, by omega, hb, by omega⟩, inv0, or0, by decide, fun p _ => by omega⟩
  clear h2 g1
  have HR := Lib.hid hr
  clear hr
  go_wp2_with fail
  generalize ((w2.alloc (.cells (madeCells #[.int .i64 0] 8) 2)).alloc (.cells (madeCells #[.int .i64 0] 8) 2)) = w3 at *
  generalize w2.heap.size + 1 = bg at *
  generalize w2.heap.size = bp at *
  obtain ⟨P, hP⟩ : ∃ P : Nat, P = min len 800 := ⟨_, rfl⟩
  have HP : Hid (P = min len 800) := Lib.hid hP
  clear hP
  obtain ⟨E, n32, hw32, hE⟩ := bound_E len hlen
  have HW := Lib.hid hw32
  have HE := Lib.hid hE
  clear hw32 hE
  go_loopw [6] (fun kv wr => ∃ (i : Nat) (S : Nat → Prop) (q : Q) (r : List Nat) (pt gt : Nat → Int), i ≤ E ∧ (E = 0 → ∀ k, k < 8 → (q.th k).on = false) ∧ i ≤ 900 ∧ kv = .int .i64 i ∧ Rn w wr b S q r bp bg pt gt i ∧ Vis q P i) (fun kv wr => 900 - (intOf kv).toNat)
  case atStart => exact ⟨0, S0, Q0, [], _, _, by omega, fun _ k _ => rfl, by omega, rfl, C0, fun _ k _ _ h => (by cases h)⟩
  case round =>
    clear C0 hk2
    obtain ⟨i, S, q, r, pt, gt, hi, hE0, hi9, rfl, C, hv⟩ := hrel
    have HC := Lib.hid C
    have HV := Lib.hid hv
    have hw32 := HW.out
    go_upto_region 7 with fail
    clear C
    go_cut [28] (fun tv wx => tv = .bool (decide (i < E ∧ i < 900)) ∧ wx = wr)
    case first =>
      by_cases hA : i < E
      · have h3 : (i : Int) < n32 := (HE.out.1 i).2 hA
        by_cases hA8 : i < 900
        · have h4 : (i : Int) < 900 := by omega
          have h5 : decide (i < E ∧ i < 900) = true := decide_eq_true ⟨hA, hA8⟩
          go_wp2
          go_meet
          exact ⟨by simp [h5], rfl⟩
        · have h4 : ¬ ((i : Int) < 900) := by omega
          have h5 : decide (i < E ∧ i < 900) = false := decide_eq_false (fun x => hA8 x.2)
          go_wp2
          go_meet
          exact ⟨by simp [h5], rfl⟩
      · have h3 : ¬ ((i : Int) < n32) := fun x => hA ((HE.out.1 i).1 x)
        have h5 : decide (i < E ∧ i < 900) = false := decide_eq_false (fun x => hA x.1)
        go_wp2
        go_meet
        exact ⟨by simp [h5], rfl⟩
    case rest =>
    obtain ⟨rfl, hwc⟩ := hcut
    obtain rfl := hwc.symm
    clear hw32
    by_cases hlt : i < E ∧ i < 900
    · rw [decide_eq_true hlt]
      have HB := Lib.hid (And.intro hi (And.intro hi9 hlt))
      clear hv hi hi9 hlt
      go_upto_region 10 with fail
      go_cut [40] (fun tv wx => tv = .bool (decide (i < len ∧ i < 800)) ∧ wx = wr)
      case first =>
        by_cases hA : i < len
        · have h3 : (i : Int) < (len : Int) := by omega
          by_cases hA8 : i < 800
          · have h4 : (i : Int) < 800 := by omega
            have h5 : decide (i < len ∧ i < 800) = true := decide_eq_true ⟨hA, hA8⟩
            go_wp2
            go_meet
            exact ⟨by simp [h5], rfl⟩
          · have h4 : ¬ ((i : Int) < 800) := by omega
            have h5 : decide (i < len ∧ i < 800) = false := decide_eq_false (fun x => hA8 x.2)
            go_wp2
            go_meet
            exact ⟨by simp [h5], rfl⟩
        · have h3 : ¬ ((i : Int) < (len : Int)) := by omega
          have h5 : decide (i < len ∧ i < 800) = false := decide_eq_false (fun x => hA x.1)
          go_wp2
          go_meet
          exact ⟨by simp [h5], rfl⟩
      case rest =>
      obtain ⟨rfl, rfl⟩ := hcut
      obtain ⟨tt, htt⟩ : ∃ tt, tt = decide (i < len ∧ i < 800) := ⟨_, rfl⟩
      rw [← htt]
      have HT := Lib.hid htt
      clear htt
      go_upto_if 40 with fail
      go_cut [7] (fun kv wx => ∃ (k : Nat) (S' : Nat → Prop) (q' : Q) (pt' : Nat → Int), kv = .int .i64 k ∧ Md w wx b S' q' r bp bg pt' gt i P k)
      case first =>
        have hkm : (i : Int) % 8 = ((i % 8 : Nat) : Int) := by simp
        rw [hkm]
        clear hkm
        cases tt
        · have hA := of_decide_eq_false HT.out.symm
          generalize hk7 : ((i % 8 : Nat) : Int) = k7
          obtain ⟨o, ho⟩ : ∃ o, o = (q.th (i % 8)).on := ⟨_, rfl⟩
          have hbz := q_busy HC.out.m.qs k7 o (by rw [← hk7]; exact busy_fact q (Nat.mod_lt i (by omega)) ho)
          go_wp2_with fail
          refine hbz.mono ?_
          rintro e w' ⟨rfl, rfl⟩
          have HK7 := Lib.hid hk7
          clear hbz hk7
          have hA' := Lib.hid hA
          have HO := Lib.hid ho
          clear hA ho
          cases o
          · go_wp2
            have HBB := HB.out
            have HPP := HP.out
            have hAA := hA'.out
            have HCC := HC.out
            have hwi : wrap64 ((i : Int) + 1) = (i : Int) + 1 := by unfold wrap64; omega
            go_roundw
            case rel =>
              refine ⟨i + 1, S, q, r, pt, gt, by omega, by omega, by omega, ?_, ⟨HCC.m, HCC.I, HCC.o, by have := HCC.n; omega, fun p hp => by have := HCC.hi p hp; omega⟩, vis_off HV.out (by omega) HO.out.symm⟩
              rw [hwi]; rfl
            case measure => exact meas9 (by omega) hwi
          · go_wp2
            go_meet
            exact ⟨i % 8, S, q, pt, by rw [HK7.out], HC.out.m, HC.out.I, HC.out.o, by have := HC.out.n; omega, fun p hp => by have := HC.out.hi p hp; omega, by omega, HO.out.symm, fun _ => ⟨rfl, HV.out⟩⟩
        · obtain ⟨hA, hA8⟩ := of_decide_eq_true HT.out.symm
          generalize hk7 : ((i % 8 : Nat) : Int) = k7
          clear hk7
          obtain ⟨sb, so, rfl, hsb, c0⟩ := HR.out i hA
          have h3 : (i : Int) < (len : Int) := by omega
          have c0 := (HC.out.m.qs.bel.cell (p := ⟨sb, so + i, none⟩) hsb).trans c0
          obtain ⟨k, hk8, hk⟩ := mod8 (z i)
          generalize z i = zi at *
          obtain ⟨o, ho⟩ : ∃ o, o = (q.th k).on := ⟨_, rfl⟩
          have hbz := q_busy HC.out.m.qs k o (by rw [decide_eq_true (by omega), ho]; simp)
          go_wp2_with fail
          refine hbz.mono ?_
          rintro e w' ⟨rfl, rfl⟩
          have HA8 := Lib.hid (And.intro hA (And.intro hA8 hk8))
          have HO := Lib.hid ho
          clear h3 c0 hbz ho hA hA8
          cases o
          · have c1 := HC.out.m.cp k hk8
            have f1 := HC.out.m.fp k
            have hko : (k : Int) < 8 := by omega
            have hpk := HC.out.hi k hk8
            obtain ⟨q1, hB, I1⟩ := br_any HC.out.m.qs.V HC.out.I hk8 HO.out.symm (by have := HC.out.n; have := HA8.out; omega) (1000 * (k : Int) + (if k = 0 then pt k else pt k + 1))
            have O1 := Lib.hid (or_begin HC.out.m.qs.V HC.out.I HC.out.o hk8 HO.out.symm hB)
            have HBr := Lib.hid hB
            have HI1 := Lib.hid I1
            have HBe := Lib.hid hB.e
            clear hB I1
            by_cases h0 : k = 0
            · subst h0
              rw [if_pos rfl] at HBe
              have hw1 : IntKind.i64.wrap (pt 0) = pt 0 := IntWalk.i64_in _ (by omega)
              have HPK := Lib.hid hpk
              clear hpk
              go_wp2_with fail
              refine (q_begin HC.out.m.qs 0 (pt 0) 0 q1 (by have := HBe.out; simpa using this)).mono ?_
              rintro e W1 ⟨rfl, S1, h1', g1⟩
              have L1 := Lib.hid (HC.out.m.nx h1' g1)
              clear h1' g1 c1 f1
              go_wp2
              go_meet
              refine ⟨0, S1, q1, fun i => if i = 0 ∧ 0 ≠ 0 then pt 0 + 1 else pt i, rfl, L1.out.eqv (fun j _ => by rw [if_neg (fun x => x.2 rfl)]) (fun _ _ => rfl), HI1.out, O1.out, ?_, ?_, by omega, by rw [HBr.out.th], ?_⟩
              · rw [HBr.out.nn, if_pos rfl]; have := HC.out.n; omega
              · intro p hp
                have := HC.out.hi p hp
                have hh := HA8.out
                rw [if_neg (fun x => x.2 rfl)]
                omega
              · intro hx; have := HP.out; have := HA8.out; omega
            · rw [if_neg h0] at HBe
              have H0 := Lib.hid h0
              have hk0 : (0 : Int) < (k : Int) := by omega
              have hw1 : IntKind.i64.wrap (pt k + 1) = pt k + 1 := IntWalk.i64_in _ (by omega)
              have hw2 : IntKind.i64.wrap (1000 * (k : Int)) = 1000 * (k : Int) := IntWalk.i64_in _ (by omega)
              have hw3 : IntKind.i64.wrap (1000 * (k : Int) + (pt k + 1)) = 1000 * (k : Int) + (pt k + 1) := IntWalk.i64_in _ (by omega)
              have L1 := HC.out.m.setP k (pt k + 1)
              have HPK := Lib.hid hpk
              clear hpk h0
              go_wp2_with fail
              refine (q_begin L1.qs k (1000 * (k : Int) + (pt k + 1)) 0 q1 HBe.out).mono ?_
              rintro e W1 ⟨rfl, S1, h1', g1⟩
              have L2 := Lib.hid (L1.nx h1' g1)
              clear h1' g1 c1 f1 L1 hw1 hw2 hw3 hk0
              go_wp2
              go_meet
              refine ⟨k, S1, q1, fun i => if i = k ∧ k ≠ 0 then pt k + 1 else pt i, rfl, L2.out.eqv (fun j _ => ?_) (fun _ _ => rfl), HI1.out, O1.out, ?_, ?_, hk8, by rw [HBr.out.th], ?_⟩
              · have := H0.out
                by_cases e : j = k <;> simp [e, this]
              · rw [HBr.out.nn, if_neg H0.out]; have := HC.out.n; omega
              · intro p hp
                have := HC.out.hi p hp
                have := HPK.out
                have hh := HA8.out
                split <;> omega
              · intro hx; have := HP.out; have := HA8.out; omega
          · go_wp2
            go_meet
            exact ⟨k, S, q, pt, rfl, HC.out.m, HC.out.I, HC.out.o, by have := HC.out.n; omega, fun p hp => by have := HC.out.hi p hp; omega, hk8, HO.out.symm, fun hx => by have := HP.out; have := HA8.out; omega⟩
      case rest =>
        obtain ⟨k, S', q', pt', rfl, C⟩ := hcut
        clear HC HV HT
        have hk8 := C.k8
        have hko : (k : Int) < 8 := by omega
        by_cases h0 : k = 0
        · subst h0
          obtain ⟨ov, tk, v, ee, q1, r1, s, I1, hmd, hT⟩ := or_took C.m.qs.V C.I C.o C.on
          rcases hT with ⟨rfl, O1⟩ | ⟨rfl, he, O1⟩ | ⟨rfl, rfl, p, p1, p8, g0, g9, hvv, O1⟩
          · have HO1 := Lib.hid O1
            clear O1
            have HE := Lib.hid s.e
            have HS := Lib.hid s
            have HVI := Lib.hid (vis_step C.vis C.on s hmd)
            have HCC := Lib.hid C
            have HI1 := Lib.hid I1
            have hcn := C.n
            have hch := C.hi
            clear s hmd I1
            go_wp2_with fail
            refine (q_step C.m.qs 0 false tk v ee 0 q1 HE.out).mono ?_
            rintro e W1 ⟨rfl, hs, g⟩
            have L3 := (C.m.nx hs g).alloc (.cells #[.bool false, .bool tk, .int .i64 v, .int .i64 ee] 29)
            have bx := row_new W1 #[.bool false, .bool tk, .int .i64 v, .int .i64 ee] 29 4 (fun i => if i = 0 then .bool false else if i = 1 then .bool tk else if i = 2 then .int .i64 v else .int .i64 ee) rfl (fun i hi => by match i, hi with | 0, _ => rfl | 1, _ => rfl | 2, _ => rfl | 3, _ => rfl)
            have HCH := Lib.hid hch
            have HCN := Lib.hid hcn
            clear hs g C hch hcn
            go_upto_region 18 with fail
            generalize W1.alloc (.cells #[.bool false, .bool tk, .int .i64 v, .int .i64 ee] 29) = W2 at *
            generalize W1.heap.size = Bx at *
            have b0 := row_val bx (i := 0) (v := .bool false) (by omega) rfl
            have b2 := row_val bx (i := 2) (v := .int .i64 v) (by omega) rfl
            have b3 := row_val bx (i := 3) (v := .int .i64 ee) (by omega) rfl
            have HL3 := Lib.hid L3
            clear L3 bx
            go_wp2
            have HBB := HB.out
            have hwi : wrap64 ((i : Int) + 1) = (i : Int) + 1 := by unfold wrap64; omega
            go_roundw
            case rel =>
              refine ⟨i + 1, S', q1, r1, pt', gt, by omega, by omega, by omega, ?_, ⟨HL3.out, HI1.out, HO1.out, by rw [HS.out.nn]; have := HCN.out; omega, fun p hp => by have := HCH.out p hp; omega⟩, HVI.out⟩
              rw [hwi]; rfl
            case measure => exact meas9 (by omega) hwi
          · have HO1 := Lib.hid O1
            have hez : (ee == 0) = false := by simpa using he
            have hez2 : (ee = 0) = False := eq_false he
            clear O1
            have HE := Lib.hid s.e
            have HS := Lib.hid s
            have HVI := Lib.hid (vis_step C.vis C.on s hmd)
            have HCC := Lib.hid C
            have HI1 := Lib.hid I1
            have hcn := C.n
            have hch := C.hi
            clear s hmd I1
            go_wp2_with fail
            refine (q_step C.m.qs 0 true tk v ee 0 q1 HE.out).mono ?_
            rintro e W1 ⟨rfl, hs, g⟩
            have L3 := (C.m.nx hs g).alloc (.cells #[.bool true, .bool tk, .int .i64 v, .int .i64 ee] 29)
            have bx := row_new W1 #[.bool true, .bool tk, .int .i64 v, .int .i64 ee] 29 4 (fun i => if i = 0 then .bool true else if i = 1 then .bool tk else if i = 2 then .int .i64 v else .int .i64 ee) rfl (fun i hi => by match i, hi with | 0, _ => rfl | 1, _ => rfl | 2, _ => rfl | 3, _ => rfl)
            have HCH := Lib.hid hch
            have HCN := Lib.hid hcn
            clear hs g C hch hcn
            go_upto_region 18 with fail
            generalize W1.alloc (.cells #[.bool true, .bool tk, .int .i64 v, .int .i64 ee] 29) = W2 at *
            generalize W1.heap.size = Bx at *
            have b0 := row_val bx (i := 0) (v := .bool true) (by omega) rfl
            have b2 := row_val bx (i := 2) (v := .int .i64 v) (by omega) rfl
            have b3 := row_val bx (i := 3) (v := .int .i64 ee) (by omega) rfl
            have HL3 := Lib.hid L3
            clear L3 bx
            go_wp2
            have HBB := HB.out
            have hwi : wrap64 ((i : Int) + 1) = (i : Int) + 1 := by unfold wrap64; omega
            go_roundw
            case rel =>
              refine ⟨i + 1, S', q1, r1, pt', gt, by omega, by omega, by omega, ?_, ⟨HL3.out, HI1.out, HO1.out, by rw [HS.out.nn]; have := HCN.out; omega, fun p hp => by have := HCH.out p hp; omega⟩, HVI.out⟩
              rw [hwi]; rfl
            case measure => exact meas9 (by omega) hwi
          · have HO1 := Lib.hid O1
            clear O1
            have hd : v.tdiv 1000 = (p : Int) := by rw [hvv, Int.tdiv_eq_ediv_of_nonneg (by omega)]; omega
            have hm : v.tmod 1000 = gt p + 1 := by rw [hvv, Int.tmod_eq_emod_of_nonneg (by omega)]; omega
            have HVV := Lib.hid hvv
            have HG := Lib.hid (And.intro g0 g9)
            clear hvv g0 g9
            have HE := Lib.hid s.e
            have HS := Lib.hid s
            have HVI := Lib.hid (vis_step C.vis C.on s hmd)
            have HCC := Lib.hid C
            have HI1 := Lib.hid I1
            have hcn := C.n
            have hch := C.hi
            clear s hmd I1
            go_wp2_with fail
            refine (q_step C.m.qs 0 true tk v 0 0 q1 HE.out).mono ?_
            rintro e W1 ⟨rfl, hs, g⟩
            have L3 := (C.m.nx hs g).alloc (.cells #[.bool true, .bool tk, .int .i64 v, .int .i64 0] 29)
            have bx := row_new W1 #[.bool true, .bool tk, .int .i64 v, .int .i64 0] 29 4 (fun i => if i = 0 then .bool true else if i = 1 then .bool tk else if i = 2 then .int .i64 v else .int .i64 0) rfl (fun i hi => by match i, hi with | 0, _ => rfl | 1, _ => rfl | 2, _ => rfl | 3, _ => rfl)
            have HCH := Lib.hid hch
            have HCN := Lib.hid hcn
            clear hs g C hch hcn
            go_upto_region 18 with fail
            generalize W1.alloc (.cells #[.bool true, .bool tk, .int .i64 v, .int .i64 0] 29) = W2 at *
            generalize W1.heap.size = Bx at *
            have b0 := row_val bx (i := 0) (v := .bool true) (by omega) rfl
            have b2 := row_val bx (i := 2) (v := .int .i64 v) (by omega) rfl
            have b3 := row_val bx (i := 3) (v := .int .i64 0) (by omega) rfl
            have HL3 := Lib.hid L3
            clear L3 bx
            have c1 := HL3.out.cg p p8
            have f1 := HL3.out.fg p
            have p1i : ¬ ((p : Int) < 1) := by omega
            have p8i : ¬ (8 ≤ (p : Int)) := by omega
            have p8j : (p : Int) < 8 := by omega
            have hwg : IntKind.i64.wrap (gt p + 1) = gt p + 1 := IntWalk.i64_in _ (by have := HG.out; omega)
            go_upto_region 22 with fail
            go_quiet (fail)
            go_wp2
            have HBB := HB.out
            have hwi : wrap64 ((i : Int) + 1) = (i : Int) + 1 := by unfold wrap64; omega
            go_roundw
            case rel =>
              refine ⟨i + 1, S', q1, r1, pt', up gt p, by omega, by omega, by omega, ?_, ⟨((HL3.out.drewN nq).setG p (gt p + 1)), HI1.out, HO1.out, by rw [HS.out.nn]; have := HCN.out; omega, fun p hp => by have := HCH.out p hp; omega⟩, HVI.out⟩
              rw [hwi]; rfl
            case measure => exact meas9 (by omega) hwi
        · obtain ⟨ov, v, q1, r1, s, I1, O1, hmd⟩ := or_put C.m.qs.V C.I C.o hk8 h0 C.on (by have := C.hi k hk8; omega)
          have HO1 := Lib.hid O1
          have hkz : ((k : Int) == 0) = false := by simp; omega
          have hkz2 : ((k : Int) = 0) = False := eq_false (by omega)
          clear O1
          have HE := Lib.hid s.e
          have HS := Lib.hid s
          have HVI := Lib.hid (vis_step C.vis C.on s hmd)
          have HCC := Lib.hid C
          have HI1 := Lib.hid I1
          have hcn := C.n
          have hch := C.hi
          clear s hmd I1
          go_wp2_with fail
          refine (q_step C.m.qs k ov false v 0 0 q1 HE.out).mono ?_
          rintro e W1 ⟨rfl, hs, g⟩
          have L3 := (C.m.nx hs g).alloc (.cells #[.bool ov, .bool false, .int .i64 v, .int .i64 0] 29)
          have bx := row_new W1 #[.bool ov, .bool false, .int .i64 v, .int .i64 0] 29 4 (fun i => if i = 0 then .bool ov else if i = 1 then .bool false else if i = 2 then .int .i64 v else .int .i64 0) rfl (fun i hi => by match i, hi with | 0, _ => rfl | 1, _ => rfl | 2, _ => rfl | 3, _ => rfl)
          have HCH := Lib.hid hch
          have HCN := Lib.hid hcn
          clear hs g C hch hcn
          go_upto_region 18 with fail
          generalize W1.alloc (.cells #[.bool ov, .bool false, .int .i64 v, .int .i64 0] 29) = W2 at *
          generalize W1.heap.size = Bx at *
          have b0 := row_val bx (i := 0) (v := .bool ov) (by omega) rfl
          have b2 := row_val bx (i := 2) (v := .int .i64 v) (by omega) rfl
          have b3 := row_val bx (i := 3) (v := .int .i64 0) (by omega) rfl
          have HL3 := Lib.hid L3
          clear L3 bx
          go_wp2
          have HBB := HB.out
          have hwi : wrap64 ((i : Int) + 1) = (i : Int) + 1 := by unfold wrap64; omega
          go_roundw
          case rel =>
            refine ⟨i + 1, S', q1, r1, pt', gt, by omega, by omega, by omega, ?_, ⟨HL3.out, HI1.out, HO1.out, by rw [HS.out.nn]; have := HCN.out; omega, fun p hp => by have := HCH.out p hp; omega⟩, HVI.out⟩
            rw [hwi]; rfl
          case measure => exact meas9 (by omega) hwi
    · rw [decide_eq_false hlt]
      have hoff : ∀ k, 1 ≤ k → k < 8 → (q.th k).on = false := by
        rcases HE.out.2 with e | e
        · exact vis_end HC.out.m.qs.V HV.out (by have := HP.out; omega)
        · exact fun k _ k8 => hE0 e k k8
      have hG : Gives wr (some ⟨b, 0, none⟩) (r.map q.v) := by
        have := HC.out.m.qs.gives HC.out.I
        rw [lnk_off1 hoff r q.tail HC.out.I.lk] at this
        exact this
      have hO := HC.out.o.ok
      have HOFF := Lib.hid hoff
      clear hlt hi hi9 hv hoff
      generalize r.map q.v = xs at *
      have hxl := hG.len
      go_wp2_with fail
      refine (coll_is _ _ _ hG).mono ?_
      rintro e W5 ⟨a5, k5, rfl, ho, g5⟩
      have L5 := HC.out.m.below g5
      have hls := ls_own ho
      have hns := own_new ho
      have hbl := World.rowIs.lt HC.out.m.rg
      have hnb : ∀ g, blk (.slice a5 xs.length k5) = some g → g ≠ bg := fun g hg e => by have := hns g hg; omega
      clear hG ho g5 hns hbl HC HV
      go_wp2_with fail
      go_loopw [12] (fun jv wx => ∃ (j : Nat) (gj : Nat → Int), j ≤ xs.length ∧ jv = .int .i64 j ∧ Lp w wx b S q bp bg pt gj ∧ Ls wx (.slice a5 xs.length k5) xs ∧ Ok (xs.drop j) gj (mid q pt)) (fun jv wx => xs.length - (intOf jv).toNat)
      case atStart => exact ⟨0, gt, by omega, rfl, L5, hls, hO⟩
      case round =>
        clear L5 hls hO
        obtain ⟨j, gj, hj, rfl, L, hls, hO⟩ := hrel
        by_cases hjl : j < xs.length
        · rw [List.drop_eq_getElem_cons hjl] at hO
          obtain ⟨p, p1, p8, g0, g9, hvv, hO1⟩ := hO
          obtain ⟨gg, oo, rfl, hcell⟩ := ls_cell hls j hjl
          replace hcell : wr.cell? ⟨gg, oo + j, none⟩ = some (.int .i64 (1000 * (p : Int) + (gj p + 1))) := by rw [hcell]; simp [List.getD, hjl, hvv]
          have hd : (1000 * (p : Int) + (gj p + 1)).tdiv 1000 = (p : Int) := by rw [Int.tdiv_eq_ediv_of_nonneg (by omega)]; omega
          have hm : (1000 * (p : Int) + (gj p + 1)).tmod 1000 = gj p + 1 := by rw [Int.tmod_eq_emod_of_nonneg (by omega)]; omega
          generalize 1000 * (p : Int) + (gj p + 1) = v at *
          have c1 := L.cg p p8
          have f1 := L.fg p
          have p1i : ¬ ((p : Int) < 1) := by omega
          have p8i : ¬ (8 ≤ (p : Int)) := by omega
          have p8j : (p : Int) < 8 := by omega
          have hjl2 : (j : Int) < (xs.length : Int) := by omega
          have hwg : IntKind.i64.wrap (gj p + 1) = gj p + 1 := IntWalk.i64_in _ (by omega)
          have HO1 := Lib.hid hO1
          have HL := Lib.hid L
          have HLS := Lib.hid hls
          have HJ := Lib.hid (And.intro hj (And.intro hjl hxl))
          clear hO1 L hls hvv g0 g9 hj hxl
          go_wp2_with fail
          go_quiet (fail)
          go_wp2
          have hJJ := HJ.out
          have hwi : wrap64 ((j : Int) + 1) = (j : Int) + 1 := by unfold wrap64; omega
          go_roundw
          case rel =>
            refine ⟨j + 1, up gj p, by omega, by rw [hwi]; rfl, (HL.out.drewN nq).setG p (gj p + 1), (HLS.out.below (gb_below (gb_drewN wr nq none) (Nat.le_refl _) (fun k e => by cases e))).of (fun g hg _ => Below.heap_setCell _ _ _ _ (hnb g hg)), HO1.out⟩
          case measure => exact meas_len hjl hwi
        · rw [List.drop_eq_nil_of_le (by omega)] at hO
          have hjl2 : ¬ ((j : Int) < (xs.length : Int)) := by omega
          have HO := Lib.hid hO
          have HJ := Lib.hid (And.intro hj hxl)
          clear hO hj hxl hls
          go_wp2
          go_loopw [14] (fun kv wx => ∃ k : Nat, 1 ≤ k ∧ k ≤ 8 ∧ kv = .int .i64 k ∧ Lp w wx b S q bp bg pt gj) (fun kv wx => 8 - (intOf kv).toNat)
          case atStart => exact ⟨1, by omega, by omega, rfl, L⟩
          case round =>
            clear L
            obtain ⟨k, k1, k8, rfl, L⟩ := hrel
            by_cases hk : k < 8
            · have h8 : (k : Int) < 8 := by omega
              have hof := HOFF.out k k1 hk
              have hgp : gj k = pt k := by
                have := HO.out k k1 hk
                unfold mid at this
                rw [hof, if_neg (by simp)] at this
                exact this.symm
              have c1 := L.cg k hk
              have c2 := L.cp k hk
              rw [hgp] at c1
              have hbz := Lib.hid (fun (W1 : World) (e : W1.heap = wr.heap) => busy_same L.qs e k false (by rw [Int.toNat_natCast, hof]; simp))
              have HL := Lib.hid L
              clear L
              go_wp2_with fail
              go_quiet ((go_at_call 19; exact Calls.quiet_of_same (hbz.out _ (by rfl))))
              go_wp2
              have hwi : wrap64 ((k : Int) + 1) = (k : Int) + 1 := by unfold wrap64; omega
              go_roundw
              case rel => exact ⟨k + 1, by omega, by omega, by rfl, HL.out.drewN nq⟩
              case measure => exact meas_len hk rfl
            · obtain rfl : k = 8 := by omega
              go_wp2
              go_ret
              exact ⟨rfl, L.qs.bel⟩
end Go.Proofs.Ytcbbjcafgnddcaa
