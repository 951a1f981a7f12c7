/- RingPlays' walk. -/
import Derived.Test.YtcofoknkmkfbkaaP9
import Derived.Test.YtcofoknkmkfbkaaP14
namespace Go.Proofs.Ytcofoknkmkfbkaa
open Go.RowKit Go.Shelf
set_option linter.unusedVariables false
set_option linter.unusedSimpArgs false

theorem row_cm {w w' : World} {c B k : Nat} {t : TypeId} {n : Nat} {f : Nat → Value} (h : w.rowIs k t n f) (g : Cm w w' c B) (h1 : k ≠ c) (h2 : k < B) : w'.rowIs k t n f :=
  h.of_block (g.block k h.lt h2 h1)
theorem IsR.cm {w w1 : World} {b d N : Nat} {l : List Int} (h : IsR w b d N l) {c B : Nat} (g : Cm w w1 c B) (h1 : b ≠ c) (h2 : b < B) (h3 : d ≠ c) (h4 : d < B) : IsR w1 b d N l := by
  obtain ⟨f, ar, r, hi⟩ := h.p
  exact ⟨f, ar, { r with s := row_cm r.s g h1 h2, a := row_cm r.a g h3 h4 }, hi⟩
theorem lo_cell {w : World} {B : Nat} {a : Option Addr} {n cap : Nat} {l : List Int} (h : Lo w B (.slice a n cap) l) (i : Nat) (hi : i < l.length) :
    ∃ b o, a = some ⟨b, o, none⟩ ∧ w.cell? ⟨b, o + i, none⟩ = some (.int .i64 (l.getD i 0)) := by
  rcases h with ⟨_, h0⟩ | ⟨g, off, cap, cur, e, hg, hc, hn, ho, hi2⟩
  · subst h0; simp at hi
  · cases e
    exact ⟨g, off, rfl, by rw [cell_of_row w g _ cur 3 (0, 0) hc, hi2 i hi]⟩
set_option maxHeartbeats 1000000 in
theorem same_lo (la lb : List Int) (a b : Option Addr) (ca cb : Nat) (w : World) (B B2 : Nat) (ha : Own w B (.slice a la.length ca) la) (hb : Lo w B2 (.slice b lb.length cb) lb) (he : la = lb) (hl : la.length ≤ 9223372036854775807) :
    Calls Try.prog 35 #[.slice a la.length ca, .slice b lb.length cb] w fun e w' => e = .returned (.bool true) ∧ ∃ m, w' = w.drewN m := by
  subst he
  go_enter Try.func35, Try.ntmps35
  go_wp2
  go_loopw [5] (fun k wr => ∃ n m : Nat, n ≤ la.length ∧ k = .int .i64 n ∧ wr = w.drewN m) (fun k wr => la.length - (intOf k).toNat)
  case atStart => exact ⟨0, 0, by omega, rfl, rfl⟩
  case round =>
    obtain ⟨n, m, hn, rfl, rfl⟩ := hrel
    by_cases hlt : n < la.length
    · obtain ⟨b1, rfl, _, _, c1⟩ := own_cell ha n hlt
      obtain ⟨b2, o2, rfl, c2⟩ := lo_cell hb n hlt
      clear ha hb
      generalize la.getD n 0 = X at c1 c2
      have hi : (n : Int) < (la.length : Int) := by omega
      have hi0 : (0 : Int) ≤ (n : Int) := by omega
      go_wp2
      go_quiet (fail)
      go_wp2
      exact ⟨⟨n + 1, m + nq, by omega, by go_num, rfl⟩, by simp [intOf]; omega⟩
    · go_wp2
      go_ret
      exact ⟨rfl, m, rfl⟩
/-- the ring and the reference, block by block behind w -/
structure Rm (w W : World) (b d c B N : Nat) (v : Value) (l : List Int) : Prop where
  r : IsR W b d N l
  m : IsM W c B N v l
  bel : Below w.heap.size w W
  hb : w.heap.size ≤ b
  hd : w.heap.size ≤ d
  b1 : b < c
  d1 : d < c
section
variable {w W W' : World} {b d c B N : Nat} {v v' : Value} {l l' l2 : List Int}
theorem Rm.below (k : Rm w W b d c B N v l) (g : Below W.heap.size W W') : Rm w W' b d c B N v l :=
  { k with r := k.r.below g k.r.bl k.r.dl, m := k.m.below g, bel := k.bel.trans (g.mono k.bel.size) }
end
theorem putLE (N : Nat) (l : List Int) (x : Int) (h : l.length ≤ N) (h2 : N ≤ 4096) : (putL N l x).length ≤ 4096 := by
  unfold putL; split
  · omega
  · simp; omega
theorem at_res (l : List Int) (i : Int) (h1 : -1 ≤ i) (h2 : i ≤ l.length) : ∃ X p, (∀ (w : World) (b d N : Nat), IsR w b d N l → Calls Try.prog 38 #[.pointer (some ⟨b, 0, none⟩), .int .i64 i] w fun e w' => e = .returned (.tuple #[.int .i64 X, .bool p]) ∧ ∃ k, w' = w.drewN k) ∧ (∀ (w : World) (c B N : Nat) (v : Value), IsM w c B N v l → Calls Try.prog 39 #[.pointer (some ⟨c, 0, none⟩), .int .i64 i] w fun e w' => e = .returned (.tuple #[.int .i64 X, .bool p]) ∧ w' = w) := by
  by_cases h : i = -1 ∨ i = (l.length : Int)
  · exact ⟨0, false, fun w b d N r => (r_at_out r i h).mono fun e w' h => ⟨h.1, 0, h.2⟩, fun w c B N v m => m_at_out m i h⟩
  · obtain ⟨n, rfl⟩ : ∃ n : Nat, i = n := ⟨i.toNat, by omega⟩
    exact ⟨_, true, fun w b d N r => r_at_in r n (by omega), fun w c B N v m => m_at_in m n (by omega)⟩
theorem m_pop {w : World} {c B N : Nat} {v : Value} {l : List Int} (h : IsM w c B N v l) : Calls Try.prog 37 #[.pointer (some ⟨c, 0, none⟩)] w fun e w' => e = .returned (.tuple #[.int .i64 (l.getLastD 0), .bool (!l.isEmpty)]) ∧ ∃ v', IsM w' c B N v' l.dropLast ∧ Cm w w' c B := by
  rcases List.eq_nil_or_concat l with rfl | ⟨l', y, rfl⟩
  · exact m_pop0 h
  · rw [List.concat_eq_append] at *
    have e : (l' ++ [y]).isEmpty = false := by cases l' <;> rfl
    rw [e]
    simpa using m_pop1 h
structure Rx (w W : World) (b d c B N : Nat) (v : Value) (l : List Int) (Bo : Nat) (kd xv : Int) : Prop where
  k : Rm w W b d c B N v l
  box : W.rowIs Bo 42 2 (fun j => if j = 0 then .int .i64 kd else .int .i64 xv)
  b1 : b < Bo
  d1 : d < Bo
section
variable {w W W' : World} {b d c B N : Nat} {v v' : Value} {l l' l2 : List Int} {Bo : Nat} {kd xv : Int}
theorem Rx.c0 (R : Rx w W b d c B N v l Bo kd xv) : W.cell? ⟨Bo, 0, none⟩ = some (.int .i64 kd) := row_val R.box (by omega) rfl
theorem Rx.c1 (R : Rx w W b d c B N v l Bo kd xv) : W.cell? ⟨Bo, 1, none⟩ = some (.int .i64 xv) := row_val R.box (by omega) rfl
theorem Rx.below (R : Rx w W b d c B N v l Bo kd xv) (g : Below W.heap.size W W') : Rx w W' b d c B N v l Bo kd xv := { R with k := R.k.below g, box := row_below R.box g (World.rowIs.lt R.box) }
theorem Rm.both (k : Rm w W b d c B N v l) {W1 W2 : World} (r : IsR W1 b d N l') (g : Ch W W1 b d) (m : IsM W2 c B N v' l') (gm : Cm W1 W2 c B) : Rm w W2 b d c B N v' l' := by
  have := k.b1; have := k.d1; have := k.m.cB; have := k.hb; have := k.hd
  have h1 := g.below k.bel.size k.hb k.hd
  exact { k with r := r.cm gm (by omega) (by omega) (by omega) (by omega), m := m, bel := (k.bel.trans h1).trans (gm.below (Nat.le_trans k.bel.size g.size) (by omega) (by omega)) }
theorem Rm.mch (k : Rm w W b d c B N v l) {W1 : World} (g : Ch W W1 b d) : IsM W1 c B N v l := by
  have := k.b1; have := k.d1; have := k.m.cB
  exact k.m.ch g (by omega) (by omega) (by omega) (by omega)
end
set_option maxRecDepth 100000 in
set_option maxHeartbeats 8000000 in
theorem plays_any (s : Int) (a : Option Addr) (len cap : Nat) (kd xv : Nat → Int) (w : World) (hs : I64 s) (hr : Ops w a len kd xv) (hlen : len ≤ 9223372036854775807) :
    Calls Try.prog 7 #[.int .i64 s, .slice a len cap] w fun e w' => e = .returned (.bool true) ∧ Below w.heap.size w w' := by
  have hz := zero42
  go_enter Try.func7, Try.ntmps7
  go_wp2_with fail
  refine (lives_any _).mono ?_
  rintro e w1 ⟨rfl, g1⟩
  go_wp2_with fail
  refine (r_new s _ hs).mono ?_
  rintro e w2 ⟨rfl, h3, g3⟩
  go_wp2_with fail
  refine (m_new s _ hs).mono ?_
  rintro e w3 ⟨rfl, h4, g4⟩
  have I0 : Rm w w3 (w1.heap.size + 1) w1.heap.size w2.heap.size (w2.heap.size + 1) (capN s) (.slice none 0 0) [] := by
    have b4 := gb_below g4 (Nat.le_refl _) (fun k e => by cases e)
    exact ⟨h3.below b4 h3.bl h3.dl, h4, (g1.trans (gb_below g3 g1.size (fun k e => by cases e))).trans (gb_below g4 (Nat.le_trans g1.size g3.size) (fun k e => by cases e)), by have := g1.size; omega, g1.size, h3.bl, h3.dl⟩
  clear h3 h4 g1 g3 g4
  generalize w1.heap.size + 1 = b at *
  generalize w1.heap.size = d at *
  generalize w2.heap.size + 1 = B at *
  generalize w2.heap.size = c at *
  have n2N := I0.r.n2
  generalize capN s = N at *
  have HR := Lib.hid hr
  clear hr
  have c1 := I0.m.c1
  have HS := Lib.hid (fun (W1 : World) (e : W1.heap = w3.heap) => r_size (I0.r.same e))
  go_wp2_with fail
  go_quiet ((go_at_call 14; exact Calls.quiet_of_same ((HS.out _ (by rfl)).mono fun e w' h => ⟨h.1, h.2.symm⟩)))
  have I1 : Rm w (w3.drewN nq) b d c B N (.slice none 0 0) [] := I0.below (gb_below (gb_drewN w3 nq none) (Nat.le_refl _) (fun k e => by cases e))
  clear I0 HS c1
  go_wp2_with fail
  go_loopw [7] (fun k wr => ∃ (i : Nat) (l : List Int) (v : Value), i ≤ len ∧ k = .int .i64 i ∧ Rm w wr b d c B N v l) (fun k wr => len - (intOf k).toNat)
  case atStart => exact ⟨0, [], _, by omega, rfl, I1⟩
  case round =>
    clear I1
    obtain ⟨i, l, v, hi, rfl, I⟩ := hrel
    by_cases hlt : i < len
    · obtain ⟨sb, so, rfl, hsb, c0, c1⟩ := HR.out i hlt
      have c0 := (I.bel.cell (p := ⟨sb, so + i * 2, none⟩) hsb).trans c0
      have c1 := (I.bel.cell (p := ⟨sb, so + i * 2 + 1, none⟩) hsb).trans c1
      obtain ⟨K, hK4, hK⟩ : ∃ K : Nat, K < 4 ∧ wrap64 ((IntKind.u64.wrap (kd i)).tmod 4) = (K : Int) := modn (kd i) 4 (by omega) (by omega)
      generalize kd i = kk at *
      generalize xv i = xx at *
      have k0 : Rx w (wr.alloc (.cells #[.int .i64 kk, .int .i64 xx] 42)) b d c B N v l wr.heap.size kk xx :=
        ⟨I.below ((Below.refl wr.heap.size wr).alloc (Nat.le_refl _) _), row_new _ _ _ _ _ rfl (fun j hj => by match j, hj with | 0, _ => rfl | 1, _ => rfl), I.r.bl, I.r.dl⟩
      have hle := I.r.le
      have HKK := Lib.hid hK
      clear hK I
      go_wp2_with fail
      clear c0 c1
      have c0 := k0.c0
      have c1 := k0.c1
      generalize wr.alloc (.cells #[.int .i64 kk, .int .i64 xx] 42) = W0 at *
      generalize wr.heap.size = Bo at *
      have hK' : K = 0 ∨ K = 1 ∨ K = 2 ∨ K = 3 := by omega
      refine (kind_is kk xx K HKK.out W0).mono ?_
      rintro e W0' ⟨rfl, hb0⟩
      have k0 := k0.below hb0
      have c0 := k0.c0
      have c1 := k0.c1
      clear hb0
      rcases hK' with rfl | rfl | rfl | rfl
      · have HM := Lib.hid (fun (W1 : World) (g : Ch W0' W1 b d) => m_put (k0.k.mch g) xx)
        have HP := Lib.hid (fun (W1 : World) (e : W1.heap = W0'.heap) => r_put (k0.k.r.same e) xx)
        have bn : Bo ≠ b := by have := k0.b1; omega
        have dn : Bo ≠ d := by have := k0.d1; omega
        have K0 := Lib.hid k0
        have HLE := Lib.hid hle
        clear k0 hle
        go_wp2_with fail
        go_region_with (first | (go_at_call 11; refine (HP.out _ (by rfl)).mono ?_; rintro e W1 ⟨rfl, ra, ga'⟩; have ga := (ch_drew W0' b d).trans ga'; have c1' := row_val (row_ch K0.out.box ga bn dn) (i := 1) (v := .int .i64 xx) (by omega) rfl; have RA := Lib.hid ra; have GA := Lib.hid ga; clear ra ga ga') | (go_at_call 32; refine (HM.out _ GA.out).mono ?_; rintro e W2 ⟨rfl, v2, im, gm⟩; have IM := Lib.hid im; have GM := Lib.hid gm; clear im gm))
        all_goals
          have K2 := K0.out.k.both RA.out GA.out IM.out GM.out
          clear IM GM RA GA c1' HM HP K0
          obtain ⟨a8, k8, e8⟩ := lo_slice K2.m.o
          have cs := K2.m.c0
          rw [e8] at cs
          have HS := Lib.hid (fun (W1 : World) (e : W1.heap = W2.heap) => r_len (K2.r.same e))
          have HK2 := Lib.hid K2
          clear K2 e8
          generalize (putL N l xx).length = q8 at cs HS
          go_wp2_with fail
          go_quiet ((go_at_call 13; exact Calls.quiet_of_same ((HS.out _ (by rfl)).mono fun e w' h => ⟨h.1, h.2.symm⟩)))
          go_wp2
          exact ⟨⟨i + 1, _, _, by omega, by go_num, HK2.out.below (gb_below (gb_drewN W2 _ none) (Nat.le_refl _) (fun k e => by cases e))⟩, by simp [intOf]; omega⟩
      · have HM := Lib.hid (fun (W1 : World) (g : Ch W0' W1 b d) => m_push (k0.k.mch g) xx)
        have HP := Lib.hid (fun (W1 : World) (e : W1.heap = W0'.heap) => r_push (k0.k.r.same e) xx)
        have bn : Bo ≠ b := by have := k0.b1; omega
        have dn : Bo ≠ d := by have := k0.d1; omega
        have K0 := Lib.hid k0
        have HLE := Lib.hid hle
        clear k0 hle
        go_wp2_with fail
        go_region_with (first | (go_at_call 21; refine (HP.out _ (by rfl)).mono ?_; rintro e W1 ⟨rfl, ra, ga'⟩; have ga := (ch_drew W0' b d).trans ga'; have c1' := row_val (row_ch K0.out.box ga bn dn) (i := 1) (v := .int .i64 xx) (by omega) rfl; have RA := Lib.hid ra; have GA := Lib.hid ga; clear ra ga ga') | (go_at_call 31; refine (HM.out _ GA.out).mono ?_; rintro e W2 ⟨rfl, v2, im, gm⟩; have IM := Lib.hid im; have GM := Lib.hid gm; clear im gm))
        all_goals
          have K2 := K0.out.k.both RA.out GA.out IM.out GM.out
          clear IM GM RA GA c1' HM HP K0
          obtain ⟨a8, k8, e8⟩ := lo_slice K2.m.o
          have cs := K2.m.c0
          rw [e8] at cs
          have HS := Lib.hid (fun (W1 : World) (e : W1.heap = W2.heap) => r_len (K2.r.same e))
          have HK2 := Lib.hid K2
          clear K2 e8
          generalize (pushL N l xx).length = q8 at cs HS
          go_wp2_with fail
          go_quiet ((go_at_call 13; exact Calls.quiet_of_same ((HS.out _ (by rfl)).mono fun e w' h => ⟨h.1, h.2.symm⟩)))
          go_wp2
          exact ⟨⟨i + 1, _, _, by omega, by go_num, HK2.out.below (gb_below (gb_drewN W2 _ none) (Nat.le_refl _) (fun k e => by cases e))⟩, by simp [intOf]; omega⟩
      · have HM := Lib.hid (fun (W1 : World) (g : Ch W0' W1 b d) => m_take (k0.k.mch g))
        have HP := Lib.hid (r_take k0.k.r)
        generalize l.headD 0 = X at HP HM
        generalize (!l.isEmpty) = p at HP HM
        have K0 := Lib.hid k0
        clear k0 hle c0 c1
        go_wp2_with fail
        refine HP.out.mono ?_
        rintro e W1 ⟨rfl, ra, ga⟩
        go_wp2_with fail
        refine (HM.out _ ga).mono ?_
        rintro e W2 ⟨rfl, v2, im, gm⟩
        have K2 := K0.out.k.both ra ga im gm
        clear im gm ra ga HM HP K0
        obtain ⟨a8, k8, e8⟩ := lo_slice K2.m.o
        have cs := K2.m.c0
        rw [e8] at cs
        have HS := Lib.hid (fun (W1 : World) (e : W1.heap = W2.heap) => r_len (K2.r.same e))
        have HK2 := Lib.hid K2
        clear K2 e8
        generalize (l.tail).length = q8 at cs HS
        go_wp2_with fail
        go_quiet ((go_at_call 13; exact Calls.quiet_of_same ((HS.out _ (by rfl)).mono fun e w' h => ⟨h.1, h.2.symm⟩)))
        go_wp2
        exact ⟨⟨i + 1, _, _, by omega, by go_num, HK2.out.below (gb_below (gb_drewN W2 _ none) (Nat.le_refl _) (fun k e => by cases e))⟩, by simp [intOf]; omega⟩
      · have HM := Lib.hid (fun (W1 : World) (g : Ch W0' W1 b d) => m_pop (k0.k.mch g))
        have HP := Lib.hid (r_pop k0.k.r)
        generalize l.getLastD 0 = X at HP HM
        generalize (!l.isEmpty) = p at HP HM
        have K0 := Lib.hid k0
        clear k0 hle c0 c1
        go_wp2_with fail
        refine HP.out.mono ?_
        rintro e W1 ⟨rfl, ra, ga⟩
        go_wp2_with fail
        refine (HM.out _ ga).mono ?_
        rintro e W2 ⟨rfl, v2, im, gm⟩
        have K2 := K0.out.k.both ra ga im gm
        clear im gm ra ga HM HP K0
        obtain ⟨a8, k8, e8⟩ := lo_slice K2.m.o
        have cs := K2.m.c0
        rw [e8] at cs
        have HS := Lib.hid (fun (W1 : World) (e : W1.heap = W2.heap) => r_len (K2.r.same e))
        have HK2 := Lib.hid K2
        clear K2 e8
        generalize (l.dropLast).length = q8 at cs HS
        go_wp2_with fail
        go_quiet ((go_at_call 13; exact Calls.quiet_of_same ((HS.out _ (by rfl)).mono fun e w' h => ⟨h.1, h.2.symm⟩)))
        go_wp2
        exact ⟨⟨i + 1, _, _, by omega, by go_num, HK2.out.below (gb_below (gb_drewN W2 _ none) (Nat.le_refl _) (fun k e => by cases e))⟩, by simp [intOf]; omega⟩
    · obtain ⟨av, cv, rfl⟩ := lo_slice I.m.o
      have hle := I.r.le
      have c0 := I.m.c0
      go_wp2_with fail
      go_loopw [18] (fun k wr2 => ∃ j : Nat, j ≤ l.length + 2 ∧ k = .int .i64 ((j : Int) - 1) ∧ Rm w wr2 b d c B N (.slice av l.length cv) l) (fun k wr2 => l.length + 2 - (intOf k + 1).toNat)
      case atStart => exact ⟨0, by omega, rfl, I⟩
      case round =>
        clear I c0
        obtain ⟨j, hj, rfl, I⟩ := hrel
        have c0 := I.m.c0
        by_cases hlt2 : (j : Int) - 1 ≤ (l.length : Int)
        · obtain ⟨X, p, HP, HM⟩ := at_res l ((j : Int) - 1) (by omega) hlt2
          have HJ := Lib.hid hj
          have HI := Lib.hid I
          have HLE := Lib.hid hle
          have hj63 : (j : Int) ≤ 5000 := by omega
          clear hj I hle
          have HX := Lib.hid hlt2
          generalize l.length = q at *
          go_wp2_with fail
          refine (HP _ b d N HI.out.r).mono ?_
          rintro e W1 ⟨rfl, k, rfl⟩
          have I1 := HI.out.below (gb_below (gb_drewN wr k none) (Nat.le_refl _) (fun k e => by cases e))
          go_wp2_with fail
          refine (HM _ c B N _ I1.m).mono ?_
          rintro e W1 ⟨rfl, rfl⟩
          have HI1 := Lib.hid I1
          clear I1 HP HM
          go_wp2
          exact ⟨⟨j + 1, by have := HJ.out; have := HX.out; omega, by go_num, HI1.out⟩, by have := HJ.out; have := HX.out; simp [intOf]; omega⟩
        · have HS := Lib.hid (fun (W1 : World) (e : W1.heap = wr.heap) => coll_any (some ⟨b, 0, none⟩) l W1 (.inr ⟨b, d, N, rfl, I.r.same e⟩))
          have HI := Lib.hid I
          have HLE := Lib.hid hle
          clear I hle
          have hx : ¬ ((j : Int) - 1 ≤ (l.length : Int)) := hlt2
          go_wp2_with fail
          go_region_with (first | (go_at_call 34; refine (HS.out _ (by rfl)).mono ?_; rintro e W5 ⟨v5, rfl, ho, hb⟩; obtain ⟨a5, k5, rfl⟩ := own_slice ho; have K5 := (HI.out.below (gb_below (gb_drew wr none) (Nat.le_refl _) (fun k e => by cases e))).below hb; have c5 := K5.m.c0; have HK5 := Lib.hid K5; have HO := Lib.hid ho; clear ho hb K5) | (go_at_call 35; refine (same_lo l l _ _ _ _ _ _ _ HO.out HK5.out.m.o rfl (by have := HLE.out; omega)).mono ?_; rintro e W6 ⟨rfl, m, rfl⟩))
          all_goals go_wp2
          all_goals go_ret
          all_goals exact ⟨rfl, (HK5.out.below (gb_below (gb_drewN W5 m none) (Nat.le_refl _) (fun k e => by cases e))).bel⟩
end Go.Proofs.Ytcofoknkmkfbkaa
