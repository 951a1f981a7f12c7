/- RingKinds' walk. -/
import Derived.Test.YtcofoknkmkfbkaaP9
import Derived.Test.YtcofoknkmkfbkaaP15
import Derived.Test.YtcofoknkmkfbkaaP17
namespace Go.Proofs.Ytcofoknkmkfbkaa
open Go.RowKit Go.Shelf
set_option linter.unusedVariables false
set_option linter.unusedSimpArgs false

/-- three rings, block by block behind w, and the step's box -/
structure K3 (w W : World) (ba da bb db bc dc N : Nat) (la : List Int) (lb : List ByteArray) (lc : List (Int × Int)) : Prop where
  a : IsR W ba da N la
  b : S.IsR W bb db N lb
  c : D.IsR W bc dc N lc
  bel : Below w.heap.size w W
  h1 : w.heap.size ≤ da
  h2 : da < ba
  h3 : ba < db
  h4 : db < bb
  h5 : bb < dc
  h6 : dc < bc
section
variable {w W W' : World} {ba da bb db bc dc N : Nat} {la la' : List Int} {lb lb' : List ByteArray} {lc lc' : List (Int × Int)}
theorem K3.below (k : K3 w W ba da bb db bc dc N la lb lc) (g : Below W.heap.size W W') : K3 w W' ba da bb db bc dc N la lb lc :=
  { k with a := k.a.below g k.a.bl k.a.dl, b := k.b.below g k.b.bl k.b.dl, c := k.c.below g k.c.bl k.c.dl, bel := k.bel.trans (g.mono k.bel.size) }
theorem K3.opA (k : K3 w W ba da bb db bc dc N la lb lc) (r : IsR W' ba da N la') (g : Ch W W' ba da) : K3 w W' ba da bb db bc dc N la' lb lc := by
  have := k.h1; have := k.h2; have := k.h3; have := k.h4; have := k.h5; have := k.h6
  exact { k with a := r, b := k.b.ch g (by omega) (by omega) (by omega) (by omega), c := k.c.ch g (by omega) (by omega) (by omega) (by omega), bel := k.bel.trans (g.below k.bel.size (by omega) (by omega)) }
theorem K3.opB (k : K3 w W ba da bb db bc dc N la lb lc) (r : S.IsR W' bb db N lb') (g : Ch W W' bb db) : K3 w W' ba da bb db bc dc N la lb' lc := by
  have := k.h1; have := k.h2; have := k.h3; have := k.h4; have := k.h5; have := k.h6
  exact { k with b := r, a := k.a.ch g (by omega) (by omega) (by omega) (by omega), c := k.c.ch g (by omega) (by omega) (by omega) (by omega), bel := k.bel.trans (g.below k.bel.size (by omega) (by omega)) }
theorem K3.opC (k : K3 w W ba da bb db bc dc N la lb lc) (r : D.IsR W' bc dc N lc') (g : Ch W W' bc dc) : K3 w W' ba da bb db bc dc N la lb lc' := by
  have := k.h1; have := k.h2; have := k.h3; have := k.h4; have := k.h5; have := k.h6
  exact { k with c := r, b := k.b.ch g (by omega) (by omega) (by omega) (by omega), a := k.a.ch g (by omega) (by omega) (by omega) (by omega), bel := k.bel.trans (g.below k.bel.size (by omega) (by omega)) }
theorem ch_low {b d Bo : Nat} {t : TypeId} {n : Nat} {f : Nat → Value} (h : W.rowIs Bo t n f) (g : Ch W W' b d) (h1 : b < Bo) (h2 : d < Bo) : W'.rowIs Bo t n f := row_ch h g (by omega) (by omega)
end
def bS (c : Int) : ByteArray := strOfNums [c]
def chS (x : Int) : ByteArray := bS (x % 256)
theorem conv_one (W : World) (o : Obj) (c : Int) : (convert 43 9 (.slice (some ⟨W.heap.size + 1, 0, none⟩) 1 1)).run Try.prog ((W.alloc o).alloc (.cells #[.int .u8 c] 5)) = .ok (.string (bS c)) ((W.alloc o).alloc (.cells #[.int .u8 c] 5)) := by
  refine run_convert_bytes_arg _ 43 5 Try.underlying43 Try.underlying5 _ 0 1 1 [c] rfl (fun i hi => ?_) 9 Try.underlying9
  obtain rfl : i = 0 := by omega

  simp
theorem lc_cons {lc : List (Int × Int)} {x : Int} {l : List Int} (h : lc.map Prod.fst = x :: l) : ∃ n lc', lc = (x, n) :: lc' ∧ lc'.map Prod.fst = l := by
  cases lc with
  | nil => simp at h
  | cons p lc' => obtain ⟨a, n⟩ := p; simp at h; obtain ⟨rfl, h⟩ := h; exact ⟨n, lc', rfl, h⟩
theorem lc_snoc {lc : List (Int × Int)} {x : Int} {l : List Int} (h : lc.map Prod.fst = l ++ [x]) : ∃ n lc', lc = lc' ++ [(x, n)] ∧ lc'.map Prod.fst = l := by
  obtain ⟨l1, l2, rfl, h1, h2⟩ := List.map_eq_append_iff.1 h
  obtain ⟨n, l3, rfl, h3⟩ := lc_cons h2
  obtain rfl : l3 = [] := by simpa using h3
  exact ⟨n, l1, rfl, h1⟩
theorem s_pop {w : World} {b d N : Nat} {y : ByteArray} {l : List ByteArray} (h : S.IsR w b d N (l ++ [y])) : Calls Try.prog 26 #[.pointer (some ⟨b, 0, none⟩)] w fun e w' => e = .returned (.tuple #[.string y, .bool true]) ∧ S.IsR w' b d N l ∧ Ch w w' b d := by
  have := S.r_pop h
  have e : (l ++ [y]).isEmpty = false := by cases l <;> rfl
  rw [e] at this
  simpa using this
theorem d_pop {w : World} {b d N : Nat} {y : Int × Int} {l : List (Int × Int)} (h : D.IsR w b d N (l ++ [y])) : Calls Try.prog 27 #[.pointer (some ⟨b, 0, none⟩)] w fun e w' => e = .returned (.tuple #[.agg #[.int .i64 y.1, .int .i64 y.2], .bool true]) ∧ D.IsR w' b d N l ∧ Ch w w' b d := by
  have := D.r_pop h
  have e : (l ++ [y]).isEmpty = false := by cases l <;> rfl
  rw [e] at this
  simpa using this
theorem i_pop {w : World} {b d N : Nat} {y : Int} {l : List Int} (h : IsR w b d N (l ++ [y])) : Calls Try.prog 15 #[.pointer (some ⟨b, 0, none⟩)] w fun e w' => e = .returned (.tuple #[.int .i64 y, .bool true]) ∧ IsR w' b d N l ∧ Ch w w' b d := by
  have := r_pop h
  have e : (l ++ [y]).isEmpty = false := by cases l <;> rfl
  rw [e] at this
  simpa using this
theorem s_take0 {w : World} {b d N : Nat} (h : S.IsR w b d N []) : Calls Try.prog 24 #[.pointer (some ⟨b, 0, none⟩)] w fun e w' => e = .returned (.tuple #[.string ⟨#[]⟩, .bool false]) ∧ S.IsR w' b d N [] ∧ Ch w w' b d := S.r_take h
theorem s_pop0 {w : World} {b d N : Nat} (h : S.IsR w b d N []) : Calls Try.prog 26 #[.pointer (some ⟨b, 0, none⟩)] w fun e w' => e = .returned (.tuple #[.string ⟨#[]⟩, .bool false]) ∧ S.IsR w' b d N [] ∧ Ch w w' b d := S.r_pop h
theorem d_take0 {w : World} {b d N : Nat} (h : D.IsR w b d N []) : Calls Try.prog 25 #[.pointer (some ⟨b, 0, none⟩)] w fun e w' => e = .returned (.tuple #[.agg #[.int .i64 0, .int .i64 0], .bool false]) ∧ D.IsR w' b d N [] ∧ Ch w w' b d := D.r_take h
theorem d_pop0 {w : World} {b d N : Nat} (h : D.IsR w b d N []) : Calls Try.prog 27 #[.pointer (some ⟨b, 0, none⟩)] w fun e w' => e = .returned (.tuple #[.agg #[.int .i64 0, .int .i64 0], .bool false]) ∧ D.IsR w' b d N [] ∧ Ch w w' b d := D.r_pop h
theorem s_push {w : World} {b d N : Nat} {l : List ByteArray} (h : S.IsR w b d N l) (x : ByteArray) (e : Int) (l' : List ByteArray) (he : S.putE N l = e) (hl : S.pushL N l x = l') : Calls Try.prog 22 #[.pointer (some ⟨b, 0, none⟩), .string x] w fun e' w' => e' = .returned (.int .i64 e) ∧ S.IsR w' b d N l' ∧ Ch w w' b d := by
  subst he hl; exact S.r_push h x
theorem d_push {w : World} {b d N : Nat} {l : List (Int × Int)} (h : D.IsR w b d N l) (x : Int × Int) (e : Int) (l' : List (Int × Int)) (he : D.putE N l = e) (hl : D.pushL N l x = l') : Calls Try.prog 23 #[.pointer (some ⟨b, 0, none⟩), .agg #[.int .i64 x.1, .int .i64 x.2]] w fun e' w' => e' = .returned (.int .i64 e) ∧ D.IsR w' b d N l' ∧ Ch w w' b d := by
  subst he hl; exact D.r_push h x
/-- the three rings at the list l, and the step's box -/
structure K4 (w W : World) (ba da bb db bc dc N : Nat) (l : List Int) (lc : List (Int × Int)) (Bo : Nat) (kd xv : Int) : Prop where
  k : K3 w W ba da bb db bc dc N l (l.map chS) lc
  box : W.rowIs Bo 42 2 (fun j => if j = 0 then .int .i64 kd else .int .i64 xv)
  lo : bc < Bo
section
variable {w W W' : World} {ba da bb db bc dc N : Nat} {l : List Int} {lc : List (Int × Int)} {Bo : Nat} {kd xv : Int}
theorem K4.c0 (R : K4 w W ba da bb db bc dc N l lc Bo kd xv) : W.cell? ⟨Bo, 0, none⟩ = some (.int .i64 kd) := row_val R.box (by omega) rfl
theorem K4.c1 (R : K4 w W ba da bb db bc dc N l lc Bo kd xv) : W.cell? ⟨Bo, 1, none⟩ = some (.int .i64 xv) := row_val R.box (by omega) rfl
end
set_option maxRecDepth 100000 in
set_option maxHeartbeats 8000000 in
theorem kinds_any (s : Int) (a : Option Addr) (len cap : Nat) (kd xv : Nat → Int) (w : World) (hs : I64 s) (hr : Ops w a len kd xv) (hlen : len ≤ 9223372036854775807) :
    Calls Try.prog 4 #[.int .i64 s, .slice a len cap] w fun e w' => e = .returned (.bool true) ∧ Below w.heap.size w w' := by
  have hz := zero42
  go_enter Try.func4, Try.ntmps4
  go_wp2_with fail
  refine (lives_any _).mono ?_
  rintro e w1 ⟨rfl, g1⟩
  go_wp2_with fail
  refine (r_new s _ hs).mono ?_
  rintro e w2 ⟨rfl, h3, g3⟩
  go_wp2_with fail
  refine (S.r_new s _ hs).mono ?_
  rintro e w3 ⟨rfl, h4, g4⟩
  go_wp2_with fail
  refine (D.r_new s _ hs).mono ?_
  rintro e w4 ⟨rfl, h5, g5⟩
  have I0 : K3 w w4 (w1.heap.size + 1) w1.heap.size (w2.heap.size + 1) w2.heap.size (w3.heap.size + 1) w3.heap.size (capN s) [] [] [] := by
    have b4 := gb_below g4 (Nat.le_refl _) (fun k e => by cases e)
    have b5 := gb_below g5 (Nat.le_refl _) (fun k e => by cases e)
    have k3 := h3.below b4 h3.bl h3.dl
    exact ⟨k3.below b5 k3.bl k3.dl, h4.below b5 h4.bl h4.dl, h5, ((g1.trans (gb_below g3 g1.size (fun k e => by cases e))).trans (gb_below g4 (Nat.le_trans g1.size g3.size) (fun k e => by cases e))).trans (gb_below g5 (Nat.le_trans (Nat.le_trans g1.size g3.size) g4.size) (fun k e => by cases e)), g1.size, by omega, h3.bl, by omega, h4.bl, by omega⟩
  clear h3 h4 h5 g1 g3 g4 g5
  generalize w1.heap.size + 1 = ba at *
  generalize w1.heap.size = da at *
  generalize w2.heap.size + 1 = bb at *
  generalize w2.heap.size = db at *
  generalize w3.heap.size + 1 = bc at *
  generalize w3.heap.size = dc at *
  have n2N := I0.a.n2
  generalize capN s = N at *
  have HR := Lib.hid hr
  clear hr
  have hcv := conv_one
  go_wp2_with fail
  go_loopw [8] (fun k wr => ∃ (i : Nat) (l : List Int) (lc : List (Int × Int)), i ≤ len ∧ k = .int .i64 i ∧ K3 w wr ba da bb db bc dc N l (l.map chS) lc ∧ lc.map Prod.fst = l) (fun k wr => len - (intOf k).toNat)
  case atStart => exact ⟨0, [], [], by omega, rfl, I0, rfl⟩
  case round =>
    clear I0
    obtain ⟨i, l, lc, hi, rfl, I, hfm⟩ := hrel
    by_cases hlt : i < len
    · obtain ⟨sb, so, rfl, hsb, c0, c1⟩ := HR.out i hlt
      have c0 := (I.bel.cell (p := ⟨sb, so + i * 2, none⟩) hsb).trans c0
      have c1 := (I.bel.cell (p := ⟨sb, so + i * 2 + 1, none⟩) hsb).trans c1
      obtain ⟨K, hK4, hK⟩ : ∃ K : Nat, K < 4 ∧ wrap64 ((IntKind.u64.wrap (kd i)).tmod 4) = (K : Int) := modn (kd i) 4 (by omega) (by omega)
      generalize kd i = kk at *
      generalize xv i = xx at *
      have HKK := Lib.hid hK
      have HII := Lib.hid I
      have HFM := Lib.hid hfm
      clear hK I hfm
      go_wp2_with fail
      have k0 : K4 w ((wr.alloc (.cells #[.int .i64 kk, .int .i64 xx] 42)).alloc (.cells #[.int .u8 (xx % 256)] 5)) ba da bb db bc dc N l lc wr.heap.size kk xx :=
        ⟨HII.out.below (((Below.refl wr.heap.size wr).alloc (Nat.le_refl _) _).alloc (by simp) _), (row_new _ _ _ _ _ rfl (fun j hj => by match j, hj with | 0, _ => rfl | 1, _ => rfl)).alloc _, HII.out.c.bl⟩
      clear HII c0 c1
      have HL : Hid (lc.length = l.length) := Lib.hid (by rw [← HFM.out]; simp)
      generalize ((wr.alloc (.cells #[.int .i64 kk, .int .i64 xx] 42)).alloc (.cells #[.int .u8 (xx % 256)] 5)) = W0 at *
      generalize wr.heap.size = Bo at *
      have c0 := k0.c0
      have c1 := k0.c1
      have hll := k0.k.a.le
      have hch : bS (xx % 256) = chS xx := rfl
      rw [hch] at *
      clear hch
      have hK' : K = 0 ∨ K = 1 ∨ K = 2 ∨ K = 3 := by omega
      go_wp2_with fail
      refine (kind_is kk xx K HKK.out W0).mono ?_
      rintro e W0' ⟨rfl, hb0⟩
      have k0 : K4 w W0' ba da bb db bc dc N l lc Bo kk xx := ⟨k0.k.below hb0, row_below k0.box hb0 (World.rowIs.lt k0.box), k0.lo⟩
      have c0 := k0.c0
      have c1 := k0.c1
      rcases hK' with rfl | rfl | rfl | rfl
      · by_cases hf : l.length = N
        · have HF := Lib.hid hf
          clear hf
          have hll := HF.out
          have hlb : (l.map chS).length = N := by simpa using hll
          have hlc : lc.length = N := by rw [HL.out]; exact hll
          have HB := Lib.hid hlb
          have HC := Lib.hid hlc
          clear hll hlb hlc
          go_wp2_with fail
          refine (put_is k0.k.a xx 7 l (by unfold putE; rw [if_pos HF.out]) (by unfold putL; rw [if_pos HF.out])).mono ?_
          rintro e W1 ⟨rfl, ra, ga⟩
          have k1 := k0.k.opA ra ga
          have bx1 := ch_low k0.box ga (by have := k0.k.h3; have := k0.k.h4; have := k0.k.h5; have := k0.k.h6; have := k0.lo; omega) (by have := k0.k.h2; have := k0.k.h3; have := k0.k.h4; have := k0.k.h5; have := k0.k.h6; have := k0.lo; omega)
          have lo := k0.lo
          clear k0 ra ga c0 c1
          go_wp2_with fail
          refine (S.put_is k1.b (chS xx) 7 (l.map chS) (by unfold S.putE; rw [if_pos HB.out]) (by unfold S.putL; rw [if_pos HB.out])).mono ?_
          rintro e W2 ⟨rfl, rb, gb⟩
          have k2 := k1.opB rb gb
          have bx2 := ch_low bx1 gb (by have := k1.h5; have := k1.h6; omega) (by have := k1.h4; have := k1.h5; have := k1.h6; omega)
          have c1 := row_val bx2 (i := 1) (v := .int .i64 xx) (by omega) rfl
          clear k1 rb gb bx1
          go_wp2_with fail
          refine (D.put_is k2.c (xx, (i : Int)) 7 lc (by unfold D.putE; rw [if_pos HC.out]) (by unfold D.putL; rw [if_pos HC.out])).mono ?_
          rintro e W3 ⟨rfl, rc, gc⟩
          have k3 := k2.opC rc gc
          clear k2 rc gc bx2 c1
          go_wp2_with fail
          refine (len_is k3.a l.length (by simp)).mono ?_
          rintro e w' ⟨rfl, rfl⟩
          go_wp2_with fail
          refine (S.len_is k3.b l.length (by simp)).mono ?_
          rintro e w' ⟨rfl, rfl⟩
          go_wp2_with fail
          refine (S.len_is k3.b l.length (by simp)).mono ?_
          rintro e w' ⟨rfl, rfl⟩
          go_wp2_with fail
          refine (D.len_is k3.c l.length (by simp [HL.out])).mono ?_
          rintro e w' ⟨rfl, rfl⟩
          go_wp2
          exact ⟨⟨i + 1, l, lc, by omega, by go_num, by simpa using k3, by simp [HFM.out]⟩, by simp [intOf]; omega⟩
        · have HF := Lib.hid hf
          clear hf
          have hll := HF.out
          have hlb : ¬ (l.map chS).length = N := by simpa using hll
          have hlc : ¬ lc.length = N := by rw [HL.out]; exact hll
          have HB := Lib.hid hlb
          have HC := Lib.hid hlc
          clear hll hlb hlc
          go_wp2_with fail
          refine (put_is k0.k.a xx 0 (l ++ [xx]) (by unfold putE; rw [if_neg HF.out]) (by unfold putL; rw [if_neg HF.out])).mono ?_
          rintro e W1 ⟨rfl, ra, ga⟩
          have k1 := k0.k.opA ra ga
          have bx1 := ch_low k0.box ga (by have := k0.k.h3; have := k0.k.h4; have := k0.k.h5; have := k0.k.h6; have := k0.lo; omega) (by have := k0.k.h2; have := k0.k.h3; have := k0.k.h4; have := k0.k.h5; have := k0.k.h6; have := k0.lo; omega)
          have lo := k0.lo
          clear k0 ra ga c0 c1
          go_wp2_with fail
          refine (S.put_is k1.b (chS xx) 0 (l.map chS ++ [chS xx]) (by unfold S.putE; rw [if_neg HB.out]) (by unfold S.putL; rw [if_neg HB.out])).mono ?_
          rintro e W2 ⟨rfl, rb, gb⟩
          have k2 := k1.opB rb gb
          have bx2 := ch_low bx1 gb (by have := k1.h5; have := k1.h6; omega) (by have := k1.h4; have := k1.h5; have := k1.h6; omega)
          have c1 := row_val bx2 (i := 1) (v := .int .i64 xx) (by omega) rfl
          clear k1 rb gb bx1
          go_wp2_with fail
          refine (D.put_is k2.c (xx, (i : Int)) 0 (lc ++ [(xx, (i : Int))]) (by unfold D.putE; rw [if_neg HC.out]) (by unfold D.putL; rw [if_neg HC.out])).mono ?_
          rintro e W3 ⟨rfl, rc, gc⟩
          have k3 := k2.opC rc gc
          clear k2 rc gc bx2 c1
          go_wp2_with fail
          refine (len_is k3.a ((l.length : Int) + 1) (by simp)).mono ?_
          rintro e w' ⟨rfl, rfl⟩
          go_wp2_with fail
          refine (S.len_is k3.b ((l.length : Int) + 1) (by simp)).mono ?_
          rintro e w' ⟨rfl, rfl⟩
          go_wp2_with fail
          refine (S.len_is k3.b ((l.length : Int) + 1) (by simp)).mono ?_
          rintro e w' ⟨rfl, rfl⟩
          go_wp2_with fail
          refine (D.len_is k3.c ((l.length : Int) + 1) (by simp [HL.out])).mono ?_
          rintro e w' ⟨rfl, rfl⟩
          go_wp2
          exact ⟨⟨i + 1, (l ++ [xx]), (lc ++ [(xx, (i : Int))]), by omega, by go_num, by simpa using k3, by simp [HFM.out]⟩, by simp [intOf]; omega⟩
      · by_cases hf : l.length = N
        · have HF := Lib.hid hf
          clear hf
          have hll := HF.out
          have hlb : (l.map chS).length = N := by simpa using hll
          have hlc : lc.length = N := by rw [HL.out]; exact hll
          have HB := Lib.hid hlb
          have HC := Lib.hid hlc
          clear hll hlb hlc
          go_wp2_with fail
          refine (push_is k0.k.a xx 7 l (by unfold putE; rw [if_pos HF.out]) (by unfold pushL; rw [if_pos HF.out])).mono ?_
          rintro e W1 ⟨rfl, ra, ga⟩
          have k1 := k0.k.opA ra ga
          have bx1 := ch_low k0.box ga (by have := k0.k.h3; have := k0.k.h4; have := k0.k.h5; have := k0.k.h6; have := k0.lo; omega) (by have := k0.k.h2; have := k0.k.h3; have := k0.k.h4; have := k0.k.h5; have := k0.k.h6; have := k0.lo; omega)
          have lo := k0.lo
          clear k0 ra ga c0 c1
          go_wp2_with fail
          refine (s_push k1.b (chS xx) 7 (l.map chS) (by unfold S.putE; rw [if_pos HB.out]) (by unfold S.pushL; rw [if_pos HB.out])).mono ?_
          rintro e W2 ⟨rfl, rb, gb⟩
          have k2 := k1.opB rb gb
          have bx2 := ch_low bx1 gb (by have := k1.h5; have := k1.h6; omega) (by have := k1.h4; have := k1.h5; have := k1.h6; omega)
          have c1 := row_val bx2 (i := 1) (v := .int .i64 xx) (by omega) rfl
          clear k1 rb gb bx1
          go_wp2_with fail
          refine (d_push k2.c (xx, (i : Int)) 7 lc (by unfold D.putE; rw [if_pos HC.out]) (by unfold D.pushL; rw [if_pos HC.out])).mono ?_
          rintro e W3 ⟨rfl, rc, gc⟩
          have k3 := k2.opC rc gc
          clear k2 rc gc bx2 c1
          go_wp2_with fail
          refine (len_is k3.a l.length (by simp)).mono ?_
          rintro e w' ⟨rfl, rfl⟩
          go_wp2_with fail
          refine (S.len_is k3.b l.length (by simp)).mono ?_
          rintro e w' ⟨rfl, rfl⟩
          go_wp2_with fail
          refine (S.len_is k3.b l.length (by simp)).mono ?_
          rintro e w' ⟨rfl, rfl⟩
          go_wp2_with fail
          refine (D.len_is k3.c l.length (by simp [HL.out])).mono ?_
          rintro e w' ⟨rfl, rfl⟩
          go_wp2
          exact ⟨⟨i + 1, l, lc, by omega, by go_num, by simpa using k3, by simp [HFM.out]⟩, by simp [intOf]; omega⟩
        · have HF := Lib.hid hf
          clear hf
          have hll := HF.out
          have hlb : ¬ (l.map chS).length = N := by simpa using hll
          have hlc : ¬ lc.length = N := by rw [HL.out]; exact hll
          have HB := Lib.hid hlb
          have HC := Lib.hid hlc
          clear hll hlb hlc
          go_wp2_with fail
          refine (push_is k0.k.a xx 0 (xx :: l) (by unfold putE; rw [if_neg HF.out]) (by unfold pushL; rw [if_neg HF.out])).mono ?_
          rintro e W1 ⟨rfl, ra, ga⟩
          have k1 := k0.k.opA ra ga
          have bx1 := ch_low k0.box ga (by have := k0.k.h3; have := k0.k.h4; have := k0.k.h5; have := k0.k.h6; have := k0.lo; omega) (by have := k0.k.h2; have := k0.k.h3; have := k0.k.h4; have := k0.k.h5; have := k0.k.h6; have := k0.lo; omega)
          have lo := k0.lo
          clear k0 ra ga c0 c1
          go_wp2_with fail
          refine (s_push k1.b (chS xx) 0 (chS xx :: l.map chS) (by unfold S.putE; rw [if_neg HB.out]) (by unfold S.pushL; rw [if_neg HB.out])).mono ?_
          rintro e W2 ⟨rfl, rb, gb⟩
          have k2 := k1.opB rb gb
          have bx2 := ch_low bx1 gb (by have := k1.h5; have := k1.h6; omega) (by have := k1.h4; have := k1.h5; have := k1.h6; omega)
          have c1 := row_val bx2 (i := 1) (v := .int .i64 xx) (by omega) rfl
          clear k1 rb gb bx1
          go_wp2_with fail
          refine (d_push k2.c (xx, (i : Int)) 0 ((xx, (i : Int)) :: lc) (by unfold D.putE; rw [if_neg HC.out]) (by unfold D.pushL; rw [if_neg HC.out])).mono ?_
          rintro e W3 ⟨rfl, rc, gc⟩
          have k3 := k2.opC rc gc
          clear k2 rc gc bx2 c1
          go_wp2_with fail
          refine (len_is k3.a ((l.length : Int) + 1) (by simp)).mono ?_
          rintro e w' ⟨rfl, rfl⟩
          go_wp2_with fail
          refine (S.len_is k3.b ((l.length : Int) + 1) (by simp)).mono ?_
          rintro e w' ⟨rfl, rfl⟩
          go_wp2_with fail
          refine (S.len_is k3.b ((l.length : Int) + 1) (by simp)).mono ?_
          rintro e w' ⟨rfl, rfl⟩
          go_wp2_with fail
          refine (D.len_is k3.c ((l.length : Int) + 1) (by simp [HL.out])).mono ?_
          rintro e w' ⟨rfl, rfl⟩
          go_wp2
          exact ⟨⟨i + 1, (xx :: l), ((xx, (i : Int)) :: lc), by omega, by go_num, by simpa using k3, by simp [HFM.out]⟩, by simp [intOf]; omega⟩
      · cases l with
        | nil =>
          obtain rfl : lc = [] := by simpa using HFM.out
          go_wp2_with fail
          refine (take0' k0.k.a).mono ?_
          rintro e W1 ⟨rfl, ra, ga⟩
          have k1 := k0.k.opA ra ga
          clear k0 ra ga c0 c1
          go_wp2_with fail
          refine (s_take0 (show S.IsR W1 bb db N [] from by simpa using k1.b)).mono ?_
          rintro e W2 ⟨rfl, rb, gb⟩
          have k2 := k1.opB rb gb
          clear k1 rb gb
          go_wp2_with fail
          refine (d_take0 k2.c).mono ?_
          rintro e W3 ⟨rfl, rc, gc⟩
          have k3 := k2.opC rc gc
          clear k2 rc gc
          go_wp2_with fail
          have k3 := k3.below ((Below.refl W3.heap.size W3).alloc (Nat.le_refl _) (.cells #[.int .i64 0, .int .i64 0] 40))
          refine (len_is k3.a 0 (by simp)).mono ?_
          rintro e w' ⟨rfl, rfl⟩
          go_wp2_with fail
          refine (S.len_is k3.b 0 (by simp)).mono ?_
          rintro e w' ⟨rfl, rfl⟩
          go_wp2_with fail
          refine (S.len_is k3.b 0 (by simp)).mono ?_
          rintro e w' ⟨rfl, rfl⟩
          go_wp2_with fail
          refine (D.len_is k3.c 0 (by simp)).mono ?_
          rintro e w' ⟨rfl, rfl⟩
          go_wp2
          exact ⟨⟨i + 1, [], [], by omega, by go_num, by simpa using k3, by rfl⟩, by simp [intOf]; omega⟩
        | cons y l =>
          obtain ⟨yn, lc, rfl, hfm⟩ := lc_cons HFM.out
          have hch : bS (y % 256) = chS y := rfl
          go_wp2_with fail
          have HFM2 := Lib.hid hfm
          clear hfm
          refine (take_is k0.k.a).mono ?_
          rintro e W1 ⟨rfl, ra, ga⟩
          have k1 := k0.k.opA ra ga
          clear k0 ra ga c0 c1
          go_wp2_with fail
          refine (S.take_is (show S.IsR W1 bb db N (chS y :: l.map chS) from by simpa using k1.b)).mono ?_
          rintro e W2 ⟨rfl, rb, gb⟩
          have k2 := k1.opB rb gb
          clear k1 rb gb
          go_wp2_with fail
          refine (D.take_is k2.c).mono ?_
          rintro e W3 ⟨rfl, rc, gc⟩
          have k3 := k2.opC rc gc
          clear k2 rc gc
          go_wp2_with fail
          have k3 := k3.below (((Below.refl W3.heap.size W3).alloc (Nat.le_refl _) (.cells #[.int .i64 y, .int .i64 yn] 40)).alloc (by simp) (.cells #[.int .u8 (y % 256)] 5))
          refine (len_is k3.a l.length (by simp)).mono ?_
          rintro e w' ⟨rfl, rfl⟩
          go_wp2_with fail
          refine (S.len_is k3.b l.length (by simp)).mono ?_
          rintro e w' ⟨rfl, rfl⟩
          go_wp2_with fail
          refine (S.len_is k3.b l.length (by simp)).mono ?_
          rintro e w' ⟨rfl, rfl⟩
          go_wp2_with fail
          refine (D.len_is k3.c l.length (by simp [← HFM2.out])).mono ?_
          rintro e w' ⟨rfl, rfl⟩
          go_wp2
          exact ⟨⟨i + 1, l, lc, by omega, by go_num, by simpa using k3, by exact HFM2.out⟩, by simp [intOf]; omega⟩
      · rcases List.eq_nil_or_concat l with rfl | ⟨l, y, rfl⟩
        · obtain rfl : lc = [] := by simpa using HFM.out
          go_wp2_with fail
          refine (pop0' k0.k.a).mono ?_
          rintro e W1 ⟨rfl, ra, ga⟩
          have k1 := k0.k.opA ra ga
          clear k0 ra ga c0 c1
          go_wp2_with fail
          refine (s_pop0 (show S.IsR W1 bb db N [] from by simpa using k1.b)).mono ?_
          rintro e W2 ⟨rfl, rb, gb⟩
          have k2 := k1.opB rb gb
          clear k1 rb gb
          go_wp2_with fail
          refine (d_pop0 k2.c).mono ?_
          rintro e W3 ⟨rfl, rc, gc⟩
          have k3 := k2.opC rc gc
          clear k2 rc gc
          go_wp2_with fail
          have k3 := k3.below ((Below.refl W3.heap.size W3).alloc (Nat.le_refl _) (.cells #[.int .i64 0, .int .i64 0] 40))
          refine (len_is k3.a 0 (by simp)).mono ?_
          rintro e w' ⟨rfl, rfl⟩
          go_wp2_with fail
          refine (S.len_is k3.b 0 (by simp)).mono ?_
          rintro e w' ⟨rfl, rfl⟩
          go_wp2_with fail
          refine (S.len_is k3.b 0 (by simp)).mono ?_
          rintro e w' ⟨rfl, rfl⟩
          go_wp2_with fail
          refine (D.len_is k3.c 0 (by simp)).mono ?_
          rintro e w' ⟨rfl, rfl⟩
          go_wp2
          exact ⟨⟨i + 1, [], [], by omega, by go_num, by simpa using k3, by rfl⟩, by simp [intOf]; omega⟩
        · rw [List.concat_eq_append] at *
          obtain ⟨yn, lc, rfl, hfm⟩ := lc_snoc HFM.out
          have hch : bS (y % 256) = chS y := rfl
          go_wp2_with fail
          have HFM2 := Lib.hid hfm
          clear hfm
          refine (i_pop k0.k.a).mono ?_
          rintro e W1 ⟨rfl, ra, ga⟩
          have k1 := k0.k.opA ra ga
          clear k0 ra ga c0 c1
          go_wp2_with fail
          refine (s_pop (show S.IsR W1 bb db N (l.map chS ++ [chS y]) from by simpa using k1.b)).mono ?_
          rintro e W2 ⟨rfl, rb, gb⟩
          have k2 := k1.opB rb gb
          clear k1 rb gb
          go_wp2_with fail
          refine (d_pop k2.c).mono ?_
          rintro e W3 ⟨rfl, rc, gc⟩
          have k3 := k2.opC rc gc
          clear k2 rc gc
          go_wp2_with fail
          have k3 := k3.below (((Below.refl W3.heap.size W3).alloc (Nat.le_refl _) (.cells #[.int .i64 y, .int .i64 yn] 40)).alloc (by simp) (.cells #[.int .u8 (y % 256)] 5))
          refine (len_is k3.a l.length (by simp)).mono ?_
          rintro e w' ⟨rfl, rfl⟩
          go_wp2_with fail
          refine (S.len_is k3.b l.length (by simp)).mono ?_
          rintro e w' ⟨rfl, rfl⟩
          go_wp2_with fail
          refine (S.len_is k3.b l.length (by simp)).mono ?_
          rintro e w' ⟨rfl, rfl⟩
          go_wp2_with fail
          refine (D.len_is k3.c l.length (by simp [← HFM2.out])).mono ?_
          rintro e w' ⟨rfl, rfl⟩
          go_wp2
          exact ⟨⟨i + 1, l, lc, by omega, by go_num, by simpa using k3, by exact HFM2.out⟩, by simp [intOf]; omega⟩
    · go_wp2
      go_ret
      exact ⟨rfl, I.bel⟩
end Go.Proofs.Ytcofoknkmkfbkaa
