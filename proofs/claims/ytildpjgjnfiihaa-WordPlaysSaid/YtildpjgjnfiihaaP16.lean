/- The reference's Step; both side by side. -/
import Derived.Test.YtildpjgjnfiihaaP15
namespace Go.Proofs.Ytildpjgjnfiihaa
open Go.RowKit Go.ChangeShapes Go.WideShapes Go.Deep
set_option linter.unusedVariables false
set_option linter.unusedSimpArgs false
section
variable {w0 w w1 : World} {c g : Nat} {q : Q}
def ag (x : Nx) : Value := .agg #[.bool true, .int .i64 (enc x).op, .int .i64 ((enc x).made + 1), .int .i64 (enc x).read]
theorem mhold_any (h : Rf w c g q) (ho : ok0 q.held (q.th 0) = true) (hx : q.th 0 ≠ .no) : Calls Try.prog 23 #[.pointer (some ⟨c, 0, none⟩), ag (q.th 0)] w (Hp w c g q 0) := by
  cases e : q.th 0 with
  | no => exact absurd e hx
  | look => rw [e] at ho; exact absurd ho (by simp [ok0])
  | wk b => rw [e] at ho; exact absurd ho (by simp [ok0])
  | start => exact mhold_start h e
  | sleep => exact mhold_sleep h e
  | goes => exact mhold_goes h e
  | yield => exact mhold_yield h e
  | die => exact mhold_die h e
theorem mwake_any (h : Rf w c g q) (n : Nat) (hn : n < 8) (ho : okk (q.th n) = true) (hx : q.th n ≠ .no) : Calls Try.prog 24 #[.pointer (some ⟨c, 0, none⟩), .int .i64 n, ag (q.th n)] w (Hp w c g q n) := by
  cases e : q.th n with
  | no => exact absurd e hx
  | look => exact mwake_look h n hn e
  | wk b => cases b
            · exact mwake_wkf h n hn e
            · exact mwake_wkt h n hn e
  | start => rw [e] at ho; exact absurd ho (by simp [okk])
  | sleep => rw [e] at ho; exact absurd ho (by simp [okk])
  | goes => rw [e] at ho; exact absurd ho (by simp [okk])
  | yield => rw [e] at ho; exact absurd ho (by simp [okk])
  | die => rw [e] at ho; exact absurd ho (by simp [okk])
theorem enc_made (x : Nx) : (enc x).made ≤ 1 := by cases x <;> simp [enc]
set_option maxRecDepth 100000 in
set_option maxHeartbeats 2000000 in
theorem mstep_any (h : Rf w c g q) (I : Iv q) (k : Int) : Calls Try.prog 17 #[.pointer (some ⟨c, 0, none⟩), .int .i64 k] w fun e w' => e = .returned (.tuple #[.int .i64 (step q k).1.1, .int .i64 (step q k).1.2]) ∧ Rf w' c g (step q k).2 ∧ Fr w w' (S2 c g) := by
  have hz := zero43
  by_cases h1 : k < 0 ∨ 8 ≤ k
  · have e : step q k = ((0, 1), q) := by unfold step; rw [if_pos h1]
    rw [e]
    have H := Lib.hid h
    clear h e I
    rcases h1 with h1 | h1
    · go_enter Try.func17, Try.ntmps17
      go_wp2
      go_ret2
      exact ⟨rfl, H.out, Fr.refl _ _⟩
    · by_cases h2 : k < 0
      · omega
      · go_enter Try.func17, Try.ntmps17
        go_wp2
        go_ret2
        exact ⟨rfl, H.out, Fr.refl _ _⟩
  · obtain ⟨n, rfl⟩ : ∃ n : Nat, k = n := ⟨k.toNat, by omega⟩
    have hn : n < 8 := by omega
    have hk0 : ¬ (n : Int) < 0 := by omega
    have hk8 : ¬ (8 : Int) ≤ n := by omega
    have hk9 : (n : Int) < 8 := by omega
    have hkp : (0 : Int) ≤ n := by omega
    have c1 := h.c1
    have t0 := h.t0 n hn
    have t1 := h.t1 n hn
    have t2 := h.t2 n hn
    have t3 := h.t3 n hn
    rw [enc_on] at t0
    have hlc := h.s.lt
    have hlg := h.t.lt
    by_cases hx : q.th n = .no
    · have e : step q n = ((0, 13), q) := by unfold step; rw [if_neg h1, if_pos (by rw [Int.toNat_natCast]; exact hx)]
      rw [e]
      rw [decide_eq_false (by simpa using hx)] at t0
      have H := Lib.hid h
      clear h e I h1 hx
      generalize ((enc (q.th n)).op : Int) = u1 at *
      generalize ((enc (q.th n)).made : Int) = u2 at *
      generalize ((enc (q.th n)).read : Int) = u3 at *
      go_enter Try.func17, Try.ntmps17
      go_wp2
      go_ret2
      exact ⟨rfl, H.out.alloc _, fr_alloc _ _ _⟩
    · rw [step_at q n hn hx]
      rw [decide_eq_true hx] at t0
      have hm := enc_made (q.th n)
      have hw : IntKind.i64.wrap (((enc (q.th n)).made : Int) + 1) = ((enc (q.th n)).made : Int) + 1 := by rw [IntKind.wrap_i64]; omega
      have f0 := fr_alloc w (S2 c g) (.cells #[.bool true, .int .i64 (enc (q.th n)).op, .int .i64 ((enc (q.th n)).made + 1), .int .i64 (enc (q.th n)).read] 43)
      have hR := h.alloc (.cells #[.bool true, .int .i64 (enc (q.th n)).op, .int .i64 ((enc (q.th n)).made + 1), .int .i64 (enc (q.th n)).read] 43)
      have F0 := Lib.hid f0
      by_cases n0 : n = 0
      · subst n0
        have hc := Lib.hid (mhold_any hR I.t0 hx)
        unfold ag at hc
        clear h I h1 hR f0 hx hm
        generalize ((enc (q.th 0)).op : Int) = u1 at *
        generalize ((enc (q.th 0)).made : Int) = u2 at *
        generalize ((enc (q.th 0)).read : Int) = u3 at *
        rw [Nat.zero_mul] at t0
        rw [Nat.zero_mul, Nat.zero_add] at t1 t2 t3
        go_enter Try.func17, Try.ntmps17
        go_wp2_with fail
        refine hc.out.mono ?_
        rintro e w' ⟨rfl, k1, k2⟩
        have HK := Lib.hid (And.intro k1 (F0.out.trans' k2))
        clear k1 k2
        generalize hwh : (stepA q 0).what = wh at *
        have HWH := Lib.hid hwh
        clear hwh
        go_wp2
        go_ret2
        have e := HWH.out
        subst e
        exact ⟨rfl, HK.out⟩
      · have hc := Lib.hid (mwake_any hR n hn (I.tk n n0 hn) hx)
        unfold ag at hc
        have hz0 : ((n : Int) == 0) = false := by simp; exact n0
        clear h I h1 hR f0 hx hm n0
        generalize ((enc (q.th n)).op : Int) = u1 at *
        generalize ((enc (q.th n)).made : Int) = u2 at *
        generalize ((enc (q.th n)).read : Int) = u3 at *
        go_enter Try.func17, Try.ntmps17
        go_wp2_with fail
        refine hc.out.mono ?_
        rintro e w' ⟨rfl, k1, k2⟩
        have HK := Lib.hid (And.intro k1 (F0.out.trans' k2))
        clear k1 k2
        generalize hwh : (stepA q n).what = wh at *
        have HWH := Lib.hid hwh
        clear hwh
        go_wp2
        go_ret2
        have e := HWH.out
        subst e
        exact ⟨rfl, HK.out⟩
end
theorem iv_begin {q : Q} (I : Iv q) (k op : Int) : Iv (begin q k op).2 := by
  unfold begin
  split
  · exact I
  · rename_i hc
    split
    · exact I
    · split
      · exact I
      · rename_i hb
        have hf : first k op ≠ .no := fun e => hc (.inr (.inr e))
        by_cases h0 : k = 0
        · subst h0
          have hh : q.held ≠ decide (op = 1) := fun e => hb ⟨rfl, e⟩
          refine ⟨I.n5, I.hr, ?_, fun j h0 hj => ?_⟩
          · show ok0 q.held (if 0 = (0 : Int).toNat then first 0 op else q.th 0) = true
            rw [if_pos (show 0 = (0 : Int).toNat from rfl)]
            unfold first at hf ⊢
            rw [if_neg (by omega)] at hf ⊢
            by_cases a1 : op = 1
            · rw [if_pos a1]
              rw [decide_eq_true a1] at hh
              have : q.held = false := by simpa using hh
              rw [this]; rfl
            · rw [decide_eq_false a1] at hh
              have : q.held = true := by simpa using hh
              rw [this, if_neg a1]
              rw [if_neg a1] at hf
              split
              · rfl
              · split
                · rfl
                · split
                  · rfl
                  · rename_i a2 a3 a4
                    rw [if_neg a2, if_neg a3, if_neg a4] at hf
                    exact absurd rfl hf
          · show okk (if j = (0 : Int).toNat then first 0 op else q.th j) = true
            rw [if_neg (by simpa using h0)]
            exact I.tk j h0 hj
        · have hkp : 0 < k := by omega
          have hfl : first k op = .look := by
            unfold first at hf ⊢
            rw [if_pos hkp] at hf ⊢
            split
            · rfl
            · rename_i a; rw [if_neg a] at hf; exact absurd rfl hf
          refine ⟨I.n5, I.hr, ?_, fun j hj0 hj => ?_⟩
          · show ok0 q.held (if 0 = k.toNat then first k op else q.th 0) = true
            rw [if_neg (by omega)]; exact I.t0
          · show okk (if j = k.toNat then first k op else q.th j) = true
            split
            · rw [hfl]; rfl
            · exact I.tk j hj0 hj
theorem iv_step {q : Q} (I : Iv q) (k : Int) : Iv (step q k).2 := by
  by_cases h1 : k < 0 ∨ 8 ≤ k
  · unfold step; rw [if_pos h1]; exact I
  · obtain ⟨n, rfl⟩ : ∃ n : Nat, k = n := ⟨k.toNat, by omega⟩
    by_cases hx : q.th n = .no
    · unfold step; rw [if_neg h1, if_pos (by rw [Int.toNat_natCast]; exact hx)]; exact I
    · rw [step_at q n (by omega) hx]; exact iv_stp I n (by omega) hx
/-- the word and the reference's one, side by side -/
structure Ps (w0 w : World) (b c g : Nat) (qa qb : Q) : Prop where
  ws : Ws w0 w b qa
  rf : Rf w c g qb
  d : c ≠ b ∧ g ≠ b
  lc : w0.heap.size ≤ c
  lg : w0.heap.size ≤ g
theorem row_ne' {w : World} {c G n m : Nat} {t u : TypeId} {f g : Nat → Value} (h : w.rowIs c t n f) (k : w.rowIs G u m g) (hn : n ≠ m) : c ≠ G := fun e => by
  subst e
  obtain ⟨c1, h1, h2, _⟩ := h
  obtain ⟨c2, k1, k2, _⟩ := k
  rw [h1] at k1
  cases k1
  omega
theorem Ws.other2 {w0 w w1 : World} {b c g : Nat} {q qb : Q} (h : Ws w0 w b q) (r : Rf w c g qb) (d : c ≠ b ∧ g ≠ b) (lc : w0.heap.size ≤ c) (lg : w0.heap.size ≤ g) (f : Fr w w1 (S2 c g)) : Ws w0 w1 b q := by
  obtain ⟨v, i⟩ := h.i
  have one : ∀ (x : Nat) (y : Int), Cel w b x y → Cel w1 b x y := fun x y hc => ⟨hc.1, row_fr hc.2 f (fun e => by
    rcases e with e | e
    · exact row_ne' hc.2 r.s (by omega) e
    · exact row_ne' hc.2 r.t (by omega) e)⟩
  refine ⟨⟨v, ⟨row_fr i.h.s f (fun e => by rcases e with e | e; exact d.1 e.symm; exact d.2 e.symm), i.h.f0, i.h.f1⟩, fun k hk => ?_⟩, h.bel.trans (f.below h.bel.size (fun k e => by rcases e with e | e; rw [e]; exact lc; rw [e]; exact lg)), h.lo⟩
  have st := i.t k hk
  generalize q.th k = x at *
  cases x with
  | wk cc => obtain ⟨b1, b2, b3, e, h1, h2, h3⟩ := st; exact ⟨b1, b2, b3, e, one _ _ h1, one _ _ h2, one _ _ h3⟩
  | _ => exact st
section
variable {w0 w w1 : World} {b c g : Nat} {qa qb qa' qb' : Q}
theorem Ps.below (h : Ps w0 w b c g qa qb) (f : Below w.heap.size w w1) : Ps w0 w1 b c g qa qb := { h with ws := h.ws.below f, rf := h.rf.below f }
theorem Ps.a (h : Ps w0 w b c g qa qb) (h' : Ws w0 w1 b qa') (f : Fr w w1 (fun j => j = b)) : Ps w0 w1 b c g qa' qb := { h with ws := h', rf := h.rf.frame f h.d.1 h.d.2 }
theorem Ps.r (h : Ps w0 w b c g qa qb) (h' : Rf w1 c g qb') (f : Fr w w1 (S2 c g)) : Ps w0 w1 b c g qa qb' := { h with rf := h', ws := h.ws.other2 h.rf h.d h.lc h.lg f }
end
def mvf (bg : Bool) (k x : Int) (j : Nat) : Value := if j = 0 then .bool bg else if j = 1 then .int .i64 k else .int .i64 x
structure Px (w0 w : World) (b c g : Nat) (qa qb : Q) (B : Nat) (bg : Bool) (k x : Int) : Prop where
  p : Ps w0 w b c g qa qb
  bx : w.rowIs B 37 3 (mvf bg k x)
  nb : B ≠ b ∧ B ≠ c ∧ B ≠ g
section
variable {w0 w w1 : World} {b c g : Nat} {qa qb qa' qb' : Q} {B : Nat} {bg : Bool} {k x : Int}
theorem Px.new (h : Ps w0 w b c g qa qb) (bg : Bool) (k x : Int) : Px w0 (w.alloc (.cells #[.bool bg, .int .i64 k, .int .i64 x] 37)) b c g qa qb w.heap.size bg k x :=
  ⟨h.below ((Below.refl w.heap.size w).alloc (Nat.le_refl _) _), row_new w _ 37 3 _ rfl (fun i hi => by match i, hi with | 0, _ => rfl | 1, _ => rfl | 2, _ => rfl),
    ⟨by have := h.ws.lt; omega, by have := h.rf.s.lt; omega, by have := h.rf.t.lt; omega⟩⟩
theorem Px.c0 (h : Px w0 w b c g qa qb B bg k x) : w.cell? ⟨B, 0, none⟩ = some (.bool bg) := row_val h.bx (by omega) rfl
theorem Px.c1 (h : Px w0 w b c g qa qb B bg k x) : w.cell? ⟨B, 1, none⟩ = some (.int .i64 k) := row_val h.bx (by omega) rfl
theorem Px.c2 (h : Px w0 w b c g qa qb B bg k x) : w.cell? ⟨B, 2, none⟩ = some (.int .i64 x) := row_val h.bx (by omega) rfl
theorem Px.below (h : Px w0 w b c g qa qb B bg k x) (f : Below w.heap.size w w1) : Px w0 w1 b c g qa qb B bg k x := { h with p := h.p.below f, bx := row_below h.bx f h.bx.lt }
theorem px_begin1 (h : Px w0 w b c g qa qb B bg k x) (K o e : Int) (he : begin qa K o = (e, qa')) : Calls Try.prog 11 #[.pointer (some ⟨b, 0, none⟩), .int .i64 K, .int .i64 o] w fun e' w' => e' = .returned (.int .i64 e) ∧ Px w0 w' b c g qa' qb B bg k x := by
  refine (ws_begin h.p.ws K o e he).mono ?_
  rintro e' w' ⟨rfl, h', f⟩
  exact ⟨rfl, h.p.a h' f, row_fr h.bx f h.nb.1, h.nb⟩
theorem px_step1 (h : Px w0 w b c g qa qb B bg k x) (K o e : Int) (he : step qa K = ((o, e), qa')) : Calls Try.prog 12 #[.pointer (some ⟨b, 0, none⟩), .int .i64 K] w fun e' w' => e' = .returned (.tuple #[.int .i64 o, .int .i64 e]) ∧ Px w0 w' b c g qa' qb B bg k x := by
  refine (ws_step h.p.ws K o e he).mono ?_
  rintro e' w' ⟨rfl, h', f⟩
  exact ⟨rfl, h.p.a h' f, row_fr h.bx f h.nb.1, h.nb⟩
theorem px_begin2 (h : Px w0 w b c g qa qb B bg k x) (K o e : Int) (he : begin qb K o = (e, qb')) : Calls Try.prog 16 #[.pointer (some ⟨c, 0, none⟩), .int .i64 K, .int .i64 o] w fun e' w' => e' = .returned (.int .i64 e) ∧ Px w0 w' b c g qa qb' B bg k x := by
  have hc := mbegin_any h.p.rf K o
  unfold Bp at hc
  rw [he] at hc
  refine hc.mono ?_
  rintro e' w' ⟨rfl, h', f⟩
  exact ⟨rfl, h.p.r h' f, row_fr h.bx f (fun e => by rcases e with e | e; exact h.nb.2.1 e; exact h.nb.2.2 e), h.nb⟩
theorem px_step2 (h : Px w0 w b c g qa qb B bg k x) (I : Iv qb) (K o e : Int) (he : step qb K = ((o, e), qb')) : Calls Try.prog 17 #[.pointer (some ⟨c, 0, none⟩), .int .i64 K] w fun e' w' => e' = .returned (.tuple #[.int .i64 o, .int .i64 e]) ∧ Px w0 w' b c g qa qb' B bg k x := by
  have hc := mstep_any h.p.rf I K
  rw [he] at hc
  refine hc.mono ?_
  rintro e' w' ⟨rfl, h', f⟩
  exact ⟨rfl, h.p.r h' f, row_fr h.bx f (fun e => by rcases e with e | e; exact h.nb.2.1 e; exact h.nb.2.2 e), h.nb⟩
end
/-- the script -/
def Mvs (w : World) (a : Option Addr) (len : Nat) (bg : Nat → Bool) (th : Nat → Int) (x : Nat → Int) : Prop :=
  ∀ i, i < len → ∃ b off, a = some ⟨b, off, none⟩ ∧ b < w.heap.size ∧ w.cell? ⟨b, off + i * 3, none⟩ = some (.bool (bg i)) ∧ w.cell? ⟨b, off + i * 3 + 1, none⟩ = some (.int .i64 (th i)) ∧ w.cell? ⟨b, off + i * 3 + 2, none⟩ = some (.int .i64 (x i))
theorem moves_read {H : Type} {enc : TypeId × Value → H} {w : World} {v : Value} {d : DataW H} {p : List MemPlace} (h : DataW.Trod enc Try.prog w 0 (fun _ => true) true 33 v d p) (hv : ∃ a len cap, v = .slice a len cap) :
    ∃ (a : Option Addr) (len cap : Nat) (bg : Nat → Bool) (th x : Nat → Int), v = .slice a len cap ∧ Mvs w a len bg th x ∧ (len = 0 ∨ ∃ el sp, d = .slice el sp ∧ el.length = len) := by
  obtain ⟨a, len, cap, rfl, _, hr, hd0⟩ := slice_reads Try.underlying33 3 (by kernel_rfl) (by omega) h hv
  have key : ∀ i, i < len → ∃ x : Bool × Int × Int, ∃ b off, a = some ⟨b, off, none⟩ ∧ b < w.heap.size ∧ w.cell? ⟨b, off + i * 3, none⟩ = some (.bool x.1) ∧ w.cell? ⟨b, off + i * 3 + 1, none⟩ = some (.int .i64 x.2.1) ∧ w.cell? ⟨b, off + i * 3 + 2, none⟩ = some (.int .i64 x.2.2) := fun i hi => by
    obtain ⟨b, off, cs, n, x, rfl, hb, hlen, hc, hd⟩ := hr i hi
    obtain ⟨xs, n', rfl, _, _, hxs, hf⟩ := DataW.trod_struct Try.underlying37 hd
    have hxl : xs.length = 3 := hxs
    match cs, hlen with
    | [c0, c1, c2], _ =>
      have f0 := hf 0 _ rfl
      have f1 := hf 1 _ rfl
      have f2 := hf 2 _ rfl
      rw [List.getElem?_eq_getElem (by omega)] at f0 f1 f2
      have h4 := cells4
      have h3 := cells3
      simp [h4, h3] at f0 f1 f2
      obtain ⟨b0, e0, _⟩ := DataW.trod_bool Try.underlying4 f0
      obtain ⟨n1, e1, _, _⟩ := DataW.trod_int Try.underlying3 f1
      obtain ⟨n2, e2, _, _⟩ := DataW.trod_int Try.underlying3 f2
      have e0' : c0 = .bool b0 := by simpa using e0
      have e1' : c1 = .int .i64 n1 := by simpa using e1
      have e2' : c2 = .int .i64 n2 := by simpa using e2
      have k0 := hc 0 (by omega)
      have k1 := hc 1 (by omega)
      have k2 := hc 2 (by omega)
      refine ⟨(b0, n1, n2), b, off, rfl, hb, ?_, ?_, ?_⟩
      · rw [← e0']; simpa using k0
      · rw [← e1', show off + i * 3 + 1 = off + (i * 3 + 1) by omega]; simpa using k1
      · rw [← e2', show off + i * 3 + 2 = off + (i * 3 + 2) by omega]; simpa using k2
  obtain ⟨z, hz⟩ := Go.Deep.choose_lt key
  exact ⟨a, len, cap, fun i => (z i).1, fun i => (z i).2.1, fun i => (z i).2.2, rfl, hz, hd0⟩
end Go.Proofs.Ytildpjgjnfiihaa
