/- The queue behind a world: its methods so; lives; MpscNil. -/
import Derived.Test.YtcbbjcafgnddcaaM8
namespace Go.Proofs.Ytcbbjcafgnddcaa
open Go.RowKit Go.Shelf
set_option linter.unusedVariables false
set_option linter.unusedSimpArgs false
theorem coll_is (p0 : Option Addr) (xs : List Int) (w : World) (hL : Gives w p0 xs) :
    Calls Try.prog 14 #[.pointer p0] w fun e W' => ∃ a cap, e = .returned (.slice a xs.length cap) ∧ Own W' w.heap.size (.slice a xs.length cap) xs ∧ Below w.heap.size w W' := by
  refine (coll_any p0 xs w hL).mono ?_
  rintro e W' ⟨v, rfl, h, g⟩
  obtain ⟨a, cap, rfl⟩ : ∃ a cap, v = .slice a xs.length cap := by
    rcases h.2 with ⟨h2, h3⟩ | ⟨s, cap, cur, e, _⟩
    · exact ⟨none, 0, by rw [h2, h3]⟩
    · exact ⟨_, _, e⟩
  exact ⟨a, cap, rfl, h, g⟩
/-- from w to w' only S turned; S' is S and some of what is new -/
structure Nx (w w' : World) (S S' : Nat → Prop) : Prop where
  fr : Fr w w' S
  old : ∀ k, k < w.heap.size → S' k → S k
theorem row_nx {w w' : World} {S S' : Nat → Prop} {k : Nat} {t : TypeId} {n : Nat} {f : Nat → Value} (h : w.rowIs k t n f) (hs : ¬ S k) (g : Nx w w' S S') : w'.rowIs k t n f ∧ ¬ S' k :=
  ⟨row_fr h g.fr hs, fun x => hs (g.old k h.lt x)⟩
/-- the queue in block b, all its blocks in S, behind w0 -/
structure Qs (w0 w : World) (b : Nat) (S : Nat → Prop) (q : Q) : Prop where
  i : ∃ nd f, IsQ w b S q nd f
  V : Val q
  bel : Below w0.heap.size w0 w
  lo : ∀ k, S k → w0.heap.size ≤ k
  hi : ∀ k, S k → k < w.heap.size
section
variable {w0 w w1 : World} {b : Nat} {S : Nat → Prop} {q : Q}
theorem Qs.lt (h : Qs w0 w b S q) : b < w.heap.size := by obtain ⟨nd, f, i⟩ := h.i; exact i.r.lt
theorem Qs.new (h : Qs w0 w b S q) : ¬ S w.heap.size := fun x => by have := h.hi _ x; omega
theorem Qs.below (h : Qs w0 w b S q) (g : Below w.heap.size w w1) : Qs w0 w1 b S q := by
  obtain ⟨nd, f, i⟩ := h.i
  exact ⟨⟨nd, f, i.below g⟩, h.V, h.bel.trans (g.mono h.bel.size), h.lo, fun k hk => Nat.lt_of_lt_of_le (h.hi k hk) g.size⟩
theorem Qs.drewN (h : Qs w0 w b S q) (n : Nat) : Qs w0 (w.drewN n) b S q := h.below (gb_below (gb_drewN w n none) (Nat.le_refl _) (fun k e => by cases e))
theorem Qs.drew (h : Qs w0 w b S q) : Qs w0 w.drew b S q := h.below (gb_below (gb_drew w none) (Nat.le_refl _) (fun k e => by cases e))
theorem Qs.alloc (h : Qs w0 w b S q) (o : Obj) : Qs w0 (w.alloc o) b S q := h.below ((Below.refl w.heap.size w).alloc (Nat.le_refl _) o)
/-- a store into what is not the queue's -/
theorem Qs.set (h : Qs w0 w b S q) {k : Nat} (hk : ¬ S k) (hl : w0.heap.size ≤ k) (o : Nat) (v : Value) : Qs w0 (w.setCell ⟨k, o, none⟩ v) b S q := by
  obtain ⟨nd, f, i⟩ := h.i
  exact ⟨⟨nd, f, ⟨i.r.other hk o v, i.t⟩⟩, h.V, h.bel.trans (gb_below (gb_set w k o v) h.bel.size (fun j e => by cases e; exact hl)), h.lo, fun k hk => by rw [World.size_setCell]; exact h.hi k hk⟩
theorem q_new (hb : Below w0.heap.size w0 w) : Calls Try.prog 10 #[] w fun e w' => ∃ b S, e = .returned (.pointer (some ⟨b, 0, none⟩)) ∧ Qs w0 w' b S Q0 := by
  refine (new_any w).mono ?_
  rintro e w' ⟨rfl, h, g⟩
  refine ⟨_, _, rfl, ⟨⟨_, _, ⟨h.r.tight, h.t⟩⟩, val0, hb.trans (gb_below g hb.size (fun k e => by cases e)), fun k hk => Nat.le_trans hb.size (h.r.sub k hk), fun k hk => ?_⟩⟩
  rcases hk with rfl | ⟨i, hi, rfl⟩
  · exact h.r.lt
  · exact h.r.ltN i hi
theorem q_begin (h : Qs w0 w b S q) (k v e : Int) (q' : Q) (he : begin q k v = (e, q')) : Calls Try.prog 11 #[.pointer (some ⟨b, 0, none⟩), .int .i64 k, .int .i64 v] w fun e' w' => e' = .returned (.int .i64 e) ∧ ∃ S', Qs w0 w' b S' q' ∧ Nx w w' S S' := by
  obtain ⟨nd, f, i⟩ := h.i
  have hV := val_begin h.V k v
  have hc := begin_any i h.V k v
  rw [he] at hV hc
  refine hc.mono ?_
  rintro e' w' ⟨rfl, nd', f', i', g⟩
  refine ⟨rfl, ext S w w', ⟨⟨nd', f', i'⟩, hV, h.bel.trans (g.below h.bel.size h.lo), fun k hk => hk.elim (h.lo k) (fun x => Nat.le_trans h.bel.size x.1), fun k hk => hk.elim (fun x => Nat.lt_of_lt_of_le (h.hi k x) g.size) (fun x => x.2)⟩, g, fun k hk x => x.elim id (fun y => by omega)⟩
theorem q_step (h : Qs w0 w b S q) (k : Int) (o t : Bool) (v e c : Int) (q' : Q) (he : step q k = (({ over := o, take := t, v := v, err := e }, c), q')) : Calls Try.prog 12 #[.pointer (some ⟨b, 0, none⟩), .int .i64 k] w fun e' w' => e' = .returned (.tuple #[.agg #[.bool o, .bool t, .int .i64 v, .int .i64 e], .int .i64 c]) ∧ Qs w0 w' b S q' ∧ Nx w w' S S := by
  obtain ⟨nd, f, i⟩ := h.i
  have hV := val_step h.V k
  have hc := step_any i h.V k
  rw [he] at hV hc
  refine hc.mono ?_
  rintro e' w' ⟨rfl, ⟨f', i'⟩, g⟩
  exact ⟨rfl, ⟨⟨nd, f', i'⟩, hV, h.bel.trans (g.below h.bel.size h.lo), h.lo, fun k hk => Nat.lt_of_lt_of_le (h.hi k hk) g.size⟩, g, fun k _ x => x⟩
theorem q_busy (h : Qs w0 w b S q) (k : Int) (o : Bool) (ho : o = (decide (0 ≤ k ∧ k < 8) && (q.th k.toNat).on)) : Calls Try.prog 19 #[.pointer (some ⟨b, 0, none⟩), .int .i64 k] w fun e w' => e = .returned (.bool o) ∧ w' = w := by
  obtain ⟨nd, f, i⟩ := h.i
  exact busy_any i k o ho
theorem Qs.gives (h : Qs w0 w b S q) {r : List Nat} (I : Inv q r) : Gives w (some ⟨b, 0, none⟩) ((lnk q q.tail r).map q.v) := by
  obtain ⟨nd, f, i⟩ := h.i
  exact I.gives i.r h.V
end
def L1 : Q := (begin Q0 3 7).2
def L2 : Q := (step L1 3).2
def L3 : Q := (step L2 3).2
def L4 : Q := (begin L3 0 0).2
def L5 : Q := (step L4 0).2
def L6 : Q := (step L5 0).2
def L7 : Q := (step L6 3).2
theorem inv7 : ∃ r, Inv L7 r ∧ (lnk L7 L7.tail r).length = 1 := by
  have V1 : Val L1 := val_begin val0 3 7
  have I1 : Inv L1 [] := inv_begin val0 inv0 3 7
  have V2 : Val L2 := val_step V1 3
  have I2 : Inv L2 [] := inv_put0 I1 V1 3 (by decide) (by decide) rfl rfl
  have V3 : Val L3 := val_step V2 3
  have I3 : Inv L3 [1] := inv_put1 I2 V2 3 (by decide) (by decide) rfl rfl
  have V4 : Val L4 := val_begin V3 0 0
  have I4 : Inv L4 [1] := inv_begin V3 I3 0 0
  have V5 : Val L5 := val_step V4 0
  have I5 : Inv L5 [1] := inv_take0 I4 rfl
  have V6 : Val L6 := val_step V5 0
  have I6 : Inv L6 [1] := inv_takeE I5 rfl rfl
  have I7 : Inv L7 [1] := inv_put2 I6 V6 3 (by decide) (by decide) rfl rfl
  exact ⟨[1], I7, rfl⟩
set_option maxRecDepth 100000 in
set_option maxHeartbeats 4000000 in
theorem lives_any (w : World) : Calls Try.prog 9 #[] w fun e w' => e = .returned (.bool true) ∧ Below w.heap.size w w' := by
  obtain ⟨r7, I7, hl7⟩ := inv7
  have hz := zero29
  go_enter Try.func9, Try.ntmps9
  go_wp2_with fail
  refine (q_new (Below.refl _ w)).mono ?_
  rintro e w1 ⟨b, S, rfl, h1⟩
  go_wp2_with fail
  refine (q_begin h1 3 7 0 L1 rfl).mono ?_
  rintro e w2 ⟨rfl, S2, h2, _⟩
  go_wp2_with fail
  refine (q_step h2 3 false false 0 0 0 L2 rfl).mono ?_
  rintro e w3 ⟨rfl, h3, _⟩
  go_wp2_with fail
  refine (q_step h3 3 false false 0 0 0 L3 rfl).mono ?_
  rintro e w4 ⟨rfl, h4, _⟩
  go_wp2_with fail
  refine (q_begin h4 0 0 0 L4 rfl).mono ?_
  rintro e w5 ⟨rfl, S5, h5, _⟩
  go_wp2_with fail
  refine (q_step h5 0 false false 0 0 0 L5 rfl).mono ?_
  rintro e w6 ⟨rfl, h6, _⟩
  go_wp2_with fail
  refine (q_step h6 0 true true 0 14 0 L6 rfl).mono ?_
  rintro e w7 ⟨rfl, h7, _⟩
  have bx := row_new w7 #[.bool true, .bool true, .int .i64 0, .int .i64 14] 29 4 (fun i => if i < 2 then .bool true else if i = 2 then .int .i64 0 else .int .i64 14) rfl (fun i hi => by match i, hi with | 0, _ => rfl | 1, _ => rfl | 2, _ => rfl | 3, _ => rfl)
  have hn7 := h7.new
  clear h1 h2 h3 h4 h5 h6
  go_wp2_with fail
  refine (q_step (h7.alloc _) 3 true false 7 0 0 L7 rfl).mono ?_
  rintro e w8 ⟨rfl, h8, g8⟩
  have bx8 := (row_nx bx hn7 g8).1
  have c0 := row_val bx8 (i := 0) (v := .bool true) (by omega) rfl
  have c1 := row_val bx8 (i := 1) (v := .bool true) (by omega) rfl
  have c2 := row_val bx8 (i := 2) (v := .int .i64 0) (by omega) rfl
  have c3 := row_val bx8 (i := 3) (v := .int .i64 14) (by omega) rfl
  have hlt := bx8.lt
  clear h7 bx hn7 g8 bx8
  generalize w7.heap.size = B7 at *
  have H9 := h8.alloc (.cells #[.bool true, .bool false, .int .i64 7, .int .i64 0] 29)
  have HC := Lib.hid (coll_is _ _ _ (H9.gives I7))
  have e7 : ((lnk L7 L7.tail r7).map L7.v).length = 1 := by simp [hl7]
  rw [e7] at HC
  have H9' := Lib.hid H9
  clear H9 I7 hl7 e7
  go_wp2_with fail
  refine HC.out.mono ?_
  rintro e w9 ⟨a, cap, rfl, _, g9⟩
  have HB := Lib.hid (H9'.out.bel.trans (g9.mono H9'.out.bel.size))
  go_wp2
  go_ret
  exact ⟨rfl, HB.out⟩
theorem begin_nil (k v : Int) (w : World) : Calls Try.prog 11 #[.pointer none, .int .i64 k, .int .i64 v] w fun e w' => e = .returned (.int .i64 1) ∧ w' = w := by
  go_enter Try.func11, Try.ntmps11
  go_wp2_with fail
  refine (thread_nil _ _).mono ?_
  rintro e w' ⟨rfl, rfl⟩
  go_wp2
  go_ret
  exact ⟨rfl, rfl⟩
theorem step_nil (k : Int) (w : World) : Calls Try.prog 12 #[.pointer none, .int .i64 k] w fun e w' => e = .returned (.tuple #[.agg #[.bool false, .bool false, .int .i64 0, .int .i64 0], .int .i64 1]) ∧ Below w.heap.size w w' := by
  have hz := zero29
  go_enter Try.func12, Try.ntmps12
  go_wp2_with fail
  refine (thread_nil _ _).mono ?_
  rintro e w' ⟨rfl, rfl⟩
  go_wp2
  go_returns
  exact ⟨rfl, (Below.refl _ _).alloc (Nat.le_refl _) _⟩
theorem busy_nil (k : Int) (w : World) : Calls Try.prog 19 #[.pointer none, .int .i64 k] w fun e w' => e = .returned (.bool false) ∧ w' = w := by
  go_enter Try.func19, Try.ntmps19
  go_wp2_with fail
  refine (thread_nil _ _).mono ?_
  rintro e w' ⟨rfl, rfl⟩
  go_wp2
  go_ret
  exact ⟨rfl, rfl⟩
set_option maxRecDepth 100000 in
set_option maxHeartbeats 4000000 in
theorem nil_any (bg : Bool) (t v : Int) (w : World) : Calls Try.prog 7 #[.agg #[.bool bg, .int .i64 t, .int .i64 v]] w fun e w' => e = .returned (.bool true) ∧ Below w.heap.size w w' := by
  have hz := zero29
  go_enter Try.func7, Try.ntmps7
  go_wp2_with fail
  have bx0 := row_new w #[.bool bg, .int .i64 t, .int .i64 v] 42 3 (fun i => if i = 0 then .bool bg else if i = 1 then .int .i64 t else .int .i64 v) rfl (fun i hi => by match i, hi with | 0, _ => rfl | 1, _ => rfl | 2, _ => rfl)
  have B0 := (Below.refl w.heap.size w).alloc (Nat.le_refl _) (.cells #[.bool bg, .int .i64 t, .int .i64 v] 42)
  generalize w.alloc (.cells #[.bool bg, .int .i64 t, .int .i64 v] 42) = W0 at *
  refine (lives_any W0).mono ?_
  rintro e w1 ⟨rfl, g1⟩
  have bx1 := row_below bx0 g1 bx0.lt
  have B1 := B0.trans (g1.mono B0.size)
  clear bx0 B0 g1
  have c1 := row_val bx1 (i := 1) (v := .int .i64 t) (by omega) rfl
  go_wp2_with fail
  refine (step_nil _ _).mono ?_
  rintro e w2 ⟨rfl, g2⟩
  have bx2 := (row_below bx1 g2 bx1.lt).alloc (.cells #[.bool false, .bool false, .int .i64 0, .int .i64 0] 29)
  have B2 := (B1.trans (g2.mono B1.size)).alloc (Nat.le_trans B1.size g2.size) (.cells #[.bool false, .bool false, .int .i64 0, .int .i64 0] 29)
  have r2 := row_new w2 #[.bool false, .bool false, .int .i64 0, .int .i64 0] 29 4 (fun i => if i < 2 then .bool false else .int .i64 0) rfl (fun i hi => by match i, hi with | 0, _ => rfl | 1, _ => rfl | 2, _ => rfl | 3, _ => rfl)
  clear c1 bx1 B1 g2
  have c1 := row_val bx2 (i := 1) (v := .int .i64 t) (by omega) rfl
  have c2 := row_val bx2 (i := 2) (v := .int .i64 v) (by omega) rfl
  have s0 := row_val r2 (i := 0) (v := .bool false) (by omega) rfl
  have s1 := row_val r2 (i := 1) (v := .bool false) (by omega) rfl
  have s2 := row_val r2 (i := 2) (v := .int .i64 0) (by omega) rfl
  have s3 := row_val r2 (i := 3) (v := .int .i64 0) (by omega) rfl
  clear bx2 r2
  go_wp2_with fail
  generalize w2.alloc (.cells #[.bool false, .bool false, .int .i64 0, .int .i64 0] 29) = W2 at *
  generalize w2.heap.size = P2 at *
  have HB2 := Lib.hid B2
  clear B2
  refine (begin_nil _ _ _).mono ?_
  rintro e w' ⟨rfl, rfl⟩
  go_wp2_with fail
  refine (busy_nil _ _).mono ?_
  rintro e w' ⟨rfl, rfl⟩
  go_wp2_with fail
  refine (coll_is none [] _ (.inl ⟨rfl, rfl⟩)).mono ?_
  rintro e w3 ⟨a, cap, rfl, _, g3⟩
  go_wp2
  go_ret
  exact ⟨rfl, HB2.out.trans (g3.mono HB2.out.size)⟩
end Go.Proofs.Ytcbbjcafgnddcaa
