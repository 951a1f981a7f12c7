/- The reference's Begin. -/
import Derived.Test.YtcbbjcafgnddcaaM22
namespace Go.Proofs.Ytcbbjcafgnddcaa
open Go.RowKit Go.Shelf
set_option linter.unusedVariables false
set_option linter.unusedSimpArgs false
/-- the blocks with any lists -/
structure Rh (w : World) (c g : Nat) (vv vn : Value) (hd tl : Nat) (th : Nat → T) (lv ln : List Int) : Prop where
  s : w.rowIs c 51 5 (hd5 vv vn hd tl g)
  t : w.rowIs g 48 32 (tc4f th)
  lv : Ls w vv lv
  ln : Ls w vn ln
  cg : c ≠ g
  dv : ∀ k, blk vv = some k → k ≠ c ∧ k ≠ g ∧ blk vn ≠ some k
  dn : ∀ k, blk vn = some k → k ≠ c ∧ k ≠ g ∧ blk vv ≠ some k
theorem Rf.h {w : World} {c g : Nat} {vv vn : Value} {q : Q} (h : Rf w c g vv vn q) : Rh w c g vv vn q.head q.tail q.th (rl q.n q.v) (rl q.n (fun i => (q.nx i : Int))) := ⟨h.s, h.t, h.lv, h.ln, h.cg, h.dv, h.dn⟩
section
variable {w w1 : World} {c g : Nat} {vv vn : Value} {hd tl : Nat} {th : Nat → T} {lv ln : List Int}
theorem Rh.hi (h : Rh w c g vv vn hd tl th lv ln) : ∀ k, S0 c g vv vn k → k < w.heap.size := by
  intro k hk
  rcases hk with rfl | rfl | e | e
  · exact h.s.lt
  · exact h.t.lt
  · exact ls_lt h.lv e
  · exact ls_lt h.ln e
theorem Rh.frame (h : Rh w c g vv vn hd tl th lv ln) {S' : Nat → Prop} (f : Fr w w1 S') (hS : ∀ k, S0 c g vv vn k → ¬ S' k) : Rh w1 c g vv vn hd tl th lv ln :=
  { h with
    s := row_fr h.s f (hS _ (.inl rfl))
    t := row_fr h.t f (hS _ (.inr (.inl rfl)))
    lv := h.lv.of (fun k e hk => f.block k hk (hS _ (.inr (.inr (.inl e)))))
    ln := h.ln.of (fun k e hk => f.block k hk (hS _ (.inr (.inr (.inr e))))) }
theorem Rh.alloc (h : Rh w c g vv vn hd tl th lv ln) (o : Obj) : Rh (w.alloc o) c g vv vn hd tl th lv ln := h.frame (fr_alloc w (fun _ => False) o) (fun _ _ x => x)
/-- a value more -/
theorem Rh.appV (h : Rh w c g vv vn hd tl th lv ln) (ad : Addr) (x : Int) (hx : w.cell? ad = some (.int .i64 x)) (hl : lv.length ≤ 100000) :
    ∃ v' w', (Builtin.append_ #[22, 22] 22 #[vv, .slice (some ad) 1 1]).run Try.prog w = .ok v' w' ∧ Rh (w'.setCell ⟨c, 0, none⟩ v') c g v' vn hd tl th (lv ++ [x]) ln ∧ Fr w w' (S0 c g vv vn) ∧ (∀ k, S0 c g v' vn k → S0 c g vv vn k ∨ w.heap.size ≤ k) ∧ w'.rowIs c 51 5 (hd5 vv vn hd tl g) ∧ w'.rowIs g 48 32 (tc4f th) := by
  obtain ⟨v', w', e1, e2, e3, e4⟩ := ls_append h.lv 22 ad x hx hl
  have hlt := h.hi
  have hnew : ∀ k, blk v' = some k → k ≠ c ∧ k ≠ g ∧ blk vn ≠ some k := fun k hk => by
    rcases e4 k hk with e | e
    · exact h.dv k e
    · refine ⟨fun x => ?_, fun x => ?_, fun x => ?_⟩
      · have := hlt c (.inl rfl); omega
      · have := hlt g (.inr (.inl rfl)); omega
      · have := hlt k (.inr (.inr (.inr x))); omega
  have fc : Fr w' (w'.setCell ⟨c, 0, none⟩ v') (fun b => b = c) := fr_set w' _ c 0 _ rfl
  refine ⟨v', w', e1, ⟨?_, ?_, ?_, ?_, h.cg, hnew, fun k hk => ?_⟩, ⟨e3.os, e3.tape, e3.output, e3.size, fun k hk n => e3.block k hk (fun x => n (.inr (.inr (.inl x))))⟩, fun k hk => ?_, row_fr h.s e3 (fun x => (h.dv c x).1 rfl), row_fr h.t e3 (fun x => (h.dv g x).2.1 rfl)⟩
  · exact ((row_fr h.s e3 (fun x => (h.dv c x).1 rfl)).set 0 v').congr (fun j hj => by match j, hj with | 0, _ => rfl | 1, _ => rfl | 2, _ => rfl | 3, _ => rfl | 4, _ => rfl)
  · exact row_fr (row_fr h.t e3 (fun x => (h.dv g x).2.1 rfl)) fc (Ne.symm h.cg)
  · exact e2.of (fun k hk hs => fc.block k hs (hnew k hk).1)
  · refine (h.ln.of (fun k hk hs => e3.block k hs (h.dn k hk).2.2)).of (fun k hk hs => fc.block k hs (h.dn k hk).1)
  · exact ⟨(h.dn k hk).1, (h.dn k hk).2.1, fun x => (hnew k x).2.2 hk⟩
  · rcases hk with e | e | e | e
    · exact .inl (.inl e)
    · exact .inl (.inr (.inl e))
    · rcases e4 k e with e | e
      · exact .inl (.inr (.inr (.inl e)))
      · exact .inr e
    · exact .inl (.inr (.inr (.inr e)))
theorem Rh.appN (h : Rh w c g vv vn hd tl th lv ln) (ad : Addr) (x : Int) (hx : w.cell? ad = some (.int .i64 x)) (hl : ln.length ≤ 100000) :
    ∃ v' w', (Builtin.append_ #[22, 22] 22 #[vn, .slice (some ad) 1 1]).run Try.prog w = .ok v' w' ∧ Rh (w'.setCell ⟨c, 1, none⟩ v') c g vv v' hd tl th lv (ln ++ [x]) ∧ Fr w w' (S0 c g vv vn) ∧ (∀ k, S0 c g vv v' k → S0 c g vv vn k ∨ w.heap.size ≤ k) ∧ w'.rowIs c 51 5 (hd5 vv vn hd tl g) ∧ w'.rowIs g 48 32 (tc4f th) := by
  obtain ⟨v', w', e1, e2, e3, e4⟩ := ls_append h.ln 22 ad x hx hl
  have hlt := h.hi
  have hnew : ∀ k, blk v' = some k → k ≠ c ∧ k ≠ g ∧ blk vv ≠ some k := fun k hk => by
    rcases e4 k hk with e | e
    · exact h.dn k e
    · refine ⟨fun x => ?_, fun x => ?_, fun x => ?_⟩
      · have := hlt c (.inl rfl); omega
      · have := hlt g (.inr (.inl rfl)); omega
      · have := hlt k (.inr (.inr (.inl x))); omega
  have fc : Fr w' (w'.setCell ⟨c, 1, none⟩ v') (fun b => b = c) := fr_set w' _ c 1 _ rfl
  refine ⟨v', w', e1, ⟨?_, ?_, ?_, ?_, h.cg, fun k hk => ?_, hnew⟩, ⟨e3.os, e3.tape, e3.output, e3.size, fun k hk n => e3.block k hk (fun x => n (.inr (.inr (.inr x))))⟩, fun k hk => ?_, row_fr h.s e3 (fun x => (h.dn c x).1 rfl), row_fr h.t e3 (fun x => (h.dn g x).2.1 rfl)⟩
  · exact ((row_fr h.s e3 (fun x => (h.dn c x).1 rfl)).set 1 v').congr (fun j hj => by match j, hj with | 0, _ => rfl | 1, _ => rfl | 2, _ => rfl | 3, _ => rfl | 4, _ => rfl)
  · exact row_fr (row_fr h.t e3 (fun x => (h.dn g x).2.1 rfl)) fc (Ne.symm h.cg)
  · refine (h.lv.of (fun k hk hs => e3.block k hs (h.dv k hk).2.2)).of (fun k hk hs => fc.block k hs (h.dv k hk).1)
  · exact e2.of (fun k hk hs => fc.block k hs (hnew k hk).1)
  · exact ⟨(h.dv k hk).1, (h.dv k hk).2.1, fun x => (hnew k x).2.2 hk⟩
  · rcases hk with e | e | e | e
    · exact .inl (.inl e)
    · exact .inl (.inr (.inl e))
    · exact .inl (.inr (.inr (.inl e)))
    · rcases e4 k e with e | e
      · exact .inl (.inr (.inr (.inr e)))
      · exact .inr e
end
/-- what a call may have turned of the reference -/
structure Nr (w w' : World) (S S' : Nat → Prop) : Prop where
  fr : Fr w w' S
  new : ∀ k, S' k → S k ∨ w.heap.size ≤ k
def bxf (t : T) (j : Nat) : Value := if j = 0 then .bool t.on else if j = 1 then .int .i64 t.made else if j = 2 then .int .i64 t.node else .int .i64 t.prev
set_option maxRecDepth 100000 in
set_option maxHeartbeats 2000000 in
theorem mbegin_any {w : World} {c g : Nat} {vv vn : Value} {q : Q} (h : Rf w c g vv vn q) (V : Val q) (k v : Int) : Calls Try.prog 17 #[.pointer (some ⟨c, 0, none⟩), .int .i64 k, .int .i64 v] w fun e w' => e = .returned (.int .i64 (begin q k v).1) ∧ ∃ vv' vn', Rf w' c g vv' vn' (begin q k v).2 ∧ Nr w w' (S0 c g vv vn) (S0 c g vv' vn') := by
  by_cases h1 : k < 0 ∨ 8 ≤ k
  · have e : begin q k v = (1, q) := by unfold begin; rw [if_pos h1]
    rw [e]
    have H := Lib.hid h
    clear h e
    rcases h1 with h1 | h1
    · go_enter Try.func17, Try.ntmps17
      go_wp2
      go_ret
      exact ⟨rfl, _, _, H.out, Fr.refl _ _, fun _ h => .inl h⟩
    · have h2 : ¬ k < 0 := by omega
      go_enter Try.func17, Try.ntmps17
      go_wp2
      go_ret
      exact ⟨rfl, _, _, H.out, Fr.refl _ _, fun _ h => .inl h⟩
  · obtain ⟨n, rfl⟩ : ∃ n : Nat, k = n := ⟨k.toNat, by omega⟩
    have hn : n < 8 := by omega
    have hk0 : ¬ (n : Int) < 0 := by omega
    have hk8 : ¬ (8 : Int) ≤ n := by omega
    have hi0 : (0 : Int) ≤ n := by omega
    have hi8 : (n : Int) < 8 := by omega
    have t0 := h.t0 n hn
    have c4 := h.c4
    have fg := h.fg (n * 4)
    have fc := h.fc 4
    by_cases h2 : (q.th n).on = true
    · have e : begin q n v = (14, q) := by unfold begin; rw [if_neg h1, if_pos (by simpa using h2)]
      rw [e]
      rw [h2] at t0
      have H := Lib.hid h
      clear h e h1 h2
      go_enter Try.func17, Try.ntmps17
      go_wp2
      go_ret
      exact ⟨rfl, _, _, H.out, Fr.refl _ _, fun _ h => .inl h⟩
    · have h2' : (q.th n).on = false := by simpa using h2
      rw [h2'] at t0
      have c0 := h.c0
      obtain ⟨av, cv, hvv⟩ := h.nv
      rw [hvv] at c0
      have hlc := h.s.lt
      have hlg := h.t.lt
      have t1 := h.t1 n hn
      have t2 := h.t2 n hn
      have t3 := h.t3 n hn
      have f1 := h.fg (n * 4 + 1)
      have f2 := h.fg (n * 4 + 2)
      have f3 := h.fg (n * 4 + 3)
      have hz := zero48
      by_cases h3 : n = 0
      · have e : begin q n v = (0, q.set n { on := true }) := by
          unfold begin; rw [if_neg h1, if_neg (by simpa using h2), if_pos (by omega), h3]
        rw [e]
        have hng : ¬ (0 : Int) < n := by omega
        have H := Lib.hid h
        clear h e h1 h2 h2' hvv h3
        go_enter Try.func17, Try.ntmps17
        go_wp2
        go_region
        go_wp2
        go_ret
        exact ⟨rfl, _, _, ((H.out.set4 n hn { on := true }).alloc _).same rfl, ((fr_set4 w g n { on := true } _ (.inr (.inl rfl))).trans' (fr_alloc _ _ _)).trans' (fr_drew _ _), fun _ h => .inl h⟩
      · have hng : (0 : Int) < n := by omega
        have hq2 := V.n2
        have hq1 := V.n1
        by_cases h4 : q.n = 65537
        · have e : begin q n v = (3, q) := by
            unfold begin; rw [if_neg h1, if_neg (by simpa using h2), if_neg (by omega), if_pos h4]
          rw [e]
          rw [h4] at c0
          have H := Lib.hid h
          clear h e h1 h2 h2' hvv h3 h4
          go_enter Try.func17, Try.ntmps17
          go_wp2
          go_ret
          exact ⟨rfl, _, _, H.out, Fr.refl _ _, fun _ h => .inl h⟩
        · have e : begin q n v = (0, addN q v n) := by
            unfold begin; rw [if_neg h1, if_neg (by simpa using h2), if_neg (by omega), if_neg h4]; rfl
          rw [e]
          have h5 : ¬ (65536 : Int) < q.n := by omega
          have hq63 : q.n ≤ 100000 := by omega
          have hb0 := row_new w #[.bool true, .int .i64 0, .int .i64 q.n, .int .i64 0] 48 4 (bxf { on := true, node := q.n }) rfl (fun i hi => by match i, hi with | 0, _ => rfl | 1, _ => rfl | 2, _ => rfl | 3, _ => rfl)
          have hR1 := h.h.alloc (.cells #[.bool true, .int .i64 0, .int .i64 q.n, .int .i64 0] 48)
          have hR2 := hR1.alloc (.cells #[.int .i64 v] 2)
          obtain ⟨v8, w8, h8, r8, f8, n8, rc8, rg8⟩ := hR2.appV ⟨w.heap.size + 1, 0, none⟩ v (by
            have := (Boxed.new (w.alloc (.cells #[.bool true, .int .i64 0, .int .i64 q.n, .int .i64 0] 48)) 2 (.int .i64 v)).cell
            rw [World.size_alloc] at this
            exact this) (by rw [rl_len]; omega)
          obtain ⟨a8, n8', p8, hv8⟩ : ∃ a n p, v8 = .slice a n p := by obtain ⟨a, p, e⟩ := ls_slice r8.lv; exact ⟨_, _, _, e⟩
          subst hv8
          have hs8 := f8.size
          rw [World.size_alloc, World.size_alloc] at hs8 n8
          have hB := h.hi
          have hb8 := row_fr (hb0.alloc (.cells #[.int .i64 v] 2)) f8 (fun x => by have := hB _ x; omega)
          have hS9 : (w8.setCell ⟨c, 0, none⟩ (.slice a8 n8' p8)).heap.size = w8.heap.size := World.size_setCell _ _ _
          have hR3 := r8.alloc (.cells #[.int .i64 0] 2)
          obtain ⟨v9, w9, h9, r9, f9, n9, rc9, rg9⟩ := hR3.appN ⟨w8.heap.size, 0, none⟩ 0 (by
            have := (Boxed.new (w8.setCell ⟨c, 0, none⟩ (.slice a8 n8' p8)) 2 (.int .i64 0)).cell
            rw [hS9] at this
            exact this) (by rw [rl_len]; omega)
          obtain ⟨a9, n9', p9, hv9⟩ : ∃ a n p, v9 = .slice a n p := by obtain ⟨a, p, e⟩ := ls_slice r9.ln; exact ⟨_, _, _, e⟩
          subst hv9
          have hs9 := f9.size
          rw [World.size_alloc, hS9] at hs9 n9
          have hb9 := row_fr ((hb8.setOther (a := ⟨c, 0, none⟩) (by show w.heap.size ≠ c; omega) _).alloc (.cells #[.int .i64 0] 2)) f9 (fun x => by rcases n8 _ x with y | y; have := hB _ y; omega; omega)
          have c08 : w8.cell? ⟨c, 0, none⟩ = some vv := row_val rc8 (i := 0) (by omega) rfl
          have z08 := World.rowIs.frozen rc8 0
          have c18 : w8.cell? ⟨c, 1, none⟩ = some vn := row_val rc8 (i := 1) (by omega) rfl
          have c19 : w9.cell? ⟨c, 1, none⟩ = some vn := row_val rc9 (i := 1) (by omega) rfl
          have z19 := World.rowIs.frozen rc9 1
          have c49 : w9.cell? ⟨c, 4, none⟩ = some (.slice (some ⟨g, 0, none⟩) 8 8) := row_val rc9 (i := 4) (by omega) rfl
          have R9 : Rf (w9.setCell ⟨c, 1, none⟩ (.slice a9 n9' p9)) c g (.slice a8 n8' p8) (.slice a9 n9' p9) { n := q.n + 1, v := fun i => if i = q.n then v else q.v i, nx := fun i => if i = q.n then 0 else q.nx i, head := q.head, tail := q.tail, th := q.th } := by
            refine ⟨r9.s, r9.t, ?_, ?_, r9.cg, r9.dv, r9.dn⟩
            · have := r9.lv
              rw [rl_snoc] at this
              exact this
            · have := r9.ln
              rw [rl_snoc] at this
              have e : rl (q.n + 1) (fun j => if j = q.n then (0 : Int) else (q.nx j : Int)) = rl (q.n + 1) (fun j => ((if j = q.n then 0 else q.nx j : Nat) : Int)) := rl_congr (fun j _ => by split <;> rfl)
              rw [e] at this
              exact this
          have hw9 := Fr.mk (w := w) (w' := w9) (S := S0 c g vv vn) (by rw [f9.os]; exact f8.os) (by rw [f9.tape]; exact f8.tape) (by rw [f9.output]; exact f8.output) (by omega) (fun k hk hn => by
            rw [f9.block k (by rw [World.size_alloc, hS9]; omega) (fun x => by rcases n8 k x with y | y; exact hn y; omega)]
            rw [Below.heap_alloc _ _ k (by rw [hS9]; omega), Below.heap_setCell _ _ _ _ (show k ≠ c from fun e => hn (.inl e))]
            rw [f8.block k (by rw [World.size_alloc, World.size_alloc]; omega) hn]
            rw [Below.heap_alloc _ _ k (by rw [World.size_alloc]; omega), Below.heap_alloc _ _ k hk])
          have hn9 : ∀ k, S0 c g (.slice a8 n8' p8) (.slice a9 n9' p9) k → S0 c g vv vn k ∨ w.heap.size ≤ k := fun k hk => by
            rcases n9 k hk with y | y
            · rcases n8 k y with z | z
              · exact .inl z
              · right; omega
            · right; omega
          have g09 := row_val rg9 (i := n * 4) (by omega) rfl
          have g19 := row_val rg9 (i := n * 4 + 1) (by omega) rfl
          have g29 := row_val rg9 (i := n * 4 + 2) (by omega) rfl
          have g39 := row_val rg9 (i := n * 4 + 3) (by omega) rfl
          have y09 := World.rowIs.frozen rg9 (n * 4)
          have y19 := World.rowIs.frozen rg9 (n * 4 + 1)
          have y29 := World.rowIs.frozen rg9 (n * 4 + 2)
          have y39 := World.rowIs.frozen rg9 (n * 4 + 3)
          have b09 : w9.cell? ⟨w.heap.size, 0, none⟩ = some (.bool true) := row_val hb9 (i := 0) (by omega) rfl
          have b19 : w9.cell? ⟨w.heap.size, 1, none⟩ = some (.int .i64 0) := row_val hb9 (i := 1) (by omega) rfl
          have b29 : w9.cell? ⟨w.heap.size, 2, none⟩ = some (.int .i64 q.n) := row_val hb9 (i := 2) (by omega) rfl
          have b39 : w9.cell? ⟨w.heap.size, 3, none⟩ = some (.int .i64 0) := row_val hb9 (i := 3) (by omega) rfl
          have hcg := h.cg
          have hcB : c ≠ w.heap.size := by omega
          have hgB : g ≠ w.heap.size := by omega
          have H := Lib.hid h
          have HR := Lib.hid R9
          have HF := Lib.hid hw9
          have HN := Lib.hid hn9
          have H8 := Lib.hid h8
          have H9 := Lib.hid h9
          have H5 := Lib.hid (And.intro h3 h4)
          have hl9 : c < w9.heap.size := rc9.lt
          have hl8 : c < w8.heap.size := rc8.lt
          have hgl9 : g < w9.heap.size := rg9.lt
          have hBl9 : w.heap.size < w9.heap.size := hb9.lt
          clear h e h1 h2 h2' h3 h4 V hq1 hq2 hb0 hR1 hR2 h8 r8 f8 n8 rc8 rg8 hs8 hB hb8 hS9 hR3 h9 r9 f9 n9 rc9 rg9 hs9 hb9 R9 hw9 hn9
          clear f1 f2 f3 t1 t2 t3
          subst hvv
          generalize hNe : q.n = N at *
          have HNe := Lib.hid hNe
          clear hNe hq63
          generalize tc4f q.th (n * 4) = u0 at *
          generalize tc4f q.th (n * 4 + 1) = u1 at *
          generalize tc4f q.th (n * 4 + 2) = u2 at *
          generalize tc4f q.th (n * 4 + 3) = u3 at *
          generalize hBx : w.heap.size = Bx at *
          go_enter Try.func17, Try.ntmps17
          go_wp2_with (first
            | (at_builtin; refine wpList_append_run rfl _ _ 22 rfl _ _ rfl rfl _ w8 H8.out ?_)
            | (at_builtin; refine wpList_append_run rfl _ _ 22 rfl _ _ rfl rfl _ w9 H9.out ?_))
          go_region
          go_wp2
          go_ret
          have e : addN q v n = ({ n := N + 1, v := fun i => if i = N then v else q.v i, nx := fun i => if i = N then 0 else q.nx i, head := q.head, tail := q.tail, th := q.th } : Q).set n { on := true, node := N } := by
            unfold addN Q.set
            rw [HNe.out]
          rw [e]
          exact ⟨rfl, _, _, (HR.out.set4 n hn { on := true, node := N }).same rfl, ((HF.out.trans' (fr_set _ _ c 1 _ (.inl rfl))).trans' (fr_set4 _ g n { on := true, node := N } _ (.inr (.inl rfl)))).trans' (fr_drew _ _), fun k hk => by rw [hBx]; exact HN.out k hk⟩
end Go.Proofs.Ytcbbjcafgnddcaa
