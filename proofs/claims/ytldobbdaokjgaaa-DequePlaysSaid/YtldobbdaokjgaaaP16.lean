/- DequeAlone's walk. -/
import Derived.Test.YtldobbdaokjgaaaP14
namespace Go.Proofs.Ytldobbdaokjgaaa
open Go.RowKit Go.ChangeShapes Go.WideShapes Go.Deep
set_option linter.unusedVariables false
set_option linter.unusedSimpArgs false
/-- the truths that came in -/
def Bls (w : World) (a : Option Addr) (len : Nat) (z : Nat → Bool) : Prop :=
  ∀ i, i < len → ∃ b off, a = some ⟨b, off, none⟩ ∧ b < w.heap.size ∧ w.cell? ⟨b, off + i, none⟩ = some (.bool (z i))
theorem bools_read {H : Type} {enc : TypeId × Value → H} {w : World} {v : Value} {d : DataW H} {p : List MemPlace} (h : DataW.Trod enc Try.prog w 0 (fun _ => true) true 26 v d p) (hv : ∃ a len cap, v = .slice a len cap) :
    ∃ (a : Option Addr) (len cap : Nat) (z : Nat → Bool), v = .slice a len cap ∧ Bls w a len z ∧ (len = 0 ∨ ∃ el sp, d = .slice el sp ∧ el.length = len) := by
  obtain ⟨a, len, cap, rfl, _, hr, hd0⟩ := slice_reads Try.underlying26 1 (by kernel_rfl) (by omega) h hv
  have key : ∀ i, i < len → ∃ x : Bool, ∃ b off, a = some ⟨b, off, none⟩ ∧ b < w.heap.size ∧ w.cell? ⟨b, off + i, none⟩ = some (.bool x) := fun i hi => by
    obtain ⟨b, off, cs, n, x, rfl, hb, hlen, hc, hd⟩ := hr i hi
    obtain ⟨m, rfl, _⟩ := DataW.trod_bool Try.underlying4 hd
    refine ⟨m, b, off, rfl, hb, ?_⟩
    have := hc 0 (by omega)
    simpa using this
  obtain ⟨z, hz⟩ := Go.Deep.choose_lt key
  exact ⟨a, len, cap, z, rfl, hz, hd0⟩
/-- an operation of the owner's under way, or over -/
structure Mid (isP : Bool) (v : Int) (L0 : List Int) (q : Q) (L : List Int) (tk : Option Int) (k : Nat) : Prop where
  nx : (q.th 0).nx ≠ .no
  m : k + meas (q.th 0).nx ≤ 6
  p : isP = true → pvOf q = some v ∧ pushing (q.th 0).nx = true ∧ L = L0 ∧ tk = none
  n : isP = false → pvOf q = none ∧ popping (q.th 0).nx = true ∧ ((L = L0 ∧ tk = none) ∨ ∃ y, L0 = L ++ [y] ∧ tk = some y)
structure Fin' (isP : Bool) (v : Int) (L0 : List Int) (q : Q) (L : List Int) (d : D) : Prop where
  o : d.over = true
  nx : (q.th 0).nx = .no
  p : isP = true → d.op = 0 ∧ ((L0.length = q.n ∧ d.err = 7 ∧ L = L0) ∨ (L0.length ≠ q.n ∧ d.err = 0 ∧ L = L0 ++ [v]))
  n : isP = false → d.op = 1 ∧ ((L0 = [] ∧ d.err = 8 ∧ L = []) ∨ ∃ y, L0 = L ++ [y] ∧ d.err = 0 ∧ d.v = y)
def Al (isP : Bool) (v : Int) (L0 : List Int) (q : Q) (L : List Int) (tk : Option Int) (d : D) (k : Nat) : Prop :=
  Iv q L tk ∧ ((d = {} ∧ Mid isP v L0 q L tk k) ∨ Fin' isP v L0 q L d)
theorem al_step {isP : Bool} {v : Int} {L0 : List Int} {q : Q} {L : List Int} {tk : Option Int} {k : Nat} (I : Iv q L tk) (h : Mid isP v L0 q L tk k) (hb : q.top + L.length ≤ 100000000000000000) :
    ∃ L' tk', Al isP v L0 (stp q 0) L' tk' (stepA q 0).d (k + 1) ∧ (stp q 0).top + L'.length ≤ q.top + L.length + 1 := by
  obtain ⟨L', tk', I', ev, _⟩ := own_step I h.nx hb
  have F := nxt_step q 0 h.nx
  have hr := ev_reach I.t0 hb ev
  have hn := stp_n q 0
  refine ⟨L', tk', ⟨I', ?_⟩, hr⟩
  have hm := h.m
  have hF := F.m
  have hl' := I'.hl
  rw [hn] at hl'
  generalize hd : (stepA q 0).d = d at *
  by_cases ho : d.over = true
  · right
    refine ⟨ho, F.over.1 ho, fun e => ?_, fun e => ?_⟩
    · obtain ⟨p1, p2, p3, p4⟩ := h.p e
      have hop := (F.op ho).1 p2
      refine ⟨hop, ?_⟩
      rw [p1, p4, p3] at ev
      rw [hn]
      generalize pvOf (stp q 0) = pv' at ev
      cases ev with
      | quiet => cases ho
      | pushed => right; exact ⟨by simp at hl'; omega, rfl, rfl⟩
      | full _ _ h2 => left; exact ⟨h2, rfl, rfl⟩
      | stolen => cases hop
      | none2 => cases hop
    · obtain ⟨p1, p2, p3⟩ := h.n e
      have hop := (F.op ho).2.1 p2
      refine ⟨hop, ?_⟩
      rw [p1] at ev
      generalize pvOf (stp q 0) = pv' at ev
      cases ev with
      | quiet => cases ho
      | took => cases ho
      | popped L y =>
        right
        rcases p3 with ⟨_, h⟩ | ⟨y', h, h2⟩
        · cases h
        · exact ⟨y', h, rfl, by simpa using h2⟩
      | empty =>
        left
        rcases p3 with ⟨h, _⟩ | ⟨y', h, h2⟩
        · exact ⟨h.symm, rfl, rfl⟩
        · cases h2
      | stolen => cases hop
      | none2 => cases hop
  · have ho : d.over = false := by simpa using ho
    have hq := F.quiet ho
    left
    refine ⟨hq, fun e => (by have := F.over.2 e; rw [ho] at this; cases this), by omega, fun e => ?_, fun e => ?_⟩
    · obtain ⟨p1, p2, p3, p4⟩ := h.p e
      have hps := (F.ps ho).1
      rw [p1, p4, p3] at ev
      refine ⟨?_, by rw [hps]; exact p2, ?_⟩
      · generalize pvOf (stp q 0) = pv' at ev
        cases ev with
        | quiet => rfl
        | _ => cases ho
      · generalize pvOf (stp q 0) = pv' at ev
        cases ev with
        | quiet => exact ⟨rfl, rfl⟩
        | _ => cases ho
    · obtain ⟨p1, p2, p3⟩ := h.n e
      have hps := (F.ps ho).2
      rw [p1] at ev
      refine ⟨?_, by rw [hps]; exact p2, ?_⟩
      · generalize pvOf (stp q 0) = pv' at ev
        cases ev with
        | quiet => rfl
        | took => rfl
        | _ => cases ho
      · generalize pvOf (stp q 0) = pv' at ev
        cases ev with
        | quiet => exact p3
        | took L y =>
          rcases p3 with ⟨h, _⟩ | ⟨y', h, h2⟩
          · exact .inr ⟨y, h.symm, rfl⟩
          · cases h2
        | _ => cases ho
theorem al_begin {q : Q} {L : List Int} (I : Iv q L none) (hn : (q.th 0).nx = .no) (isP : Bool) (v : Int) :
    begin q 0 (if isP = true then 0 else 1) v = (0, q.setT 0 { nx := if isP = true then .a33 else .a34, v := v }) ∧ Iv (q.setT 0 { nx := if isP = true then .a33 else .a34, v := v }) L none ∧ Mid isP v L (q.setT 0 { nx := if isP = true then .a33 else .a34, v := v }) L none 0 := by
  have o := ow_no I hn
  cases isP
  · refine ⟨beg_pop q v hn, iv_own I q _ rfl (fun _ => rfl) I.t0 I.hl I.w ⟨o.1, o.2, rfl⟩ (.inr ⟨rfl, fun _ h => h⟩), ?_⟩
    refine ⟨(by rw [setT_at]; intro h; cases h), (by rw [setT_at]; show 0 + meas .a34 ≤ 6; decide), fun h => (by cases h), fun _ => ⟨by rw [pv_set]; rfl, by rw [setT_at]; rfl, .inl ⟨rfl, rfl⟩⟩⟩
  · refine ⟨beg_push q v hn, iv_own I q _ rfl (fun _ => rfl) I.t0 I.hl I.w ⟨o.1, o.2⟩ (.inr ⟨rfl, fun _ h => h⟩), ?_⟩
    exact ⟨(by rw [setT_at]; intro h; cases h), (by rw [setT_at]; show 0 + meas .a33 ≤ 6; decide), fun _ => ⟨by rw [pv_set]; rfl, by rw [setT_at]; rfl, rfl, rfl⟩, fun h => (by cases h)⟩
def bxf (d : D) (i : Nat) : Value := if i = 0 then .bool d.over else if i = 1 then .int .i64 d.op else if i = 2 then .int .i64 d.v else .int .i64 d.err
/-- the deque, the list, and the box of an answer -/
structure Aw (w W : World) (b p : Nat) (q : Q) (B : Nat) (d : D) (lv : Value) (L : List Int) : Prop where
  ds : Ds w W b p q
  bx : W.rowIs B 34 4 (bxf d)
  ls : Ls W lv L
  nb : b ≠ B ∧ p ≠ B ∧ w.heap.size ≤ B
  ns : ∀ g, blk lv = some g → g ≠ b ∧ g ≠ p ∧ g ≠ B ∧ w.heap.size ≤ g
section
variable {w W W' : World} {b p : Nat} {q q' : Q} {B : Nat} {d d' : D} {lv : Value} {L : List Int}
theorem Aw.fr (h : Aw w W b p q B d lv L) (i : Ds w W' b p q') (g : Fr W W' (S2 b p)) : Aw w W' b p q' B d lv L :=
  ⟨i, row_fr h.bx g (by unfold S2; have := h.nb; omega), h.ls.of (fun k e hk => g.block k hk (by unfold S2; have := h.ns k e; omega)), h.nb, h.ns⟩
theorem Aw.put (h : Aw w W b p q B d lv L) (o : Bool) (x v r : Int) : Aw w ((((W.setCell ⟨B, 0, none⟩ (.bool o)).setCell ⟨B, 1, none⟩ (.int .i64 x)).setCell ⟨B, 2, none⟩ (.int .i64 v)).setCell ⟨B, 3, none⟩ (.int .i64 r)) b p q B { over := o, op := x, v := v, err := r } lv L := by
  obtain ⟨n1, n2, n3⟩ := h.nb
  refine ⟨(((h.ds.far B 0 _ n1 n2 n3).far B 1 _ n1 n2 n3).far B 2 _ n1 n2 n3).far B 3 _ n1 n2 n3, ((((h.bx.set 0 _).set 1 _).set 2 _).set 3 _).congr (fun i hi => by match i, hi with | 0, _ => rfl | 1, _ => rfl | 2, _ => rfl | 3, _ => rfl), h.ls.of (fun k e hk => ?_), h.nb, h.ns⟩
  have := h.ns k e
  rw [Below.heap_setCell _ _ _ _ (show k ≠ B by omega), Below.heap_setCell _ _ _ _ (show k ≠ B by omega), Below.heap_setCell _ _ _ _ (show k ≠ B by omega), Below.heap_setCell _ _ _ _ (show k ≠ B by omega)]
theorem Aw.c0 (h : Aw w W b p q B d lv L) : W.cell? ⟨B, 0, none⟩ = some (.bool d.over) := row_val h.bx (by omega) rfl
theorem Aw.c1 (h : Aw w W b p q B d lv L) : W.cell? ⟨B, 1, none⟩ = some (.int .i64 d.op) := row_val h.bx (by omega) rfl
theorem Aw.c2 (h : Aw w W b p q B d lv L) : W.cell? ⟨B, 2, none⟩ = some (.int .i64 d.v) := row_val h.bx (by omega) rfl
theorem Aw.c3 (h : Aw w W b p q B d lv L) : W.cell? ⟨B, 3, none⟩ = some (.int .i64 d.err) := row_val h.bx (by omega) rfl
theorem Aw.fz (h : Aw w W b p q B d lv L) (i : Nat) : W.frozen? ⟨B, i, none⟩ = false := World.rowIs.frozen h.bx i
end
/-- between two rounds -/
structure Ab (w W : World) (b p : Nat) (q : Q) (lv : Value) (L : List Int) (i : Nat) : Prop where
  ds : Ds w W b p q
  ls : Ls W lv L
  ns : ∀ g, blk lv = some g → g ≠ b ∧ g ≠ p ∧ w.heap.size ≤ g
  I : Iv q L none
  nx : (q.th 0).nx = .no
  r : q.top + L.length ≤ 8 * (i : Int)
theorem ab_new {w W : World} {b p : Nat} {n : Nat} (h : Ds w W b p (Q0 n)) (h1 : 1 ≤ n) (h2 : n ≤ 64) : Ab w W b p (Q0 n) (.slice none 0 0) [] 0 :=
  ⟨h, .inl ⟨rfl, rfl⟩, fun g e => (by cases e), iv_new n h1 h2, rfl, by show (0 : Int) + 0 ≤ _; omega⟩
theorem Ab.below {w W W' : World} {b p : Nat} {q : Q} {lv : Value} {L : List Int} {i : Nat} (h : Ab w W b p q lv L i) (g : Below W.heap.size W W') : Ab w W' b p q lv L i :=
  ⟨h.ds.below g, h.ls.below g, h.ns, h.I, h.nx, h.r⟩
theorem Ab.box {w W W' : World} {b p : Nat} {q q1 : Q} {lv : Value} {L : List Int} {i : Nat} (h : Ab w W b p q lv L i) (g : Fr W W' (S2 b p)) (h' : Ds w W' b p q1) : Aw w (W'.alloc (.cells #[.bool false, .int .i64 0, .int .i64 0, .int .i64 0] 34)) b p q1 W'.heap.size {} lv L := by
  have hl := h'.lt
  have hs := h'.bel.size
  have hls := h.ls.of (w1 := W') (fun k e hk => g.block k hk (by unfold S2; have := h.ns k e; omega))
  exact ⟨h'.alloc _, row_new W' _ 34 4 _ rfl (fun i hi => by match i, hi with | 0, _ => rfl | 1, _ => rfl | 2, _ => rfl | 3, _ => rfl), hls.below ((Below.refl W'.heap.size W').alloc (Nat.le_refl _) _), by omega, fun k e => by have := h.ns k e; have := ls_lt hls e; omega⟩
theorem ds_size {w0 w : World} {b p : Nat} {q : Q} (h : Ds w0 w b p q) (n : Int) (hn : (q.n : Int) = n) : Calls Try.prog 18 #[.pointer (some ⟨b, 0, none⟩)] w fun e w' => e = .returned (.int .i64 n) ∧ w' = w := by
  subst hn; exact size_any h.i
/-- the list without its last -/
theorem ls_init {w : World} {a : Option Addr} {cap : Nat} {L : List Int} {y : Int} (h : Ls w (.slice a (L ++ [y]).length cap) (L ++ [y])) : ∃ ad, a = some ad ∧ L.length ≤ cap ∧ Ls w (.slice a L.length cap) L := by
  rcases h with ⟨_, h0⟩ | ⟨g, off, cap', cur, e, hc, hn, ho, hi⟩
  · simp at h0
  · cases e
    have hn' : L.length + 1 ≤ cap := by simpa using hn
    refine ⟨_, rfl, by omega, .inr ⟨g, off, cap, cur, rfl, hc, by omega, by omega, fun i hi' => ?_⟩⟩
    rw [hi i (by simp; omega), List.getD_eq_getElem?_getD, List.getD_eq_getElem?_getD, List.getElem?_append_left hi']
end Go.Proofs.Ytldobbdaokjgaaa
