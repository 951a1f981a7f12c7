/- DequeLinear: the owner's goes. -/
import Derived.Test.YtldobbdaokjgaaaP18
namespace Go.Proofs.Ytldobbdaokjgaaa
open Go.RowKit
set_option linter.unusedVariables false
set_option linter.unusedSimpArgs false
theorem Fr.cell {w w' : World} {S : Nat → Prop} (g : Fr w w' S) {p : Addr} (hp : p.block < w.heap.size) (hs : ¬ S p.block) : w'.cell? p = w.cell? p := by
  unfold World.cell?
  rw [g.block _ hp hs]
/-- append(nil, list...) -/
theorem ls_copy {w : World} {v : Value} {l : List Int} (h : Ls w v l) (ty : TypeId) (hl : l.length ≤ 100000) :
    ∃ v' w', (Builtin.append_ #[37, 37] ty #[.slice none 0 0, v]).run Try.prog w = .ok v' w' ∧ Ls w' v' l ∧ Fr w w' (fun _ => False) ∧ ∀ g, blk v' = some g → w.heap.size ≤ g := by
  obtain ⟨i0, hi, hz0, hz1, hz2⟩ := info2
  by_cases hl0 : l = []
  · subst hl0
    obtain ⟨a, cap, rfl⟩ := ls_slice h
    refine ⟨_, w, ?_, .inl ⟨rfl, rfl⟩, Fr.refl _ _, fun g hg => by cases hg⟩
    cases a with
    | none => simp [Builtin.append_, run_underlying Try.underlying37, sizeOf, typeInfo, hi, Builtin.lenOf, Builtin.firstCells, storeCells]
    | some a => simp [Builtin.append_, run_underlying Try.underlying37, sizeOf, typeInfo, hi, Builtin.lenOf, Builtin.firstCells, storeCells, loadCells, loadCellsFrom]
  · rcases h with ⟨_, h⟩ | ⟨g, off, cap, cur, rfl, hc, hn, ho, hi2⟩
    · exact absurd h hl0
    · have hcell : ∀ j, w.cell? ⟨g, j, none⟩ = cur[j]? := fun j => cell_of_row w g j cur 2 (0, 0) hc
      have holds : ∀ j u, (l.map (Value.int .i64))[j]? = some u → w.cell? ((⟨g, off, none⟩ : Addr).add j) = some u := fun j u hj => by
        rw [Go.WideShapes.add_plain, hcell]
        rw [List.getElem?_map] at hj
        have hjl : j < l.length := by
          by_cases h : j < l.length
          · exact h
          · rw [List.getElem?_eq_none (by omega)] at hj; cases hj
        rw [hi2 j hjl]
        rw [List.getElem?_eq_getElem hjl] at hj
        simpa [List.getD, hjl] using hj
      obtain ⟨v', w', h1, h2, h3, _⟩ := run_append_own (P := Try.prog) w w.heap.size 37 ty 2 i0 (.int .i64 0) 1 8 Try.underlying37 hi hz0 hz1 hz2 rfl (by decide) (.slice none 0 0) 0 [] (World.ownsRow_nil w w.heap.size 2 1) ⟨g, off, none⟩ l.length cap (l.map (Value.int .i64)) (by simp) holds (fun u hu => by obtain ⟨x, _, rfl⟩ := List.mem_map.1 hu; rfl) (by unfold maxLen; omega) (by omega) (Nat.le_refl _)
      rw [Nat.zero_add, List.nil_append] at h2
      refine ⟨v', w', h1, ls_own h2, ⟨h3.os, h3.tape, h3.output, h3.size, fun k hk _ => h3.block k hk (by intro e; cases e)⟩, fun k hk => ?_⟩
      rcases h2 with ⟨_, ⟨e, _⟩ | ⟨s, cp, cr, e, hb, _⟩⟩
      · rw [e] at hk; cases hk
      · subst e; cases hk; exact hb
theorem step_run {P : Program} {ops : Array Oper} {o : Oper} {a : Act} {w : World} {K : Act → World → Prop} {Q : Exit → Act → World → Prop} {E : Prop}
    (hg : o.guard = none) (s x : Operand) (t : TypeId) (hop : o.op = Op.call { callee := Callee.builtin Builtin.append, args := #[s, x], argTypes := #[t, t] })
    (vs vx : Value) (hs : a.eval s = vs) (hx : a.eval x = vx) (v' : Value) (w' : World) (hrun : (Builtin.append_ #[t, t] o.type #[vs, vx]).run P w = .ok v' w')
    (hK : K (a.put o.dst v') w') : if Region.wanted o (yielded ops a.tmps) = true then Oper.wp P o a w K Q else E := by
  have hw : Region.wanted o (yielded ops a.tmps) = true := by simp [Region.wanted, hg]
  rw [if_pos hw]
  unfold Oper.wp
  simp [execOp, hop, resolve, invoke, builtin, hs, hx, hrun, Result.andThen]
  exact hK
theorem step_copy {ops : Array Oper} {o : Oper} {a : Act} {w : World} {K : Act → World → Prop} {Q : Exit → Act → World → Prop} {E : Prop}
    (hg : o.guard = none) (s x : Operand) (hop : o.op = Op.call { callee := Callee.builtin Builtin.append, args := #[s, x], argTypes := #[37, 37] })
    (v : Value) (l : List Int) (hs : a.eval s = .slice none 0 0) (hx : a.eval x = v) (h : Ls w v l) (hl : l.length ≤ 100000)
    (hK : ∀ v' w', Ls w' v' l → Fr w w' (fun _ => False) → (∀ g, blk v' = some g → w.heap.size ≤ g) → K (a.put o.dst v') w') : if Region.wanted o (yielded ops a.tmps) = true then Oper.wp Try.prog o a w K Q else E := by
  obtain ⟨v', w', e1, e2, e3, e4⟩ := ls_copy h o.type hl
  exact step_run hg s x 37 hop _ _ hs hx v' w' e1 (hK v' w' e2 e3 e4)
theorem step_app {ops : Array Oper} {o : Oper} {a : Act} {w : World} {K : Act → World → Prop} {Q : Exit → Act → World → Prop} {E : Prop}
    (hg : o.guard = none) (s x : Operand) (hop : o.op = Op.call { callee := Callee.builtin Builtin.append, args := #[s, x], argTypes := #[37, 37] })
    (v : Value) (l : List Int) (ad : Addr) (y : Int) (hs : a.eval s = v) (hx : a.eval x = .slice (some ad) 1 1) (h : Ls w v l) (hy : w.cell? ad = some (.int .i64 y)) (hl : l.length ≤ 100000)
    (hK : ∀ v' w', Ls w' v' (l ++ [y]) → Fr w w' (fun k => blk v = some k) → (∀ g, blk v' = some g → blk v = some g ∨ w.heap.size ≤ g) → K (a.put o.dst v') w') : if Region.wanted o (yielded ops a.tmps) = true then Oper.wp Try.prog o a w K Q else E := by
  obtain ⟨v', w', e1, e2, e3, e4⟩ := ls_append h o.type ad y hy hl
  exact step_run hg s x 37 hop _ _ hs hx v' w' e1 (hK v' w' e2 e3 e4)
theorem cp_a1 {W4 w8 : World} {v8 : Value} (f8 : Fr W4.drew w8 (fun _ => False)) (n8 : ∀ g, blk v8 = some g → W4.drew.heap.size ≤ g) : Below W4.heap.size W4 w8 ∧ ∀ g, blk v8 = some g → W4.heap.size ≤ g :=
  ⟨⟨f8.os, f8.tape, f8.output, f8.size, fun k hk => f8.block k hk (fun x => x)⟩, n8⟩
theorem cp_a2 {W4 w8 : World} {v8 : Value} {X : Int} (f8 : Fr (W4.alloc (.cells #[.int .i64 X] 2)).drew w8 (fun _ => False)) (n8 : ∀ g, blk v8 = some g → (W4.alloc (.cells #[.int .i64 X] 2)).drew.heap.size ≤ g) : Below W4.heap.size W4 w8 ∧ (∀ g, blk v8 = some g → W4.heap.size ≤ g) ∧ w8.cell? ⟨W4.heap.size, 0, none⟩ = some (.int .i64 X) := by
  have hs : (W4.alloc (.cells #[.int .i64 X] 2)).drew.heap.size = W4.heap.size + 1 := World.size_alloc _ _
  have h8 := f8.size
  refine ⟨⟨f8.os, f8.tape, f8.output, by omega, fun k hk => (f8.block k (by omega) (fun x => x)).trans (Below.heap_alloc W4 _ k hk)⟩, fun g hg => by have := n8 g hg; omega, ?_⟩
  exact (Fr.cell f8 (p := ⟨W4.heap.size, 0, none⟩) (by show W4.heap.size < _; omega) (fun x => x)).trans (cell_new1 W4 X)
theorem cp_b1 {W4 w8 w9 : World} {v8 v9 : Value} {o : Obj} {n : Nat} (B8 : Below n W4 w8) (N8 : ∀ g, blk v8 = some g → n ≤ g) (f9 : Fr (w8.alloc o) w9 (fun k => blk v8 = some k)) (n9 : ∀ g, blk v9 = some g → blk v8 = some g ∨ (w8.alloc o).heap.size ≤ g) (hn : n ≤ W4.heap.size := by exact Nat.le_refl _) : Below n W4 w9 ∧ ∀ g, blk v9 = some g → n ≤ g := by
  have h1 := f9.size
  have h2 := B8.size
  rw [World.size_alloc] at h1
  refine ⟨⟨f9.os.trans B8.os, f9.tape.trans B8.tape, f9.output.trans B8.output, by omega, fun k hk => ((f9.block k (by rw [World.size_alloc]; omega) (fun e => by have := N8 k e; omega)).trans (Below.heap_alloc w8 o k (by omega))).trans (B8.block k hk)⟩, fun g hg => ?_⟩
  rcases n9 g hg with h | h
  · exact N8 g h
  · rw [World.size_alloc] at h; omega
theorem cp_b2 {W4 w8 w9 : World} {v8 v9 : Value} {n : Nat} (B8 : Below n W4 w8) (N8 : ∀ g, blk v8 = some g → n ≤ g) (f9 : Fr w8 w9 (fun k => blk v8 = some k)) (n9 : ∀ g, blk v9 = some g → blk v8 = some g ∨ w8.heap.size ≤ g) (hn : n ≤ W4.heap.size := by exact Nat.le_refl _) : Below n W4 w9 ∧ ∀ g, blk v9 = some g → n ≤ g := by
  have h1 := f9.size
  have h2 := B8.size
  refine ⟨⟨f9.os.trans B8.os, f9.tape.trans B8.tape, f9.output.trans B8.output, by omega, fun k hk => (f9.block k (by omega) (fun e => by have := N8 k e; omega)).trans (B8.block k hk)⟩, fun g hg => ?_⟩
  rcases n9 g hg with h | h
  · exact N8 g h
  · omega
/-- what goes leaves -/
structure GPost (w : World) (b p : Nat) (tp : Int) (q' : Q) (B : Nat) (P : Bool) (M : Nat) (L : List Int) (e : Ending) (W' : World) : Prop where
  h : ∃ (la' : Option Addr) (lc' : Nat) (L' : List Int) (tk' : Option Int) (tv' : Value) (T' : List Int), e = .returned (.tuple #[.slice la' L'.length lc', .bool true]) ∧ Iv q' L' tk' ∧ q'.top + L'.length ≤ tp + L.length + 1 ∧ Gw w W' b p q' B P ((M + 1 : Nat) : Int) tv' T' (.slice la' L'.length lc') L' ∧ ((q'.th 0).nx = .no ∨ (Opn (q'.th 0).nx P (M + 1) ∧ T' = tk'.toList))
theorem gw_push {w W w9 : World} {b p : Nat} {q : Q} {B : Nat} {P : Bool} {M : Int} {tv : Value} {T : List Int} {lv v9 : Value} {L L9 : List Int} (G : Gw w W b p q B P M tv T lv L) (l9 : Ls w9 v9 L9) (B9 : Below W.heap.size W w9) (N9 : ∀ g, blk v9 = some g → W.heap.size ≤ g) : Gw w w9 b p q B P M tv T v9 L9 :=
  (G.below B9).setL v9 L9 l9 (fun g e => by
    have h1 := N9 g e
    have h2 := G.ds.lt
    have h3 := G.bo.lt
    have h4 := G.ds.bel.size
    omega)
theorem GPost.mk' {w : World} {b p : Nat} {tp : Int} {q' : Q} {B : Nat} {P : Bool} {M : Nat} {L L' : List Int} {la' : Option Addr} {lc' n : Nat} {tk' : Option Int} {tv' : Value} {T' : List Int} {W' : World} (hp : Hid (Iv q' L' tk' ∧ q'.top + L'.length ≤ tp + L.length + 1 ∧ ((q'.th 0).nx = .no ∨ Opn (q'.th 0).nx P (M + 1)))) (hn : n = L'.length)
    (g : Gw w W' b p q' B P ((M + 1 : Nat) : Int) tv' T' (.slice la' L'.length lc') L') (ht : (q'.th 0).nx = .no ∨ T' = tk'.toList) : GPost w b p tp q' B P M L (.returned (.tuple #[.slice la' n lc', .bool true])) W' := by
  subst hn
  obtain ⟨h1, h2, h3⟩ := hp.out
  refine ⟨la', lc', L', tk', tv', T', rfl, h1, h2, g, ?_⟩
  rcases h3 with h | h
  · exact .inl h
  · rcases ht with h' | h'
    · exact .inl h'
    · exact .inr ⟨h, h'⟩
set_option maxRecDepth 100000 in
set_option maxHeartbeats 16000000 in
theorem goes_any {w W : World} {b p : Nat} {q : Q} {B : Nat} {P : Bool} {M : Nat} {tv : Value} {T : List Int} {lv : Value} {L : List Int} {tk : Option Int} (G : Gw w W b p q B P (M : Int) tv T lv L) (I : Iv q L tk) (hx : (q.th 0).nx ≠ .no) (ho : Opn (q.th 0).nx P M) (hT : T = tk.toList) (hb : q.top + L.length ≤ 10000000000000000) :
    Calls Try.prog 25 #[.pointer (some ⟨B, 0, none⟩), .pointer (some ⟨b, 0, none⟩), lv] W (GPost w b p q.top (stp q 0) B P M L) := by
  have hz := zero34
  obtain ⟨la, lc, rfl⟩ := ls_slice G.ls
  obtain ⟨ta, tc, rfl⟩ := ls_slice G.lt
  have hM := opn_m ho
  obtain ⟨L', tk', I', hr, br, hnx, hno⟩ := lin_step I hx ho (by omega)
  have HP := Lib.hid (And.intro I' (And.intro hr hnx))
  have HL := Lib.hid (show L.length ≤ 64 by have := I.hl; have := I.n2; omega)
  have HL0 := Lib.hid (show 0 ≤ (stp q 0).top ∧ (stp q 0).bot ≤ 1000000000000000000 ∧ -1000000000000000000 ≤ (stp q 0).bot - (stp q 0).top ∧ (stp q 0).bot - (stp q 0).top ≤ 64 ∧ q.top ≤ 100000000000000000 ∧ 0 ≤ q.top from by
    have := I'.t0; have := I.t0; have := ow_bot I'.ow; have := I'.hl; have := I'.n2
    have hbb : -1 ≤ (stp q 0).bot := by
      have o := I'.ow
      have e0 := I'.t0
      unfold Ow at o
      cases hn : ((stp q 0).th 0).nx <;> rw [hn] at o <;> simp only at o <;> first | exact o.elim | omega
    omega)
  have HST := Lib.hid (fun (W : World) (h : Ds w W b p q) (o : Bool) (x v r : Int) (hd : (stepA q 0).d = { over := o, op := x, v := v, err := r }) => ds_step' h 0 (by omega) hx o x v r hd _ rfl)
  have hSZ : (stp q 0).n = q.n := stp_n q 0
  have HSZ := Lib.hid hSZ
  have HNO := Lib.hid hno
  have HMM := Lib.hid hM
  have hw : IntKind.i64.wrap ((M : Int) + 1) = ((M + 1 : Nat) : Int) := by rw [IntKind.wrap_i64]; omega
  have G1 := Lib.hid (G.setM ((M + 1 : Nat) : Int))
  have htop := Lib.hid (ds_top G1.out.ds q.top rfl)
  clear hnx hr I' ho hx I hSZ hM hno
  generalize hq' : stp q 0 = q' at *
  generalize (stepA q 0).d = d at *
  have o1 := G.o1
  have f1 := G.fz 1
  have HG := Lib.hid G
  clear G hb
  obtain ⟨Mi, hMi⟩ : ∃ Mi : Int, Mi = ((M + 1 : Nat) : Int) := ⟨_, rfl⟩
  rw [← hMi] at hw
  have HMI := Lib.hid hMi
  rw [← hMi] at G1
  rw [← hMi] at htop
  clear hMi
  clear hq'
  generalize htp : q.top = tp at *
  have HTP := Lib.hid htp
  clear htp
  rcases br with ⟨rfl, rfl, rfl, hp⟩ | ⟨v, rfl, rfl, rfl⟩ | ⟨v, rfl, rfl, rfl, hn⟩ | ⟨y, rfl, rfl, rfl, rfl, rfl, hb, h0⟩ | ⟨rfl, rfl, rfl, rfl, rfl, hb, h0⟩ | ⟨y, rfl, rfl, rfl, rfl, rfl, rfl, hb⟩ | ⟨y, rfl, rfl, hm, rfl, rfl⟩ | ⟨rfl, rfl, hm, rfl, rfl, rfl⟩
  · rcases hp with rfl | ⟨rfl, m1, m2⟩ | ⟨rfl, rfl, htt⟩
    · have HS2 := Lib.hid (fun (W : World) (h : Ds w W b p q) => HST.out W h false 0 0 0 rfl)
      clear HST
      go_enter Try.func25, Try.ntmps25
      go_wp2_with fail
      refine htop.out.mono ?_
      rintro e w2 ⟨rfl, rfl⟩
      go_wp2_with fail
      refine (HS2.out _ G1.out.ds).mono ?_
      rintro e w3 ⟨rfl, h3, g3⟩
      have G3 := (G1.out.fr h3 g3).alloc (.cells #[.bool false, .int .i64 0, .int .i64 0, .int .i64 0] 34)
      have o0 := G3.o0
      have o1 := G3.o1
      have o2 := G3.o2
      have f2 := G3.fz 2
      have hBl : B < w3.heap.size := by have := (G1.out.fr h3 g3).bo.lt; exact this
      have nB : B ≠ w3.heap.size := by omega
      have nB' : w3.heap.size ≠ B := by omega
      have HG3 := Lib.hid G3
      clear G3 h3 g3 f1 hBl HS2 G1 htop HG
      go_wp2
      go_returns
      exact GPost.mk' HP rfl (by rw [← HMI.out]; exact HG3.out) (.inr hT)
    · have h3 : (Mi == 3) = false := by have := HMI.out; simp; omega
      have h5 : (Mi == 5) = false := by have := HMI.out; simp; omega
      clear m1 m2
      have HS2 := Lib.hid (fun (W : World) (h : Ds w W b p q) => HST.out W h false 0 0 0 rfl)
      clear HST
      go_enter Try.func25, Try.ntmps25
      go_wp2_with fail
      refine htop.out.mono ?_
      rintro e w2 ⟨rfl, rfl⟩
      go_wp2_with fail
      refine (HS2.out _ G1.out.ds).mono ?_
      rintro e w3 ⟨rfl, h3, g3⟩
      have G3 := (G1.out.fr h3 g3).alloc (.cells #[.bool false, .int .i64 0, .int .i64 0, .int .i64 0] 34)
      have o0 := G3.o0
      have o1 := G3.o1
      have o2 := G3.o2
      have f2 := G3.fz 2
      have hBl : B < w3.heap.size := by have := (G1.out.fr h3 g3).bo.lt; exact this
      have nB : B ≠ w3.heap.size := by omega
      have nB' : w3.heap.size ≠ B := by omega
      have HG3 := Lib.hid G3
      clear G3 h3 g3 f1 hBl HS2 G1 htop HG
      go_wp2
      go_returns
      exact GPost.mk' HP rfl (by rw [← HMI.out]; exact HG3.out) (.inr hT)
    · rw [HTP.out] at htt
      have htop2 := Lib.hid (fun (W : World) (h : Ds w W b p q') => ds_top h tp htt)
      obtain rfl : Mi = 5 := HMI.out
      clear htt
      have HS2 := Lib.hid (fun (W : World) (h : Ds w W b p q) => HST.out W h false 0 0 0 rfl)
      clear HST
      go_enter Try.func25, Try.ntmps25
      go_wp2_with fail
      refine htop.out.mono ?_
      rintro e w2 ⟨rfl, rfl⟩
      go_wp2_with fail
      refine (HS2.out _ G1.out.ds).mono ?_
      rintro e w3 ⟨rfl, h3, g3⟩
      have G3 := (G1.out.fr h3 g3).alloc (.cells #[.bool false, .int .i64 0, .int .i64 0, .int .i64 0] 34)
      have o0 := G3.o0
      have o1 := G3.o1
      have o2 := G3.o2
      have f2 := G3.fz 2
      have hBl : B < w3.heap.size := by have := (G1.out.fr h3 g3).bo.lt; exact this
      have nB : B ≠ w3.heap.size := by omega
      have nB' : w3.heap.size ≠ B := by omega
      have HG3 := Lib.hid G3
      clear G3 h3 g3 f1 hBl HS2 G1 htop HG
      go_wp2_with fail
      refine (htop2.out _ HG3.out.ds).mono ?_
      rintro e w5 ⟨rfl, rfl⟩
      go_wp2
      go_returns
      exact GPost.mk' HP rfl (by rw [← HMI.out]; exact HG3.out) (.inr hT)
  · have hl5 : L.length ≤ 100000 := by have := HL.out; omega
    have HS2 := Lib.hid (fun (W : World) (h : Ds w W b p q) => HST.out W h true 0 v 0 rfl)
    clear HST
    go_enter Try.func25, Try.ntmps25
    go_wp2_with fail
    refine htop.out.mono ?_
    rintro e w2 ⟨rfl, rfl⟩
    go_wp2_with fail
    refine (HS2.out _ G1.out.ds).mono ?_
    rintro e w3 ⟨rfl, h3, g3⟩
    have G3 := (G1.out.fr h3 g3).alloc (.cells #[.bool true, .int .i64 0, .int .i64 v, .int .i64 0] 34)
    have o0 := G3.o0
    have o1 := G3.o1
    have o2 := G3.o2
    have f2 := G3.fz 2
    have hBl : B < w3.heap.size := by have := (G1.out.fr h3 g3).bo.lt; exact this
    have nB : B ≠ w3.heap.size := by omega
    have nB' : w3.heap.size ≠ B := by omega
    have HG3 := Lib.hid G3
    clear G3 h3 g3 f1 hBl HS2 G1 htop HG
    have c2 : (w3.alloc (.cells #[.bool true, .int .i64 0, .int .i64 v, .int .i64 0] 34)).cell? ⟨w3.heap.size, 2, none⟩ = some (.int .i64 v) := row_val (row_new w3 #[.bool true, .int .i64 0, .int .i64 v, .int .i64 0] 34 4 (bxf { over := true, op := 0, v := v, err := 0 }) rfl (fun i hi => by match i, hi with | 0, _ => rfl | 1, _ => rfl | 2, _ => rfl | 3, _ => rfl)) (i := 2) (by omega) rfl
    have c0 : (w3.alloc (.cells #[.bool true, .int .i64 0, .int .i64 v, .int .i64 0] 34)).cell? ⟨w3.heap.size, 0, none⟩ = some (.bool true) := row_val (row_new w3 #[.bool true, .int .i64 0, .int .i64 v, .int .i64 0] 34 4 (bxf { over := true, op := 0, v := v, err := 0 }) rfl (fun i hi => by match i, hi with | 0, _ => rfl | 1, _ => rfl | 2, _ => rfl | 3, _ => rfl)) (i := 0) (by omega) rfl
    have c3 : (w3.alloc (.cells #[.bool true, .int .i64 0, .int .i64 v, .int .i64 0] 34)).cell? ⟨w3.heap.size, 3, none⟩ = some (.int .i64 0) := row_val (row_new w3 #[.bool true, .int .i64 0, .int .i64 v, .int .i64 0] 34 4 (bxf { over := true, op := 0, v := v, err := 0 }) rfl (fun i hi => by match i, hi with | 0, _ => rfl | 1, _ => rfl | 2, _ => rfl | 3, _ => rfl)) (i := 3) (by omega) rfl
    have HBX : w3.heap.size < (w3.alloc (.cells #[.bool true, .int .i64 0, .int .i64 v, .int .i64 0] 34)).heap.size := by simp
    go_wp2_with fail
    generalize hbx : w3.heap.size = Bx at *
    clear hbx
    generalize w3.alloc (.cells #[.bool true, .int .i64 0, .int .i64 v, .int .i64 0] 34) = W4 at *
    go_region_law (first | (refine step_copy rfl (.const (.slice none 0 0)) (.tmp 148) rfl (.slice la L.length lc) L (by simp [Act.eval]) (by simp [Act.eval, Act.put]) (HG3.out.ls.of (fun g _ _ => rfl)) hl5 ?_; intro v8 w8 l8 f8 n8; obtain ⟨B8, N8⟩ := cp_a1 f8 n8; have c2' := (B8.cell (p := ⟨Bx, 2, none⟩) HBX).trans c2) | (refine step_copy rfl (.const (.slice none 0 0)) (.tmp 148) rfl (.slice la L.length lc) L (by simp [Act.eval]) (by simp [Act.eval, Act.put]) ((HG3.out.alloc (.cells #[.int .i64 v] 2)).ls.of (fun g _ _ => rfl)) hl5 ?_; intro v8 w8 l8 f8 n8; obtain ⟨B8, N8, hy8⟩ := cp_a2 f8 n8) | (refine step_app rfl (.tmp 149) (.tmp 152) rfl v8 L ⟨w8.heap.size, 0, none⟩ v (by simp [Act.eval, Act.put]) (by simp [Act.eval, Act.put]) (Ls.below l8 ((Below.refl w8.heap.size w8).alloc (Nat.le_refl _) _)) (cell_new1 w8 v) hl5 ?_; intro v9 w9 l9 f9 n9; obtain ⟨B9, N9⟩ := cp_b1 B8 N8 f9 n9; obtain ⟨a9, c9, hv9⟩ := ls_slice l9; have L9 := Lib.hid (And.intro l9 (And.intro B9 N9)); clear B9 N9 f9 n9 l9; subst hv9) | (refine step_app rfl (.tmp 149) (.tmp 152) rfl v8 L ⟨W4.heap.size, 0, none⟩ v (by simp [Act.eval, Act.put]) (by simp [Act.eval, Act.put]) l8 hy8 hl5 ?_; intro v9 w9 l9 f9 n9; obtain ⟨B9, N9⟩ := cp_b2 B8 N8 f9 n9; obtain ⟨a9, c9, hv9⟩ := ls_slice l9; have L9 := Lib.hid (And.intro l9 (And.intro B9 N9)); clear B9 N9 f9 n9 l9; subst hv9) | (go_simp))
    all_goals
      go_wp2
      go_returns
      exact GPost.mk' HP (by simp) (by rw [← HMI.out]; exact gw_push HG3.out L9.out.1 L9.out.2.1 L9.out.2.2) (.inl (by first | exact HNO.out rfl | exact HNO.out trivial))
  · have HSZ2 := Lib.hid (fun (W : World) (h : Ds w W b p q') => ds_size h (L'.length : Int) (by rw [HSZ.out, hn]))
    clear hn
    have HS2 := Lib.hid (fun (W : World) (h : Ds w W b p q) => HST.out W h true 0 v 7 rfl)
    clear HST
    go_enter Try.func25, Try.ntmps25
    go_wp2_with fail
    refine htop.out.mono ?_
    rintro e w2 ⟨rfl, rfl⟩
    go_wp2_with fail
    refine (HS2.out _ G1.out.ds).mono ?_
    rintro e w3 ⟨rfl, h3, g3⟩
    have G3 := (G1.out.fr h3 g3).alloc (.cells #[.bool true, .int .i64 0, .int .i64 v, .int .i64 7] 34)
    have o0 := G3.o0
    have o1 := G3.o1
    have o2 := G3.o2
    have f2 := G3.fz 2
    have hBl : B < w3.heap.size := by have := (G1.out.fr h3 g3).bo.lt; exact this
    have nB : B ≠ w3.heap.size := by omega
    have nB' : w3.heap.size ≠ B := by omega
    have HG3 := Lib.hid G3
    clear G3 h3 g3 f1 hBl HS2 G1 htop HG
    go_wp2_with fail
    refine (HSZ2.out _ HG3.out.ds).mono ?_
    rintro e w5 ⟨rfl, rfl⟩
    go_wp2
    go_returns
    exact GPost.mk' HP rfl (by rw [← HMI.out]; exact HG3.out) (.inl (by first | exact HNO.out rfl | exact HNO.out trivial))
  · rw [HTP.out] at hb h0
    obtain rfl : Mi = 3 := HMI.out
    obtain ⟨g, go, rfl⟩ : ∃ g go, la = some ⟨g, go, none⟩ := by
      obtain ⟨g, o, e, _⟩ := ls_cell HG.out.ls L'.length (by simp)
      exact ⟨g, o, e⟩
    have hbot := Lib.hid (fun (W : World) (h : Ds w W b p q') => ds_bot h q'.bot rfl)
    have HPT := Lib.hid (And.intro HP.out.1 (And.intro HP.out.2.1 HP.out.2.2))
    have hln : (L' ++ [y]).length = L'.length + 1 := by simp
    have hcap := (ls_last HG.out.ls).1
    have hL64 : L'.length ≤ 64 := by have := HL.out; omega
    have hb' : q'.bot - tp = (L'.length : Int) := by omega
    have hlf : IntKind.i64.wrap (q'.bot - tp) = (L'.length : Int) := by rw [hb', IntKind.wrap_i64]; omega
    have h00 : (0 : Int) < (L'.length : Int) := by omega
    clear hb h0 hb'
    generalize q'.bot = bt at *
    have HLN := Lib.hid hln
    clear hln
    generalize hLL : (L' ++ [y]).length = NL at *
    obtain ⟨N, hN⟩ : ∃ N, N = L'.length := ⟨_, rfl⟩
    have hNL : NL = N + 1 := by rw [hN]; exact HLN.out
    rw [← hN] at hcap hL64 hlf h00
    subst hNL
    have HN := Lib.hid hN
    have HLL := Lib.hid hLL
    clear hN hLL
    have hw1 : IntKind.i64.wrap ((N : Int) + 1) = (N : Int) + 1 := by rw [IntKind.wrap_i64]; omega
    have hw2 : IntKind.i64.wrap (N : Int) = (N : Int) := by rw [IntKind.wrap_i64]; omega
    have hw3 : IntKind.i64.wrap ((N : Int) + 1 - 1) = (N : Int) := by rw [IntKind.wrap_i64]; omega
    have hN0 : (0 : Int) ≤ (N : Int) := by omega
    have hN1 : (N : Int) < ((N + 1 : Nat) : Int) := by omega
    have hN2 : (N : Int) ≤ (N : Int) + 1 := by omega
    have hN3 : (N : Int) ≤ (lc : Int) := by omega
    have hN4 : (N : Int) + 1 ≤ (lc : Int) := by omega
    have HS2 := Lib.hid (fun (W : World) (h : Ds w W b p q) => HST.out W h false 0 0 0 rfl)
    clear HST
    go_enter Try.func25, Try.ntmps25
    go_wp2_with fail
    refine htop.out.mono ?_
    rintro e w2 ⟨rfl, rfl⟩
    go_wp2_with fail
    refine (HS2.out _ G1.out.ds).mono ?_
    rintro e w3 ⟨rfl, h3, g3⟩
    have G3 := (G1.out.fr h3 g3).alloc (.cells #[.bool false, .int .i64 0, .int .i64 0, .int .i64 0] 34)
    have o0 := G3.o0
    have o1 := G3.o1
    have o2 := G3.o2
    have f2 := G3.fz 2
    have hBl : B < w3.heap.size := by have := (G1.out.fr h3 g3).bo.lt; exact this
    have nB : B ≠ w3.heap.size := by omega
    have nB' : w3.heap.size ≠ B := by omega
    have HG3 := Lib.hid G3
    clear G3 h3 g3 f1 hBl HS2 G1 htop HG
    go_wp2_with fail
    refine (hbot.out _ HG3.out.ds).mono ?_
    rintro e w5 ⟨rfl, rfl⟩
    go_wp2
    go_returns
    obtain rfl := HN.out
    have hls := HG3.out.ls
    rw [← HLL.out] at hls
    obtain ⟨ad, ead, _, hls2⟩ := ls_init hls
    have h9 := (HG3.out.setT _ [y] (ls_last hls).2 (fun k e => HG3.out.ns k e)).setL _ L' (ls_setB hls2 (fun k e => (HG3.out.ns k e).2.2.1)) (fun k e => HG3.out.ns k e)
    exact GPost.mk' (tk' := some y) (Lib.hid ⟨HP.out.1, (by have := HP.out.2.1; rw [HLL.out]; exact this), HP.out.2.2⟩) rfl h9 (.inr rfl)
  · rw [HTP.out] at hb h0
    obtain rfl : Mi = 3 := HMI.out
    have hbot := Lib.hid (fun (W : World) (h : Ds w W b p q') => ds_bot h q'.bot rfl)
    have hL64 : L'.length ≤ 64 := by have := HL.out; omega
    obtain ⟨lf, hlf⟩ : ∃ lf : Int, lf = q'.bot - tp := ⟨_, rfl⟩
    rw [← hlf] at hb h0
    have hw1 : IntKind.i64.wrap (q'.bot - tp) = lf := by rw [← hlf, IntKind.wrap_i64]; omega
    have hw2 : IntKind.i64.wrap (lf + 1) = (L'.length : Int) := by rw [← hb, IntKind.wrap_i64]; omega
    clear hb hlf
    generalize q'.bot = bt at *
    have HS2 := Lib.hid (fun (W : World) (h : Ds w W b p q) => HST.out W h false 0 0 0 rfl)
    clear HST
    go_enter Try.func25, Try.ntmps25
    go_wp2_with fail
    refine htop.out.mono ?_
    rintro e w2 ⟨rfl, rfl⟩
    go_wp2_with fail
    refine (HS2.out _ G1.out.ds).mono ?_
    rintro e w3 ⟨rfl, h3, g3⟩
    have G3 := (G1.out.fr h3 g3).alloc (.cells #[.bool false, .int .i64 0, .int .i64 0, .int .i64 0] 34)
    have o0 := G3.o0
    have o1 := G3.o1
    have o2 := G3.o2
    have f2 := G3.fz 2
    have hBl : B < w3.heap.size := by have := (G1.out.fr h3 g3).bo.lt; exact this
    have nB : B ≠ w3.heap.size := by omega
    have nB' : w3.heap.size ≠ B := by omega
    have HG3 := Lib.hid G3
    clear G3 h3 g3 f1 hBl HS2 G1 htop HG
    go_wp2_with fail
    refine (hbot.out _ HG3.out.ds).mono ?_
    rintro e w5 ⟨rfl, rfl⟩
    go_wp2
    go_returns
    exact GPost.mk' HP rfl (by rw [← HMI.out]; exact HG3.out) (.inr hT)
  · have htop2 := Lib.hid (fun (W : World) (h : Ds w W b p q') => ds_top h q'.top rfl)
    obtain rfl : Mi = 5 := HMI.out
    rw [HTP.out] at hb
    have hne : (q'.top != tp) = true := by simp; exact hb
    generalize q'.top = tp' at htop2 hne
    have HLs := Lib.hid HG.out.ns
    clear hb
    have HS2 := Lib.hid (fun (W : World) (h : Ds w W b p q) => HST.out W h false 0 0 0 rfl)
    clear HST
    go_enter Try.func25, Try.ntmps25
    go_wp2_with fail
    refine htop.out.mono ?_
    rintro e w2 ⟨rfl, rfl⟩
    go_wp2_with fail
    refine (HS2.out _ G1.out.ds).mono ?_
    rintro e w3 ⟨rfl, h3, g3⟩
    have G3 := (G1.out.fr h3 g3).alloc (.cells #[.bool false, .int .i64 0, .int .i64 0, .int .i64 0] 34)
    have o0 := G3.o0
    have o1 := G3.o1
    have o2 := G3.o2
    have f2 := G3.fz 2
    have hBl : B < w3.heap.size := by have := (G1.out.fr h3 g3).bo.lt; exact this
    have nB : B ≠ w3.heap.size := by omega
    have nB' : w3.heap.size ≠ B := by omega
    have HG3 := Lib.hid G3
    clear G3 h3 g3 f1 hBl HS2 G1 htop HG
    go_wp2_with fail
    refine (htop2.out _ HG3.out.ds).mono ?_
    rintro e w5 ⟨rfl, rfl⟩
    go_wp2
    go_returns
    have h9 := (HG3.out.setT _ [y] HG3.out.ls HG3.out.ns).setL (.slice none 0 0) [] (.inl ⟨rfl, rfl⟩) (fun g e => by cases e)
    rw [HMI.out] at h9
    exact GPost.mk' HP rfl h9 (.inr rfl)
  · have h3 : (Mi == 3) = false := by have := HMI.out; simp; omega
    have h5 : (Mi == 5) = false := by have := HMI.out; simp; omega
    subst hT
    have HS2 := Lib.hid (fun (W : World) (h : Ds w W b p q) => HST.out W h true 1 y 0 rfl)
    clear HST
    go_enter Try.func25, Try.ntmps25
    go_wp2_with fail
    refine htop.out.mono ?_
    rintro e w2 ⟨rfl, rfl⟩
    go_wp2_with fail
    refine (HS2.out _ G1.out.ds).mono ?_
    rintro e w3 ⟨rfl, h3, g3⟩
    have G3 := (G1.out.fr h3 g3).alloc (.cells #[.bool true, .int .i64 1, .int .i64 y, .int .i64 0] 34)
    have o0 := G3.o0
    have o1 := G3.o1
    have o2 := G3.o2
    have f2 := G3.fz 2
    have hBl : B < w3.heap.size := by have := (G1.out.fr h3 g3).bo.lt; exact this
    have nB : B ≠ w3.heap.size := by omega
    have nB' : w3.heap.size ≠ B := by omega
    have HG3 := Lib.hid G3
    clear G3 h3 g3 f1 hBl HS2 G1 htop HG
    obtain ⟨tg, tgo, rfl, htc⟩ := ls_cell HG3.out.lt 0 (by simp)
    have htc : (w3.alloc (.cells #[.bool true, .int .i64 1, .int .i64 y, .int .i64 0] 34)).cell? ⟨tg, tgo, none⟩ = some (.int .i64 y) := htc
    have o2 : (w3.alloc (.cells #[.bool true, .int .i64 1, .int .i64 y, .int .i64 0] 34)).cell? ⟨B, 2, none⟩ = some (.slice (some ⟨tg, tgo, none⟩) 1 tc) := HG3.out.o2
    clear hm
    go_wp2
    go_quiet (fail)
    go_wp2
    go_returns
    exact GPost.mk' HP rfl (by rw [← HMI.out]; exact HG3.out.drewN _) (.inl (by first | exact HNO.out rfl | exact HNO.out trivial))
  · have h3 : (Mi == 3) = false := by have := HMI.out; simp; omega
    have h5 : (Mi == 5) = false := by have := HMI.out; simp; omega
    subst hT
    clear hm
    have HS2 := Lib.hid (fun (W : World) (h : Ds w W b p q) => HST.out W h true 1 0 8 rfl)
    clear HST
    go_enter Try.func25, Try.ntmps25
    go_wp2_with fail
    refine htop.out.mono ?_
    rintro e w2 ⟨rfl, rfl⟩
    go_wp2_with fail
    refine (HS2.out _ G1.out.ds).mono ?_
    rintro e w3 ⟨rfl, h3, g3⟩
    have G3 := (G1.out.fr h3 g3).alloc (.cells #[.bool true, .int .i64 1, .int .i64 0, .int .i64 8] 34)
    have o0 := G3.o0
    have o1 := G3.o1
    have o2 := G3.o2
    have f2 := G3.fz 2
    have hBl : B < w3.heap.size := by have := (G1.out.fr h3 g3).bo.lt; exact this
    have nB : B ≠ w3.heap.size := by omega
    have nB' : w3.heap.size ≠ B := by omega
    have HG3 := Lib.hid G3
    clear G3 h3 g3 f1 hBl HS2 G1 htop HG
    go_wp2
    go_quiet (fail)
    go_wp2
    go_returns
    exact GPost.mk' HP rfl (by rw [← HMI.out]; exact HG3.out.drewN _) (.inl (by first | exact HNO.out rfl | exact HNO.out trivial))
end Go.Proofs.Ytldobbdaokjgaaa
