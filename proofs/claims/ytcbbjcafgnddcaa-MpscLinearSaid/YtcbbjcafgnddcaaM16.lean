/- MpscLinear's walk. -/
import Derived.Test.YtcbbjcafgnddcaaM13
import Derived.Test.YtcbbjcafgnddcaaM14
import Derived.Test.YtcbbjcafgnddcaaM15
import Derived.Deep.DeepCutAuto
namespace Go.Proofs.Ytcbbjcafgnddcaa
open Go.RowKit Go.Shelf
set_option linter.unusedVariables false
set_option linter.unusedSimpArgs false
/-- the queue, the two arrays, the list, as they lie -/
structure Lr (w W : World) (b : Nat) (S : Nat → Prop) (q : Q) (bm bw : Nat) (mk wk : Nat → Int) (v : Value) (l : List Int) : Prop where
  qs : Qs w W b S q
  ls : Ls W v l
  ns : ∀ g, blk v = some g → ¬ S g ∧ w.heap.size ≤ g ∧ g ≠ bm ∧ g ≠ bw
  rm : W.rowIs bm 3 8 (fun i => .int .i64 (mk i))
  rw : W.rowIs bw 2 8 (fun i => .int .i64 (wk i))
  nm : ¬ S bm
  nw : ¬ S bw
  ne : bm ≠ bw
  lm : w.heap.size ≤ bm
  lw : w.heap.size ≤ bw
/-- between two statements -/
structure Ln (w W : World) (b : Nat) (S : Nat → Prop) (q : Q) (r : List Nat) (bm bw : Nat) (mk wk : Nat → Int) (v : Value) (l : List Int) : Prop where
  m : Lr w W b S q bm bw mk wk v l
  I : Inv q r
  eq : l = r.map q.v
  kn : Kn q mk wk
section
variable {w W W' : World} {b : Nat} {S S' : Nat → Prop} {q q' : Q} {r r' : List Nat} {bm bw : Nat} {mk wk mk' wk' : Nat → Int} {v v' : Value} {l l' : List Int}
theorem Lr.below (h : Lr w W b S q bm bw mk wk v l) (g : Below W.heap.size W W') : Lr w W' b S q bm bw mk wk v l :=
  { h with qs := h.qs.below g, ls := h.ls.below g, rm := row_below h.rm g (World.rowIs.lt h.rm), rw := row_below h.rw g (World.rowIs.lt h.rw) }
theorem Lr.alloc (h : Lr w W b S q bm bw mk wk v l) (o : Obj) : Lr w (W.alloc o) b S q bm bw mk wk v l := h.below ((Below.refl W.heap.size W).alloc (Nat.le_refl _) o)
theorem Lr.drewN (h : Lr w W b S q bm bw mk wk v l) (n : Nat) : Lr w (W.drewN n) b S q bm bw mk wk v l := h.below (gb_below (gb_drewN W n none) (Nat.le_refl _) (fun k e => by cases e))
theorem Lr.cm (h : Lr w W b S q bm bw mk wk v l) (k : Nat) (hk : k < 8) : W.cell? ⟨bm, k, none⟩ = some (.int .i64 (mk k)) := World.rowIs.cell h.rm hk
theorem Lr.cw (h : Lr w W b S q bm bw mk wk v l) (k : Nat) (hk : k < 8) : W.cell? ⟨bw, k, none⟩ = some (.int .i64 (wk k)) := World.rowIs.cell h.rw hk
theorem Lr.fm (h : Lr w W b S q bm bw mk wk v l) (k : Nat) : W.frozen? ⟨bm, k, none⟩ = false := World.rowIs.frozen h.rm k
theorem Lr.fw (h : Lr w W b S q bm bw mk wk v l) (k : Nat) : W.frozen? ⟨bw, k, none⟩ = false := World.rowIs.frozen h.rw k
theorem Lr.setM (h : Lr w W b S q bm bw mk wk v l) (k : Nat) (x : Int) : Lr w (W.setCell ⟨bm, k, none⟩ (.int .i64 x)) b S q bm bw (fun i => if i = k then x else mk i) wk v l :=
  { h with
    qs := h.qs.set h.nm h.lm k _
    ls := h.ls.of (fun g hg _ => Below.heap_setCell _ _ _ _ (h.ns g hg).2.2.1)
    rm := (h.rm.set k _).congr (fun i hi => by by_cases e : i = k <;> simp [e])
    rw := h.rw.setOther (Ne.symm h.ne) _ }
theorem Lr.setW (h : Lr w W b S q bm bw mk wk v l) (k : Nat) (x : Int) : Lr w (W.setCell ⟨bw, k, none⟩ (.int .i64 x)) b S q bm bw mk (fun i => if i = k then x else wk i) v l :=
  { h with
    qs := h.qs.set h.nw h.lw k _
    ls := h.ls.of (fun g hg _ => Below.heap_setCell _ _ _ _ (h.ns g hg).2.2.2)
    rw := (h.rw.set k _).congr (fun i hi => by by_cases e : i = k <;> simp [e])
    rm := h.rm.setOther h.ne _ }
theorem Lr.nx (h : Lr w W b S q bm bw mk wk v l) (qs : Qs w W' b S' q') (g : Nx W W' S S') : Lr w W' b S' q' bm bw mk wk v l :=
  ⟨qs, h.ls.nx g (fun k hk => (h.ns k hk).1), fun k hk => ⟨fun x => (h.ns k hk).1 (g.old k (ls_lt h.ls hk) x), (h.ns k hk).2⟩, (row_nx h.rm h.nm g).1, (row_nx h.rw h.nw g).1, (row_nx h.rm h.nm g).2, (row_nx h.rw h.nw g).2, h.ne, h.lm, h.lw⟩
theorem Lr.mkeq (h : Lr w W b S q bm bw mk wk v l) (e1 : ∀ i, i < 8 → mk i = mk' i) (e2 : ∀ i, i < 8 → wk i = wk' i) : Lr w W b S q bm bw mk' wk' v l :=
  { h with rm := h.rm.congr (fun i hi => by rw [e1 i hi]), rw := h.rw.congr (fun i hi => by rw [e2 i hi]) }
end
theorem cp_a1 {W4 w8 : World} {v8 : Value} (f8 : Fr W4.drew w8 (fun _ => False)) (n8 : ∀ g, blk v8 = some g → W4.drew.heap.size ≤ g) : Below W4.heap.size W4 w8 ∧ ∀ g, blk v8 = some g → W4.heap.size ≤ g :=
  ⟨⟨f8.os, f8.tape, f8.output, f8.size, fun k hk => f8.block k hk (fun x => x)⟩, n8⟩
theorem cp_a2 {W4 w8 : World} {v8 : Value} {X : Int} (f8 : Fr (W4.alloc (.cells #[.int .i64 X] 2)).drew w8 (fun _ => False)) (n8 : ∀ g, blk v8 = some g → (W4.alloc (.cells #[.int .i64 X] 2)).drew.heap.size ≤ g) : Below W4.heap.size W4 w8 ∧ (∀ g, blk v8 = some g → W4.heap.size ≤ g) ∧ w8.cell? ⟨W4.heap.size, 0, none⟩ = some (.int .i64 X) := by
  have hs : (W4.alloc (.cells #[.int .i64 X] 2)).drew.heap.size = W4.heap.size + 1 := World.size_alloc _ _
  have h8 := f8.size
  refine ⟨⟨f8.os, f8.tape, f8.output, by omega, fun k hk => (f8.block k (by omega) (fun x => x)).trans (Below.heap_alloc W4 _ k hk)⟩, fun g hg => by have := n8 g hg; omega, ?_⟩
  exact (Fr.cell f8 (p := ⟨W4.heap.size, 0, none⟩) (by show W4.heap.size < _; omega) (fun x => x)).trans (Boxed.new W4 2 (.int .i64 X)).cell
theorem cp_b1 {W4 w8 w9 : World} {v8 v9 : Value} {o : Obj} {n : Nat} (B8 : Below n W4 w8) (N8 : ∀ g, blk v8 = some g → n ≤ g) (f9 : Fr (w8.alloc o) w9 (fun k => blk v8 = some k)) (n9 : ∀ g, blk v9 = some g → blk v8 = some g ∨ (w8.alloc o).heap.size ≤ g) (hn : n ≤ W4.heap.size := by exact Nat.le_refl _) : Below n W4 w9 ∧ ∀ g, blk v9 = some g → n ≤ g := by
  have h1 := f9.size
  have h2 := B8.size
  rw [World.size_alloc] at h1
  refine ⟨⟨f9.os.trans B8.os, f9.tape.trans B8.tape, f9.output.trans B8.output, by omega, fun k hk => ((f9.block k (by rw [World.size_alloc]; omega) (fun e => by have := N8 k e; omega)).trans (Below.heap_alloc w8 o k (by omega))).trans (B8.block k hk)⟩, fun g hg => ?_⟩
  rcases n9 g hg with h | h
  · exact N8 g h
  · rw [World.size_alloc] at h; omega
theorem cp_b2 {W4 w8 w9 : World} {v8 v9 : Value} {n : Nat} (B8 : Below n W4 w8) (N8 : ∀ g, blk v8 = some g → n ≤ g) (f9 : Fr w8 w9 (fun k => blk v8 = some k)) (n9 : ∀ g, blk v9 = some g → blk v8 = some g ∨ w8.heap.size ≤ g) (hn : n ≤ W4.heap.size := by exact Nat.le_refl _) : Below n W4 w9 ∧ ∀ g, blk v9 = some g → n ≤ g := by
  have h1 := f9.size
  have h2 := B8.size
  refine ⟨⟨f9.os.trans B8.os, f9.tape.trans B8.tape, f9.output.trans B8.output, by omega, fun k hk => (f9.block k (by omega) (fun e => by have := N8 k e; omega)).trans (B8.block k hk)⟩, fun g hg => ?_⟩
  rcases n9 g hg with h | h
  · exact N8 g h
  · omega
theorem Lr.app {w W W' : World} {b : Nat} {S : Nat → Prop} {q : Q} {bm bw : Nat} {mk wk : Nat → Int} {v v' : Value} {l l' : List Int} (h : Lr w W b S q bm bw mk wk v l) (hl : Ls W' v' l') (g : Below W.heap.size W W') (n : ∀ g, blk v' = some g → W.heap.size ≤ g) : Lr w W' b S q bm bw mk wk v' l' :=
  { h.below g with
    ls := hl
    ns := fun k hk => by
      have h1 := n k hk
      have h2 := World.rowIs.lt h.rm
      have h3 := World.rowIs.lt h.rw
      exact ⟨fun x => by have := h.qs.hi k x; omega, Nat.le_trans h.qs.bel.size h1, by omega, by omega⟩ }
theorem make54 (w : World) : (Instr.makeSlice 54 (.int .i64 8) (.int .i64 8)).run Try.prog w = .ok (.slice (some ⟨w.heap.size, 0, none⟩) 8 8) (w.alloc (.cells (madeCells #[.int .i64 0] 8) 3)) := by
  have h : (Try.prog.info? 3).map (fun i => (i.zero, i.size, i.bytes)) = some (some (.int .i64 0), 1, 8) := by kernel_rfl
  exact run_make_row' 54 3 (.int .i64 0) 8 Try.underlying54 h rfl .i64 .i64 8 (by omega) (by omega) w
theorem make22 (w : World) : (Instr.makeSlice 22 (.int .i64 8) (.int .i64 8)).run Try.prog w = .ok (.slice (some ⟨w.heap.size, 0, none⟩) 8 8) (w.alloc (.cells (madeCells #[.int .i64 0] 8) 2)) := by
  have h : (Try.prog.info? 2).map (fun i => (i.zero, i.size, i.bytes)) = some (some (.int .i64 0), 1, 8) := by kernel_rfl
  exact run_make_row' 22 2 (.int .i64 0) 8 Try.underlying22 h rfl .i64 .i64 8 (by omega) (by omega) w
theorem mod8 (x : Int) : ∃ k : Nat, k < 8 ∧ wrap64 ((IntKind.u64.wrap x).tmod 8) = (k : Int) := by
  have h0 : 0 ≤ IntKind.u64.wrap x := by rw [IntKind.wrap_u64]; omega
  refine ⟨((IntKind.u64.wrap x).tmod 8).toNat, ?_, ?_⟩
  · rw [Int.tmod_eq_emod_of_nonneg h0]; omega
  · rw [Int.tmod_eq_emod_of_nonneg h0]
    unfold wrap64
    omega
set_option maxRecDepth 100000 in
set_option maxHeartbeats 8000000 in
theorem linear_any (a : Option Addr) (len cap : Nat) (z : Nat → Int) (w : World) (hr : Ins w a len z) (hlen : len ≤ 9223372036854775807) :
    Calls Try.prog 5 #[.slice a len cap] w fun e w' => e = .returned (.bool true) ∧ Below w.heap.size w w' := by
  have hz := zero29
  have hk1 := make54
  have hk2 := make22
  go_enter Try.func5, Try.ntmps5
  go_wp2_with fail
  refine (lives_any _).mono ?_
  rintro e w1 ⟨rfl, g1⟩
  go_wp2_with fail
  refine (q_new g1).mono ?_
  rintro e w2 ⟨b, S0, rfl, h2⟩
  have C0 : Ln w ((w2.alloc (.cells (madeCells #[.int .i64 0] 8) 3)).alloc (.cells (madeCells #[.int .i64 0] 8) 2)) b S0 Q0 [] w2.heap.size (w2.heap.size + 1) (fun _ => 0) (fun _ => 0) (.slice none 0 0) [] := by
    have h3 := h2.alloc (.cells (madeCells #[.int .i64 0] 8) 3)
    have n3 := h3.new
    have hb := h2.bel.size
    rw [World.size_alloc] at n3
    have r1 := (World.rowIs_made w2 (.int .i64 0) 8 3).alloc (.cells (madeCells #[.int .i64 0] 8) 2)
    have r2 := World.rowIs_made (w2.alloc (.cells (madeCells #[.int .i64 0] 8) 3)) (.int .i64 0) 8 2
    rw [World.size_alloc] at r2
    exact ⟨⟨h3.alloc _, .inl ⟨rfl, rfl⟩, fun g hg => (by cases hg), r1, r2, h2.new, n3, by omega, hb, by omega⟩, inv0, rfl, fun k hk h => (by cases h)⟩
  clear h2 g1
  have HR := Lib.hid hr
  clear hr
  go_wp2_with fail
  generalize ((w2.alloc (.cells (madeCells #[.int .i64 0] 8) 3)).alloc (.cells (madeCells #[.int .i64 0] 8) 2)) = w3 at *
  generalize w2.heap.size + 1 = bw at *
  generalize w2.heap.size = bm at *
  go_loopw [4, 7, 8] (fun v nv k wr => ∃ (i n : Nat) (S : Nat → Prop) (q : Q) (r : List Nat) (mk wk : Nat → Int) (l : List Int), i ≤ len ∧ i ≤ 50000 ∧ k = .int .i64 i ∧ nv = .int .i64 n ∧ Ln w wr b S q r bm bw mk wk v l ∧ q.n ≤ i + 1 ∧ l.length ≤ i ∧ n ≤ i) (fun v nv k wr => len - (intOf k).toNat)
  case atStart => exact ⟨0, 0, S0, Q0, [], _, _, [], by omega, by omega, rfl, rfl, C0, by decide, by simp, by omega⟩
  case round =>
    clear C0 hk1 hk2
    obtain ⟨i, n, S, q, r, mk, wk, l, hi, hi5, rfl, rfl, C, hqn, hll, hni⟩ := hrel
    by_cases hlt : i < len ∧ i < 50000
    · obtain ⟨sb, so, rfl, hsb, c0⟩ := HR.out i hlt.1
      have c0 := (C.m.qs.bel.cell (p := ⟨sb, so + i, none⟩) hsb).trans c0
      have h1 : (i : Int) < (len : Int) := by omega
      have h2 : (i : Int) < 50000 := by omega
      obtain ⟨k, hk8, hk⟩ := mod8 (z i)
      generalize z i = zi at *
      obtain ⟨o, ho⟩ : ∃ o, o = (q.th k).on := ⟨_, rfl⟩
      have hbz := q_busy C.m.qs k o (by rw [decide_eq_true (by omega), ho]; simp)
      go_upto_if 38 with (go_at_call 19; refine hbz.mono ?_; rintro e w' ⟨rfl, rfl⟩)
      clear c0 h2 hbz
      have HB := Lib.hid (And.intro hi (And.intro hi5 (And.intro hlt (And.intro hqn (And.intro hll hni)))))
      clear hi hi5 hlt hqn hll hni
      have HC := Lib.hid C
      obtain ⟨av, cv, rfl⟩ := ls_slice C.m.ls
      clear C
      go_cut [7] (fun nv wx => ∃ (n' : Nat) (S' : Nat → Prop) (q' : Q) (mk' wk' : Nat → Int), nv = .int .i64 n' ∧ Ln w wx b S' q' r bm bw mk' wk' (.slice av l.length cv) l ∧ q'.n ≤ i + 2 ∧ n' ≤ i + 1 ∧ (q'.th k).on = true)
      case first =>
        cases hon : (q.th k).on
        · obtain ⟨q1, hB, I1⟩ := br_any HC.out.m.qs.V HC.out.I hk8 hon (by have := HB.out; omega) (if k = 0 then n else n + 1)
          have c1 := HC.out.m.cm k hk8
          have f1 := HC.out.m.fm k
          have c2 := HC.out.m.cw k hk8
          have f2 := HC.out.m.fw k
          have ne := HC.out.m.ne
          have ne2 := Ne.symm ne
          have hko : (k : Int) < 8 := by omega
          have HON := Lib.hid hon
          have HI1 := Lib.hid I1
          have hn5 : n ≤ 50000 := by have := HB.out; omega
          by_cases h0 : k = 0
          · subst h0
            have HBr := Lib.hid hB
            have L1 := HC.out.m.setM 0 0
            have HBe := Lib.hid hB.e
            rw [if_pos rfl] at HBe
            clear hB hon I1 hn5
            go_wp2_with fail
            refine (q_begin L1.qs 0 n 0 q1 HBe.out).mono ?_
            rintro e W1 ⟨rfl, S1, h1', g1⟩
            have L2 := (L1.nx h1' g1).mkeq (mk' := fun i => if i = 0 then 0 else mk i) (wk' := fun i => if (0 : Nat) ≠ 0 ∧ i = 0 then (if (0 : Nat) = 0 then (n : Int) else n + 1) else wk i) (fun i _ => rfl) (fun i _ => by rw [if_neg (fun x => x.1 rfl)])
            have LN : Ln w W1 b S1 q1 r bm bw _ _ (.slice av l.length cv) l := ⟨L2, HI1.out, by rw [HC.out.eq]; exact List.map_congr_left (fun x hx => (HBr.out.vv x (HC.out.I.lt x hx)).symm), kn_begin HC.out.m.qs.V HC.out.kn HBr.out⟩
            have HLN := Lib.hid LN
            clear L1 L2 LN h1' g1 c1 c2 f1 f2
            go_wp2
            go_meet
            exact ⟨n, S1, q1, _, _, rfl, HLN.out, by rw [HBr.out.nn, if_pos rfl]; have := HB.out; omega, by have := HB.out; omega, by rw [HBr.out.th]⟩
          · have HBr := Lib.hid hB
            have hk0 : (0 : Int) < (k : Int) := by omega
            have L1 := (HC.out.m.setM k 0).setW k ((n : Int) + 1)
            have HBe := Lib.hid hB.e
            rw [if_neg h0] at HBe
            have H0 := Lib.hid h0
            have hnw : IntKind.i64.wrap ((n : Int) + 1) = (n : Int) + 1 := IntWalk.i64_in _ (by omega)
            clear hB hon I1 hn5 h0
            go_wp2_with fail
            refine (q_begin L1.qs k ((n : Int) + 1) 0 q1 HBe.out).mono ?_
            rintro e W1 ⟨rfl, S1, h1', g1⟩
            have L2 := (L1.nx h1' g1).mkeq (mk' := fun i => if i = k then 0 else mk i) (wk' := fun i => if k ≠ 0 ∧ i = k then (if k = 0 then (n : Int) else n + 1) else wk i) (fun i _ => rfl) (fun i _ => by rw [if_neg H0.out]; by_cases e : i = k <;> simp [e, H0.out])
            have LN : Ln w W1 b S1 q1 r bm bw _ _ (.slice av l.length cv) l := ⟨L2, HI1.out, by rw [HC.out.eq]; exact List.map_congr_left (fun x hx => (HBr.out.vv x (HC.out.I.lt x hx)).symm), kn_begin HC.out.m.qs.V HC.out.kn HBr.out⟩
            have HLN := Lib.hid LN
            clear L1 L2 LN h1' g1 c1 c2 f1 f2
            go_wp2
            go_meet
            exact ⟨n + 1, S1, q1, _, _, by congr 1, HLN.out, by rw [HBr.out.nn, if_neg H0.out]; have := HB.out; omega, by have := HB.out; omega, by rw [HBr.out.th]⟩
        · have HON := Lib.hid hon
          clear hon
          go_wp2
          go_meet
          exact ⟨n, S, q, mk, wk, rfl, HC.out, by have := HB.out; omega, by have := HB.out; omega, HON.out⟩
      case rest =>
        obtain ⟨n', S', q', mk', wk', rfl, C, hq2, hn2, hon⟩ := hcut
        have hkn := C.kn k hk8 hon
        have hmd := C.m.qs.V.made k hk8 hon
        have V := C.m.qs.V
        have hko : (k : Int) < 8 := by omega
        have HQ2 := Lib.hid (And.intro hq2 hn2)
        clear hq2 hn2 HC
        by_cases h0 : k = 0
        · subst h0
          rw [if_pos rfl] at hmd
          by_cases m0 : (q'.th 0).made = 0
          · obtain ⟨q1, s, I1, hth⟩ := sr_take0 V C.I hon m0
            have c1 := C.m.cm 0 (by omega)
            rw [hkn.1, m0] at c1
            have f1 := C.m.fm 0
            have L1 := C.m.setM 0 1
            have HKN := Lib.hid (kn_step C.kn (by omega) s hon (by rw [hth]; exact fun _ => ⟨by rw [m0], fun h => absurd rfl h⟩))
            have HS := Lib.hid s
            have HI := Lib.hid I1
            have HE := Lib.hid s.e
            have HCC := Lib.hid C
            have HWK := Lib.hid hkn
            clear s I1 hth C hkn hon V
            go_wp2_with fail
            refine (q_step L1.qs 0 false false 0 0 0 q1 HE.out).mono ?_
            rintro e W1 ⟨rfl, hs, g⟩
            have L3 := (L1.nx hs g).alloc (.cells #[.bool false, .bool false, .int .i64 0, .int .i64 0] 29)
            have bx := row_new W1 #[.bool false, .bool false, .int .i64 0, .int .i64 0] 29 4 (fun i => if i = 0 then .bool false else if i = 1 then .bool false else if i = 2 then .int .i64 0 else .int .i64 0) rfl (fun i hi => by match i, hi with | 0, _ => rfl | 1, _ => rfl | 2, _ => rfl | 3, _ => rfl)
            clear L1 hs g c1 f1
            go_wp2_with fail
            generalize W1.alloc (.cells #[.bool false, .bool false, .int .i64 0, .int .i64 0] 29) = W2 at *
            generalize W1.heap.size = Bx at *
            have c1 : W2.cell? ⟨bm, 0, none⟩ = some (.int .i64 1) := by have := L3.cm 0 (by omega); simpa using this
            have c2 := L3.cw 0 (by omega)
            have b0 := row_val bx (i := 0) (v := .bool false) (by omega) rfl
            have b1 := row_val bx (i := 1) (v := .bool false) (by omega) rfl
            have b2 := row_val bx (i := 2) (v := .int .i64 0) (by omega) rfl
            have b3 := row_val bx (i := 3) (v := .int .i64 0) (by omega) rfl
            have HL3 := Lib.hid L3
            clear L3 bx
            go_quiet (fail)
            go_wp2
            have L4 : Lr w (W2.drewN nq) b S' q1 bm bw (fun i => if i = 0 then mk' 0 + 1 else mk' i) wk' (.slice av l.length cv) l := (HL3.out.drewN nq).mkeq (fun i _ => by by_cases e : i = 0 <;> simp [e, HWK.out.1, m0]) (fun i _ => rfl)
            have LN : Ln w (W2.drewN nq) b S' q1 r bm bw _ wk' (.slice av l.length cv) l := ⟨L4, HI.out, by rw [HCC.out.eq, HS.out.vv], HKN.out⟩
            have HLN := Lib.hid LN
            have HBB := HB.out
            have HQQ := HQ2.out
            clear L4 LN
            go_roundw
            case rel =>
              refine ⟨i + 1, n', S', q1, r, _, wk', l, ?_, ?_, ?_, rfl, HLN.out, ?_, ?_, ?_⟩
              · omega
              · omega
              · go_num
              · rw [HS.out.nn]; omega
              · omega
              · omega
            case measure => simp [intOf]; omega
          · have m1 : (q'.th 0).made = 1 := by omega
            obtain ⟨tv, te, q1, r1, s, I1, hth, hT⟩ := sr_take1 V C.I hon m1
            have c1 := C.m.cm 0 (by omega)
            rw [hkn.1, m1] at c1
            have f1 := C.m.fm 0
            have L1 := C.m.setM 0 2
            have HKN := Lib.hid (kn_step C.kn (by omega) s hon (by rw [hth]; exact fun h => by cases h))
            have HS := Lib.hid s
            have HI := Lib.hid I1
            have HE := Lib.hid s.e
            have HCC := Lib.hid C
            have HWK := Lib.hid hkn
            clear s I1 hth C hkn hon V
            go_wp2_with fail
            refine (q_step L1.qs 0 true true tv te 0 q1 HE.out).mono ?_
            rintro e W1 ⟨rfl, hs, g⟩
            have L3 := (L1.nx hs g).alloc (.cells #[.bool true, .bool true, .int .i64 tv, .int .i64 te] 29)
            have bx := row_new W1 #[.bool true, .bool true, .int .i64 tv, .int .i64 te] 29 4 (fun i => if i = 0 then .bool true else if i = 1 then .bool true else if i = 2 then .int .i64 tv else .int .i64 te) rfl (fun i hi => by match i, hi with | 0, _ => rfl | 1, _ => rfl | 2, _ => rfl | 3, _ => rfl)
            clear L1 hs g c1 f1
            go_wp2_with fail
            generalize W1.alloc (.cells #[.bool true, .bool true, .int .i64 tv, .int .i64 te] 29) = W2 at *
            generalize W1.heap.size = Bx at *
            have c1 : W2.cell? ⟨bm, 0, none⟩ = some (.int .i64 2) := by have := L3.cm 0 (by omega); simpa using this
            have c2 := L3.cw 0 (by omega)
            have b0 := row_val bx (i := 0) (v := .bool true) (by omega) rfl
            have b1 := row_val bx (i := 1) (v := .bool true) (by omega) rfl
            have b2 := row_val bx (i := 2) (v := .int .i64 tv) (by omega) rfl
            have b3 := row_val bx (i := 3) (v := .int .i64 te) (by omega) rfl
            have HL3 := Lib.hid L3
            clear L3 bx
            rcases hT with ⟨x, hrr, hvv, rfl⟩ | ⟨hrr, hr0, rfl, rfl⟩ | ⟨hrr, hr0, rfl, rfl⟩
            · have he : l = tv :: r1.map q'.v := by rw [HCC.out.eq, hrr, hvv]; rfl
              obtain ⟨gg, oo, rfl, hcell⟩ := ls_cell HL3.out.ls 0 (by rw [he]; simp)
              have hcell : W2.cell? ⟨gg, oo, none⟩ = some (.int .i64 tv) := by rw [he] at hcell; exact hcell
              have HEL := Lib.hid he
              have htl := HL3.out.ls
              rw [he] at htl
              have htl := ls_tail htl
              have hcap := htl.2.2
              have HTL := Lib.hid htl
              have hlen1 : l.length = (r1.map q'.v).length + 1 := by rw [he]; rfl
              clear htl he
              rw [hlen1]
              have hn0 : (0 : Int) < (((r1.map q'.v).length + 1 : Nat) : Int) := by omega
              have hn1 : 0 < (r1.map q'.v).length + 1 := by omega
              have hn2 : decide (0 < (r1.map q'.v).length + 1) = true := decide_eq_true hn1
              have HL1 := Lib.hid hlen1
              clear hlen1
              generalize hM : (r1.map q'.v).length = M at *
              have HM := Lib.hid hM
              clear hM
              go_quiet (fail)
              generalize nq = nA at *
              go_wp2_with fail
              go_quiet (fail)
              go_wp2
              have HBB := HB.out
              have HQQ := HQ2.out
              have hl7 := HL1.out
              go_roundw
              case rel =>
                by_cases e1 : cv = 1
                · obtain rfl : M = 0 := by omega
                  subst e1
                  rw [if_pos rfl]
                  have L5 : Lr w (W2.drewN (nA + nq)) b S' q1 bm bw (fun i => if i = 0 then mk' 0 + 1 else mk' i) wk' (.slice (some ⟨gg, oo, none⟩) 0 0) (r1.map q'.v) := { (HL3.out.drewN (nA + nq)).mkeq (mk' := fun i => if i = 0 then mk' 0 + 1 else mk' i) (wk' := wk') (fun i _ => by by_cases e : i = 0 <;> simp [e, HWK.out.1, m1]) (fun i _ => rfl) with ls := (HTL.out.2.1 rfl).2.below (gb_below (gb_drewN W2 _ none) (Nat.le_refl _) (fun k e => by cases e)), ns := fun g hg => HL3.out.ns g hg }
                  refine ⟨i + 1, n', S', q1, r1, _, wk', r1.map q'.v, ?_, ?_, ?_, rfl, ⟨L5, HI.out, by rw [HS.out.vv], HKN.out⟩, ?_, ?_, ?_⟩
                  · omega
                  · omega
                  · go_num
                  · rw [HS.out.nn]; omega
                  · rw [HM.out]; omega
                  · omega
                · rw [if_neg e1]
                  have L5 : Lr w (W2.drewN (nA + nq)) b S' q1 bm bw (fun i => if i = 0 then mk' 0 + 1 else mk' i) wk' (.slice (some ⟨gg, oo + 1, none⟩) M (cv - 1)) (r1.map q'.v) := { (HL3.out.drewN (nA + nq)).mkeq (mk' := fun i => if i = 0 then mk' 0 + 1 else mk' i) (wk' := wk') (fun i _ => by by_cases e : i = 0 <;> simp [e, HWK.out.1, m1]) (fun i _ => rfl) with ls := (HTL.out.1 e1).below (gb_below (gb_drewN W2 _ none) (Nat.le_refl _) (fun k e => by cases e)), ns := fun g hg => HL3.out.ns g hg }
                  refine ⟨i + 1, n', S', q1, r1, _, wk', r1.map q'.v, ?_, ?_, ?_, rfl, ⟨L5, HI.out, by rw [HS.out.vv], HKN.out⟩, ?_, ?_, ?_⟩
                  · omega
                  · omega
                  · go_num
                  · rw [HS.out.nn]; omega
                  · rw [HM.out]; omega
                  · omega
              case measure => simp [intOf]; omega
            · subst hrr
              obtain rfl : l = [] := by rw [HCC.out.eq, hr0]; rfl
              have hl7 := HB.out
              simp only [List.length_nil] at *
              go_quiet (fail)
              generalize nq = nA at *
              go_wp2
              have L4 : Lr w (W2.drewN nA) b S' q1 bm bw (fun i => if i = 0 then mk' 0 + 1 else mk' i) wk' (.slice av 0 cv) [] := (HL3.out.drewN nA).mkeq (fun i _ => by by_cases e : i = 0 <;> simp [e, HWK.out.1, m1]) (fun i _ => rfl)
              have LN : Ln w (W2.drewN nA) b S' q1 r bm bw _ wk' (.slice av 0 cv) [] := ⟨L4, HI.out, by rw [hr0]; rfl, HKN.out⟩
              have HLN := Lib.hid LN
              have HBB := HB.out
              have HQQ := HQ2.out
              clear L4 LN
              go_roundw
              case rel =>
                refine ⟨i + 1, n', S', q1, r, _, wk', [], ?_, ?_, ?_, rfl, HLN.out, ?_, ?_, ?_⟩
                · omega
                · omega
                · go_num
                · rw [HS.out.nn]; omega
                · simp
                · omega
              case measure => simp [intOf]; omega
            · subst hrr
              have hl0 : l ≠ [] := by rw [HCC.out.eq]; simpa using hr0
              have hn1 : 0 < l.length := List.length_pos_iff.2 hl0
              have hn0 : (0 : Int) < ((l.length : Nat) : Int) := by omega
              have hn2 : decide (0 < l.length) = true := decide_eq_true hn1
              clear hl0 hr0
              go_quiet (fail)
              generalize nq = nA at *
              go_wp2
              have L4 : Lr w (W2.drewN nA) b S' q1 bm bw (fun i => if i = 0 then mk' 0 + 1 else mk' i) wk' (.slice av l.length cv) l := (HL3.out.drewN nA).mkeq (fun i _ => by by_cases e : i = 0 <;> simp [e, HWK.out.1, m1]) (fun i _ => rfl)
              have LN : Ln w (W2.drewN nA) b S' q1 r bm bw _ wk' (.slice av l.length cv) l := ⟨L4, HI.out, by rw [HCC.out.eq, HS.out.vv], HKN.out⟩
              have HLN := Lib.hid LN
              have HBB := HB.out
              have HQQ := HQ2.out
              clear L4 LN
              go_roundw
              case rel =>
                refine ⟨i + 1, n', S', q1, r, _, wk', l, ?_, ?_, ?_, rfl, HLN.out, ?_, ?_, ?_⟩
                · omega
                · omega
                · go_num
                · rw [HS.out.nn]; omega
                · omega
                · omega
              case measure => simp [intOf]; omega
        · rw [if_neg h0] at hmd
          have hwk := hkn.2 h0
          have hk0 : (0 : Int) < (k : Int) := by omega
          have hkz : ((k : Int) == 0) = false := by simp; omega
          have hk0n : 0 < k := by omega
          have hk0d : decide (0 < k) = true := decide_eq_true hk0n
          by_cases m0 : (q'.th k).made = 0
          · obtain ⟨q1, s, I1, hth⟩ := sr_put0 V C.I hk8 h0 hon m0
            have c1 := C.m.cm k (by omega)
            rw [hkn.1, m0] at c1
            have f1 := C.m.fm k
            have L1 := C.m.setM k 1
            have HKN := Lib.hid (kn_step C.kn (by omega) s hon (by rw [hth]; exact fun _ => ⟨by rw [m0], fun _ => rfl⟩))
            have HS := Lib.hid s
            have HI := Lib.hid I1
            have HE := Lib.hid s.e
            have HCC := Lib.hid C
            have HWK := Lib.hid hkn
            clear s I1 hth C hkn hon V
            go_wp2_with fail
            refine (q_step L1.qs k false false 0 0 0 q1 HE.out).mono ?_
            rintro e W1 ⟨rfl, hs, g⟩
            have L3 := (L1.nx hs g).alloc (.cells #[.bool false, .bool false, .int .i64 0, .int .i64 0] 29)
            have bx := row_new W1 #[.bool false, .bool false, .int .i64 0, .int .i64 0] 29 4 (fun i => if i = 0 then .bool false else if i = 1 then .bool false else if i = 2 then .int .i64 0 else .int .i64 0) rfl (fun i hi => by match i, hi with | 0, _ => rfl | 1, _ => rfl | 2, _ => rfl | 3, _ => rfl)
            clear L1 hs g c1 f1
            go_wp2_with fail
            generalize W1.alloc (.cells #[.bool false, .bool false, .int .i64 0, .int .i64 0] 29) = W2 at *
            generalize W1.heap.size = Bx at *
            have c1 : W2.cell? ⟨bm, k, none⟩ = some (.int .i64 1) := by have := L3.cm k (by omega); simpa using this
            have c2 := L3.cw k (by omega)
            have b0 := row_val bx (i := 0) (v := .bool false) (by omega) rfl
            have b1 := row_val bx (i := 1) (v := .bool false) (by omega) rfl
            have b2 := row_val bx (i := 2) (v := .int .i64 0) (by omega) rfl
            have b3 := row_val bx (i := 3) (v := .int .i64 0) (by omega) rfl
            have HL3 := Lib.hid L3
            clear L3 bx
            go_quiet (fail)
            generalize nq = nA at *
            go_wp2_with fail
            go_quiet (fail)
            go_wp2
            have L4 : Lr w (W2.drewN (nA + nq)) b S' q1 bm bw (fun i => if i = k then mk' k + 1 else mk' i) wk' (.slice av l.length cv) l := (HL3.out.drewN (nA + nq)).mkeq (fun i _ => by by_cases e : i = k <;> simp [e, HWK.out.1, m0]) (fun i _ => rfl)
            have LN : Ln w (W2.drewN (nA + nq)) b S' q1 r bm bw _ wk' (.slice av l.length cv) l := ⟨L4, HI.out, by rw [HCC.out.eq, HS.out.vv], HKN.out⟩
            have HLN := Lib.hid LN
            have HBB := HB.out
            have HQQ := HQ2.out
            clear L4 LN
            go_roundw
            case rel =>
              refine ⟨i + 1, n', S', q1, r, _, wk', l, ?_, ?_, ?_, rfl, HLN.out, ?_, ?_, ?_⟩
              · omega
              · omega
              · go_num
              · rw [HS.out.nn]; omega
              · omega
              · omega
            case measure => simp [intOf]; omega
          · by_cases m1 : (q'.th k).made = 1
            · obtain ⟨q1, s, I1, hth⟩ := sr_put1 V C.I hk8 h0 hon m1
              have c1 := C.m.cm k (by omega)
              rw [hkn.1, m1] at c1
              have f1 := C.m.fm k
              have L1 := C.m.setM k 2
              have HKN := Lib.hid (kn_step C.kn (by omega) s hon (by rw [hth]; exact fun _ => ⟨by rw [m1], fun _ => rfl⟩))
              have HS := Lib.hid s
              have HI := Lib.hid I1
              have HE := Lib.hid s.e
              have HCC := Lib.hid C
              have HWK := Lib.hid hkn
              clear s I1 hth C hkn hon V
              go_wp2_with fail
              refine (q_step L1.qs k false false 0 0 0 q1 HE.out).mono ?_
              rintro e W1 ⟨rfl, hs, g⟩
              have L3 := (L1.nx hs g).alloc (.cells #[.bool false, .bool false, .int .i64 0, .int .i64 0] 29)
              have bx := row_new W1 #[.bool false, .bool false, .int .i64 0, .int .i64 0] 29 4 (fun i => if i = 0 then .bool false else if i = 1 then .bool false else if i = 2 then .int .i64 0 else .int .i64 0) rfl (fun i hi => by match i, hi with | 0, _ => rfl | 1, _ => rfl | 2, _ => rfl | 3, _ => rfl)
              clear L1 hs g c1 f1
              go_wp2_with fail
              generalize W1.alloc (.cells #[.bool false, .bool false, .int .i64 0, .int .i64 0] 29) = W2 at *
              generalize W1.heap.size = Bx at *
              have c1 : W2.cell? ⟨bm, k, none⟩ = some (.int .i64 2) := by have := L3.cm k (by omega); simpa using this
              have c2 := L3.cw k (by omega)
              have b0 := row_val bx (i := 0) (v := .bool false) (by omega) rfl
              have b1 := row_val bx (i := 1) (v := .bool false) (by omega) rfl
              have b2 := row_val bx (i := 2) (v := .int .i64 0) (by omega) rfl
              have b3 := row_val bx (i := 3) (v := .int .i64 0) (by omega) rfl
              rw [hwk] at c2
              generalize hX : q'.v (q'.th k).node = X at *
              have HX := Lib.hid hX
              clear hX
              have HL3 := Lib.hid L3
              have HBx := Lib.hid (World.rowIs.lt bx)
              have hl5 : l.length ≤ 100000 := by have := HB.out; omega
              clear L3 bx
              go_quiet (fail)
              generalize nq = nA at *
              have L4 := HL3.out.drewN nA
              have b0' : (W2.drewN nA).cell? ⟨Bx, 0, none⟩ = some (.bool false) := b0
              have c2' : (W2.drewN nA).cell? ⟨bw, k, none⟩ = some (.int .i64 X) := c2
              have hBxl : Bx < (W2.drewN nA).heap.size := HBx.out
              have c1' : (W2.drewN nA).cell? ⟨bm, k, none⟩ = some (.int .i64 2) := c1
              have HL4 := Lib.hid L4
              clear b0 b1 b2 b3 c1 c2 L4
              generalize W2.drewN nA = W4 at *
              go_wp2_with fail
              go_cut [4] (fun lv wx => Lr w wx b S' q1 bm bw (fun i => if i = k then 2 else mk' i) wk' lv (l ++ [X]) ∧ wx.cell? ⟨Bx, 0, none⟩ = some (.bool false))
              case first =>
                go_region_law (first | (refine step_copy rfl (.const (.slice none 0 0)) (.tmp 104) rfl (.slice av l.length cv) l (by simp [Act.eval]) (by simp [Act.eval, Act.put]) (HL4.out.ls.of (fun g _ _ => rfl)) hl5 ?_; intro v8 w8 l8 f8 n8; obtain ⟨B8, N8⟩ := cp_a1 f8 n8; have c2' := (B8.cell (p := ⟨bw, k, none⟩) (World.rowIs.lt HL4.out.rw)).trans c2') | (refine step_copy rfl (.const (.slice none 0 0)) (.tmp 104) rfl (.slice av l.length cv) l (by simp [Act.eval]) (by simp [Act.eval, Act.put]) ((HL4.out.alloc (.cells #[.int .i64 X] 2)).ls.of (fun g _ _ => rfl)) hl5 ?_; intro v8 w8 l8 f8 n8; obtain ⟨B8, N8, hy8⟩ := cp_a2 f8 n8) | (refine step_app rfl (.tmp 105) (.tmp 110) rfl v8 l ⟨w8.heap.size, 0, none⟩ X (by simp [Act.eval, Act.put]) (by simp [Act.eval, Act.put]) (Ls.below l8 ((Below.refl w8.heap.size w8).alloc (Nat.le_refl _) _)) (Boxed.new w8 2 (.int .i64 X)).cell hl5 ?_; intro v9 w9 l9 f9 n9; obtain ⟨B9, N9⟩ := cp_b1 B8 N8 f9 n9; have L9 := Lib.hid (Lr.app HL4.out l9 B9 N9); have b9 := (B9.cell (p := ⟨Bx, 0, none⟩) hBxl).trans b0'; clear B9 N9 f9 n9 l9) | (refine step_app rfl (.tmp 105) (.tmp 110) rfl v8 l ⟨W4.heap.size, 0, none⟩ X (by simp [Act.eval, Act.put]) (by simp [Act.eval, Act.put]) l8 hy8 hl5 ?_; intro v9 w9 l9 f9 n9; obtain ⟨B9, N9⟩ := cp_b2 B8 N8 f9 n9; have L9 := Lib.hid (Lr.app HL4.out l9 B9 N9); have b9 := (B9.cell (p := ⟨Bx, 0, none⟩) hBxl).trans b0'; clear B9 N9 f9 n9 l9) | (go_simp))
                all_goals
                  go_wp2_with fail
                  go_meet
                  exact ⟨L9.out, b9⟩
              case rest =>
                obtain ⟨L9, b9⟩ := hcut
                have L9 := Lib.hid L9
                clear b0' c1' hl5 hBxl
                go_wp2_with fail
                go_quiet (fail)
                go_wp2
                have L4 : Lr w (wc.drewN nq) b S' q1 bm bw (fun i => if i = k then mk' k + 1 else mk' i) wk' u4 (l ++ [X]) := (L9.out.drewN nq).mkeq (fun i _ => by by_cases e : i = k <;> simp [e, HWK.out.1, m1]) (fun i _ => rfl)
                have LN : Ln w (wc.drewN nq) b S' q1 (r ++ [(q'.th k).node]) bm bw _ wk' u4 (l ++ [X]) := ⟨L4, HI.out, by rw [HCC.out.eq, List.map_append, HS.out.vv]; simp [HX.out], HKN.out⟩
                have HLN := Lib.hid LN
                have HBB := HB.out
                have HQQ := HQ2.out
                clear L4 LN
                go_roundw
                case rel =>
                  refine ⟨i + 1, n', S', q1, (r ++ [(q'.th k).node]), _, wk', (l ++ [X]), ?_, ?_, ?_, rfl, HLN.out, ?_, ?_, ?_⟩
                  · omega
                  · omega
                  · go_num
                  · rw [HS.out.nn]; omega
                  · simp; omega
                  · omega
                case measure => simp [intOf]; omega
            · have m2 : (q'.th k).made = 2 := by omega
              obtain ⟨q1, s, I1, hth⟩ := sr_put2 V C.I hk8 h0 hon m2
              have c1 := C.m.cm k (by omega)
              rw [hkn.1, m2] at c1
              have f1 := C.m.fm k
              have L1 := C.m.setM k 3
              have HKN := Lib.hid (kn_step C.kn (by omega) s hon (by rw [hth]; exact fun h => by cases h))
              have HS := Lib.hid s
              have HI := Lib.hid I1
              have HE := Lib.hid s.e
              have HCC := Lib.hid C
              have HWK := Lib.hid hkn
              clear s I1 hth C hkn hon V
              go_wp2_with fail
              refine (q_step L1.qs k true false (q'.v (q'.th k).node) 0 0 q1 HE.out).mono ?_
              rintro e W1 ⟨rfl, hs, g⟩
              have L3 := (L1.nx hs g).alloc (.cells #[.bool true, .bool false, .int .i64 (q'.v (q'.th k).node), .int .i64 0] 29)
              have bx := row_new W1 #[.bool true, .bool false, .int .i64 (q'.v (q'.th k).node), .int .i64 0] 29 4 (fun i => if i = 0 then .bool true else if i = 1 then .bool false else if i = 2 then .int .i64 (q'.v (q'.th k).node) else .int .i64 0) rfl (fun i hi => by match i, hi with | 0, _ => rfl | 1, _ => rfl | 2, _ => rfl | 3, _ => rfl)
              clear L1 hs g c1 f1
              go_wp2_with fail
              generalize W1.alloc (.cells #[.bool true, .bool false, .int .i64 (q'.v (q'.th k).node), .int .i64 0] 29) = W2 at *
              generalize W1.heap.size = Bx at *
              have c1 : W2.cell? ⟨bm, k, none⟩ = some (.int .i64 3) := by have := L3.cm k (by omega); simpa using this
              have c2 := L3.cw k (by omega)
              have b0 := row_val bx (i := 0) (v := .bool true) (by omega) rfl
              have b1 := row_val bx (i := 1) (v := .bool false) (by omega) rfl
              have b2 := row_val bx (i := 2) (v := .int .i64 (q'.v (q'.th k).node)) (by omega) rfl
              have b3 := row_val bx (i := 3) (v := .int .i64 0) (by omega) rfl
              rw [hwk] at c2
              generalize q'.v (q'.th k).node = X at *
              have HL3 := Lib.hid L3
              clear L3 bx
              go_quiet (fail)
              generalize nq = nA at *
              go_wp2_with fail
              go_quiet (fail)
              go_wp2
              have L4 : Lr w (W2.drewN (nA + nq)) b S' q1 bm bw (fun i => if i = k then mk' k + 1 else mk' i) wk' (.slice av l.length cv) l := (HL3.out.drewN (nA + nq)).mkeq (fun i _ => by by_cases e : i = k <;> simp [e, HWK.out.1, m2]) (fun i _ => rfl)
              have LN : Ln w (W2.drewN (nA + nq)) b S' q1 r bm bw _ wk' (.slice av l.length cv) l := ⟨L4, HI.out, by rw [HCC.out.eq, HS.out.vv], HKN.out⟩
              have HLN := Lib.hid LN
              have HBB := HB.out
              have HQQ := HQ2.out
              clear L4 LN
              go_roundw
              case rel =>
                refine ⟨i + 1, n', S', q1, r, _, wk', l, ?_, ?_, ?_, rfl, HLN.out, ?_, ?_, ?_⟩
                · omega
                · omega
                · go_num
                · rw [HS.out.nn]; omega
                · omega
                · omega
              case measure => simp [intOf]; omega
    · have HC := Lib.hid C
      obtain ⟨av, cv, rfl⟩ := ls_slice C.m.ls
      clear C
      by_cases hA : i < len
      · have h1 : (i : Int) < (len : Int) := by omega
        have h2 : ¬ ((i : Int) < 50000) := by omega
        clear hi hi5 hlt hqn hll hni
        go_wp2
        go_ret
        exact ⟨rfl, HC.out.m.qs.bel⟩
      · have h1 : ¬ ((i : Int) < (len : Int)) := by omega
        clear hi hi5 hlt hqn hll hni
        go_wp2
        go_ret
        exact ⟨rfl, HC.out.m.qs.bel⟩
end Go.Proofs.Ytcbbjcafgnddcaa
