/- MpscLeaves' walk. -/
import Derived.Test.YtcbbjcafgnddcaaM13
namespace Go.Proofs.Ytcbbjcafgnddcaa
open Go.RowKit Go.Shelf
set_option linter.unusedVariables false
set_option linter.unusedSimpArgs false
attribute [local go_sem] Oper.semAt_some
theorem items_cl (p0 : Option Addr) (w : World) : CallsIn Fence.wide 8 Try.prog 13 #[.pointer p0] w fun e w' => e = .returned (.func (.func 24) #[] #[.pointer (some ⟨w.heap.size, 0, none⟩)]) ∧ w' = w.alloc (.cells #[.pointer p0] 24) := items_in Fence.wide 8 trivial rfl p0 w
theorem box_turn {A C : World} {k : Nat} {ty : TypeId} {u : Value} {row : Option Nat} (h : Boxed A k ty u) (g : A.grownBy C row) (hr : ∀ r, row = some r → ∃ o : Obj, A.heap[r]? = some o ∧ o.isCells = false) : Boxed C k ty u := by
  refine h.kept g (fun e => ?_)
  obtain ⟨o, ho, hc⟩ := hr k e.symm
  have hb : A.heap[k]? = _ := h
  rw [hb] at ho; cases ho; cases hc
theorem rangeK {F : Fence} {n : Nat} {P : Program} {α : Type} {g : Operand} {ps : Array Tmp} {assign body : Code} {Q : Exit → Act → World → Prop} {a : Act} {w : World}
    (hro : F.round = none) (h1 : 1 ≤ n) {gf : Nat} {lb : Array Value} (hg : a.eval g = .func (.func gf) #[] lb) (hFg : F.fn gf) (eg : ∀ args w, (callFunc gf args).run P w = .ok (.enter gf args) w)
    {encs : α → Array Value} {Kp : World → World → Prop} {S Sp : List α → Prop} {N : Nat} (hseq : SeqStopsK F (n - 1) P gf lb encs Kp S Sp N w)
    (hKt : ∀ {A B C : World}, Kp A B → Kp B C → Kp A C) (hKb : ∀ (W : World) (l : Nat) (o o' : Obj), w.heap.size ≤ l → W.heap[l]? = some o → o.isCells = false → o.isWalk = false → Kp W (W.putObj l o')) (hps : ∀ x, (encs x).size = ps.size)
    (I : List α → World → Prop) (Ix : Code → List α → World → Prop) (hI : OwnFrom w.heap.size I) (hIx : ∀ c, OwnFrom w.heap.size (Ix c)) (h0 : I [] w) (s1 s2 : Nat) (val : α → Value)
    (hassign : ∀ (l : Nat) (x : α) (W : World) (K : Act → World → Prop), K { tmps := (a.tmps.setIfInBounds s1 (val x)).setIfInBounds s2 (val x), defers := [] } W →
      assign.wpIn (F.inRound l) (n - 1 - 1) P (Exit.then K (fun _ _ _ => False)) { tmps := (ps.zip (encs x)).foldl (fun t (p, v) => t.setIfInBounds p v) a.tmps, defers := [] } W)
    (hbody : ∀ (l : Nat) (pre : List α) (x : α) (W : World), I pre W → pre.length < N → body.wpIn (F.inRound l) (n - 1 - 1) P (ownPostG w.heap.size Kp I Ix (pre ++ [x]) W) { tmps := (a.tmps.setIfInBounds s1 (val x)).setIfInBounds s2 (val x), defers := [] } W)
    (hdone : ∀ (D : Nat) (xs : List α) (W : World), w.heap.size ≤ D → S xs → I xs W → W.heap[D]? = some (.deferred (some [])) → Q .normal { a with defers := { target := .collected D, args := #[] } :: a.defers } W)
    (hstop : ∀ (D : Nat) (c : Code) (pre : List α) (W : World), w.heap.size ≤ D → Sp pre → Ix c pre W → W.heap[D]? = some (.deferred (some [])) → c.wpIn F n P Q { a with defers := { target := .collected D, args := #[] } :: a.defers } W) :
    (Code.rangeFunc g ps assign body).wpIn F n P Q a w :=
  wpIn_rangeFunc_ownG hro h1 hg hFg eg hseq hKt hKb (Below.refl _ _) hps I Ix hI hIx h0 _ hassign hbody hdone hstop
theorem fin_box {w W : World} {R D : Nat} {v : Value} (hR : w.heap.size ≤ R) (hD : w.heap.size ≤ D) (b : Boxed W R 4 v) (hK : W.heap[D]? = some (.deferred (some []))) (hb : Below w.heap.size w W) :
    (W.setCell ⟨R, 0, none⟩ (.bool true)).heap[D]? = some (.deferred (some [])) ∧ ((W.setCell ⟨R, 0, none⟩ (.bool true)).putObj D (.deferred none)).cell? ⟨R, 0, none⟩ = some (.bool true) ∧
      Below w.heap.size w ((W.setCell ⟨R, 0, none⟩ (.bool true)).putObj D (.deferred none)) := by
  have hK' : (W.setCell ⟨R, 0, none⟩ (.bool true)).heap[D]? = some (.deferred (some [])) := (KeepsOthers.setCell W ⟨R, 0, none⟩ (.bool true)).same D _ hK rfl
  have hc := Boxed.set (.bool true) b
  refine ⟨hK', (box_turn hc (grownBy_putObj' _ D (.deferred none)) (fun r e => by cases e; exact ⟨_, hK', rfl⟩)).cell, ?_⟩
  exact (hb.trans (gb_below (gb_set W R 0 _) hb.size (fun k e => by cases e; exact hR))).trans (belowK_b (w := w) (Nat.le_refl _) _ D _ _ hD hK' rfl rfl)
theorem xs_at (z : Nat → Int) (i : Nat) (pre : List Int) (x : Int) (h : pre ++ [x] <+: (List.range i).map z) : pre.length < i ∧ x = z pre.length := by
  have h1 : (pre ++ [x])[pre.length]? = some x := by simp
  have h2 : pre.length < (pre ++ [x]).length := by simp
  obtain ⟨suf, he⟩ := h
  have h3 : ((List.range i).map z)[pre.length]? = some x := by rw [← he, List.getElem?_append_left h2, h1]
  rw [List.getElem?_map] at h3
  by_cases hl : pre.length < i
  · rw [List.getElem?_range hl] at h3
    exact ⟨hl, by simpa using h3.symm⟩
  · rw [List.getElem?_eq_none (by simpa using hl)] at h3; cases h3
/-- between two puts -/
structure Lv (wb W : World) (b : Nat) (S : Nat → Prop) (q : Q) (r : List Nat) (z : Nat → Int) (i : Nat) : Prop where
  qs : Qs wb W b S q
  I : Inv q r
  off : Off q
  eq : r.map q.v = (List.range i).map z
  n : q.n = i + 1
set_option maxRecDepth 100000 in
set_option maxHeartbeats 8000000 in
theorem leaves_in (a : Option Addr) (len cap : Nat) (z : Nat → Int) (lv : Int) (w : World) (hr : Ins w a len z) (hlen : len ≤ 9223372036854775807) (hcap : len ≤ cap) :
    CallsIn Fence.wide 9 Try.prog 3 #[.slice a len cap, .int .i64 lv] w fun e w' => e = .returned (.bool true) ∧ Below w.heap.size w w' := by
  refine callsIn_of_wp_marks Try.func3 rfl trivial ?_ rfl
  simp only [Try.ntmps3, List.size_toArray, List.length_cons, List.length_nil, Nat.reduceAdd, Nat.reduceSub, Array.replicate_succ, Array.replicate_zero, List.push_toArray, List.append_toArray, List.nil_append, List.cons_append]
  have b1 := ((Boxed.new w 22 (.slice a len cap)).alloc (.cells #[.int .i64 lv] 3)).alloc (.cells #[.bool false] 4)
  have b2 := (Boxed.new (w.alloc (.cells #[.slice a len cap] 22)) 3 (.int .i64 lv)).alloc (.cells #[.bool false] 4)
  have b3 := Boxed.new ((w.alloc (.cells #[.slice a len cap] 22)).alloc (.cells #[.int .i64 lv] 3)) 4 (.bool false)
  have hB0 : Below w.heap.size w (((w.alloc (.cells #[.slice a len cap] 22)).alloc (.cells #[.int .i64 lv] 3)).alloc (.cells #[.bool false] 4)) := (((Below.refl _ w).alloc (Nat.le_refl _) _).alloc (by simp) _).alloc (by simp; omega) _
  have hsz : (((w.alloc (.cells #[.slice a len cap] 22)).alloc (.cells #[.int .i64 lv] 3)).alloc (.cells #[.bool false] 4)).heap.size = w.heap.size + 3 := by simp
  simp only [World.size_alloc] at b2 b3
  gi_wp2_with fail
  generalize ((w.alloc (.cells #[.slice a len cap] 22)).alloc (.cells #[.int .i64 lv] 3)).alloc (.cells #[.bool false] 4) = wb at *
  refine ⟨trivial, ?_⟩
  refine (callsIn_wide.2 (lives_any _)).mono ?_
  rintro e w1 ⟨rfl, g1⟩
  have c1 := (g1.cell (p := ⟨w.heap.size, 0, none⟩) (by show w.heap.size < _; omega)).trans b1.cell
  gi_wp2_with fail
  refine ⟨trivial, ?_⟩
  refine (callsIn_wide.2 (q_new g1)).mono ?_
  rintro e w2 ⟨b, S0, rfl, h2⟩
  have C0 : Lv wb w2 b S0 Q0 [] z 0 := ⟨h2, inv0, fun k _ => rfl, rfl, rfl⟩
  clear h2 g1 c1
  have HR := Lib.hid hr
  clear hr
  gi_wp2_with fail
  gi_loopw [6] (fun k wr => ∃ (i : Nat) (S : Nat → Prop) (q : Q) (r : List Nat), i ≤ len ∧ i ≤ 1000 ∧ k = .int .i64 i ∧ Lv wb wr b S q r z i) (fun k wr => len - (intOf k).toNat)
  case atStart => exact ⟨0, S0, Q0, [], by omega, by omega, rfl, C0⟩
  case round =>
    clear C0
    obtain ⟨i, S, q, r, hi, hi5, rfl, C⟩ := hrel
    have d1 := (C.qs.bel.cell (p := ⟨w.heap.size, 0, none⟩) (by show w.heap.size < _; omega)).trans b1.cell
    by_cases hlt : i < len ∧ i < 1000
    · obtain ⟨sb, so, rfl, hsb, c0⟩ := HR.out i hlt.1
      have c0 := ((hB0.cell (p := ⟨sb, so + i, none⟩) hsb).trans c0)
      have c0 := (C.qs.bel.cell (p := ⟨sb, so + i, none⟩) (by show sb < _; omega)).trans c0
      have h1 : (i : Int) < (len : Int) := by omega
      have h2 : (i : Int) < 1000 := by omega
      have hk7 := Nat.mod_lt i (show 7 > 0 by omega)
      have hkm : (i : Int) % 7 = ((i % 7 : Nat) : Int) := by simp
      obtain ⟨qa, qb, qc, qd, T⟩ := whole_put C.qs.V C.I C.off (by rw [C.n]; omega) (1 + i % 7) (by omega) (by omega) (z i)
      generalize hzi : z i = zi at *
      have HT := Lib.hid T
      have HZI := Lib.hid hzi
      have ht0 := T.e0
      have ht1 := T.e1
      have ht2 := T.e2
      have ht3 := T.e3
      have hcast : ((1 + i % 7 : Nat) : Int) = 1 + ((i % 7 : Nat) : Int) := by omega
      rw [hcast] at ht0 ht1 ht2 ht3
      have HT0 := Lib.hid ht0
      have HT1 := Lib.hid ht1
      have HT2 := Lib.hid ht2
      have HT3 := Lib.hid ht3
      clear ht0 ht1 ht2 ht3 T hcast hzi
      generalize i % 7 = km at *
      have HC := Lib.hid C
      clear C
      gi_wp2_with fail
      have H50 := Lib.hid (And.intro hi5 hlt)
      clear hi5 hlt h2
      refine ⟨trivial, ?_⟩
      refine (callsIn_wide.2 (q_begin HC.out.qs (1 + (km : Int)) zi 0 qa HT0.out)).mono ?_
      rintro e W1 ⟨rfl, S1, hh1, g1⟩
      clear c0 d1 g1
      gi_wp2_with fail
      refine wpIn_loop_rounds 4 ?_
      rw [roundsIn_succ]
      gi_wp2_with fail
      refine ⟨trivial, ?_⟩
      refine (callsIn_wide.2 (q_step hh1 (1 + (km : Int)) false false 0 0 0 qb HT1.out)).mono ?_
      rintro e W11 ⟨rfl, h11, _⟩
      clear hh1
      gi_wp2_with fail
      rw [roundsIn_succ]
      gi_wp2_with fail
      refine ⟨trivial, ?_⟩
      refine (callsIn_wide.2 (q_step h11 (1 + (km : Int)) false false 0 0 0 qc HT2.out)).mono ?_
      rintro e W12 ⟨rfl, h12, _⟩
      clear h11
      gi_wp2_with fail
      rw [roundsIn_succ]
      gi_wp2_with fail
      refine ⟨trivial, ?_⟩
      refine (callsIn_wide.2 (q_step h12 (1 + (km : Int)) true false zi 0 0 qd HT3.out)).mono ?_
      rintro e W13 ⟨rfl, h13, _⟩
      clear h12
      gi_wp2_with fail
      rw [roundsIn_succ]
      gi_wp2
      have HH := H50.out
      have hC : Lv wb W13 b S1 qd (r ++ [q.n]) z (i + 1) := ⟨h13, HT.out.I, HT.out.off, by
        rw [List.map_append, List.map_congr_left (fun x hx => HT.out.vv x (HC.out.I.lt x hx)), HC.out.eq, List.range_succ]
        simp [HT.out.vn, HZI.out], by rw [HT.out.nn, HC.out.n]⟩
      refine ⟨⟨i + 1, S1, qd, r ++ [q.n], ?_, ?_, ?_, hC⟩, ?_⟩
      · omega
      · omega
      · go_num
      · simp [intOf]; omega
    · obtain ⟨m, hm, hml, hmm⟩ : ∃ m : Nat, i = m ∧ m ≤ len ∧ ((len ≤ 1000 ∧ m = len) ∨ (¬ len ≤ 1000 ∧ m = 1000)) := ⟨i, rfl, hi, by omega⟩
      subst hm
      have HC := Lib.hid C
      have hBw : Below w.heap.size w wr := hB0.trans (C.qs.bel.mono (by omega))
      have hwr := C.qs.bel.size
      have c2 : Boxed wr (w.heap.size + 1) 3 (.int .i64 lv) := (C.qs.bel.block _ (by omega)).trans b2
      have c3 : Boxed wr (w.heap.size + 1 + 1) 4 (.bool false) := (C.qs.bel.block _ (by omega)).trans b3
      have hG : Gives wr (some ⟨b, 0, none⟩) ((List.range i).map z) := by
        have := C.qs.gives C.I
        rw [lnk_off C.off r q.tail C.I.lk, C.eq] at this
        exact this
      have HG := Lib.hid hG
      clear hG C
      have bn := Boxed.new wr 3 (.int .i64 0)
      have hsz2 : (wr.alloc (.cells #[.int .i64 0] 3)).heap.size = wr.heap.size + 1 := by simp
      have bx := Boxed.new (wr.alloc (.cells #[.int .i64 0] 3)) 24 (.pointer (some ⟨b, 0, none⟩))
      rw [hsz2] at bx
      have bn := bn.alloc (.cells #[.pointer (some ⟨b, 0, none⟩)] 24)
      have hBx : Below wr.heap.size wr ((wr.alloc (.cells #[.int .i64 0] 3)).alloc (.cells #[.pointer (some ⟨b, 0, none⟩)] 24)) := ((Below.refl _ _).alloc (Nat.le_refl _) _).alloc (by simp) _
      have szx : ((wr.alloc (.cells #[.int .i64 0] 3)).alloc (.cells #[.pointer (some ⟨b, 0, none⟩)] 24)).heap.size = wr.heap.size + 2 := by simp
      rcases hmm with ⟨hle, hie⟩ | ⟨hle, hie⟩
      · have h1 : ¬ ((i : Int) < (len : Int)) := by omega
        have HM := Lib.hid (And.intro hle hie)
        clear hi hi5 hlt hle hie
        gi_wp2_with fail
        refine ⟨trivial, ?_⟩
        refine (items_in Fence.wide _ trivial rfl _ _).mono ?_
        rintro e w' ⟨rfl, rfl⟩
        gi_wp2_with fail
        generalize (wr.alloc (.cells #[.int .i64 0] 3)).alloc (.cells #[.pointer (some ⟨b, 0, none⟩)] 24) = wx at *
        refine rangeK (F := Fence.wide) rfl (by omega) (gf := 24) (lb := #[.pointer (some ⟨wr.heap.size + 1, 0, none⟩)]) (by simp [Act.eval]) trivial (enters_of Try.func24 (by kernel_rfl) rfl)
          (all_stops Fence.wide _ trivial rfl (by omega) (wr.heap.size + 1) (some ⟨b, 0, none⟩) ((List.range i).map z) wr wx (by omega) bx.cell HG.out hBx) belowK_t (belowK_b (by omega)) (fun _ => rfl)
          (fun pre W => Boxed W wr.heap.size 3 (.int .i64 pre.length) ∧ Below wr.heap.size wr W)
          (fun cc pre W => pre <+: (List.range i).map z → cc = .exit 4 ∧ (Boxed W wr.heap.size 3 (.int .i64 pre.length) ∧ Below wr.heap.size wr W) ∧ (pre.length : Int) = lv)
          (fun s A C row hs hg hr => ⟨box_turn hs.1 hg (fun r e => (hr r e).2), hs.2.trans (gb_below hg hs.2.size (fun r e => by have := (hr r e).1; omega))⟩)
          (fun cc s A C row hs hg hr hp => by obtain ⟨e1, h1, e3⟩ := hs hp; exact ⟨e1, ⟨box_turn h1.1 hg (fun r e => (hr r e).2), h1.2.trans (gb_below hg h1.2.size (fun r e => by have := (hr r e).1; omega))⟩, e3⟩)
          ⟨bn, hBx⟩ 45 10 (fun x => .int .i64 x) ?assign ?body ?done ?stop
        case assign =>
          intro l x W K hK
          gi_wp2
          exact hK
        case body =>
          rintro lp pre x W ⟨bN, hB⟩ hlt
          simp only [List.setIfInBounds_toArray, List.set_cons_succ, List.set_cons_zero]
          have tl := (hB.cell (p := ⟨w.heap.size, 0, none⟩) (by show w.heap.size < _; omega)).trans d1
          have t2 := (hB.cell (p := ⟨w.heap.size + 1, 0, none⟩) (by show w.heap.size + 1 < _; omega)).trans c2.cell
          have br : Boxed W (w.heap.size + 1 + 1) 4 (.bool false) := (hB.block _ (by omega)).trans c3
          have t3 := br.cell
          have f3 := br.frozen
          have hbN := bN.cell
          have hfN := bN.frozen
          have n1 : w.heap.size + 1 + 1 ≠ wr.heap.size := by omega
          have n2 : wr.heap.size ≠ w.heap.size + 1 + 1 := by omega
          have n3 : w.heap.size + 1 ≠ wr.heap.size := by omega
          have n4 : w.heap.size ≠ wr.heap.size := by omega
          by_cases hA : len ≤ pre.length
          · have hA2 : (len : Int) ≤ (pre.length : Int) := by omega
            clear h1
            gi_wp2
            exact ⟨(KeepsOthers.setCell _ _ _).from _, fun h => absurd (xs_at z i pre x h).1 (by omega)⟩
          · obtain ⟨sb, so, rfl, hsb, ci⟩ := HR.out pre.length (by omega)
            have ci := ((hBw.cell (p := ⟨sb, so + pre.length, none⟩) hsb).trans ci)
            have ci := (hB.cell (p := ⟨sb, so + pre.length, none⟩) (by show sb < _; omega)).trans ci
            have hA2 : ¬ ((len : Int) ≤ (pre.length : Int)) := by omega
            have hA3 : (pre.length : Int) < (len : Int) := by omega
            have HX : Hid (pre ++ [x] <+: (List.range i).map z → x = z pre.length) := Lib.hid (fun h => (xs_at z i pre x h).2)
            have HB := Lib.hid hB
            clear h1 hA hB
            generalize z pre.length = y at *
            by_cases hxy : x = y
            · subst hxy
              have hwr2 : IntKind.i64.wrap ((pre.length : Int) + 1) = (pre.length : Int) + 1 := IntWalk.i64_in _ (by omega)
              obtain ⟨qq, hqq⟩ : ∃ qq, ((pre.length : Int) + 1 == lv) = qq := ⟨_, rfl⟩
              cases qq
              all_goals gi_wp2
              · have hln : (((pre ++ [x]).length : Nat) : Int) = (pre.length : Int) + 1 := by simp
                refine ⟨(KeepsOthers.setCell _ _ _).from _, (gb_below (gb_set W wr.heap.size 0 _) HB.out.size (fun k e => by cases e; exact Nat.le_refl _)), ?_, HB.out.trans (gb_below (gb_set W wr.heap.size 0 _) HB.out.size (fun k e => by cases e; exact Nat.le_refl _))⟩
                rw [hln]
                exact Boxed.set _ bN
              · have hln : (((pre ++ [x]).length : Nat) : Int) = (pre.length : Int) + 1 := by simp
                refine ⟨(KeepsOthers.setCell _ _ _).from _, fun hp => ⟨rfl, ⟨?_, HB.out.trans (gb_below (gb_set W wr.heap.size 0 _) HB.out.size (fun k e => by cases e; exact Nat.le_refl _))⟩, ?_⟩⟩
                · rw [hln]; exact Boxed.set _ bN
                · rw [hln]; exact eq_of_beq hqq
            · have hxy2 : (x != y) = true := by simpa using hxy
              gi_wp2
              exact ⟨(KeepsOthers.setCell _ _ _).from _, fun h => absurd (HX.out h) hxy⟩
        case done =>
          rintro D ys W hD hS ⟨bN, hB⟩ hK
          have e1 : ys.length = i := by rw [hS]; simp
          rw [e1] at bN
          clear e1 hS
          have tl := (hB.cell (p := ⟨w.heap.size, 0, none⟩) (by show w.heap.size < _; omega)).trans d1
          have t2 := (hB.cell (p := ⟨w.heap.size + 1, 0, none⟩) (by show w.heap.size + 1 < _; omega)).trans c2.cell
          have br : Boxed W (w.heap.size + 1 + 1) 4 (.bool false) := (hB.block _ (by omega)).trans c3
          have hKD : D < W.heap.size := (Array.getElem?_eq_some_iff.1 hK).1
          have bNl := bN.lt
          have hWr := hB.size
          have HGW := Lib.hid (HG.out.below hB)
          have HB := Lib.hid hB
          clear hB h1 bx bn hBx hsz2
          gi_wp2_with fail
          refine ⟨trivial, ?_⟩
          refine (callsIn_wide.2 (coll_is _ _ _ HGW.out)).mono ?_
          rintro e W5 ⟨a5, k5, rfl, ho, g5⟩
          have ho := Lib.hid (ls_own ho)
          have hxl : ((List.range i).map z).length = i := by simp
          rw [hxl] at ho ⊢
          have tl := (g5.cell (p := ⟨w.heap.size, 0, none⟩) (by show w.heap.size < _; omega)).trans tl
          have t2 := (g5.cell (p := ⟨w.heap.size + 1, 0, none⟩) (by show w.heap.size + 1 < _; omega)).trans t2
          have tn := (g5.cell (p := ⟨wr.heap.size, 0, none⟩) (by show wr.heap.size < _; omega)).trans bN.cell
          have br5 : Boxed W5 (w.heap.size + 1 + 1) 4 (.bool false) := (g5.block _ (by omega)).trans br
          have hK5 : W5.heap[D]? = some (.deferred (some [])) := (g5.block D hKD).trans hK
          have t3 := br5.cell
          have f3 := br5.frozen
          have HX := Lib.hid hxl
          have HS2 := Lib.hid (fun (j : Nat) (hj : j < ((List.range i).map z).length) => (by
            obtain ⟨g, o, e, hg, hc⟩ := HR.out j (by rw [hxl] at hj; omega)
            have k1 := (hBw.cell (p := ⟨g, o + j, none⟩) hg).trans hc
            have k2 := (HB.out.cell (p := ⟨g, o + j, none⟩) (by show g < _; omega)).trans k1
            have k3 := (g5.cell (p := ⟨g, o + j, none⟩) (by show g < _; omega)).trans k2
            refine ⟨g, o, e, k3.trans ?_⟩
            rw [hxl] at hj
            simp [List.getD, hj] : ∃ g o, a = some ⟨g, o, none⟩ ∧ W5.cell? ⟨g, o + j, none⟩ = some (.int .i64 (((List.range i).map z).getD j 0))))
          have HWW := Lib.hid (((hBw.trans (HB.out.mono (by omega))).trans (g5.mono (by omega))))
          clear hxl g5 bNl hWr
          obtain ⟨hle, hie⟩ := HM.out
          subst hie
          generalize (List.range i).map z = L at *
          have hle1 : (i : Int) ≤ 1000 := by omega
          gi_wp2_with fail
          refine ⟨trivial, ?_⟩
          refine (callsIn_wide.2 (same_any L L a5 a i i k5 cap W5 (fun j hj => ls_cell ho.out j hj) HS2.out HX.out.symm HX.out.symm (by have := HX.out; omega))).mono ?_
          rintro e W6 ⟨rfl, m, rfl⟩
          obtain ⟨f1, f2, f4⟩ := fin_box (R := w.heap.size + 1 + 1) (D := D) (by omega) (by omega) (show Boxed (W5.drewN m) (w.heap.size + 1 + 1) 4 (.bool false) from br5) hK5 (HWW.out.trans (gb_below (gb_drewN W5 m none) HWW.out.size (fun k e => by cases e)))
          have HF := Lib.hid (And.intro f1 (And.intro f2 f4))
          clear f1 f2 f4
          gi_wp2
          obtain ⟨f1, f2, f4⟩ := HF.out
          exact ⟨by simp, .inl ⟨_, _, rfl, run_takeDeferred f1, .bool true, by simp [results, Try.f3, go_sem, f2], rfl, f4⟩⟩
        case stop =>
          rintro D cc pre W hD hpre hx hK
          obtain ⟨rfl, ⟨bN, hB⟩, hlv⟩ := hx hpre
          rw [hlv] at bN
          clear hx hpre hlv
          obtain ⟨qv, hqv⟩ : ∃ qv, (lv == (i : Int)) = qv := ⟨_, rfl⟩
          have tl := (hB.cell (p := ⟨w.heap.size, 0, none⟩) (by show w.heap.size < _; omega)).trans d1
          have t2 := (hB.cell (p := ⟨w.heap.size + 1, 0, none⟩) (by show w.heap.size + 1 < _; omega)).trans c2.cell
          have br : Boxed W (w.heap.size + 1 + 1) 4 (.bool false) := (hB.block _ (by omega)).trans c3
          have hKD : D < W.heap.size := (Array.getElem?_eq_some_iff.1 hK).1
          have bNl := bN.lt
          have hWr := hB.size
          have HGW := Lib.hid (HG.out.below hB)
          have HB := Lib.hid hB
          clear hB h1 bx bn hBx hsz2
          gi_wp2_with fail
          refine ⟨trivial, ?_⟩
          refine (callsIn_wide.2 (coll_is _ _ _ HGW.out)).mono ?_
          rintro e W5 ⟨a5, k5, rfl, ho, g5⟩
          have ho := Lib.hid (ls_own ho)
          have hxl : ((List.range i).map z).length = i := by simp
          rw [hxl] at ho ⊢
          have tl := (g5.cell (p := ⟨w.heap.size, 0, none⟩) (by show w.heap.size < _; omega)).trans tl
          have t2 := (g5.cell (p := ⟨w.heap.size + 1, 0, none⟩) (by show w.heap.size + 1 < _; omega)).trans t2
          have tn := (g5.cell (p := ⟨wr.heap.size, 0, none⟩) (by show wr.heap.size < _; omega)).trans bN.cell
          have br5 : Boxed W5 (w.heap.size + 1 + 1) 4 (.bool false) := (g5.block _ (by omega)).trans br
          have hK5 : W5.heap[D]? = some (.deferred (some [])) := (g5.block D hKD).trans hK
          have t3 := br5.cell
          have f3 := br5.frozen
          have HX := Lib.hid hxl
          have HS2 := Lib.hid (fun (j : Nat) (hj : j < ((List.range i).map z).length) => (by
            obtain ⟨g, o, e, hg, hc⟩ := HR.out j (by rw [hxl] at hj; omega)
            have k1 := (hBw.cell (p := ⟨g, o + j, none⟩) hg).trans hc
            have k2 := (HB.out.cell (p := ⟨g, o + j, none⟩) (by show g < _; omega)).trans k1
            have k3 := (g5.cell (p := ⟨g, o + j, none⟩) (by show g < _; omega)).trans k2
            refine ⟨g, o, e, k3.trans ?_⟩
            rw [hxl] at hj
            simp [List.getD, hj] : ∃ g o, a = some ⟨g, o, none⟩ ∧ W5.cell? ⟨g, o + j, none⟩ = some (.int .i64 (((List.range i).map z).getD j 0))))
          have HWW := Lib.hid (((hBw.trans (HB.out.mono (by omega))).trans (g5.mono (by omega))))
          clear hxl g5 bNl hWr
          obtain ⟨hle, hie⟩ := HM.out
          subst hie
          generalize (List.range i).map z = L at *
          have hle1 : (i : Int) ≤ 1000 := by omega
          gi_wp2_with fail
          refine ⟨trivial, ?_⟩
          refine (callsIn_wide.2 (same_any L L a5 a i i k5 cap W5 (fun j hj => ls_cell ho.out j hj) HS2.out HX.out.symm HX.out.symm (by have := HX.out; omega))).mono ?_
          rintro e W6 ⟨rfl, m, rfl⟩
          obtain ⟨f1, f2, f4⟩ := fin_box (R := w.heap.size + 1 + 1) (D := D) (by omega) (by omega) (show Boxed (W5.drewN m) (w.heap.size + 1 + 1) 4 (.bool false) from br5) hK5 (HWW.out.trans (gb_below (gb_drewN W5 m none) HWW.out.size (fun k e => by cases e)))
          have HF := Lib.hid (And.intro f1 (And.intro f2 f4))
          clear f1 f2 f4
          cases qv
          all_goals gi_wp2
          all_goals obtain ⟨f1, f2, f4⟩ := HF.out
          all_goals exact ⟨by simp, .inl ⟨_, _, rfl, run_takeDeferred f1, .bool true, by simp [results, Try.f3, go_sem, f2], rfl, f4⟩⟩
      · have h1 : ((i : Int) < (len : Int)) := by omega
        have h2 : ¬ ((i : Int) < 1000) := by omega
        have HM := Lib.hid (And.intro hle hie)
        clear hi hi5 hlt hle hie
        gi_wp2_with fail
        refine ⟨trivial, ?_⟩
        refine (items_in Fence.wide _ trivial rfl _ _).mono ?_
        rintro e w' ⟨rfl, rfl⟩
        gi_wp2_with fail
        generalize (wr.alloc (.cells #[.int .i64 0] 3)).alloc (.cells #[.pointer (some ⟨b, 0, none⟩)] 24) = wx at *
        refine rangeK (F := Fence.wide) rfl (by omega) (gf := 24) (lb := #[.pointer (some ⟨wr.heap.size + 1, 0, none⟩)]) (by simp [Act.eval]) trivial (enters_of Try.func24 (by kernel_rfl) rfl)
          (all_stops Fence.wide _ trivial rfl (by omega) (wr.heap.size + 1) (some ⟨b, 0, none⟩) ((List.range i).map z) wr wx (by omega) bx.cell HG.out hBx) belowK_t (belowK_b (by omega)) (fun _ => rfl)
          (fun pre W => Boxed W wr.heap.size 3 (.int .i64 pre.length) ∧ Below wr.heap.size wr W)
          (fun cc pre W => pre <+: (List.range i).map z → cc = .exit 4 ∧ (Boxed W wr.heap.size 3 (.int .i64 pre.length) ∧ Below wr.heap.size wr W) ∧ (pre.length : Int) = lv)
          (fun s A C row hs hg hr => ⟨box_turn hs.1 hg (fun r e => (hr r e).2), hs.2.trans (gb_below hg hs.2.size (fun r e => by have := (hr r e).1; omega))⟩)
          (fun cc s A C row hs hg hr hp => by obtain ⟨e1, h1, e3⟩ := hs hp; exact ⟨e1, ⟨box_turn h1.1 hg (fun r e => (hr r e).2), h1.2.trans (gb_below hg h1.2.size (fun r e => by have := (hr r e).1; omega))⟩, e3⟩)
          ⟨bn, hBx⟩ 45 10 (fun x => .int .i64 x) ?assign ?body ?done ?stop
        case assign =>
          intro l x W K hK
          gi_wp2
          exact hK
        case body =>
          rintro lp pre x W ⟨bN, hB⟩ hlt
          simp only [List.setIfInBounds_toArray, List.set_cons_succ, List.set_cons_zero]
          have tl := (hB.cell (p := ⟨w.heap.size, 0, none⟩) (by show w.heap.size < _; omega)).trans d1
          have t2 := (hB.cell (p := ⟨w.heap.size + 1, 0, none⟩) (by show w.heap.size + 1 < _; omega)).trans c2.cell
          have br : Boxed W (w.heap.size + 1 + 1) 4 (.bool false) := (hB.block _ (by omega)).trans c3
          have t3 := br.cell
          have f3 := br.frozen
          have hbN := bN.cell
          have hfN := bN.frozen
          have n1 : w.heap.size + 1 + 1 ≠ wr.heap.size := by omega
          have n2 : wr.heap.size ≠ w.heap.size + 1 + 1 := by omega
          have n3 : w.heap.size + 1 ≠ wr.heap.size := by omega
          have n4 : w.heap.size ≠ wr.heap.size := by omega
          by_cases hA : len ≤ pre.length
          · have hA2 : (len : Int) ≤ (pre.length : Int) := by omega
            clear h1
            gi_wp2
            exact ⟨(KeepsOthers.setCell _ _ _).from _, fun h => absurd (xs_at z i pre x h).1 (by omega)⟩
          · obtain ⟨sb, so, rfl, hsb, ci⟩ := HR.out pre.length (by omega)
            have ci := ((hBw.cell (p := ⟨sb, so + pre.length, none⟩) hsb).trans ci)
            have ci := (hB.cell (p := ⟨sb, so + pre.length, none⟩) (by show sb < _; omega)).trans ci
            have hA2 : ¬ ((len : Int) ≤ (pre.length : Int)) := by omega
            have hA3 : (pre.length : Int) < (len : Int) := by omega
            have HX : Hid (pre ++ [x] <+: (List.range i).map z → x = z pre.length) := Lib.hid (fun h => (xs_at z i pre x h).2)
            have HB := Lib.hid hB
            clear h1 hA hB
            generalize z pre.length = y at *
            by_cases hxy : x = y
            · subst hxy
              have hwr2 : IntKind.i64.wrap ((pre.length : Int) + 1) = (pre.length : Int) + 1 := IntWalk.i64_in _ (by omega)
              obtain ⟨qq, hqq⟩ : ∃ qq, ((pre.length : Int) + 1 == lv) = qq := ⟨_, rfl⟩
              cases qq
              all_goals gi_wp2
              · have hln : (((pre ++ [x]).length : Nat) : Int) = (pre.length : Int) + 1 := by simp
                refine ⟨(KeepsOthers.setCell _ _ _).from _, (gb_below (gb_set W wr.heap.size 0 _) HB.out.size (fun k e => by cases e; exact Nat.le_refl _)), ?_, HB.out.trans (gb_below (gb_set W wr.heap.size 0 _) HB.out.size (fun k e => by cases e; exact Nat.le_refl _))⟩
                rw [hln]
                exact Boxed.set _ bN
              · have hln : (((pre ++ [x]).length : Nat) : Int) = (pre.length : Int) + 1 := by simp
                refine ⟨(KeepsOthers.setCell _ _ _).from _, fun hp => ⟨rfl, ⟨?_, HB.out.trans (gb_below (gb_set W wr.heap.size 0 _) HB.out.size (fun k e => by cases e; exact Nat.le_refl _))⟩, ?_⟩⟩
                · rw [hln]; exact Boxed.set _ bN
                · rw [hln]; exact eq_of_beq hqq
            · have hxy2 : (x != y) = true := by simpa using hxy
              gi_wp2
              exact ⟨(KeepsOthers.setCell _ _ _).from _, fun h => absurd (HX.out h) hxy⟩
        case done =>
          rintro D ys W hD hS ⟨bN, hB⟩ hK
          have e1 : ys.length = i := by rw [hS]; simp
          rw [e1] at bN
          clear e1 hS
          have tl := (hB.cell (p := ⟨w.heap.size, 0, none⟩) (by show w.heap.size < _; omega)).trans d1
          have t2 := (hB.cell (p := ⟨w.heap.size + 1, 0, none⟩) (by show w.heap.size + 1 < _; omega)).trans c2.cell
          have br : Boxed W (w.heap.size + 1 + 1) 4 (.bool false) := (hB.block _ (by omega)).trans c3
          have hKD : D < W.heap.size := (Array.getElem?_eq_some_iff.1 hK).1
          have bNl := bN.lt
          have hWr := hB.size
          have HGW := Lib.hid (HG.out.below hB)
          have HB := Lib.hid hB
          clear hB h1 bx bn hBx hsz2
          gi_wp2_with fail
          refine ⟨trivial, ?_⟩
          refine (callsIn_wide.2 (coll_is _ _ _ HGW.out)).mono ?_
          rintro e W5 ⟨a5, k5, rfl, ho, g5⟩
          have ho := Lib.hid (ls_own ho)
          have hxl : ((List.range i).map z).length = i := by simp
          rw [hxl] at ho ⊢
          have tl := (g5.cell (p := ⟨w.heap.size, 0, none⟩) (by show w.heap.size < _; omega)).trans tl
          have t2 := (g5.cell (p := ⟨w.heap.size + 1, 0, none⟩) (by show w.heap.size + 1 < _; omega)).trans t2
          have tn := (g5.cell (p := ⟨wr.heap.size, 0, none⟩) (by show wr.heap.size < _; omega)).trans bN.cell
          have br5 : Boxed W5 (w.heap.size + 1 + 1) 4 (.bool false) := (g5.block _ (by omega)).trans br
          have hK5 : W5.heap[D]? = some (.deferred (some [])) := (g5.block D hKD).trans hK
          have t3 := br5.cell
          have f3 := br5.frozen
          have HX := Lib.hid hxl
          have HS2 := Lib.hid (fun (j : Nat) (hj : j < ((List.range i).map z).length) => (by
            obtain ⟨g, o, e, hg, hc⟩ := HR.out j (by rw [hxl] at hj; omega)
            have k1 := (hBw.cell (p := ⟨g, o + j, none⟩) hg).trans hc
            have k2 := (HB.out.cell (p := ⟨g, o + j, none⟩) (by show g < _; omega)).trans k1
            have k3 := (g5.cell (p := ⟨g, o + j, none⟩) (by show g < _; omega)).trans k2
            refine ⟨g, o, e, k3.trans ?_⟩
            rw [hxl] at hj
            simp [List.getD, hj] : ∃ g o, a = some ⟨g, o, none⟩ ∧ W5.cell? ⟨g, o + j, none⟩ = some (.int .i64 (((List.range i).map z).getD j 0))))
          have HWW := Lib.hid (((hBw.trans (HB.out.mono (by omega))).trans (g5.mono (by omega))))
          clear hxl g5 bNl hWr
          obtain ⟨hle, hie⟩ := HM.out
          have hic : i ≤ cap := by omega
          have hi1 : ((i : Int) == 1000) = true := by rw [hie]; rfl
          have hle2 : (1000 : Int) < (len : Int) := by omega
          clear hie HM
          generalize (List.range i).map z = L at *
          have hle1 : ¬ ((len : Int) ≤ 1000) := by omega
          gi_wp2_with fail
          refine ⟨trivial, ?_⟩
          refine (callsIn_wide.2 (same_any L L a5 a i i k5 cap W5 (fun j hj => ls_cell ho.out j hj) HS2.out HX.out.symm HX.out.symm (by have := HX.out; omega))).mono ?_
          rintro e W6 ⟨rfl, m, rfl⟩
          obtain ⟨f1, f2, f4⟩ := fin_box (R := w.heap.size + 1 + 1) (D := D) (by omega) (by omega) (show Boxed (W5.drewN m) (w.heap.size + 1 + 1) 4 (.bool false) from br5) hK5 (HWW.out.trans (gb_below (gb_drewN W5 m none) HWW.out.size (fun k e => by cases e)))
          have HF := Lib.hid (And.intro f1 (And.intro f2 f4))
          clear f1 f2 f4
          gi_wp2
          obtain ⟨f1, f2, f4⟩ := HF.out
          exact ⟨by simp, .inl ⟨_, _, rfl, run_takeDeferred f1, .bool true, by simp [results, Try.f3, go_sem, f2], rfl, f4⟩⟩
        case stop =>
          rintro D cc pre W hD hpre hx hK
          obtain ⟨rfl, ⟨bN, hB⟩, hlv⟩ := hx hpre
          rw [hlv] at bN
          clear hx hpre hlv
          obtain ⟨qv, hqv⟩ : ∃ qv, (lv == (i : Int)) = qv := ⟨_, rfl⟩
          have tl := (hB.cell (p := ⟨w.heap.size, 0, none⟩) (by show w.heap.size < _; omega)).trans d1
          have t2 := (hB.cell (p := ⟨w.heap.size + 1, 0, none⟩) (by show w.heap.size + 1 < _; omega)).trans c2.cell
          have br : Boxed W (w.heap.size + 1 + 1) 4 (.bool false) := (hB.block _ (by omega)).trans c3
          have hKD : D < W.heap.size := (Array.getElem?_eq_some_iff.1 hK).1
          have bNl := bN.lt
          have hWr := hB.size
          have HGW := Lib.hid (HG.out.below hB)
          have HB := Lib.hid hB
          clear hB h1 bx bn hBx hsz2
          gi_wp2_with fail
          refine ⟨trivial, ?_⟩
          refine (callsIn_wide.2 (coll_is _ _ _ HGW.out)).mono ?_
          rintro e W5 ⟨a5, k5, rfl, ho, g5⟩
          have ho := Lib.hid (ls_own ho)
          have hxl : ((List.range i).map z).length = i := by simp
          rw [hxl] at ho ⊢
          have tl := (g5.cell (p := ⟨w.heap.size, 0, none⟩) (by show w.heap.size < _; omega)).trans tl
          have t2 := (g5.cell (p := ⟨w.heap.size + 1, 0, none⟩) (by show w.heap.size + 1 < _; omega)).trans t2
          have tn := (g5.cell (p := ⟨wr.heap.size, 0, none⟩) (by show wr.heap.size < _; omega)).trans bN.cell
          have br5 : Boxed W5 (w.heap.size + 1 + 1) 4 (.bool false) := (g5.block _ (by omega)).trans br
          have hK5 : W5.heap[D]? = some (.deferred (some [])) := (g5.block D hKD).trans hK
          have t3 := br5.cell
          have f3 := br5.frozen
          have HX := Lib.hid hxl
          have HS2 := Lib.hid (fun (j : Nat) (hj : j < ((List.range i).map z).length) => (by
            obtain ⟨g, o, e, hg, hc⟩ := HR.out j (by rw [hxl] at hj; omega)
            have k1 := (hBw.cell (p := ⟨g, o + j, none⟩) hg).trans hc
            have k2 := (HB.out.cell (p := ⟨g, o + j, none⟩) (by show g < _; omega)).trans k1
            have k3 := (g5.cell (p := ⟨g, o + j, none⟩) (by show g < _; omega)).trans k2
            refine ⟨g, o, e, k3.trans ?_⟩
            rw [hxl] at hj
            simp [List.getD, hj] : ∃ g o, a = some ⟨g, o, none⟩ ∧ W5.cell? ⟨g, o + j, none⟩ = some (.int .i64 (((List.range i).map z).getD j 0))))
          have HWW := Lib.hid (((hBw.trans (HB.out.mono (by omega))).trans (g5.mono (by omega))))
          clear hxl g5 bNl hWr
          obtain ⟨hle, hie⟩ := HM.out
          have hic : i ≤ cap := by omega
          have hi1 : ((i : Int) == 1000) = true := by rw [hie]; rfl
          have hle2 : (1000 : Int) < (len : Int) := by omega
          clear hie HM
          generalize (List.range i).map z = L at *
          have hle1 : ¬ ((len : Int) ≤ 1000) := by omega
          gi_wp2_with fail
          refine ⟨trivial, ?_⟩
          refine (callsIn_wide.2 (same_any L L a5 a i i k5 cap W5 (fun j hj => ls_cell ho.out j hj) HS2.out HX.out.symm HX.out.symm (by have := HX.out; omega))).mono ?_
          rintro e W6 ⟨rfl, m, rfl⟩
          obtain ⟨f1, f2, f4⟩ := fin_box (R := w.heap.size + 1 + 1) (D := D) (by omega) (by omega) (show Boxed (W5.drewN m) (w.heap.size + 1 + 1) 4 (.bool false) from br5) hK5 (HWW.out.trans (gb_below (gb_drewN W5 m none) HWW.out.size (fun k e => by cases e)))
          have HF := Lib.hid (And.intro f1 (And.intro f2 f4))
          clear f1 f2 f4
          cases qv
          all_goals gi_wp2
          all_goals obtain ⟨f1, f2, f4⟩ := HF.out
          all_goals exact ⟨by simp, .inl ⟨_, _, rfl, run_takeDeferred f1, .bool true, by simp [results, Try.f3, go_sem, f2], rfl, f4⟩⟩
theorem leaves_any (a : Option Addr) (len cap : Nat) (z : Nat → Int) (lv : Int) (w : World) (hr : Ins w a len z) (hlen : len ≤ 9223372036854775807) (hcap : len ≤ cap) :
    Calls Try.prog 3 #[.slice a len cap, .int .i64 lv] w fun e w' => e = .returned (.bool true) ∧ Below w.heap.size w w' := callsIn_wide.1 (leaves_in a len cap z lv w hr hlen hcap)
end Go.Proofs.Ytcbbjcafgnddcaa
