/- The law Counts. -/
import Derived.Test.YtpmkdhaponhacaaDoorP16
namespace Go.Proofs.YtpmkdhaponhacaaDoor
open Go.RowKit
set_option linter.unusedVariables false
set_option linter.unusedSimpArgs false
theorem info4 : ∃ i0 : TypeInfo, Tryd.prog.info? 4 = some i0 ∧ i0.zero = some (.bool false) ∧ i0.size = 1 ∧ i0.bytes = 1 := by
  have h : (Tryd.prog.info? 4).map (fun i => (i.zero, i.size, i.bytes)) = some (some (.bool false), 1, 1) := by kernel_rfl
  obtain ⟨i0, h1, h2⟩ := Option.map_eq_some_iff.1 h
  simp only [Prod.mk.injEq] at h2
  exact ⟨i0, h1, h2.1, h2.2.1, h2.2.2⟩
theorem row_fresh (q : Q) (k : Nat) (o : Bool) (hk : k < q.n) (hp : (q.th k).pk = false) (hn : (q.th k).nx = .no) : (step (nxt q k o).2 (k : Int)).1.1 = -1 := by
  have e : ∃ x, (x = Nx.a25 ∨ x = Nx.a26) ∧ (nxt q k o).2 = q.setT k ((q.th k).setN x) := by
    unfold nxt
    rw [if_neg (by rw [hp]; decide)]
    by_cases h : o = true ∨ k = 0
    · rw [if_pos h]
      exact ⟨.a25, .inl rfl, by show (begin q k 0).2 = _; rw [begin_at q k 0 hk hp (.inl rfl), if_pos hn, if_neg (by decide)]⟩
    · rw [if_neg h]
      exact ⟨.a26, .inr rfl, by show (begin q k 1).2 = _; rw [begin_at q k 1 hk hp (.inr ⟨rfl, fun e => h (.inr e)⟩), if_pos hn, if_pos rfl]⟩
  obtain ⟨x, hx, e⟩ := e
  rw [e, step_form q k _ hk (by rcases hx with rfl | rfl; show Nx.a25 ≠ Nx.no; decide; show Nx.a26 ≠ Nx.no; decide)]
  rcases hx with rfl | rfl
  · rfl
  · rfl
def OwnB (w : World) (B : Nat) (v : Value) (l : List Bool) : Prop := w.ownsRow B 4 1 v l.length (l.map Value.bool)
theorem ownb_slice {w : World} {B : Nat} {v : Value} {l : List Bool} (h : OwnB w B v l) : ∃ a cap, v = .slice a l.length cap := by
  rcases h with ⟨_, ⟨h2, h3⟩ | ⟨s, cap, cur, e, _⟩⟩
  · exact ⟨none, 0, by rw [h2, h3]⟩
  · exact ⟨_, _, e⟩
def pks (q : Q) (j : Nat) : List Bool := (List.range j).map (fun i => (q.th i).pk)
theorem pks_len (q : Q) (j : Nat) : (pks q j).length = j := by simp [pks]
theorem pks_succ (q : Q) (j : Nat) : pks q (j + 1) = pks q j ++ [(q.th j).pk] := by simp [pks, List.range_succ]
/-- the row that was built -/
theorem ownb_row {w : World} {B : Nat} {v : Value} {q : Q} {m : Nat} (hm : 1 ≤ m) (h : OwnB w B v (pks q m)) : ∃ g cap, v = .slice (some ⟨g, 0, none⟩) m cap ∧ B ≤ g ∧ g < w.heap.size ∧ ∀ j, j < m → w.cell? ⟨g, j, none⟩ = some (.bool (q.th j).pk) := by
  have hl := pks_len q m
  rcases h with ⟨h1, ⟨h2, h3⟩ | ⟨s, cap, cur, e, hb, hg, hnc, hcm, hcs, hr⟩⟩
  · rw [hl] at h3; omega
  · refine ⟨s, cap, by rw [e, hl], hb, ?_, fun j hj => ?_⟩
    · by_cases h : s < w.heap.size
      · exact h
      · rw [Array.getElem?_eq_none (by simpa using h)] at hg; cases hg
    · rw [cell_of_row w s j cur 4 (0, 0) hg]
      have := congrArg (fun q : List Value => q[j]?) hr
      simp only [List.getElem?_take, List.getElem?_map, Array.getElem?_toList] at this
      rw [if_pos (by rw [hl]; omega)] at this
      rw [this]
      simp [pks, hj]
theorem Ct.more {q : Q} {i i' : Nat} (h : Ct q i) (e : i ≤ i') : Ct q i' := ⟨h.b.more e, h.o⟩
theorem Ow.belo {w wr w' : World} {b p : Nat} {q : Q} (h : Ow w wr b p q) (g : Below wr.heap.size wr w') : Ow w w' b p q := by
  have hs := h.bel.size
  exact ⟨h.l.below g, h.wf, bel_trans h.bel ⟨g.os, g.tape, g.output, g.size, fun k hk => g.block k (by omega)⟩, h.hb, h.hp⟩
set_option maxRecDepth 100000 in
set_option maxHeartbeats 16000000 in
theorem counts_any (s : Int) (a : Option Addr) (len cap : Nat) (t : Nat → Int) (o : Nat → Bool) (w : World) (hT : Tab w 1) (hr : Rws w a len t o) (hlen : len ≤ 100000000000000) :
    Calls Tryd.prog 7 #[.int .i64 s, .slice a len cap] w fun e w' => e = .returned (.bool true) ∧ Below w.heap.size w w' := by
  obtain ⟨i4, hi4, hz40, hz41, hz42⟩ := info4
  have hlt1 := tab_lt hT
  have HL := Lib.hid (lives_any w hT)
  have HT := Lib.hid hT
  have HF0 := Lib.hid (ct0 s)
  have HQN : Hid ((Q0 (nw s + 1)).work = 0) := Lib.hid rfl
  clear hT
  go_enter Tryd.func7, Tryd.ntmps7
  go_wp2_with fail
  refine HL.out.mono ?_
  rintro e w1 ⟨rfl, g1⟩
  have HN := Lib.hid (ow_newc s w1 (tab_below HT.out g1 hlt1))
  have G1 := Lib.hid g1
  clear HL HT g1
  go_wp2_with fail
  refine HN.out.mono ?_
  rintro e w2 ⟨b, p, rfl, o2⟩
  clear HN
  have O2 : Hid (Ow w w2 b p (Q0 (nw s + 1))) := Lib.hid ⟨o2.l, o2.wf, bel_trans G1.out ⟨o2.bel.os, o2.bel.tape, o2.bel.output, o2.bel.size, fun k hk => o2.bel.block k (by have := G1.out.size; omega)⟩, by have := G1.out.size; have := o2.hb; omega, by have := G1.out.size; have := o2.hp; omega⟩
  clear o2 G1
  generalize Q0 (nw s + 1) = q0 at *
  go_wp2_with fail
  go_loopw [6, 7] (fun mv kv wr => ∃ (i : Nat) (q : Q), i ≤ len ∧ mv = .int .i64 q.work ∧ kv = .int .i64 i ∧ Ow w wr b p q ∧ Hid (Ct q i)) (fun mv kv wr => len - (intOf kv).toNat)
  case atStart => exact ⟨0, q0, Nat.zero_le _, by rw [HQN.out], rfl, O2.out, HF0⟩
  case round =>
    clear O2 HF0 HQN
    obtain ⟨i, q, hi, rfl, rfl, M, F⟩ := hrel
    by_cases hlt : i < len
    · obtain ⟨sb, so, rfl, hsb, k0, k1⟩ := hr i hlt
      have d0 := (M.bel.cell (p := ⟨sb, so + i * 2, none⟩) hsb).trans k0
      have hi3 : (i : Int) < (len : Int) := by omega
      have hi0 : (0 : Int) ≤ (i : Int) := by omega
      have HR := Lib.hid hr
      have HLT := Lib.hid (And.intro hlt hlen)
      have HSB := Lib.hid hsb
      generalize t i = ti at d0 k0
      generalize o i = oi at k1
      have HK0 := Lib.hid k0
      have HK1 := Lib.hid k1
      clear k0 k1 hr hlt
      have hq1 : 1 ≤ q.n := by have := M.l.n1; omega
      obtain ⟨k, hk, ek⟩ := modn ti q.n M.l.n1 M.l.n2
      have EK : Hid (wrap64 ((IntKind.u64.wrap ti).tmod (((q.n - 1 : Nat) : Int) + 1)) = (k : Int)) := Lib.hid (by rw [← ek]; congr 2; omega)
      have HW : Hid (∀ W1 : World, W1.heap = wr.heap → Calls Tryd.prog 11 #[.pointer (some ⟨b, 0, none⟩)] W1 fun e w' => e = .returned (.int .i64 ((q.n - 1 : Nat) : Int)) ∧ w' = W1) := Lib.hid (fun W1 e => workers_any (M.l.same e))
      have n1 := M.l.n1
      have n2 := M.l.n2
      have MM := Lib.hid M
      clear M ek hq1
      generalize hN : q.n - 1 = N at *
      have hn : q.n = N + 1 := by omega
      rw [hn] at hk n1 n2
      clear hN
      have HQ := Lib.hid hn
      clear hn
      go_wp2_with fail
      go_quiet (first | (go_at_call 11; exact Calls.quiet_of_same (HW.out _ (by rfl))))
      rw [EK.out]
      have MD := Lib.hid (MM.out.drewN nq)
      have hd0 : (wr.drewN nq).cell? ⟨sb, so + i * 2, none⟩ = some (.int .i64 ti) := (MM.out.bel.cell (p := ⟨sb, so + i * 2, none⟩) HSB.out).trans HK0.out
      have hd1 : (wr.drewN nq).cell? ⟨sb, so + i * 2 + 1, none⟩ = some (.bool oi) := (MM.out.bel.cell (p := ⟨sb, so + i * 2 + 1, none⟩) HSB.out).trans HK1.out
      clear MM HW d0
      generalize wr.drewN nq = W at *
      have hkN : k ≤ N := by omega
      obtain ⟨fr, hfr⟩ : ∃ fr : Bool, fr = decide ((q.th k).nx = .no) := ⟨_, rfl⟩
      have HBz := Lib.hid (busy_any MD.out.l (k : Int) (!fr) (by rw [decide_eq_true (by have := HQ.out; omega), Int.toNat_natCast, Bool.true_and, hfr]; cases h : decide ((q.th k).nx = .no) <;> simp_all))
      have HBg := Lib.hid (beg_any MD.out HQ.out ti oi k hk EK.out)
      have HFR := Lib.hid hfr
      clear hfr EK
      go_wp2_with fail
      refine HBz.out.mono ?_
      rintro e w3 ⟨rfl, rfl⟩
      cases hpk : (q.th k).pk
      · obtain ⟨what, who, q2, ev, C⟩ := ct_row F.out k (by have := HQ.out; omega) (by have := F.out.b.wi; have := HLT.out; omega) oi hpk
        have e1 : (nxt q k oi).1 = true := by unfold nxt; rw [if_neg (by rw [hpk]; decide)]
        have e2 : ∀ j, ((nxt q k oi).2.th j).pk = (q.th j).pk := fun j => by
          unfold nxt
          rw [if_neg (by rw [hpk]; decide)]
          have hkn : k < q.n := by have := HQ.out; omega
          have hop : (if oi = true ∨ k = 0 then (0 : Int) else 1) = 0 ∨ ((if oi = true ∨ k = 0 then (0 : Int) else 1) = 1 ∧ k ≠ 0) := by
            by_cases h : oi = true ∨ k = 0
            · rw [if_pos h]; exact .inl rfl
            · rw [if_neg h]; exact .inr ⟨rfl, fun e => h (.inr e)⟩
          show ((begin q k _).2.th j).pk = _
          rw [begin_at q k _ hkn hpk hop]
          by_cases h : (q.th k).nx = .no
          · rw [if_pos h, pk_setN]
          · rw [if_neg h]
        have e3 : (nxt q k oi).2.n = N + 1 := by
          have := C.n
          unfold nxt
          rw [if_neg (by rw [hpk]; decide)]
          have hkn : k < q.n := by have := HQ.out; omega
          have hop : (if oi = true ∨ k = 0 then (0 : Int) else 1) = 0 ∨ ((if oi = true ∨ k = 0 then (0 : Int) else 1) = 1 ∧ k ≠ 0) := by
            by_cases h : oi = true ∨ k = 0
            · rw [if_pos h]; exact .inl rfl
            · rw [if_neg h]; exact .inr ⟨rfl, fun e => h (.inr e)⟩
          show ((begin q k _).2).n = _
          rw [begin_at q k _ hkn hpk hop]
          by_cases h : (q.th k).nx = .no
          · rw [if_pos h]; exact HQ.out
          · rw [if_neg h]; exact HQ.out
        have HPS : Hid (∀ j, pks (nxt q k oi).2 j = pks q j) := Lib.hid (fun j => by simp only [pks, e2])
        have HFX : Hid ((q.th k).nx = .no → what = -1) := Lib.hid (fun h => by have e := row_fresh q k oi (by have := HQ.out; omega) hpk h; rw [ev] at e; exact e)
        have HEV := Lib.hid ev
        have HC := Lib.hid C
        have HBq := HBg.out
        rw [e1] at HBq
        have HB2 := Lib.hid HBq
        clear HBq HBg e1 ev C hpk HBz
        generalize (nxt q k oi).2 = q1 at *
        have HE2 := Lib.hid e2
        have HE3 := Lib.hid e3
        clear e2 e3
        go_wp2_with fail
        refine HB2.out.mono ?_
        rintro e w4 ⟨rfl, M4⟩
        have MQ := Lib.hid M4
        clear M4 HB2 MD
        go_wp2_with fail
        have hd1' : w4.cell? ⟨sb, so + i * 2 + 1, none⟩ = some (.bool oi) := (MQ.out.bel.cell (p := ⟨sb, so + i * 2 + 1, none⟩) HSB.out).trans HK1.out
        have HD1 := Lib.hid hd1'
        clear hd0 hd1 hd1'
        go_loopw [12, 13] (fun v jv wx => ∃ j : Nat, j ≤ N + 1 ∧ jv = .int .i64 (j : Int) ∧ OwnB wx w4.heap.size v (pks q j) ∧ Below w4.heap.size w4 wx) (fun v jv wx => N + 2 - (intOf jv).toNat)
        case atStart => exact ⟨0, Nat.zero_le _, rfl, World.ownsRow_nil _ _ _ _, Below.refl _ _⟩
        case round =>
          obtain ⟨j, hj, rfl, hown, hb⟩ := hrel
          have M2 := MQ.out.belo hb
          have HW := Lib.hid (ow_workers M2 HE3.out)
          by_cases hjN : j ≤ N
          · have HP := Lib.hid (ow_parked M2 j (by rw [HE3.out]; omega) _ (HE2.out j))
            have hjN' : (j : Int) ≤ (N : Int) := by omega
            have hsx := hb.size
            have HS := Lib.hid (pks_succ q j)
            have hln : (pks q j).length = j := pks_len q j
            generalize pks q j = l at *
            generalize (q.th j).pk = X at *
            obtain ⟨wa, wc, rfl⟩ := ownb_slice hown
            have ho : wr.ownsRow w4.heap.size 4 1 (.slice wa l.length wc) l.length (l.map Value.bool) := hown
            have HO := Lib.hid ho
            have HB := Lib.hid hb
            have hl8 : l.length ≤ 8 := by omega
            have HLN := Lib.hid hln
            clear hown hb ho M2 hln
            go_wp2_with fail
            refine HW.out.mono ?_
            rintro e w5 ⟨rfl, rfl⟩
            go_wp2_with fail
            refine HP.out.mono ?_
            rintro e w6 ⟨rfl, rfl⟩
            go_wp2_with (at_builtin; refine wpList_append_own _ rfl _ _ 53 rfl w4.heap.size 4 i4 (.bool false) 1 1 Tryd.underlying53 hi4 hz40 hz41 hz42 rfl (by decide) _ _ _ rfl (HO.out.alloc _) ⟨_, 0, none⟩ 1 1 [.bool X] rfl rfl (cell_one_new _ _ _) (by simp [Value.oneCell']) (by unfold maxLen; omega) (by omega) (by simp; omega) ?_; intro v' w8 hown1 hgrow _)
            have hg : (w6.alloc (.cells #[.bool X] 4)).grownBy w8 (Value.slice wa l.length wc).ownBlock := hgrow
            have hbm := below_append HO.out HB.out (Nat.le_refl _) hg
            exact ⟨⟨j + 1, by omega, by go_num, by show w8.ownsRow _ _ _ _ _ _; rw [HS.out]; simpa using hown1, hbm⟩, by simp [intOf]; omega⟩
          · obtain rfl : j = N + 1 := by omega
            have hge : ¬ (((N + 1 : Nat) : Int) ≤ (N : Int)) := by omega
            obtain ⟨g, wc, rfl, hg1, hg2, hgc⟩ := ownb_row (by omega) hown
            have HGC := Lib.hid hgc
            have HBB := Lib.hid hb
            have HM2 := Lib.hid M2
            clear hgc hb hown M2
            have hsb2 : b < w4.heap.size := MQ.out.l.s.lt
            have hsp2 : p < w4.heap.size := MQ.out.l.t.lt
            have hwf := wf_step HM2.out.wf (k : Int)
            have cs := step_any HM2.out.l (k : Int) HM2.out.wf.who
            rw [HEV.out] at cs hwf
            have CS := Lib.hid cs
            have HWF := Lib.hid hwf
            have HG2 := Lib.hid (And.intro hg1 hg2)
            have HSBP := Lib.hid (And.intro hsb2 hsp2)
            have HBI := Lib.hid (And.intro F.out.b.w0 (show q.work ≤ 100000000000000 by have := F.out.b.wi; have := HLT.out; omega))
            clear cs hwf hg1 hg2 hsb2 hsp2
            go_wp2_with fail
            refine HW.out.mono ?_
            rintro e w5 ⟨rfl, rfl⟩
            clear hge
            go_wp2_with fail
            refine CS.out.mono ?_
            rintro e w6 ⟨rfl, l6, f6⟩
            have M6 := Lib.hid (HM2.out.to l6 HWF.out f6)
            have HGC6 : Hid (∀ j, j < N + 1 → w6.cell? ⟨g, j, none⟩ = some (.bool (q.th j).pk)) := Lib.hid (fun j hj => (f6.cell (p := ⟨g, j, none⟩) HG2.out.2 (by intro h; have := HSBP.out; have := HG2.out; rcases h with h | h <;> (have h' : g = _ := h; omega))).trans (HGC.out j hj))
            have hd1 : w6.cell? ⟨sb, so + i * 2 + 1, none⟩ = some (.bool oi) := (M6.out.bel.cell (p := ⟨sb, so + i * 2 + 1, none⟩) HSB.out).trans HK1.out
            have hn2 : q2.n = N + 1 := by rw [HC.out.n]; exact HQ.out
            have HW6 := Lib.hid (ow_workers M6.out hn2)
            have HP6 : Hid (∀ j, j ≤ N → Calls Tryd.prog 12 #[.pointer (some ⟨b, 0, none⟩), .int .i64 (j : Int)] w6 fun e w' => e = .returned (.bool (if what = 3 ∧ j = k then true else if what = 1 ∧ j = who then false else (q.th j).pk)) ∧ w' = w6) := Lib.hid (fun j hj => ow_parked M6.out j (by omega) _ (HC.out.pk j (by have := HQ.out; omega)))
            have HWk := Lib.hid (work_any M6.out.l)
            have HN2 := Lib.hid hn2
            have CT := Lib.hid HC.out.ct
            have hwho := HC.out.who
            have a0 := HBI.out.1
            have a1 := HBI.out.2
            have b0 : 0 ≤ q2.work := HC.out.ct.b.w0
            have hinc : (fr = false ∧ q2.work = q.work + 0 - (if what = 2 then 1 else 0)) ∨ (fr = true ∧ oi = true ∧ q2.work = q.work + 1 - (if what = 2 then 1 else 0)) ∨ (fr = true ∧ oi = false ∧ ((k : Int) == 0) = true ∧ q2.work = q.work + 1 - (if what = 2 then 1 else 0)) ∨ (fr = true ∧ oi = false ∧ ((k : Int) == 0) = false ∧ q2.work = q.work + 0 - (if what = 2 then 1 else 0)) := by
              have hw := HC.out.work
              have hf := HFR.out
              by_cases h1 : (q.th k).nx = .no
              · rw [decide_eq_true h1] at hf
                cases oi
                · by_cases h2 : k = 0
                  · rw [if_pos ⟨h1, .inr h2⟩] at hw
                    exact .inr (.inr (.inl ⟨hf, rfl, by simp; exact h2, hw⟩))
                  · rw [if_neg (by rintro ⟨_, h | h⟩; cases h; exact h2 h)] at hw
                    exact .inr (.inr (.inr ⟨hf, rfl, by simp; exact h2, hw⟩))
                · rw [if_pos ⟨h1, .inl rfl⟩] at hw
                  exact .inr (.inl ⟨hf, rfl, hw⟩)
              · rw [decide_eq_false h1] at hf
                rw [if_neg (fun c => h1 c.1)] at hw
                exact .inl ⟨hf, hw⟩
            have hfq : what ≠ -1 → fr = false := fun h => by rw [HFR.out]; exact decide_eq_false (fun e => h (HFX.out e))
            clear l6 f6 HFX HC CS HWF HM2 HGC HW HBB MQ HFR HEV HE2 HE3 HPS hn2
            have hwhat : what = 1 ∨ what = 2 ∨ what = 3 ∨ ((what == 1) = false ∧ (what == 2) = false ∧ (what == 3) = false ∧ (what != 1) = true) := by
              by_cases h1 : what = 1
              · exact .inl h1
              · by_cases h2 : what = 2
                · exact .inr (.inl h2)
                · by_cases h3 : what = 3
                  · exact .inr (.inr (.inl h3))
                  · exact .inr (.inr (.inr ⟨by simpa using h1, by simpa using h2, by simpa using h3, by simpa using h1⟩))
            rcases hwhat with rfl | rfl | rfl | ⟨hw1, hw2, hw3, hw4⟩
            · have hwr : 1 ≤ who ∧ who < N + 1 := by
                rcases hwho with ⟨_, h1, h2⟩ | ⟨h, _⟩
                · exact ⟨h1, by have := HQ.out; omega⟩
                · exact absurd rfl h
              have hwr1 : (1 : Int) ≤ (who : Int) := by omega
              have hwr2 : (who : Int) ≤ (N : Int) := by omega
              clear hwho
              have hf0 := hfq (by decide)
              clear hfq
              obtain ⟨rfl, ew⟩ : fr = false ∧ q2.work = q.work + 0 - (if (1 : Int) = 2 then 1 else 0) := by
                rcases hinc with h | h | h | h
                · exact h
                · rw [hf0] at h; cases h.1
                · rw [hf0] at h; cases h.1
                · rw [hf0] at h; cases h.1
              clear hf0 hinc
              all_goals
                rw [if_neg (by decide)] at ew
                simp only [Int.add_zero, Int.sub_zero, Int.add_sub_cancel] at ew
                rw [ew] at HWk b0
                go_wp2_with fail
                refine HWk.out.mono ?_
                rintro e w7 ⟨rfl, rfl⟩
                go_wp2_with fail
                go_loopw [17] (fun jv wx => ∃ j : Nat, j ≤ N + 1 ∧ jv = .int .i64 (j : Int) ∧ wx = w7) (fun jv wx => N + 2 - (intOf jv).toNat)
                case atStart => exact ⟨0, Nat.zero_le _, rfl, rfl⟩
                case round =>
                  obtain ⟨j, hj, rfl, rfl⟩ := hrel
                  by_cases hjN : j ≤ N
                  · have hp := HP6.out j hjN
                    have hc := HGC6.out j (by omega)
                    have hj1 : (j : Int) ≤ (N : Int) := by omega
                    have hj2 : (j : Int) < ((N + 1 : Nat) : Int) := by omega
                    have hj3 : (0 : Int) ≤ (j : Int) := by omega
                    by_cases ej : j = who
                    · subst ej
                      rw [if_neg (fun c => absurd c.1 (by decide)), if_pos (by simp)] at hp
                      have HPj := Lib.hid hp
                      clear hp
                      go_wp2_with fail
                      refine HW6.out.mono ?_
                      rintro e w8 ⟨rfl, rfl⟩
                      go_wp2_with fail
                      refine HPj.out.mono ?_
                      rintro e w9 ⟨rfl, rfl⟩
                      go_wp2
                      exact ⟨⟨j + 1, by omega, by go_num, trivial⟩, by simp [intOf]; omega⟩
                    · have hbj : ((who : Int) == (j : Int)) = false := by simp; exact fun e => ej (by omega)
                      rw [if_neg (fun c => absurd c.1 (by decide)), if_neg (fun c => ej c.2)] at hp
                      have HPj := Lib.hid hp
                      clear hp
                      generalize (q.th j).pk = X at *
                      go_wp2_with fail
                      refine HW6.out.mono ?_
                      rintro e w8 ⟨rfl, rfl⟩
                      go_wp2_with fail
                      refine HPj.out.mono ?_
                      rintro e w9 ⟨rfl, rfl⟩
                      go_wp2
                      exact ⟨⟨j + 1, by omega, by go_num, trivial⟩, by simp [intOf]; omega⟩
                  · obtain rfl : j = N + 1 := by omega
                    have hge : ¬ (((N + 1 : Nat) : Int) ≤ (N : Int)) := by omega
                    go_wp2_with fail
                    refine HW6.out.mono ?_
                    rintro e w8 ⟨rfl, rfl⟩
                    go_wp2_with fail
                    refine HW6.out.mono ?_
                    rintro e w9 ⟨rfl, rfl⟩
                    go_wp2
                    exact ⟨⟨i + 1, q2, by have := HLT.out; omega, by congr 1; omega, by go_num, M6.out, CT⟩, by have := HLT.out; simp [intOf]; omega⟩
            · obtain rfl : who = 0 := by rcases hwho with ⟨h, _⟩ | ⟨_, h⟩; exact absurd h (by decide); exact h
              clear hwho
              have hf0 := hfq (by decide)
              clear hfq
              obtain ⟨rfl, ew⟩ : fr = false ∧ q2.work = q.work + 0 - (if (2 : Int) = 2 then 1 else 0) := by
                rcases hinc with h | h | h | h
                · exact h
                · rw [hf0] at h; cases h.1
                · rw [hf0] at h; cases h.1
                · rw [hf0] at h; cases h.1
              clear hf0 hinc
              all_goals
                rw [if_pos rfl] at ew
                simp only [Int.add_zero, Int.sub_zero, Int.add_sub_cancel] at ew
                rw [ew] at HWk b0
                go_wp2_with fail
                refine HWk.out.mono ?_
                rintro e w7 ⟨rfl, rfl⟩
                go_wp2_with fail
                go_loopw [17] (fun jv wx => ∃ j : Nat, j ≤ N + 1 ∧ jv = .int .i64 (j : Int) ∧ wx = w7) (fun jv wx => N + 2 - (intOf jv).toNat)
                case atStart => exact ⟨0, Nat.zero_le _, rfl, rfl⟩
                case round =>
                  obtain ⟨j, hj, rfl, rfl⟩ := hrel
                  by_cases hjN : j ≤ N
                  · have hp := HP6.out j hjN
                    have hc := HGC6.out j (by omega)
                    have hj1 : (j : Int) ≤ (N : Int) := by omega
                    have hj2 : (j : Int) < ((N + 1 : Nat) : Int) := by omega
                    have hj3 : (0 : Int) ≤ (j : Int) := by omega
                    rw [if_neg (fun c => absurd c.1 (by decide)), if_neg (fun c => absurd c.1 (by decide))] at hp
                    have HPj := Lib.hid hp
                    clear hp
                    generalize (q.th j).pk = X at *
                    go_wp2_with fail
                    refine HW6.out.mono ?_
                    rintro e w8 ⟨rfl, rfl⟩
                    go_wp2_with fail
                    refine HPj.out.mono ?_
                    rintro e w9 ⟨rfl, rfl⟩
                    go_wp2
                    exact ⟨⟨j + 1, by omega, by go_num, trivial⟩, by simp [intOf]; omega⟩
                  · obtain rfl : j = N + 1 := by omega
                    have hge : ¬ (((N + 1 : Nat) : Int) ≤ (N : Int)) := by omega
                    go_wp2_with fail
                    refine HW6.out.mono ?_
                    rintro e w8 ⟨rfl, rfl⟩
                    go_wp2
                    exact ⟨⟨i + 1, q2, by have := HLT.out; omega, by congr 1; omega, by go_num, M6.out, CT⟩, by have := HLT.out; simp [intOf]; omega⟩
            · obtain rfl : who = 0 := by rcases hwho with ⟨h, _⟩ | ⟨_, h⟩; exact absurd h (by decide); exact h
              clear hwho
              have hf0 := hfq (by decide)
              clear hfq
              obtain ⟨rfl, ew⟩ : fr = false ∧ q2.work = q.work + 0 - (if (3 : Int) = 2 then 1 else 0) := by
                rcases hinc with h | h | h | h
                · exact h
                · rw [hf0] at h; cases h.1
                · rw [hf0] at h; cases h.1
                · rw [hf0] at h; cases h.1
              clear hf0 hinc
              all_goals
                rw [if_neg (by decide)] at ew
                simp only [Int.add_zero, Int.sub_zero, Int.add_sub_cancel] at ew
                rw [ew] at HWk b0
                go_wp2_with fail
                refine HWk.out.mono ?_
                rintro e w7 ⟨rfl, rfl⟩
                go_wp2_with fail
                go_loopw [17] (fun jv wx => ∃ j : Nat, j ≤ N + 1 ∧ jv = .int .i64 (j : Int) ∧ wx = w7) (fun jv wx => N + 2 - (intOf jv).toNat)
                case atStart => exact ⟨0, Nat.zero_le _, rfl, rfl⟩
                case round =>
                  obtain ⟨j, hj, rfl, rfl⟩ := hrel
                  by_cases hjN : j ≤ N
                  · have hp := HP6.out j hjN
                    have hc := HGC6.out j (by omega)
                    have hj1 : (j : Int) ≤ (N : Int) := by omega
                    have hj2 : (j : Int) < ((N + 1 : Nat) : Int) := by omega
                    have hj3 : (0 : Int) ≤ (j : Int) := by omega
                    by_cases ej : j = k
                    · subst ej
                      rw [if_pos (by simp)] at hp
                      have HPj := Lib.hid hp
                      clear hp
                      go_wp2_with fail
                      refine HW6.out.mono ?_
                      rintro e w8 ⟨rfl, rfl⟩
                      go_wp2_with fail
                      refine HPj.out.mono ?_
                      rintro e w9 ⟨rfl, rfl⟩
                      go_wp2
                      exact ⟨⟨j + 1, by omega, by go_num, trivial⟩, by simp [intOf]; omega⟩
                    · have hbj : ((k : Int) == (j : Int)) = false := by simp; exact fun e => ej (by omega)
                      rw [if_neg (fun c => ej c.2), if_neg (fun c => absurd c.1 (by decide))] at hp
                      have HPj := Lib.hid hp
                      clear hp
                      generalize (q.th j).pk = X at *
                      go_wp2_with fail
                      refine HW6.out.mono ?_
                      rintro e w8 ⟨rfl, rfl⟩
                      go_wp2_with fail
                      refine HPj.out.mono ?_
                      rintro e w9 ⟨rfl, rfl⟩
                      go_wp2
                      exact ⟨⟨j + 1, by omega, by go_num, trivial⟩, by simp [intOf]; omega⟩
                  · obtain rfl : j = N + 1 := by omega
                    have hge : ¬ (((N + 1 : Nat) : Int) ≤ (N : Int)) := by omega
                    go_wp2_with fail
                    refine HW6.out.mono ?_
                    rintro e w8 ⟨rfl, rfl⟩
                    go_wp2
                    exact ⟨⟨i + 1, q2, by have := HLT.out; omega, by congr 1; omega, by go_num, M6.out, CT⟩, by have := HLT.out; simp [intOf]; omega⟩
            · obtain rfl : who = 0 := by
                rcases hwho with ⟨h, _⟩ | ⟨_, h⟩
                · subst h; simp at hw1
                · exact h
              clear hwho
              clear hfq
              rcases hinc with ⟨rfl, ew⟩ | ⟨rfl, rfl, ew⟩ | ⟨rfl, rfl, hkb, ew⟩ | ⟨rfl, rfl, hkb, ew⟩
              all_goals
                rw [if_neg (by intro e; subst e; simp at hw2)] at ew
                simp only [Int.add_zero, Int.sub_zero, Int.add_sub_cancel] at ew
                rw [ew] at HWk b0
                go_wp2_with fail
                refine HWk.out.mono ?_
                rintro e w7 ⟨rfl, rfl⟩
                go_wp2_with fail
                go_loopw [17] (fun jv wx => ∃ j : Nat, j ≤ N + 1 ∧ jv = .int .i64 (j : Int) ∧ wx = w7) (fun jv wx => N + 2 - (intOf jv).toNat)
                case atStart => exact ⟨0, Nat.zero_le _, rfl, rfl⟩
                case round =>
                  obtain ⟨j, hj, rfl, rfl⟩ := hrel
                  by_cases hjN : j ≤ N
                  · have hp := HP6.out j hjN
                    have hc := HGC6.out j (by omega)
                    have hj1 : (j : Int) ≤ (N : Int) := by omega
                    have hj2 : (j : Int) < ((N + 1 : Nat) : Int) := by omega
                    have hj3 : (0 : Int) ≤ (j : Int) := by omega
                    rw [if_neg (fun c => by have := c.1; subst this; simp at hw3), if_neg (fun c => by have := c.1; subst this; simp at hw1)] at hp
                    have HPj := Lib.hid hp
                    clear hp
                    generalize (q.th j).pk = X at *
                    go_wp2_with fail
                    refine HW6.out.mono ?_
                    rintro e w8 ⟨rfl, rfl⟩
                    go_wp2_with fail
                    refine HPj.out.mono ?_
                    rintro e w9 ⟨rfl, rfl⟩
                    go_wp2
                    exact ⟨⟨j + 1, by omega, by go_num, trivial⟩, by simp [intOf]; omega⟩
                  · obtain rfl : j = N + 1 := by omega
                    have hge : ¬ (((N + 1 : Nat) : Int) ≤ (N : Int)) := by omega
                    go_wp2_with fail
                    refine HW6.out.mono ?_
                    rintro e w8 ⟨rfl, rfl⟩
                    go_wp2
                    exact ⟨⟨i + 1, q2, by have := HLT.out; omega, by congr 1; omega, by go_num, M6.out, CT⟩, by have := HLT.out; simp [intOf]; omega⟩
      · have HPK := Lib.hid hpk
        have HBq := HBg.out
        rw [show nxt q k oi = (false, q) from if_pos hpk] at HBq
        have HB2 := Lib.hid HBq
        clear HBq HBg hpk HBz
        go_wp2_with fail
        refine HB2.out.mono ?_
        rintro e w4 ⟨rfl, M4⟩
        go_wp2
        exact ⟨⟨i + 1, q, by have := HLT.out; omega, rfl, by go_num, M4, Lib.hid (F.out.more (Nat.le_succ i))⟩, by have := HLT.out; simp [intOf]; omega⟩
    · have hge : ¬ ((i : Int) < (len : Int)) := by omega
      have MB := Lib.hid M.bel
      clear M F hlen
      go_wp2
      go_ret
      exact ⟨rfl, MB.out⟩
end Go.Proofs.YtpmkdhaponhacaaDoor
