/- The reference's ring: its blocks, New, Black, Pass. -/
import Derived.Test.YtmagenfndbaliaaP8
import Derived.Test.YtmagenfndbaliaaP7
namespace Go.Proofs.Ytmagenfndbaliaa
open Go.RowKit
set_option linter.unusedVariables false
set_option linter.unusedSimpArgs false
def mgf (vb : Value) (tk : Bool) (h : Nat) (rd : Bool) (j : Nat) : Value := if j = 0 then vb else if j = 1 then .bool tk else if j = 2 then .int .i64 h else .bool rd
def Bk (w : World) (g n cap : Nat) (bl : Nat → Bool) : Prop := ∃ cur, w.heap[g]? = some (.cells cur 4 (0, 0)) ∧ n ≤ cap ∧ cap ≤ cur.size ∧ ∀ i, i < n → cur[i]? = some (.bool (bl i))
/-- the reference's ring in the block b, its blacks in the block g -/
structure Mr (w : World) (b g cap : Nat) (r : R) : Prop where
  s : w.rowIs b 31 4 (mgf (.slice (some ⟨g, 0, none⟩) r.n cap) r.tk r.h r.rd)
  t : Bk w g r.n cap r.bl
  ne : b ≠ g
section
variable {w w1 : World} {b g cap n : Nat} {r : R} {bl : Nat → Bool}
theorem Bk.lt (h : Bk w g n cap bl) : g < w.heap.size := by
  obtain ⟨cur, hc, _⟩ := h
  by_cases e : g < w.heap.size
  · exact e
  · rw [Array.getElem?_eq_none (by omega)] at hc; cases hc
theorem Bk.of (h : Bk w g n cap bl) (e : w1.heap[g]? = w.heap[g]?) : Bk w1 g n cap bl := by
  obtain ⟨cur, hc, r⟩ := h
  exact ⟨cur, by rw [e]; exact hc, r⟩
theorem Bk.cell (h : Bk w g n cap bl) (i : Nat) (hi : i < n) : w.cell? ⟨g, i, none⟩ = some (.bool (bl i)) := by
  obtain ⟨cur, hc, _, _, hi2⟩ := h
  simp [World.cell?, hc, hi2 i hi]
theorem Bk.fz (h : Bk w g n cap bl) (i : Nat) : w.frozen? ⟨g, i, none⟩ = false := by
  obtain ⟨cur, hc, _⟩ := h
  simp [World.frozen?, hc]
theorem Bk.set (h : Bk w g n cap bl) (i : Nat) (c : Bool) : Bk (w.setCell ⟨g, i, none⟩ (.bool c)) g n cap (fun j => if j = i then c else bl j) := by
  obtain ⟨cur, hc, h1, h2, h3⟩ := h
  refine ⟨_, Go.heap_setCell_same w g i cur 4 _ hc, h1, by simpa using h2, fun j hj => ?_⟩
  rw [Array.getElem?_setIfInBounds]
  show _ = some (Value.bool (if j = i then c else bl j))
  by_cases e : j = i
  · subst e
    rw [if_pos rfl, if_pos (by omega), if_pos rfl]
  · rw [if_neg (Ne.symm e), if_neg e, h3 j hj]
theorem Mr.frame (h : Mr w b g cap r) {S : Nat → Prop} (f : Fr w w1 S) (hb : ¬ S b) (hg : ¬ S g) : Mr w1 b g cap r := ⟨row_fr h.s f hb, h.t.of (f.block g h.t.lt hg), h.ne⟩
theorem Mr.below (h : Mr w b g cap r) (f : Below w.heap.size w w1) : Mr w1 b g cap r := ⟨row_below h.s f h.s.lt, h.t.of (f.block g h.t.lt), h.ne⟩
theorem Mr.same (h : Mr w b g cap r) (e : w1.heap = w.heap) : Mr w1 b g cap r := ⟨h.s.of_block (by rw [e]), h.t.of (by rw [e]), h.ne⟩
theorem Mr.c0 (h : Mr w b g cap r) : w.cell? ⟨b, 0, none⟩ = some (.slice (some ⟨g, 0, none⟩) r.n cap) := row_val h.s (by omega) rfl
theorem Mr.c1 (h : Mr w b g cap r) : w.cell? ⟨b, 1, none⟩ = some (.bool r.tk) := row_val h.s (by omega) rfl
theorem Mr.c2 (h : Mr w b g cap r) : w.cell? ⟨b, 2, none⟩ = some (.int .i64 r.h) := row_val h.s (by omega) rfl
theorem Mr.c3 (h : Mr w b g cap r) : w.cell? ⟨b, 3, none⟩ = some (.bool r.rd) := row_val h.s (by omega) rfl
theorem Mr.fb (h : Mr w b g cap r) (i : Nat) : w.frozen? ⟨b, i, none⟩ = false := World.rowIs.frozen h.s i
theorem fr_one (w : World) (b o : Nat) (v : Value) : Fr w (w.setCell ⟨b, o, none⟩ v) (fun k => k = b) := fr_set w _ b o v rfl
theorem Mr.setBl (h : Mr w b g cap r) (i : Nat) (c : Bool) : Mr (w.setCell ⟨g, i, none⟩ (.bool c)) b g cap { n := r.n, bl := fun j => if j = i then c else r.bl j, tk := r.tk, h := r.h, rd := r.rd } :=
  ⟨row_fr h.s (fr_one w g i _) h.ne, h.t.set i c, h.ne⟩
theorem Mr.setTk (h : Mr w b g cap r) (c : Bool) : Mr (w.setCell ⟨b, 1, none⟩ (.bool c)) b g cap { n := r.n, bl := r.bl, tk := c, h := r.h, rd := r.rd } := by
  refine ⟨(h.s.set 1 _).congr (fun j hj => ?_), h.t.of ((fr_one w b 1 _).block g h.t.lt (Ne.symm h.ne)), h.ne⟩
  match j, hj with | 0, _ => rfl | 1, _ => rfl | 2, _ => rfl | 3, _ => rfl
theorem Mr.setH (h : Mr w b g cap r) (k : Nat) : Mr (w.setCell ⟨b, 2, none⟩ (.int .i64 k)) b g cap { n := r.n, bl := r.bl, tk := r.tk, h := k, rd := r.rd } := by
  refine ⟨(h.s.set 2 _).congr (fun j hj => ?_), h.t.of ((fr_one w b 2 _).block g h.t.lt (Ne.symm h.ne)), h.ne⟩
  match j, hj with | 0, _ => rfl | 1, _ => rfl | 2, _ => rfl | 3, _ => rfl
theorem Mr.setRd (h : Mr w b g cap r) (c : Bool) : Mr (w.setCell ⟨b, 3, none⟩ (.bool c)) b g cap { n := r.n, bl := r.bl, tk := r.tk, h := r.h, rd := c } := by
  refine ⟨(h.s.set 3 _).congr (fun j hj => ?_), h.t.of ((fr_one w b 3 _).block g h.t.lt (Ne.symm h.ne)), h.ne⟩
  match j, hj with | 0, _ => rfl | 1, _ => rfl | 2, _ => rfl | 3, _ => rfl
end
theorem zero31 (w : World) : (zeroValue 31).run Try.prog w = .ok (.agg #[.slice none 0 0, .bool false, .int .i64 0, .bool false]) w := by kernel_rfl
theorem info4 : ∃ i0 : TypeInfo, Try.prog.info? 4 = some i0 ∧ i0.zero = some (.bool false) ∧ i0.size = 1 ∧ i0.bytes = 1 := by
  have h : (Try.prog.info? 4).map (fun i => (i.zero, i.size, i.bytes)) = some (some (.bool false), 1, 1) := by kernel_rfl
  obtain ⟨i0, h1, h2⟩ := Option.map_eq_some_iff.1 h
  simp only [Prod.mk.injEq] at h2
  exact ⟨i0, h1, h2.1, h2.2.1, h2.2.2⟩
theorem bk_own {w : World} {B n : Nat} {v : Value} (h : w.ownsRow B 4 1 v n (List.replicate n (.bool true))) (hn : 1 ≤ n) : ∃ g cap, v = .slice (some ⟨g, 0, none⟩) n cap ∧ B ≤ g ∧ Bk w g n cap (fun _ => true) := by
  rcases h with ⟨h1, ⟨h2, h3⟩ | ⟨g, cap, cur, e, hb, hg, hnc, hcm, hcs, hr⟩⟩
  · omega
  · refine ⟨g, cap, e, hb, cur, hg, hnc, by omega, fun i hi => ?_⟩
    have := congrArg (fun q : List Value => q[i]?) hr
    simp only [List.getElem?_take, Array.getElem?_toList, List.getElem?_replicate] at this
    rw [if_pos (by omega), if_pos hi] at this
    exact this
/-- between two rounds of New -/
structure Nw (w wr : World) (b n : Nat) (v : Value) : Prop where
  s : wr.rowIs b 31 4 (mgf v true 0 false)
  o : wr.ownsRow (b + 1) 4 1 v n (List.replicate n (.bool true))
  gb : w.grownBy wr none
  lb : w.heap.size ≤ b
theorem nw_app {w wr : World} {b n : Nat} {v : Value} (h : Nw w wr b n v) (hn : n ≤ 64) (ty : TypeId) : ∃ v' w', (Builtin.append_ #[29, 29] ty #[v, .slice (some ⟨wr.heap.size, 0, none⟩) 1 1]).run Try.prog (wr.alloc (.cells #[.bool true] 4)) = .ok v' w' ∧ Nw w (w'.setCell ⟨b, 0, none⟩ v') b (n + 1) v' ∧ w'.rowIs b 31 4 (mgf v true 0 false) ∧ (∃ a k c, v' = .slice a k c) := by
  obtain ⟨i0, hi, hz0, hz1, hz2⟩ := info4
  have hr1 := row_new wr #[.bool true] 4 1 (fun _ => .bool true) rfl (fun i hi => by match i, hi with | 0, _ => rfl)
  have hb := h.s.lt
  have hnews : ∀ j u, ([Value.bool true] : List Value)[j]? = some u → (wr.alloc (.cells #[.bool true] 4)).cell? ((⟨wr.heap.size, 0, none⟩ : Addr).add j) = some u := fun j u hj => by
    cases j with
    | zero =>
      have e : u = .bool true := by simpa using hj.symm
      subst e
      rw [Go.WideShapes.add_plain]
      exact row_val hr1 (by omega) rfl
    | succ j => simp at hj
  obtain ⟨v', w', h1, h2, h3, h4⟩ := run_append_own (P := Try.prog) (wr.alloc (.cells #[.bool true] 4)) (b + 1) 29 ty 4 i0 (.bool false) 1 1 Try.underlying29 hi hz0 hz1 hz2 rfl (by decide) v n _ (h.o.alloc _) ⟨wr.heap.size, 0, none⟩ 1 1 [.bool true] rfl hnews (by simp [Value.oneCell']) (by unfold maxLen; omega) (by omega) (by rw [World.size_alloc]; omega)
  have hob : ∀ k, v.ownBlock = some k → b + 1 ≤ k := fun k hk => by
    rcases h.o with ⟨_, ⟨e, _⟩ | ⟨g, cap, cur, e, hb, _⟩⟩
    · rw [e] at hk; cases hk
    · rw [e] at hk; cases hk; exact hb
  have hrow : w'.rowIs b 31 4 (mgf v true 0 false) := row_kept (h.s.alloc _) h3 (fun e => by have := hob b e.symm; omega)
  have hre : List.replicate n (Value.bool true) ++ [.bool true] = List.replicate (n + 1) (.bool true) := by rw [List.replicate_succ']
  rw [hre] at h2
  refine ⟨v', w', h1, ⟨(hrow.set 0 v').congr (fun j hj => by match j, hj with | 0, _ => rfl | 1, _ => rfl | 2, _ => rfl | 3, _ => rfl), ?_, ?_, h.lb⟩, hrow, ?_⟩
  · rcases h2 with ⟨e1, e2 | ⟨g, cap, cur, e, hb2, hg, r⟩⟩
    · exact ⟨e1, .inl e2⟩
    · exact ⟨e1, .inr ⟨g, cap, cur, e, hb2, by rw [Below.heap_setCell _ _ _ _ (show g ≠ b by omega)]; exact hg, r⟩⟩
  · have hlb := h.lb
    have hs := h.gb.size
    refine ⟨h3.os.trans h.gb.os, h3.tape.trans h.gb.tape, h3.output.trans h.gb.output, by have := h3.size; rw [World.size_alloc] at this; rw [World.size_setCell]; omega, fun k hk _ => ?_⟩
    rw [Below.heap_setCell _ _ _ _ (show k ≠ b by omega), h3.block k (by rw [World.size_alloc]; omega) (fun e => by have := hob k e.symm; omega), Below.heap_alloc _ _ k (by omega)]
    exact h.gb.block k hk (by simp)
  · rcases h2 with ⟨_, ⟨e, _⟩ | ⟨g, cap, cur, e, _⟩⟩
    · exact ⟨_, _, _, e⟩
    · exact ⟨_, _, _, e⟩
theorem wpList_append_run {P : Program} {w : World} {ops : Array Oper} {rest : List Oper} {o : Oper} {a : Act} {Q : Exit → Act → World → Prop}
    (hg : o.guard = none) (s x : Operand) (t : TypeId) (hop : o.op = Op.call { callee := Callee.builtin Builtin.append, args := #[s, x], argTypes := #[t, t] })
    (vs vx : Value) (hs : a.eval s = vs) (hx : a.eval x = vx) (v' : Value) (w' : World) (hrun : (Builtin.append_ #[t, t] o.type #[vs, vx]).run P w = .ok v' w')
    (hK : wpList P ops Q rest (a.put o.dst v') w') : wpList P ops Q (o :: rest) a w := by
  refine wpList_plain hg fun K hK' => ?_
  unfold Oper.wp
  simp [execOp, hop, resolve, invoke, builtin, hs, hx, hrun, Result.andThen]
  exact hK' _ _ hK
def NewPost (w w' : World) (N : Nat) (e : Ending) : Prop := ∃ b g cap, e = .returned (.pointer (some ⟨b, 0, none⟩)) ∧ Mr w' b g cap (R0 N) ∧ w.grownBy w' none ∧ w.heap.size ≤ b ∧ w.heap.size ≤ g
set_option maxRecDepth 100000 in
set_option maxHeartbeats 4000000 in
theorem mnew_any (n : Int) (w : World) : Calls Try.prog 10 #[.int .i64 n] w fun e w' => NewPost w w' (size n) e := by
  have hz := zero31
  obtain ⟨h1, h2⟩ := size_1 n
  have h3 : (n < 1 ∧ size n = 1) ∨ (1 ≤ n ∧ 64 < n ∧ size n = 64) ∨ (1 ≤ n ∧ n ≤ 64 ∧ (size n : Int) = n) := by
    unfold size
    split
    · exact .inl ⟨by assumption, rfl⟩
    · split
      · exact .inr (.inl ⟨by omega, by omega, rfl⟩)
      · exact .inr (.inr ⟨by omega, by omega, by omega⟩)
  generalize size n = N at *
  have hs := row_new w #[.slice none 0 0, .bool true, .int .i64 0, .bool false] 31 4 (mgf (.slice none 0 0) true 0 false) rfl (fun i hi => by match i, hi with | 0, _ => rfl | 1, _ => rfl | 2, _ => rfl | 3, _ => rfl)
  have B0 : Nw w (w.alloc (.cells #[.slice none 0 0, .bool true, .int .i64 0, .bool false] 31)) w.heap.size 0 (.slice none 0 0) := ⟨hs, World.ownsRow_nil _ _ _ _, gb_alloc _ _ _, Nat.le_refl _⟩
  clear hs
  have HN := Lib.hid (And.intro h1 h2)
  have H3 := Lib.hid h3
  clear h1 h2 h3
  go_enter Try.func10, Try.ntmps10
  go_wp2_with fail
  generalize w.alloc (.cells #[.slice none 0 0, .bool true, .int .i64 0, .bool false] 31) = W0 at *
  generalize hB : w.heap.size = B at *
  go_loopw [4] (fun kv wr => ∃ (m : Nat) (v : Value), m ≤ N ∧ kv = .int .i64 m ∧ Nw w wr B m v) (fun kv _ => N - (intOf kv).toNat)
  case atStart => exact ⟨0, _, Nat.zero_le _, rfl, B0⟩
  case round =>
    clear B0
    obtain ⟨m, v, hm, rfl, M⟩ := hrel
    obtain ⟨a0, k0, c0, rfl⟩ : ∃ a k c, v = .slice a k c := by
      rcases M.o with ⟨_, ⟨e, _⟩ | ⟨g, cap, cur, e, _⟩⟩
      · exact ⟨_, _, _, e⟩
      · exact ⟨_, _, _, e⟩
    have cv := row_val M.s (i := 0) (v := .slice a0 k0 c0) (by omega) rfl
    by_cases hlt : m < N
    · obtain ⟨v8, w8, h8, M8, r8, a8, k8, c8, rfl⟩ := nw_app M (by have := HN.out; omega) 29
      have cv8 := row_val r8 (i := 0) (v := .slice a0 k0 c0) (by omega) rfl
      have zv8 := World.rowIs.frozen r8 0
      have hB8 := r8.lt
      have hBr := M.s.lt
      have H8 := Lib.hid h8
      have HM8 := Lib.hid M8
      have HLT := Lib.hid hlt
      clear h8 M8 r8 M hm
      rcases H3.out with ⟨q1, q2⟩ | ⟨q1, q2, q3⟩ | ⟨q1, q2, q3⟩
      · have q4 : (m : Int) < 1 := by omega
        clear q2 hlt
        go_wp2_with (at_builtin; refine wpList_append_run rfl _ _ 29 rfl _ _ rfl rfl _ w8 H8.out ?_)
        have hl := HLT.out
        have hN3 := HN.out
        have hwi : wrap64 ((m : Int) + 1) = (m : Int) + 1 := by unfold wrap64; omega
        go_roundw
        case rel => exact ⟨m + 1, _, hl, by first | rfl | (rw [hwi]; rfl), HM8.out⟩
        case measure => first | exact meas N m hl | (rw [hwi]; exact meas N m hl)
      · have q4 : (m : Int) < 64 := by omega
        clear q3 hlt
        go_wp2_with (at_builtin; refine wpList_append_run rfl _ _ 29 rfl _ _ rfl rfl _ w8 H8.out ?_)
        have hl := HLT.out
        have hN3 := HN.out
        have hwi : wrap64 ((m : Int) + 1) = (m : Int) + 1 := by unfold wrap64; omega
        go_roundw
        case rel => exact ⟨m + 1, _, hl, by first | rfl | (rw [hwi]; rfl), HM8.out⟩
        case measure => first | exact meas N m hl | (rw [hwi]; exact meas N m hl)
      · have q4 : (m : Int) < n := by omega
        clear q3 hlt
        go_wp2_with (at_builtin; refine wpList_append_run rfl _ _ 29 rfl _ _ rfl rfl _ w8 H8.out ?_)
        have hl := HLT.out
        have hN3 := HN.out
        have hwi : wrap64 ((m : Int) + 1) = (m : Int) + 1 := by unfold wrap64; omega
        go_roundw
        case rel => exact ⟨m + 1, _, hl, by first | rfl | (rw [hwi]; rfl), HM8.out⟩
        case measure => first | exact meas N m hl | (rw [hwi]; exact meas N m hl)
    · have hmN : m = N := by omega
      subst hmN
      have HM := Lib.hid M
      clear M hlt hm
      rcases H3.out with ⟨q1, q2⟩ | ⟨q1, q2, q3⟩ | ⟨q1, q2, q3⟩
      · have q4 : ¬ (m : Int) < 1 := by omega
        clear q2
        go_wp2
        go_ret
        obtain ⟨g, cap, e, hg, hk⟩ := bk_own HM.out.o HN.out.1
        rw [e] at HM
        refine ⟨B, g, cap, rfl, ⟨HM.out.s, hk, by omega⟩, HM.out.gb, by omega, by omega⟩
      · have q4 : ¬ (m : Int) < 64 := by omega
        clear q3
        go_wp2
        go_ret
        obtain ⟨g, cap, e, hg, hk⟩ := bk_own HM.out.o HN.out.1
        rw [e] at HM
        refine ⟨B, g, cap, rfl, ⟨HM.out.s, hk, by omega⟩, HM.out.gb, by omega, by omega⟩
      · have q4 : ¬ (m : Int) < n := by omega
        clear q3
        go_wp2
        go_ret
        obtain ⟨g, cap, e, hg, hk⟩ := bk_own HM.out.o HN.out.1
        rw [e] at HM
        refine ⟨B, g, cap, rfl, ⟨HM.out.s, hk, by omega⟩, HM.out.gb, by omega, by omega⟩
end Go.Proofs.Ytmagenfndbaliaa
