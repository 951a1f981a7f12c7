/- The iterator Items, and what a range over it collects. -/
import Derived.Test.YtcbbjcafgnddcaaM7
import Derived.RangeFuncNested
import Derived.RangeFuncBound
import Derived.RangeFuncCalls
import Derived.RangeFuncLeaves
import Derived.RangeFuncWrites
import Derived.RangeFuncBox
import Derived.Shelf.Abstract
import Derived.Shelf.RegionOpen
import Derived.OwnWalkIn
import Derived.TacticsInMore
import Derived.LoopNIn
import Derived.LoopIn
namespace Go.Proofs.Ytcbbjcafgnddcaa
open Go.RowKit Go.Shelf
set_option linter.unusedVariables false
set_option linter.unusedSimpArgs false
attribute [local go_sem] Oper.semAt_some
def Own (w : World) (B : Nat) (v : Value) (l : List Int) : Prop := w.ownsRow B 2 1 v l.length (l.map (Value.int .i64))
/-- the linked ones behind a -/
def lnk (q : Q) : Nat → List Nat → List Nat
  | _, [] => []
  | a, c :: l => if q.nx a = c then c :: lnk q c l else []
theorem lnk_at {q : Q} : ∀ (l : List Nat) (a : Nat), Lk q a l → (∀ i, i ∈ l → i < q.n) → a < q.n → ∀ m, m ≤ (lnk q a l).length → (a :: lnk q a l).getD m 0 < q.n ∧ q.nx ((a :: lnk q a l).getD m 0) = (lnk q a l).getD m 0 ∧ (m < (lnk q a l).length → (lnk q a l).getD m 0 ≠ 0)
  | [], a, h, _, ha, m, hm => by
    obtain rfl : m = 0 := by simpa [lnk] using hm
    exact ⟨ha, h.2, fun h => by simp [lnk] at h⟩
  | c :: l, a, h, hl, ha, m, hm => by
    unfold lnk at hm ⊢
    by_cases e : q.nx a = c
    · rw [if_pos e] at hm ⊢
      cases m with
      | zero => exact ⟨ha, e, fun _ => h.2.1⟩
      | succ m =>
        have := lnk_at l c h.2.2 (fun i hi => hl i (List.mem_cons_of_mem _ hi)) (hl c (by simp)) m (by simpa using hm)
        exact ⟨this.1, this.2.1, fun hm => this.2.2 (by simpa using hm)⟩
    · rw [if_neg e] at hm ⊢
      obtain rfl : m = 0 := by simpa using hm
      refine ⟨ha, ?_, fun h => by simp at h⟩
      rcases h.1 with h1 | h1
      · exact absurd h1 e
      · exact h1.1
theorem lnk_len {q : Q} : ∀ (l : List Nat) (a : Nat), (lnk q a l).length ≤ l.length
  | [], _ => by simp [lnk]
  | c :: l, a => by
    unfold lnk
    split
    · have := lnk_len (q := q) l c; simpa using this
    · simp
theorem Rw.belowN {w w1 : World} {b : Nat} {S : Nat → Prop} {q : Q} {nd : Nat → Nat} {f : Nat → Value} (h : Rw w b S q nd f) {n : Nat} (g : Below n w w1) (hb : b < n) (hn : ∀ i, i < q.n → nd i < n) : Rw w1 b S q nd f := { h with s := row_below h.s g hb, nodes := fun i hi => row_below (h.nodes i hi) g (hn i hi) }
theorem lnk_sub {q : Q} : ∀ (l : List Nat) (a : Nat), lnk q a l <+: l
  | [], _ => by simp [lnk]
  | c :: l, a => by
    unfold lnk
    split
    · exact List.cons_prefix_cons.2 ⟨rfl, lnk_sub l c⟩
    · exact List.nil_prefix
theorem idx_nodup : ∀ (l : List Nat) (m : Nat) (h : m < l.length), l.Nodup → l.idxOf l[m] = m
  | [], m, h, _ => by simp at h
  | x :: xs, 0, _, _ => by simp
  | x :: xs, m + 1, h, hd => by
    have hm : m < xs.length := by simpa using h
    have hne : x ≠ xs[m] := fun e => (List.nodup_cons.1 hd).1 (e ▸ List.getElem_mem hm)
    have := idx_nodup xs m hm (List.nodup_cons.1 hd).2
    have hb : (x == xs[m]) = false := by simp [hne]
    simp [List.idxOf_cons, hb, this]
def pos (nd : Nat → Nat) (L : List Nat) (v : Value) : Nat := match v with | .pointer (some a) => (L.map nd).idxOf a.block | _ => L.length
theorem pos_at {nd : Nat → Nat} {L : List Nat} (hd : (L.map nd).Nodup) (m : Nat) (hm : m ≤ L.length) (h0 : m < L.length → L.getD m 0 ≠ 0) : pos nd L (pz nd (L.getD m 0)) = m := by
  by_cases h : m < L.length
  · unfold pz pn pos
    rw [if_neg (h0 h)]
    show (L.map nd).idxOf (nd (L.getD m 0)) = m
    have e : nd (L.getD m 0) = (L.map nd)[m]'(by simpa using h) := by simp [List.getD, h]
    rw [e]
    exact idx_nodup _ m (by simpa using h) hd
  · obtain rfl : m = L.length := by omega
    have e : L.getD L.length 0 = 0 := by simp [List.getD]
    rw [e]; rfl
theorem take_map (q : Q) (L : List Nat) (m : Nat) (h : m < L.length) : (L.take (m + 1)).map q.v = (L.take m).map q.v ++ [q.v (L.getD m 0)] := by
  rw [List.take_add_one, List.map_append, List.getElem?_eq_getElem h]
  simp [List.getD, h]
set_option maxRecDepth 100000 in
set_option maxHeartbeats 2000000 in
theorem iter_in (F : Fence) (n : Nat) (h24 : F.fn 24) (hro : F.round = none) (hn : 1 ≤ n) (lp Bx b n₀ : Nat) (S : Nat → Prop) (q : Q) (nd : Nat → Nat) (f : Nat → Value) (r : List Nat) (V : Val q) (hk : Lk q q.tail r) (hr : ∀ i, i ∈ r → i < q.n) (hrl : r.length ≤ 65536) (hrd : r.Nodup) (J Jx : List Int → World → Prop) (W : World)
    (hb0 : b < n₀) (hn0 : ∀ i, i < q.n → nd i < n₀)
    (hJ : AbidesFrom W.heap.size J)
    (hY : ∀ pre x W1, J pre W1 → pre.length < 65536 → YieldAt F (n - 1) Try.prog lp #[.int .i64 x] W1 fun e W' =>
      (e = .returned (.bool true) ∧ J (pre ++ [x]) W' ∧ Below n₀ W1 W') ∨ (e = .returned (.bool false) ∧ Jx (pre ++ [x]) W'))
    (hB : W.cell? ⟨Bx, 0, none⟩ = some (.pointer (some ⟨b, 0, none⟩))) (ht : Rw W b S q nd f) (h0 : J [] W) :
    CallsIn F n Try.prog 24 #[.func (.yield lp) #[] #[], .pointer (some ⟨Bx, 0, none⟩)] W fun e W' => (∃ v, e = .returned v) ∧
      ((∃ ys, ys = (lnk q q.tail r).map q.v ∧ J ys W') ∨ (∃ pre, pre <+: (lnk q q.tail r).map q.v ∧ Jx pre W')) := by
  have hL := fun m hm => lnk_at r q.tail hk hr V.tail m hm
  have hll := lnk_len (q := q) r q.tail
  have hin := ht.inj
  have hLd : ((lnk q q.tail r).map nd).Nodup := by
    have h1 : (lnk q q.tail r).Nodup := hrd.sublist (lnk_sub r q.tail).sublist
    exact List.pairwise_map.2 (List.Pairwise.imp_of_mem (fun ha hb hne he => hne (hin _ _ (hr _ ((lnk_sub r q.tail).subset ha)) (hr _ ((lnk_sub r q.tail).subset hb)) he)) h1)
  clear hin
  generalize lnk q q.tail r = L at *
  have h00 := hL 0 (by omega)
  have c1 := ht.cell 1 (by omega)
  rw [ht.f1] at c1
  have x1 := ht.nxt q.tail V.tail
  have e1 : q.nx q.tail = L.getD 0 0 := h00.2.1
  rw [e1] at x1
  unfold pn at c1
  obtain ⟨p0, hp0⟩ := pz_ptr nd (L.getD 0 0)
  rw [hp0] at x1
  have HP0 := Lib.hid hp0
  have HT := Lib.hid ht
  have HLm := Lib.hid hL
  clear hL h00 e1 hp0 hk hr ht
  refine callsIn_of_wp Try.func24 rfl h24 ?_ hro
  simp only [Try.ntmps24, List.size_toArray, List.length_cons, List.length_nil, Nat.reduceAdd, Nat.reduceSub, Array.replicate_succ, Array.replicate_zero, List.push_toArray, List.append_toArray, List.nil_append, List.cons_append]
  gi_wp2_with fail
  gi_loopw [3] (fun k wr => ∃ m : Nat, m ≤ L.length ∧ k = pz nd (L.getD m 0) ∧ J ((L.take m).map q.v) wr ∧ Rw wr b S q nd f) (fun k wr => L.length - pos nd L k)
  case atStart => exact ⟨0, by omega, HP0.out.symm, h0, HT.out⟩
  case round =>
    clear c1 x1
    obtain ⟨m, hm, rfl, hj, ht⟩ := hrel
    have hm0 := HLm.out m hm
    by_cases hlt : m < L.length
    · have hi0 := hm0.2.2 hlt
      have hm1 := HLm.out (m + 1) hlt
      have eg : (q.tail :: L).getD (m + 1) 0 = L.getD m 0 := by simp [List.getD]
      rw [eg] at hm1
      have x0 := ht.val (L.getD m 0) hm1.1
      have x1 := ht.nxt (L.getD m 0) hm1.1
      rw [hm1.2.1] at x1
      have HE := Lib.hid (take_map q L m hlt)
      have hpos := pos_at hLd m hm (fun _ => hi0)
      have hpos2 := pos_at hLd (m + 1) hlt hm1.2.2
      have ez : pz nd (L.getD m 0) = .pointer (some ⟨nd (L.getD m 0), 0, none⟩) := by unfold pz pn; rw [if_neg hi0]
      rw [ez] at hpos ⊢
      obtain ⟨p1, hp1⟩ := pz_ptr nd (L.getD (m + 1) 0)
      rw [hp1] at x1
      have HP1 := Lib.hid hp1
      have HM := Lib.hid (show L.length - pos nd L (pz nd (L.getD (m + 1) 0)) < L.length - pos nd L (.pointer (some ⟨nd (L.getD m 0), 0, none⟩)) by rw [hpos, hpos2]; omega)
      obtain ⟨fn, tmps, assign, body, hy, hR⟩ := hY ((L.take m).map q.v) (q.v (L.getD m 0)) _ hj (by simp; omega)
      have HTT := Lib.hid ht
      have HX1 := Lib.hid hm1.1
      clear hm0 hm1 eg ez hpos hpos2 hp1 ht
      generalize L.getD m 0 = i at *
      gi_wp2_with fail
      refine hR.mono ?_
      rintro e W3 (⟨rfl, hJ3, hk3⟩ | ⟨rfl, hJx3⟩)
      · have ht3 := HTT.out.belowN hk3 hb0 hn0
        have x1 := (hk3.cell (p := ⟨nd i, 1, none⟩) (hn0 i HX1.out)).trans x1
        have HT3 := Lib.hid ht3
        clear ht3
        gi_wp2
        go_roundw
        case rel => exact ⟨m + 1, by omega, HP1.out.symm, by rw [HE.out]; exact hJ3, HT3.out⟩
        case measure => rw [HP1.out] at HM; exact HM.out
      · gi_wp2
        refine bodyPost_ret (results_none rfl _ _ _) rfl ?_
        refine ⟨⟨_, rfl⟩, .inr ⟨_, ?_, hJx3⟩⟩
        rw [← HE.out]
        exact (List.take_prefix _ _).map _
    · obtain rfl : m = L.length := by omega
      have e0 : L.getD L.length 0 = 0 := by simp [List.getD]
      have ez : pz nd (L.getD L.length 0) = .pointer none := by rw [e0]; rfl
      rw [ez]
      have HJ := Lib.hid hj
      clear hj hm0 e0 ez
      gi_wp2
      go_end0
      exact ⟨⟨_, rfl⟩, .inl ⟨_, rfl, by have := HJ.out; rw [List.take_length] at this; exact this⟩⟩
set_option maxHeartbeats 1000000 in
theorem iter_nil (F : Fence) (n : Nat) (h24 : F.fn 24) (hro : F.round = none) (l Bx : Nat) (J Jx : List Int → World → Prop) (W : World) (hB : W.cell? ⟨Bx, 0, none⟩ = some (.pointer none)) (h0 : J [] W) :
    CallsIn F n Try.prog 24 #[.func (.yield l) #[] #[], .pointer (some ⟨Bx, 0, none⟩)] W fun e W' => (∃ v, e = .returned v) ∧
      ((∃ ys, ys = [] ∧ J ys W') ∨ (∃ pre, pre <+: ([] : List Int) ∧ Jx pre W')) := by
  refine callsIn_of_wp Try.func24 rfl h24 ?_ hro
  simp only [Try.ntmps24, List.size_toArray, List.length_cons, List.length_nil, Nat.reduceAdd, Nat.reduceSub, Array.replicate_succ, Array.replicate_zero, List.push_toArray, List.append_toArray, List.nil_append, List.cons_append]
  gi_wp2
  refine bodyPost_ret (results_none rfl _ _ _) rfl ?_
  exact ⟨⟨_, rfl⟩, .inl ⟨_, rfl, h0⟩⟩

set_option maxHeartbeats 1000000 in
theorem items_in (F : Fence) (n : Nat) (h5 : F.fn 13) (hro : F.round = none) (p0 : Option Addr) (w : World) :
    CallsIn F n Try.prog 13 #[.pointer p0] w fun e w' => e = .returned (.func (.func 24) #[] #[.pointer (some ⟨w.heap.size, 0, none⟩)]) ∧ w' = w.alloc (.cells #[.pointer p0] 24) := by
  refine callsIn_of_wp Try.func13 rfl h5 ?_ hro
  simp only [Try.ntmps13, List.size_toArray, List.length_cons, List.length_nil, Nat.reduceAdd, Nat.reduceSub, Array.replicate_succ, Array.replicate_zero, List.push_toArray, List.append_toArray, List.nil_append, List.cons_append]
  gi_wp2
  go_ret
  exact ⟨rfl, rfl⟩

/-- what a queue's Items gives; no queue: nothing -/
def Gives (w : World) (p0 : Option Addr) (xs : List Int) : Prop :=
  (p0 = none ∧ xs = []) ∨ ∃ b S q nd f r, p0 = some ⟨b, 0, none⟩ ∧ Rw w b S q nd f ∧ Val q ∧ Lk q q.tail r ∧ (∀ i, i ∈ r → i < q.n) ∧ r.length ≤ 65536 ∧ r.Nodup ∧ xs = (lnk q q.tail r).map q.v
theorem Gives.below {w w' : World} {p0 : Option Addr} {xs : List Int} (h : Gives w p0 xs) (g : Below w.heap.size w w') : Gives w' p0 xs := by
  rcases h with h | ⟨b, S, q, nd, f, r, rfl, h1, h2⟩
  · exact .inl h
  · exact .inr ⟨b, S, q, nd, f, r, rfl, h1.below g, h2⟩
theorem Gives.len {w : World} {p0 : Option Addr} {xs : List Int} (h : Gives w p0 xs) : xs.length ≤ 65536 := by
  rcases h with ⟨_, rfl⟩ | ⟨b, S, q, nd, f, r, rfl, h1, h2, h3, h4, h5, h6, rfl⟩
  · simp
  · have := lnk_len (q := q) r q.tail; simp; omega
theorem nd_len (n : Nat) : ∀ (r : List Nat), (∀ i, i ∈ r → i < n) → r.Nodup → r.length ≤ n := by
  induction n with
  | zero =>
    intro r h _
    cases r with
    | nil => simp
    | cons a l => exact absurd (h a (by simp)) (by omega)
  | succ n ih =>
    intro r h hd
    have h1 : (r.filter (· ≠ n)).length ≤ n := ih _ (fun i hi => by
      have hm := List.mem_filter.1 hi
      have := h i hm.1
      have h2 : i ≠ n := by simpa using hm.2
      omega) (hd.filter _)
    have h2 : (r.filter (· = n)).length ≤ 1 := by
      have hd2 := hd.filter (fun x => decide (x = n))
      have he : ∀ x, x ∈ r.filter (fun x => decide (x = n)) → x = n := fun x hx => by simpa using (List.mem_filter.1 hx).2
      generalize r.filter (fun x => decide (x = n)) = l at *
      match l, hd2, he with
      | [], _, _ => simp
      | [a], _, _ => simp
      | a :: b :: l, hd2, he =>
        have e1 := he a (by simp)
        have e2 := he b (by simp)
        exact absurd (by simp [e1, e2] : a ∈ b :: l) (List.nodup_cons.1 hd2).1
    have h3 : r.length = (r.filter (· ≠ n)).length + (r.filter (· = n)).length := by
      clear ih h hd h1 h2
      induction r with
      | nil => rfl
      | cons a l ih =>
        by_cases e : a = n <;> simp [List.filter_cons, e] at ih ⊢ <;> omega
    omega
theorem Inv.gives {w : World} {b : Nat} {S : Nat → Prop} {q : Q} {nd : Nat → Nat} {f : Nat → Value} {r : List Nat} (h : Rw w b S q nd f) (V : Val q) (I : Inv q r) : Gives w (some ⟨b, 0, none⟩) ((lnk q q.tail r).map q.v) :=
  .inr ⟨b, S, q, nd, f, r, rfl, h, V, I.lk, I.lt, by
    have h1 := nd_len q.n (q.tail :: r) (fun i hi => by
      rcases List.mem_cons.1 hi with rfl | h
      · exact V.tail
      · exact I.lt i h) I.nd
    have := V.n2
    simp at h1
    omega, (List.nodup_cons.1 I.nd).2, rfl⟩
theorem all_stops (F : Fence) (n : Nat) (h6 : F.fn 24) (hro : F.round = none) (hn : 1 ≤ n) (Bx : Nat) (p0 : Option Addr) (xs : List Int) (w0 w : World) (hBx : Bx < w.heap.size)
    (hc : w.cell? ⟨Bx, 0, none⟩ = some (.pointer p0)) (hL : Gives w0 p0 xs) (hb : Below w0.heap.size w0 w) :
    SeqStopsK F n Try.prog 24 #[.pointer (some ⟨Bx, 0, none⟩)] (fun x : Int => #[Value.int .i64 x]) (Below w0.heap.size) (fun ys => ys = xs) (fun pre => pre <+: xs) 65536 w := fun l J Jx W hW hJ hJx hY h0 => by
  have hc' : W.cell? ⟨Bx, 0, none⟩ = some (.pointer p0) := (hW.cell (p := ⟨Bx, 0, none⟩) hBx).trans hc
  rcases hL with ⟨rfl, rfl⟩ | ⟨b, S, q, nd, f, r, rfl, h1, V, h2, h3, h4, h5, rfl⟩
  · exact iter_nil F n h6 hro l Bx J Jx W hc' h0
  · exact iter_in F n h6 hro hn l Bx b w0.heap.size S q nd f r V h2 h3 h4 h5 J Jx W h1.lt (fun i hi => h1.ltN i hi) hJ hY hc' (h1.below (hb.trans (hW.mono hb.size))) h0
theorem info2 : ∃ i0 : TypeInfo, Try.prog.info? 2 = some i0 ∧ i0.zero = some (.int .i64 0) ∧ i0.size = 1 ∧ i0.bytes = 8 := by
  have h : (Try.prog.info? 2).map (fun i => (i.zero, i.size, i.bytes)) = some (some (.int .i64 0), 1, 8) := by kernel_rfl
  obtain ⟨i0, h1, h2⟩ := Option.map_eq_some_iff.1 h
  simp only [Prod.mk.injEq] at h2
  exact ⟨i0, h1, h2.1, h2.2.1, h2.2.2⟩
set_option maxRecDepth 100000 in
set_option maxHeartbeats 2000000 in
theorem coll_in (F : Fence) (n : Nat) (h3 : F.fn 14) (h4 : F.fn 13) (h5 : F.fn 24) (hro : F.round = none) (hn : 3 ≤ n) (p0 : Option Addr) (xs : List Int) (w : World) (hL : Gives w p0 xs) :
    CallsIn F n Try.prog 14 #[.pointer p0] w fun e W' => ∃ v, e = .returned v ∧ Own W' w.heap.size v xs ∧ Below w.heap.size w W' := by
  have h1 : 1 ≤ n := by omega
  have hxl := hL.len
  obtain ⟨i0, hi, hz0, hz1, hz2⟩ := info2
  refine callsIn_of_wp_marks Try.func14 rfl h3 ?_ hro
  simp only [Try.ntmps14, List.size_toArray, List.length_cons, List.length_nil, Nat.reduceAdd, Nat.reduceSub, Array.replicate_succ, Array.replicate_zero, List.push_toArray, List.append_toArray, List.nil_append, List.cons_append]
  gi_wp2_with (gi_at_call 13; refine (items_in F (n - 1) h4 hro _ _).mono ?_; rintro e w' ⟨rfl, rfl⟩)
  have bO := Boxed.new w 22 (.slice none 0 0)
  have bN := Boxed.new (w.alloc (.cells #[.slice none 0 0] 22)) 24 (.pointer p0)
  rw [World.size_alloc] at bN
  have hB0 : Below w.heap.size w ((w.alloc (.cells #[.slice none 0 0] 22)).alloc (.cells #[.pointer p0] 24)) := ((Below.refl _ w).alloc (Nat.le_refl _) _).alloc (by simp) _
  refine wpIn_rangeFunc_ownG hro h1 (gf := 24) (lb := #[.pointer (some ⟨w.heap.size + 1, 0, none⟩)]) rfl h5 (enters_of Try.func24 (by kernel_rfl) rfl)
    (all_stops F (n - 1) h5 hro (by omega) (w.heap.size + 1) p0 xs w _ (by simp) bN.cell hL hB0) belowK_t (belowK_b (by simp; omega)) (Below.refl _ _) (fun _ => rfl)
    (fun pre W => (∃ v, Boxed W w.heap.size 22 v ∧ W.ownsRow w.heap.size 2 1 v pre.length (pre.map (Value.int .i64)) ∧ True) ∧ Below w.heap.size w W)
    (fun _ _ _ => False)
    (OwnFrom.and (Own.from (holdsRow_own w.heap.size w.heap.size 22 2 1 (fun pre : List Int => pre.length) (fun pre => pre.map (Value.int .i64)) (fun _ _ => True)) _) (ownFrom_below (Nat.le_refl _) (by simp; omega)))
    (fun _ _ _ _ _ hs _ _ => hs)
    ⟨⟨_, bO.alloc _, World.ownsRow_nil _ _ _ _, trivial⟩, hB0⟩
    (fun x => { tmps := #[.pointer p0, undef, .slice none 0 0, .pointer (some ⟨w.heap.size, 0, none⟩), .int .i64 x, .pointer p0, .func (.func 24) #[] #[.pointer (some ⟨w.heap.size + 1, 0, none⟩)], .int .i64 x, undef, undef, undef, undef, undef], defers := [] }) ?assign ?body ?done ?stop
  case assign =>
    intro l x W K hK
    gi_wp2
    exact hK
  case body =>
    rintro l pre x W ⟨⟨v, hv, hrow, hnil⟩, hB⟩ hlt
    have hc := hv.cell
    gi_wp2_with (gi_at_builtin; refine wpListIn_append_own _ rfl _ _ 22 rfl w.heap.size 2 i0 (.int .i64 0) 1 8 Try.underlying22 hi hz0 hz1 hz2 rfl (by decide) _ _ _ rfl (hrow.alloc _) ⟨W.heap.size, 0, none⟩ 1 1 [.int .i64 x] rfl rfl (cell_one_new _ _ _) (by simp [Value.oneCell']) (by unfold maxLen; omega) (by omega) (by have := hB.size; simp; omega) ?_; intro v' w1 hown' hgrow _; obtain ⟨g', cap', rfl⟩ := ownsRow_succ hown'; obtain ⟨hv1, hv2, hr2, hk2, hb2⟩ := hv.appended (by decide) hrow hB.size (Nat.le_refl _) hown' hgrow; have hc1 := hv1.cell; have hf1 := hv1.frozen)
    exact ⟨hk2.from _, hb2, ⟨_, hv2, by simpa using hr2, trivial⟩, hB.trans hb2⟩
  case done =>
    rintro D ys W hD rfl ⟨⟨v, hv, hrow, hnil⟩, hB⟩ hK
    have hc := hv.cell
    gi_wp2
    refine ⟨by simp, .inl ⟨_, _, rfl, run_takeDeferred hK, ?_⟩⟩
    exact ⟨_, results_tmp rfl _ _ _, v, rfl, ownsRow_putObj hrow _ hK rfl, hB.trans (belowK_b (w := w) (Nat.le_refl _) W D _ _ (by simp at hD; omega) hK rfl rfl)⟩
  case stop =>
    rintro D c pre W _ _ h _
    exact h.elim

theorem coll_any (p0 : Option Addr) (xs : List Int) (w : World) (hL : Gives w p0 xs) :
    Calls Try.prog 14 #[.pointer p0] w fun e W' => ∃ v, e = .returned v ∧ Own W' w.heap.size v xs ∧ Below w.heap.size w W' :=
  (callsIn_wide (n := 3)).1 (coll_in Fence.wide 3 trivial trivial trivial rfl (by omega) p0 xs w hL)
end Go.Proofs.Ytcbbjcafgnddcaa
