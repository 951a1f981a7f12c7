/- The queue's Begin, put, take, Step. -/
import Derived.Test.YtcbbjcafgnddcaaM1
namespace Go.Proofs.Ytcbbjcafgnddcaa
open Go.RowKit
set_option linter.unusedVariables false
set_option linter.unusedSimpArgs false

/-- one node more -/
def addN (q : Q) (v : Int) (k : Nat) : Q := { n := q.n + 1, v := fun i => if i = q.n then v else q.v i, nx := fun i => if i = q.n then 0 else q.nx i, head := q.head, tail := q.tail, th := fun j => if j = k then { on := true, node := q.n } else q.th j }
def begin (q : Q) (k : Int) (v : Int) : Int × Q :=
  if k < 0 ∨ 8 ≤ k then (1, q)
  else if (q.th k.toNat).on = true then (14, q)
  else if k = 0 then (0, q.set 0 { on := true })
  else if q.n = 65537 then (3, q)
  else (0, addN q v k.toNat)
section
variable {w w1 : World} {b : Nat} {S S' : Nat → Prop} {q q' : Q} {nd : Nat → Nat} {f f' : Nat → Value}
def f4 (f : Nat → Value) (n : Nat) (v0 v1 v2 v3 : Value) (j : Nat) : Value :=
  if j = 3 + n * 4 + 3 then v3 else if j = 3 + n * 4 + 2 then v2 else if j = 3 + n * 4 + 1 then v1 else if j = 3 + n * 4 then v0 else f j
theorem Rw.set4 (h : Rw w b S q nd f) (n : Nat) (v0 v1 v2 v3 : Value) : Rw ((((w.setCell ⟨b, 3 + n * 4, none⟩ v0).setCell ⟨b, 3 + n * 4 + 1, none⟩ v1).setCell ⟨b, 3 + n * 4 + 2, none⟩ v2).setCell ⟨b, 3 + n * 4 + 3, none⟩ v3) b S q nd (f4 f n v0 v1 v2 v3) :=
  (((h.setT _ v0 (by omega)).setT _ v1 (by omega)).setT _ v2 (by omega)).setT _ v3 (by omega)
theorem tc4 {n : Nat} {t : T} {v2 v3 : Value} (h2 : n ≠ 0 → v2 = pn nd t.node) (h3 : t.made = 0) : tc (f4 f n (.bool true) (.int .i64 0) v2 v3) nd n { on := true, made := 0, node := t.node, prev := t.prev } := by
  unfold tc f4
  refine ⟨by rw [if_neg (by omega), if_neg (by omega), if_neg (by omega), if_pos rfl], fun _ => ⟨by rw [if_neg (by omega), if_neg (by omega), if_pos rfl]; rfl, fun hk => ⟨by rw [if_neg (by omega), if_pos rfl]; exact h2 hk, fun e => by cases e⟩, fun _ e => by cases e⟩⟩
theorem tc4o {n k : Nat} {t : T} {v0 v1 v2 v3 : Value} (h : tc f nd k t) (hk : k ≠ n) : tc (f4 f n v0 v1 v2 v3) nd k t :=
  tc_same h (fun i hi => by unfold f4; rw [if_neg (by omega), if_neg (by omega), if_neg (by omega), if_neg (by omega)])
theorem fr4 (w : World) (b : Nat) (S : Nat → Prop) (h : S b) (o0 o1 o2 o3 : Nat) (v0 v1 v2 v3 : Value) : Fr w ((((w.setCell ⟨b, o0, none⟩ v0).setCell ⟨b, o1, none⟩ v1).setCell ⟨b, o2, none⟩ v2).setCell ⟨b, o3, none⟩ v3) S :=
  (((fr_set w S b _ v0 h).trans' (fr_set _ S b _ v1 h)).trans' (fr_set _ S b _ v2 h)).trans' (fr_set _ S b _ v3 h)
def nd1 (nd : Nat → Nat) (n g : Nat) (i : Nat) : Nat := if i = n then g else nd i
theorem pn1 {n g i : Nat} (hi : i < n) : pn (nd1 nd n g) i = pn nd i := by unfold pn nd1; rw [if_neg (by omega)]
theorem pz1 {n g i : Nat} (hi : i < n) : pz (nd1 nd n g) i = pz nd i := by unfold pz; rw [pn1 hi]
theorem tc1 {n g k : Nat} {t : T} (h : tc f nd k t) (hn : t.on = true → t.node < n) (hp : t.on = true → t.prev < n) : tc f (nd1 nd n g) k t := by
  refine ⟨h.1, fun ho => ?_⟩
  obtain ⟨h1, h2, h3⟩ := h.2 ho
  refine ⟨h1, fun hk => ?_, fun hk hm => ?_⟩
  · obtain ⟨h4, h5⟩ := h2 hk
    exact ⟨by rw [pn1 (hn ho)]; exact h4, fun hm => by rw [pn1 (hp ho)]; exact h5 hm⟩
  · rw [pz1 (hn ho)]; exact h3 hk hm
theorem Rw.setQ (h : Rw w b S q nd f) (k : Nat) (t : T) : Rw w b S (q.set k t) nd f := { h with }
/-- the node's block and puts, then the thread's four cells -/
theorem begin_fin (h : IsQ w b S q nd f) (V : Val q) (n : Nat) (hn : n < 8) (h0 : n ≠ 0) (h2 : (q.th n).on = false) (v : Int) :
    IsQ ((((((w.setCell ⟨b, 2, none⟩ (.int .i64 q.n)).setCell ⟨b, 3 + n * 4, none⟩ (.bool true)).setCell ⟨b, 3 + n * 4 + 1, none⟩ (.int .i64 0)).setCell ⟨b, 3 + n * 4 + 2, none⟩ (.pointer (some ⟨w.heap.size, 0, none⟩))).setCell ⟨b, 3 + n * 4 + 3, none⟩ (.pointer none)).alloc (.cells #[.int .i64 v, .pointer none] 61)) b (fun k => S k ∨ k = w.heap.size) (addN q v n) (nd1 nd q.n w.heap.size) (f4 (fun j => if j = 2 then .int .i64 q.n else f j) n (.bool true) (.int .i64 0) (.pointer (some ⟨w.heap.size, 0, none⟩)) (.pointer none)) := by
  have hr := h.r
  have hw := hr.lt
  have hlt := fun i (hi : i < q.n) => hr.ltN i hi
  have hsz : (((((w.setCell ⟨b, 2, none⟩ (.int .i64 q.n)).setCell ⟨b, 3 + n * 4, none⟩ (.bool true)).setCell ⟨b, 3 + n * 4 + 1, none⟩ (.int .i64 0)).setCell ⟨b, 3 + n * 4 + 2, none⟩ (.pointer (some ⟨w.heap.size, 0, none⟩))).setCell ⟨b, 3 + n * 4 + 3, none⟩ (.pointer none)).heap.size = w.heap.size := by simp [World.size_setCell]
  refine ⟨⟨?_, ?_, ?_, ?_, fun i hi => ?_, .inl hr.sb, fun i hi => ?_, fun i hi => ?_, fun i j hi hj e => ?_⟩, fun k hk => ?_⟩
  · exact ((((((hr.s.set 2 _).set _ _).set _ _).set _ _).set _ _).alloc _)
  · show f4 _ n _ _ _ _ 0 = _
    unfold f4
    rw [if_neg (by omega), if_neg (by omega), if_neg (by omega), if_neg (by omega)]; dsimp only; rw [if_neg (by omega), hr.f0]; exact (pn1 V.head).symm
  · show f4 _ n _ _ _ _ 1 = _
    unfold f4
    rw [if_neg (by omega), if_neg (by omega), if_neg (by omega), if_neg (by omega)]; dsimp only; rw [if_neg (by omega), hr.f1]; exact (pn1 V.tail).symm
  · show f4 _ n _ _ _ _ 2 = Value.int .i64 (((q.n + 1 : Nat) : Int) - 1)
    unfold f4
    rw [if_neg (by omega), if_neg (by omega), if_neg (by omega), if_neg (by omega)]; dsimp only; rw [if_pos rfl]
    congr 1; omega
  · have hi' : i < q.n + 1 := hi
    by_cases e : i = q.n
    · subst e
      have hn := row_new (((((w.setCell ⟨b, 2, none⟩ (.int .i64 q.n)).setCell ⟨b, 3 + n * 4, none⟩ (.bool true)).setCell ⟨b, 3 + n * 4 + 1, none⟩ (.int .i64 0)).setCell ⟨b, 3 + n * 4 + 2, none⟩ (.pointer (some ⟨w.heap.size, 0, none⟩))).setCell ⟨b, 3 + n * 4 + 3, none⟩ (.pointer none)) #[.int .i64 v, .pointer none] 61 2 (fun j => if j = 0 then .int .i64 v else .pointer none) rfl (fun j hj => by match j, hj with | 0, _ => rfl | 1, _ => rfl)
      rw [hsz] at hn
      have e1 : nd1 nd q.n w.heap.size q.n = w.heap.size := by unfold nd1; rw [if_pos rfl]
      rw [e1]
      refine hn.congr (fun j hj => ?_)
      show _ = if j = 0 then Value.int .i64 (if q.n = q.n then v else q.v q.n) else pz _ (if q.n = q.n then 0 else q.nx q.n)
      rw [if_pos rfl, if_pos rfl]; rfl
    · have hi2 : i < q.n := by omega
      have e1 : nd1 nd q.n w.heap.size i = nd i := by unfold nd1; rw [if_neg e]
      have hne := hr.ne i hi2
      rw [e1]
      refine ((((((((hr.nodes i hi2).setOther hne _).setOther hne _).setOther hne _).setOther hne _).setOther hne _).alloc _)).congr (fun j hj => ?_)
      show _ = if j = 0 then Value.int .i64 (if i = q.n then v else q.v i) else pz _ (if i = q.n then 0 else q.nx i)
      rw [if_neg e, if_neg e, pz1 (V.nx i hi2)]
  · by_cases e : i = q.n
    · right; unfold nd1; rw [if_pos e]
    · left; unfold nd1; rw [if_neg e]; exact hr.sn i (by have : i < q.n + 1 := hi; omega)
  · by_cases e : i = q.n
    · unfold nd1; rw [if_pos e]; omega
    · unfold nd1; rw [if_neg e]; exact hr.ne i (by have : i < q.n + 1 := hi; omega)
  · have hi' : i < q.n + 1 := hi
    have hj' : j < q.n + 1 := hj
    unfold nd1 at e
    by_cases ei : i = q.n <;> by_cases ej : j = q.n
    · omega
    · rw [if_pos ei, if_neg ej] at e; have := hlt j (by omega); omega
    · rw [if_neg ei, if_pos ej] at e; have := hlt i (by omega); omega
    · rw [if_neg ei, if_neg ej] at e; exact hr.inj i j (by omega) (by omega) e
  · by_cases e : k = n
    · subst e
      have e1 : (addN q v k).th k = { on := true, node := q.n } := by unfold addN; exact if_pos rfl
      rw [e1]
      exact tc4 (t := { on := true, node := q.n }) (fun _ => by unfold pn nd1; simp) rfl
    · have e1 : (addN q v n).th k = q.th k := by unfold addN; exact if_neg e
      rw [e1]
      refine tc4o (tc_same (tc1 (h.t k hk) (V.node k hk) (V.prev k hk)) (fun i hi => ?_)) e
      exact if_neg (by omega)
set_option maxRecDepth 100000 in
set_option maxHeartbeats 2000000 in
theorem begin_any (h : IsQ w b S q nd f) (V : Val q) (k v : Int) : Calls Try.prog 11 #[.pointer (some ⟨b, 0, none⟩), .int .i64 k, .int .i64 v] w fun e w' => e = .returned (.int .i64 (begin q k v).1) ∧ ∃ nd' f', IsQ w' b (ext S w w') (begin q k v).2 nd' f' ∧ Fr w w' S := by
  by_cases h1 : k < 0 ∨ 8 ≤ k
  · have e : begin q k v = (1, q) := by unfold begin; rw [if_pos h1]
    rw [e]
    have H := Lib.hid h
    clear h e
    go_enter Try.func11, Try.ntmps11
    go_wp2_with fail
    refine (thread_out b k h1 _).mono ?_
    rintro e w' ⟨rfl, rfl⟩
    go_wp2
    go_ret
    exact ⟨rfl, _, _, H.out.mono (fun k h => .inl h), Fr.refl _ _⟩
  · obtain ⟨n, rfl⟩ : ∃ n : Nat, k = n := ⟨k.toNat, by omega⟩
    have hn : n < 8 := by omega
    have ht := h.t n hn
    have t0 := h.r.cell (3 + n * 4) (by omega)
    rw [ht.1] at t0
    by_cases h2 : (q.th n).on = true
    · have e : begin q n v = (14, q) := by unfold begin; rw [if_neg h1, if_pos (by simpa using h2)]
      rw [e]
      rw [h2] at t0
      have H := Lib.hid h
      clear h e ht h1 h2
      go_enter Try.func11, Try.ntmps11
      go_wp2_with fail
      refine (thread_in b n hn _).mono ?_
      rintro e w' ⟨rfl, rfl⟩
      go_wp2
      go_ret
      exact ⟨rfl, _, _, H.out.mono (fun k h => .inl h), Fr.refl _ _⟩
    · have h2' : (q.th n).on = false := by simpa using h2
      rw [h2'] at t0
      have t1 := h.r.cell (3 + n * 4 + 1) (by omega)
      have t2 := h.r.cell (3 + n * 4 + 2) (by omega)
      have t3 := h.r.cell (3 + n * 4 + 3) (by omega)
      have z0 := h.r.froz (3 + n * 4)
      have z1 := h.r.froz (3 + n * 4 + 1)
      have z2 := h.r.froz (3 + n * 4 + 2)
      have z3 := h.r.froz (3 + n * 4 + 3)
      by_cases h3 : n = 0
      · subst h3
        have e : begin q (0 : Nat) v = (0, q.set 0 { on := true }) := by unfold begin; rw [if_neg h1, if_neg (by simpa using h2)]; simp
        rw [e]
        have H := Lib.hid h
        have hz := zero63
        clear h e ht h1 h2 h2'
        go_enter Try.func11, Try.ntmps11
        go_wp2_with fail
        refine (thread_in b 0 hn _).mono ?_
        rintro e w' ⟨rfl, rfl⟩
        go_wp2
        go_ret
        refine ⟨rfl, nd, _, IsQ.mono ⟨(H.out.r.set4 0 (.bool true) (.int .i64 0) (.pointer none) (.pointer none)).setQ 0 { on := true }, fun k hk => ?_⟩ (fun k h => .inl h), fr4 _ b S H.out.r.sb _ _ _ _ _ _ _ _⟩
        by_cases e : k = 0
        · subst e
          exact tc4 (t := { on := true }) (fun e => absurd rfl e) rfl
        · have e1 : (q.set 0 { on := true }).th k = q.th k := by unfold Q.set; exact if_neg e
          rw [e1]
          exact tc4o (H.out.t k hk) e
      · have c2 := h.r.cell 2 (by omega)
        rw [h.r.f2] at c2
        have y2 := h.r.froz 2
        have hq2 := V.n2
        have hq1 := V.n1
        by_cases h4 : q.n = 65537
        · have e : begin q n v = (3, q) := by unfold begin; rw [if_neg h1, if_neg (by simpa using h2), if_neg (by omega), if_pos h4]
          rw [e]
          have H := Lib.hid h
          rw [h4] at c2
          clear h e ht h1 h2 h2'
          have hn0 : ((n : Int) == 0) = false := by simp; omega
          go_enter Try.func11, Try.ntmps11
          go_wp2_with fail
          refine (thread_in b n hn _).mono ?_
          rintro e w' ⟨rfl, rfl⟩
          go_wp2
          go_ret
          exact ⟨rfl, _, _, H.out.mono (fun k h => .inl h), Fr.refl _ _⟩
        · have e : begin q n v = (0, addN q v n) := by unfold begin; rw [if_neg h1, if_neg (by simpa using h2), if_neg (by omega), if_neg h4]; simp
          rw [e]
          have HF := Lib.hid (begin_fin h V n hn h3 h2' v)
          have H := Lib.hid h
          have hlt := h.r.lt
          clear h e ht h1 h2 h2'
          have hz := zero63
          have hz2 := zero61
          have hn0 : ((n : Int) == 0) = false := by simp; omega
          have hn5 : ((q.n : Int) - 1 == 65536) = false := by simp; omega
          go_enter Try.func11, Try.ntmps11
          go_wp2_with fail
          refine (thread_in b n hn _).mono ?_
          rintro e w' ⟨rfl, rfl⟩
          go_wp2
          go_ret
          have hsb := H.out.r.sb
          refine ⟨rfl, _, _, HF.out.mono (fun k h => h.elim .inl (fun e => .inr ?_)), ?_⟩
          · subst e
            simp [World.size_setCell]
          · exact ((fr_set w' S b _ _ hsb).trans' (fr4 _ b S hsb _ _ _ _ _ _ _ _)).trans' (fr_alloc _ _ _)
end
end Go.Proofs.Ytcbbjcafgnddcaa
