/- The reference's Step. -/
import Derived.Test.YtcbbjcafgnddcaaM24
namespace Go.Proofs.Ytcbbjcafgnddcaa
open Go.RowKit Go.Shelf
set_option linter.unusedVariables false
set_option linter.unusedSimpArgs false
/-- what isn't written yet is nought -/
def Pz (q : Q) : Prop := ∀ k, (q.th k).made < 2 → (q.th k).prev = 0
theorem pz_set {q : Q} (h : Pz q) (k : Nat) (t : T) (ht : t.made < 2 → t.prev = 0) : ∀ j, ((q.set k t).th j).made < 2 → ((q.set k t).th j).prev = 0 := fun j => by
  unfold Q.set
  dsimp only
  split
  · exact ht
  · exact h j
theorem pz0 : Pz Q0 := fun _ _ => rfl
theorem pz_begin {q : Q} (h : Pz q) (k v : Int) : Pz (begin q k v).2 := by
  unfold begin
  split
  · exact h
  · split
    · exact h
    · split
      · exact pz_set h 0 { on := true } (fun _ => rfl)
      · split
        · exact h
        · exact pz_set h k.toNat { on := true, node := q.n } (fun _ => rfl)
theorem pz_step {q : Q} (h : Pz q) (k : Int) : Pz (step q k).2 := by
  unfold step
  split
  · exact h
  · split
    · exact h
    · split
      · unfold take
        split
        · exact pz_set h 0 _ (fun _ => rfl)
        · split
          · exact pz_set h 0 {} (fun _ => rfl)
          · exact pz_set h 0 {} (fun _ => rfl)
      · unfold put
        split
        · exact pz_set h k.toNat { on := true, made := 1, node := (q.th k.toNat).node } (fun _ => rfl)
        · split
          · exact pz_set h k.toNat { on := true, made := 2, node := (q.th k.toNat).node, prev := q.head } (fun e => absurd e (by simp))
          · exact pz_set h k.toNat {} (fun _ => rfl)
theorem mput_any {w : World} {c g : Nat} {vv vn : Value} {q : Q} (h : Rf w c g vv vn q) (V : Val q) (Z : Pz q) (n : Nat) (hn : n < 8) (h0 : n ≠ 0) (hon : (q.th n).on = true) :
    Calls Try.prog 25 #[.pointer (some ⟨c, 0, none⟩), .int .i64 n, .agg #[.bool true, .int .i64 ((q.th n).made + 1), .int .i64 (q.th n).node, .int .i64 (q.th n).prev]] w fun e w' => e = .returned (.agg #[.bool (put q n).1.over, .bool (put q n).1.take, .int .i64 (put q n).1.v, .int .i64 (put q n).1.err]) ∧ Rf w' c g vv vn (put q n).2 ∧ Fr w w' (S0 c g vv vn) := by
  have hm := V.made n hn hon
  rw [if_neg h0] at hm
  have hi := V.node n hn hon
  have hp := V.prev n hn hon
  have h3 : (q.th n).made = 0 ∨ (q.th n).made = 1 ∨ (q.th n).made = 2 := by omega
  rcases h3 with e | e | e
  · rw [Z n (by omega)]
    unfold put; rw [if_pos e, e]
    exact mput1 h V n hn _ hi
  · rw [Z n (by omega)]
    unfold put; rw [if_neg (by omega), if_pos e, e]
    exact mput2 h V n hn _
  · unfold put; rw [if_neg (by omega), if_neg (by omega), e]
    exact mput3 h V n hn _ _ hi hp
theorem mtake_any {w : World} {c g : Nat} {vv vn : Value} {q : Q} (h : Rf w c g vv vn q) (V : Val q) (Z : Pz q) (hon : (q.th 0).on = true) :
    Calls Try.prog 26 #[.pointer (some ⟨c, 0, none⟩), .agg #[.bool true, .int .i64 ((q.th 0).made + 1), .int .i64 (q.th 0).node, .int .i64 (q.th 0).prev]] w fun e w' => e = .returned (.agg #[.bool (take q).1.over, .bool (take q).1.take, .int .i64 (take q).1.v, .int .i64 (take q).1.err]) ∧ Rf w' c g vv vn (take q).2 ∧ Fr w w' (S0 c g vv vn) := by
  have hm := V.made 0 (by omega) hon
  rw [if_pos rfl] at hm
  have hi := V.node 0 (by omega) hon
  rw [Z 0 (by omega)]
  have h3 : (q.th 0).made = 0 ∨ (q.th 0).made = 1 := by omega
  rcases h3 with e | e
  · unfold take; rw [if_pos e, e]
    exact mtake1 h V _
  · unfold take; rw [if_neg (by omega), e]
    by_cases e2 : (q.th 0).node = 0
    · rw [if_neg (by simpa using e2), e2]
      exact mtake3 h V _ rfl
    · rw [if_pos e2]
      exact mtake2 h V _ hi e2
theorem fr_four (w : World) (B : Nat) (S : Nat → Prop) (h : S B) (v0 v1 v2 v3 : Value) : Fr w ((((w.setCell ⟨B, 0, none⟩ v0).setCell ⟨B, 1, none⟩ v1).setCell ⟨B, 2, none⟩ v2).setCell ⟨B, 3, none⟩ v3) S :=
  (((fr_set w S B _ v0 h).trans' (fr_set _ S B _ v1 h)).trans' (fr_set _ S B _ v2 h)).trans' (fr_set _ S B _ v3 h)
set_option maxRecDepth 100000 in
set_option maxHeartbeats 4000000 in
theorem mstep_any {w : World} {c g : Nat} {vv vn : Value} {q : Q} (h : Rf w c g vv vn q) (V : Val q) (Z : Pz q) (k : Int) : Calls Try.prog 18 #[.pointer (some ⟨c, 0, none⟩), .int .i64 k] w fun e w' => e = .returned (.tuple #[.agg #[.bool (step q k).1.1.over, .bool (step q k).1.1.take, .int .i64 (step q k).1.1.v, .int .i64 (step q k).1.1.err], .int .i64 (step q k).1.2]) ∧ Rf w' c g vv vn (step q k).2 ∧ Fr w w' (S0 c g vv vn) := by
  have hz43 := zero43
  have hz48 := zero48
  by_cases h1 : k < 0 ∨ 8 ≤ k
  · have e : step q k = (({}, 1), q) := by unfold step; rw [if_pos h1]
    rw [e]
    have H := Lib.hid h
    clear h e V
    rcases h1 with h1 | h1
    · go_enter Try.func18, Try.ntmps18
      go_wp2
      go_returns
      exact ⟨rfl, H.out.alloc _, fr_alloc _ _ _⟩
    · have h2 : ¬ k < 0 := by omega
      go_enter Try.func18, Try.ntmps18
      go_wp2
      go_returns
      exact ⟨rfl, H.out.alloc _, fr_alloc _ _ _⟩
  · obtain ⟨n, rfl⟩ : ∃ n : Nat, k = n := ⟨k.toNat, by omega⟩
    have hn : n < 8 := by omega
    have hk0 : ¬ (n : Int) < 0 := by omega
    have hk8 : ¬ (8 : Int) ≤ n := by omega
    have hi0 : (0 : Int) ≤ n := by omega
    have hi8 : (n : Int) < 8 := by omega
    have t0 := h.t0 n hn
    have t1 := h.t1 n hn
    have t2 := h.t2 n hn
    have t3 := h.t3 n hn
    have c4 := h.c4
    have hlc := h.s.lt
    have hlg := h.t.lt
    by_cases h2 : (q.th n).on = false
    · have e : step q n = (({}, 13), q) := by unfold step; rw [if_neg h1, if_pos (by simpa using h2)]
      rw [e]
      rw [h2] at t0
      have H := Lib.hid h
      clear h e h1 h2 V Z
      generalize q.th n = tn at *
      go_enter Try.func18, Try.ntmps18
      go_wp2
      go_returns
      exact ⟨rfl, (H.out.alloc _).alloc _, (fr_alloc _ _ _).trans' (fr_alloc _ _ _)⟩
    · have h2' : (q.th n).on = true := by simpa using h2
      rw [h2'] at t0
      have hm := V.made n hn h2'
      have hm3 : (q.th n).made < 3 := by split at hm <;> omega
      have hm64 : IntKind.i64.wrap ((q.th n).made + 1) = (q.th n).made + 1 := by rw [IntKind.wrap_i64]; omega
      have hR := (h.alloc (.cells #[.bool false, .bool false, .int .i64 0, .int .i64 0] 43)).alloc (.cells #[.bool true, .int .i64 ((q.th n).made + 1), .int .i64 (q.th n).node, .int .i64 (q.th n).prev] 48)
      have r4 := (row_new w #[.bool false, .bool false, .int .i64 0, .int .i64 0] 43 4 (fun i => if i < 2 then .bool false else .int .i64 0) rfl (fun i hi => by match i, hi with | 0, _ => rfl | 1, _ => rfl | 2, _ => rfl | 3, _ => rfl)).alloc (.cells #[.bool true, .int .i64 ((q.th n).made + 1), .int .i64 (q.th n).node, .int .i64 (q.th n).prev] 48)
      have G1 := (fr_alloc w (S0 c g vv vn) (.cells #[.bool false, .bool false, .int .i64 0, .int .i64 0] 43)).trans' (fr_alloc _ (S0 c g vv vn) (.cells #[.bool true, .int .i64 ((q.th n).made + 1), .int .i64 (q.th n).node, .int .i64 (q.th n).prev] 48))
      have hhi := h.hi
      have hfp : ¬ S0 c g vv vn w.heap.size := fun x => by have := hhi _ x; omega
      have HFP := Lib.hid hfp
      by_cases h3 : n = 0
      · have e : step q n = (((take q).1, 0), (take q).2) := by unfold step; rw [if_neg h1, if_neg (by simpa using h2), if_pos (by omega)]
        rw [e]
        have HT := Lib.hid (fun (W1 : World) (hw : Rf W1 c g vv vn q) => mtake_any hw V Z (by rw [← h3]; exact h2'))
        generalize hT0 : q.th 0 = T0 at HT
        have hT1 : T0 = q.th n := by rw [← hT0, h3]
        clear hT0
        subst hT1
        have hng : ¬ (0 : Int) < n := by omega
        clear h e h1 h2 V Z hm hfp hhi h3
        generalize (q.th n).made = m0 at *
        generalize (q.th n).node = m1 at *
        generalize (q.th n).prev = m2 at *
        generalize take q = tq at HT ⊢
        go_enter Try.func18, Try.ntmps18
        go_wp2_with fail
        refine (HT.out _ hR).mono ?_
        rintro e w2 ⟨rfl, hq, g2⟩
        have r4' := row_fr r4 g2 HFP.out
        have G2 := G1.trans' g2
        have FN := Lib.hid (fun (v0 v1 v2 v3 : Value) => fr_new (fr_new (fr_new (fr_new G2 (Nat.le_refl _) 0 v0) (Nat.le_refl _) 1 v1) (Nat.le_refl _) 2 v2) (Nat.le_refl _) 3 v3)
        clear r4 g2 G1 G2 hR t0 t1 t2 t3
        have s40 := row_val r4' (i := 0) (v := .bool false) (by omega) rfl
        have s41 := row_val r4' (i := 1) (v := .bool false) (by omega) rfl
        have s42 := row_val r4' (i := 2) (v := .int .i64 0) (by omega) rfl
        have s43 := row_val r4' (i := 3) (v := .int .i64 0) (by omega) rfl
        have z40 := World.rowIs.frozen r4' 0
        have z41 := World.rowIs.frozen r4' 1
        have z42 := World.rowIs.frozen r4' 2
        have z43 := World.rowIs.frozen r4' 3
        have hS4 := r4'.lt
        have HQ := Lib.hid hq
        clear hq r4'
        generalize hS4e : w.heap.size = S4 at *
        go_wp2
        generalize hW : World.setCell _ _ _ = W4
        generalize hW5 : World.alloc _ _ = W5
        have q0 : W5.cell? ⟨S4, 0, none⟩ = some (.bool tq.1.over) := by subst hW5 hW; go_cell
        have q1 : W5.cell? ⟨S4, 1, none⟩ = some (.bool tq.1.take) := by subst hW5 hW; go_cell
        have q2 : W5.cell? ⟨S4, 2, none⟩ = some (.int .i64 tq.1.v) := by subst hW5 hW; go_cell
        have q3 : W5.cell? ⟨S4, 3, none⟩ = some (.int .i64 tq.1.err) := by subst hW5 hW; go_cell
        refine bodyPost_ret (by simp [results, Try.results18, go_sem, q0, q1, q2, q3]; try rfl) rfl ?_
        rw [← hW5, ← hW]
        exact ⟨rfl, (HQ.out.frame (fr_four w2 S4 (fun b => b = S4) rfl _ _ _ _) (fun k hk e => HFP.out (by rw [← e]; exact hk))).alloc _, (FN.out _ _ _ _).trans' (fr_alloc _ _ _)⟩
      · have e : step q n = (((put q n).1, 0), (put q n).2) := by unfold step; rw [if_neg h1, if_neg (by simpa using h2), if_neg (by omega)]; rfl
        rw [e]
        have HT := Lib.hid (fun (W1 : World) (hw : Rf W1 c g vv vn q) => mput_any hw V Z n hn h3 h2')
        have hng : (0 : Int) < n := by omega
        clear h e h1 h2 V Z hm hfp hhi h3
        generalize (q.th n).made = m0 at *
        generalize (q.th n).node = m1 at *
        generalize (q.th n).prev = m2 at *
        generalize put q n = tq at HT ⊢
        go_enter Try.func18, Try.ntmps18
        go_wp2_with fail
        refine (HT.out _ hR).mono ?_
        rintro e w2 ⟨rfl, hq, g2⟩
        have r4' := row_fr r4 g2 HFP.out
        have G2 := G1.trans' g2
        have FN := Lib.hid (fun (v0 v1 v2 v3 : Value) => fr_new (fr_new (fr_new (fr_new G2 (Nat.le_refl _) 0 v0) (Nat.le_refl _) 1 v1) (Nat.le_refl _) 2 v2) (Nat.le_refl _) 3 v3)
        clear r4 g2 G1 G2 hR t0 t1 t2 t3
        have s40 := row_val r4' (i := 0) (v := .bool false) (by omega) rfl
        have s41 := row_val r4' (i := 1) (v := .bool false) (by omega) rfl
        have s42 := row_val r4' (i := 2) (v := .int .i64 0) (by omega) rfl
        have s43 := row_val r4' (i := 3) (v := .int .i64 0) (by omega) rfl
        have z40 := World.rowIs.frozen r4' 0
        have z41 := World.rowIs.frozen r4' 1
        have z42 := World.rowIs.frozen r4' 2
        have z43 := World.rowIs.frozen r4' 3
        have hS4 := r4'.lt
        have HQ := Lib.hid hq
        clear hq r4'
        generalize hS4e : w.heap.size = S4 at *
        go_wp2
        generalize hW : World.setCell _ _ _ = W4
        generalize hW5 : World.alloc _ _ = W5
        have q0 : W5.cell? ⟨S4, 0, none⟩ = some (.bool tq.1.over) := by subst hW5 hW; go_cell
        have q1 : W5.cell? ⟨S4, 1, none⟩ = some (.bool tq.1.take) := by subst hW5 hW; go_cell
        have q2 : W5.cell? ⟨S4, 2, none⟩ = some (.int .i64 tq.1.v) := by subst hW5 hW; go_cell
        have q3 : W5.cell? ⟨S4, 3, none⟩ = some (.int .i64 tq.1.err) := by subst hW5 hW; go_cell
        refine bodyPost_ret (by simp [results, Try.results18, go_sem, q0, q1, q2, q3]; try rfl) rfl ?_
        rw [← hW5, ← hW]
        exact ⟨rfl, (HQ.out.frame (fr_four w2 S4 (fun b => b = S4) rfl _ _ _ _) (fun k hk e => HFP.out (by rw [← e]; exact hk))).alloc _, (FN.out _ _ _ _).trans' (fr_alloc _ _ _)⟩
end Go.Proofs.Ytcbbjcafgnddcaa
