/- The law Kept: quiet, allParked, and the walk. -/
import Derived.Test.YtpmkdhaponhacaaDoorP24
import Derived.Test.YtpmkdhaponhacaaDoorP16
import Derived.Deep.DeepCutAuto
namespace Go.Proofs.YtpmkdhaponhacaaDoor
open Go.RowKit Go.ChangeShapes Go.WideShapes Go.Deep
set_option linter.unusedVariables false
set_option linter.unusedSimpArgs false
theorem measK (K i : Nat) (h : i < K) : K - (intOf (.int .i64 ((i : Int) + 1))).toNat < K - (intOf (.int .i64 (i : Int))).toNat := by
  simp [intOf]
  omega
section
variable {w w1 : World} {b p : Nat} {q : Q}
set_option maxRecDepth 100000 in
set_option maxHeartbeats 4000000 in
theorem quiet_any (h : Lq w b p q) (o : Bool) (ho : o = true ↔ Quiet q) : Calls Tryd.prog 22 #[.pointer (some ⟨b, 0, none⟩)] w fun e w' => e = .returned (.bool o) ∧ w' = w := by
  have n1 := h.n1
  have n2 := h.n2
  have HW : Hid (Calls Tryd.prog 11 #[.pointer (some ⟨b, 0, none⟩)] w fun e w' => e = .returned (.int .i64 ((q.n - 1 : Nat) : Int)) ∧ w' = w) := Lib.hid (workers_any h)
  have HB := Lib.hid (fun (k : Nat) (hk : k < q.n) (x : Bool) (hx : x = decide ((q.th k).nx ≠ .no)) => busy_any h (k : Int) x (by rw [decide_eq_true (by omega), Int.toNat_natCast, Bool.true_and, hx]))
  have HO := Lib.hid ho
  clear h ho
  obtain ⟨N, hN⟩ : ∃ N, q.n = N + 1 := ⟨q.n - 1, by omega⟩
  rw [hN, Nat.add_sub_cancel] at HW
  have HN := Lib.hid (And.intro hN (show N ≤ 7 by omega))
  clear n1 n2 hN
  go_enter Tryd.func22, Tryd.ntmps22
  go_wp2
  go_loopw [3] (fun kv wr => ∃ i : Nat, i ≤ N + 1 ∧ kv = .int .i64 i ∧ wr = w ∧ ∀ j, j < i → (q.th j).nx = .no) (fun kv wr => N + 1 - (intOf kv).toNat)
  case atStart => exact ⟨0, by omega, rfl, rfl, fun j hj => by omega⟩
  case round =>
    obtain ⟨i, hi, rfl, rfl, hj⟩ := hrel
    have HJ := Lib.hid hj
    clear hj
    go_wp2_with fail
    refine HW.out.mono ?_
    rintro e w2 ⟨rfl, rfl⟩
    by_cases hlt : i < N + 1
    · have hl1 : (i : Int) ≤ (N : Int) := by omega
      have hwi : wrap64 ((i : Int) + 1) = (i : Int) + 1 := wrF _ (by omega) (by have := HN.out.2; omega)
      have HWI := Lib.hid hwi
      have HLT := Lib.hid hlt
      clear hwi hlt hi
      by_cases hx : (q.th i).nx = .no
      · have HBi := Lib.hid (HB.out i (by rw [HN.out.1]; exact HLT.out) false (by rw [hx]; rfl))
        have HX := Lib.hid hx
        clear hx HB HW
        go_wp2_with fail
        refine HBi.out.mono ?_
        rintro e w3 ⟨rfl, rfl⟩
        go_wp2
        have hwi := HWI.out
        rw [hwi]
        exact ⟨⟨i + 1, HLT.out, rfl, by trivial, fun j g => by
          by_cases e : j = i
          · rw [e]; exact HX.out
          · exact HJ.out j (by omega)⟩, measK (N + 1) i HLT.out⟩
      · have HBi := Lib.hid (HB.out i (by rw [HN.out.1]; exact HLT.out) true (by rw [decide_eq_true hx]))
        have ho : o = false := by
          cases o
          · rfl
          · exact absurd (HO.out.1 rfl i (by rw [HN.out.1]; exact HLT.out)) hx
        subst ho
        clear hx HB HW
        go_wp2_with fail
        refine HBi.out.mono ?_
        rintro e w3 ⟨rfl, rfl⟩
        go_wp2
        go_ret
        exact ⟨rfl, rfl⟩
    · have hge : ¬ ((i : Int) ≤ (N : Int)) := by omega
      have ho : o = true := HO.out.2 (fun j hj => HJ.out j (by rw [HN.out.1] at hj; omega))
      subst ho
      clear HB HW
      go_wp2
      go_ret
      exact ⟨rfl, rfl⟩
set_option maxRecDepth 100000 in
set_option maxHeartbeats 4000000 in
theorem allpk_any (h : Lq w b p q) (o : Bool) (ho : o = true ↔ AllPk q) : Calls Tryd.prog 23 #[.pointer (some ⟨b, 0, none⟩)] w fun e w' => e = .returned (.bool o) ∧ w' = w := by
  have n1 := h.n1
  have n2 := h.n2
  have HW : Hid (Calls Tryd.prog 11 #[.pointer (some ⟨b, 0, none⟩)] w fun e w' => e = .returned (.int .i64 ((q.n - 1 : Nat) : Int)) ∧ w' = w) := Lib.hid (workers_any h)
  have HB := Lib.hid (fun (k : Nat) (hk : k < q.n) (x : Bool) (hx : x = (q.th k).pk) => parked_any h (k : Int) x (by rw [decide_eq_true (by omega), Int.toNat_natCast, Bool.true_and, hx]))
  have HO := Lib.hid ho
  clear h ho
  obtain ⟨N, hN⟩ : ∃ N, q.n = N + 1 := ⟨q.n - 1, by omega⟩
  rw [hN, Nat.add_sub_cancel] at HW
  have HN := Lib.hid (And.intro hN (And.intro (show N ≤ 7 by omega) (show 1 ≤ N by omega)))
  clear n1 n2 hN
  go_enter Tryd.func23, Tryd.ntmps23
  go_wp2
  go_loopw [3] (fun kv wr => ∃ i : Nat, 1 ≤ i ∧ i ≤ N + 1 ∧ kv = .int .i64 i ∧ wr = w ∧ ∀ j, 1 ≤ j → j < i → (q.th j).pk = true) (fun kv wr => N + 1 - (intOf kv).toNat)
  case atStart => exact ⟨1, Nat.le_refl _, by have := HN.out.2.2; omega, rfl, rfl, fun j h1 h2 => by omega⟩
  case round =>
    obtain ⟨i, h1, hi, rfl, rfl, hj⟩ := hrel
    have HJ := Lib.hid hj
    clear hj
    go_wp2_with fail
    refine HW.out.mono ?_
    rintro e w2 ⟨rfl, rfl⟩
    by_cases hlt : i < N + 1
    · have hl1 : (i : Int) ≤ (N : Int) := by omega
      have hwi : wrap64 ((i : Int) + 1) = (i : Int) + 1 := wrF _ (by omega) (by have := HN.out.2.1; omega)
      have HWI := Lib.hid hwi
      have HLT := Lib.hid (And.intro hlt h1)
      clear hwi hlt hi h1
      cases hx : (q.th i).pk
      · have HBi := Lib.hid (HB.out i (by rw [HN.out.1]; exact HLT.out.1) false hx.symm)
        have ho : o = false := by
          cases o
          · rfl
          · exact absurd (HO.out.1 rfl i HLT.out.2 (by rw [HN.out.1]; exact HLT.out.1)) (by rw [hx]; decide)
        subst ho
        clear hx HB HW
        go_wp2_with fail
        refine HBi.out.mono ?_
        rintro e w3 ⟨rfl, rfl⟩
        go_wp2
        go_ret
        exact ⟨rfl, rfl⟩
      · have HBi := Lib.hid (HB.out i (by rw [HN.out.1]; exact HLT.out.1) true hx.symm)
        have HX := Lib.hid hx
        clear hx HB HW
        go_wp2_with fail
        refine HBi.out.mono ?_
        rintro e w3 ⟨rfl, rfl⟩
        go_wp2
        have hwi := HWI.out
        rw [hwi]
        exact ⟨⟨i + 1, Nat.le_succ_of_le HLT.out.2, HLT.out.1, rfl, by trivial, fun j g1 g => by
          by_cases e : j = i
          · rw [e]; exact HX.out
          · exact HJ.out j g1 (by omega)⟩, measK (N + 1) i HLT.out.1⟩
    · have hge : ¬ ((i : Int) ≤ (N : Int)) := by omega
      have ho : o = true := HO.out.2 (fun j g hj => HJ.out j g (by rw [HN.out.1] at hj; omega))
      subst ho
      clear HB HW
      go_wp2
      go_ret
      exact ⟨rfl, rfl⟩
end
end Go.Proofs.YtpmkdhaponhacaaDoor
