/- The listed table; how the arguments are read. -/
import Derived.Test.YtpmkdhaponhacaaDoorP9
import Derived.Test.YtpmkdhaponhacaaDoorO
import Derived.Test.YtpmkdhaponhacaaDoorRows
import Derived.ProofKit
import Derived.OpenShut
import Derived.Lib.LaidTab
import Derived.LaidMore
import Derived.MakeChecks
import Derived.Stop.Joined
namespace Go.Proofs.YtpmkdhaponhacaaDoor
open Go.RowKit Go.ChangeShapes Go.WideShapes Go.ChangeAt
set_option linter.unusedVariables false
set_option linter.unusedSimpArgs false
/-- the row's list -/
def laidL : List (String × DataW Unit) := [("math/bits.deBruijn32tab", Rows.laid_math_bits_deBruijn32tab), ("math/bits.deBruijn64tab", Rows.laid_math_bits_deBruijn64tab)]
theorem gT : Tryd.prog.globalNamed "math/bits.deBruijn64tab" = some 1 := by kernel_rfl
theorem gTType : (Tryd.prog.globals[1]?).map (·.type) = some 74 := by kernel_rfl
theorem cells5 : Tryd.prog.cellsOf 5 = 1 := by kernel_rfl
theorem cells74 : Tryd.prog.cellsOf 74 = 64 := by kernel_rfl
theorem tab64 : (Rows.laid_math_bits_deBruijn64tab : DataW Unit) = Lib.tabData .u8 (Lib.deBruijn64tab.map fun (n : Nat) => (n : Int)) := rfl
theorem tab_len : (Lib.deBruijn64tab.map fun (n : Nat) => (n : Int)).length = 64 := rfl
/-- from the condition to the table's cells -/
theorem tab_of_laid {W : World} (h : laidMetH Tryd.prog laidL W) : Tab W 1 := by
  rw [MakeChecks.laidMetH_plain _ _ _ (by kernel_rfl)] at h
  obtain ⟨ps, ⟨g0, t0, cs0, f0, p0, q0, hg0, ht0, hv0, hd0, ⟨g1, t1, cs1, f1, p1, q1, hg1, ht1, hv1, hd1, _, _⟩, _⟩, _⟩ := h
  obtain rfl := Option.some.inj (gT.symm.trans hg1)
  obtain rfl := Option.some.inj (gTType.symm.trans ht1)
  rw [tab64] at hd1
  have e := Lib.cells_of_tab Tryd.underlying74 Tryd.underlying5 cells5 cells74 hd1
  have hT : Lib.TabIs Tryd.prog W "math/bits.deBruijn64tab" .u8 (Lib.deBruijn64tab.map fun (n : Nat) => (n : Int)) := by
    unfold Lib.TabIs
    rw [hv1, ← e]
  intro i hi
  have := hT.cell gT i (by rw [tab_len]; exact hi)
  rw [this, List.getD_eq_getElem?_getD, List.getD_eq_getElem?_getD, List.getElem?_map]
  cases Lib.deBruijn64tab[i]? <;> rfl
theorem door_met (os : Os) (args : Array Value) : laidMetH Tryd.prog laidL ((World.doorLaid Tryd.prog 4000 os).forCall (fun _ _ => 0) ⟨#[], args, []⟩).memory :=
  laidMetH_of_parts3 (fuel := 8) (laidMet_of_run' 8 (by kernel_rfl) (by kernel_rfl)) (by kernel_rfl) (by kernel_rfl)
theorem cells4 : Tryd.prog.cellsOf 4 = 1 := by kernel_rfl
theorem cells3 : Tryd.prog.cellsOf 3 = 1 := by kernel_rfl
theorem move_read {H : Type} {enc : TypeId × Value → H} {w : World} {v : Value} {d : DataW H} {p : List MemPlace} (h : DataW.Trod enc Tryd.prog w 0 (fun _ => true) true 42 v d p) (hv : ∃ cs, v = .agg cs ∧ cs.size = Tryd.prog.cellsOf 42) :
    ∃ (bg : Bool) (t x : Int), v = .agg #[.bool bg, .int .i64 t, .int .i64 x] := by
  obtain ⟨cs, rfl, hc⟩ := hv
  have h24 : Tryd.prog.cellsOf 42 = 3 := by kernel_rfl
  rw [h24] at hc
  obtain ⟨n, hn⟩ := h
  obtain ⟨xs, n', _, _, _, hxs, hf⟩ := DataW.trod_struct Tryd.underlying42 hn
  have hxl : xs.length = 3 := hxs
  have h4 := cells4
  have h3 := cells3
  obtain ⟨l⟩ := cs
  match l, hc with
  | [c0, c1, c2], _ =>
    have f0 := hf 0 _ rfl
    have f1 := hf 1 _ rfl
    have f2 := hf 2 _ rfl
    rw [List.getElem?_eq_getElem (by omega)] at f0 f1 f2
    simp [Value.cells, h4, h3] at f0 f1 f2
    obtain ⟨b, hb, _⟩ := DataW.trod_bool Tryd.underlying4 f0
    obtain ⟨m, hm, _, _⟩ := DataW.trod_int Tryd.underlying3 f1
    obtain ⟨x, hx, _, _⟩ := DataW.trod_int Tryd.underlying3 f2
    have hb : c0 = .bool b := by simpa using hb
    have hm : c1 = .int .i64 m := by simpa using hm
    have hx : c2 = .int .i64 x := by simpa using hx
    subst hb hm hx
    exact ⟨b, m, x, rfl⟩
end Go.Proofs.YtpmkdhaponhacaaDoor
