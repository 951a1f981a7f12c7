/- How a move is read. -/
import Derived.Test.YtcbbjcafgnddcaaM9
import Derived.Test.YtcbbjcafgnddcaaO
namespace Go.Proofs.Ytcbbjcafgnddcaa
open Go.RowKit Go.ChangeShapes Go.WideShapes Go.Deep
set_option linter.unusedVariables false
set_option linter.unusedSimpArgs false
theorem cells4 : Try.prog.cellsOf 4 = 1 := by kernel_rfl
theorem cells3 : Try.prog.cellsOf 3 = 1 := by kernel_rfl
theorem cells2 : Try.prog.cellsOf 2 = 1 := by kernel_rfl
theorem move_read {H : Type} {enc : TypeId × Value → H} {w : World} {v : Value} {d : DataW H} {p : List MemPlace} (h : DataW.Trod enc Try.prog w 0 (fun _ => true) true 42 v d p) (hv : ∃ cs, v = .agg cs ∧ cs.size = Try.prog.cellsOf 42) :
    ∃ (bg : Bool) (t x : Int), v = .agg #[.bool bg, .int .i64 t, .int .i64 x] := by
  obtain ⟨cs, rfl, hc⟩ := hv
  have h24 : Try.prog.cellsOf 42 = 3 := by kernel_rfl
  rw [h24] at hc
  obtain ⟨n, hn⟩ := h
  obtain ⟨xs, n', _, _, _, hxs, hf⟩ := DataW.trod_struct Try.underlying42 hn
  have hxl : xs.length = 3 := hxs
  have h4 := cells4
  have h3 := cells3
  have h2 := cells2
  obtain ⟨l⟩ := cs
  match l, hc with
  | [c0, c1, c2], _ =>
    have f0 := hf 0 _ rfl
    have f1 := hf 1 _ rfl
    have f2 := hf 2 _ rfl
    rw [List.getElem?_eq_getElem (by omega)] at f0 f1 f2
    simp [Value.cells, h4, h3, h2] at f0 f1 f2
    obtain ⟨b, hb, _⟩ := DataW.trod_bool Try.underlying4 f0
    obtain ⟨m, hm, _, _⟩ := DataW.trod_int Try.underlying3 f1
    obtain ⟨x, hx, _, _⟩ := DataW.trod_int Try.underlying2 f2
    have hb : c0 = .bool b := by simpa using hb
    have hm : c1 = .int .i64 m := by simpa using hm
    have hx : c2 = .int .i64 x := by simpa using hx
    subst hb hm hx
    exact ⟨b, m, x, rfl⟩
end Go.Proofs.Ytcbbjcafgnddcaa
