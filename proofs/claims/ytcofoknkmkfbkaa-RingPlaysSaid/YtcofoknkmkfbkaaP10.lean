/- How the script of a law of the ring is read. -/
import Derived.Test.YtcofoknkmkfbkaaP9
import Derived.Test.YtcofoknkmkfbkaaO
namespace Go.Proofs.Ytcofoknkmkfbkaa
open Go.RowKit Go.ChangeShapes Go.WideShapes Go.Deep
set_option linter.unusedVariables false
set_option linter.unusedSimpArgs false
set_option maxRecDepth 100000 in
theorem ops_read {H : Type} {enc : TypeId × Value → H} {w : World} {v : Value} {d : DataW H} {p : List MemPlace} (h : DataW.Trod enc Try.prog w 0 (fun _ => true) true 35 v d p) (hv : ∃ a len cap, v = .slice a len cap) :
    ∃ (a : Option Addr) (len cap : Nat) (kd xv : Nat → Int), v = .slice a len cap ∧ Ops w a len kd xv ∧ len ≤ maxLen := by
  obtain ⟨a, len, cap, rfl, hl, hr, hd0⟩ := slice_reads Try.underlying35 2 (by kernel_rfl) (by omega) h hv
  have key : ∀ i, i < len → ∃ x : Int × Int, ∃ b off, a = some ⟨b, off, none⟩ ∧ b < w.heap.size ∧ w.cell? ⟨b, off + i * 2, none⟩ = some (.int .i64 x.1) ∧ w.cell? ⟨b, off + i * 2 + 1, none⟩ = some (.int .i64 x.2) := fun i hi => by
    obtain ⟨b, off, cs, n, x, rfl, hb, hlen, hc, hd⟩ := hr i hi
    obtain ⟨xs, n', rfl, _, _, hxs, hf⟩ := DataW.trod_struct Try.underlying42 hd
    have hxl : xs.length = 2 := hxs
    match cs, hlen with
    | [c0, c1], _ =>
      have f0 := hf 0 _ rfl
      have f1 := hf 1 _ rfl
      rw [List.getElem?_eq_getElem (by omega)] at f0 f1
      obtain ⟨n0, e0, _, _⟩ := DataW.trod_int Try.underlying3 f0
      obtain ⟨n1, e1, _, _⟩ := DataW.trod_int Try.underlying3 f1
      have h3 : Try.prog.cellsOf 3 = 1 := by kernel_rfl
      have e0' : c0 = .int .i64 n0 := by simpa [h3] using e0
      have e1' : c1 = .int .i64 n1 := by simpa [h3] using e1
      have k0 := hc 0 (by omega)
      have k1 := hc 1 (by omega)
      refine ⟨(n0, n1), b, off, rfl, hb, ?_, ?_⟩
      · rw [← e0']; simpa using k0
      · rw [← e1', show off + i * 2 + 1 = off + (i * 2 + 1) by omega]; simpa using k1
  obtain ⟨z, hz⟩ := Go.Deep.choose_lt key
  exact ⟨a, len, cap, fun i => (z i).1, fun i => (z i).2, rfl, hz, hl⟩
end Go.Proofs.Ytcofoknkmkfbkaa
