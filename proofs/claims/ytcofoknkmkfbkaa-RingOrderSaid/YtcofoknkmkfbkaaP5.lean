/- How the row of RingOrder is read. -/
import Derived.Test.YtcofoknkmkfbkaaP3
import Derived.Test.YtcofoknkmkfbkaaO
namespace Go.Proofs.Ytcofoknkmkfbkaa
open Go.RowKit Go.ChangeShapes Go.WideShapes Go.Deep
set_option linter.unusedVariables false
set_option linter.unusedSimpArgs false
theorem trod_slice1 {H : Type} {enc : TypeId × Value → H} {P : Program} {w : World} {t e : TypeId} {n : Nat} {c : Value} {x : DataW H × List MemPlace} (ht : P.underlying t = some (.slice e)) (h : DataW.trod enc P w 0 (fun _ => true) true n t [c] = some x) : ∃ a len cap, c = .slice a len cap := by
  rcases open_slice ht h with ⟨hcs, _⟩ | ⟨a, len, cap, m, n, D, Pl, hcs, _⟩
  · exact ⟨none, 0, 0, by simpa using hcs⟩
  · exact ⟨_, _, _, by simpa using hcs⟩
theorem row_read {H : Type} {enc : TypeId × Value → H} {w : World} {v : Value} {d : DataW H} {p : List MemPlace} (h : DataW.Trod enc Try.prog w 0 (fun _ => true) true 24 v d p) (hv : ∃ cs, v = .agg cs ∧ cs.size = Try.prog.cellsOf 24) :
    ∃ (a1 a2 : Option Addr) (n1 c1 n2 c2 : Nat) (z1 z2 : Nat → Int) (turn : Int), v = .agg #[.slice a1 n1 c1, .slice a2 n2 c2, .int .i64 turn] ∧ n1 ≤ maxLen ∧ n2 ≤ maxLen ∧
      (∀ i, i < n1 → ∃ b off, a1 = some ⟨b, off, none⟩ ∧ b < w.heap.size ∧ w.cell? ⟨b, off + i, none⟩ = some (.int .i64 (z1 i))) ∧ (∀ i, i < n2 → ∃ b off, a2 = some ⟨b, off, none⟩ ∧ b < w.heap.size ∧ w.cell? ⟨b, off + i, none⟩ = some (.int .i64 (z2 i))) := by
  obtain ⟨cs, rfl, hc⟩ := hv
  have h24 : Try.prog.cellsOf 24 = 3 := by kernel_rfl
  rw [h24] at hc
  obtain ⟨n, hn⟩ := h
  obtain ⟨xs, n', _, _, _, hxs, hf⟩ := DataW.trod_struct Try.underlying24 hn
  have hxl : xs.length = 3 := hxs
  have h22 : Try.prog.cellsOf 22 = 1 := by kernel_rfl
  have h3 : Try.prog.cellsOf 3 = 1 := by kernel_rfl
  obtain ⟨l⟩ := cs
  match l, hc with
  | [c0, c1, c2], _ =>
    have f0 := hf 0 _ rfl
    have f1 := hf 1 _ rfl
    have f2 := hf 2 _ rfl
    rw [List.getElem?_eq_getElem (by omega)] at f0 f1 f2
    simp [Value.cells, h22, h3] at f0 f1 f2
    obtain ⟨a1, n1, k1, rfl⟩ := trod_slice1 Try.underlying22 f0
    obtain ⟨a2, n2, k2, rfl⟩ := trod_slice1 Try.underlying22 f1
    obtain ⟨m, hm, _, _⟩ := DataW.trod_int Try.underlying3 f2
    have hm : c2 = .int .i64 m := by simpa using hm
    subst hm
    obtain ⟨a1', n1', k1', z1, e1, b1, r1, _⟩ := ints_read (k := .i64) Try.underlying22 Try.underlying3 h3 (v := .slice a1 n1 k1) (d := xs[0].1) (p := xs[0].2) ⟨n', by simpa [Value.cells] using f0⟩ ⟨_, _, _, rfl⟩
    obtain ⟨a2', n2', k2', z2, e2, b2, r2, _⟩ := ints_read (k := .i64) Try.underlying22 Try.underlying3 h3 (v := .slice a2 n2 k2) (d := xs[1].1) (p := xs[1].2) ⟨n', by simpa [Value.cells] using f1⟩ ⟨_, _, _, rfl⟩
    cases e1
    cases e2
    exact ⟨a1, a2, n1, k1, n2, k2, z1, z2, m, rfl, b1, b2, r1, r2⟩
end Go.Proofs.Ytcofoknkmkfbkaa
