/- How an argument that is a slice is read: its elements by their index, each with its own cells. -/
import Derived.Test.YtpmkdhaponhacaaDoorK
import Derived.ProofKit
import Derived.Deep.Slices
import Derived.ChangeOld
import Derived.SizedLaws
namespace Go.Proofs.YtpmkdhaponhacaaDoor
open Go.RowKit Go.ChangeShapes Go.WideShapes Go.Deep
set_option linter.unusedVariables false
set_option linter.unusedSimpArgs false

theorem cell_lt {w : World} {b o : Nat} {v : Value} (h : w.cell? ⟨b, o, none⟩ = some v) : b < w.heap.size := by
  unfold World.cell? at h
  by_cases hb : b < w.heap.size
  · exact hb
  · rw [Array.getElem?_eq_none (by simpa using hb)] at h; cases h

/-- a slice, read: 'c i j' is cell j of element i -/
def SliceAt (w : World) (a : Option Addr) (len size : Nat) (c : Nat → Nat → Value) : Prop :=
  ∀ i, i < len → ∃ b off, a = some ⟨b, off, none⟩ ∧ b < w.heap.size ∧ ∀ j, j < size → w.cell? ⟨b, off + (i * size + j), none⟩ = some (c i j)

section
variable {H : Type} {enc : TypeId × Value → H} {P : Program} {w : World}

theorem trod_below {t : TypeId} {v : Value} {d : DataW H} {p : List MemPlace} (h : DataW.Trod enc P w 0 (fun _ => true) true t v d p) : ∀ x ∈ p, x.block < w.heap.size := fun x hx => by
  obtain ⟨n, hn⟩ := h
  exact DataW.trod_lt n _ _ _ hn x hx

theorem slice_reads {t e : TypeId} {v : Value} {d : DataW H} {p : List MemPlace} (ht : P.underlying t = some (.slice e)) (size : Nat) (hs : P.cellsOf e = size) (hpos : 0 < size)
    (h : DataW.Trod enc P w 0 (fun _ => true) true t v d p) (hv : ∃ a len cap, v = .slice a len cap) :
    ∃ (a : Option Addr) (len cap : Nat), v = .slice a len cap ∧ len ≤ maxLen ∧ (∀ i, i < len → ∃ b off cs n x, a = some ⟨b, off, none⟩ ∧ b < w.heap.size ∧ cs.length = size ∧ (∀ j, j < size → w.cell? ⟨b, off + (i * size + j), none⟩ = cs[j]?) ∧ DataW.trod enc P w 0 (fun _ => true) true n e cs = some x) ∧ (len = 0 ∨ ∃ el sp, d = .slice el sp ∧ el.length = len) := by
  obtain ⟨a0, len0, cap0, rfl⟩ := hv
  obtain ⟨fuel, hf⟩ := h
  rcases open_slice ht hf with ⟨hcs, _⟩ | ⟨a, len, cap, m, n, D, Pl, hcs, _, hl, hm, hmm, hdd, hx⟩
  · have : Value.slice a0 len0 cap0 = .slice none 0 0 := by simpa [Value.cells] using hcs
    cases this
    exact ⟨none, 0, 0, rfl, by unfold maxLen; omega, fun i hi => by omega, .inl rfl⟩
  · have : Value.slice a0 len0 cap0 = .slice (some a) len cap := by simpa [Value.cells] using hcs
    cases this
    refine ⟨some a, len0, cap0, rfl, by omega, fun i hi => ?_, .inr ⟨_, _, (congrArg Prod.fst hdd), by simp⟩⟩
    obtain ⟨cs', hc, hd⟩ := hx i (by simp at hmm; omega)
    rw [hs] at hc
    obtain ⟨_, hlen, hc'⟩ := World.cells?_some hc
    have hspot : a.spot = none := by
      obtain ⟨b, off, spot⟩ := a
      cases spot with
      | none => rfl
      | some s =>
        exfalso
        have c0 := (hx 0 (by simp at hmm; omega))
        obtain ⟨cs0, h0, _⟩ := c0
        rw [hs] at h0
        obtain ⟨_, hl0, hc0⟩ := World.cells?_some h0
        have := hc0 0 hpos
        rw [Nat.zero_mul] at this
        have e : w.cell? ⟨b, off, some s⟩ = cs0[0]? := by simpa [Addr.add] using this
        rw [List.getElem?_eq_getElem (by omega)] at e
        have := World.cell?_spot e
        cases this
    obtain ⟨b, off, spot⟩ := a
    simp only at hspot
    subst hspot
    have hcell : ∀ j, j < size → w.cell? ⟨b, off + (i * size + j), none⟩ = cs'[j]? := fun j hj => by
      have := hc' j hj
      rw [add_add, Go.WideShapes.add_plain] at this
      exact this
    refine ⟨b, off, cs', n, _, rfl, ?_, hlen, hcell, hd⟩
    have := hcell 0 hpos
    rw [List.getElem?_eq_getElem (by omega)] at this
    exact cell_lt this

theorem ints_read {t e : TypeId} {k : IntKind} {v : Value} {d : DataW H} {p : List MemPlace} (ht : P.underlying t = some (.slice e)) (he : P.underlying e = some (.int k)) (hs : P.cellsOf e = 1)
    (h : DataW.Trod enc P w 0 (fun _ => true) true t v d p) (hv : ∃ a len cap, v = .slice a len cap) :
    ∃ (a : Option Addr) (len cap : Nat) (z : Nat → Int), v = .slice a len cap ∧ len ≤ maxLen ∧ (∀ i, i < len → ∃ b off, a = some ⟨b, off, none⟩ ∧ b < w.heap.size ∧ w.cell? ⟨b, off + i, none⟩ = some (.int k (z i))) ∧ (∀ i, i < len → (Lit.int k (z i)).wf = true) ∧ (len = 0 ∨ ∃ el sp, d = .slice el sp ∧ el.length = len) := by
  obtain ⟨a, len, cap, rfl, hl, hr, hd0⟩ := slice_reads ht 1 hs (by omega) h hv
  have key : ∀ i, i < len → ∃ x : Int, (∃ b off, a = some ⟨b, off, none⟩ ∧ b < w.heap.size ∧ w.cell? ⟨b, off + i, none⟩ = some (.int k x)) ∧ (Lit.int k x).wf = true := fun i hi => by
    obtain ⟨b, off, cs, n, x, rfl, hb, hlen, hc, hd⟩ := hr i hi
    obtain ⟨m, rfl, _, hw⟩ := DataW.trod_int he hd
    refine ⟨m, ⟨b, off, rfl, hb, ?_⟩, hw⟩
    have := hc 0 (by omega)
    simpa using this
  obtain ⟨z, hz⟩ := choose_lt key
  exact ⟨a, len, cap, z, rfl, hl, fun i hi => (hz i hi).1, fun i hi => (hz i hi).2, hd0⟩
/-- how long a slice that came in can be -/
theorem len_bound {P : Program} {ts : List TypeId} {ds : List (DataW H)} {j : Nat} {t e : TypeId} {d : DataW H} {len n : Nat} (hsz : (DataW.weightsEach P ts ds).all (· ≤ reachBytes) = true) (ht : ts[j]? = some t) (hd : ds[j]? = some d) (hu : P.underlying t = some (.slice e)) (hb : P.bytesOf e = n)
    (h : len = 0 ∨ ∃ el sp, d = .slice el sp ∧ el.length = len) : len * n ≤ 140737488351232 := by
  rcases h with rfl | ⟨el, sp, rfl, rfl⟩
  · omega
  · have := sized_slice hsz ht hd hu
    rw [hb] at this
    have h2 : el.length * n ≤ (el.length + sp.length) * n := Nat.mul_le_mul_right _ (by omega)
    have h3 : reachBytes = 140737488351232 := by decide
    omega
end
end Go.Proofs.YtpmkdhaponhacaaDoor
