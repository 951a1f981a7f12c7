/- SafraTells' walk. -/
import Derived.Test.YtmagenfndbaliaaP6
import Derived.Test.YtmagenfndbaliaaO
namespace Go.Proofs.Ytmagenfndbaliaa
open Go.RowKit Go.ChangeShapes Go.WideShapes Go.Deep
set_option linter.unusedVariables false
set_option linter.unusedSimpArgs false
/-- the script's steps, as they lie -/
def Ops (w : World) (a : Option Addr) (len : Nat) (bl ho : Nat → Bool) (ix : Nat → Int) : Prop :=
  ∀ i, i < len → ∃ b off, a = some ⟨b, off, none⟩ ∧ b < w.heap.size ∧ w.cell? ⟨b, off + i * 3, none⟩ = some (.bool (bl i)) ∧ w.cell? ⟨b, off + i * 3 + 1, none⟩ = some (.bool (ho i)) ∧ w.cell? ⟨b, off + i * 3 + 2, none⟩ = some (.int .i64 (ix i))
theorem ops_read {H : Type} {enc : TypeId × Value → H} {w : World} {v : Value} {d : DataW H} {p : List MemPlace} (h : DataW.Trod enc Try.prog w 0 (fun _ => true) true 22 v d p) (hv : ∃ a len cap, v = .slice a len cap) :
    ∃ (a : Option Addr) (len cap : Nat) (bl ho : Nat → Bool) (ix : Nat → Int), v = .slice a len cap ∧ Ops w a len bl ho ix ∧ (len = 0 ∨ ∃ el sp, d = .slice el sp ∧ el.length = len) := by
  obtain ⟨a, len, cap, rfl, _, hr, hd0⟩ := slice_reads Try.underlying22 3 (by kernel_rfl) (by omega) h hv
  have key : ∀ i, i < len → ∃ x : Bool × Bool × Int, ∃ b off, a = some ⟨b, off, none⟩ ∧ b < w.heap.size ∧ w.cell? ⟨b, off + i * 3, none⟩ = some (.bool x.1) ∧ w.cell? ⟨b, off + i * 3 + 1, none⟩ = some (.bool x.2.1) ∧ w.cell? ⟨b, off + i * 3 + 2, none⟩ = some (.int .i64 x.2.2) := fun i hi => by
    obtain ⟨b, off, cs, n, x, rfl, hb, hlen, hc, hd⟩ := hr i hi
    obtain ⟨xs, n', rfl, _, _, hxs, hf⟩ := DataW.trod_struct Try.underlying33 hd
    have hxl : xs.length = 3 := hxs
    match cs, hlen with
    | [c0, c1, c2], _ =>
      have f0 := hf 0 _ rfl
      have f1 := hf 1 _ rfl
      have f2 := hf 2 _ rfl
      rw [List.getElem?_eq_getElem (by omega)] at f0 f1 f2
      obtain ⟨b0, e0, _⟩ := DataW.trod_bool Try.underlying4 f0
      obtain ⟨b1, e1, _⟩ := DataW.trod_bool Try.underlying4 f1
      obtain ⟨n2, e2, _, _⟩ := DataW.trod_int Try.underlying3 f2
      have h4 : Try.prog.cellsOf 4 = 1 := by kernel_rfl
      have h3 : Try.prog.cellsOf 3 = 1 := by kernel_rfl
      have e0' : c0 = .bool b0 := by simpa [h4] using e0
      have e1' : c1 = .bool b1 := by simpa [h4] using e1
      have e2' : c2 = .int .i64 n2 := by simpa [h4, h3] using e2
      have k0 := hc 0 (by omega)
      have k1 := hc 1 (by omega)
      have k2 := hc 2 (by omega)
      refine ⟨(b0, b1, n2), b, off, rfl, hb, ?_, ?_, ?_⟩
      · rw [← e0']; simpa using k0
      · rw [← e1', show off + i * 3 + 1 = off + (i * 3 + 1) by omega]; simpa using k1
      · rw [← e2', show off + i * 3 + 2 = off + (i * 3 + 2) by omega]; simpa using k2
  obtain ⟨z, hz⟩ := Go.Deep.choose_lt key
  exact ⟨a, len, cap, fun i => (z i).1, fun i => (z i).2.1, fun i => (z i).2.2, rfl, hz, hd0⟩
set_option maxRecDepth 100000 in
set_option maxHeartbeats 4000000 in
theorem tells_any (n : Int) (a : Option Addr) (len cap : Nat) (bl ho : Nat → Bool) (ix : Nat → Int) (w : World) (hr : Ops w a len bl ho ix) (hlen : len ≤ 9223372036854775807) :
    Calls Try.prog 5 #[.int .i64 n, .slice a len cap] w fun e w' => e = .returned (.bool true) ∧ Below w.heap.size w w' := by
  go_enter Try.func5, Try.ntmps5
  go_wp2_with fail
  refine (lives_any _).mono ?_
  rintro e w1 ⟨rfl, g1⟩
  go_wp2_with fail
  refine (sr_new g1 n).mono ?_
  rintro e w2 ⟨b, g, rfl, h2, _, _, _⟩
  go_wp2_with fail
  go_loopw [6] (fun kv wr => ∃ (i : Nat) (r : R), i ≤ len ∧ kv = .int .i64 i ∧ Sr w wr b g r) (fun kv wr => len - (intOf kv).toNat)
  case atStart => exact ⟨0, _, by omega, rfl, h2⟩
  case round =>
    clear h2
    obtain ⟨i, r, hi, rfl, M⟩ := hrel
    by_cases hlt : i < len
    · obtain ⟨sb, so, rfl, hsb, k0, k1, k2⟩ := hr i hlt
      have c0 := (M.bel.cell (p := ⟨sb, so + i * 3, none⟩) hsb).trans k0
      have c2 := (M.bel.cell (p := ⟨sb, so + i * 3 + 2, none⟩) hsb).trans k2
      have hi3 : (i : Int) < (len : Int) := by omega
      have hi0 : (0 : Int) ≤ (i : Int) := by omega
      have HR := Lib.hid hr
      clear k0 k1 k2 hr
      generalize ix i = x at *
      cases hb : bl i
      · rw [hb] at c0
        clear hb
        go_wp2_with fail
        refine (sr_holder M _ rfl).mono ?_
        rintro e w3 ⟨rfl, rfl⟩
        go_wp2_with fail
        refine (sr_go M _ rfl _ rfl).mono ?_
        rintro e w4 ⟨rfl, M4, _⟩
        go_wp2
        exact ⟨⟨i + 1, _, by omega, by go_num, M4⟩, by simp [intOf]; omega⟩
      · rw [hb] at c0
        clear hb
        obtain ⟨e1, r1, he⟩ : ∃ e1 r1, black r x = (e1, r1) := ⟨_, _, rfl⟩
        go_wp2_with fail
        refine (sr_black M x e1 r1 he).mono ?_
        rintro e w4 ⟨rfl, M4, _⟩
        go_wp2
        exact ⟨⟨i + 1, _, by omega, by go_num, M4⟩, by simp [intOf]; omega⟩
    · obtain rfl : i = len := by omega
      clear hr
      go_wp2_with fail
      obtain ⟨K, hK⟩ : ∃ K : Nat, 192 ≤ K := ⟨192, Nat.le_refl _⟩
      have HK := Lib.hid hK
      clear hK
      go_loopw [7] (fun kv wr => ∃ (j : Nat) (r : R), kv = .int .i64 j ∧ Sr w wr b g r ∧ Tel r j) (fun kv wr => K - (intOf kv).toNat)
      case atStart => exact ⟨0, r, rfl, M, tel0 M.ok⟩
      case round =>
        clear M
        obtain ⟨j, r, rfl, M, T⟩ := hrel
        have hj := tel_lt T
        have hn := M.ok.n2
        have hw3 : IntKind.i64.wrap (3 * (r.n : Int)) = 3 * (r.n : Int) := by rw [IntKind.wrap_i64]; omega
        have hj3 : (j : Int) < 3 * (r.n : Int) := by omega
        have hj0 : (0 : Int) ≤ (j : Int) := by omega
        cases ht : r.tells
        · have T2 := tel_go T M.ok ht
          have HM := Lib.hid (And.intro hj hn)
          have HT := Lib.hid T2
          clear T T2 hj hn
          go_wp2_with fail
          refine (sr_size M _ rfl).mono ?_
          rintro e w3 ⟨rfl, rfl⟩
          go_wp2_with fail
          refine (sr_holder M _ rfl).mono ?_
          rintro e w3 ⟨rfl, rfl⟩
          go_wp2_with fail
          refine (sr_go M _ rfl _ ht).mono ?_
          rintro e w4 ⟨rfl, M4, _⟩
          go_wp2
          have hm := HM.out
          have hk := HK.out
          have hwi : wrap64 ((j : Int) + 1) = (j : Int) + 1 := by unfold wrap64; omega
          go_roundw
          case rel => exact ⟨j + 1, _, by rw [hwi]; rfl, M4, HT.out⟩
          case measure => rw [hwi]; simp [intOf]; omega
        · clear T hj hn
          go_wp2_with fail
          refine (sr_size M _ rfl).mono ?_
          rintro e w3 ⟨rfl, rfl⟩
          go_wp2_with fail
          refine (sr_holder M _ rfl).mono ?_
          rintro e w3 ⟨rfl, rfl⟩
          go_wp2_with fail
          refine (sr_go M _ rfl _ ht).mono ?_
          rintro e w4 ⟨rfl, M4, _⟩
          go_wp2
          go_ret
          exact ⟨rfl, M4.bel⟩
end Go.Proofs.Ytmagenfndbaliaa
