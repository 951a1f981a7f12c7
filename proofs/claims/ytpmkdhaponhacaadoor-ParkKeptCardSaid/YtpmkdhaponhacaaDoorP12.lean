/- The plain law: what a giving and a taking leave; the rows. -/
import Derived.Test.YtpmkdhaponhacaaDoorP11
namespace Go.Proofs.YtpmkdhaponhacaaDoor
open Go.RowKit Go.ChangeShapes Go.WideShapes Go.ChangeAt
set_option linter.unusedVariables false
set_option linter.unusedSimpArgs false
structure Gv (q q' : Q) (k : Nat) : Prop where
  cm : Cm q'
  n : q'.n = q.n
  work : q'.work = wrap64 (q.work + 1)
  ev : wholeF q k 0 = ((if q.idle = 0 then 0 else 1, if q.idle = 0 then 0 else Lib.ctz 64 q.idle), q')
  pk : ∀ j, j < q.n → (q'.th j).pk = (if q.idle ≠ 0 ∧ j = Lib.ctz 64 q.idle then false else (q.th j).pk)
theorem gv {q : Q} (h : Cm q) {k : Nat} (hk : k < q.n) (hp : (q.th k).pk = false) : ∃ q', Gv q q' k := by
  have hw := wf_whole h.wf k 0
  have n1 := h.n1
  have n2 := h.wf.n2
  by_cases hi : q.idle = 0
  · obtain ⟨y, y1, y2, e⟩ := give0 h hk hp hi
    rw [e] at hw
    have hpk : ∀ j, ((((q.setW (wrap64 (q.work + 1))).setS (wrap64 (q.seq + 1))).setT k y).th j).pk = (q.th j).pk := fun j => by
      by_cases ej : j = k
      · subst ej; rw [setT_at]; exact y2
      · rw [setT_ne _ _ _ _ ej]; rfl
    refine ⟨_, ⟨hw, fun j hj => ?_, fun j hj => ?_, ?_, n1⟩, rfl, rfl, ?_, fun j hj => ?_⟩
    · by_cases ej : j = k
      · subst ej; rw [setT_at]; exact y1
      · rw [setT_ne _ _ _ _ ej]; exact h.no j hj
    · rw [hpk]; exact h.bit j hj
    · rw [hpk]; exact h.p0
    · rw [e, if_pos hi, if_pos hi]
    · rw [if_neg (fun c => c.1 hi)]; exact hpk j
  · obtain ⟨y, y1, y2, e⟩ := give1 h hk hp hi
    rw [e] at hw
    obtain ⟨c8, cb, cl⟩ := ctz_at q.idle h.wf.lt hi
    have hev : wholeF q k 0 = _ := e
    generalize hC : Lib.ctz 64 q.idle = c at *
    have hcn : c < q.n := by
      by_cases hcn : c < q.n
      · exact hcn
      · rw [h.wf.out c c8 (by omega)] at cb; cases cb
    have hne : c ≠ k := by rintro rfl; rw [h.bit c hk, hp] at cb; cases cb
    have hpk : ∀ j, (((((((q.setW (wrap64 (q.work + 1))).setS (wrap64 (q.seq + 1))).setI (clr q.idle c)).setT c ((q.th c).setP false))).setT k y).th j).pk = (if j = c then false else (q.th j).pk) := fun j => by
      by_cases ej : j = k
      · subst ej; rw [setT_at, if_neg (Ne.symm hne)]; exact y2
      · rw [setT_ne _ _ _ _ ej]
        by_cases ec : j = c
        · subst ec; rw [setT_at, if_pos rfl]; rfl
        · rw [setT_ne _ _ _ _ ec, if_neg ec]; rfl
    refine ⟨_, ⟨hw, fun j hj => ?_, fun j hj => ?_, ?_, n1⟩, rfl, rfl, ?_, fun j hj => ?_⟩
    · by_cases ej : j = k
      · subst ej; rw [setT_at]; exact y1
      · rw [setT_ne _ _ _ _ ej]
        by_cases ec : j = c
        · subst ec; rw [setT_at]; exact h.no j hj
        · rw [setT_ne _ _ _ _ ec]; exact h.no j hj
    · rw [hpk]
      show (clr q.idle c).testBit j = _
      have hj8 : j < 8 := by have : j < q.n := hj; omega
      rw [clr_at _ h.wf.lt c c8 j hj8, h.bit j hj]
      by_cases ec : j = c
      · rw [if_pos ec, decide_eq_true ec]; rfl
      · rw [if_neg ec, decide_eq_false ec]; rfl
    · rw [hpk]
      by_cases ec : 0 = c
      · rw [if_pos ec]
      · rw [if_neg ec]; exact h.p0
    · rw [hev, if_neg hi, if_neg hi, hC]
    · rw [hpk]
      by_cases ec : j = c
      · rw [if_pos ec, hC, if_pos ⟨hi, ec⟩]
      · rw [if_neg ec, hC, if_neg (fun x => ec x.2)]
structure Tk (q q' : Q) (k : Nat) : Prop where
  cm : Cm q'
  n : q'.n = q.n
  work : q'.work = (if 0 < q.work then wrap64 (q.work - 1) else q.work)
  ev : wholeF q k 1 = ((if 0 < q.work then 2 else 3, 0), q')
  pk : ∀ j, j < q.n → (q'.th j).pk = (if ¬ 0 < q.work ∧ j = k then true else (q.th j).pk)
theorem tk {q : Q} (h : Cm q) {k : Nat} (hk : k < q.n) (hk0 : k ≠ 0) (hp : (q.th k).pk = false) : ∃ q', Tk q q' k := by
  have hw := wf_whole h.wf k 1
  have n1 := h.n1
  have n2 := h.wf.n2
  by_cases hi : 0 < q.work
  · obtain ⟨y, y1, y2, e⟩ := take2 h hk hk0 hp hi
    rw [e] at hw
    have hpk : ∀ j, (((q.setW (wrap64 (q.work - 1))).setT k y).th j).pk = (q.th j).pk := fun j => by
      by_cases ej : j = k
      · subst ej; rw [setT_at]; exact y2
      · rw [setT_ne _ _ _ _ ej]; rfl
    refine ⟨_, ⟨hw, fun j hj => ?_, fun j hj => ?_, ?_, n1⟩, rfl, ?_, ?_, fun j hj => ?_⟩
    · by_cases ej : j = k
      · subst ej; rw [setT_at]; exact y1
      · rw [setT_ne _ _ _ _ ej]; exact h.no j hj
    · rw [hpk]; exact h.bit j hj
    · rw [hpk]; exact h.p0
    · rw [if_pos hi]; rfl
    · rw [e, if_pos hi]
    · rw [if_neg (fun c => c.1 hi)]; exact hpk j
  · obtain ⟨y, y1, y2, e⟩ := take3 h hk hk0 hp hi
    rw [e] at hw
    have hpk : ∀ j, (((q.setI (bset q.idle k)).setT k y).th j).pk = (if j = k then true else (q.th j).pk) := fun j => by
      by_cases ej : j = k
      · subst ej; rw [setT_at, if_pos rfl]; exact y2
      · rw [setT_ne _ _ _ _ ej, if_neg ej]; rfl
    refine ⟨_, ⟨hw, fun j hj => ?_, fun j hj => ?_, ?_, n1⟩, rfl, ?_, ?_, fun j hj => ?_⟩
    · by_cases ej : j = k
      · subst ej; rw [setT_at]; exact y1
      · rw [setT_ne _ _ _ _ ej]; exact h.no j hj
    · rw [hpk]
      show (bset q.idle k).testBit j = _
      have hj8 : j < 8 := by have : j < q.n := hj; omega
      rw [bset_at _ h.wf.lt k (by omega) j hj8, h.bit j hj]
      by_cases ec : j = k
      · rw [if_pos ec, decide_eq_true ec]; rfl
      · rw [if_neg ec, decide_eq_false ec]; rfl
    · rw [hpk, if_neg (Ne.symm hk0)]; exact h.p0
    · rw [if_neg hi]; rfl
    · rw [e, if_neg hi]
    · rw [hpk]
      by_cases ec : j = k
      · rw [if_pos ec, if_pos ⟨hi, ec⟩]
      · rw [if_neg ec, if_neg (fun x => ec x.2)]
/-- the least that is parked, of those from j on -/
def Lst (q : Q) (j s : Nat) : Prop := (s = 0 ∧ ∀ i, j ≤ i → i < q.n → (q.th i).pk = false) ∨ (j ≤ s ∧ s < q.n ∧ (q.th s).pk = true ∧ ∀ i, j ≤ i → i < s → (q.th i).pk = false)
theorem lst_top (q : Q) : Lst q q.n 0 := .inl ⟨rfl, fun i h1 h2 => by omega⟩
theorem lst_yes {q : Q} {j s : Nat} (h : Lst q (j + 1) s) (hj : j < q.n) (hp : (q.th j).pk = true) : Lst q j j := .inr ⟨Nat.le_refl _, hj, hp, fun i h1 h2 => by omega⟩
theorem lst_no {q : Q} {j s : Nat} (h : Lst q (j + 1) s) (hp : (q.th j).pk = false) : Lst q j s := by
  rcases h with ⟨h1, h2⟩ | ⟨h1, h2, h3, h4⟩
  · refine .inl ⟨h1, fun i a b => ?_⟩
    by_cases e : i = j
    · rw [e]; exact hp
    · exact h2 i (by omega) b
  · refine .inr ⟨by omega, h2, h3, fun i a b => ?_⟩
    by_cases e : i = j
    · rw [e]; exact hp
    · exact h4 i (by omega) b
theorem lst_end {q : Q} (h : Cm q) {s : Nat} (hl : Lst q 1 s) : s = (if q.idle = 0 then 0 else Lib.ctz 64 q.idle) ∧ (0 < s ↔ q.idle ≠ 0) := by
  have n2 := h.wf.n2
  by_cases hi : q.idle = 0
  · rw [if_pos hi]
    have hs : s = 0 := by
      rcases hl with ⟨h1, h2⟩ | ⟨h1, h2, h3, h4⟩
      · exact h1
      · rw [← h.bit s h2, hi, Nat.zero_testBit] at h3; cases h3
    exact ⟨hs, by omega⟩
  · rw [if_neg hi]
    obtain ⟨c8, cb, cl⟩ := ctz_at q.idle h.wf.lt hi
    generalize Lib.ctz 64 q.idle = c at *
    have hcn : c < q.n := by
      by_cases hcn : c < q.n
      · exact hcn
      · rw [h.wf.out c c8 (by omega)] at cb; cases cb
    have c1 : 1 ≤ c := by
      by_cases c1 : 1 ≤ c
      · exact c1
      · obtain rfl : c = 0 := by omega
        rw [h.bit 0 hcn, h.p0] at cb; cases cb
    rw [h.bit c hcn] at cb
    rcases hl with ⟨h1, h2⟩ | ⟨h1, h2, h3, h4⟩
    · rw [h2 c c1 hcn] at cb; cases cb
    · have hsc : s = c := by
        by_cases e1 : s < c
        · have := cl s (by omega) e1
          rw [h.bit s h2, h3] at this; cases this
        · by_cases e2 : c < s
          · rw [h4 c c1 e2] at cb; cases cb
          · omega
      exact ⟨hsc, by constructor <;> intro _ <;> first | exact hi | omega⟩
/-- the rows, as they lie -/
def Rws (w : World) (a : Option Addr) (len : Nat) (t : Nat → Int) (o : Nat → Bool) : Prop :=
  ∀ i, i < len → ∃ b off, a = some ⟨b, off, none⟩ ∧ b < w.heap.size ∧ w.cell? ⟨b, off + i * 2, none⟩ = some (.int .i64 (t i)) ∧ w.cell? ⟨b, off + i * 2 + 1, none⟩ = some (.bool (o i))
theorem rows_read {H : Type} {enc : TypeId × Value → H} {w : World} {v : Value} {d : DataW H} {p : List MemPlace} (h : DataW.Trod enc Tryd.prog w 0 (fun _ => true) true 22 v d p) (hv : ∃ a len cap, v = .slice a len cap) :
    ∃ (a : Option Addr) (len cap : Nat) (t : Nat → Int) (o : Nat → Bool), v = .slice a len cap ∧ Rws w a len t o ∧ (len = 0 ∨ ∃ el sp, d = .slice el sp ∧ el.length = len) := by
  obtain ⟨a, len, cap, rfl, _, hr, hd0⟩ := slice_reads Tryd.underlying22 2 (by kernel_rfl) (by omega) h hv
  have key : ∀ i, i < len → ∃ x : Int × Bool, ∃ b off, a = some ⟨b, off, none⟩ ∧ b < w.heap.size ∧ w.cell? ⟨b, off + i * 2, none⟩ = some (.int .i64 x.1) ∧ w.cell? ⟨b, off + i * 2 + 1, none⟩ = some (.bool x.2) := fun i hi => by
    obtain ⟨b, off, cs, n, x, rfl, hb, hlen, hc, hd⟩ := hr i hi
    obtain ⟨xs, n', rfl, _, _, hxs, hf⟩ := DataW.trod_struct Tryd.underlying28 hd
    have hxl : xs.length = 2 := hxs
    match cs, hlen with
    | [c0, c1], _ =>
      have f0 := hf 0 _ rfl
      have f1 := hf 1 _ rfl
      rw [List.getElem?_eq_getElem (by omega)] at f0 f1
      have h3 := cells3
      have h4 := cells4
      obtain ⟨b0, e0, _, _⟩ := DataW.trod_int Tryd.underlying3 f0
      obtain ⟨b1, e1, _⟩ := DataW.trod_bool Tryd.underlying4 f1
      have e0' : c0 = .int .i64 b0 := by simpa [h3] using e0
      have e1' : c1 = .bool b1 := by simpa [h3, h4] using e1
      have k0 := hc 0 (by omega)
      have k1 := hc 1 (by omega)
      refine ⟨(b0, b1), b, off, rfl, hb, ?_, ?_⟩
      · rw [← e0']; simpa using k0
      · rw [← e1', show off + i * 2 + 1 = off + (i * 2 + 1) by omega]; simpa using k1
  obtain ⟨z, hz⟩ := Go.Deep.choose_lt key
  exact ⟨a, len, cap, fun i => (z i).1, fun i => (z i).2, rfl, hz, hd0⟩
/-- which thread a number names -/
theorem modn (x : Int) (n : Nat) (h1 : 2 ≤ n) (h2 : n ≤ 8) : ∃ k : Nat, k < n ∧ wrap64 ((IntKind.u64.wrap x).tmod (n : Int)) = (k : Int) := by
  have h0 : 0 ≤ IntKind.u64.wrap x := by rw [IntKind.wrap_u64]; omega
  generalize IntKind.u64.wrap x = y at h0
  have h3 := Int.tmod_nonneg (n : Int) h0
  have h4 := Int.tmod_lt_of_pos y (show (0 : Int) < (n : Int) by omega)
  refine ⟨(y.tmod n).toNat, by omega, ?_⟩
  unfold wrap64; omega
end Go.Proofs.YtpmkdhaponhacaaDoor
