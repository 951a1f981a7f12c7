/- PidsPlay's walk. -/
import Derived.Test.YtijhgegdcpmppaaP6
import Derived.Test.YtijhgegdcpmppaaO
namespace Go.Proofs.Ytijhgegdcpmppaa
open Go.RowKit
set_option linter.unusedVariables false
set_option linter.unusedSimpArgs false

/-- what holds of the world between two steps of the play -/
structure Inv (w wr : World) (W0 B1 b bm bp bg : Nat) (t m : Tb) (v : Value) (L : List Int) : Prop where
  ok : t.Ok
  okm : m.Ok
  ht : IsTb wr b t
  hr : IsRf wr bm bp bg m
  own : Own wr B1 v L
  el : ∀ x ∈ L, I64 x
  bel : Below W0 w wr
  w0 : W0 ≤ w.heap.size
  sz : B1 ≤ wr.heap.size
  lob : W0 ≤ b
  lop : W0 ≤ bp
  log : W0 ≤ bg
  lo1 : W0 ≤ B1
  hib : b < B1
  him : bm < B1
  hip : bp < B1
  hig : bg < B1
  nm : b ≠ bm
  np : b ≠ bp
  ng : b ≠ bg

section
variable {w wr w1 : World} {W0 B1 b bm bp bg : Nat} {t m t' m' : Tb} {v : Value} {L : List Int}
theorem Inv.tab (I : Inv w wr W0 B1 b bm bp bg t m v L) (h : IsTb w1 b t') (g : wr.grownBy w1 (some b)) (ok : t'.Ok) : Inv w w1 W0 B1 b bm bp bg t' m v L :=
  { I with
    ok := ok, ht := h
    hr := I.hr.kept g (by have := I.nm; simp; omega) (by have := I.np; simp; omega) (by have := I.ng; simp; omega)
    own := own_kept I.own g (fun k hk e => by have := (World.ownsRow.lt I.own k hk).1; have := I.hib; cases e; omega)
    bel := I.bel.trans (gb_below g (Nat.le_trans I.w0 I.bel.size) (fun k e => by cases e; exact I.lob))
    sz := Nat.le_trans I.sz g.size }
theorem Inv.ref (I : Inv w wr W0 B1 b bm bp bg t m v L) (h : IsRf w1 bm bp bg m') (g : Fr2 bp bg wr w1) (ok : m'.Ok) : Inv w w1 W0 B1 b bm bp bg t m' v L :=
  { I with
    okm := ok, hr := h
    ht := World.rowIs.of_block I.ht (g.block b (World.rowIs.lt I.ht) I.np I.ng)
    own := by
      obtain ⟨h1, h2⟩ := I.own
      refine ⟨h1, ?_⟩
      rcases h2 with h2 | ⟨g', cap, cur, e, hb, hg, rest⟩
      · exact .inl h2
      · have := I.hip; have := I.hig
        exact .inr ⟨g', cap, cur, e, hb, (g.block g' (Array.getElem?_eq_some_iff.1 hg).1 (by omega) (by omega)).trans hg, rest⟩
    bel := I.bel.trans (g.below (Nat.le_trans I.w0 I.bel.size) I.lop I.log)
    sz := Nat.le_trans I.sz g.size }
theorem Inv.below (I : Inv w wr W0 B1 b bm bp bg t m v L) (g : Below wr.heap.size wr w1) : Inv w w1 W0 B1 b bm bp bg t m v L :=
  { I with
    ht := row_below I.ht g (World.rowIs.lt I.ht)
    hr := I.hr.below g I.hr.m.lt I.hr.p.lt I.hr.g.lt
    own := own_below I.own g (Nat.le_refl _)
    bel := I.bel.trans (g.mono (Nat.le_trans I.w0 I.bel.size))
    sz := Nat.le_trans I.sz g.size }
theorem Inv.app (I : Inv w wr W0 B1 b bm bp bg t m v L) {v' : Value} {x : Int} {o : Obj} (ho : w1.ownsRow B1 2 1 v' (L.length + 1) (L.map (Value.int .i64) ++ [.int .i64 x])) (g : (wr.alloc o).grownBy w1 v.ownBlock) (hx : I64 x) : Inv w w1 W0 B1 b bm bp bg t m v' (L ++ [x]) := by
  have hlt : ∀ k, v.ownBlock = some k → B1 ≤ k ∧ k < wr.heap.size := World.ownsRow.lt I.own
  have hb : Below B1 wr w1 := ((Below.refl B1 wr).alloc I.sz o).grown g (by have := I.sz; simp; omega) (fun k hk => (hlt k hk).1)
  exact { I with
    ht := row_below I.ht hb I.hib
    hr := I.hr.below hb I.him I.hip I.hig
    own := by show w1.ownsRow _ _ _ _ _ _; simpa using ho
    el := fun y hy => by
      rcases List.mem_append.1 hy with h | h
      · exact I.el y h
      · obtain rfl : y = x := by simpa using h
        exact hx
    bel := I.bel.trans (hb.mono I.lo1)
    sz := Nat.le_trans I.sz hb.size }
end

/-- the script: an element's three cells -/
def Ops (w : World) (a : Option Addr) (len : Nat) (al kn : Nat → Bool) (pid : Nat → Int) : Prop :=
  ∀ i, i < len → ∃ b off, a = some ⟨b, off, none⟩ ∧ b < w.heap.size ∧ w.cell? ⟨b, off + i * 3, none⟩ = some (.bool (al i)) ∧ w.cell? ⟨b, off + i * 3 + 1, none⟩ = some (.bool (kn i)) ∧ w.cell? ⟨b, off + i * 3 + 2, none⟩ = some (.int .i64 (pid i)) ∧ I64 (pid i)

theorem ops_read {H : Type} {enc : TypeId × Value → H} {w : World} {v : Value} {d : DataW H} {p : List MemPlace} (h : DataW.Trod enc Try.prog w 0 (fun _ => true) true 36 v d p) (hv : ∃ a len cap, v = .slice a len cap) :
    ∃ (a : Option Addr) (len cap : Nat) (al kn : Nat → Bool) (pid : Nat → Int), v = .slice a len cap ∧ Ops w a len al kn pid ∧ (len = 0 ∨ ∃ el sp, d = .slice el sp ∧ el.length = len) := by
  obtain ⟨a, len, cap, rfl, _, hr, hd0⟩ := slice_reads Try.underlying36 3 (by kernel_rfl) (by omega) h hv
  have key : ∀ i, i < len → ∃ x : Bool × Bool × Int, ∃ b off, a = some ⟨b, off, none⟩ ∧ b < w.heap.size ∧ w.cell? ⟨b, off + i * 3, none⟩ = some (.bool x.1) ∧ w.cell? ⟨b, off + i * 3 + 1, none⟩ = some (.bool x.2.1) ∧ w.cell? ⟨b, off + i * 3 + 2, none⟩ = some (.int .i64 x.2.2) ∧ I64 x.2.2 := fun i hi => by
    obtain ⟨b, off, cs, n, x, rfl, hb, hlen, hc, hd⟩ := hr i hi
    obtain ⟨xs, n', rfl, _, _, hxs, hf⟩ := DataW.trod_struct Try.underlying41 hd
    have hxl : xs.length = 3 := hxs
    match cs, hlen with
    | [c0, c1, c2], _ =>
      have f0 := hf 0 _ rfl
      have f1 := hf 1 _ rfl
      have f2 := hf 2 _ rfl
      rw [List.getElem?_eq_getElem (by omega)] at f0 f1 f2
      obtain ⟨b0, e0, _⟩ := DataW.trod_bool Try.underlying4 f0
      obtain ⟨b1, e1, _⟩ := DataW.trod_bool Try.underlying4 f1
      obtain ⟨n2, e2, _, hw⟩ := DataW.trod_int Try.underlying2 f2
      have h4 : Try.prog.cellsOf 4 = 1 := by kernel_rfl
      have h2 : Try.prog.cellsOf 2 = 1 := by kernel_rfl
      have e0' : c0 = .bool b0 := by simpa [h4] using e0
      have e1' : c1 = .bool b1 := by simpa [h4] using e1
      have e2' : c2 = .int .i64 n2 := by simpa [h2] using e2
      have k0 := hc 0 (by omega)
      have k1 := hc 1 (by omega)
      have k2 := hc 2 (by omega)
      refine ⟨(b0, b1, n2), b, off, rfl, hb, ?_, ?_, ?_, ?_⟩
      · rw [← e0']; simpa using k0
      · rw [← e1', show off + i * 3 + 1 = off + (i * 3 + 1) by omega]; simpa using k1
      · rw [← e2', show off + i * 3 + 2 = off + (i * 3 + 2) by omega]; simpa using k2
      · exact bounds_i64 hw
  obtain ⟨z, hz⟩ := Go.Deep.choose_lt key
  exact ⟨a, len, cap, fun i => (z i).1, fun i => (z i).2.1, fun i => (z i).2.2, rfl, hz, hd0⟩

theorem alloc_vals (t : Tb) (ok : t.Ok) : (t.allocE = 0 ∨ t.allocE = 7) ∧ I64 t.allocV := by
  unfold Tb.allocE Tb.allocV
  split
  · rename_i h
    have := t.num_pos ok t.first h
    exact ⟨.inl rfl, by unfold I64; omega⟩
  · exact ⟨.inr rfl, by unfold I64; omega⟩

set_option maxRecDepth 100000 in
set_option maxHeartbeats 4000000 in
theorem play_any (a : Option Addr) (len cap : Nat) (al kn : Nat → Bool) (pid : Nat → Int) (ask : Int) (w : World) (hr : Ops w a len al kn pid) (hlen : len * 16 ≤ 140737488351232) (hask : ask ≤ 9223372036854775807) :
    Calls Try.prog 4 #[.slice a len cap, .int .i64 ask] w fun e w' => e = .returned (.bool true) ∧ Below w.heap.size w w' := by
  obtain ⟨i0, hi, hz0, hz1, hz2⟩ := info2'
  go_enter Try.func4, Try.ntmps4
  go_wp2_with fail
  refine (lives_any _).mono ?_
  rintro e w1 ⟨rfl, g1⟩
  go_wp2_with fail
  refine (new_any _).mono ?_
  rintro e w2 ⟨rfl, h2, g2⟩
  go_wp2_with fail
  refine (rnew_any _).mono ?_
  rintro e w3 ⟨bm, bp, bg, rfl, h3, b1, b2, b3, g3⟩
  have s1 := g1.size
  have s2 := World.rowIs.lt h2
  have I0 : Inv w w3 w.heap.size w3.heap.size w1.heap.size bm bp bg Tb.new Tb.new (.slice none 0 0) [] :=
    { ok := new_ok, okm := new_ok, ht := row_kept h2 g3 (by simp), hr := h3, own := World.ownsRow_nil _ _ _ _, el := fun x hx => by cases hx
      bel := gb_below (gb_trans (gb_trans g1 g2) g3) (Nat.le_refl _) (fun k h => by cases h)
      w0 := Nat.le_refl _, sz := Nat.le_refl _, lob := s1, lop := by omega, log := by omega, lo1 := by have := g3.size; omega
      hib := by have := g3.size; omega, him := h3.m.lt, hip := h3.p.lt, hig := h3.g.lt, nm := by omega, np := by omega, ng := by omega }
  generalize w3.heap.size = B1 at I0
  generalize w1.heap.size = b at I0 ⊢
  clear h2 h3 g1 g2 g3 b1 b2 b3 s1 s2
  go_wp2_with fail
  go_loopw [7, 8] (fun v k wr => ∃ (n : Nat) (t : Tb) (L : List Int), n ≤ len ∧ k = .int .i64 n ∧ L.length ≤ n ∧ Inv w wr w.heap.size B1 b bm bp bg t t v L) (fun v k wr => len - (intOf k).toNat)
  case atStart => exact ⟨0, _, [], by omega, rfl, by simp, I0⟩
  case round =>
    clear I0
    obtain ⟨n, t, L, hn, rfl, hL, I⟩ := hrel
    by_cases hlt : n < len
    · obtain ⟨sb, so, rfl, hsb, k0, k1, k2, hpid⟩ := hr n hlt
      have c0 := (I.bel.cell (p := ⟨sb, so + n * 3, none⟩) hsb).trans k0
      have c1 := (I.bel.cell (p := ⟨sb, so + n * 3 + 1, none⟩) hsb).trans k1
      have c2 := (I.bel.cell (p := ⟨sb, so + n * 3 + 2, none⟩) hsb).trans k2
      clear k0 k1 k2
      have HP := Lib.hid hpid
      have HR := Lib.hid hr
      clear hpid hr
      cases hal : al n
      · rw [hal] at c0
        clear hal
        obtain ⟨va, vc, rfl⟩ := own_slice I.own
        go_wp2_with fail
        refine (which_any _ _ _ L va vc B1 _ I.own HP.out I.el (by omega)).mono ?_
        rintro e w4 ⟨p, rfl, hp, b4⟩
        have I4 := I.below b4
        have hp2 : p ≤ 9223372036854775807 := hp.2
        clear c0 c1 c2 b4 I hp
        go_wp2_with fail
        refine (free_any b t p _ I4.ht I4.ok hp2).mono ?_
        rintro e w5 ⟨rfl, h5, g5⟩
        have I5 := I4.tab h5 g5 (free_ok t I4.ok p)
        have ok4 := I4.okm
        clear h5 g5 I4
        go_wp2_with fail
        refine (rfree_any bm bp bg t p _ I5.hr I5.okm).mono ?_
        rintro e w6 ⟨rfl, h6, g6⟩
        have I6 := I5.ref h6 g6 (free_ok t ok4 p)
        clear h6 g6 I5 ok4
        have hq : (((t.freeT p).live) != ((((t.freeT p).pids 32).length : Nat) : Int)) = false := by rw [pids_len _ I6.ok]; simp
        go_wp2_with fail
        refine (slot_any b _ ask _ I6.ht I6.ok hask).mono ?_
        rintro e w6 ⟨rfl, rfl⟩
        go_wp2_with fail
        refine (rslot_any bm bp bg _ ask _ I6.hr I6.okm).mono ?_
        rintro e w6 ⟨rfl, rfl⟩
        go_wp2_with (first | (go_at_call 18; refine (live_any b _ ask _ I6.ht I6.ok hask).mono ?_; rintro e w6 ⟨rfl, rfl⟩) | (go_at_call 12; refine (len_any b _ _ I6.ht).mono ?_; rintro e w6 ⟨rfl, rfl⟩) | (go_at_call 19; refine (rall_any bm bp bg _ _ I6.hr I6.okm).mono ?_; rintro e w7 ⟨v7, rfl, o7, b7⟩; obtain ⟨a7, c7, rfl⟩ := own_slice o7))
        exact ⟨⟨n + 1, _, _, by omega, by go_num, by omega, I6.below b7⟩, by simp [intOf]; omega⟩
      · rw [hal] at c0
        clear hal
        obtain ⟨ve, vi⟩ := alloc_vals t I.ok
        have HV := Lib.hid vi
        clear vi
        go_wp2_with fail
        refine (alloc_any b t _ I.ht I.ok).mono ?_
        rintro e w4 ⟨rfl, h4, g4⟩
        have I4 := I.tab h4 g4 (alloc_ok t I.ok)
        go_wp2_with fail
        refine (ralloc_any bm bp bg t _ I4.hr I4.okm).mono ?_
        rintro e w5 ⟨rfl, h5, g5⟩
        have I5 := I4.ref h5 g5 (alloc_ok t I.ok)
        clear I4 h4 g4 h5 g5 I c0 c1 c2
        rcases ve with ve | ve
        · have ho : w5.ownsRow B1 2 1 u7 L.length (L.map (Value.int .i64)) := I5.own
          have hsz := I5.sz
          have hb16 : (L.length + 1) * 8 ≤ 140737488355328 := by omega
          have HI := Lib.hid I5
          clear I5
          go_wp2_with (at_builtin; refine wpList_append_own _ rfl _ _ 39 rfl B1 2 i0 (.int .i64 0) 1 8 Try.underlying39 hi hz0 hz1 hz2 rfl (by decide) _ _ _ rfl (ho.alloc _) ⟨w5.heap.size, 0, none⟩ 1 1 [.int .i64 t.allocV] rfl rfl (cell_one_new _ _ _) (by simp [Value.oneCell']) (by unfold maxLen; omega) hb16 (by simp; omega) ?_; intro v8 w8 ho8 g8 _; have I8 := Inv.app HI.out ho8 g8 HV.out; clear ho8 g8 ho; generalize hX : L ++ [t.allocV] = L8 at I8; have HX := Lib.hid hX; clear hX HI)
          have hq : (((t.allocT).live) != ((((t.allocT).pids 32).length : Nat) : Int)) = false := by rw [pids_len _ I8.ok]; simp
          go_wp2_with fail
          refine (slot_any b _ ask _ I8.ht I8.ok hask).mono ?_
          rintro e w6 ⟨rfl, rfl⟩
          go_wp2_with fail
          refine (rslot_any bm bp bg _ ask _ I8.hr I8.okm).mono ?_
          rintro e w6 ⟨rfl, rfl⟩
          go_wp2_with (first | (go_at_call 18; refine (live_any b _ ask _ I8.ht I8.ok hask).mono ?_; rintro e w6 ⟨rfl, rfl⟩) | (go_at_call 12; refine (len_any b _ _ I8.ht).mono ?_; rintro e w6 ⟨rfl, rfl⟩) | (go_at_call 19; refine (rall_any bm bp bg _ _ I8.hr I8.okm).mono ?_; rintro e w7 ⟨v7, rfl, o7, b7⟩; obtain ⟨a7, c7, rfl⟩ := own_slice o7))
          exact ⟨⟨n + 1, _, _, by omega, by go_num, by rw [← HX.out]; simp; omega, I8.below b7⟩, by simp [intOf]; omega⟩
        · have hq : (((t.allocT).live) != ((((t.allocT).pids 32).length : Nat) : Int)) = false := by rw [pids_len _ I5.ok]; simp
          go_wp2_with fail
          refine (slot_any b _ ask _ I5.ht I5.ok hask).mono ?_
          rintro e w6 ⟨rfl, rfl⟩
          go_wp2_with fail
          refine (rslot_any bm bp bg _ ask _ I5.hr I5.okm).mono ?_
          rintro e w6 ⟨rfl, rfl⟩
          go_wp2_with (first | (go_at_call 18; refine (live_any b _ ask _ I5.ht I5.ok hask).mono ?_; rintro e w6 ⟨rfl, rfl⟩) | (go_at_call 12; refine (len_any b _ _ I5.ht).mono ?_; rintro e w6 ⟨rfl, rfl⟩) | (go_at_call 19; refine (rall_any bm bp bg _ _ I5.hr I5.okm).mono ?_; rintro e w7 ⟨v7, rfl, o7, b7⟩; obtain ⟨a7, c7, rfl⟩ := own_slice o7))
          exact ⟨⟨n + 1, _, _, by omega, by go_num, by omega, I5.below b7⟩, by simp [intOf]; omega⟩
    · obtain rfl : n = len := by omega
      clear hr
      go_wp2_with fail
      refine (coll_any (some ⟨b, 0, none⟩) (t.pids 32) _ (.inr ⟨b, t, rfl, I.ht, I.ok, rfl⟩)).mono ?_
      rintro e w5 ⟨v5, rfl, o5, b5⟩
      have I5 := I.below b5
      go_wp2_with fail
      refine (rall_any bm bp bg t _ I5.hr I5.okm).mono ?_
      rintro e w6 ⟨v6, rfl, o6, b6⟩
      have I6 := I5.below b6
      have o5' := own_below o5 b6 (Nat.le_refl _)
      obtain ⟨a5, c5, rfl⟩ := own_slice o5'
      obtain ⟨a6, c6, rfl⟩ := own_slice o6
      go_wp2_with fail
      refine (same_any _ _ _ _ _ _ _ _ _ o5' o6 rfl (by have := t.pids_le 32; omega)).mono ?_
      rintro e w7 ⟨rfl, k, rfl⟩
      go_wp2
      go_ret
      exact ⟨rfl, I6.bel.trans (gb_below (gb_drewN w6 k none) (Nat.le_trans I6.w0 I6.bel.size) (fun k h => by cases h))⟩
end Go.Proofs.Ytijhgegdcpmppaa
