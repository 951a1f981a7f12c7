/- SafraSound's walk. -/
import Derived.Test.YtmagenfndbaliaaP8
import Derived.Test.YtmagenfndbaliaaP7
namespace Go.Proofs.Ytmagenfndbaliaa
open Go.RowKit Go.ChangeShapes Go.WideShapes Go.Deep
set_option linter.unusedVariables false
set_option linter.unusedSimpArgs false
/-- the events, as they lie -/
def Evs (w : World) (a : Option Addr) (len : Nat) (z : Nat → Int × Int × Int) : Prop :=
  ∀ i, i < len → ∃ b off, a = some ⟨b, off, none⟩ ∧ b < w.heap.size ∧ w.cell? ⟨b, off + i * 3, none⟩ = some (.int .i64 (z i).1) ∧ w.cell? ⟨b, off + i * 3 + 1, none⟩ = some (.int .i64 (z i).2.1) ∧ w.cell? ⟨b, off + i * 3 + 2, none⟩ = some (.int .i64 (z i).2.2)
theorem evs_read {H : Type} {enc : TypeId × Value → H} {w : World} {v : Value} {d : DataW H} {p : List MemPlace} (h : DataW.Trod enc Try.prog w 0 (fun _ => true) true 39 v d p) (hv : ∃ a len cap, v = .slice a len cap) :
    ∃ (a : Option Addr) (len cap : Nat) (z : Nat → Int × Int × Int), v = .slice a len cap ∧ Evs w a len z ∧ (len = 0 ∨ ∃ el sp, d = .slice el sp ∧ el.length = len) := by
  obtain ⟨a, len, cap, rfl, _, hr, hd0⟩ := slice_reads Try.underlying39 3 (by kernel_rfl) (by omega) h hv
  have key : ∀ i, i < len → ∃ x : Int × Int × Int, ∃ b off, a = some ⟨b, off, none⟩ ∧ b < w.heap.size ∧ w.cell? ⟨b, off + i * 3, none⟩ = some (.int .i64 x.1) ∧ w.cell? ⟨b, off + i * 3 + 1, none⟩ = some (.int .i64 x.2.1) ∧ w.cell? ⟨b, off + i * 3 + 2, none⟩ = some (.int .i64 x.2.2) := fun i hi => by
    obtain ⟨b, off, cs, n, x, rfl, hb, hlen, hc, hd⟩ := hr i hi
    obtain ⟨xs, n', rfl, _, _, hxs, hf⟩ := DataW.trod_struct Try.underlying41 hd
    have hxl : xs.length = 3 := hxs
    match cs, hlen with
    | [c0, c1, c2], _ =>
      have f0 := hf 0 _ rfl
      have f1 := hf 1 _ rfl
      have f2 := hf 2 _ rfl
      rw [List.getElem?_eq_getElem (by omega)] at f0 f1 f2
      obtain ⟨b0, e0, _, _⟩ := DataW.trod_int Try.underlying3 f0
      obtain ⟨b1, e1, _, _⟩ := DataW.trod_int Try.underlying3 f1
      obtain ⟨b2, e2, _, _⟩ := DataW.trod_int Try.underlying3 f2
      have h3 : Try.prog.cellsOf 3 = 1 := by kernel_rfl
      have e0' : c0 = .int .i64 b0 := by simpa [h3] using e0
      have e1' : c1 = .int .i64 b1 := by simpa [h3] using e1
      have e2' : c2 = .int .i64 b2 := by simpa [h3] using e2
      have k0 := hc 0 (by omega)
      have k1 := hc 1 (by omega)
      have k2 := hc 2 (by omega)
      refine ⟨(b0, b1, b2), b, off, rfl, hb, ?_, ?_, ?_⟩
      · rw [← e0']; simpa using k0
      · rw [← e1', show off + i * 3 + 1 = off + (i * 3 + 1) by omega]; simpa using k1
      · rw [← e2', show off + i * 3 + 2 = off + (i * 3 + 2) by omega]; simpa using k2
  obtain ⟨z, hz⟩ := Go.Deep.choose_lt key
  exact ⟨a, len, cap, z, rfl, hz, hd0⟩
/-- the ring, and who is busy in the block G -/
structure Sb (w0 w : World) (b g : Nat) (r : R) (G n : Nat) (bz : Nat → Bool) : Prop where
  sr : Sr w0 w b g r
  bs : w.rowIs G 4 n (fun j => .bool (bz j))
  nb : G ≠ b
  ng : G ≠ g
  lo : w0.heap.size ≤ G
  hn : r.n = n
  snd : Snd r bz
section
variable {w0 w w1 : World} {b g : Nat} {r : R} {G n : Nat} {bz : Nat → Bool}
theorem Sb.cell (h : Sb w0 w b g r G n bz) (i : Nat) (hi : i < n) : w.cell? ⟨G, i, none⟩ = some (.bool (bz i)) := row_val h.bs hi rfl
theorem Sb.fz (h : Sb w0 w b g r G n bz) (i : Nat) : w.frozen? ⟨G, i, none⟩ = false := World.rowIs.frozen h.bs i
theorem Sb.below (h : Sb w0 w b g r G n bz) (f : Below w.heap.size w w1) : Sb w0 w1 b g r G n bz := { h with sr := h.sr.below f, bs := row_below h.bs f h.bs.lt }
theorem Sb.alloc (h : Sb w0 w b g r G n bz) (o : Obj) : Sb w0 (w.alloc o) b g r G n bz := h.below ((Below.refl w.heap.size w).alloc (Nat.le_refl _) o)
theorem Sb.ring (h : Sb w0 w b g r G n bz) {r' : R} (h' : Sr w0 w1 b g r') (f : Fr w w1 (S2 b g)) (e : r'.n = r.n) (s : Snd r' bz) : Sb w0 w1 b g r' G n bz :=
  { h with sr := h', bs := row_fr h.bs f (fun x => by rcases x with e | e; exact h.nb e; exact h.ng e), hn := e.trans h.hn, snd := s }
theorem Sb.rest (h : Sb w0 w b g r G n bz) (i : Nat) : Sb w0 (w.setCell ⟨G, i, none⟩ (.bool false)) b g r G n (fun j => if j = i then false else bz j) :=
  { h with
    sr := h.sr.frame (fr_set w (fun k => k = G) G i _ rfl) (fun e => h.nb e.symm) (fun e => h.ng e.symm) (fun k e => by rw [e]; exact h.lo)
    bs := (h.bs.set i _).congr (fun j hj => by split <;> rfl)
    snd := snd_rest h.snd i }
end
/-- one is set to work: the busy one's cell alone -/
theorem sb_on {w0 w : World} {b g : Nat} {r : R} {G n : Nat} {bz : Nat → Bool} (h : Sb w0 w b g r G n bz) (j : Nat) : Sr w0 (w.setCell ⟨G, j, none⟩ (.bool true)) b g r ∧ (w.setCell ⟨G, j, none⟩ (.bool true)).rowIs G 4 n (fun k => .bool (if k = j then true else bz k)) :=
  ⟨h.sr.frame (fr_set w (fun k => k = G) G j _ rfl) (fun e => h.nb e.symm) (fun e => h.ng e.symm) (fun k e => by rw [e]; exact h.lo), (h.bs.set j _).congr (fun k hk => by split <;> rfl)⟩
theorem zero41 (w : World) : (zeroValue 41).run Try.prog w = .ok (.agg #[.int .i64 0, .int .i64 0, .int .i64 0]) w := by kernel_rfl
theorem make29 (n : Nat) (hn : n ≤ 64) (w : World) : (Instr.makeSlice 29 (.int .i64 n) (.int .i64 n)).run Try.prog w = .ok (.slice (some ⟨w.heap.size, 0, none⟩) n n) (w.alloc (.cells (madeCells #[.bool false] n) 4)) := by
  have h : (Try.prog.info? 4).map (fun i => (i.zero, i.size, i.bytes)) = some (some (.bool false), 1, 1) := by kernel_rfl
  exact run_make_row' 29 4 (.bool false) 1 Try.underlying29 h rfl .i64 .i64 n (by omega) (by omega) w
theorem bs_new (w : World) (n : Nat) (h1 : 1 ≤ n) : (w.alloc (.cells ((madeCells #[.bool false] n).setIfInBounds 0 (.bool true)) 4)).rowIs w.heap.size 4 n (fun j => .bool (if j = 0 then true else false)) := by
  refine row_new w _ 4 n _ (by rw [Array.size_setIfInBounds]; exact size_madeCells _ _) (fun i hlt => ?_)
  rw [Array.getElem?_setIfInBounds, size_madeCells]
  by_cases e : i = 0
  · subst e; simp [h1]; omega
  · rw [if_neg (Ne.symm e), if_neg e]
    simp [madeCells, hlt, Nat.mod_one]
theorem mod4 (x : Int) : ∃ k : Nat, k < 4 ∧ wrap64 ((IntKind.u64.wrap x).tmod 4) = (k : Int) := modN x 4 (by omega) (by omega)
set_option maxRecDepth 100000 in
set_option maxHeartbeats 8000000 in
theorem sound_any (n : Int) (a : Option Addr) (len cap : Nat) (z : Nat → Int × Int × Int) (w : World) (hr : Evs w a len z) (hlen : len ≤ 9223372036854775807) :
    Calls Try.prog 4 #[.int .i64 n, .slice a len cap] w fun e w' => e = .returned (.bool true) ∧ Below w.heap.size w w' := by
  have hz41 := zero41
  go_enter Try.func4, Try.ntmps4
  go_wp2_with fail
  refine (lives_any _).mono ?_
  rintro e w1 ⟨rfl, g1⟩
  go_wp2_with fail
  refine (sr_new g1 n).mono ?_
  rintro e w2 ⟨b, g, rfl, h2, _, _, _⟩
  obtain ⟨hN1, hN2⟩ := size_1 n
  have hn0 : (R0 (size n)).n = size n := rfl
  have hS := fun bz => snd0 (size n) bz
  generalize R0 (size n) = r0 at *
  generalize size n = N at *
  go_wp2_with fail
  refine (sr_size h2 N (by rw [hn0])).mono ?_
  rintro e w3 ⟨rfl, rfl⟩
  have hmk := make29 N hN2
  have hbs := bs_new w3 N hN1
  have hN0 : (0 : Int) < (N : Int) := by omega
  have f0 := fr_alloc w3 (fun _ => False) (.cells ((madeCells #[.bool false] N).setIfInBounds 0 (.bool true)) 4)
  have hl1 := h2.rr.s.lt
  have hl2 := h2.rr.t.lt
  have hsz := h2.bel.size
  have B0 : Sb w (w3.alloc (.cells ((madeCells #[.bool false] N).setIfInBounds 0 (.bool true)) 4)) b g r0 w3.heap.size N (fun j => if j = 0 then true else false) :=
    ⟨h2.frame f0 (fun e => e) (fun e => e) (fun k e => e.elim), hbs, by omega, by omega, by omega, hn0, hS _⟩
  have HN := Lib.hid (And.intro hN1 hN2)
  have huN : IntKind.u64.wrap (N : Int) = N := by rw [IntKind.wrap_u64]; omega
  have hNz : ((N : Int) == 0) = false := by simp; omega
  have c00 : (w3.alloc (.cells (madeCells #[.bool false] N) 4)).cell? ⟨w3.heap.size, 0, none⟩ = some (.bool false) := row_val (row_new w3 (madeCells #[.bool false] N) 4 N (fun _ => .bool false) (size_madeCells _ _) (fun i hlt => by simp [madeCells, hlt, Nat.mod_one])) (by omega) rfl
  have f00 : (w3.alloc (.cells (madeCells #[.bool false] N) 4)).frozen? ⟨w3.heap.size, 0, none⟩ = false := World.rowIs.frozen (row_new w3 (madeCells #[.bool false] N) 4 N (fun _ => .bool false) (size_madeCells _ _) (fun i hlt => by simp [madeCells, hlt, Nat.mod_one])) 0
  clear g1 h2 hbs f0 hl1 hl2 hsz hn0 hS hN1 hN2
  go_wp2_with fail
  generalize hGe : w3.heap.size = G at *
  clear hmk c00 f00 hGe hN0
  go_loopw [8] (fun kv wr => ∃ (i : Nat) (r : R) (bz : Nat → Bool), i ≤ len ∧ kv = .int .i64 i ∧ Sb w wr b g r G N bz) (fun kv wr => len - (intOf kv).toNat)
  case atStart => exact ⟨0, _, _, Nat.zero_le _, rfl, B0⟩
  case round =>
    clear B0
    obtain ⟨i, r, bz, hi, rfl, M⟩ := hrel
    by_cases hlt : i < len
    · obtain ⟨sb, so, rfl, hsb, k0, k1, k2⟩ := hr i hlt
      have c0 := (M.sr.bel.cell (p := ⟨sb, so + i * 3, none⟩) hsb).trans k0
      have c1 := (M.sr.bel.cell (p := ⟨sb, so + i * 3 + 1, none⟩) hsb).trans k1
      have c2 := (M.sr.bel.cell (p := ⟨sb, so + i * 3 + 2, none⟩) hsb).trans k2
      have hi3 : (i : Int) < (len : Int) := by omega
      have hi0 : (0 : Int) ≤ (i : Int) := by omega
      have HR := Lib.hid hr
      have HLT := Lib.hid (And.intro hlt hlen)
      clear k0 k1 k2 hr hlt
      generalize (z i).1 = x0 at *
      generalize (z i).2.1 = x1 at *
      generalize (z i).2.2 = x2 at *
      obtain ⟨kk, hkk, ekk⟩ := mod4 x0
      obtain ⟨ii, hii, eii⟩ := modN x1 N HN.out.1 HN.out.2
      obtain ⟨jj, hjj, ejj⟩ := modN x2 N HN.out.1 HN.out.2
      have EK := Lib.hid ekk
      have EI := Lib.hid eii
      have EJ := Lib.hid ejj
      have HKK := Lib.hid hkk
      clear ekk eii ejj hkk
      have M0 := M.alloc (.cells #[.int .i64 x0, .int .i64 x1, .int .i64 x2] 41)
      have HWI := Lib.hid (show wrap64 ((i : Int) + 1) = (i : Int) + 1 by clear huN hNz; unfold wrap64; omega)
      go_upto_if 55 with fail
      rw [EK.out, EI.out, EJ.out]
      clear M c0 c1 c2
      generalize wr.alloc (.cells #[.int .i64 x0, .int .i64 x1, .int .i64 x2] 41) = W0 at *
      have ci := M0.cell ii hii
      have cj := M0.cell jj hjj
      have fi := M0.fz ii
      have fj := M0.fz jj
      have hiN : (ii : Int) < N := by clear huN hNz; omega
      have hjN : (jj : Int) < N := by clear huN hNz; omega
      have h4 : kk = 0 ∨ kk = 1 ∨ kk = 2 ∨ kk = 3 := by have := HKK.out; clear huN hNz; omega
      rcases h4 with rfl | rfl | rfl | rfl
      · have M1 := M0.rest ii
        have HM1 := Lib.hid M1
        clear M1 M0
        go_wp2
        have hl := HLT.out
        have hwi := HWI.out
        go_roundw
        case rel => exact ⟨i + 1, _, _, hl.1, by first | rfl | (rw [hwi]; rfl), HM1.out⟩
        case measure => first | exact meas len i hl.1 | (rw [hwi]; exact meas len i hl.1)
      · cases hb : bz ii
        · rw [hb] at ci
          have HM0 := Lib.hid M0
          clear M0 hb
          go_wp2
          have hl := HLT.out
          have hwi := HWI.out
          go_roundw
          case rel => exact ⟨i + 1, _, _, hl.1, by first | rfl | (rw [hwi]; rfl), HM0.out⟩
          case measure => first | exact meas len i hl.1 | (rw [hwi]; exact meas len i hl.1)
        · rw [hb] at ci
          obtain ⟨q1, q2⟩ := sb_on M0 jj
          have hin : ii < r.n := by rw [M0.hn]; exact hii
          have HM0 := Lib.hid M0
          have Q2 := Lib.hid q2
          have HSN := Lib.hid (snd_blk M0.snd ii jj hin (.inl hb))
          clear M0 hb q2
          go_wp2_with fail
          refine (sr_blk q1 ii hin).mono ?_
          rintro e w5 ⟨rfl, M5, f5⟩
          have M6 : Sb w w5 b g (r.blk ii) G N (fun k => if k = jj then true else bz k) := ⟨M5, row_fr Q2.out f5 (fun x => by rcases x with e | e; exact HM0.out.nb e; exact HM0.out.ng e), HM0.out.nb, HM0.out.ng, HM0.out.lo, HM0.out.hn, HSN.out⟩
          have HM6 := Lib.hid M6
          clear M6 M5 f5 q1
          go_wp2
          have hl := HLT.out
          have hwi := HWI.out
          go_roundw
          case rel => exact ⟨i + 1, _, _, hl.1, by first | rfl | (rw [hwi]; rfl), HM6.out⟩
          case measure => first | exact meas len i hl.1 | (rw [hwi]; exact meas len i hl.1)
      · obtain ⟨q1, q2⟩ := sb_on M0 jj
        have hin : 0 < r.n := by rw [M0.hn]; exact HN.out.1
        have HM0 := Lib.hid M0
        have Q2 := Lib.hid q2
        have HSN := Lib.hid (snd_blk M0.snd 0 jj hin (.inr rfl))
        clear M0 q2
        go_wp2_with fail
        refine (sr_blk q1 0 hin).mono ?_
        rintro e w5 ⟨rfl, M5, f5⟩
        have M6 : Sb w w5 b g (r.blk 0) G N (fun k => if k = jj then true else bz k) := ⟨M5, row_fr Q2.out f5 (fun x => by rcases x with e | e; exact HM0.out.nb e; exact HM0.out.ng e), HM0.out.nb, HM0.out.ng, HM0.out.lo, HM0.out.hn, HSN.out⟩
        have HM6 := Lib.hid M6
        clear M6 M5 f5 q1
        go_wp2
        have hl := HLT.out
        have hwi := HWI.out
        go_roundw
        case rel => exact ⟨i + 1, _, _, hl.1, by first | rfl | (rw [hwi]; rfl), HM6.out⟩
        case measure => first | exact meas len i hl.1 | (rw [hwi]; exact meas len i hl.1)
      · have hhN : r.h < N := by rw [← M0.hn]; exact M0.sr.ok.h
        have ch := M0.cell r.h hhN
        have hhI : (r.h : Int) < N := by clear huN hNz; omega
        cases hb : bz r.h
        · rw [hb] at ch
          obtain ⟨s1, s2⟩ := snd_go M0.snd M0.sr.ok hb
          have hgn : r.go.n = N := by rw [go_n]; exact M0.hn
          have HM0 := Lib.hid M0
          have hsr := M0.sr
          clear M0 hb
          cases ht : r.tells
          · clear s2
            have HS1 := Lib.hid s1
            have HT := Lib.hid ht
            clear s1 ht
            go_wp2_with fail
            refine (sr_holder hsr _ rfl).mono ?_
            rintro e w5 ⟨rfl, rfl⟩
            go_wp2_with fail
            refine (sr_go hsr _ rfl _ HT.out).mono ?_
            rintro e w6 ⟨rfl, M6, f6⟩
            have HM6 := Lib.hid (HM0.out.ring M6 f6 (go_n r) HS1.out)
            clear M6 f6 hsr
            go_wp2_with fail
            go_loopw [15] (fun kv wx => kv = .int .i64 0 ∧ wx = w6) (fun _ _ => 0)
            case atStart => exact ⟨rfl, rfl⟩
            case round =>
              obtain ⟨rfl, rfl⟩ := hrel
              go_wp2
              have hl := HLT.out
              have hwi := HWI.out
              go_roundw
              case rel => exact ⟨i + 1, _, _, hl.1, by first | rfl | (rw [hwi]; rfl), HM6.out⟩
              case measure => first | exact meas len i hl.1 | (rw [hwi]; exact meas len i hl.1)
          · have hal := s2 ht
            have HAL := Lib.hid (fun v (hv : v < N) => hal v (by rw [HM0.out.hn]; exact hv))
            have HS1 := Lib.hid s1
            have HT := Lib.hid ht
            clear s1 s2 ht hal
            go_wp2_with fail
            refine (sr_holder hsr _ rfl).mono ?_
            rintro e w5 ⟨rfl, rfl⟩
            go_wp2_with fail
            refine (sr_go hsr _ rfl _ HT.out).mono ?_
            rintro e w6 ⟨rfl, M6, f6⟩
            have HM6 := Lib.hid (HM0.out.ring M6 f6 (go_n r) HS1.out)
            clear M6 f6 hsr
            go_wp2_with fail
            go_loopw [15] (fun kv wx => ∃ m : Nat, m ≤ N ∧ kv = .int .i64 m ∧ wx = w6) (fun kv _ => N - (intOf kv).toNat)
            case atStart => exact ⟨0, Nat.zero_le _, rfl, rfl⟩
            case round =>
              obtain ⟨m, hm, rfl, rfl⟩ := hrel
              by_cases hmN : m < N
              · have cm := HM6.out.cell m hmN
                rw [HAL.out m hmN] at cm
                have hmI : (m : Int) < N := by clear huN hNz; omega
                have hm0 : (0 : Int) ≤ m := by clear huN hNz; omega
                have HMN := Lib.hid hmN
                clear hm hmN
                go_wp2
                have hl := HMN.out
                have hwi2 : wrap64 ((m : Int) + 1) = (m : Int) + 1 := by have := HN.out; clear huN hNz; unfold wrap64; omega
                go_roundw
                case rel => exact ⟨m + 1, hl, by first | rfl | (rw [hwi2]; rfl), by first | trivial | rfl⟩
                case measure => first | exact meas N m hl | (rw [hwi2]; exact meas N m hl)
              · have hmI : ¬ (m : Int) < N := by clear huN hNz; omega
                clear hm hmN
                go_wp2
                have hl := HLT.out
                have hwi := HWI.out
                go_roundw
                case rel => exact ⟨i + 1, _, _, hl.1, by first | rfl | (rw [hwi]; rfl), HM6.out⟩
                case measure => first | exact meas len i hl.1 | (rw [hwi]; exact meas len i hl.1)
        · rw [hb] at ch
          have HM0 := Lib.hid M0
          have hsr := M0.sr
          clear M0 hb
          go_wp2_with fail
          refine (sr_holder hsr _ rfl).mono ?_
          rintro e w5 ⟨rfl, rfl⟩
          clear hsr
          go_wp2
          have hl := HLT.out
          have hwi := HWI.out
          go_roundw
          case rel => exact ⟨i + 1, _, _, hl.1, by first | rfl | (rw [hwi]; rfl), HM0.out⟩
          case measure => first | exact meas len i hl.1 | (rw [hwi]; exact meas len i hl.1)
    · obtain rfl : i = len := Nat.le_antisymm hi (Nat.le_of_not_lt hlt)
      have HB := Lib.hid M.sr.bel
      clear M hr hlt
      go_wp2
      go_ret
      exact ⟨rfl, HB.out⟩
end Go.Proofs.Ytmagenfndbaliaa
