/- The reference's Items. -/
import Derived.Test.YtcbbjcafgnddcaaM25
namespace Go.Proofs.Ytcbbjcafgnddcaa
open Go.RowKit Go.Shelf
set_option linter.unusedVariables false
set_option linter.unusedSimpArgs false
def lenV : Value → Nat | .slice _ n _ => n | _ => 0
theorem inv_len {q : Q} {r : List Nat} (V : Val q) (I : Inv q r) : r.length ≤ 65536 := by
  have h1 := nd_len q.n (q.tail :: r) (fun i hi => by
    rcases List.mem_cons.1 hi with rfl | h
    · exact V.tail
    · exact I.lt i h) I.nd
  have := V.n2
  simp at h1
  omega
set_option maxRecDepth 100000 in
set_option maxHeartbeats 4000000 in
theorem mitems_any {w : World} {c g : Nat} {vv vn : Value} {q : Q} (h : Rf w c g vv vn q) (V : Val q) (r : List Nat) (I : Inv q r) :
    Calls Try.prog 20 #[.pointer (some ⟨c, 0, none⟩)] w fun e w' => ∃ v, e = .returned v ∧ Ls w' v ((lnk q q.tail r).map q.v) ∧ Below w.heap.size w w' := by
  have hL := fun m hm => lnk_at r q.tail I.lk I.lt V.tail m hm
  have hll : (lnk q q.tail r).length ≤ 65536 := Nat.le_trans (lnk_len (q := q) r q.tail) (inv_len V I)
  generalize lnk q q.tail r = L at *
  obtain ⟨gn, on, cap, rfl⟩ := h.ns V
  obtain ⟨gv, ov, cav, rfl⟩ := h.vs V
  have c0 := h.c0
  have c1 := h.c1
  have c3 := h.c3
  have h00 := hL 0 (by omega)
  have x1 := ls_get h.ln q.tail V.tail
  have e1 : q.nx q.tail = L.getD 0 0 := h00.2.1
  rw [e1] at x1
  have hii : (q.tail : Int) < q.n := by have := V.tail; omega
  have hii0 : (0 : Int) ≤ q.tail := by omega
  have HLm := Lib.hid hL
  have HLL := Lib.hid hll
  have H := Lib.hid h
  have HH := Lib.hid h.hi
  clear hL h00 e1 hll I V h
  generalize hN : q.n = N at c0 c1 hii
  generalize hT : q.tail = tl at c3 x1 hii hii0
  go_enter Try.func20, Try.ntmps20
  go_wp2
  go_quiet (fail)
  go_wp2
  go_loopw [3, 4] (fun k3 k4 wr => ∃ (m : Nat) (v : Value), m ≤ L.length ∧ k3 = v ∧ k4 = .int .i64 (L.getD m 0) ∧ Ls wr v ((L.take m).map q.v) ∧ Below w.heap.size w wr ∧ (∀ k, blk v = some k → w.heap.size ≤ k)) (fun k3 k4 wr => L.length - lenV k3)
  case atStart => exact ⟨0, _, by omega, rfl, rfl, .inl ⟨rfl, by simp⟩, gb_below (gb_drewN w _ none) (Nat.le_refl _) (fun k e => by cases e), fun k e => by cases e⟩
  case round =>
    obtain ⟨m, v, hm, rfl, rfl, hls, hb, hbk⟩ := hrel
    have hm0 := HLm.out m hm
    have hlc := H.out.s.lt
    have hln := ls_lt H.out.ln rfl
    have hlv := ls_lt H.out.lv rfl
    have c0' := (hb.cell (p := ⟨c, 0, none⟩) hlc).trans c0
    have c1' := (hb.cell (p := ⟨c, 1, none⟩) hlc).trans c1
    have hml : ((L.take m).map q.v).length = m := by simp; omega
    obtain ⟨a0, cap0, hv⟩ := ls_slice hls
    rw [hml] at hv
    subst hv
    by_cases hlt : m < L.length
    · have hi0 := hm0.2.2 hlt
      have hm1 := HLm.out (m + 1) hlt
      have eg : (q.tail :: L).getD (m + 1) 0 = L.getD m 0 := by simp [List.getD]
      rw [eg] at hm1
      have xv := (hb.cell (p := ⟨gv, ov + L.getD m 0, none⟩) hlv).trans (ls_get H.out.lv (L.getD m 0) hm1.1)
      have xn := ls_get H.out.ln (L.getD m 0) hm1.1
      rw [hm1.2.1] at xn
      have HE := take_map q L m hlt
      have hls2 := hls.below ((Below.refl wr.heap.size wr).alloc (Nat.le_refl _) (.cells #[.int .i64 (q.v (L.getD m 0))] 2))
      obtain ⟨v8, w8, h8, ls8, f8, n8⟩ := ls_append hls2 22 ⟨wr.heap.size, 0, none⟩ (q.v (L.getD m 0)) (Boxed.new wr 2 (.int .i64 (q.v (L.getD m 0)))).cell (by rw [hml]; have := HLL.out; omega)
      rw [← HE] at ls8
      have hb8 : Below w.heap.size w w8 := (hb.alloc hb.size _).trans (f8.below (by rw [World.size_alloc]; have := hb.size; omega) (fun k e => hbk k e))
      have hk8 : ∀ k, blk v8 = some k → w.heap.size ≤ k := fun k e => by
        rcases n8 k e with y | y
        · exact hbk k y
        · rw [World.size_alloc] at y; have := hb.size; omega
      obtain ⟨a8, cap8, hv8⟩ := ls_slice ls8
      have hml8 : ((L.take (m + 1)).map q.v).length = m + 1 := by simp; omega
      rw [hml8] at hv8
      subst hv8
      have c18 := (hb8.cell (p := ⟨c, 1, none⟩) hlc).trans c1
      have xn8 := (hb8.cell (p := ⟨gn, on + L.getD m 0, none⟩) hln).trans xn
      have hin : ((L.getD m 0 : Nat) : Int) < N := by rw [← hN]; have := hm1.1; omega
      have hin0 : (0 : Int) < ((L.getD m 0 : Nat) : Int) := by omega
      have hin1 : (0 : Int) ≤ ((L.getD m 0 : Nat) : Int) := by omega
      have H8 := Lib.hid h8
      have HLS := Lib.hid ls8
      have HB8 := Lib.hid hb8
      have HK8 := Lib.hid hk8
      have HM := Lib.hid hlt
      clear hls hls2 h8 ls8 f8 n8 hb8 hk8 HE hm0 hm1 eg hi0 hml hml8 hb hbk xn c0 c1 hlc hln hlv x1 hii hii0 c3
      generalize q.v (L.getD m 0) = X at *
      generalize hY : L.getD (m + 1) 0 = Y at *
      generalize L.getD m 0 = i at *
      go_wp2_with (at_builtin; refine wpList_append_run rfl _ _ 22 rfl _ _ rfl rfl _ w8 H8.out ?_)
      go_roundw
      case rel => exact ⟨m + 1, _, HM.out, rfl, by rw [hY], HLS.out, HB8.out, HK8.out⟩
      case measure => simp only [lenV]; have := HM.out; omega
    · obtain rfl : m = L.length := by omega
      have e0 : L.getD L.length 0 = 0 := by simp [List.getD]
      rw [e0]
      rw [List.take_length] at hls
      have HJ := Lib.hid hls
      have HB := Lib.hid hb
      clear hls hm0 e0 hb hbk hml
      go_wp2
      go_ret
      exact ⟨_, rfl, HJ.out, HB.out⟩
end Go.Proofs.Ytcbbjcafgnddcaa
