/- The table of numbers as a plain record, and what each method of pids.Table comes to: each contract says what is returned and what the table's block holds behind it; nothing else is turned. -/
import Derived.Test.YtijhgegdcpmppaaK
namespace Go.Proofs.Ytijhgegdcpmppaa
open Go.RowKit
set_option linter.unusedVariables false
set_option linter.unusedSimpArgs false

structure Tb where
  gen : Nat → Int
  tk : Nat → Bool
  live : Int

namespace Tb
def cell (t : Tb) (i : Nat) : Value := if i = 64 then .int .i64 t.live else if i % 2 = 0 then .int .i64 (t.gen (i / 2)) else .bool (t.tk (i / 2))
def new : Tb := ⟨fun _ => 0, fun _ => false, 0⟩
def free (t : Tb) (s : Nat) : Bool := !t.tk s && decide (t.gen s < 1048576)
/-- the first slot that is free; 32: none -/
def first (t : Tb) : Nat := ((List.range 32).find? t.free).getD 32
def num (t : Tb) (s : Nat) : Int := t.gen s * 32 + s + 1
def allocV (t : Tb) : Int := if t.first < 32 then t.num t.first else 0
def allocE (t : Tb) : Int := if t.first < 32 then 0 else 7
def allocT (t : Tb) : Tb := if t.first < 32 then { t with tk := fun s => if s = t.first then true else t.tk s, live := t.live + 1 } else t
def at_ (p : Int) : Nat := ((p - 1) % 32).toNat
def has (t : Tb) (p : Int) : Bool := decide (1 ≤ p) && (t.tk (at_ p) && decide (t.num (at_ p) = p))
def slotV (t : Tb) (p : Int) : Int := if t.has p then at_ p else 0
def freeE (t : Tb) (p : Int) : Int := if t.has p then 0 else 6
def freeT (t : Tb) (p : Int) : Tb := if t.has p then ⟨fun s => if s = at_ p then t.gen s + 1 else t.gen s, fun s => if s = at_ p then false else t.tk s, t.live - 1⟩ else t
/-- what is kept: generations in their range, as many live as are taken -/
structure Ok (t : Tb) : Prop where
  g0 : ∀ s, s < 32 → 0 ≤ t.gen s
  g1 : ∀ s, s < 32 → t.gen s ≤ 1048576
  g2 : ∀ s, s < 32 → t.tk s = true → t.gen s < 1048576
  l : t.live = ((List.range 32).countP t.tk : Nat)

theorem cell_gen (t : Tb) (s : Nat) (h : s < 32) : t.cell (s * 2) = .int .i64 (t.gen s) := by
  unfold cell; rw [if_neg (by omega), if_pos (by omega), show s * 2 / 2 = s by omega]
theorem cell_tk (t : Tb) (s : Nat) (h : s < 32) : t.cell (s * 2 + 1) = .bool (t.tk s) := by
  unfold cell; rw [if_neg (by omega), if_neg (by omega), show (s * 2 + 1) / 2 = s by omega]
theorem cell_live (t : Tb) : t.cell 64 = .int .i64 t.live := rfl
theorem at_lt (p : Int) : at_ p < 32 := by unfold at_; omega
theorem first_spec (t : Tb) (k : Nat) (hk : k < 32) (hf : t.free k = true) (hb : ∀ j, j < k → t.free j = false) : t.first = k := by
  unfold first
  have : (List.range 32).find? t.free = some k := by
    rw [List.find?_range_eq_some]
    exact ⟨hf, List.mem_range.2 hk, fun j hj => by simp [hb j hj]⟩
  rw [this]; rfl
theorem first_none (t : Tb) (hb : ∀ j, j < 32 → t.free j = false) : t.first = 32 := by
  unfold first
  have : (List.range 32).find? t.free = none := by
    rw [List.find?_eq_none]
    intro x hx; simp [hb x (List.mem_range.1 hx)]
  rw [this]; rfl
end Tb

/-- the table t lies in block b -/
def IsTb (w : World) (b : Nat) (t : Tb) : Prop := w.rowIs b 57 65 t.cell
theorem IsTb.gen {w : World} {b : Nat} {t : Tb} (h : IsTb w b t) (s : Nat) (hs : s < 32) : w.cell? ⟨b, s * 2, none⟩ = some (.int .i64 (t.gen s)) := row_val h (by omega) (t.cell_gen s hs)
theorem IsTb.tk {w : World} {b : Nat} {t : Tb} (h : IsTb w b t) (s : Nat) (hs : s < 32) : w.cell? ⟨b, s * 2 + 1, none⟩ = some (.bool (t.tk s)) := row_val h (by omega) (t.cell_tk s hs)
theorem IsTb.live {w : World} {b : Nat} {t : Tb} (h : IsTb w b t) : w.cell? ⟨b, 64, none⟩ = some (.int .i64 t.live) := row_val h (by omega) t.cell_live
theorem IsTb.frozen {w : World} {b : Nat} {t : Tb} (h : IsTb w b t) (i : Nat) : w.frozen? ⟨b, i, none⟩ = false := World.rowIs.frozen h i

theorem len_any (b : Nat) (t : Tb) (w : World) (h : IsTb w b t) :
    Calls Try.prog 12 #[.pointer (some ⟨b, 0, none⟩)] w fun e w' => e = .returned (.int .i64 t.live) ∧ w = w' := by
  have hc := h.live
  go_enter Try.func12, Try.ntmps12
  go_wp2
  go_ret; exact ⟨rfl, rfl⟩
theorem len_nil (w : World) : Calls Try.prog 12 #[.pointer none] w fun e w' => e = .returned (.int .i64 0) ∧ w = w' := by
  go_enter Try.func12, Try.ntmps12
  go_wp2
  go_ret; exact ⟨rfl, rfl⟩

def newCells : Array Value := (Array.range 65).map Tb.new.cell
theorem zero57 (w : World) : (zeroValue 57).run Try.prog w = .ok (.agg newCells) w := by kernel_rfl
theorem new_any (w : World) :
    Calls Try.prog 8 #[] w fun e w' => e = .returned (.pointer (some ⟨w.heap.size, 0, none⟩)) ∧ IsTb w' w.heap.size Tb.new ∧ w.grownBy w' none := by
  have hz := zero57
  generalize hc : newCells = C at hz
  have HC := Lib.hid hc
  clear hc
  go_enter Try.func8, Try.ntmps8
  go_wp2
  go_ret
  refine ⟨rfl, ?_, gb_alloc _ _ _⟩
  refine row_new w C 57 65 _ (by rw [← HC.out]; simp [newCells]) (fun i hi => ?_)
  rw [← HC.out]; simp [newCells, hi]

set_option maxHeartbeats 1000000 in
theorem pid_raw (b : Nat) (s : Nat) (g : Int) (w : World) (hs : s < 32) (hc : w.cell? ⟨b, s * 2, none⟩ = some (.int .i64 g)) (h0 : 0 ≤ g) (h1 : g ≤ 1048576) :
    Calls Try.prog 24 #[.pointer (some ⟨b, 0, none⟩), .int .i64 s] w fun e w' => e = .returned (.int .i64 (g * 32 + s + 1)) ∧ w = w' := by
  go_enter Try.func24, Try.ntmps24
  go_wp2
  go_ret; exact ⟨rfl, rfl⟩

set_option maxHeartbeats 1000000 in
theorem slot_pos (b : Nat) (pid : Int) (w : World) (hp : 1 ≤ pid) (hp2 : pid ≤ 9223372036854775807) (s : Nat) (hs : s < 32) (hm : (pid - 1) % 32 = s) (g : Int) (tk : Bool) (hc : w.cell? ⟨b, s * 2, none⟩ = some (.int .i64 g)) (hd : w.cell? ⟨b, s * 2 + 1, none⟩ = some (.bool tk)) (h0 : 0 ≤ g) (h1 : g ≤ 1048576) (r : Bool) (hr : r = (tk && decide (g * 32 + s + 1 = pid))) (v : Int) (hv : Hid (v = if r then (s : Int) else 0)) :
    Calls Try.prog 11 #[.pointer (some ⟨b, 0, none⟩), .int .i64 pid] w fun e w' => e = .returned (.tuple #[.int .i64 v, .bool r]) ∧ w = w' := by
  cases tk
  · obtain rfl : r = false := by simpa using hr
    clear hr
    go_enter Try.func11, Try.ntmps11
    go_wp2
    go_ret2; exact ⟨rt2 (ri (by rw [hv.out]; rfl)) rfl, rfl⟩
  · by_cases he : g * 32 + s + 1 = pid
    · obtain rfl : r = true := by simpa [he] using hr
      have hb : (g * 32 + ↑s + 1 != pid) = false := by simpa using he
      have HP := Lib.hid (pid_raw b s g w hs hc h0 h1)
      clear hr he
      go_enter Try.func11, Try.ntmps11
      go_wp2_with (go_at_call 24; refine (HP.out).mono ?_; rintro e w' ⟨rfl, rfl⟩)
      go_ret2; exact ⟨rt2 (ri (by rw [hv.out]; rfl)) rfl, rfl⟩
    · obtain rfl : r = false := by simpa [he] using hr
      have hb : (g * 32 + ↑s + 1 != pid) = true := by simpa using he
      have HP := Lib.hid (pid_raw b s g w hs hc h0 h1)
      clear hr he
      go_enter Try.func11, Try.ntmps11
      go_wp2_with (go_at_call 24; refine (HP.out).mono ?_; rintro e w' ⟨rfl, rfl⟩)
      go_ret2; exact ⟨rt2 (ri (by rw [hv.out]; rfl)) rfl, rfl⟩
theorem slot_neg (b : Nat) (pid : Int) (w : World) (hp : pid < 1) :
    Calls Try.prog 11 #[.pointer (some ⟨b, 0, none⟩), .int .i64 pid] w fun e w' => e = .returned (.tuple #[.int .i64 0, .bool false]) ∧ w = w' := by
  go_enter Try.func11, Try.ntmps11
  go_wp2
  go_ret2; exact ⟨rfl, rfl⟩
theorem slot_any (b : Nat) (t : Tb) (pid : Int) (w : World) (h : IsTb w b t) (ok : t.Ok) (hp2 : pid ≤ 9223372036854775807) :
    Calls Try.prog 11 #[.pointer (some ⟨b, 0, none⟩), .int .i64 pid] w fun e w' => e = .returned (.tuple #[.int .i64 (t.slotV pid), .bool (t.has pid)]) ∧ w = w' := by
  by_cases hp : 1 ≤ pid
  · refine slot_pos b pid w hp hp2 (Tb.at_ pid) (Tb.at_lt pid) (by unfold Tb.at_; omega) _ _ (h.gen _ (Tb.at_lt pid)) (h.tk _ (Tb.at_lt pid)) (ok.g0 _ (Tb.at_lt pid)) (ok.g1 _ (Tb.at_lt pid)) _ (by unfold Tb.has Tb.num; simp [hp]) _ (Lib.hid ?_)
    rfl
  · have e1 : t.has pid = false := by unfold Tb.has; simp [hp]
    have e2 : t.slotV pid = 0 := by unfold Tb.slotV; simp [e1]
    rw [e1, e2]; exact slot_neg b pid w (by omega)
theorem slot_nil (pid : Int) (w : World) :
    Calls Try.prog 11 #[.pointer none, .int .i64 pid] w fun e w' => e = .returned (.tuple #[.int .i64 0, .bool false]) ∧ w = w' := by
  go_enter Try.func11, Try.ntmps11
  go_wp2
  go_ret2; exact ⟨rfl, rfl⟩
theorem live_any (b : Nat) (t : Tb) (pid : Int) (w : World) (h : IsTb w b t) (ok : t.Ok) (hp2 : pid ≤ 9223372036854775807) :
    Calls Try.prog 18 #[.pointer (some ⟨b, 0, none⟩), .int .i64 pid] w fun e w' => e = .returned (.bool (t.has pid)) ∧ w = w' := by
  have H := Lib.hid (slot_any b t pid w h ok hp2)
  clear h ok
  go_enter Try.func18, Try.ntmps18
  go_wp2_with (go_at_call 11; refine (H.out).mono ?_; rintro e w' ⟨rfl, rfl⟩)
  go_ret; exact ⟨rfl, rfl⟩
theorem live_nil (pid : Int) (w : World) :
    Calls Try.prog 18 #[.pointer none, .int .i64 pid] w fun e w' => e = .returned (.bool false) ∧ w = w' := by
  go_enter Try.func18, Try.ntmps18
  go_wp2_with (go_at_call 11; refine (slot_nil _ _).mono ?_; rintro e w' ⟨rfl, rfl⟩)
  go_ret; exact ⟨rfl, rfl⟩
end Go.Proofs.Ytijhgegdcpmppaa
