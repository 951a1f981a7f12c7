/- Small words on worlds that the contracts of this seat are told in: what a call may have changed, and what a row of cells holds. -/
import Derived.Test.YtpmkdhaponhacaaDoorProg
import Derived.WalkKit
import Derived.Handy
import Derived.Deep.QuietTactic
import Derived.BigQuiet
import Derived.OpenShut
import Derived.Lib.Hide
import Derived.Deep.RegionWith
import Derived.Deep.OwnRows
import Derived.Laws.AppendOwn
import Derived.Laws.OwnMore
import Derived.Maps.AppendAt
namespace Go.Proofs.YtpmkdhaponhacaaDoor
open Go.RowKit
set_option linter.unusedVariables false
set_option linter.unusedSimpArgs false

theorem rt1 {v u : Value} (h : v = u) : Ending.returned v = .returned u := by rw [h]
theorem rt2 {v1 v2 u1 u2 : Value} (h1 : v1 = u1) (h2 : v2 = u2) : Ending.returned (.tuple #[v1, v2]) = .returned (.tuple #[u1, u2]) := by rw [h1, h2]
theorem ri {a b : Int} (h : a = b) : Value.int .i64 a = .int .i64 b := by rw [h]
theorem rb {a b : Bool} (h : a = b) : Value.bool a = .bool b := by rw [h]

theorem gb_refl (w : World) (r : Option Nat) : w.grownBy w r := ⟨rfl, rfl, rfl, Nat.le_refl _, fun _ _ _ => rfl⟩
theorem gb_trans {a b c : World} {r : Option Nat} (h : a.grownBy b r) (k : b.grownBy c r) : a.grownBy c r :=
  ⟨k.os.trans h.os, k.tape.trans h.tape, k.output.trans h.output, Nat.le_trans h.size k.size, fun i hi hn => (k.block i (Nat.lt_of_lt_of_le hi h.size) hn).trans (h.block i hi hn)⟩
theorem gb_some {a b : World} (h : a.grownBy b none) (r : Option Nat) : a.grownBy b r :=
  ⟨h.os, h.tape, h.output, h.size, fun i hi _ => h.block i hi (by simp)⟩
theorem gb_set (w : World) (b o : Nat) (v : Value) : w.grownBy (w.setCell ⟨b, o, none⟩ v) (some b) :=
  ⟨rfl, rfl, rfl, by simp [World.setCell], fun k _ hn => Below.heap_setCell w ⟨b, o, none⟩ v k (fun e => hn (by rw [e]))⟩
theorem gb_drew (w : World) (r : Option Nat) : w.grownBy w.drew r := ⟨rfl, rfl, rfl, Nat.le_refl _, fun _ _ _ => rfl⟩
theorem gb_drewN (w : World) (n : Nat) (r : Option Nat) : w.grownBy (w.drewN n) r := ⟨rfl, rfl, rfl, Nat.le_refl _, fun _ _ _ => rfl⟩
theorem gb_alloc (w : World) (o : Obj) (r : Option Nat) : w.grownBy (w.alloc o) r := World.grownBy_alloc w o r
/-- a change of a block that is new: none of the old ones is turned -/
theorem gb_new {a b c : World} {k : Nat} (h : a.grownBy b none) (g : b.grownBy c (some k)) (hk : a.heap.size ≤ k) : a.grownBy c none :=
  ⟨g.os.trans h.os, g.tape.trans h.tape, g.output.trans h.output, Nat.le_trans h.size g.size, fun i hi hn => (g.block i (Nat.lt_of_lt_of_le hi h.size) (fun e => by cases e; omega)).trans (h.block i hi hn)⟩
theorem gb_below {a b : World} {r : Option Nat} (h : a.grownBy b r) {n : Nat} (hn : n ≤ a.heap.size) (hr : ∀ k, r = some k → n ≤ k) : Below n a b :=
  (Below.refl n a).grown h hn hr
theorem below_gb {a b : World} (h : Below a.heap.size a b) (r : Option Nat) : a.grownBy b r := ⟨h.os, h.tape, h.output, h.size, fun k hk _ => h.block k hk⟩

theorem row_kept {w w' : World} {r : Option Nat} {b : Nat} {t : TypeId} {n : Nat} {f : Nat → Value} (h : w.rowIs b t n f) (g : w.grownBy w' r) (hn : some b ≠ r) : w'.rowIs b t n f :=
  h.of_block (g.block b h.lt hn)
theorem row_below {w w' : World} {B b : Nat} {t : TypeId} {n : Nat} {f : Nat → Value} (h : w.rowIs b t n f) (g : Below B w w') (hn : b < B) : w'.rowIs b t n f :=
  h.of_block (g.block b hn)
theorem row_val {w : World} {b : Nat} {t : TypeId} {n : Nat} {f : Nat → Value} (h : w.rowIs b t n f) {i : Nat} (hi : i < n) {v : Value} (hv : f i = v) : w.cell? ⟨b, i, none⟩ = some v := hv ▸ h.cell hi
theorem row_new (w : World) (c : Array Value) (t : TypeId) (n : Nat) (f : Nat → Value) (hn : c.size = n) (hc : ∀ i, i < n → c[i]? = some (f i)) : (w.alloc (.cells c t)).rowIs w.heap.size t n f := by
  subst hn; exact World.rowIs_alloc w c t f hc
theorem row_drewN {w : World} {b : Nat} {t : TypeId} {n : Nat} {f : Nat → Value} (h : w.rowIs b t n f) (k : Nat) : (w.drewN k).rowIs b t n f := h
theorem below_append {B : Nat} {w wr w1 : World} {e : TypeId} {size n : Nat} {v : Value} {xs : List Value} {o : Obj} (hown : wr.ownsRow B e size v n xs) (hbl : Below B w wr) (hB : B ≤ w.heap.size) (hg : (wr.alloc o).grownBy w1 v.ownBlock) : Below B w w1 :=
  (hbl.alloc (Nat.le_trans hB hbl.size) o).grown hg (by have := hbl.size; simp; omega) (fun k hk => (hown.lt k hk).1)
end Go.Proofs.YtpmkdhaponhacaaDoor
