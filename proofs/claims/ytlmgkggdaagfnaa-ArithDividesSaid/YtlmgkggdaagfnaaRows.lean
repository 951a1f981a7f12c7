/-
  No cell of these rows narrows 'for every input' (looked for: loops, veiled, ifaces, maps, wideKeys, modest, calm, conditions, laid).
  DERIVED. THE GIVEN ROWS OF THIS SEAT. 6 by the template 'for every input the law returns true; each argument reads behind the call as it read before'; 0 by the template 'total and deterministic' (their statements: YtlmgkggdaagfnaaTotals.lean).
  GIVEN WITH THE SEED: the statements are not yours to turn. If you find one false, say at which input.
  Laid BY PROGRAM, IN A SANDBOX (cutbox-rows.mjs): the forced cells as the released guide's own fill.sh prints them over the translation 027d70abd44dc739… (all of the seat's roots in one cut). By AI agents, Wed Nov 11 2026. No macro, syntax, notation, axiom, sorry.
-/
import Derived.Test.YtlmgkggdaagfnaaChecked
import GoSem.Claim
import GoSem.ClaimJoined
import GoSem.ClaimMapViews
import Derived.JoinedTies
import Derived.KernelRfl
namespace Go.Proofs.Ytlmgkggdaagfnaa
/- THE CELL 'sum', in the pinned program and in every row, IS THE sha256 OF THE DUMP (.gsa) THAT YtlmgkggdaagfnaaProg.lean LOADS. Nothing in Lean hashes anything: it is a label: what it is worth is what the hold of that sum in a sandbox is worth. -/
noncomputable def Try.pinned : Pinned := { name := "ytlmgkggdaagfnaa", sum := "027d70abd44dc739efc4cc67c15f69f856e9a76e690edf9417e98405e8b25334", checked := Try.checked }
namespace Rows
def none {H : Type} : Left H := { results := [], args := [] }

/-- 'callboylaw03.ArithTwo': WHATEVER THE INPUT: true; the input reads as it did. -/
def arithTwoSpec : ChangeSpec := { name := "arithTwo", fn := fun _ => fun
  | [d1, d2, d3] => { results := [.lit (.bool true)], args := [d1, d2, d3] }
  | _ => none }
def arithTwoRow : OpenClaim := { program := "ytlmgkggdaagfnaa", sum := "027d70abd44dc739efc4cc67c15f69f856e9a76e690edf9417e98405e8b25334", func := "callboy/callboylaw03.ArithTwo", spec := "arithTwo", apart := false }
def ArithTwoSaid : Prop := arithTwoRow.holds Try.pinned (OpenSpec.ofChange arithTwoSpec)

/-- ITS FALSE NEIGHBOUR: 'it returns false'. Refute it at one input. -/
def arithTwoWrong : ChangeSpec := { name := "arithTwo", fn := fun _ => fun
  | [d1, d2, d3] => { results := [.lit (.bool false)], args := [d1, d2, d3] }
  | _ => none }
def ArithTwoWrongFalsely : Prop := arithTwoRow.holds Try.pinned (OpenSpec.ofChange arithTwoWrong)

/-- 'callboylaw03.ArithRing': WHATEVER THE INPUT: true; the input reads as it did. -/
def arithRingSpec : ChangeSpec := { name := "arithRing", fn := fun _ => fun
  | [d1, d2, d3] => { results := [.lit (.bool true)], args := [d1, d2, d3] }
  | _ => none }
def arithRingRow : OpenClaim := { program := "ytlmgkggdaagfnaa", sum := "027d70abd44dc739efc4cc67c15f69f856e9a76e690edf9417e98405e8b25334", func := "callboy/callboylaw03.ArithRing", spec := "arithRing", apart := false }
def ArithRingSaid : Prop := arithRingRow.holds Try.pinned (OpenSpec.ofChange arithRingSpec)

/-- ITS FALSE NEIGHBOUR: 'it returns false'. Refute it at one input. -/
def arithRingWrong : ChangeSpec := { name := "arithRing", fn := fun _ => fun
  | [d1, d2, d3] => { results := [.lit (.bool false)], args := [d1, d2, d3] }
  | _ => none }
def ArithRingWrongFalsely : Prop := arithRingRow.holds Try.pinned (OpenSpec.ofChange arithRingWrong)

/-- 'callboylaw03.ArithDivides': WHATEVER THE INPUT: true; the input reads as it did. -/
def arithDividesSpec : ChangeSpec := { name := "arithDivides", fn := fun _ => fun
  | [d1, d2] => { results := [.lit (.bool true)], args := [d1, d2] }
  | _ => none }
def arithDividesRow : OpenClaim := { program := "ytlmgkggdaagfnaa", sum := "027d70abd44dc739efc4cc67c15f69f856e9a76e690edf9417e98405e8b25334", func := "callboy/callboylaw03.ArithDivides", spec := "arithDivides", apart := false }
def ArithDividesSaid : Prop := arithDividesRow.holds Try.pinned (OpenSpec.ofChange arithDividesSpec)

/-- ITS FALSE NEIGHBOUR: 'it returns false'. Refute it at one input. -/
def arithDividesWrong : ChangeSpec := { name := "arithDivides", fn := fun _ => fun
  | [d1, d2] => { results := [.lit (.bool false)], args := [d1, d2] }
  | _ => none }
def ArithDividesWrongFalsely : Prop := arithDividesRow.holds Try.pinned (OpenSpec.ofChange arithDividesWrong)

/-- 'callboylaw03.ArithOrder': WHATEVER THE INPUT: true; the input reads as it did. -/
def arithOrderSpec : ChangeSpec := { name := "arithOrder", fn := fun _ => fun
  | [d1, d2, d3] => { results := [.lit (.bool true)], args := [d1, d2, d3] }
  | _ => none }
def arithOrderRow : OpenClaim := { program := "ytlmgkggdaagfnaa", sum := "027d70abd44dc739efc4cc67c15f69f856e9a76e690edf9417e98405e8b25334", func := "callboy/callboylaw03.ArithOrder", spec := "arithOrder", apart := false }
def ArithOrderSaid : Prop := arithOrderRow.holds Try.pinned (OpenSpec.ofChange arithOrderSpec)

/-- ITS FALSE NEIGHBOUR: 'it returns false'. Refute it at one input. -/
def arithOrderWrong : ChangeSpec := { name := "arithOrder", fn := fun _ => fun
  | [d1, d2, d3] => { results := [.lit (.bool false)], args := [d1, d2, d3] }
  | _ => none }
def ArithOrderWrongFalsely : Prop := arithOrderRow.holds Try.pinned (OpenSpec.ofChange arithOrderWrong)

/-- 'callboylaw03.ArithOne': WHATEVER THE INPUT: true; the input reads as it did. -/
def arithOneSpec : ChangeSpec := { name := "arithOne", fn := fun _ => fun
  | [d1, d2] => { results := [.lit (.bool true)], args := [d1, d2] }
  | _ => none }
def arithOneRow : OpenClaim := { program := "ytlmgkggdaagfnaa", sum := "027d70abd44dc739efc4cc67c15f69f856e9a76e690edf9417e98405e8b25334", func := "callboy/callboylaw03.ArithOne", spec := "arithOne", apart := false }
def ArithOneSaid : Prop := arithOneRow.holds Try.pinned (OpenSpec.ofChange arithOneSpec)

/-- ITS FALSE NEIGHBOUR: 'it returns false'. Refute it at one input. -/
def arithOneWrong : ChangeSpec := { name := "arithOne", fn := fun _ => fun
  | [d1, d2] => { results := [.lit (.bool false)], args := [d1, d2] }
  | _ => none }
def ArithOneWrongFalsely : Prop := arithOneRow.holds Try.pinned (OpenSpec.ofChange arithOneWrong)

/-- 'callboylaw03.ArithTruths': WHATEVER THE INPUT: true; the input reads as it did. -/
def arithTruthsSpec : ChangeSpec := { name := "arithTruths", fn := fun _ => fun
  | [d1, d2] => { results := [.lit (.bool true)], args := [d1, d2] }
  | _ => none }
def arithTruthsRow : OpenClaim := { program := "ytlmgkggdaagfnaa", sum := "027d70abd44dc739efc4cc67c15f69f856e9a76e690edf9417e98405e8b25334", func := "callboy/callboylaw03.ArithTruths", spec := "arithTruths", apart := false }
def ArithTruthsSaid : Prop := arithTruthsRow.holds Try.pinned (OpenSpec.ofChange arithTruthsSpec)

/-- ITS FALSE NEIGHBOUR: 'it returns false'. Refute it at one input. -/
def arithTruthsWrong : ChangeSpec := { name := "arithTruths", fn := fun _ => fun
  | [d1, d2] => { results := [.lit (.bool false)], args := [d1, d2] }
  | _ => none }
def ArithTruthsWrongFalsely : Prop := arithTruthsRow.holds Try.pinned (OpenSpec.ofChange arithTruthsWrong)

/- THE SECOND FORM. 'bulk': how many values and letters a reading holds, each counted each time it is reached (what is shared counts as often as it is met; a slice's spare places count too). A statement '..UptoSaid' is the law's where the arguments, and the package variables that the reading takes, are together of bulk at most 1048576: NARROWER than '..Said'. Prove '..Said' where nothing that the law and all that it calls make is longer than what came in: it says more and counts as full. Else prove '..UptoSaid'. A law counts once. -/
mutual
def uptoBulk {H : Type} : DataW H → Nat
  | .lit (.string bytes) => bytes.length + 1
  | .lit _ => 1
  | .nil => 1
  | .ptr d => uptoBulk d + 1
  | .slice elems spare => uptoBulkAll elems + uptoBulkAll spare + 1
  | .agg parts => uptoBulkAll parts + 1
  | .iface _ d => uptoBulk d + 1
  | .map entries => uptoBulkEntries entries + 1
  | .held _ => 1
def uptoBulkAll {H : Type} : List (DataW H) → Nat
  | [] => 0
  | d :: r => uptoBulk d + uptoBulkAll r
def uptoBulkEntries {H : Type} : List (Lit × DataW H) → Nat
  | [] => 0
  | x :: r => uptoBulkEntry x + uptoBulkEntries r
def uptoBulkEntry {H : Type} : Lit × DataW H → Nat
  | (.string bytes, d) => bytes.length + uptoBulk d + 1
  | (_, d) => uptoBulk d + 1
 end
def uptoSmall : (H : Type) → List (DataW H) → Bool := fun _ ds => decide (uptoBulkAll ds ≤ 1048576)
def OpenSpec.upto (s : _root_.Go.ChangeSpec) : _root_.Go.OpenSpec := { _root_.Go.OpenSpec.ofChange s with cond := some uptoSmall }

/-- 'callboylaw03.ArithTwo', WHERE WHAT IT READS IS OF BULK AT MOST 1048576: true; the input reads as it did. -/
def arithTwoUptoRow : OpenClaim := { program := "ytlmgkggdaagfnaa", sum := "027d70abd44dc739efc4cc67c15f69f856e9a76e690edf9417e98405e8b25334", func := "callboy/callboylaw03.ArithTwo", spec := "arithTwo", apart := false, narrowed := true }
def ArithTwoUptoSaid : Prop := arithTwoUptoRow.holds Try.pinned (OpenSpec.upto arithTwoSpec)

/-- 'callboylaw03.ArithRing', WHERE WHAT IT READS IS OF BULK AT MOST 1048576: true; the input reads as it did. -/
def arithRingUptoRow : OpenClaim := { program := "ytlmgkggdaagfnaa", sum := "027d70abd44dc739efc4cc67c15f69f856e9a76e690edf9417e98405e8b25334", func := "callboy/callboylaw03.ArithRing", spec := "arithRing", apart := false, narrowed := true }
def ArithRingUptoSaid : Prop := arithRingUptoRow.holds Try.pinned (OpenSpec.upto arithRingSpec)

/-- 'callboylaw03.ArithDivides', WHERE WHAT IT READS IS OF BULK AT MOST 1048576: true; the input reads as it did. -/
def arithDividesUptoRow : OpenClaim := { program := "ytlmgkggdaagfnaa", sum := "027d70abd44dc739efc4cc67c15f69f856e9a76e690edf9417e98405e8b25334", func := "callboy/callboylaw03.ArithDivides", spec := "arithDivides", apart := false, narrowed := true }
def ArithDividesUptoSaid : Prop := arithDividesUptoRow.holds Try.pinned (OpenSpec.upto arithDividesSpec)

/-- 'callboylaw03.ArithOrder', WHERE WHAT IT READS IS OF BULK AT MOST 1048576: true; the input reads as it did. -/
def arithOrderUptoRow : OpenClaim := { program := "ytlmgkggdaagfnaa", sum := "027d70abd44dc739efc4cc67c15f69f856e9a76e690edf9417e98405e8b25334", func := "callboy/callboylaw03.ArithOrder", spec := "arithOrder", apart := false, narrowed := true }
def ArithOrderUptoSaid : Prop := arithOrderUptoRow.holds Try.pinned (OpenSpec.upto arithOrderSpec)

/-- 'callboylaw03.ArithOne', WHERE WHAT IT READS IS OF BULK AT MOST 1048576: true; the input reads as it did. -/
def arithOneUptoRow : OpenClaim := { program := "ytlmgkggdaagfnaa", sum := "027d70abd44dc739efc4cc67c15f69f856e9a76e690edf9417e98405e8b25334", func := "callboy/callboylaw03.ArithOne", spec := "arithOne", apart := false, narrowed := true }
def ArithOneUptoSaid : Prop := arithOneUptoRow.holds Try.pinned (OpenSpec.upto arithOneSpec)

/-- 'callboylaw03.ArithTruths', WHERE WHAT IT READS IS OF BULK AT MOST 1048576: true; the input reads as it did. -/
def arithTruthsUptoRow : OpenClaim := { program := "ytlmgkggdaagfnaa", sum := "027d70abd44dc739efc4cc67c15f69f856e9a76e690edf9417e98405e8b25334", func := "callboy/callboylaw03.ArithTruths", spec := "arithTruths", apart := false, narrowed := true }
def ArithTruthsUptoSaid : Prop := arithTruthsUptoRow.holds Try.pinned (OpenSpec.upto arithTruthsSpec)

end Rows
end Go.Proofs.Ytlmgkggdaagfnaa
