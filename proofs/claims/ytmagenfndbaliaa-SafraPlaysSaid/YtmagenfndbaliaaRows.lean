/-
  No cell of these rows narrows 'for every input' (looked for: loops, veiled, ifaces, maps, wideKeys, modest, calm, conditions, laid).
  DERIVED. THE GIVEN ROWS OF THIS SEAT. 5 by the template 'for every input the law returns true; each argument reads behind the call as it read before'; 0 by the template 'total and deterministic' (their statements: YtmagenfndbaliaaTotals.lean).
  GIVEN WITH THE SEED: the statements are not yours to turn. If you find one false, say at which input.
  Laid BY PROGRAM, IN A SANDBOX (cutbox-rows.mjs): the forced cells as the released guide's own fill.sh prints them over the translation 0cf2fd4dcc24b166… (all of the seat's roots in one cut). By AI agents, Wed Nov 11 2026. No macro, syntax, notation, axiom, sorry.
-/
import Derived.Test.YtmagenfndbaliaaChecked
import GoSem.Claim
import GoSem.ClaimJoined
import GoSem.ClaimMapViews
import Derived.JoinedTies
import Derived.KernelRfl
namespace Go.Proofs.Ytmagenfndbaliaa
/- THE CELL 'sum', in the pinned program and in every row, IS THE sha256 OF THE DUMP (.gsa) THAT YtmagenfndbaliaaProg.lean LOADS. Nothing in Lean hashes anything: it is a label: what it is worth is what the hold of that sum in a sandbox is worth. -/
noncomputable def Try.pinned : Pinned := { name := "ytmagenfndbaliaa", sum := "0cf2fd4dcc24b1662a571c9d75b589e538a74df9116f03767280c4714543f7be", checked := Try.checked }
namespace Rows
def none {H : Type} : Left H := { results := [], args := [] }

/-- 'callboylaw18.SafraPlays': WHATEVER THE INPUT: true; the input reads as it did. -/
def safraPlaysSpec : ChangeSpec := { name := "safraPlays", fn := fun _ => fun
  | [d1, d2] => { results := [.lit (.bool true)], args := [d1, d2] }
  | _ => none }
def safraPlaysRow : OpenClaim := { program := "ytmagenfndbaliaa", sum := "0cf2fd4dcc24b1662a571c9d75b589e538a74df9116f03767280c4714543f7be", func := "callboy/callboylaw18.SafraPlays", spec := "safraPlays", apart := false }
def SafraPlaysSaid : Prop := safraPlaysRow.holds Try.pinned (OpenSpec.ofChange safraPlaysSpec)

/-- ITS FALSE NEIGHBOUR: 'it returns false'. Refute it at one input. -/
def safraPlaysWrong : ChangeSpec := { name := "safraPlays", fn := fun _ => fun
  | [d1, d2] => { results := [.lit (.bool false)], args := [d1, d2] }
  | _ => none }
def SafraPlaysWrongFalsely : Prop := safraPlaysRow.holds Try.pinned (OpenSpec.ofChange safraPlaysWrong)

/-- 'callboylaw18.SafraSound': WHATEVER THE INPUT: true; the input reads as it did. -/
def safraSoundSpec : ChangeSpec := { name := "safraSound", fn := fun _ => fun
  | [d1, d2] => { results := [.lit (.bool true)], args := [d1, d2] }
  | _ => none }
def safraSoundRow : OpenClaim := { program := "ytmagenfndbaliaa", sum := "0cf2fd4dcc24b1662a571c9d75b589e538a74df9116f03767280c4714543f7be", func := "callboy/callboylaw18.SafraSound", spec := "safraSound", apart := false }
def SafraSoundSaid : Prop := safraSoundRow.holds Try.pinned (OpenSpec.ofChange safraSoundSpec)

/-- ITS FALSE NEIGHBOUR: 'it returns false'. Refute it at one input. -/
def safraSoundWrong : ChangeSpec := { name := "safraSound", fn := fun _ => fun
  | [d1, d2] => { results := [.lit (.bool false)], args := [d1, d2] }
  | _ => none }
def SafraSoundWrongFalsely : Prop := safraSoundRow.holds Try.pinned (OpenSpec.ofChange safraSoundWrong)

/-- 'callboylaw18.SafraTells': WHATEVER THE INPUT: true; the input reads as it did. -/
def safraTellsSpec : ChangeSpec := { name := "safraTells", fn := fun _ => fun
  | [d1, d2] => { results := [.lit (.bool true)], args := [d1, d2] }
  | _ => none }
def safraTellsRow : OpenClaim := { program := "ytmagenfndbaliaa", sum := "0cf2fd4dcc24b1662a571c9d75b589e538a74df9116f03767280c4714543f7be", func := "callboy/callboylaw18.SafraTells", spec := "safraTells", apart := false }
def SafraTellsSaid : Prop := safraTellsRow.holds Try.pinned (OpenSpec.ofChange safraTellsSpec)

/-- ITS FALSE NEIGHBOUR: 'it returns false'. Refute it at one input. -/
def safraTellsWrong : ChangeSpec := { name := "safraTells", fn := fun _ => fun
  | [d1, d2] => { results := [.lit (.bool false)], args := [d1, d2] }
  | _ => none }
def SafraTellsWrongFalsely : Prop := safraTellsRow.holds Try.pinned (OpenSpec.ofChange safraTellsWrong)

/-- 'callboylaw18.SafraNil': WHATEVER THE INPUT: true; the input reads as it did. -/
def safraNilSpec : ChangeSpec := { name := "safraNil", fn := fun _ => fun
  | [d] => { results := [.lit (.bool true)], args := [d] }
  | _ => none }
def safraNilRow : OpenClaim := { program := "ytmagenfndbaliaa", sum := "0cf2fd4dcc24b1662a571c9d75b589e538a74df9116f03767280c4714543f7be", func := "callboy/callboylaw18.SafraNil", spec := "safraNil", apart := false }
def SafraNilSaid : Prop := safraNilRow.holds Try.pinned (OpenSpec.ofChange safraNilSpec)

/-- ITS FALSE NEIGHBOUR: 'it returns false'. Refute it at one input. -/
def safraNilWrong : ChangeSpec := { name := "safraNil", fn := fun _ => fun
  | [d] => { results := [.lit (.bool false)], args := [d] }
  | _ => none }
def SafraNilWrongFalsely : Prop := safraNilRow.holds Try.pinned (OpenSpec.ofChange safraNilWrong)

/-- 'callboylaw18.SafraStill': WHATEVER THE INPUT: true; the input reads as it did. -/
def safraStillSpec : ChangeSpec := { name := "safraStill", fn := fun _ => fun
  | [d1, d2, d3] => { results := [.lit (.bool true)], args := [d1, d2, d3] }
  | _ => none }
def safraStillRow : OpenClaim := { program := "ytmagenfndbaliaa", sum := "0cf2fd4dcc24b1662a571c9d75b589e538a74df9116f03767280c4714543f7be", func := "callboy/callboylaw18.SafraStill", spec := "safraStill", apart := false }
def SafraStillSaid : Prop := safraStillRow.holds Try.pinned (OpenSpec.ofChange safraStillSpec)

/-- ITS FALSE NEIGHBOUR: 'it returns false'. Refute it at one input. -/
def safraStillWrong : ChangeSpec := { name := "safraStill", fn := fun _ => fun
  | [d1, d2, d3] => { results := [.lit (.bool false)], args := [d1, d2, d3] }
  | _ => none }
def SafraStillWrongFalsely : Prop := safraStillRow.holds Try.pinned (OpenSpec.ofChange safraStillWrong)

/- THE SECOND FORM. 'bulk': how many values and letters a reading holds, each counted each time it is reached (what is shared counts as often as it is met; a slice's spare places count too). A statement '..UptoSaid' is the law's where the arguments, and the package variables that the reading takes, are together of bulk at most 1048576: NARROWER than '..Said'. Prove '..Said' where nothing that the law and all that it calls make is longer than what came in: it says more and counts as full. Else prove '..UptoSaid'. A law counts once. -/
mutual
def uptoBulk {H : Type} : DataW H → Nat
  | .lit (.string bytes) => bytes.length + 1
  | .lit _ => 1
  | .nil => 1
  | .ptr d => uptoBulk d + 1
  | .slice elems spare => uptoBulkAll elems + uptoBulkAll spare + 1
  | .agg parts => uptoBulkAll parts + 1
  | .iface _ d => uptoBulk d + 1
  | .map entries => uptoBulkEntries entries + 1
  | .held _ => 1
def uptoBulkAll {H : Type} : List (DataW H) → Nat
  | [] => 0
  | d :: r => uptoBulk d + uptoBulkAll r
def uptoBulkEntries {H : Type} : List (Lit × DataW H) → Nat
  | [] => 0
  | x :: r => uptoBulkEntry x + uptoBulkEntries r
def uptoBulkEntry {H : Type} : Lit × DataW H → Nat
  | (.string bytes, d) => bytes.length + uptoBulk d + 1
  | (_, d) => uptoBulk d + 1
 end
def uptoSmall : (H : Type) → List (DataW H) → Bool := fun _ ds => decide (uptoBulkAll ds ≤ 1048576)
def OpenSpec.upto (s : _root_.Go.ChangeSpec) : _root_.Go.OpenSpec := { _root_.Go.OpenSpec.ofChange s with cond := some uptoSmall }

/-- 'callboylaw18.SafraPlays', WHERE WHAT IT READS IS OF BULK AT MOST 1048576: true; the input reads as it did. -/
def safraPlaysUptoRow : OpenClaim := { program := "ytmagenfndbaliaa", sum := "0cf2fd4dcc24b1662a571c9d75b589e538a74df9116f03767280c4714543f7be", func := "callboy/callboylaw18.SafraPlays", spec := "safraPlays", apart := false, narrowed := true }
def SafraPlaysUptoSaid : Prop := safraPlaysUptoRow.holds Try.pinned (OpenSpec.upto safraPlaysSpec)

/-- 'callboylaw18.SafraSound', WHERE WHAT IT READS IS OF BULK AT MOST 1048576: true; the input reads as it did. -/
def safraSoundUptoRow : OpenClaim := { program := "ytmagenfndbaliaa", sum := "0cf2fd4dcc24b1662a571c9d75b589e538a74df9116f03767280c4714543f7be", func := "callboy/callboylaw18.SafraSound", spec := "safraSound", apart := false, narrowed := true }
def SafraSoundUptoSaid : Prop := safraSoundUptoRow.holds Try.pinned (OpenSpec.upto safraSoundSpec)

/-- 'callboylaw18.SafraTells', WHERE WHAT IT READS IS OF BULK AT MOST 1048576: true; the input reads as it did. -/
def safraTellsUptoRow : OpenClaim := { program := "ytmagenfndbaliaa", sum := "0cf2fd4dcc24b1662a571c9d75b589e538a74df9116f03767280c4714543f7be", func := "callboy/callboylaw18.SafraTells", spec := "safraTells", apart := false, narrowed := true }
def SafraTellsUptoSaid : Prop := safraTellsUptoRow.holds Try.pinned (OpenSpec.upto safraTellsSpec)

/-- 'callboylaw18.SafraNil', WHERE WHAT IT READS IS OF BULK AT MOST 1048576: true; the input reads as it did. -/
def safraNilUptoRow : OpenClaim := { program := "ytmagenfndbaliaa", sum := "0cf2fd4dcc24b1662a571c9d75b589e538a74df9116f03767280c4714543f7be", func := "callboy/callboylaw18.SafraNil", spec := "safraNil", apart := false, narrowed := true }
def SafraNilUptoSaid : Prop := safraNilUptoRow.holds Try.pinned (OpenSpec.upto safraNilSpec)

/-- 'callboylaw18.SafraStill', WHERE WHAT IT READS IS OF BULK AT MOST 1048576: true; the input reads as it did. -/
def safraStillUptoRow : OpenClaim := { program := "ytmagenfndbaliaa", sum := "0cf2fd4dcc24b1662a571c9d75b589e538a74df9116f03767280c4714543f7be", func := "callboy/callboylaw18.SafraStill", spec := "safraStill", apart := false, narrowed := true }
def SafraStillUptoSaid : Prop := safraStillUptoRow.holds Try.pinned (OpenSpec.upto safraStillSpec)

end Rows
end Go.Proofs.Ytmagenfndbaliaa
