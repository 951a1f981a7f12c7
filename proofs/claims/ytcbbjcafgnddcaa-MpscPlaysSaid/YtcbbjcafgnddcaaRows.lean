/-
  No cell of these rows narrows 'for every input' (looked for: loops, veiled, ifaces, maps, wideKeys, modest, calm, conditions, laid).
  DERIVED. THE GIVEN ROWS OF THIS SEAT. 6 by the template 'for every input the law returns true; each argument reads behind the call as it read before'; 0 by the template 'total and deterministic' (their statements: YtcbbjcafgnddcaaTotals.lean).
  GIVEN WITH THE SEED: the statements are not yours to turn. If you find one false, say at which input.
  Laid BY PROGRAM, IN A SANDBOX (cutbox-rows.mjs): the forced cells as the released guide's own fill.sh prints them over the translation ced351709d8404b3… (all of the seat's roots in one cut). By AI agents, Wed Nov 11 2026. No macro, syntax, notation, axiom, sorry.
-/
import Derived.Test.YtcbbjcafgnddcaaChecked
import GoSem.Claim
import GoSem.ClaimJoined
import GoSem.ClaimMapViews
import Derived.JoinedTies
import Derived.KernelRfl
namespace Go.Proofs.Ytcbbjcafgnddcaa
/- THE CELL 'sum', in the pinned program and in every row, IS THE sha256 OF THE DUMP (.gsa) THAT YtcbbjcafgnddcaaProg.lean LOADS. Nothing in Lean hashes anything: it is a label: what it is worth is what the hold of that sum in a sandbox is worth. -/
noncomputable def Try.pinned : Pinned := { name := "ytcbbjcafgnddcaa", sum := "ced351709d8404b3394e4e789294ff811477822069563145f3b73e293d7a2d99", checked := Try.checked }
namespace Rows
def none {H : Type} : Left H := { results := [], args := [] }

/-- 'callboylaw10.MpscLeaves': WHATEVER THE INPUT: true; the input reads as it did. -/
def mpscLeavesSpec : ChangeSpec := { name := "mpscLeaves", fn := fun _ => fun
  | [d1, d2] => { results := [.lit (.bool true)], args := [d1, d2] }
  | _ => none }
def mpscLeavesRow : OpenClaim := { program := "ytcbbjcafgnddcaa", sum := "ced351709d8404b3394e4e789294ff811477822069563145f3b73e293d7a2d99", func := "callboy/callboylaw10.MpscLeaves", spec := "mpscLeaves", unfollowed := true, recurses := true, apart := false }
def MpscLeavesSaid : Prop := mpscLeavesRow.holds Try.pinned (OpenSpec.ofChange mpscLeavesSpec)

/-- ITS FALSE NEIGHBOUR: 'it returns false'. Refute it at one input. -/
def mpscLeavesWrong : ChangeSpec := { name := "mpscLeaves", fn := fun _ => fun
  | [d1, d2] => { results := [.lit (.bool false)], args := [d1, d2] }
  | _ => none }
def MpscLeavesWrongFalsely : Prop := mpscLeavesRow.holds Try.pinned (OpenSpec.ofChange mpscLeavesWrong)

/-- 'callboylaw10.MpscPlays': WHATEVER THE INPUT: true; the input reads as it did. -/
def mpscPlaysSpec : ChangeSpec := { name := "mpscPlays", fn := fun _ => fun
  | [d] => { results := [.lit (.bool true)], args := [d] }
  | _ => none }
def mpscPlaysRow : OpenClaim := { program := "ytcbbjcafgnddcaa", sum := "ced351709d8404b3394e4e789294ff811477822069563145f3b73e293d7a2d99", func := "callboy/callboylaw10.MpscPlays", spec := "mpscPlays", unfollowed := true, recurses := true, apart := false }
def MpscPlaysSaid : Prop := mpscPlaysRow.holds Try.pinned (OpenSpec.ofChange mpscPlaysSpec)

/-- ITS FALSE NEIGHBOUR: 'it returns false'. Refute it at one input. -/
def mpscPlaysWrong : ChangeSpec := { name := "mpscPlays", fn := fun _ => fun
  | [d] => { results := [.lit (.bool false)], args := [d] }
  | _ => none }
def MpscPlaysWrongFalsely : Prop := mpscPlaysRow.holds Try.pinned (OpenSpec.ofChange mpscPlaysWrong)

/-- 'callboylaw10.MpscLinear': WHATEVER THE INPUT: true; the input reads as it did. -/
def mpscLinearSpec : ChangeSpec := { name := "mpscLinear", fn := fun _ => fun
  | [d] => { results := [.lit (.bool true)], args := [d] }
  | _ => none }
def mpscLinearRow : OpenClaim := { program := "ytcbbjcafgnddcaa", sum := "ced351709d8404b3394e4e789294ff811477822069563145f3b73e293d7a2d99", func := "callboy/callboylaw10.MpscLinear", spec := "mpscLinear", unfollowed := true, recurses := true, apart := false }
def MpscLinearSaid : Prop := mpscLinearRow.holds Try.pinned (OpenSpec.ofChange mpscLinearSpec)

/-- ITS FALSE NEIGHBOUR: 'it returns false'. Refute it at one input. -/
def mpscLinearWrong : ChangeSpec := { name := "mpscLinear", fn := fun _ => fun
  | [d] => { results := [.lit (.bool false)], args := [d] }
  | _ => none }
def MpscLinearWrongFalsely : Prop := mpscLinearRow.holds Try.pinned (OpenSpec.ofChange mpscLinearWrong)

/-- 'callboylaw10.MpscOrder': WHATEVER THE INPUT: true; the input reads as it did. -/
def mpscOrderSpec : ChangeSpec := { name := "mpscOrder", fn := fun _ => fun
  | [d] => { results := [.lit (.bool true)], args := [d] }
  | _ => none }
def mpscOrderRow : OpenClaim := { program := "ytcbbjcafgnddcaa", sum := "ced351709d8404b3394e4e789294ff811477822069563145f3b73e293d7a2d99", func := "callboy/callboylaw10.MpscOrder", spec := "mpscOrder", unfollowed := true, recurses := true, apart := false }
def MpscOrderSaid : Prop := mpscOrderRow.holds Try.pinned (OpenSpec.ofChange mpscOrderSpec)

/-- ITS FALSE NEIGHBOUR: 'it returns false'. Refute it at one input. -/
def mpscOrderWrong : ChangeSpec := { name := "mpscOrder", fn := fun _ => fun
  | [d] => { results := [.lit (.bool false)], args := [d] }
  | _ => none }
def MpscOrderWrongFalsely : Prop := mpscOrderRow.holds Try.pinned (OpenSpec.ofChange mpscOrderWrong)

/-- 'callboylaw10.MpscNil': WHATEVER THE INPUT: true; the input reads as it did. -/
def mpscNilSpec : ChangeSpec := { name := "mpscNil", fn := fun _ => fun
  | [d] => { results := [.lit (.bool true)], args := [d] }
  | _ => none }
def mpscNilRow : OpenClaim := { program := "ytcbbjcafgnddcaa", sum := "ced351709d8404b3394e4e789294ff811477822069563145f3b73e293d7a2d99", func := "callboy/callboylaw10.MpscNil", spec := "mpscNil", unfollowed := true, recurses := true, apart := false }
def MpscNilSaid : Prop := mpscNilRow.holds Try.pinned (OpenSpec.ofChange mpscNilSpec)

/-- ITS FALSE NEIGHBOUR: 'it returns false'. Refute it at one input. -/
def mpscNilWrong : ChangeSpec := { name := "mpscNil", fn := fun _ => fun
  | [d] => { results := [.lit (.bool false)], args := [d] }
  | _ => none }
def MpscNilWrongFalsely : Prop := mpscNilRow.holds Try.pinned (OpenSpec.ofChange mpscNilWrong)

/-- 'callboylaw10.MpscCalm': WHATEVER THE INPUT: true; the input reads as it did. -/
def mpscCalmSpec : ChangeSpec := { name := "mpscCalm", fn := fun _ => fun
  | [d] => { results := [.lit (.bool true)], args := [d] }
  | _ => none }
def mpscCalmRow : OpenClaim := { program := "ytcbbjcafgnddcaa", sum := "ced351709d8404b3394e4e789294ff811477822069563145f3b73e293d7a2d99", func := "callboy/callboylaw10.MpscCalm", spec := "mpscCalm", unfollowed := true, recurses := true, apart := false }
def MpscCalmSaid : Prop := mpscCalmRow.holds Try.pinned (OpenSpec.ofChange mpscCalmSpec)

/-- ITS FALSE NEIGHBOUR: 'it returns false'. Refute it at one input. -/
def mpscCalmWrong : ChangeSpec := { name := "mpscCalm", fn := fun _ => fun
  | [d] => { results := [.lit (.bool false)], args := [d] }
  | _ => none }
def MpscCalmWrongFalsely : Prop := mpscCalmRow.holds Try.pinned (OpenSpec.ofChange mpscCalmWrong)

/- THE SECOND FORM. 'bulk': how many values and letters a reading holds, each counted each time it is reached (what is shared counts as often as it is met; a slice's spare places count too). A statement '..UptoSaid' is the law's where the arguments, and the package variables that the reading takes, are together of bulk at most 1048576: NARROWER than '..Said'. Prove '..Said' where nothing that the law and all that it calls make is longer than what came in: it says more and counts as full. Else prove '..UptoSaid'. A law counts once. -/
mutual
def uptoBulk {H : Type} : DataW H → Nat
  | .lit (.string bytes) => bytes.length + 1
  | .lit _ => 1
  | .nil => 1
  | .ptr d => uptoBulk d + 1
  | .slice elems spare => uptoBulkAll elems + uptoBulkAll spare + 1
  | .agg parts => uptoBulkAll parts + 1
  | .iface _ d => uptoBulk d + 1
  | .map entries => uptoBulkEntries entries + 1
  | .held _ => 1
def uptoBulkAll {H : Type} : List (DataW H) → Nat
  | [] => 0
  | d :: r => uptoBulk d + uptoBulkAll r
def uptoBulkEntries {H : Type} : List (Lit × DataW H) → Nat
  | [] => 0
  | x :: r => uptoBulkEntry x + uptoBulkEntries r
def uptoBulkEntry {H : Type} : Lit × DataW H → Nat
  | (.string bytes, d) => bytes.length + uptoBulk d + 1
  | (_, d) => uptoBulk d + 1
 end
def uptoSmall : (H : Type) → List (DataW H) → Bool := fun _ ds => decide (uptoBulkAll ds ≤ 1048576)
def OpenSpec.upto (s : _root_.Go.ChangeSpec) : _root_.Go.OpenSpec := { _root_.Go.OpenSpec.ofChange s with cond := some uptoSmall }

/-- 'callboylaw10.MpscLeaves', WHERE WHAT IT READS IS OF BULK AT MOST 1048576: true; the input reads as it did. -/
def mpscLeavesUptoRow : OpenClaim := { program := "ytcbbjcafgnddcaa", sum := "ced351709d8404b3394e4e789294ff811477822069563145f3b73e293d7a2d99", func := "callboy/callboylaw10.MpscLeaves", spec := "mpscLeaves", unfollowed := true, recurses := true, apart := false, narrowed := true }
def MpscLeavesUptoSaid : Prop := mpscLeavesUptoRow.holds Try.pinned (OpenSpec.upto mpscLeavesSpec)

/-- 'callboylaw10.MpscPlays', WHERE WHAT IT READS IS OF BULK AT MOST 1048576: true; the input reads as it did. -/
def mpscPlaysUptoRow : OpenClaim := { program := "ytcbbjcafgnddcaa", sum := "ced351709d8404b3394e4e789294ff811477822069563145f3b73e293d7a2d99", func := "callboy/callboylaw10.MpscPlays", spec := "mpscPlays", unfollowed := true, recurses := true, apart := false, narrowed := true }
def MpscPlaysUptoSaid : Prop := mpscPlaysUptoRow.holds Try.pinned (OpenSpec.upto mpscPlaysSpec)

/-- 'callboylaw10.MpscLinear', WHERE WHAT IT READS IS OF BULK AT MOST 1048576: true; the input reads as it did. -/
def mpscLinearUptoRow : OpenClaim := { program := "ytcbbjcafgnddcaa", sum := "ced351709d8404b3394e4e789294ff811477822069563145f3b73e293d7a2d99", func := "callboy/callboylaw10.MpscLinear", spec := "mpscLinear", unfollowed := true, recurses := true, apart := false, narrowed := true }
def MpscLinearUptoSaid : Prop := mpscLinearUptoRow.holds Try.pinned (OpenSpec.upto mpscLinearSpec)

/-- 'callboylaw10.MpscOrder', WHERE WHAT IT READS IS OF BULK AT MOST 1048576: true; the input reads as it did. -/
def mpscOrderUptoRow : OpenClaim := { program := "ytcbbjcafgnddcaa", sum := "ced351709d8404b3394e4e789294ff811477822069563145f3b73e293d7a2d99", func := "callboy/callboylaw10.MpscOrder", spec := "mpscOrder", unfollowed := true, recurses := true, apart := false, narrowed := true }
def MpscOrderUptoSaid : Prop := mpscOrderUptoRow.holds Try.pinned (OpenSpec.upto mpscOrderSpec)

/-- 'callboylaw10.MpscNil', WHERE WHAT IT READS IS OF BULK AT MOST 1048576: true; the input reads as it did. -/
def mpscNilUptoRow : OpenClaim := { program := "ytcbbjcafgnddcaa", sum := "ced351709d8404b3394e4e789294ff811477822069563145f3b73e293d7a2d99", func := "callboy/callboylaw10.MpscNil", spec := "mpscNil", unfollowed := true, recurses := true, apart := false, narrowed := true }
def MpscNilUptoSaid : Prop := mpscNilUptoRow.holds Try.pinned (OpenSpec.upto mpscNilSpec)

/-- 'callboylaw10.MpscCalm', WHERE WHAT IT READS IS OF BULK AT MOST 1048576: true; the input reads as it did. -/
def mpscCalmUptoRow : OpenClaim := { program := "ytcbbjcafgnddcaa", sum := "ced351709d8404b3394e4e789294ff811477822069563145f3b73e293d7a2d99", func := "callboy/callboylaw10.MpscCalm", spec := "mpscCalm", unfollowed := true, recurses := true, apart := false, narrowed := true }
def MpscCalmUptoSaid : Prop := mpscCalmUptoRow.holds Try.pinned (OpenSpec.upto mpscCalmSpec)

end Rows
end Go.Proofs.Ytcbbjcafgnddcaa
