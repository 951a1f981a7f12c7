/-
  NARROWER THAN 'FOR EVERY INPUT', by the rows' own cells (each row's printed sentence says how): ParkFinds: laid · ParkEach: laid · ParkPlays: laid · ParkKept: laid · ParkCounts: laid · ParkNil: laid.
  DERIVED. THE GIVEN ROWS OF THIS SEAT. 6 by the template 'for every input the law returns true; each argument reads behind the call as it read before'; 0 by the template 'total and deterministic' (their statements: YtpmkdhaponhacaaDoorTotals.lean).
  GIVEN WITH THE SEED: the statements are not yours to turn. If you find one false, say at which input.
  Laid BY PROGRAM, IN A SANDBOX (cutbox-rows.mjs): the forced cells as the released guide's own fill.sh prints them over the translation fc47d7af31e9fde9… (all of the seat's roots in one cut). By AI agents, Wed Nov 11 2026. No macro, syntax, notation, axiom, sorry.
-/
import Derived.Test.YtpmkdhaponhacaaDoorChecked
import GoSem.Claim
import GoSem.ClaimJoined
import GoSem.ClaimMapViews
import Derived.JoinedTies
import Derived.KernelRfl
namespace Go.Proofs.YtpmkdhaponhacaaDoor
/- THE CELL 'sum', in the pinned program and in every row, IS THE sha256 OF THE DUMP (.gsa) THAT YtpmkdhaponhacaaDoorProg.lean LOADS. Nothing in Lean hashes anything: it is a label: what it is worth is what the hold of that sum in a sandbox is worth. -/
noncomputable def Tryd.pinned : Pinned := { name := "ytpmkdhaponhacaadoor", sum := "fc47d7af31e9fde988d9ec41a0cf476b438241aa2cbdefb714c8ca5931488388", checked := Tryd.checked }
namespace Rows
def none {H : Type} : Left H := { results := [], args := [] }

/- WHAT THE LISTED PACKAGE-LEVEL VARIABLES READ AS WHEN THE CALL BEGINS. Each datum BY PROGRAM (the guide's laid-datum.mjs) off the statement by which the dump's own 'gosem.cut.vars' lays the variable. In a bare row this is a premise. The card (YtpmkdhaponhacaaDoorCards.lean) ties it to the program's text. -/
def laid_math_bits_deBruijn32tab {H : Type} : DataW H := .agg [.lit (.int .u8 0), .lit (.int .u8 1), .lit (.int .u8 28), .lit (.int .u8 2), .lit (.int .u8 29), .lit (.int .u8 14), .lit (.int .u8 24), .lit (.int .u8 3), .lit (.int .u8 30), .lit (.int .u8 22), .lit (.int .u8 20), .lit (.int .u8 15), .lit (.int .u8 25), .lit (.int .u8 17), .lit (.int .u8 4), .lit (.int .u8 8), .lit (.int .u8 31), .lit (.int .u8 27), .lit (.int .u8 13), .lit (.int .u8 23), .lit (.int .u8 21), .lit (.int .u8 19), .lit (.int .u8 16), .lit (.int .u8 7), .lit (.int .u8 26), .lit (.int .u8 12), .lit (.int .u8 18), .lit (.int .u8 6), .lit (.int .u8 11), .lit (.int .u8 5), .lit (.int .u8 10), .lit (.int .u8 9)]
def laid_math_bits_deBruijn64tab {H : Type} : DataW H := .agg [.lit (.int .u8 0), .lit (.int .u8 1), .lit (.int .u8 56), .lit (.int .u8 2), .lit (.int .u8 57), .lit (.int .u8 49), .lit (.int .u8 28), .lit (.int .u8 3), .lit (.int .u8 61), .lit (.int .u8 58), .lit (.int .u8 42), .lit (.int .u8 50), .lit (.int .u8 38), .lit (.int .u8 29), .lit (.int .u8 17), .lit (.int .u8 4), .lit (.int .u8 62), .lit (.int .u8 47), .lit (.int .u8 59), .lit (.int .u8 36), .lit (.int .u8 45), .lit (.int .u8 43), .lit (.int .u8 51), .lit (.int .u8 22), .lit (.int .u8 53), .lit (.int .u8 39), .lit (.int .u8 33), .lit (.int .u8 30), .lit (.int .u8 24), .lit (.int .u8 18), .lit (.int .u8 12), .lit (.int .u8 5), .lit (.int .u8 63), .lit (.int .u8 55), .lit (.int .u8 48), .lit (.int .u8 27), .lit (.int .u8 60), .lit (.int .u8 41), .lit (.int .u8 37), .lit (.int .u8 16), .lit (.int .u8 46), .lit (.int .u8 35), .lit (.int .u8 44), .lit (.int .u8 21), .lit (.int .u8 52), .lit (.int .u8 32), .lit (.int .u8 23), .lit (.int .u8 11), .lit (.int .u8 54), .lit (.int .u8 26), .lit (.int .u8 40), .lit (.int .u8 15), .lit (.int .u8 34), .lit (.int .u8 20), .lit (.int .u8 31), .lit (.int .u8 10), .lit (.int .u8 25), .lit (.int .u8 14), .lit (.int .u8 19), .lit (.int .u8 9), .lit (.int .u8 13), .lit (.int .u8 8), .lit (.int .u8 7), .lit (.int .u8 6)]

/-- 'callboylaw17.ParkFinds': WHATEVER THE INPUT: true; the input reads as it did. -/
def parkFindsSpec : ChangeSpec := { name := "parkFinds", fn := fun _ => fun
  | [d1, d2] => { results := [.lit (.bool true)], args := [d1, d2] }
  | _ => none }
def parkFindsRow : OpenClaim := { program := "ytpmkdhaponhacaadoor", sum := "fc47d7af31e9fde988d9ec41a0cf476b438241aa2cbdefb714c8ca5931488388", func := "callboy/callboylaw17.ParkFinds", spec := "parkFinds", unfollowed := true, recurses := true, named := ["math/bits.deBruijn32tab", "math/bits.deBruijn64tab"], apart := false, laid := [("math/bits.deBruijn32tab", laid_math_bits_deBruijn32tab), ("math/bits.deBruijn64tab", laid_math_bits_deBruijn64tab)] }
def ParkFindsSaid : Prop := parkFindsRow.holds Tryd.pinned (OpenSpec.ofChange parkFindsSpec)

/-- ITS FALSE NEIGHBOUR: 'it returns false'. Refute it at one input. -/
def parkFindsWrong : ChangeSpec := { name := "parkFinds", fn := fun _ => fun
  | [d1, d2] => { results := [.lit (.bool false)], args := [d1, d2] }
  | _ => none }
def ParkFindsWrongFalsely : Prop := parkFindsRow.holds Tryd.pinned (OpenSpec.ofChange parkFindsWrong)

/-- 'callboylaw17.ParkEach': WHATEVER THE INPUT: true; the input reads as it did. -/
def parkEachSpec : ChangeSpec := { name := "parkEach", fn := fun _ => fun
  | [d1, d2] => { results := [.lit (.bool true)], args := [d1, d2] }
  | _ => none }
def parkEachRow : OpenClaim := { program := "ytpmkdhaponhacaadoor", sum := "fc47d7af31e9fde988d9ec41a0cf476b438241aa2cbdefb714c8ca5931488388", func := "callboy/callboylaw17.ParkEach", spec := "parkEach", unfollowed := true, recurses := true, named := ["math/bits.deBruijn32tab", "math/bits.deBruijn64tab"], apart := false, laid := [("math/bits.deBruijn32tab", laid_math_bits_deBruijn32tab), ("math/bits.deBruijn64tab", laid_math_bits_deBruijn64tab)] }
def ParkEachSaid : Prop := parkEachRow.holds Tryd.pinned (OpenSpec.ofChange parkEachSpec)

/-- ITS FALSE NEIGHBOUR: 'it returns false'. Refute it at one input. -/
def parkEachWrong : ChangeSpec := { name := "parkEach", fn := fun _ => fun
  | [d1, d2] => { results := [.lit (.bool false)], args := [d1, d2] }
  | _ => none }
def ParkEachWrongFalsely : Prop := parkEachRow.holds Tryd.pinned (OpenSpec.ofChange parkEachWrong)

/-- 'callboylaw17.ParkPlays': WHATEVER THE INPUT: true; the input reads as it did. -/
def parkPlaysSpec : ChangeSpec := { name := "parkPlays", fn := fun _ => fun
  | [d1, d2] => { results := [.lit (.bool true)], args := [d1, d2] }
  | _ => none }
def parkPlaysRow : OpenClaim := { program := "ytpmkdhaponhacaadoor", sum := "fc47d7af31e9fde988d9ec41a0cf476b438241aa2cbdefb714c8ca5931488388", func := "callboy/callboylaw17.ParkPlays", spec := "parkPlays", unfollowed := true, recurses := true, named := ["math/bits.deBruijn32tab", "math/bits.deBruijn64tab"], apart := false, laid := [("math/bits.deBruijn32tab", laid_math_bits_deBruijn32tab), ("math/bits.deBruijn64tab", laid_math_bits_deBruijn64tab)] }
def ParkPlaysSaid : Prop := parkPlaysRow.holds Tryd.pinned (OpenSpec.ofChange parkPlaysSpec)

/-- ITS FALSE NEIGHBOUR: 'it returns false'. Refute it at one input. -/
def parkPlaysWrong : ChangeSpec := { name := "parkPlays", fn := fun _ => fun
  | [d1, d2] => { results := [.lit (.bool false)], args := [d1, d2] }
  | _ => none }
def ParkPlaysWrongFalsely : Prop := parkPlaysRow.holds Tryd.pinned (OpenSpec.ofChange parkPlaysWrong)

/-- 'callboylaw17.ParkKept': WHATEVER THE INPUT: true; the input reads as it did. -/
def parkKeptSpec : ChangeSpec := { name := "parkKept", fn := fun _ => fun
  | [d1, d2] => { results := [.lit (.bool true)], args := [d1, d2] }
  | _ => none }
def parkKeptRow : OpenClaim := { program := "ytpmkdhaponhacaadoor", sum := "fc47d7af31e9fde988d9ec41a0cf476b438241aa2cbdefb714c8ca5931488388", func := "callboy/callboylaw17.ParkKept", spec := "parkKept", unfollowed := true, recurses := true, named := ["math/bits.deBruijn32tab", "math/bits.deBruijn64tab"], apart := false, laid := [("math/bits.deBruijn32tab", laid_math_bits_deBruijn32tab), ("math/bits.deBruijn64tab", laid_math_bits_deBruijn64tab)] }
def ParkKeptSaid : Prop := parkKeptRow.holds Tryd.pinned (OpenSpec.ofChange parkKeptSpec)

/-- ITS FALSE NEIGHBOUR: 'it returns false'. Refute it at one input. -/
def parkKeptWrong : ChangeSpec := { name := "parkKept", fn := fun _ => fun
  | [d1, d2] => { results := [.lit (.bool false)], args := [d1, d2] }
  | _ => none }
def ParkKeptWrongFalsely : Prop := parkKeptRow.holds Tryd.pinned (OpenSpec.ofChange parkKeptWrong)

/-- 'callboylaw17.ParkCounts': WHATEVER THE INPUT: true; the input reads as it did. -/
def parkCountsSpec : ChangeSpec := { name := "parkCounts", fn := fun _ => fun
  | [d1, d2] => { results := [.lit (.bool true)], args := [d1, d2] }
  | _ => none }
def parkCountsRow : OpenClaim := { program := "ytpmkdhaponhacaadoor", sum := "fc47d7af31e9fde988d9ec41a0cf476b438241aa2cbdefb714c8ca5931488388", func := "callboy/callboylaw17.ParkCounts", spec := "parkCounts", unfollowed := true, recurses := true, named := ["math/bits.deBruijn32tab", "math/bits.deBruijn64tab"], apart := false, laid := [("math/bits.deBruijn32tab", laid_math_bits_deBruijn32tab), ("math/bits.deBruijn64tab", laid_math_bits_deBruijn64tab)] }
def ParkCountsSaid : Prop := parkCountsRow.holds Tryd.pinned (OpenSpec.ofChange parkCountsSpec)

/-- ITS FALSE NEIGHBOUR: 'it returns false'. Refute it at one input. -/
def parkCountsWrong : ChangeSpec := { name := "parkCounts", fn := fun _ => fun
  | [d1, d2] => { results := [.lit (.bool false)], args := [d1, d2] }
  | _ => none }
def ParkCountsWrongFalsely : Prop := parkCountsRow.holds Tryd.pinned (OpenSpec.ofChange parkCountsWrong)

/-- 'callboylaw17.ParkNil': WHATEVER THE INPUT: true; the input reads as it did. -/
def parkNilSpec : ChangeSpec := { name := "parkNil", fn := fun _ => fun
  | [d] => { results := [.lit (.bool true)], args := [d] }
  | _ => none }
def parkNilRow : OpenClaim := { program := "ytpmkdhaponhacaadoor", sum := "fc47d7af31e9fde988d9ec41a0cf476b438241aa2cbdefb714c8ca5931488388", func := "callboy/callboylaw17.ParkNil", spec := "parkNil", unfollowed := true, recurses := true, named := ["math/bits.deBruijn32tab", "math/bits.deBruijn64tab"], apart := false, laid := [("math/bits.deBruijn32tab", laid_math_bits_deBruijn32tab), ("math/bits.deBruijn64tab", laid_math_bits_deBruijn64tab)] }
def ParkNilSaid : Prop := parkNilRow.holds Tryd.pinned (OpenSpec.ofChange parkNilSpec)

/-- ITS FALSE NEIGHBOUR: 'it returns false'. Refute it at one input. -/
def parkNilWrong : ChangeSpec := { name := "parkNil", fn := fun _ => fun
  | [d] => { results := [.lit (.bool false)], args := [d] }
  | _ => none }
def ParkNilWrongFalsely : Prop := parkNilRow.holds Tryd.pinned (OpenSpec.ofChange parkNilWrong)

/- THE SECOND FORM. 'bulk': how many values and letters a reading holds, each counted each time it is reached (what is shared counts as often as it is met; a slice's spare places count too). A statement '..UptoSaid' is the law's where the arguments, and the package variables that the reading takes, are together of bulk at most 1048576: NARROWER than '..Said'. Prove '..Said' where nothing that the law and all that it calls make is longer than what came in: it says more and counts as full. Else prove '..UptoSaid'. A law counts once. -/
mutual
def uptoBulk {H : Type} : DataW H → Nat
  | .lit (.string bytes) => bytes.length + 1
  | .lit _ => 1
  | .nil => 1
  | .ptr d => uptoBulk d + 1
  | .slice elems spare => uptoBulkAll elems + uptoBulkAll spare + 1
  | .agg parts => uptoBulkAll parts + 1
  | .iface _ d => uptoBulk d + 1
  | .map entries => uptoBulkEntries entries + 1
  | .held _ => 1
def uptoBulkAll {H : Type} : List (DataW H) → Nat
  | [] => 0
  | d :: r => uptoBulk d + uptoBulkAll r
def uptoBulkEntries {H : Type} : List (Lit × DataW H) → Nat
  | [] => 0
  | x :: r => uptoBulkEntry x + uptoBulkEntries r
def uptoBulkEntry {H : Type} : Lit × DataW H → Nat
  | (.string bytes, d) => bytes.length + uptoBulk d + 1
  | (_, d) => uptoBulk d + 1
 end
def uptoSmall : (H : Type) → List (DataW H) → Bool := fun _ ds => decide (uptoBulkAll ds ≤ 1048576)
def OpenSpec.upto (s : _root_.Go.ChangeSpec) : _root_.Go.OpenSpec := { _root_.Go.OpenSpec.ofChange s with cond := some uptoSmall }

/-- 'callboylaw17.ParkFinds', WHERE WHAT IT READS IS OF BULK AT MOST 1048576: true; the input reads as it did. -/
def parkFindsUptoRow : OpenClaim := { program := "ytpmkdhaponhacaadoor", sum := "fc47d7af31e9fde988d9ec41a0cf476b438241aa2cbdefb714c8ca5931488388", func := "callboy/callboylaw17.ParkFinds", spec := "parkFinds", unfollowed := true, recurses := true, named := ["math/bits.deBruijn32tab", "math/bits.deBruijn64tab"], apart := false, laid := [("math/bits.deBruijn32tab", laid_math_bits_deBruijn32tab), ("math/bits.deBruijn64tab", laid_math_bits_deBruijn64tab)], narrowed := true }
def ParkFindsUptoSaid : Prop := parkFindsUptoRow.holds Tryd.pinned (OpenSpec.upto parkFindsSpec)

/-- 'callboylaw17.ParkEach', WHERE WHAT IT READS IS OF BULK AT MOST 1048576: true; the input reads as it did. -/
def parkEachUptoRow : OpenClaim := { program := "ytpmkdhaponhacaadoor", sum := "fc47d7af31e9fde988d9ec41a0cf476b438241aa2cbdefb714c8ca5931488388", func := "callboy/callboylaw17.ParkEach", spec := "parkEach", unfollowed := true, recurses := true, named := ["math/bits.deBruijn32tab", "math/bits.deBruijn64tab"], apart := false, laid := [("math/bits.deBruijn32tab", laid_math_bits_deBruijn32tab), ("math/bits.deBruijn64tab", laid_math_bits_deBruijn64tab)], narrowed := true }
def ParkEachUptoSaid : Prop := parkEachUptoRow.holds Tryd.pinned (OpenSpec.upto parkEachSpec)

/-- 'callboylaw17.ParkPlays', WHERE WHAT IT READS IS OF BULK AT MOST 1048576: true; the input reads as it did. -/
def parkPlaysUptoRow : OpenClaim := { program := "ytpmkdhaponhacaadoor", sum := "fc47d7af31e9fde988d9ec41a0cf476b438241aa2cbdefb714c8ca5931488388", func := "callboy/callboylaw17.ParkPlays", spec := "parkPlays", unfollowed := true, recurses := true, named := ["math/bits.deBruijn32tab", "math/bits.deBruijn64tab"], apart := false, laid := [("math/bits.deBruijn32tab", laid_math_bits_deBruijn32tab), ("math/bits.deBruijn64tab", laid_math_bits_deBruijn64tab)], narrowed := true }
def ParkPlaysUptoSaid : Prop := parkPlaysUptoRow.holds Tryd.pinned (OpenSpec.upto parkPlaysSpec)

/-- 'callboylaw17.ParkKept', WHERE WHAT IT READS IS OF BULK AT MOST 1048576: true; the input reads as it did. -/
def parkKeptUptoRow : OpenClaim := { program := "ytpmkdhaponhacaadoor", sum := "fc47d7af31e9fde988d9ec41a0cf476b438241aa2cbdefb714c8ca5931488388", func := "callboy/callboylaw17.ParkKept", spec := "parkKept", unfollowed := true, recurses := true, named := ["math/bits.deBruijn32tab", "math/bits.deBruijn64tab"], apart := false, laid := [("math/bits.deBruijn32tab", laid_math_bits_deBruijn32tab), ("math/bits.deBruijn64tab", laid_math_bits_deBruijn64tab)], narrowed := true }
def ParkKeptUptoSaid : Prop := parkKeptUptoRow.holds Tryd.pinned (OpenSpec.upto parkKeptSpec)

/-- 'callboylaw17.ParkCounts', WHERE WHAT IT READS IS OF BULK AT MOST 1048576: true; the input reads as it did. -/
def parkCountsUptoRow : OpenClaim := { program := "ytpmkdhaponhacaadoor", sum := "fc47d7af31e9fde988d9ec41a0cf476b438241aa2cbdefb714c8ca5931488388", func := "callboy/callboylaw17.ParkCounts", spec := "parkCounts", unfollowed := true, recurses := true, named := ["math/bits.deBruijn32tab", "math/bits.deBruijn64tab"], apart := false, laid := [("math/bits.deBruijn32tab", laid_math_bits_deBruijn32tab), ("math/bits.deBruijn64tab", laid_math_bits_deBruijn64tab)], narrowed := true }
def ParkCountsUptoSaid : Prop := parkCountsUptoRow.holds Tryd.pinned (OpenSpec.upto parkCountsSpec)

/-- 'callboylaw17.ParkNil', WHERE WHAT IT READS IS OF BULK AT MOST 1048576: true; the input reads as it did. -/
def parkNilUptoRow : OpenClaim := { program := "ytpmkdhaponhacaadoor", sum := "fc47d7af31e9fde988d9ec41a0cf476b438241aa2cbdefb714c8ca5931488388", func := "callboy/callboylaw17.ParkNil", spec := "parkNil", unfollowed := true, recurses := true, named := ["math/bits.deBruijn32tab", "math/bits.deBruijn64tab"], apart := false, laid := [("math/bits.deBruijn32tab", laid_math_bits_deBruijn32tab), ("math/bits.deBruijn64tab", laid_math_bits_deBruijn64tab)], narrowed := true }
def ParkNilUptoSaid : Prop := parkNilUptoRow.holds Tryd.pinned (OpenSpec.upto parkNilSpec)

end Rows
end Go.Proofs.YtpmkdhaponhacaaDoor
