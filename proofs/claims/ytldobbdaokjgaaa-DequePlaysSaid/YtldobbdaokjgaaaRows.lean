/-
  No cell of these rows narrows 'for every input' (looked for: loops, veiled, ifaces, maps, wideKeys, modest, calm, conditions, laid).
  DERIVED. THE GIVEN ROWS OF THIS SEAT. 6 by the template 'for every input the law returns true; each argument reads behind the call as it read before'; 0 by the template 'total and deterministic' (their statements: YtldobbdaokjgaaaTotals.lean).
  GIVEN WITH THE SEED: the statements are not yours to turn. If you find one false, say at which input.
  Laid BY PROGRAM, IN A SANDBOX (cutbox-rows.mjs): the forced cells as the released guide's own fill.sh prints them over the translation d48cc16a9f57b4e5… (all of the seat's roots in one cut). By AI agents, Wed Nov 11 2026. No macro, syntax, notation, axiom, sorry.
-/
import Derived.Test.YtldobbdaokjgaaaChecked
import GoSem.Claim
import GoSem.ClaimJoined
import GoSem.ClaimMapViews
import Derived.JoinedTies
import Derived.KernelRfl
namespace Go.Proofs.Ytldobbdaokjgaaa
/- THE CELL 'sum', in the pinned program and in every row, IS THE sha256 OF THE DUMP (.gsa) THAT YtldobbdaokjgaaaProg.lean LOADS. Nothing in Lean hashes anything: it is a label: what it is worth is what the hold of that sum in a sandbox is worth. -/
noncomputable def Try.pinned : Pinned := { name := "ytldobbdaokjgaaa", sum := "d48cc16a9f57b4e5b49e51ffaedf40f784b9ace4dccce5c308777c82fe56bc29", checked := Try.checked }
namespace Rows
def none {H : Type} : Left H := { results := [], args := [] }

/-- 'callboylaw09.DequeOnce': WHATEVER THE INPUT: true; the input reads as it did. -/
def dequeOnceSpec : ChangeSpec := { name := "dequeOnce", fn := fun _ => fun
  | [d1, d2] => { results := [.lit (.bool true)], args := [d1, d2] }
  | _ => none }
def dequeOnceRow : OpenClaim := { program := "ytldobbdaokjgaaa", sum := "d48cc16a9f57b4e5b49e51ffaedf40f784b9ace4dccce5c308777c82fe56bc29", func := "callboy/callboylaw09.DequeOnce", spec := "dequeOnce", unfollowed := true, recurses := true, apart := false }
def DequeOnceSaid : Prop := dequeOnceRow.holds Try.pinned (OpenSpec.ofChange dequeOnceSpec)

/-- ITS FALSE NEIGHBOUR: 'it returns false'. Refute it at one input. -/
def dequeOnceWrong : ChangeSpec := { name := "dequeOnce", fn := fun _ => fun
  | [d1, d2] => { results := [.lit (.bool false)], args := [d1, d2] }
  | _ => none }
def DequeOnceWrongFalsely : Prop := dequeOnceRow.holds Try.pinned (OpenSpec.ofChange dequeOnceWrong)

/-- 'callboylaw09.DequeFifo': WHATEVER THE INPUT: true; the input reads as it did. -/
def dequeFifoSpec : ChangeSpec := { name := "dequeFifo", fn := fun _ => fun
  | [d1, d2] => { results := [.lit (.bool true)], args := [d1, d2] }
  | _ => none }
def dequeFifoRow : OpenClaim := { program := "ytldobbdaokjgaaa", sum := "d48cc16a9f57b4e5b49e51ffaedf40f784b9ace4dccce5c308777c82fe56bc29", func := "callboy/callboylaw09.DequeFifo", spec := "dequeFifo", unfollowed := true, recurses := true, apart := false }
def DequeFifoSaid : Prop := dequeFifoRow.holds Try.pinned (OpenSpec.ofChange dequeFifoSpec)

/-- ITS FALSE NEIGHBOUR: 'it returns false'. Refute it at one input. -/
def dequeFifoWrong : ChangeSpec := { name := "dequeFifo", fn := fun _ => fun
  | [d1, d2] => { results := [.lit (.bool false)], args := [d1, d2] }
  | _ => none }
def DequeFifoWrongFalsely : Prop := dequeFifoRow.holds Try.pinned (OpenSpec.ofChange dequeFifoWrong)

/-- 'callboylaw09.DequeAlone': WHATEVER THE INPUT: true; the input reads as it did. -/
def dequeAloneSpec : ChangeSpec := { name := "dequeAlone", fn := fun _ => fun
  | [d1, d2] => { results := [.lit (.bool true)], args := [d1, d2] }
  | _ => none }
def dequeAloneRow : OpenClaim := { program := "ytldobbdaokjgaaa", sum := "d48cc16a9f57b4e5b49e51ffaedf40f784b9ace4dccce5c308777c82fe56bc29", func := "callboy/callboylaw09.DequeAlone", spec := "dequeAlone", unfollowed := true, recurses := true, apart := false }
def DequeAloneSaid : Prop := dequeAloneRow.holds Try.pinned (OpenSpec.ofChange dequeAloneSpec)

/-- ITS FALSE NEIGHBOUR: 'it returns false'. Refute it at one input. -/
def dequeAloneWrong : ChangeSpec := { name := "dequeAlone", fn := fun _ => fun
  | [d1, d2] => { results := [.lit (.bool false)], args := [d1, d2] }
  | _ => none }
def DequeAloneWrongFalsely : Prop := dequeAloneRow.holds Try.pinned (OpenSpec.ofChange dequeAloneWrong)

/-- 'callboylaw09.DequePlays': WHATEVER THE INPUT: true; the input reads as it did. -/
def dequePlaysSpec : ChangeSpec := { name := "dequePlays", fn := fun _ => fun
  | [d1, d2] => { results := [.lit (.bool true)], args := [d1, d2] }
  | _ => none }
def dequePlaysRow : OpenClaim := { program := "ytldobbdaokjgaaa", sum := "d48cc16a9f57b4e5b49e51ffaedf40f784b9ace4dccce5c308777c82fe56bc29", func := "callboy/callboylaw09.DequePlays", spec := "dequePlays", unfollowed := true, recurses := true, apart := false }
def DequePlaysSaid : Prop := dequePlaysRow.holds Try.pinned (OpenSpec.ofChange dequePlaysSpec)

/-- ITS FALSE NEIGHBOUR: 'it returns false'. Refute it at one input. -/
def dequePlaysWrong : ChangeSpec := { name := "dequePlays", fn := fun _ => fun
  | [d1, d2] => { results := [.lit (.bool false)], args := [d1, d2] }
  | _ => none }
def DequePlaysWrongFalsely : Prop := dequePlaysRow.holds Try.pinned (OpenSpec.ofChange dequePlaysWrong)

/-- 'callboylaw09.DequeLinear': WHATEVER THE INPUT: true; the input reads as it did. -/
def dequeLinearSpec : ChangeSpec := { name := "dequeLinear", fn := fun _ => fun
  | [d1, d2] => { results := [.lit (.bool true)], args := [d1, d2] }
  | _ => none }
def dequeLinearRow : OpenClaim := { program := "ytldobbdaokjgaaa", sum := "d48cc16a9f57b4e5b49e51ffaedf40f784b9ace4dccce5c308777c82fe56bc29", func := "callboy/callboylaw09.DequeLinear", spec := "dequeLinear", unfollowed := true, recurses := true, apart := false }
def DequeLinearSaid : Prop := dequeLinearRow.holds Try.pinned (OpenSpec.ofChange dequeLinearSpec)

/-- ITS FALSE NEIGHBOUR: 'it returns false'. Refute it at one input. -/
def dequeLinearWrong : ChangeSpec := { name := "dequeLinear", fn := fun _ => fun
  | [d1, d2] => { results := [.lit (.bool false)], args := [d1, d2] }
  | _ => none }
def DequeLinearWrongFalsely : Prop := dequeLinearRow.holds Try.pinned (OpenSpec.ofChange dequeLinearWrong)

/-- 'callboylaw09.DequeNil': WHATEVER THE INPUT: true; the input reads as it did. -/
def dequeNilSpec : ChangeSpec := { name := "dequeNil", fn := fun _ => fun
  | [d] => { results := [.lit (.bool true)], args := [d] }
  | _ => none }
def dequeNilRow : OpenClaim := { program := "ytldobbdaokjgaaa", sum := "d48cc16a9f57b4e5b49e51ffaedf40f784b9ace4dccce5c308777c82fe56bc29", func := "callboy/callboylaw09.DequeNil", spec := "dequeNil", unfollowed := true, recurses := true, apart := false }
def DequeNilSaid : Prop := dequeNilRow.holds Try.pinned (OpenSpec.ofChange dequeNilSpec)

/-- ITS FALSE NEIGHBOUR: 'it returns false'. Refute it at one input. -/
def dequeNilWrong : ChangeSpec := { name := "dequeNil", fn := fun _ => fun
  | [d] => { results := [.lit (.bool false)], args := [d] }
  | _ => none }
def DequeNilWrongFalsely : Prop := dequeNilRow.holds Try.pinned (OpenSpec.ofChange dequeNilWrong)

/- THE SECOND FORM. 'bulk': how many values and letters a reading holds, each counted each time it is reached (what is shared counts as often as it is met; a slice's spare places count too). A statement '..UptoSaid' is the law's where the arguments, and the package variables that the reading takes, are together of bulk at most 1048576: NARROWER than '..Said'. Prove '..Said' where nothing that the law and all that it calls make is longer than what came in: it says more and counts as full. Else prove '..UptoSaid'. A law counts once. -/
mutual
def uptoBulk {H : Type} : DataW H → Nat
  | .lit (.string bytes) => bytes.length + 1
  | .lit _ => 1
  | .nil => 1
  | .ptr d => uptoBulk d + 1
  | .slice elems spare => uptoBulkAll elems + uptoBulkAll spare + 1
  | .agg parts => uptoBulkAll parts + 1
  | .iface _ d => uptoBulk d + 1
  | .map entries => uptoBulkEntries entries + 1
  | .held _ => 1
def uptoBulkAll {H : Type} : List (DataW H) → Nat
  | [] => 0
  | d :: r => uptoBulk d + uptoBulkAll r
def uptoBulkEntries {H : Type} : List (Lit × DataW H) → Nat
  | [] => 0
  | x :: r => uptoBulkEntry x + uptoBulkEntries r
def uptoBulkEntry {H : Type} : Lit × DataW H → Nat
  | (.string bytes, d) => bytes.length + uptoBulk d + 1
  | (_, d) => uptoBulk d + 1
 end
def uptoSmall : (H : Type) → List (DataW H) → Bool := fun _ ds => decide (uptoBulkAll ds ≤ 1048576)
def OpenSpec.upto (s : _root_.Go.ChangeSpec) : _root_.Go.OpenSpec := { _root_.Go.OpenSpec.ofChange s with cond := some uptoSmall }

/-- 'callboylaw09.DequeOnce', WHERE WHAT IT READS IS OF BULK AT MOST 1048576: true; the input reads as it did. -/
def dequeOnceUptoRow : OpenClaim := { program := "ytldobbdaokjgaaa", sum := "d48cc16a9f57b4e5b49e51ffaedf40f784b9ace4dccce5c308777c82fe56bc29", func := "callboy/callboylaw09.DequeOnce", spec := "dequeOnce", unfollowed := true, recurses := true, apart := false, narrowed := true }
def DequeOnceUptoSaid : Prop := dequeOnceUptoRow.holds Try.pinned (OpenSpec.upto dequeOnceSpec)

/-- 'callboylaw09.DequeFifo', WHERE WHAT IT READS IS OF BULK AT MOST 1048576: true; the input reads as it did. -/
def dequeFifoUptoRow : OpenClaim := { program := "ytldobbdaokjgaaa", sum := "d48cc16a9f57b4e5b49e51ffaedf40f784b9ace4dccce5c308777c82fe56bc29", func := "callboy/callboylaw09.DequeFifo", spec := "dequeFifo", unfollowed := true, recurses := true, apart := false, narrowed := true }
def DequeFifoUptoSaid : Prop := dequeFifoUptoRow.holds Try.pinned (OpenSpec.upto dequeFifoSpec)

/-- 'callboylaw09.DequeAlone', WHERE WHAT IT READS IS OF BULK AT MOST 1048576: true; the input reads as it did. -/
def dequeAloneUptoRow : OpenClaim := { program := "ytldobbdaokjgaaa", sum := "d48cc16a9f57b4e5b49e51ffaedf40f784b9ace4dccce5c308777c82fe56bc29", func := "callboy/callboylaw09.DequeAlone", spec := "dequeAlone", unfollowed := true, recurses := true, apart := false, narrowed := true }
def DequeAloneUptoSaid : Prop := dequeAloneUptoRow.holds Try.pinned (OpenSpec.upto dequeAloneSpec)

/-- 'callboylaw09.DequePlays', WHERE WHAT IT READS IS OF BULK AT MOST 1048576: true; the input reads as it did. -/
def dequePlaysUptoRow : OpenClaim := { program := "ytldobbdaokjgaaa", sum := "d48cc16a9f57b4e5b49e51ffaedf40f784b9ace4dccce5c308777c82fe56bc29", func := "callboy/callboylaw09.DequePlays", spec := "dequePlays", unfollowed := true, recurses := true, apart := false, narrowed := true }
def DequePlaysUptoSaid : Prop := dequePlaysUptoRow.holds Try.pinned (OpenSpec.upto dequePlaysSpec)

/-- 'callboylaw09.DequeLinear', WHERE WHAT IT READS IS OF BULK AT MOST 1048576: true; the input reads as it did. -/
def dequeLinearUptoRow : OpenClaim := { program := "ytldobbdaokjgaaa", sum := "d48cc16a9f57b4e5b49e51ffaedf40f784b9ace4dccce5c308777c82fe56bc29", func := "callboy/callboylaw09.DequeLinear", spec := "dequeLinear", unfollowed := true, recurses := true, apart := false, narrowed := true }
def DequeLinearUptoSaid : Prop := dequeLinearUptoRow.holds Try.pinned (OpenSpec.upto dequeLinearSpec)

/-- 'callboylaw09.DequeNil', WHERE WHAT IT READS IS OF BULK AT MOST 1048576: true; the input reads as it did. -/
def dequeNilUptoRow : OpenClaim := { program := "ytldobbdaokjgaaa", sum := "d48cc16a9f57b4e5b49e51ffaedf40f784b9ace4dccce5c308777c82fe56bc29", func := "callboy/callboylaw09.DequeNil", spec := "dequeNil", unfollowed := true, recurses := true, apart := false, narrowed := true }
def DequeNilUptoSaid : Prop := dequeNilUptoRow.holds Try.pinned (OpenSpec.upto dequeNilSpec)

end Rows
end Go.Proofs.Ytldobbdaokjgaaa
