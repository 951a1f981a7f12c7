/-
  No cell of these rows narrows 'for every input' (looked for: loops, veiled, ifaces, maps, wideKeys, modest, calm, conditions, laid).
  DERIVED. THE GIVEN ROWS OF THIS SEAT. 4 by the template 'for every input the law returns true; each argument reads behind the call as it read before'; 0 by the template 'total and deterministic' (their statements: YtijhgegdcpmppaaTotals.lean).
  GIVEN WITH THE SEED: the statements are not yours to turn. If you find one false, say at which input.
  Laid BY PROGRAM, IN A SANDBOX (cutbox-rows.mjs): the forced cells as the released guide's own fill.sh prints them over the translation 14f4bcbd528f05d2… (all of the seat's roots in one cut). By AI agents, Wed Nov 11 2026. No macro, syntax, notation, axiom, sorry.
-/
import Derived.Test.YtijhgegdcpmppaaChecked
import GoSem.Claim
import GoSem.ClaimJoined
import GoSem.ClaimMapViews
import Derived.JoinedTies
import Derived.KernelRfl
namespace Go.Proofs.Ytijhgegdcpmppaa
/- THE CELL 'sum', in the pinned program and in every row, IS THE sha256 OF THE DUMP (.gsa) THAT YtijhgegdcpmppaaProg.lean LOADS. Nothing in Lean hashes anything: it is a label: what it is worth is what the hold of that sum in a sandbox is worth. -/
noncomputable def Try.pinned : Pinned := { name := "ytijhgegdcpmppaa", sum := "14f4bcbd528f05d2527e904ba15704297a569de8926584225149e25a0aeae773", checked := Try.checked }
namespace Rows
def none {H : Type} : Left H := { results := [], args := [] }

/-- 'callboylaw12.PidsFull': WHATEVER THE INPUT: true; the input reads as it did. -/
def pidsFullSpec : ChangeSpec := { name := "pidsFull", fn := fun _ => fun
  | [d] => { results := [.lit (.bool true)], args := [d] }
  | _ => none }
def pidsFullRow : OpenClaim := { program := "ytijhgegdcpmppaa", sum := "14f4bcbd528f05d2527e904ba15704297a569de8926584225149e25a0aeae773", func := "callboy/callboylaw12.PidsFull", spec := "pidsFull", apart := false }
def PidsFullSaid : Prop := pidsFullRow.holds Try.pinned (OpenSpec.ofChange pidsFullSpec)

/-- ITS FALSE NEIGHBOUR: 'it returns false'. Refute it at one input. -/
def pidsFullWrong : ChangeSpec := { name := "pidsFull", fn := fun _ => fun
  | [d] => { results := [.lit (.bool false)], args := [d] }
  | _ => none }
def PidsFullWrongFalsely : Prop := pidsFullRow.holds Try.pinned (OpenSpec.ofChange pidsFullWrong)

/-- 'callboylaw12.PidsPlay': WHATEVER THE INPUT: true; the input reads as it did. -/
def pidsPlaySpec : ChangeSpec := { name := "pidsPlay", fn := fun _ => fun
  | [d1, d2] => { results := [.lit (.bool true)], args := [d1, d2] }
  | _ => none }
def pidsPlayRow : OpenClaim := { program := "ytijhgegdcpmppaa", sum := "14f4bcbd528f05d2527e904ba15704297a569de8926584225149e25a0aeae773", func := "callboy/callboylaw12.PidsPlay", spec := "pidsPlay", unfollowed := true, recurses := true, apart := false }
def PidsPlaySaid : Prop := pidsPlayRow.holds Try.pinned (OpenSpec.ofChange pidsPlaySpec)

/-- ITS FALSE NEIGHBOUR: 'it returns false'. Refute it at one input. -/
def pidsPlayWrong : ChangeSpec := { name := "pidsPlay", fn := fun _ => fun
  | [d1, d2] => { results := [.lit (.bool false)], args := [d1, d2] }
  | _ => none }
def PidsPlayWrongFalsely : Prop := pidsPlayRow.holds Try.pinned (OpenSpec.ofChange pidsPlayWrong)

/-- 'callboylaw12.PidsNil': WHATEVER THE INPUT: true; the input reads as it did. -/
def pidsNilSpec : ChangeSpec := { name := "pidsNil", fn := fun _ => fun
  | [d] => { results := [.lit (.bool true)], args := [d] }
  | _ => none }
def pidsNilRow : OpenClaim := { program := "ytijhgegdcpmppaa", sum := "14f4bcbd528f05d2527e904ba15704297a569de8926584225149e25a0aeae773", func := "callboy/callboylaw12.PidsNil", spec := "pidsNil", unfollowed := true, recurses := true, apart := false }
def PidsNilSaid : Prop := pidsNilRow.holds Try.pinned (OpenSpec.ofChange pidsNilSpec)

/-- ITS FALSE NEIGHBOUR: 'it returns false'. Refute it at one input. -/
def pidsNilWrong : ChangeSpec := { name := "pidsNil", fn := fun _ => fun
  | [d] => { results := [.lit (.bool false)], args := [d] }
  | _ => none }
def PidsNilWrongFalsely : Prop := pidsNilRow.holds Try.pinned (OpenSpec.ofChange pidsNilWrong)

/-- 'callboylaw12.PidsGive': WHATEVER THE INPUT: true; the input reads as it did. -/
def pidsGiveSpec : ChangeSpec := { name := "pidsGive", fn := fun _ => fun
  | [d1, d2] => { results := [.lit (.bool true)], args := [d1, d2] }
  | _ => none }
def pidsGiveRow : OpenClaim := { program := "ytijhgegdcpmppaa", sum := "14f4bcbd528f05d2527e904ba15704297a569de8926584225149e25a0aeae773", func := "callboy/callboylaw12.PidsGive", spec := "pidsGive", unfollowed := true, recurses := true, apart := false }
def PidsGiveSaid : Prop := pidsGiveRow.holds Try.pinned (OpenSpec.ofChange pidsGiveSpec)

/-- ITS FALSE NEIGHBOUR: 'it returns false'. Refute it at one input. -/
def pidsGiveWrong : ChangeSpec := { name := "pidsGive", fn := fun _ => fun
  | [d1, d2] => { results := [.lit (.bool false)], args := [d1, d2] }
  | _ => none }
def PidsGiveWrongFalsely : Prop := pidsGiveRow.holds Try.pinned (OpenSpec.ofChange pidsGiveWrong)

/- THE SECOND FORM. 'bulk': how many values and letters a reading holds, each counted each time it is reached (what is shared counts as often as it is met; a slice's spare places count too). A statement '..UptoSaid' is the law's where the arguments, and the package variables that the reading takes, are together of bulk at most 1048576: NARROWER than '..Said'. Prove '..Said' where nothing that the law and all that it calls make is longer than what came in: it says more and counts as full. Else prove '..UptoSaid'. A law counts once. -/
mutual
def uptoBulk {H : Type} : DataW H → Nat
  | .lit (.string bytes) => bytes.length + 1
  | .lit _ => 1
  | .nil => 1
  | .ptr d => uptoBulk d + 1
  | .slice elems spare => uptoBulkAll elems + uptoBulkAll spare + 1
  | .agg parts => uptoBulkAll parts + 1
  | .iface _ d => uptoBulk d + 1
  | .map entries => uptoBulkEntries entries + 1
  | .held _ => 1
def uptoBulkAll {H : Type} : List (DataW H) → Nat
  | [] => 0
  | d :: r => uptoBulk d + uptoBulkAll r
def uptoBulkEntries {H : Type} : List (Lit × DataW H) → Nat
  | [] => 0
  | x :: r => uptoBulkEntry x + uptoBulkEntries r
def uptoBulkEntry {H : Type} : Lit × DataW H → Nat
  | (.string bytes, d) => bytes.length + uptoBulk d + 1
  | (_, d) => uptoBulk d + 1
 end
def uptoSmall : (H : Type) → List (DataW H) → Bool := fun _ ds => decide (uptoBulkAll ds ≤ 1048576)
def OpenSpec.upto (s : _root_.Go.ChangeSpec) : _root_.Go.OpenSpec := { _root_.Go.OpenSpec.ofChange s with cond := some uptoSmall }

/-- 'callboylaw12.PidsFull', WHERE WHAT IT READS IS OF BULK AT MOST 1048576: true; the input reads as it did. -/
def pidsFullUptoRow : OpenClaim := { program := "ytijhgegdcpmppaa", sum := "14f4bcbd528f05d2527e904ba15704297a569de8926584225149e25a0aeae773", func := "callboy/callboylaw12.PidsFull", spec := "pidsFull", apart := false, narrowed := true }
def PidsFullUptoSaid : Prop := pidsFullUptoRow.holds Try.pinned (OpenSpec.upto pidsFullSpec)

/-- 'callboylaw12.PidsPlay', WHERE WHAT IT READS IS OF BULK AT MOST 1048576: true; the input reads as it did. -/
def pidsPlayUptoRow : OpenClaim := { program := "ytijhgegdcpmppaa", sum := "14f4bcbd528f05d2527e904ba15704297a569de8926584225149e25a0aeae773", func := "callboy/callboylaw12.PidsPlay", spec := "pidsPlay", unfollowed := true, recurses := true, apart := false, narrowed := true }
def PidsPlayUptoSaid : Prop := pidsPlayUptoRow.holds Try.pinned (OpenSpec.upto pidsPlaySpec)

/-- 'callboylaw12.PidsNil', WHERE WHAT IT READS IS OF BULK AT MOST 1048576: true; the input reads as it did. -/
def pidsNilUptoRow : OpenClaim := { program := "ytijhgegdcpmppaa", sum := "14f4bcbd528f05d2527e904ba15704297a569de8926584225149e25a0aeae773", func := "callboy/callboylaw12.PidsNil", spec := "pidsNil", unfollowed := true, recurses := true, apart := false, narrowed := true }
def PidsNilUptoSaid : Prop := pidsNilUptoRow.holds Try.pinned (OpenSpec.upto pidsNilSpec)

/-- 'callboylaw12.PidsGive', WHERE WHAT IT READS IS OF BULK AT MOST 1048576: true; the input reads as it did. -/
def pidsGiveUptoRow : OpenClaim := { program := "ytijhgegdcpmppaa", sum := "14f4bcbd528f05d2527e904ba15704297a569de8926584225149e25a0aeae773", func := "callboy/callboylaw12.PidsGive", spec := "pidsGive", unfollowed := true, recurses := true, apart := false, narrowed := true }
def PidsGiveUptoSaid : Prop := pidsGiveUptoRow.holds Try.pinned (OpenSpec.upto pidsGiveSpec)

end Rows
end Go.Proofs.Ytijhgegdcpmppaa
