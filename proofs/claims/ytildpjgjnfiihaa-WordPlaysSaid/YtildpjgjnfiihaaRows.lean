/-
  No cell of these rows narrows 'for every input' (looked for: loops, veiled, ifaces, maps, wideKeys, modest, calm, conditions, laid).
  DERIVED. THE GIVEN ROWS OF THIS SEAT. 6 by the template 'for every input the law returns true; each argument reads behind the call as it read before'; 0 by the template 'total and deterministic' (their statements: YtildpjgjnfiihaaTotals.lean).
  GIVEN WITH THE SEED: the statements are not yours to turn. If you find one false, say at which input.
  Laid BY PROGRAM, IN A SANDBOX (cutbox-rows.mjs): the forced cells as the released guide's own fill.sh prints them over the translation 6ecbee2fdf8eca64… (all of the seat's roots in one cut). By AI agents, Wed Nov 11 2026. No macro, syntax, notation, axiom, sorry.
-/
import Derived.Test.YtildpjgjnfiihaaChecked
import GoSem.Claim
import GoSem.ClaimJoined
import GoSem.ClaimMapViews
import Derived.JoinedTies
import Derived.KernelRfl
namespace Go.Proofs.Ytildpjgjnfiihaa
/- THE CELL 'sum', in the pinned program and in every row, IS THE sha256 OF THE DUMP (.gsa) THAT YtildpjgjnfiihaaProg.lean LOADS. Nothing in Lean hashes anything: it is a label: what it is worth is what the hold of that sum in a sandbox is worth. -/
noncomputable def Try.pinned : Pinned := { name := "ytildpjgjnfiihaa", sum := "6ecbee2fdf8eca642606761410188c204808fa217bb922d48871a47a95601f00", checked := Try.checked }
namespace Rows
def none {H : Type} : Left H := { results := [], args := [] }

/-- 'callboylaw11.WordKept': WHATEVER THE INPUT: true; the input reads as it did. -/
def wordKeptSpec : ChangeSpec := { name := "wordKept", fn := fun _ => fun
  | [d1, d2] => { results := [.lit (.bool true)], args := [d1, d2] }
  | _ => none }
def wordKeptRow : OpenClaim := { program := "ytildpjgjnfiihaa", sum := "6ecbee2fdf8eca642606761410188c204808fa217bb922d48871a47a95601f00", func := "callboy/callboylaw11.WordKept", spec := "wordKept", unfollowed := true, recurses := true, apart := false }
def WordKeptSaid : Prop := wordKeptRow.holds Try.pinned (OpenSpec.ofChange wordKeptSpec)

/-- ITS FALSE NEIGHBOUR: 'it returns false'. Refute it at one input. -/
def wordKeptWrong : ChangeSpec := { name := "wordKept", fn := fun _ => fun
  | [d1, d2] => { results := [.lit (.bool false)], args := [d1, d2] }
  | _ => none }
def WordKeptWrongFalsely : Prop := wordKeptRow.holds Try.pinned (OpenSpec.ofChange wordKeptWrong)

/-- 'callboylaw11.WordPlays': WHATEVER THE INPUT: true; the input reads as it did. -/
def wordPlaysSpec : ChangeSpec := { name := "wordPlays", fn := fun _ => fun
  | [d] => { results := [.lit (.bool true)], args := [d] }
  | _ => none }
def wordPlaysRow : OpenClaim := { program := "ytildpjgjnfiihaa", sum := "6ecbee2fdf8eca642606761410188c204808fa217bb922d48871a47a95601f00", func := "callboy/callboylaw11.WordPlays", spec := "wordPlays", unfollowed := true, recurses := true, apart := false }
def WordPlaysSaid : Prop := wordPlaysRow.holds Try.pinned (OpenSpec.ofChange wordPlaysSpec)

/-- ITS FALSE NEIGHBOUR: 'it returns false'. Refute it at one input. -/
def wordPlaysWrong : ChangeSpec := { name := "wordPlays", fn := fun _ => fun
  | [d] => { results := [.lit (.bool false)], args := [d] }
  | _ => none }
def WordPlaysWrongFalsely : Prop := wordPlaysRow.holds Try.pinned (OpenSpec.ofChange wordPlaysWrong)

/-- 'callboylaw11.WordOnce': WHATEVER THE INPUT: true; the input reads as it did. -/
def wordOnceSpec : ChangeSpec := { name := "wordOnce", fn := fun _ => fun
  | [d] => { results := [.lit (.bool true)], args := [d] }
  | _ => none }
def wordOnceRow : OpenClaim := { program := "ytildpjgjnfiihaa", sum := "6ecbee2fdf8eca642606761410188c204808fa217bb922d48871a47a95601f00", func := "callboy/callboylaw11.WordOnce", spec := "wordOnce", unfollowed := true, recurses := true, apart := false }
def WordOnceSaid : Prop := wordOnceRow.holds Try.pinned (OpenSpec.ofChange wordOnceSpec)

/-- ITS FALSE NEIGHBOUR: 'it returns false'. Refute it at one input. -/
def wordOnceWrong : ChangeSpec := { name := "wordOnce", fn := fun _ => fun
  | [d] => { results := [.lit (.bool false)], args := [d] }
  | _ => none }
def WordOnceWrongFalsely : Prop := wordOnceRow.holds Try.pinned (OpenSpec.ofChange wordOnceWrong)

/-- 'callboylaw11.WordLost': WHATEVER THE INPUT: true; the input reads as it did. -/
def wordLostSpec : ChangeSpec := { name := "wordLost", fn := fun _ => fun
  | [d] => { results := [.lit (.bool true)], args := [d] }
  | _ => none }
def wordLostRow : OpenClaim := { program := "ytildpjgjnfiihaa", sum := "6ecbee2fdf8eca642606761410188c204808fa217bb922d48871a47a95601f00", func := "callboy/callboylaw11.WordLost", spec := "wordLost", unfollowed := true, recurses := true, apart := false }
def WordLostSaid : Prop := wordLostRow.holds Try.pinned (OpenSpec.ofChange wordLostSpec)

/-- ITS FALSE NEIGHBOUR: 'it returns false'. Refute it at one input. -/
def wordLostWrong : ChangeSpec := { name := "wordLost", fn := fun _ => fun
  | [d] => { results := [.lit (.bool false)], args := [d] }
  | _ => none }
def WordLostWrongFalsely : Prop := wordLostRow.holds Try.pinned (OpenSpec.ofChange wordLostWrong)

/-- 'callboylaw11.WordDead': WHATEVER THE INPUT: true; the input reads as it did. -/
def wordDeadSpec : ChangeSpec := { name := "wordDead", fn := fun _ => fun
  | [d1, d2] => { results := [.lit (.bool true)], args := [d1, d2] }
  | _ => none }
def wordDeadRow : OpenClaim := { program := "ytildpjgjnfiihaa", sum := "6ecbee2fdf8eca642606761410188c204808fa217bb922d48871a47a95601f00", func := "callboy/callboylaw11.WordDead", spec := "wordDead", unfollowed := true, recurses := true, apart := false }
def WordDeadSaid : Prop := wordDeadRow.holds Try.pinned (OpenSpec.ofChange wordDeadSpec)

/-- ITS FALSE NEIGHBOUR: 'it returns false'. Refute it at one input. -/
def wordDeadWrong : ChangeSpec := { name := "wordDead", fn := fun _ => fun
  | [d1, d2] => { results := [.lit (.bool false)], args := [d1, d2] }
  | _ => none }
def WordDeadWrongFalsely : Prop := wordDeadRow.holds Try.pinned (OpenSpec.ofChange wordDeadWrong)

/-- 'callboylaw11.WordNil': WHATEVER THE INPUT: true; the input reads as it did. -/
def wordNilSpec : ChangeSpec := { name := "wordNil", fn := fun _ => fun
  | [d] => { results := [.lit (.bool true)], args := [d] }
  | _ => none }
def wordNilRow : OpenClaim := { program := "ytildpjgjnfiihaa", sum := "6ecbee2fdf8eca642606761410188c204808fa217bb922d48871a47a95601f00", func := "callboy/callboylaw11.WordNil", spec := "wordNil", unfollowed := true, recurses := true, apart := false }
def WordNilSaid : Prop := wordNilRow.holds Try.pinned (OpenSpec.ofChange wordNilSpec)

/-- ITS FALSE NEIGHBOUR: 'it returns false'. Refute it at one input. -/
def wordNilWrong : ChangeSpec := { name := "wordNil", fn := fun _ => fun
  | [d] => { results := [.lit (.bool false)], args := [d] }
  | _ => none }
def WordNilWrongFalsely : Prop := wordNilRow.holds Try.pinned (OpenSpec.ofChange wordNilWrong)

/- THE SECOND FORM. 'bulk': how many values and letters a reading holds, each counted each time it is reached (what is shared counts as often as it is met; a slice's spare places count too). A statement '..UptoSaid' is the law's where the arguments, and the package variables that the reading takes, are together of bulk at most 1048576: NARROWER than '..Said'. Prove '..Said' where nothing that the law and all that it calls make is longer than what came in: it says more and counts as full. Else prove '..UptoSaid'. A law counts once. -/
mutual
def uptoBulk {H : Type} : DataW H → Nat
  | .lit (.string bytes) => bytes.length + 1
  | .lit _ => 1
  | .nil => 1
  | .ptr d => uptoBulk d + 1
  | .slice elems spare => uptoBulkAll elems + uptoBulkAll spare + 1
  | .agg parts => uptoBulkAll parts + 1
  | .iface _ d => uptoBulk d + 1
  | .map entries => uptoBulkEntries entries + 1
  | .held _ => 1
def uptoBulkAll {H : Type} : List (DataW H) → Nat
  | [] => 0
  | d :: r => uptoBulk d + uptoBulkAll r
def uptoBulkEntries {H : Type} : List (Lit × DataW H) → Nat
  | [] => 0
  | x :: r => uptoBulkEntry x + uptoBulkEntries r
def uptoBulkEntry {H : Type} : Lit × DataW H → Nat
  | (.string bytes, d) => bytes.length + uptoBulk d + 1
  | (_, d) => uptoBulk d + 1
 end
def uptoSmall : (H : Type) → List (DataW H) → Bool := fun _ ds => decide (uptoBulkAll ds ≤ 1048576)
def OpenSpec.upto (s : _root_.Go.ChangeSpec) : _root_.Go.OpenSpec := { _root_.Go.OpenSpec.ofChange s with cond := some uptoSmall }

/-- 'callboylaw11.WordKept', WHERE WHAT IT READS IS OF BULK AT MOST 1048576: true; the input reads as it did. -/
def wordKeptUptoRow : OpenClaim := { program := "ytildpjgjnfiihaa", sum := "6ecbee2fdf8eca642606761410188c204808fa217bb922d48871a47a95601f00", func := "callboy/callboylaw11.WordKept", spec := "wordKept", unfollowed := true, recurses := true, apart := false, narrowed := true }
def WordKeptUptoSaid : Prop := wordKeptUptoRow.holds Try.pinned (OpenSpec.upto wordKeptSpec)

/-- 'callboylaw11.WordPlays', WHERE WHAT IT READS IS OF BULK AT MOST 1048576: true; the input reads as it did. -/
def wordPlaysUptoRow : OpenClaim := { program := "ytildpjgjnfiihaa", sum := "6ecbee2fdf8eca642606761410188c204808fa217bb922d48871a47a95601f00", func := "callboy/callboylaw11.WordPlays", spec := "wordPlays", unfollowed := true, recurses := true, apart := false, narrowed := true }
def WordPlaysUptoSaid : Prop := wordPlaysUptoRow.holds Try.pinned (OpenSpec.upto wordPlaysSpec)

/-- 'callboylaw11.WordOnce', WHERE WHAT IT READS IS OF BULK AT MOST 1048576: true; the input reads as it did. -/
def wordOnceUptoRow : OpenClaim := { program := "ytildpjgjnfiihaa", sum := "6ecbee2fdf8eca642606761410188c204808fa217bb922d48871a47a95601f00", func := "callboy/callboylaw11.WordOnce", spec := "wordOnce", unfollowed := true, recurses := true, apart := false, narrowed := true }
def WordOnceUptoSaid : Prop := wordOnceUptoRow.holds Try.pinned (OpenSpec.upto wordOnceSpec)

/-- 'callboylaw11.WordLost', WHERE WHAT IT READS IS OF BULK AT MOST 1048576: true; the input reads as it did. -/
def wordLostUptoRow : OpenClaim := { program := "ytildpjgjnfiihaa", sum := "6ecbee2fdf8eca642606761410188c204808fa217bb922d48871a47a95601f00", func := "callboy/callboylaw11.WordLost", spec := "wordLost", unfollowed := true, recurses := true, apart := false, narrowed := true }
def WordLostUptoSaid : Prop := wordLostUptoRow.holds Try.pinned (OpenSpec.upto wordLostSpec)

/-- 'callboylaw11.WordDead', WHERE WHAT IT READS IS OF BULK AT MOST 1048576: true; the input reads as it did. -/
def wordDeadUptoRow : OpenClaim := { program := "ytildpjgjnfiihaa", sum := "6ecbee2fdf8eca642606761410188c204808fa217bb922d48871a47a95601f00", func := "callboy/callboylaw11.WordDead", spec := "wordDead", unfollowed := true, recurses := true, apart := false, narrowed := true }
def WordDeadUptoSaid : Prop := wordDeadUptoRow.holds Try.pinned (OpenSpec.upto wordDeadSpec)

/-- 'callboylaw11.WordNil', WHERE WHAT IT READS IS OF BULK AT MOST 1048576: true; the input reads as it did. -/
def wordNilUptoRow : OpenClaim := { program := "ytildpjgjnfiihaa", sum := "6ecbee2fdf8eca642606761410188c204808fa217bb922d48871a47a95601f00", func := "callboy/callboylaw11.WordNil", spec := "wordNil", unfollowed := true, recurses := true, apart := false, narrowed := true }
def WordNilUptoSaid : Prop := wordNilUptoRow.holds Try.pinned (OpenSpec.upto wordNilSpec)

end Rows
end Go.Proofs.Ytildpjgjnfiihaa
