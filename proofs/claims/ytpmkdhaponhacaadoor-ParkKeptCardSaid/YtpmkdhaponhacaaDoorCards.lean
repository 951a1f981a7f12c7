/-
  DERIVED. GIVEN WITH THE SEED: THE CARDS: each row of YtpmkdhaponhacaaDoorRows.lean that lists a variable, with what it lists TIED to the program's text (the seventh form; the later family's looks); each row that meets fmt, with fmt's text TOLD by the authors' own Lean function (tested against real Go, not proved from fmt's source: count such statements apart). THE CARD IS WHAT COUNTS. Prove the row's statement (the work); the ties are given (YtpmkdhaponhacaaDoorTie.lean); close each card by the builder's one call (the guide's Derived/Test/ToyasCard.lean, 'card_holds'). Laid BY PROGRAM, IN A SANDBOX (cutbox-door.mjs). By AI agents, Wed Nov 11 2026. No macro, syntax, notation, axiom, sorry.
-/
import Derived.Test.YtpmkdhaponhacaaDoorRows
import GoSem.ClaimSeven
namespace Go.Proofs.YtpmkdhaponhacaaDoor
namespace Rows

/-- THE TIED CARD OF 'callboylaw17.ParkFinds'. -/
def parkFindsCard : Claim7 := { stood := { row := parkFindsRow, standIns := [], harness := (true, "f1229ca5781421900444f25d5ab347a2dc53f1a99420968ad066f1747902c7b2"), looks := false }, kinds := [], alts := [], laidByText := true, laidKinds := [.data, .data], laidTests := true, laidLooks := .later }
def ParkFindsCardSaid : Prop := Claim7.holds Tryd.pinned (.plain (OpenSpec.ofChange parkFindsSpec)) parkFindsCard

/-- THE TIED CARD OF 'callboylaw17.ParkEach'. -/
def parkEachCard : Claim7 := { stood := { row := parkEachRow, standIns := [], harness := (true, "f1229ca5781421900444f25d5ab347a2dc53f1a99420968ad066f1747902c7b2"), looks := false }, kinds := [], alts := [], laidByText := true, laidKinds := [.data, .data], laidTests := true, laidLooks := .later }
def ParkEachCardSaid : Prop := Claim7.holds Tryd.pinned (.plain (OpenSpec.ofChange parkEachSpec)) parkEachCard

/-- THE TIED CARD OF 'callboylaw17.ParkPlays'. -/
def parkPlaysCard : Claim7 := { stood := { row := parkPlaysRow, standIns := [], harness := (true, "f1229ca5781421900444f25d5ab347a2dc53f1a99420968ad066f1747902c7b2"), looks := false }, kinds := [], alts := [], laidByText := true, laidKinds := [.data, .data], laidTests := true, laidLooks := .later }
def ParkPlaysCardSaid : Prop := Claim7.holds Tryd.pinned (.plain (OpenSpec.ofChange parkPlaysSpec)) parkPlaysCard

/-- THE TIED CARD OF 'callboylaw17.ParkKept'. -/
def parkKeptCard : Claim7 := { stood := { row := parkKeptRow, standIns := [], harness := (true, "f1229ca5781421900444f25d5ab347a2dc53f1a99420968ad066f1747902c7b2"), looks := false }, kinds := [], alts := [], laidByText := true, laidKinds := [.data, .data], laidTests := true, laidLooks := .later }
def ParkKeptCardSaid : Prop := Claim7.holds Tryd.pinned (.plain (OpenSpec.ofChange parkKeptSpec)) parkKeptCard

/-- THE TIED CARD OF 'callboylaw17.ParkCounts'. -/
def parkCountsCard : Claim7 := { stood := { row := parkCountsRow, standIns := [], harness := (true, "f1229ca5781421900444f25d5ab347a2dc53f1a99420968ad066f1747902c7b2"), looks := false }, kinds := [], alts := [], laidByText := true, laidKinds := [.data, .data], laidTests := true, laidLooks := .later }
def ParkCountsCardSaid : Prop := Claim7.holds Tryd.pinned (.plain (OpenSpec.ofChange parkCountsSpec)) parkCountsCard

/-- THE TIED CARD OF 'callboylaw17.ParkNil'. -/
def parkNilCard : Claim7 := { stood := { row := parkNilRow, standIns := [], harness := (true, "f1229ca5781421900444f25d5ab347a2dc53f1a99420968ad066f1747902c7b2"), looks := false }, kinds := [], alts := [], laidByText := true, laidKinds := [.data, .data], laidTests := true, laidLooks := .later }
def ParkNilCardSaid : Prop := Claim7.holds Tryd.pinned (.plain (OpenSpec.ofChange parkNilSpec)) parkNilCard

/-- THE SECOND FORM's CARD OF 'callboylaw17.ParkFinds'. -/
def parkFindsUptoCard : Claim7 := { stood := { row := parkFindsUptoRow, standIns := [], harness := (true, "f1229ca5781421900444f25d5ab347a2dc53f1a99420968ad066f1747902c7b2"), looks := false }, kinds := [], alts := [], laidByText := true, laidKinds := [.data, .data], laidTests := true, laidLooks := .later }
def ParkFindsUptoCardSaid : Prop := Claim7.holds Tryd.pinned (.plain (OpenSpec.upto parkFindsSpec)) parkFindsUptoCard

/-- THE SECOND FORM's CARD OF 'callboylaw17.ParkEach'. -/
def parkEachUptoCard : Claim7 := { stood := { row := parkEachUptoRow, standIns := [], harness := (true, "f1229ca5781421900444f25d5ab347a2dc53f1a99420968ad066f1747902c7b2"), looks := false }, kinds := [], alts := [], laidByText := true, laidKinds := [.data, .data], laidTests := true, laidLooks := .later }
def ParkEachUptoCardSaid : Prop := Claim7.holds Tryd.pinned (.plain (OpenSpec.upto parkEachSpec)) parkEachUptoCard

/-- THE SECOND FORM's CARD OF 'callboylaw17.ParkPlays'. -/
def parkPlaysUptoCard : Claim7 := { stood := { row := parkPlaysUptoRow, standIns := [], harness := (true, "f1229ca5781421900444f25d5ab347a2dc53f1a99420968ad066f1747902c7b2"), looks := false }, kinds := [], alts := [], laidByText := true, laidKinds := [.data, .data], laidTests := true, laidLooks := .later }
def ParkPlaysUptoCardSaid : Prop := Claim7.holds Tryd.pinned (.plain (OpenSpec.upto parkPlaysSpec)) parkPlaysUptoCard

/-- THE SECOND FORM's CARD OF 'callboylaw17.ParkKept'. -/
def parkKeptUptoCard : Claim7 := { stood := { row := parkKeptUptoRow, standIns := [], harness := (true, "f1229ca5781421900444f25d5ab347a2dc53f1a99420968ad066f1747902c7b2"), looks := false }, kinds := [], alts := [], laidByText := true, laidKinds := [.data, .data], laidTests := true, laidLooks := .later }
def ParkKeptUptoCardSaid : Prop := Claim7.holds Tryd.pinned (.plain (OpenSpec.upto parkKeptSpec)) parkKeptUptoCard

/-- THE SECOND FORM's CARD OF 'callboylaw17.ParkCounts'. -/
def parkCountsUptoCard : Claim7 := { stood := { row := parkCountsUptoRow, standIns := [], harness := (true, "f1229ca5781421900444f25d5ab347a2dc53f1a99420968ad066f1747902c7b2"), looks := false }, kinds := [], alts := [], laidByText := true, laidKinds := [.data, .data], laidTests := true, laidLooks := .later }
def ParkCountsUptoCardSaid : Prop := Claim7.holds Tryd.pinned (.plain (OpenSpec.upto parkCountsSpec)) parkCountsUptoCard

/-- THE SECOND FORM's CARD OF 'callboylaw17.ParkNil'. -/
def parkNilUptoCard : Claim7 := { stood := { row := parkNilUptoRow, standIns := [], harness := (true, "f1229ca5781421900444f25d5ab347a2dc53f1a99420968ad066f1747902c7b2"), looks := false }, kinds := [], alts := [], laidByText := true, laidKinds := [.data, .data], laidTests := true, laidLooks := .later }
def ParkNilUptoCardSaid : Prop := Claim7.holds Tryd.pinned (.plain (OpenSpec.upto parkNilSpec)) parkNilUptoCard
end Rows
end Go.Proofs.YtpmkdhaponhacaaDoor
