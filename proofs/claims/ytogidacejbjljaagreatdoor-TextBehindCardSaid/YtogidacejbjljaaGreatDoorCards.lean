/-
  DERIVED. GIVEN WITH THE SEED: THE CARDS: each row of YtogidacejbjljaaGreatDoorRows.lean that lists a variable, with what it lists TIED to the program's text (the seventh form; the later family's looks); each row that meets fmt, with fmt's text TOLD by the authors' own Lean function (tested against real Go, not proved from fmt's source: count such statements apart). THE CARD IS WHAT COUNTS. Prove the row's statement (the work); the ties are given (YtogidacejbjljaaGreatDoorTie.lean); close each card by the builder's one call (the guide's Derived/Test/ToyasCard.lean, 'card_holds'). Laid BY PROGRAM, IN A SANDBOX (cutbox-door.mjs). By AI agents, Wed Nov 11 2026. No macro, syntax, notation, axiom, sorry.
-/
import Derived.Test.YtogidacejbjljaaGreatDoorRows
import GoSem.ClaimSeven
namespace Go.Proofs.YtogidacejbjljaaGreatDoor
namespace Rows

/-- THE TIED CARD OF 'dioramalaw18.TextParses'. -/
def textParsesCard : Claim7 := { stood := { row := textParsesRow, standIns := [], harness := (true, "7ff31cb1ec5182cf9850d89f2ac505e1654f4dd32c0502918ba1e7e420f262f1"), looks := true }, kinds := [], alts := [], laidByText := true, laidKinds := [.data, .data, .data, .data, .sentinel, .sentinel, .pinned], laidTests := true, laidLooks := .later }
def TextParsesCardSaid : Prop := Claim7.holds Tryz.pinned (.plain (OpenSpec.ofChange textParsesSpec)) textParsesCard

/-- THE TIED CARD OF 'dioramalaw18.TextBack'. -/
def textBackCard : Claim7 := { stood := { row := textBackRow, standIns := [], harness := (true, "7ff31cb1ec5182cf9850d89f2ac505e1654f4dd32c0502918ba1e7e420f262f1"), looks := true }, kinds := [], alts := [], laidByText := true, laidKinds := [.data, .data, .data, .data, .sentinel, .sentinel, .pinned], laidTests := true, laidLooks := .later }
def TextBackCardSaid : Prop := Claim7.holds Tryz.pinned (.plain (OpenSpec.ofChange textBackSpec)) textBackCard

/-- THE TIED CARD OF 'dioramalaw18.TextSame'. -/
def textSameCard : Claim7 := { stood := { row := textSameRow, standIns := [], harness := (true, "7ff31cb1ec5182cf9850d89f2ac505e1654f4dd32c0502918ba1e7e420f262f1"), looks := true }, kinds := [], alts := [], laidByText := true, laidKinds := [.data, .data, .data, .data, .sentinel, .sentinel, .pinned], laidTests := true, laidLooks := .later }
def TextSameCardSaid : Prop := Claim7.holds Tryz.pinned (.plain (OpenSpec.ofChange textSameSpec)) textSameCard

/-- THE TIED CARD OF 'dioramalaw18.TextFormats'. -/
def textFormatsCard : Claim7 := { stood := { row := textFormatsRow, standIns := [], harness := (true, "7ff31cb1ec5182cf9850d89f2ac505e1654f4dd32c0502918ba1e7e420f262f1"), looks := true }, kinds := [], alts := [], laidByText := true, laidKinds := [.data, .data, .data, .data, .sentinel, .sentinel, .pinned], laidTests := true, laidLooks := .later }
def TextFormatsCardSaid : Prop := Claim7.holds Tryz.pinned (.plain (OpenSpec.ofChange textFormatsSpec)) textFormatsCard

/-- THE TIED CARD OF 'dioramalaw18.TextChecks'. -/
def textChecksCard : Claim7 := { stood := { row := textChecksRow, standIns := [], harness := (true, "7ff31cb1ec5182cf9850d89f2ac505e1654f4dd32c0502918ba1e7e420f262f1"), looks := true }, kinds := [], alts := [], laidByText := true, laidKinds := [.data, .data, .data, .data, .sentinel, .sentinel, .pinned], laidTests := true, laidLooks := .later }
def TextChecksCardSaid : Prop := Claim7.holds Tryz.pinned (.plain (OpenSpec.ofChange textChecksSpec)) textChecksCard

/-- THE TIED CARD OF 'dioramalaw18.TextBreaks'. -/
def textBreaksCard : Claim7 := { stood := { row := textBreaksRow, standIns := [], harness := (true, "7ff31cb1ec5182cf9850d89f2ac505e1654f4dd32c0502918ba1e7e420f262f1"), looks := true }, kinds := [], alts := [], laidByText := true, laidKinds := [.data, .data, .data, .data, .sentinel, .sentinel, .pinned], laidTests := true, laidLooks := .later }
def TextBreaksCardSaid : Prop := Claim7.holds Tryz.pinned (.plain (OpenSpec.ofChange textBreaksSpec)) textBreaksCard

/-- THE TIED CARD OF 'dioramalaw18.TextWords'. -/
def textWordsCard : Claim7 := { stood := { row := textWordsRow, standIns := [], harness := (true, "7ff31cb1ec5182cf9850d89f2ac505e1654f4dd32c0502918ba1e7e420f262f1"), looks := true }, kinds := [], alts := [], laidByText := true, laidKinds := [.data, .data, .data, .data, .sentinel, .sentinel, .pinned], laidTests := true, laidLooks := .later }
def TextWordsCardSaid : Prop := Claim7.holds Tryz.pinned (.plain (OpenSpec.ofChange textWordsSpec)) textWordsCard

/-- THE TIED CARD OF 'dioramalaw18.TextLays'. -/
def textLaysCard : Claim7 := { stood := { row := textLaysRow, standIns := [], harness := (true, "7ff31cb1ec5182cf9850d89f2ac505e1654f4dd32c0502918ba1e7e420f262f1"), looks := true }, kinds := [], alts := [], laidByText := true, laidKinds := [.data, .data, .data, .data, .sentinel, .sentinel, .pinned], laidTests := true, laidLooks := .later }
def TextLaysCardSaid : Prop := Claim7.holds Tryz.pinned (.plain (OpenSpec.ofChange textLaysSpec)) textLaysCard

/-- THE TIED CARD OF 'dioramalaw18.TextApart'. -/
def textApartCard : Claim7 := { stood := { row := textApartRow, standIns := [], harness := (true, "7ff31cb1ec5182cf9850d89f2ac505e1654f4dd32c0502918ba1e7e420f262f1"), looks := true }, kinds := [], alts := [], laidByText := true, laidKinds := [.data, .data, .data, .data, .sentinel, .sentinel, .pinned], laidTests := true, laidLooks := .later }
def TextApartCardSaid : Prop := Claim7.holds Tryz.pinned (.plain (OpenSpec.ofChange textApartSpec)) textApartCard

/-- THE TIED CARD OF 'dioramalaw18.TextBehind'. -/
def textBehindCard : Claim7 := { stood := { row := textBehindRow, standIns := [], harness := (true, "7ff31cb1ec5182cf9850d89f2ac505e1654f4dd32c0502918ba1e7e420f262f1"), looks := true }, kinds := [], alts := [], laidByText := true, laidKinds := [.data, .data, .data, .data, .sentinel, .sentinel, .pinned], laidTests := true, laidLooks := .later }
def TextBehindCardSaid : Prop := Claim7.holds Tryz.pinned (.plain (OpenSpec.ofChange textBehindSpec)) textBehindCard

/-- THE SECOND FORM's CARD OF 'dioramalaw18.TextParses'. -/
def textParsesUptoCard : Claim7 := { stood := { row := textParsesUptoRow, standIns := [], harness := (true, "7ff31cb1ec5182cf9850d89f2ac505e1654f4dd32c0502918ba1e7e420f262f1"), looks := true }, kinds := [], alts := [], laidByText := true, laidKinds := [.data, .data, .data, .data, .sentinel, .sentinel, .pinned], laidTests := true, laidLooks := .later }
def TextParsesUptoCardSaid : Prop := Claim7.holds Tryz.pinned (.plain (OpenSpec.upto textParsesSpec)) textParsesUptoCard

/-- THE SECOND FORM's CARD OF 'dioramalaw18.TextBack'. -/
def textBackUptoCard : Claim7 := { stood := { row := textBackUptoRow, standIns := [], harness := (true, "7ff31cb1ec5182cf9850d89f2ac505e1654f4dd32c0502918ba1e7e420f262f1"), looks := true }, kinds := [], alts := [], laidByText := true, laidKinds := [.data, .data, .data, .data, .sentinel, .sentinel, .pinned], laidTests := true, laidLooks := .later }
def TextBackUptoCardSaid : Prop := Claim7.holds Tryz.pinned (.plain (OpenSpec.upto textBackSpec)) textBackUptoCard

/-- THE SECOND FORM's CARD OF 'dioramalaw18.TextSame'. -/
def textSameUptoCard : Claim7 := { stood := { row := textSameUptoRow, standIns := [], harness := (true, "7ff31cb1ec5182cf9850d89f2ac505e1654f4dd32c0502918ba1e7e420f262f1"), looks := true }, kinds := [], alts := [], laidByText := true, laidKinds := [.data, .data, .data, .data, .sentinel, .sentinel, .pinned], laidTests := true, laidLooks := .later }
def TextSameUptoCardSaid : Prop := Claim7.holds Tryz.pinned (.plain (OpenSpec.upto textSameSpec)) textSameUptoCard

/-- THE SECOND FORM's CARD OF 'dioramalaw18.TextFormats'. -/
def textFormatsUptoCard : Claim7 := { stood := { row := textFormatsUptoRow, standIns := [], harness := (true, "7ff31cb1ec5182cf9850d89f2ac505e1654f4dd32c0502918ba1e7e420f262f1"), looks := true }, kinds := [], alts := [], laidByText := true, laidKinds := [.data, .data, .data, .data, .sentinel, .sentinel, .pinned], laidTests := true, laidLooks := .later }
def TextFormatsUptoCardSaid : Prop := Claim7.holds Tryz.pinned (.plain (OpenSpec.upto textFormatsSpec)) textFormatsUptoCard

/-- THE SECOND FORM's CARD OF 'dioramalaw18.TextChecks'. -/
def textChecksUptoCard : Claim7 := { stood := { row := textChecksUptoRow, standIns := [], harness := (true, "7ff31cb1ec5182cf9850d89f2ac505e1654f4dd32c0502918ba1e7e420f262f1"), looks := true }, kinds := [], alts := [], laidByText := true, laidKinds := [.data, .data, .data, .data, .sentinel, .sentinel, .pinned], laidTests := true, laidLooks := .later }
def TextChecksUptoCardSaid : Prop := Claim7.holds Tryz.pinned (.plain (OpenSpec.upto textChecksSpec)) textChecksUptoCard

/-- THE SECOND FORM's CARD OF 'dioramalaw18.TextBreaks'. -/
def textBreaksUptoCard : Claim7 := { stood := { row := textBreaksUptoRow, standIns := [], harness := (true, "7ff31cb1ec5182cf9850d89f2ac505e1654f4dd32c0502918ba1e7e420f262f1"), looks := true }, kinds := [], alts := [], laidByText := true, laidKinds := [.data, .data, .data, .data, .sentinel, .sentinel, .pinned], laidTests := true, laidLooks := .later }
def TextBreaksUptoCardSaid : Prop := Claim7.holds Tryz.pinned (.plain (OpenSpec.upto textBreaksSpec)) textBreaksUptoCard

/-- THE SECOND FORM's CARD OF 'dioramalaw18.TextWords'. -/
def textWordsUptoCard : Claim7 := { stood := { row := textWordsUptoRow, standIns := [], harness := (true, "7ff31cb1ec5182cf9850d89f2ac505e1654f4dd32c0502918ba1e7e420f262f1"), looks := true }, kinds := [], alts := [], laidByText := true, laidKinds := [.data, .data, .data, .data, .sentinel, .sentinel, .pinned], laidTests := true, laidLooks := .later }
def TextWordsUptoCardSaid : Prop := Claim7.holds Tryz.pinned (.plain (OpenSpec.upto textWordsSpec)) textWordsUptoCard

/-- THE SECOND FORM's CARD OF 'dioramalaw18.TextLays'. -/
def textLaysUptoCard : Claim7 := { stood := { row := textLaysUptoRow, standIns := [], harness := (true, "7ff31cb1ec5182cf9850d89f2ac505e1654f4dd32c0502918ba1e7e420f262f1"), looks := true }, kinds := [], alts := [], laidByText := true, laidKinds := [.data, .data, .data, .data, .sentinel, .sentinel, .pinned], laidTests := true, laidLooks := .later }
def TextLaysUptoCardSaid : Prop := Claim7.holds Tryz.pinned (.plain (OpenSpec.upto textLaysSpec)) textLaysUptoCard

/-- THE SECOND FORM's CARD OF 'dioramalaw18.TextApart'. -/
def textApartUptoCard : Claim7 := { stood := { row := textApartUptoRow, standIns := [], harness := (true, "7ff31cb1ec5182cf9850d89f2ac505e1654f4dd32c0502918ba1e7e420f262f1"), looks := true }, kinds := [], alts := [], laidByText := true, laidKinds := [.data, .data, .data, .data, .sentinel, .sentinel, .pinned], laidTests := true, laidLooks := .later }
def TextApartUptoCardSaid : Prop := Claim7.holds Tryz.pinned (.plain (OpenSpec.upto textApartSpec)) textApartUptoCard

/-- THE SECOND FORM's CARD OF 'dioramalaw18.TextBehind'. -/
def textBehindUptoCard : Claim7 := { stood := { row := textBehindUptoRow, standIns := [], harness := (true, "7ff31cb1ec5182cf9850d89f2ac505e1654f4dd32c0502918ba1e7e420f262f1"), looks := true }, kinds := [], alts := [], laidByText := true, laidKinds := [.data, .data, .data, .data, .sentinel, .sentinel, .pinned], laidTests := true, laidLooks := .later }
def TextBehindUptoCardSaid : Prop := Claim7.holds Tryz.pinned (.plain (OpenSpec.upto textBehindSpec)) textBehindUptoCard
end Rows
end Go.Proofs.YtogidacejbjljaaGreatDoor
