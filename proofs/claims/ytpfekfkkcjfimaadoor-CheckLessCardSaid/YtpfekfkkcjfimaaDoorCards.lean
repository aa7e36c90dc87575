/-
  DERIVED. GIVEN WITH THE SEED: THE CARDS: each row of YtpfekfkkcjfimaaDoorRows.lean that lists a variable, with what it lists TIED to the program's text (the seventh form; the later family's looks); each row that meets fmt, with fmt's text TOLD by the authors' own Lean function (tested against real Go, not proved from fmt's source: count such statements apart). THE CARD IS WHAT COUNTS. Prove the row's statement (the work); the ties are given (YtpfekfkkcjfimaaDoorTie.lean); close each card by the builder's one call (the guide's Derived/Test/ToyasCard.lean, 'card_holds'). Laid BY PROGRAM, IN A SANDBOX (cutbox-door.mjs). By AI agents, Wed Nov 11 2026. No macro, syntax, notation, axiom, sorry.
-/
import Derived.Test.YtpfekfkkcjfimaaDoorRows
import GoSem.ClaimSeven
namespace Go.Proofs.YtpfekfkkcjfimaaDoor
namespace Rows

/-- THE TIED CARD OF 'alibilaw20.CheckLess'. -/
def checkLessCard : Claim7 := { stood := { row := checkLessRow, standIns := [], harness := (true, "e12dba52f8aa83f31265e53ec67871eab3abff80a46d7e8ccdf46b6c8a88bd95"), looks := true }, kinds := [], alts := [], laidByText := true, laidKinds := [.data], laidTests := true, laidLooks := .later }
def CheckLessCardSaid : Prop := Claim7.holds Tryd.pinned (.plain (OpenSpec.ofChange checkLessSpec)) checkLessCard

/-- THE TIED CARD OF 'alibilaw20.CheckFirst'. -/
def checkFirstCard : Claim7 := { stood := { row := checkFirstRow, standIns := [], harness := (true, "e12dba52f8aa83f31265e53ec67871eab3abff80a46d7e8ccdf46b6c8a88bd95"), looks := true }, kinds := [], alts := [], laidByText := true, laidKinds := [.data], laidTests := true, laidLooks := .later }
def CheckFirstCardSaid : Prop := Claim7.holds Tryd.pinned (.plain (OpenSpec.ofChange checkFirstSpec)) checkFirstCard

/-- THE TIED CARD OF 'alibilaw25.ClassBuilds'. -/
def classBuildsCard : Claim7 := { stood := { row := classBuildsRow, standIns := [], harness := (true, "e12dba52f8aa83f31265e53ec67871eab3abff80a46d7e8ccdf46b6c8a88bd95"), looks := true }, kinds := [], alts := [], laidByText := true, laidKinds := [.data, .data], laidTests := true, laidLooks := .later }
def ClassBuildsCardSaid : Prop := Claim7.holds Tryd.pinned (.plain (OpenSpec.ofChange classBuildsSpec)) classBuildsCard

/-- THE TIED CARD OF 'alibilaw08.TextPrints'. -/
def textPrintsCard : Claim7 := { stood := { row := textPrintsRow, standIns := [], harness := (true, "e12dba52f8aa83f31265e53ec67871eab3abff80a46d7e8ccdf46b6c8a88bd95"), looks := true }, kinds := [], alts := [], laidByText := true, laidKinds := [.data, .data, .data, .data, .widerDeep, .pinned], laidTests := true, laidLooks := .later }
def TextPrintsCardSaid : Prop := Claim7.holds Tryd.pinned (.plain (OpenSpec.ofChange textPrintsSpec)) textPrintsCard

/-- THE TIED CARD OF 'alibilaw08.TextBack'. -/
def textBackCard : Claim7 := { stood := { row := textBackRow, standIns := [], harness := (true, "e12dba52f8aa83f31265e53ec67871eab3abff80a46d7e8ccdf46b6c8a88bd95"), looks := true }, kinds := [], alts := [], laidByText := true, laidKinds := [.data, .data, .data, .data, .widerDeep, .pinned], laidTests := true, laidLooks := .later }
def TextBackCardSaid : Prop := Claim7.holds Tryd.pinned (.plain (OpenSpec.ofChange textBackSpec)) textBackCard

/-- THE TIED CARD OF 'alibilaw08.TextCode'. -/
def textCodeCard : Claim7 := { stood := { row := textCodeRow, standIns := [], harness := (true, "e12dba52f8aa83f31265e53ec67871eab3abff80a46d7e8ccdf46b6c8a88bd95"), looks := true }, kinds := [], alts := [], laidByText := true, laidKinds := [.data, .data, .data, .data, .widerDeep, .pinned], laidTests := true, laidLooks := .later }
def TextCodeCardSaid : Prop := Claim7.holds Tryd.pinned (.plain (OpenSpec.ofChange textCodeSpec)) textCodeCard

/-- THE TIED CARD OF 'alibilaw25.ClassHas'. -/
def classHasCard : Claim7 := { stood := { row := classHasRow, standIns := [], harness := (true, "e12dba52f8aa83f31265e53ec67871eab3abff80a46d7e8ccdf46b6c8a88bd95"), looks := true }, kinds := [], alts := [], laidByText := true, laidKinds := [.data, .data], laidTests := true, laidLooks := .later }
def ClassHasCardSaid : Prop := Claim7.holds Tryd.pinned (.plain (OpenSpec.ofChange classHasSpec)) classHasCard

/-- THE SECOND FORM's CARD OF 'alibilaw20.CheckLess'. -/
def checkLessUptoCard : Claim7 := { stood := { row := checkLessUptoRow, standIns := [], harness := (true, "e12dba52f8aa83f31265e53ec67871eab3abff80a46d7e8ccdf46b6c8a88bd95"), looks := true }, kinds := [], alts := [], laidByText := true, laidKinds := [.data], laidTests := true, laidLooks := .later }
def CheckLessUptoCardSaid : Prop := Claim7.holds Tryd.pinned (.plain (OpenSpec.upto checkLessSpec)) checkLessUptoCard

/-- THE SECOND FORM's CARD OF 'alibilaw20.CheckFirst'. -/
def checkFirstUptoCard : Claim7 := { stood := { row := checkFirstUptoRow, standIns := [], harness := (true, "e12dba52f8aa83f31265e53ec67871eab3abff80a46d7e8ccdf46b6c8a88bd95"), looks := true }, kinds := [], alts := [], laidByText := true, laidKinds := [.data], laidTests := true, laidLooks := .later }
def CheckFirstUptoCardSaid : Prop := Claim7.holds Tryd.pinned (.plain (OpenSpec.upto checkFirstSpec)) checkFirstUptoCard

/-- THE SECOND FORM's CARD OF 'alibilaw25.ClassBuilds'. -/
def classBuildsUptoCard : Claim7 := { stood := { row := classBuildsUptoRow, standIns := [], harness := (true, "e12dba52f8aa83f31265e53ec67871eab3abff80a46d7e8ccdf46b6c8a88bd95"), looks := true }, kinds := [], alts := [], laidByText := true, laidKinds := [.data, .data], laidTests := true, laidLooks := .later }
def ClassBuildsUptoCardSaid : Prop := Claim7.holds Tryd.pinned (.plain (OpenSpec.upto classBuildsSpec)) classBuildsUptoCard

/-- THE SECOND FORM's CARD OF 'alibilaw08.TextPrints'. -/
def textPrintsUptoCard : Claim7 := { stood := { row := textPrintsUptoRow, standIns := [], harness := (true, "e12dba52f8aa83f31265e53ec67871eab3abff80a46d7e8ccdf46b6c8a88bd95"), looks := true }, kinds := [], alts := [], laidByText := true, laidKinds := [.data, .data, .data, .data, .widerDeep, .pinned], laidTests := true, laidLooks := .later }
def TextPrintsUptoCardSaid : Prop := Claim7.holds Tryd.pinned (.plain (OpenSpec.upto textPrintsSpec)) textPrintsUptoCard

/-- THE SECOND FORM's CARD OF 'alibilaw08.TextBack'. -/
def textBackUptoCard : Claim7 := { stood := { row := textBackUptoRow, standIns := [], harness := (true, "e12dba52f8aa83f31265e53ec67871eab3abff80a46d7e8ccdf46b6c8a88bd95"), looks := true }, kinds := [], alts := [], laidByText := true, laidKinds := [.data, .data, .data, .data, .widerDeep, .pinned], laidTests := true, laidLooks := .later }
def TextBackUptoCardSaid : Prop := Claim7.holds Tryd.pinned (.plain (OpenSpec.upto textBackSpec)) textBackUptoCard

/-- THE SECOND FORM's CARD OF 'alibilaw08.TextCode'. -/
def textCodeUptoCard : Claim7 := { stood := { row := textCodeUptoRow, standIns := [], harness := (true, "e12dba52f8aa83f31265e53ec67871eab3abff80a46d7e8ccdf46b6c8a88bd95"), looks := true }, kinds := [], alts := [], laidByText := true, laidKinds := [.data, .data, .data, .data, .widerDeep, .pinned], laidTests := true, laidLooks := .later }
def TextCodeUptoCardSaid : Prop := Claim7.holds Tryd.pinned (.plain (OpenSpec.upto textCodeSpec)) textCodeUptoCard

/-- THE SECOND FORM's CARD OF 'alibilaw25.ClassHas'. -/
def classHasUptoCard : Claim7 := { stood := { row := classHasUptoRow, standIns := [], harness := (true, "e12dba52f8aa83f31265e53ec67871eab3abff80a46d7e8ccdf46b6c8a88bd95"), looks := true }, kinds := [], alts := [], laidByText := true, laidKinds := [.data, .data], laidTests := true, laidLooks := .later }
def ClassHasUptoCardSaid : Prop := Claim7.holds Tryd.pinned (.plain (OpenSpec.upto classHasSpec)) classHasUptoCard
end Rows
end Go.Proofs.YtpfekfkkcjfimaaDoor
