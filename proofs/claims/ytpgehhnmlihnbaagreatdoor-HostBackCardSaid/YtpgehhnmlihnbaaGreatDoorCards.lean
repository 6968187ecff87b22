/-
  DERIVED. GIVEN WITH THE SEED: THE CARDS: each row of YtpgehhnmlihnbaaGreatDoorRows.lean that lists a variable, with what it lists TIED to the program's text (the seventh form; the later family's looks); each row that meets fmt, with fmt's text TOLD by the authors' own Lean function (tested against real Go, not proved from fmt's source: count such statements apart). THE CARD IS WHAT COUNTS. Prove the row's statement (the work); the ties are given (YtpgehhnmlihnbaaGreatDoorTie.lean); close each card by the builder's one call (the guide's Derived/Test/ToyasCard.lean, 'card_holds'). Laid BY PROGRAM, IN A SANDBOX (cutbox-door.mjs). By AI agents, Wed Nov 11 2026. No macro, syntax, notation, axiom, sorry.
-/
import Derived.Test.YtpgehhnmlihnbaaGreatDoorRows
import GoSem.ClaimSeven
namespace Go.Proofs.YtpgehhnmlihnbaaGreatDoor
namespace Rows

/-- THE TIED CARD OF 'ostiarylaw2.HostNumbers'. -/
def hostNumbersCard : Claim7 := { stood := { row := hostNumbersRow, standIns := [], harness := (true, "5c2b2b3da55431ff5aaa5bcdf11886d24cdfda299148951e202ae7bb62bac58b"), looks := true }, kinds := [], alts := [], laidByText := true, laidKinds := [.data, .data, .data, .data, .sentinel, .sentinel, .pinned], laidTests := true, laidLooks := .later }
def HostNumbersCardSaid : Prop := Claim7.holds Tryz.pinned (.plain (OpenSpec.ofChange hostNumbersSpec)) hostNumbersCard

/-- THE TIED CARD OF 'ostiarylaw2.HostParses'. -/
def hostParsesCard : Claim7 := { stood := { row := hostParsesRow, standIns := [], harness := (true, "5c2b2b3da55431ff5aaa5bcdf11886d24cdfda299148951e202ae7bb62bac58b"), looks := true }, kinds := [], alts := [], laidByText := true, laidKinds := [.data, .data, .data, .data, .sentinel, .sentinel, .pinned], laidTests := true, laidLooks := .later }
def HostParsesCardSaid : Prop := Claim7.holds Tryz.pinned (.plain (OpenSpec.ofChange hostParsesSpec)) hostParsesCard

/-- THE TIED CARD OF 'ostiarylaw2.HostTexts'. -/
def hostTextsCard : Claim7 := { stood := { row := hostTextsRow, standIns := [], harness := (true, "5c2b2b3da55431ff5aaa5bcdf11886d24cdfda299148951e202ae7bb62bac58b"), looks := true }, kinds := [], alts := [], laidByText := true, laidKinds := [.data, .data, .data, .data, .sentinel, .sentinel, .pinned], laidTests := true, laidLooks := .later }
def HostTextsCardSaid : Prop := Claim7.holds Tryz.pinned (.plain (OpenSpec.ofChange hostTextsSpec)) hostTextsCard

/-- THE TIED CARD OF 'ostiarylaw2.HostBack'. -/
def hostBackCard : Claim7 := { stood := { row := hostBackRow, standIns := [], harness := (true, "5c2b2b3da55431ff5aaa5bcdf11886d24cdfda299148951e202ae7bb62bac58b"), looks := true }, kinds := [], alts := [], laidByText := true, laidKinds := [.data, .data, .data, .data, .sentinel, .sentinel, .pinned], laidTests := true, laidLooks := .later }
def HostBackCardSaid : Prop := Claim7.holds Tryz.pinned (.plain (OpenSpec.ofChange hostBackSpec)) hostBackCard

/-- THE TIED CARD OF 'ostiarylaw2.HostForms'. -/
def hostFormsCard : Claim7 := { stood := { row := hostFormsRow, standIns := [], harness := (true, "5c2b2b3da55431ff5aaa5bcdf11886d24cdfda299148951e202ae7bb62bac58b"), looks := true }, kinds := [], alts := [], laidByText := true, laidKinds := [.data, .data, .data, .data, .sentinel, .sentinel, .pinned], laidTests := true, laidLooks := .later }
def HostFormsCardSaid : Prop := Claim7.holds Tryz.pinned (.plain (OpenSpec.ofChange hostFormsSpec)) hostFormsCard

/-- THE TIED CARD OF 'ostiarylaw2.HostCases'. -/
def hostCasesCard : Claim7 := { stood := { row := hostCasesRow, standIns := [], harness := (true, "5c2b2b3da55431ff5aaa5bcdf11886d24cdfda299148951e202ae7bb62bac58b"), looks := true }, kinds := [], alts := [], laidByText := true, laidKinds := [.data, .data, .data, .data, .sentinel, .sentinel, .pinned], laidTests := true, laidLooks := .later }
def HostCasesCardSaid : Prop := Claim7.holds Tryz.pinned (.plain (OpenSpec.ofChange hostCasesSpec)) hostCasesCard

/-- THE TIED CARD OF 'ostiarylaw2.HostBad'. -/
def hostBadCard : Claim7 := { stood := { row := hostBadRow, standIns := [], harness := (true, "5c2b2b3da55431ff5aaa5bcdf11886d24cdfda299148951e202ae7bb62bac58b"), looks := true }, kinds := [], alts := [], laidByText := true, laidKinds := [.data, .data, .data, .data, .sentinel, .sentinel, .pinned], laidTests := true, laidLooks := .later }
def HostBadCardSaid : Prop := Claim7.holds Tryz.pinned (.plain (OpenSpec.ofChange hostBadSpec)) hostBadCard

/-- THE SECOND FORM's CARD OF 'ostiarylaw2.HostNumbers'. -/
def hostNumbersUptoCard : Claim7 := { stood := { row := hostNumbersUptoRow, standIns := [], harness := (true, "5c2b2b3da55431ff5aaa5bcdf11886d24cdfda299148951e202ae7bb62bac58b"), looks := true }, kinds := [], alts := [], laidByText := true, laidKinds := [.data, .data, .data, .data, .sentinel, .sentinel, .pinned], laidTests := true, laidLooks := .later }
def HostNumbersUptoCardSaid : Prop := Claim7.holds Tryz.pinned (.plain (OpenSpec.upto hostNumbersSpec)) hostNumbersUptoCard

/-- THE SECOND FORM's CARD OF 'ostiarylaw2.HostParses'. -/
def hostParsesUptoCard : Claim7 := { stood := { row := hostParsesUptoRow, standIns := [], harness := (true, "5c2b2b3da55431ff5aaa5bcdf11886d24cdfda299148951e202ae7bb62bac58b"), looks := true }, kinds := [], alts := [], laidByText := true, laidKinds := [.data, .data, .data, .data, .sentinel, .sentinel, .pinned], laidTests := true, laidLooks := .later }
def HostParsesUptoCardSaid : Prop := Claim7.holds Tryz.pinned (.plain (OpenSpec.upto hostParsesSpec)) hostParsesUptoCard

/-- THE SECOND FORM's CARD OF 'ostiarylaw2.HostTexts'. -/
def hostTextsUptoCard : Claim7 := { stood := { row := hostTextsUptoRow, standIns := [], harness := (true, "5c2b2b3da55431ff5aaa5bcdf11886d24cdfda299148951e202ae7bb62bac58b"), looks := true }, kinds := [], alts := [], laidByText := true, laidKinds := [.data, .data, .data, .data, .sentinel, .sentinel, .pinned], laidTests := true, laidLooks := .later }
def HostTextsUptoCardSaid : Prop := Claim7.holds Tryz.pinned (.plain (OpenSpec.upto hostTextsSpec)) hostTextsUptoCard

/-- THE SECOND FORM's CARD OF 'ostiarylaw2.HostBack'. -/
def hostBackUptoCard : Claim7 := { stood := { row := hostBackUptoRow, standIns := [], harness := (true, "5c2b2b3da55431ff5aaa5bcdf11886d24cdfda299148951e202ae7bb62bac58b"), looks := true }, kinds := [], alts := [], laidByText := true, laidKinds := [.data, .data, .data, .data, .sentinel, .sentinel, .pinned], laidTests := true, laidLooks := .later }
def HostBackUptoCardSaid : Prop := Claim7.holds Tryz.pinned (.plain (OpenSpec.upto hostBackSpec)) hostBackUptoCard

/-- THE SECOND FORM's CARD OF 'ostiarylaw2.HostForms'. -/
def hostFormsUptoCard : Claim7 := { stood := { row := hostFormsUptoRow, standIns := [], harness := (true, "5c2b2b3da55431ff5aaa5bcdf11886d24cdfda299148951e202ae7bb62bac58b"), looks := true }, kinds := [], alts := [], laidByText := true, laidKinds := [.data, .data, .data, .data, .sentinel, .sentinel, .pinned], laidTests := true, laidLooks := .later }
def HostFormsUptoCardSaid : Prop := Claim7.holds Tryz.pinned (.plain (OpenSpec.upto hostFormsSpec)) hostFormsUptoCard

/-- THE SECOND FORM's CARD OF 'ostiarylaw2.HostCases'. -/
def hostCasesUptoCard : Claim7 := { stood := { row := hostCasesUptoRow, standIns := [], harness := (true, "5c2b2b3da55431ff5aaa5bcdf11886d24cdfda299148951e202ae7bb62bac58b"), looks := true }, kinds := [], alts := [], laidByText := true, laidKinds := [.data, .data, .data, .data, .sentinel, .sentinel, .pinned], laidTests := true, laidLooks := .later }
def HostCasesUptoCardSaid : Prop := Claim7.holds Tryz.pinned (.plain (OpenSpec.upto hostCasesSpec)) hostCasesUptoCard

/-- THE SECOND FORM's CARD OF 'ostiarylaw2.HostBad'. -/
def hostBadUptoCard : Claim7 := { stood := { row := hostBadUptoRow, standIns := [], harness := (true, "5c2b2b3da55431ff5aaa5bcdf11886d24cdfda299148951e202ae7bb62bac58b"), looks := true }, kinds := [], alts := [], laidByText := true, laidKinds := [.data, .data, .data, .data, .sentinel, .sentinel, .pinned], laidTests := true, laidLooks := .later }
def HostBadUptoCardSaid : Prop := Claim7.holds Tryz.pinned (.plain (OpenSpec.upto hostBadSpec)) hostBadUptoCard
end Rows
end Go.Proofs.YtpgehhnmlihnbaaGreatDoor
