/-
  DERIVED. GIVEN WITH THE SEED: THE CARDS: each row of YtbpkkgaaeodimaaGreatDoorRows.lean that lists a variable, with what it lists TIED to the program's text (the seventh form; the later family's looks); each row that meets fmt, with fmt's text TOLD by the authors' own Lean function (tested against real Go, not proved from fmt's source: count such statements apart). THE CARD IS WHAT COUNTS. Prove the row's statement (the work); the ties are given (YtbpkkgaaeodimaaGreatDoorTie.lean); close each card by the builder's one call (the guide's Derived/Test/ToyasCard.lean, 'card_holds'). Laid BY PROGRAM, IN A SANDBOX (cutbox-door.mjs). By AI agents, Wed Nov 11 2026. No macro, syntax, notation, axiom, sorry.
-/
import Derived.Test.YtbpkkgaaeodimaaGreatDoorRows
import GoSem.ClaimSeven
namespace Go.Proofs.YtbpkkgaaeodimaaGreatDoor
namespace Rows

/-- THE TIED CARD OF 'ostiarylaw14.MixedNumbers'. -/
def mixedNumbersCard : Claim7 := { stood := { row := mixedNumbersRow, standIns := [], harness := (true, "6c30a7bb3314dde3c3d371ba4ad46ec1450f8f7d9e3ca06a3686c4433dd53e6f"), looks := true }, kinds := [], alts := [], laidByText := true, laidKinds := [.data, .data, .data, .data, .sentinel, .sentinel, .pinned], laidTests := true, laidLooks := .later }
def MixedNumbersCardSaid : Prop := Claim7.holds Tryz.pinned (.plain (OpenSpec.ofChange mixedNumbersSpec)) mixedNumbersCard

/-- THE TIED CARD OF 'ostiarylaw14.MixedPages'. -/
def mixedPagesCard : Claim7 := { stood := { row := mixedPagesRow, standIns := [], harness := (true, "6c30a7bb3314dde3c3d371ba4ad46ec1450f8f7d9e3ca06a3686c4433dd53e6f"), looks := true }, kinds := [], alts := [], laidByText := true, laidKinds := [.data, .data, .data, .data, .sentinel, .sentinel, .pinned], laidTests := true, laidLooks := .later }
def MixedPagesCardSaid : Prop := Claim7.holds Tryz.pinned (.plain (OpenSpec.ofChange mixedPagesSpec)) mixedPagesCard

/-- THE TIED CARD OF 'ostiarylaw3.UrlNumbers'. -/
def urlNumbersCard : Claim7 := { stood := { row := urlNumbersRow, standIns := [], harness := (true, "6c30a7bb3314dde3c3d371ba4ad46ec1450f8f7d9e3ca06a3686c4433dd53e6f"), looks := true }, kinds := [], alts := [], laidByText := true, laidKinds := [.data, .data, .data, .data, .sentinel, .sentinel, .pinned], laidTests := true, laidLooks := .later }
def UrlNumbersCardSaid : Prop := Claim7.holds Tryz.pinned (.plain (OpenSpec.ofChange urlNumbersSpec)) urlNumbersCard

/-- THE TIED CARD OF 'ostiarylaw3.UrlJoins'. -/
def urlJoinsCard : Claim7 := { stood := { row := urlJoinsRow, standIns := [], harness := (true, "6c30a7bb3314dde3c3d371ba4ad46ec1450f8f7d9e3ca06a3686c4433dd53e6f"), looks := true }, kinds := [], alts := [], laidByText := true, laidKinds := [.data, .data, .data, .data, .sentinel, .sentinel, .pinned], laidTests := true, laidLooks := .later }
def UrlJoinsCardSaid : Prop := Claim7.holds Tryz.pinned (.plain (OpenSpec.ofChange urlJoinsSpec)) urlJoinsCard

/-- THE TIED CARD OF 'ostiarylaw3.UrlBack'. -/
def urlBackCard : Claim7 := { stood := { row := urlBackRow, standIns := [], harness := (true, "6c30a7bb3314dde3c3d371ba4ad46ec1450f8f7d9e3ca06a3686c4433dd53e6f"), looks := true }, kinds := [], alts := [], laidByText := true, laidKinds := [.data, .data, .data, .data, .sentinel, .sentinel, .pinned], laidTests := true, laidLooks := .later }
def UrlBackCardSaid : Prop := Claim7.holds Tryz.pinned (.plain (OpenSpec.ofChange urlBackSpec)) urlBackCard

/-- THE TIED CARD OF 'ostiarylaw3.UrlWhole'. -/
def urlWholeCard : Claim7 := { stood := { row := urlWholeRow, standIns := [], harness := (true, "6c30a7bb3314dde3c3d371ba4ad46ec1450f8f7d9e3ca06a3686c4433dd53e6f"), looks := true }, kinds := [], alts := [], laidByText := true, laidKinds := [.data, .data, .data, .data, .sentinel, .sentinel, .pinned], laidTests := true, laidLooks := .later }
def UrlWholeCardSaid : Prop := Claim7.holds Tryz.pinned (.plain (OpenSpec.ofChange urlWholeSpec)) urlWholeCard

/-- THE TIED CARD OF 'ostiarylaw3.UrlParts'. -/
def urlPartsCard : Claim7 := { stood := { row := urlPartsRow, standIns := [], harness := (true, "6c30a7bb3314dde3c3d371ba4ad46ec1450f8f7d9e3ca06a3686c4433dd53e6f"), looks := true }, kinds := [], alts := [], laidByText := true, laidKinds := [.data, .data, .data, .data, .sentinel, .sentinel, .pinned], laidTests := true, laidLooks := .later }
def UrlPartsCardSaid : Prop := Claim7.holds Tryz.pinned (.plain (OpenSpec.ofChange urlPartsSpec)) urlPartsCard

/-- THE TIED CARD OF 'ostiarylaw3.UrlKept'. -/
def urlKeptCard : Claim7 := { stood := { row := urlKeptRow, standIns := [], harness := (true, "6c30a7bb3314dde3c3d371ba4ad46ec1450f8f7d9e3ca06a3686c4433dd53e6f"), looks := true }, kinds := [], alts := [], laidByText := true, laidKinds := [.data, .data, .data, .data, .sentinel, .sentinel, .pinned], laidTests := true, laidLooks := .later }
def UrlKeptCardSaid : Prop := Claim7.holds Tryz.pinned (.plain (OpenSpec.ofChange urlKeptSpec)) urlKeptCard

/-- THE TIED CARD OF 'ostiarylaw3.UrlDots'. -/
def urlDotsCard : Claim7 := { stood := { row := urlDotsRow, standIns := [], harness := (true, "6c30a7bb3314dde3c3d371ba4ad46ec1450f8f7d9e3ca06a3686c4433dd53e6f"), looks := true }, kinds := [], alts := [], laidByText := true, laidKinds := [.data, .data, .data, .data, .sentinel, .sentinel, .pinned], laidTests := true, laidLooks := .later }
def UrlDotsCardSaid : Prop := Claim7.holds Tryz.pinned (.plain (OpenSpec.ofChange urlDotsSpec)) urlDotsCard

/-- THE TIED CARD OF 'ostiarylaw3.UrlFragments'. -/
def urlFragmentsCard : Claim7 := { stood := { row := urlFragmentsRow, standIns := [], harness := (true, "6c30a7bb3314dde3c3d371ba4ad46ec1450f8f7d9e3ca06a3686c4433dd53e6f"), looks := true }, kinds := [], alts := [], laidByText := true, laidKinds := [.data, .data, .data, .data, .sentinel, .sentinel, .pinned], laidTests := true, laidLooks := .later }
def UrlFragmentsCardSaid : Prop := Claim7.holds Tryz.pinned (.plain (OpenSpec.ofChange urlFragmentsSpec)) urlFragmentsCard

/-- THE TIED CARD OF 'ostiarylaw3.UrlOwn'. -/
def urlOwnCard : Claim7 := { stood := { row := urlOwnRow, standIns := [], harness := (true, "6c30a7bb3314dde3c3d371ba4ad46ec1450f8f7d9e3ca06a3686c4433dd53e6f"), looks := true }, kinds := [], alts := [], laidByText := true, laidKinds := [.data, .data, .data, .data, .sentinel, .sentinel, .pinned], laidTests := true, laidLooks := .later }
def UrlOwnCardSaid : Prop := Claim7.holds Tryz.pinned (.plain (OpenSpec.ofChange urlOwnSpec)) urlOwnCard

/-- THE TIED CARD OF 'ostiarylaw3.UrlSlashes'. -/
def urlSlashesCard : Claim7 := { stood := { row := urlSlashesRow, standIns := [], harness := (true, "6c30a7bb3314dde3c3d371ba4ad46ec1450f8f7d9e3ca06a3686c4433dd53e6f"), looks := true }, kinds := [], alts := [], laidByText := true, laidKinds := [.data, .data, .data, .data, .sentinel, .sentinel, .pinned], laidTests := true, laidLooks := .later }
def UrlSlashesCardSaid : Prop := Claim7.holds Tryz.pinned (.plain (OpenSpec.ofChange urlSlashesSpec)) urlSlashesCard

/-- THE SECOND FORM's CARD OF 'ostiarylaw14.MixedNumbers'. -/
def mixedNumbersUptoCard : Claim7 := { stood := { row := mixedNumbersUptoRow, standIns := [], harness := (true, "6c30a7bb3314dde3c3d371ba4ad46ec1450f8f7d9e3ca06a3686c4433dd53e6f"), looks := true }, kinds := [], alts := [], laidByText := true, laidKinds := [.data, .data, .data, .data, .sentinel, .sentinel, .pinned], laidTests := true, laidLooks := .later }
def MixedNumbersUptoCardSaid : Prop := Claim7.holds Tryz.pinned (.plain (OpenSpec.upto mixedNumbersSpec)) mixedNumbersUptoCard

/-- THE SECOND FORM's CARD OF 'ostiarylaw14.MixedPages'. -/
def mixedPagesUptoCard : Claim7 := { stood := { row := mixedPagesUptoRow, standIns := [], harness := (true, "6c30a7bb3314dde3c3d371ba4ad46ec1450f8f7d9e3ca06a3686c4433dd53e6f"), looks := true }, kinds := [], alts := [], laidByText := true, laidKinds := [.data, .data, .data, .data, .sentinel, .sentinel, .pinned], laidTests := true, laidLooks := .later }
def MixedPagesUptoCardSaid : Prop := Claim7.holds Tryz.pinned (.plain (OpenSpec.upto mixedPagesSpec)) mixedPagesUptoCard

/-- THE SECOND FORM's CARD OF 'ostiarylaw3.UrlNumbers'. -/
def urlNumbersUptoCard : Claim7 := { stood := { row := urlNumbersUptoRow, standIns := [], harness := (true, "6c30a7bb3314dde3c3d371ba4ad46ec1450f8f7d9e3ca06a3686c4433dd53e6f"), looks := true }, kinds := [], alts := [], laidByText := true, laidKinds := [.data, .data, .data, .data, .sentinel, .sentinel, .pinned], laidTests := true, laidLooks := .later }
def UrlNumbersUptoCardSaid : Prop := Claim7.holds Tryz.pinned (.plain (OpenSpec.upto urlNumbersSpec)) urlNumbersUptoCard

/-- THE SECOND FORM's CARD OF 'ostiarylaw3.UrlJoins'. -/
def urlJoinsUptoCard : Claim7 := { stood := { row := urlJoinsUptoRow, standIns := [], harness := (true, "6c30a7bb3314dde3c3d371ba4ad46ec1450f8f7d9e3ca06a3686c4433dd53e6f"), looks := true }, kinds := [], alts := [], laidByText := true, laidKinds := [.data, .data, .data, .data, .sentinel, .sentinel, .pinned], laidTests := true, laidLooks := .later }
def UrlJoinsUptoCardSaid : Prop := Claim7.holds Tryz.pinned (.plain (OpenSpec.upto urlJoinsSpec)) urlJoinsUptoCard

/-- THE SECOND FORM's CARD OF 'ostiarylaw3.UrlBack'. -/
def urlBackUptoCard : Claim7 := { stood := { row := urlBackUptoRow, standIns := [], harness := (true, "6c30a7bb3314dde3c3d371ba4ad46ec1450f8f7d9e3ca06a3686c4433dd53e6f"), looks := true }, kinds := [], alts := [], laidByText := true, laidKinds := [.data, .data, .data, .data, .sentinel, .sentinel, .pinned], laidTests := true, laidLooks := .later }
def UrlBackUptoCardSaid : Prop := Claim7.holds Tryz.pinned (.plain (OpenSpec.upto urlBackSpec)) urlBackUptoCard

/-- THE SECOND FORM's CARD OF 'ostiarylaw3.UrlWhole'. -/
def urlWholeUptoCard : Claim7 := { stood := { row := urlWholeUptoRow, standIns := [], harness := (true, "6c30a7bb3314dde3c3d371ba4ad46ec1450f8f7d9e3ca06a3686c4433dd53e6f"), looks := true }, kinds := [], alts := [], laidByText := true, laidKinds := [.data, .data, .data, .data, .sentinel, .sentinel, .pinned], laidTests := true, laidLooks := .later }
def UrlWholeUptoCardSaid : Prop := Claim7.holds Tryz.pinned (.plain (OpenSpec.upto urlWholeSpec)) urlWholeUptoCard

/-- THE SECOND FORM's CARD OF 'ostiarylaw3.UrlParts'. -/
def urlPartsUptoCard : Claim7 := { stood := { row := urlPartsUptoRow, standIns := [], harness := (true, "6c30a7bb3314dde3c3d371ba4ad46ec1450f8f7d9e3ca06a3686c4433dd53e6f"), looks := true }, kinds := [], alts := [], laidByText := true, laidKinds := [.data, .data, .data, .data, .sentinel, .sentinel, .pinned], laidTests := true, laidLooks := .later }
def UrlPartsUptoCardSaid : Prop := Claim7.holds Tryz.pinned (.plain (OpenSpec.upto urlPartsSpec)) urlPartsUptoCard

/-- THE SECOND FORM's CARD OF 'ostiarylaw3.UrlKept'. -/
def urlKeptUptoCard : Claim7 := { stood := { row := urlKeptUptoRow, standIns := [], harness := (true, "6c30a7bb3314dde3c3d371ba4ad46ec1450f8f7d9e3ca06a3686c4433dd53e6f"), looks := true }, kinds := [], alts := [], laidByText := true, laidKinds := [.data, .data, .data, .data, .sentinel, .sentinel, .pinned], laidTests := true, laidLooks := .later }
def UrlKeptUptoCardSaid : Prop := Claim7.holds Tryz.pinned (.plain (OpenSpec.upto urlKeptSpec)) urlKeptUptoCard

/-- THE SECOND FORM's CARD OF 'ostiarylaw3.UrlDots'. -/
def urlDotsUptoCard : Claim7 := { stood := { row := urlDotsUptoRow, standIns := [], harness := (true, "6c30a7bb3314dde3c3d371ba4ad46ec1450f8f7d9e3ca06a3686c4433dd53e6f"), looks := true }, kinds := [], alts := [], laidByText := true, laidKinds := [.data, .data, .data, .data, .sentinel, .sentinel, .pinned], laidTests := true, laidLooks := .later }
def UrlDotsUptoCardSaid : Prop := Claim7.holds Tryz.pinned (.plain (OpenSpec.upto urlDotsSpec)) urlDotsUptoCard

/-- THE SECOND FORM's CARD OF 'ostiarylaw3.UrlFragments'. -/
def urlFragmentsUptoCard : Claim7 := { stood := { row := urlFragmentsUptoRow, standIns := [], harness := (true, "6c30a7bb3314dde3c3d371ba4ad46ec1450f8f7d9e3ca06a3686c4433dd53e6f"), looks := true }, kinds := [], alts := [], laidByText := true, laidKinds := [.data, .data, .data, .data, .sentinel, .sentinel, .pinned], laidTests := true, laidLooks := .later }
def UrlFragmentsUptoCardSaid : Prop := Claim7.holds Tryz.pinned (.plain (OpenSpec.upto urlFragmentsSpec)) urlFragmentsUptoCard

/-- THE SECOND FORM's CARD OF 'ostiarylaw3.UrlOwn'. -/
def urlOwnUptoCard : Claim7 := { stood := { row := urlOwnUptoRow, standIns := [], harness := (true, "6c30a7bb3314dde3c3d371ba4ad46ec1450f8f7d9e3ca06a3686c4433dd53e6f"), looks := true }, kinds := [], alts := [], laidByText := true, laidKinds := [.data, .data, .data, .data, .sentinel, .sentinel, .pinned], laidTests := true, laidLooks := .later }
def UrlOwnUptoCardSaid : Prop := Claim7.holds Tryz.pinned (.plain (OpenSpec.upto urlOwnSpec)) urlOwnUptoCard

/-- THE SECOND FORM's CARD OF 'ostiarylaw3.UrlSlashes'. -/
def urlSlashesUptoCard : Claim7 := { stood := { row := urlSlashesUptoRow, standIns := [], harness := (true, "6c30a7bb3314dde3c3d371ba4ad46ec1450f8f7d9e3ca06a3686c4433dd53e6f"), looks := true }, kinds := [], alts := [], laidByText := true, laidKinds := [.data, .data, .data, .data, .sentinel, .sentinel, .pinned], laidTests := true, laidLooks := .later }
def UrlSlashesUptoCardSaid : Prop := Claim7.holds Tryz.pinned (.plain (OpenSpec.upto urlSlashesSpec)) urlSlashesUptoCard
end Rows
end Go.Proofs.YtbpkkgaaeodimaaGreatDoor
