import Derived.Test.YtbpkkgaaeodimaaGreatDoorXAXLaid
import Derived.SevenTiedAt
import Derived.JoinedOf
namespace Go.Proofs.YtbpkkgaaeodimaaGreatDoor
open Go Go.ChangeShapes Go.WideShapes Go.ChangeAt Go.RowKit

theorem urlFragments_place : Tryz.prog.inPlace 12 = Rows.urlFragmentsRow.inPlace := by kernel_rfl
theorem urlFragments_unf : Tryz.prog.unfollowed 12 = Rows.urlFragmentsRow.unfollowed := by kernel_rfl
theorem urlFragments_rec : Tryz.prog.recurses 12 = Rows.urlFragmentsRow.recurses := by kernel_rfl
theorem urlFragments_named : Tryz.prog.varsNamed 12 = Rows.urlFragmentsRow.named := by kernel_rfl
theorem urlFragments_goes : false = Rows.urlFragmentsRow.goesBy Tryz.prog := by kernel_rfl
end Go.Proofs.YtbpkkgaaeodimaaGreatDoor
