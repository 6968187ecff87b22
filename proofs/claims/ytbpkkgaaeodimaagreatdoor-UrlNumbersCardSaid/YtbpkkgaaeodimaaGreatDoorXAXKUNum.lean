import Derived.Test.YtbpkkgaaeodimaaGreatDoorXAXLaid
import Derived.SevenTiedAt
import Derived.JoinedOf
namespace Go.Proofs.YtbpkkgaaeodimaaGreatDoor
open Go Go.ChangeShapes Go.WideShapes Go.ChangeAt Go.RowKit

theorem urlNumbers_place : Tryz.prog.inPlace 5 = Rows.urlNumbersRow.inPlace := by kernel_rfl
theorem urlNumbers_unf : Tryz.prog.unfollowed 5 = Rows.urlNumbersRow.unfollowed := by kernel_rfl
theorem urlNumbers_rec : Tryz.prog.recurses 5 = Rows.urlNumbersRow.recurses := by kernel_rfl
theorem urlNumbers_named : Tryz.prog.varsNamed 5 = Rows.urlNumbersRow.named := by kernel_rfl
theorem urlNumbers_goes : false = Rows.urlNumbersRow.goesBy Tryz.prog := by kernel_rfl
end Go.Proofs.YtbpkkgaaeodimaaGreatDoor
