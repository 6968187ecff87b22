import Derived.Test.YtbpkkgaaeodimaaGreatDoorXAXLaid
import Derived.SevenTiedAt
import Derived.JoinedOf
namespace Go.Proofs.YtbpkkgaaeodimaaGreatDoor
open Go Go.ChangeShapes Go.WideShapes Go.ChangeAt Go.RowKit

theorem urlBack_place : Tryz.prog.inPlace 7 = Rows.urlBackRow.inPlace := by kernel_rfl
theorem urlBack_unf : Tryz.prog.unfollowed 7 = Rows.urlBackRow.unfollowed := by kernel_rfl
theorem urlBack_rec : Tryz.prog.recurses 7 = Rows.urlBackRow.recurses := by kernel_rfl
theorem urlBack_named : Tryz.prog.varsNamed 7 = Rows.urlBackRow.named := by kernel_rfl
theorem urlBack_goes : false = Rows.urlBackRow.goesBy Tryz.prog := by kernel_rfl
end Go.Proofs.YtbpkkgaaeodimaaGreatDoor
