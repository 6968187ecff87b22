import Derived.Test.YtbpkkgaaeodimaaGreatDoorXAXLaid
import Derived.SevenTiedAt
import Derived.JoinedOf
namespace Go.Proofs.YtbpkkgaaeodimaaGreatDoor
open Go Go.ChangeShapes Go.WideShapes Go.ChangeAt Go.RowKit

theorem urlDots_place : Tryz.prog.inPlace 11 = Rows.urlDotsRow.inPlace := by kernel_rfl
theorem urlDots_unf : Tryz.prog.unfollowed 11 = Rows.urlDotsRow.unfollowed := by kernel_rfl
theorem urlDots_rec : Tryz.prog.recurses 11 = Rows.urlDotsRow.recurses := by kernel_rfl
theorem urlDots_named : Tryz.prog.varsNamed 11 = Rows.urlDotsRow.named := by kernel_rfl
theorem urlDots_goes : false = Rows.urlDotsRow.goesBy Tryz.prog := by kernel_rfl
end Go.Proofs.YtbpkkgaaeodimaaGreatDoor
