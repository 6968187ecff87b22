import Derived.Test.YtbpkkgaaeodimaaGreatDoorXAXLaid
import Derived.SevenTiedAt
import Derived.JoinedOf
namespace Go.Proofs.YtbpkkgaaeodimaaGreatDoor
open Go Go.ChangeShapes Go.WideShapes Go.ChangeAt Go.RowKit

theorem urlOwn_place : Tryz.prog.inPlace 13 = Rows.urlOwnRow.inPlace := by kernel_rfl
theorem urlOwn_unf : Tryz.prog.unfollowed 13 = Rows.urlOwnRow.unfollowed := by kernel_rfl
theorem urlOwn_rec : Tryz.prog.recurses 13 = Rows.urlOwnRow.recurses := by kernel_rfl
theorem urlOwn_named : Tryz.prog.varsNamed 13 = Rows.urlOwnRow.named := by kernel_rfl
theorem urlOwn_goes : false = Rows.urlOwnRow.goesBy Tryz.prog := by kernel_rfl
end Go.Proofs.YtbpkkgaaeodimaaGreatDoor
