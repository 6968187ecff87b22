import Derived.Test.YtbpkkgaaeodimaaGreatDoorXAXLaid
import Derived.SevenTiedAt
import Derived.JoinedOf
namespace Go.Proofs.YtbpkkgaaeodimaaGreatDoor
open Go Go.ChangeShapes Go.WideShapes Go.ChangeAt Go.RowKit

theorem urlSlashes_place : Tryz.prog.inPlace 14 = Rows.urlSlashesRow.inPlace := by kernel_rfl
theorem urlSlashes_unf : Tryz.prog.unfollowed 14 = Rows.urlSlashesRow.unfollowed := by kernel_rfl
theorem urlSlashes_rec : Tryz.prog.recurses 14 = Rows.urlSlashesRow.recurses := by kernel_rfl
theorem urlSlashes_named : Tryz.prog.varsNamed 14 = Rows.urlSlashesRow.named := by kernel_rfl
theorem urlSlashes_goes : false = Rows.urlSlashesRow.goesBy Tryz.prog := by kernel_rfl
end Go.Proofs.YtbpkkgaaeodimaaGreatDoor
