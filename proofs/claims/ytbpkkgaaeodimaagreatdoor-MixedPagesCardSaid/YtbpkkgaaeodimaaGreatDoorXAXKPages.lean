import Derived.Test.YtbpkkgaaeodimaaGreatDoorXAXLaid
import Derived.SevenTiedAt
import Derived.JoinedOf
namespace Go.Proofs.YtbpkkgaaeodimaaGreatDoor
open Go Go.ChangeShapes Go.WideShapes Go.ChangeAt Go.RowKit

theorem mixedPages_place : Tryz.prog.inPlace 4 = Rows.mixedPagesRow.inPlace := by kernel_rfl
theorem mixedPages_unf : Tryz.prog.unfollowed 4 = Rows.mixedPagesRow.unfollowed := by kernel_rfl
theorem mixedPages_rec : Tryz.prog.recurses 4 = Rows.mixedPagesRow.recurses := by kernel_rfl
theorem mixedPages_named : Tryz.prog.varsNamed 4 = Rows.mixedPagesRow.named := by kernel_rfl
theorem mixedPages_goes : false = Rows.mixedPagesRow.goesBy Tryz.prog := by kernel_rfl
end Go.Proofs.YtbpkkgaaeodimaaGreatDoor
