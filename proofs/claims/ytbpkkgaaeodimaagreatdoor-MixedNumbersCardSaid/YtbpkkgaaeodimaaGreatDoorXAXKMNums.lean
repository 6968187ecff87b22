import Derived.Test.YtbpkkgaaeodimaaGreatDoorXAXLaid
import Derived.SevenTiedAt
import Derived.JoinedOf
namespace Go.Proofs.YtbpkkgaaeodimaaGreatDoor
open Go Go.ChangeShapes Go.WideShapes Go.ChangeAt Go.RowKit

theorem mixedNumbers_place : Tryz.prog.inPlace 3 = Rows.mixedNumbersRow.inPlace := by kernel_rfl
theorem mixedNumbers_unf : Tryz.prog.unfollowed 3 = Rows.mixedNumbersRow.unfollowed := by kernel_rfl
theorem mixedNumbers_rec : Tryz.prog.recurses 3 = Rows.mixedNumbersRow.recurses := by kernel_rfl
theorem mixedNumbers_named : Tryz.prog.varsNamed 3 = Rows.mixedNumbersRow.named := by kernel_rfl
theorem mixedNumbers_goes : false = Rows.mixedNumbersRow.goesBy Tryz.prog := by kernel_rfl
end Go.Proofs.YtbpkkgaaeodimaaGreatDoor
