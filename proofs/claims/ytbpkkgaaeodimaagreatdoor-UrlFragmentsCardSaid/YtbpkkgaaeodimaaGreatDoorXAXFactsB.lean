import Derived.Test.YtbpkkgaaeodimaaGreatDoorXAXLaid
import Derived.SevenTiedAt
import Derived.JoinedOf
namespace Go.Proofs.YtbpkkgaaeodimaaGreatDoor
open Go Go.ChangeShapes Go.WideShapes Go.ChangeAt Go.RowKit

theorem f_lift : Tryz.prog.liftsFinal = Rows.mixedNumbersRow.lifted := by kernel_rfl
theorem f_make : Tryz.prog.make = some Rows.mixedNumbersRow.make := by kernel_rfl
end Go.Proofs.YtbpkkgaaeodimaaGreatDoor
