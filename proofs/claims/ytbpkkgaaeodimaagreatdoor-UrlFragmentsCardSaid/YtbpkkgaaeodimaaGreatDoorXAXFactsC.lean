import Derived.Test.YtbpkkgaaeodimaaGreatDoorXAXLaid
import Derived.SevenTiedAt
import Derived.JoinedOf
namespace Go.Proofs.YtbpkkgaaeodimaaGreatDoor
open Go Go.ChangeShapes Go.WideShapes Go.ChangeAt Go.RowKit

theorem f_enter : Tryz.prog.mayEnter = true := by kernel_rfl
theorem f_looks : true = Tryz.prog.looks [] := by kernel_rfl
end Go.Proofs.YtbpkkgaaeodimaaGreatDoor
