import Derived.Test.YtbpkkgaaeodimaaGreatDoorXAXLaid
import Derived.SevenTiedAt
import Derived.JoinedOf
namespace Go.Proofs.YtbpkkgaaeodimaaGreatDoor
open Go Go.ChangeShapes Go.WideShapes Go.ChangeAt Go.RowKit

/-! What a row asks of the whole program: one fact a theorem. -/
theorem f_rowed : mapsRowed Tryz.prog = true := by kernel_rfl
theorem f_heard : Tryz.prog.stopsHeard = true := by kernel_rfl
theorem f_keys : Tryz.prog.plainKeys = Rows.mixedNumbersRow.plainKeys := by kernel_rfl
theorem f_main : Tryz.prog.mainIs = some (true, "6c30a7bb3314dde3c3d371ba4ad46ec1450f8f7d9e3ca06a3686c4433dd53e6f".toList) := by kernel_rfl
end Go.Proofs.YtbpkkgaaeodimaaGreatDoor
