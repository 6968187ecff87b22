import Derived.Test.YtpgehhnmlihnbaaGreatDoorXLTexts
import Derived.ChangeKeysEq
namespace Go.Proofs.YtpgehhnmlihnbaaGreatDoor
open Go.RowKit

theorem eq1 (x y : Int) (d : Nat) (w : World) : (Op.equalIn (d + 1) 26 (.int .u16 x) (.int .u16 y)).run Tryz.prog w = .ok (x == y) w := by
  simp [Op.equalIn, run_underlying Tryz.underlying26]
theorem part1 (xs : Array Value) (i : Nat) (v : Value) (h : xs[i]? = some v) (w : World) : (part 26 xs i).run Tryz.prog w = .ok v w := by
  simp [part, Tryz.isAgg26, h]
theorem eq_step (xs : Array Value) (i : Nat) (x : Int) (h : xs[i]? = some (.int .u16 x)) (is : List Nat) (w : World) :
    (Op.eqItems 9999 26 1 xs xs (i :: is)).run Tryz.prog w = (Op.eqItems 9999 26 1 xs xs is).run Tryz.prog w := by
  simp only [Op.eqItems, Sem.run_bind]
  rw [Nat.mul_one, part1 xs i _ h]
  simp only [Result.andThen_ok]
  rw [part1 xs i _ h]
  simp only [Result.andThen_ok]
  rw [eq1 x x 9998]
  simp
set_option maxRecDepth 100000 in
/-- Eight pieces are themselves. -/
theorem eq8 (x0 x1 x2 x3 x4 x5 x6 x7 : Int) (w : World) : (Op.equalIn 10000 27 (.agg #[.int .u16 x0, .int .u16 x1, .int .u16 x2, .int .u16 x3, .int .u16 x4, .int .u16 x5, .int .u16 x6, .int .u16 x7]) (.agg #[.int .u16 x0, .int .u16 x1, .int .u16 x2, .int .u16 x3, .int .u16 x4, .int .u16 x5, .int .u16 x6, .int .u16 x7])).run Tryz.prog w = .ok true w := by
  obtain ⟨i, hi⟩ : ∃ i, Tryz.prog.info? 26 = some i := by
    cases h : Tryz.prog.info? 26 with
    | none => have := size26; rw [h] at this; cases this
    | some i => exact ⟨i, rfl⟩
  rw [run_equalIn_array (d := 9999) (hu := Tryz.underlying27) (hi := hi), show Tryz.prog.cellsOf 26 = 1 by kernel_rfl, show List.range 8 = [0, 1, 2, 3, 4, 5, 6, 7] from rfl]
  rw [eq_step _ 0 x0 rfl]
  rw [eq_step _ 1 x1 rfl]
  rw [eq_step _ 2 x2 rfl]
  rw [eq_step _ 3 x3 rfl]
  rw [eq_step _ 4 x4 rfl]
  rw [eq_step _ 5 x5 rfl]
  rw [eq_step _ 6 x6 rfl]
  rw [eq_step _ 7 x7 rfl]
  rfl
end Go.Proofs.YtpgehhnmlihnbaaGreatDoor
