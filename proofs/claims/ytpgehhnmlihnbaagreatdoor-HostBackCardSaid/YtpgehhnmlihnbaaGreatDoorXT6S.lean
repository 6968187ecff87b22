import Derived.Test.YtpgehhnmlihnbaaGreatDoorXDigits
namespace Go.Proofs.YtpgehhnmlihnbaaGreatDoor
open Go.RowKit

/-- How many pieces from place i on are 0. -/
def runAt (xs : List Nat) (i : Nat) : Nat := ((xs.drop i).takeWhile (· == 0)).length
theorem run_end {xs : List Nat} {i : Nat} (h : xs.length ≤ i) : runAt xs i = 0 := by unfold runAt; rw [List.drop_eq_nil_of_le h]; rfl
theorem run_hit {xs : List Nat} {i : Nat} (h : xs[i]? = some 0) : runAt xs i = runAt xs (i + 1) + 1 := by
  unfold runAt; rw [drop_get h, List.takeWhile_cons]; simp
theorem run_miss {xs : List Nat} {i v : Nat} (h : xs[i]? = some v) (hv : v ≠ 0) : runAt xs i = 0 := by
  unfold runAt; rw [drop_get h, List.takeWhile_cons, if_neg (by simp [hv])]; rfl
theorem run_le (xs : List Nat) (i : Nat) : runAt xs i ≤ xs.length - i := by
  unfold runAt
  refine Nat.le_trans (List.takeWhile_sublist _).length_le ?_
  rw [List.length_drop]; exact Nat.le_refl _
theorem run_shift (xs : List Nat) : ∀ (j i : Nat), j ≤ runAt xs i → runAt xs (i + j) = runAt xs i - j
  | 0, i, _ => by simp
  | j + 1, i, h => by
    have h1 := run_le xs i
    have hi : i < xs.length := by omega
    have hx : xs[i]? = some xs[i] := List.getElem?_eq_getElem hi
    by_cases h0 : xs[i] = 0
    · rw [h0] at hx
      have h2 := run_hit hx
      have := run_shift xs j (i + 1) (by omega)
      rw [show i + (j + 1) = i + 1 + j by omega, this]
      omega
    · have := run_miss hx h0
      omega
/-- The greatest run of zeros ahead of place k: where it begins, its length. -/
def bestF (xs : List Nat) : Nat → Int × Nat
  | 0 => (-1, 1)
  | k + 1 => if (bestF xs k).2 < runAt xs k then ((k : Int), runAt xs k) else bestF xs k
theorem best_ge (xs : List Nat) (k : Nat) : runAt xs k ≤ (bestF xs (k + 1)).2 := by
  rw [bestF]; split
  · exact Nat.le_refl _
  · omega
theorem best_jump (xs : List Nat) (i : Nat) : ∀ j, j ≤ runAt xs i → bestF xs (i + 1 + j) = bestF xs (i + 1)
  | 0, _ => rfl
  | j + 1, h => by
    have ih := best_jump xs i j (by omega)
    have h2 := run_shift xs (j + 1) i h
    have h3 := best_ge xs i
    rw [show i + 1 + (j + 1) = (i + 1 + j) + 1 by omega, bestF, ih, show i + 1 + j = i + (j + 1) by omega, h2, if_neg (by omega)]
theorem best_facts (xs : List Nat) : ∀ k, ((bestF xs k).1 = -1 ∧ (bestF xs k).2 = 1) ∨ (∃ f : Nat, (bestF xs k).1 = f ∧ 2 ≤ (bestF xs k).2 ∧ f + (bestF xs k).2 ≤ xs.length)
  | 0 => .inl ⟨rfl, rfl⟩
  | k + 1 => by
    have ih := best_facts xs k
    rw [bestF]
    split
    · rename_i h
      have h1 := run_le xs k
      refine .inr ⟨k, rfl, ?_, ?_⟩
      · show 2 ≤ runAt xs k
        rcases ih with ⟨_, h2⟩ | ⟨f, _, h2, _⟩ <;> omega
      · show k + runAt xs k ≤ _
        omega
    · exact ih
theorem best_end {xs : List Nat} (h : xs.length = 8) : ∀ i, 8 ≤ i → bestF xs i = bestF xs 8
  | 0, hi => by omega
  | i + 1, hi => by
    by_cases h8 : i + 1 = 8
    · rw [h8]
    · rw [bestF, run_end (by omega), if_neg (by omega)]
      exact best_end h i (by omega)
/-- The text of the pieces from place i on. -/
def restF (xs : List Nat) (f : Int) (m : Nat) (i : Nat) : List UInt8 :=
  if h : i < 8 then
    if (i : Int) = f then [58, 58] ++ restF xs f m (i + (m - 1) + 1)
    else (if 0 < i ∧ (i : Int) ≠ f + m then [58] else []) ++ (digs 16 (xs.getD i 0) ++ restF xs f m (i + 1))
  else []
termination_by 8 - i
decreasing_by all_goals omega
theorem rest_end (xs : List Nat) (f : Int) (m i : Nat) (h : 8 ≤ i) : restF xs f m i = [] := by rw [restF, dif_neg (by omega)]
theorem rest_gap {xs : List Nat} {f : Int} {m i : Nat} (h : i < 8) (hf : (i : Int) = f) : restF xs f m i = [58, 58] ++ restF xs f m (i + (m - 1) + 1) := by
  rw [restF, dif_pos h, if_pos hf]
theorem rest_one {xs : List Nat} {f : Int} {m i v : Nat} (h : i < 8) (hf : (i : Int) ≠ f) (hv : xs[i]? = some v) : restF xs f m i = (if 0 < i ∧ (i : Int) ≠ f + m then [58] else []) ++ (digs 16 v ++ restF xs f m (i + 1)) := by
  rw [restF, dif_pos h, if_neg hf, List.getD_eq_getElem?_getD, hv]; rfl
/-- The text of eight pieces. -/
def text6S (xs : List Nat) : List UInt8 := restF xs (bestF xs 8).1 (bestF xs 8).2 0
theorem dgc_not (d : Nat) (h : d < 16) : dgc d ≠ 58 := by
  have : ∀ d : Fin 16, dgc d.val ≠ 58 := by decide +kernel
  exact this ⟨d, h⟩
theorem digs_last (u : Nat) : ∃ t c, digs 16 u = t ++ [c] ∧ c ≠ 58 := by
  by_cases h : u < 16
  · exact ⟨[], _, by rw [digs_small h]; rfl, dgc_not u h⟩
  · exact ⟨_, _, digs_step (by omega) (by omega), dgc_not _ (Nat.mod_lt _ (by omega))⟩
theorem digs16_len (u : Nat) (h : u ≤ 65535) : (digs 16 u).length ≤ 4 := digs_len 16 (by omega) 4 u (by omega) (by omega)
end Go.Proofs.YtpgehhnmlihnbaaGreatDoor
