import Derived.Test.YtbpkkgaaeodimaaGreatDoorXAXRepl2
import Derived.Test.YtbpkkgaaeodimaaGreatDoorXG14
import Derived.Laws.OwnMore
import Derived.Laws.IdiomCopy
import Derived.Laws.BytesArg
namespace Go.Proofs.YtbpkkgaaeodimaaGreatDoor
open Go.RowKit

/-! The replacer's work upon a text: the three bytes are left out. -/
def keepL (x : UInt8) : Bool := !(x == 9 || x == 10 || x == 13)
theorem keep_count : ∀ l : List UInt8, (l.filter keepL).length + (l.count 13 + l.count 10 + l.count 9) = l.length
  | [] => rfl
  | x :: r => by
    have ih := keep_count r
    rw [List.count_cons, List.count_cons, List.count_cons, List.filter_cons, List.length_cons]
    by_cases h9 : x = 9
    · subst h9; simp [keepL]; omega
    · by_cases h10 : x = 10
      · subst h10; simp [keepL]; omega
      · by_cases h13 : x = 13
        · subst h13; simp [keepL]; omega
        · simp [keepL, h9, h10, h13]; omega
theorem keep_all {l : List UInt8} (h : (l.filter keepL).length = l.length) : l.filter keepL = l := (List.filter_sublist).eq_of_length h
theorem keep_take (l : List UInt8) (k : Nat) (x : UInt8) (h : l[k]? = some x) : (l.take (k + 1)).filter keepL = (l.take k).filter keepL ++ (if keepL x = true then [x] else []) := by
  rw [List.take_add_one, h, List.filter_append]
  congr 1
  show List.filter keepL [x] = _
  rw [List.filter_cons, List.filter_nil]
theorem line_keep (x : UInt8) : (lineC.take 3).contains x.toNat = !keepL x := by
  have := u8_all (p := fun x => (lineC.take 3).contains x.toNat == !keepL x) (q := fun _ => true) (by decide +kernel) x
  simpa using this
theorem make_u8 (w : World) (N : Nat) (hN : N ≤ 1000000) : ∃ w', (Instr.makeSlice 43 (.int .i64 N) (.int .i64 N)).run Tryz.prog w = .ok (.slice (some ⟨w.heap.size, 0, none⟩) N N) w' ∧ Hid (RowAt w' w.heap.size (List.replicate N (.int .u8 0))) ∧ Hid (Bel w w') := by
  obtain ⟨i, hi, hz0, hz1, hz2⟩ := info_parts info5
  obtain ⟨w', h1, h2, h3⟩ := run_makeSlice_full w w.heap.size 43 5 i _ 1 Tryz.underlying43 hi hz0 hz1 .i64 .i64 N (by omega) (by rw [hz2]; omega) (by unfold Go.maxLen; omega) (Nat.le_refl _)
  refine ⟨w', h1, ⟨(h2.lt _ rfl).2, fun k u hk => ?_⟩, bel_grown h3⟩
  have hm : (madeCells (Value.int .u8 0).cells (N * 1)).toList = List.replicate N (.int .u8 0) := by rw [Nat.mul_one]; exact toList_madeCells_one _ N
  rw [hm] at h2
  have hkl : k < N := by have := (List.getElem?_eq_some_iff.1 hk).1; simpa using this
  exact ⟨(h2.cellAt k (by omega)).trans hk, h2.frozenAt k⟩
theorem ReplK.at {w : World} {p base : Nat} (h : ReplK w p base 3) (x : UInt8) : (keepL x = true ∧ w.cell? ⟨p, x.toNat, none⟩ = some (.slice none 0 0)) ∨ (keepL x = false ∧ ∃ a n, w.cell? ⟨p, x.toNat, none⟩ = some (.slice (some a) 0 n)) := by
  obtain ⟨L, tv, h1, h2, _⟩ := h
  have hx := line_keep x
  rcases h2 x.toNat x.toNat_lt with ⟨e, hc⟩ | ⟨⟨a, n, e⟩, hc⟩
  · left
    rw [hx] at hc
    exact ⟨by simpa using hc, (h1.2 _ _ e).1⟩
  · right
    rw [hx] at hc
    exact ⟨by simpa using hc, a, n, (h1.2 _ _ e).1⟩
end Go.Proofs.YtbpkkgaaeodimaaGreatDoor
