import Derived.Test.YtpgehhnmlihnbaaGreatDoorXHost1
import Derived.Test.YtpgehhnmlihnbaaGreatDoorXPure2
namespace Go.Proofs.YtpgehhnmlihnbaaGreatDoor
open Go.RowKit

/-- A row that is read. -/
def RdAt (w : World) (g : Nat) (xs : List Value) : Prop := g < w.heap.size ∧ ∀ k u, xs[k]? = some u → w.cell? ⟨g, k, none⟩ = some u
theorem RdAt.bel {w w1 : World} {g : Nat} {xs : List Value} (h : RdAt w g xs) (hb : Bel w w1) : RdAt w1 g xs := ⟨Nat.lt_of_lt_of_le h.1 hb.size, fun k u hu => bel_cell hb (h.2 k u hu)⟩
theorem RowAt.rd {w : World} {g : Nat} {xs : List Value} (h : RowAt w g xs) : RdAt w g xs := ⟨h.1, fun k u hu => (h.2 k u hu).1⟩
theorem RdAt.take {w : World} {g : Nat} {xs : List Value} (h : RdAt w g xs) (n : Nat) : RdAt w g (xs.take n) := ⟨h.1, fun k u hu => h.2 k u (by rw [List.getElem?_take] at hu; split at hu; exact hu; cases hu)⟩
theorem RdAt.alloc (w : World) (l : List Value) (e : TypeId) : RdAt (w.alloc (.cells l.toArray e)) w.heap.size l := by
  refine ⟨by simp, fun k u hu => ?_⟩
  rw [World.cell?_alloc_at _ _ _ _ rfl]
  simpa using hu
theorem strs_get (l : List (List UInt8)) (k : Nat) (x : List UInt8) (h : l[k]? = some x) : (strs l)[k]? = some (.string ⟨x.toArray⟩) := by simp [strs, h]

/-- What a list of labels comes back as. -/
def IsStrs (w' : World) (e : Ending) (l : List (List UInt8)) : Prop := ∃ g c, e = .returned (.slice (some ⟨g, 0, none⟩) l.length c) ∧ l.length ≤ c ∧ Hid (RdAt w' g (strs l))

set_option maxHeartbeats 1000000 in
theorem host_Split (c : UInt8) (s : ByteArray) (w : World) (hs : s.size ≤ 1000000) (HE : Hid (Env w)) :
    Calls Tryz.prog 61 #[.string s, .string ⟨#[c]⟩] w fun e w' => IsStrs w' e (cutS c.toNat [] (bl s)) ∧ Hid (Bel w w') := by
  obtain ⟨m, hm⟩ := HE.out.maxLen
  refine (Tryz.strings_Split s ⟨#[c]⟩ m w (by omega) hm (Nat.le_refl 1)).mono ?_
  rintro e w' ⟨rfl, rfl⟩
  refine ⟨⟨w.heap.size, (cutS c.toNat [] (bl s)).length, ?_, Nat.le_refl _, ?_⟩, (Below.refl _ _).alloc (Nat.le_refl _) _⟩
  · rw [split_len]
  · unfold Hid
    rw [split_cut]
    exact RdAt.alloc w _ _

theorem getLast_cut (l : List (List UInt8)) (n : Nat) (h : l.length = n + 1) (x : List UInt8) (hx : l[n]? = some x) : l.getLast? = some x := by
  rw [List.getLast?_eq_getElem?, h]; exact hx
set_option maxHeartbeats 2000000 in
set_option maxRecDepth 100000 in
theorem host_labels (s : ByteArray) (w : World) (hs : s.size ≤ 1000000) (HE : Hid (Env w)) :
    Calls Tryz.prog 28 #[.string s] w fun e w' => IsStrs w' e (labelsS (bl s)) ∧ Hid (Bel w w') := by
  have hlen := cutS_len 46 (bl s) []
  rw [bl_length] at hlen
  obtain ⟨n, hn⟩ : ∃ n, (cutS 46 [] (bl s)).length = n + 1 := ⟨(cutS 46 [] (bl s)).length - 1, by have := List.length_pos_iff.2 (cutS_ne 46 (bl s) []); omega⟩
  obtain ⟨x, hx⟩ : ∃ x, (cutS 46 [] (bl s))[n]? = some x := ⟨_, List.getElem?_eq_getElem (by omega)⟩
  have HX := Lib.hid (getLast_cut _ n hn x hx)
  have hx2 := Lib.hid hx
  have hn2 := Lib.hid hn
  have hnn : n ≤ s.size := by omega
  clear hlen hn hx
  go_enter Tryz.func28, Tryz.ntmps28
  go_wp2_with fail
  refine (host_Split 46 s _ hs HE).mono ?_
  rintro e w1 ⟨⟨g, c, rfl, hc, hR⟩, HB1⟩
  try rw [show ((46 : UInt8).toNat : Int) = 46 from rfl] at *
  have hcell := hR.out.2 n _ (strs_get _ n x hx2.out)
  have hLS : Hid (labelsS (bl s) = if 1 < (cutS 46 [] (bl s)).length ∧ (cutS 46 [] (bl s)).getLast? = some [] then (cutS 46 [] (bl s)).dropLast else cutS 46 [] (bl s)) := rfl
  generalize cutS 46 [] (bl s) = l at *
  rw [hn2.out] at hLS hc ⊢
  by_cases h1 : 0 < n
  · by_cases he : x = []
    · subst he
      have HF : Hid (labelsS (bl s) = l.dropLast) := hLS.out.trans (if_pos ⟨by omega, HX.out⟩)
      have hl := Lib.hid (show l.dropLast.length = n by rw [List.length_dropLast, hn2.out]; rfl)
      clear hLS
      go_wp2
      go_ret
      refine ⟨⟨g, c, ?_, ?_, ?_⟩, HB1⟩
      · rw [HF.out, hl.out]; rfl
      · rw [HF.out, hl.out]; omega
      · rw [HF.out, List.dropLast_eq_take, hn2.out, strs, List.map_take]; exact hR.out.take _
    · have he' : x.isEmpty = false := by cases x; exact absurd rfl he; rfl
      have HF : Hid (labelsS (bl s) = l) := hLS.out.trans (if_neg (by rw [HX.out]; simp [he]))
      clear hLS he
      go_wp2
      go_ret
      exact ⟨⟨g, c, by rw [HF.out, hn2.out]; rfl, by rw [HF.out, hn2.out]; exact hc, by rw [HF.out]; exact hR⟩, HB1⟩
  · have HF : Hid (labelsS (bl s) = l) := hLS.out.trans (if_neg (by omega))
    clear hLS
    go_wp2
    go_ret
    exact ⟨⟨g, c, by rw [HF.out, hn2.out]; rfl, by rw [HF.out, hn2.out]; exact hc, by rw [HF.out]; exact hR⟩, HB1⟩

theorem ref1_CutS (c : Int) (s : ByteArray) (w : World) (hs : s.size ≤ 1000000) :
    Calls Tryz.prog 53 #[.string s, .int .u8 c] w fun e w' => IsStrs w' e (cutS c [] (bl s)) ∧ Hid (Bel w w') := by
  refine (ref1_Cut s c w (by omega)).mono ?_
  rintro e w' ⟨⟨v, rfl, HO⟩, HB⟩
  obtain ⟨g, k, rfl, _, hr, hk⟩ := HO.out.row (by simp [strs]; exact cutS_ne c _ _)
  rw [strs_len] at *
  exact ⟨⟨g, k, rfl, hk, hr.rd⟩, HB⟩
set_option maxHeartbeats 2000000 in
set_option maxRecDepth 100000 in
theorem ref2_labels (s : ByteArray) (w : World) (hs : s.size ≤ 1000000) (_HE : Hid (Env w)) :
    Calls Tryz.prog 54 #[.string s] w fun e w' => IsStrs w' e (labelsS (bl s)) ∧ Hid (Bel w w') := by
  have hlen := cutS_len 46 (bl s) []
  rw [bl_length] at hlen
  obtain ⟨n, hn⟩ : ∃ n, (cutS 46 [] (bl s)).length = n + 1 := ⟨(cutS 46 [] (bl s)).length - 1, by have := List.length_pos_iff.2 (cutS_ne 46 (bl s) []); omega⟩
  obtain ⟨x, hx⟩ : ∃ x, (cutS 46 [] (bl s))[n]? = some x := ⟨_, List.getElem?_eq_getElem (by omega)⟩
  have HX := Lib.hid (getLast_cut _ n hn x hx)
  have hx2 := Lib.hid hx
  have hn2 := Lib.hid hn
  have hnn : n ≤ s.size := by omega
  clear hlen hn hx
  go_enter Tryz.func54, Tryz.ntmps54
  go_wp2_with fail
  refine (ref1_CutS 46 s _ hs).mono ?_
  rintro e w1 ⟨⟨g, c, rfl, hc, hR⟩, HB1⟩
  try rw [show ((46 : UInt8).toNat : Int) = 46 from rfl] at *
  have hcell := hR.out.2 n _ (strs_get _ n x hx2.out)
  have hLS : Hid (labelsS (bl s) = if 1 < (cutS 46 [] (bl s)).length ∧ (cutS 46 [] (bl s)).getLast? = some [] then (cutS 46 [] (bl s)).dropLast else cutS 46 [] (bl s)) := rfl
  generalize cutS 46 [] (bl s) = l at *
  rw [hn2.out] at hLS hc ⊢
  by_cases h1 : 0 < n
  · by_cases he : x = []
    · subst he
      have HF : Hid (labelsS (bl s) = l.dropLast) := hLS.out.trans (if_pos ⟨by omega, HX.out⟩)
      have hl := Lib.hid (show l.dropLast.length = n by rw [List.length_dropLast, hn2.out]; rfl)
      clear hLS
      go_wp2
      go_ret
      refine ⟨⟨g, c, ?_, ?_, ?_⟩, HB1⟩
      · rw [HF.out, hl.out]; rfl
      · rw [HF.out, hl.out]; omega
      · rw [HF.out, List.dropLast_eq_take, hn2.out, strs, List.map_take]; exact hR.out.take _
    · have he' : x.isEmpty = false := by cases x; exact absurd rfl he; rfl
      have HF : Hid (labelsS (bl s) = l) := hLS.out.trans (if_neg (by rw [HX.out]; simp [he]))
      clear hLS he
      go_wp2
      go_ret
      exact ⟨⟨g, c, by rw [HF.out, hn2.out]; rfl, by rw [HF.out, hn2.out]; exact hc, by rw [HF.out]; exact hR⟩, HB1⟩
  · have HF : Hid (labelsS (bl s) = l) := hLS.out.trans (if_neg (by omega))
    clear hLS
    go_wp2
    go_ret
    exact ⟨⟨g, c, by rw [HF.out, hn2.out]; rfl, by rw [HF.out, hn2.out]; exact hc, by rw [HF.out]; exact hR⟩, HB1⟩

end Go.Proofs.YtpgehhnmlihnbaaGreatDoor
