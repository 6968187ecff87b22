import Derived.Test.YtpgehhnmlihnbaaGreatDoorXRef1
import Derived.Lib.SplitLaws
import Derived.Lib.Split
namespace Go.Proofs.YtpgehhnmlihnbaaGreatDoor
open Go

theorem cutS_ne (c : Int) : ∀ (l acc : List UInt8), cutS c acc l ≠ []
  | [], _ => by simp [cutS]
  | x :: r, acc => by unfold cutS; split; simp; exact cutS_ne c r _
theorem cutS_acc (c : Int) : ∀ (l acc : List UInt8), ∃ h t, cutS c [] l = h :: t ∧ cutS c acc l = (acc ++ h) :: t
  | [], acc => ⟨[], [], rfl, by simp [cutS]⟩
  | x :: r, acc => by
    by_cases e : (x.toNat : Int) = c
    · exact ⟨[], cutS c [] r, by rw [cutS, if_pos e], by rw [cutS, if_pos e]; simp⟩
    · obtain ⟨h, t, h1, h2⟩ := cutS_acc c r ([] ++ [x])
      obtain ⟨h', t', h1', h2'⟩ := cutS_acc c r (acc ++ [x])
      rw [h1] at h1'
      injection h1' with ea eb
      subst ea eb
      exact ⟨x :: h, t, by rw [cutS, if_neg e, h2]; simp, by rw [cutS, if_neg e, h2']; simp⟩
theorem splitK_hit (c : UInt8) (k j : Nat) (l : List UInt8) (h : Lib.indexByte l c = j) : Lib.splitK [c] 0 (k + 1) l = l.take j :: Lib.splitK [c] 0 k (l.drop (j + 1)) := by
  rw [Lib.splitK, Lib.index_one, h]
  rw [if_neg (by simp)]
  simp
theorem splitK_cut (c : UInt8) : ∀ (l : List UInt8), Lib.splitK [c] 0 (l.count c) l = cutS c.toNat [] l
  | [] => rfl
  | x :: r => by
    by_cases e : x = c
    · subst e
      rw [List.count_cons_self, splitK_hit x _ 0 (x :: r) (by rw [Lib.indexByte]; simp), cutS, if_pos rfl, ← splitK_cut x r]
      rfl
    · have e' : ¬ ((x.toNat : Int) = c.toNat) := fun h => e (UInt8.toNat_inj.1 (by omega))
      rw [List.count_cons_of_ne (fun h => e h), cutS, if_neg e']
      obtain ⟨h, t, h1, h2⟩ := cutS_acc c.toNat r ([] ++ [x])
      rw [h2]
      have ih := splitK_cut c r
      rw [h1] at ih
      cases hk : r.count c with
      | zero =>
        rw [hk] at ih
        change [r] = h :: t at ih
        injection ih with ih1 ih2
        rw [← ih1, ← ih2]; rfl
      | succ k =>
        have hge := Lib.indexByte_ge r c
        by_cases hm : Lib.indexByte r c = -1
        · exact absurd (List.count_pos_iff.1 (by omega : 0 < r.count c)) (fun hmem => by
            obtain ⟨j, hj⟩ := List.mem_iff_getElem?.1 hmem
            exact Lib.indexByte_none hm j hj)
        · obtain ⟨j, hj⟩ : ∃ j : Nat, Lib.indexByte r c = j := ⟨(Lib.indexByte r c).toNat, by omega⟩
          rw [hk, splitK_hit c k j r hj] at ih
          have hx : Lib.indexByte (x :: r) c = ((j + 1 : Nat) : Int) := by
            rw [Lib.indexByte, if_neg (by simpa using e), if_neg (by rw [beq_iff_eq]; exact hm), hj]; rfl
          rw [splitK_hit c k (j + 1) (x :: r) hx]
          injection ih with ih1 ih2
          rw [← ih1, ← ih2]
          rfl
theorem split_cut (c : UInt8) (s : ByteArray) : (Lib.splitB ⟨#[c]⟩ 0 (Lib.countB s ⟨#[c]⟩) s).map Value.string = strs (cutS c.toNat [] (bl s)) := by
  have h1 := Lib.splitB_data ⟨#[c]⟩ 0 (Lib.countB s ⟨#[c]⟩) s
  have h2 : Lib.countB s ⟨#[c]⟩ = (bl s).count c := by
    rw [← Lib.count_one]; rfl
  rw [h2] at h1 ⊢
  rw [show ((⟨#[c]⟩ : ByteArray).data.toList) = [c] from rfl, show s.data.toList = bl s from rfl, splitK_cut] at h1
  rw [← h1]
  simp only [strs, List.map_map]
  apply List.map_congr_left
  intro x _
  simp
theorem split_len (c : UInt8) (s : ByteArray) : Lib.countB s ⟨#[c]⟩ + 1 = (cutS c.toNat [] (bl s)).length := by
  have h2 : Lib.countB s ⟨#[c]⟩ = (bl s).count c := by rw [← Lib.count_one]; rfl
  have key : ∀ (l : List UInt8), l.count c + 1 = (cutS c.toNat [] l).length := by
    intro l
    induction l with
    | nil => rfl
    | cons x r ih =>
      by_cases e : x = c
      · subst e; rw [List.count_cons_self, cutS, if_pos rfl, List.length_cons, ← ih]
      · have e' : ¬ ((x.toNat : Int) = c.toNat) := fun h => e (UInt8.toNat_inj.1 (by omega))
        rw [List.count_cons_of_ne (fun h => e h), cutS, if_neg e', ih]
        obtain ⟨h, t, h1, h2⟩ := cutS_acc c.toNat r ([] ++ [x])
        rw [h1, h2]; simp
  rw [h2, key]
/-- A host's labels, without an empty last one. -/
def labelsS (l : List UInt8) : List (List UInt8) := if 1 < (cutS 46 [] l).length ∧ (cutS 46 [] l).getLast? = some [] then (cutS 46 [] l).dropLast else cutS 46 [] l
theorem labelsS_ne (l : List UInt8) : labelsS l ≠ [] := by
  unfold labelsS
  split
  · rename_i h; intro e; have := congrArg List.length e; rw [List.length_dropLast] at this; simp at this; omega
  · exact cutS_ne _ _ _
theorem labelsS_len (l : List UInt8) : (labelsS l).length ≤ l.length + 1 := by
  have := cutS_len 46 l []
  unfold labelsS
  split
  · rw [List.length_dropLast]; omega
  · exact this
end Go.Proofs.YtpgehhnmlihnbaaGreatDoor
