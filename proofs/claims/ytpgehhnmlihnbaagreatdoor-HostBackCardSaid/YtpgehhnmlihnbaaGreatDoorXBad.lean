import Derived.Test.YtpgehhnmlihnbaaGreatDoorXT6R
namespace Go.Proofs.YtpgehhnmlihnbaaGreatDoor
open Go.RowKit

/-- What no host may hold. -/
def badL : List UInt8 := [0, 9, 10, 13, 32, 35, 47, 58, 60, 62, 63, 64, 91, 92, 93, 94, 124]
def badS (x : UInt8) : Bool := badL.contains x
def badB : ByteArray := ⟨#[0, 9, 10, 13, 32, 35, 47, 58, 60, 62, 63, 64, 91, 92, 93, 94, 124]⟩
theorem bad_get (k : Nat) (h : k < badB.size) : badL.take (k + 1) = badL.take k ++ [badB[k]] := bl_take badB k h
theorem bad_hit {k : Nat} {x : UInt8} (h : k < badB.size) (e : ((badB[k].toNat : Int) == (x.toNat : Int)) = true) : badS x = true := by
  have e2 : badB[k] = x := UInt8.toNat_inj.1 (by rw [beq_iff_eq] at e; omega)
  have hm : badB[k] ∈ badL := List.mem_of_getElem? (bl_get badB k h)
  rw [e2] at hm
  unfold badS; simpa using hm
theorem bad_step {k : Nat} {x : UInt8} (h : k < badB.size) (e : ((badB[k].toNat : Int) == (x.toNat : Int)) = false) (hi : (badL.take k).contains x = false) : (badL.take (k + 1)).contains x = false := by
  have e2 : badB[k] ≠ x := fun h2 => by rw [h2] at e; simp at e
  have hi2 : ¬ x ∈ badL.take k := by simpa using hi
  rw [bad_get k h, Bool.eq_false_iff]
  intro hc
  have hc : x ∈ badL.take k ++ [badB[k]] := by simpa using hc
  rcases List.mem_append.1 hc with h1 | h1
  · exact hi2 h1
  · exact e2 (List.mem_singleton.1 h1).symm
set_option maxHeartbeats 2000000 in
set_option maxRecDepth 100000 in
theorem ref2_bad (x : UInt8) (w : World) : Calls Tryz.prog 49 #[.int .u8 x.toNat] w fun e w' => e = .returned (.bool (badS x)) ∧ w = w' := by
  have hbs : badB.size = 17 := rfl
  have hbl : bl badB = badL := rfl
  go_enter Tryz.func49, Tryz.ntmps49
  go_wp2
  go_loop [3] (fun i => ∃ k : Nat, k ≤ 17 ∧ i = .int .i64 k ∧ Hid ((badL.take k).contains x = false)) (fun i => 17 - (intOf i).toNat)
  case atStart => exact ⟨0, by omega, rfl, rfl⟩
  case round =>
    obtain ⟨k, hk, rfl, HI⟩ := hrel
    by_cases hlt : k < 17
    · go_wp2
      · rename_i e _
        go_ret
        exact ⟨ret_bool (bad_hit (show k < badB.size from hlt) e).symm, rfl⟩
      · rename_i e
        exact ⟨⟨k + 1, by omega, by go_num, bad_step (show k < badB.size from hlt) e HI.out⟩, by simp [intOf]; omega⟩
    · have HF : Hid (badS x = false) := by have := HI.out; rw [List.take_of_length_le (by show 17 ≤ k; omega)] at this; exact this
      go_wp2
      go_ret
      exact ⟨ret_bool HF.out.symm, rfl⟩
end Go.Proofs.YtpgehhnmlihnbaaGreatDoor
