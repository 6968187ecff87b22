import Derived.Test.YtpgehhnmlihnbaaGreatDoorXSix2
namespace Go.Proofs.YtpgehhnmlihnbaaGreatDoor
open Go.RowKit

theorem dig_piece16 : ∀ d : Fin 16, bl ((⟨#[48, 49, 50, 51, 52, 53, 54, 55, 56, 57, 97, 98, 99, 100, 101, 102]⟩ : ByteArray).extract d.val (d.val + 1)) = [dgc d.val] := by decide +kernel
set_option maxHeartbeats 1000000 in
set_option maxRecDepth 100000 in
theorem ref2_digits (n : Nat) (w : World) (hn : n ≤ 65535) :
    Calls Tryz.prog 60 #[.int .u16 n] w fun e w' => (∃ t, e = .returned (.string t) ∧ Hid (bl t = digs 16 n)) ∧ w = w' := by
  go_enter Tryz.func60, Tryz.ntmps60
  go_wp2
  go_loop [0, 3] (fun i t => ∃ (k : Nat) (s : ByteArray), i = .int .u16 k ∧ t = .string s ∧ k ≤ n ∧ Hid (DigInv 16 n k (bl s))) (fun i t => match t with | .string s => (intOf i).toNat + (if (bl s).isEmpty then 1 else 0) | _ => 0)
  case atStart => exact ⟨n, ⟨#[]⟩, rfl, rfl, Nat.le_refl _, DigInv.start 16 n⟩
  case round =>
    obtain ⟨k, s, rfl, rfl, hk, HI⟩ := hrel
    have hsz : s.size ≤ 30 := by have h1 := HI.out.len (by omega); have h2 := digs_len 16 (by omega) 4 n (by omega) (by omega); rw [bl_length] at h1; omega
    by_cases hz : k = 0
    · subst hz
      by_cases he : bl s = []
      · have HS := Lib.hid (HI.out.step (by omega) (.inr he))
        have he' : s.toList.isEmpty = true := (str_empty s).2 he
        clear HI he
        go_wp2
        refine ⟨⟨0, _, rfl, rfl, by omega, ?_⟩, ?_⟩
        · unfold Hid; rw [bl_append]; exact HS.out
        · have h1 : bl s = [] := (str_empty s).1 he'
          have h2 : (bl ((⟨#[48, 49, 50, 51, 52, 53, 54, 55, 56, 57, 97, 98, 99, 100, 101, 102]⟩ : ByteArray).extract 0 1 ++ s)).isEmpty = false := by rw [bl_append]; rfl
          simp only [intOf, h2, h1]
          simp
      · have HS := Lib.hid (HI.out.done (by simp [he]))
        have he' : s.toList.isEmpty = false := by rw [Bool.eq_false_iff, ne_eq, str_empty]; exact he
        clear HI he
        go_wp2
        go_ret
        exact ⟨⟨_, rfl, HS⟩, rfl⟩
    · have HS := Lib.hid (HI.out.step (by omega) (.inl (by omega)))
      clear HI
      go_wp2
      refine ⟨⟨k / 16, _, by go_num, rfl, by omega, ?_⟩, ?_⟩
      · unfold Hid; rw [bl_append]; have := dig_piece16 ⟨k % 16, by omega⟩; dsimp only at this; rw [this]; exact HS.out
      · have h2 : (bl ((⟨#[48, 49, 50, 51, 52, 53, 54, 55, 56, 57, 97, 98, 99, 100, 101, 102]⟩ : ByteArray).extract (k % 16) (k % 16 + 1) ++ s)).isEmpty = false := by
          rw [bl_append]; have := dig_piece16 ⟨k % 16, by omega⟩; dsimp only at this; rw [this]; rfl
        simp only [intOf, h2]
        simp
        split <;> omega
end Go.Proofs.YtpgehhnmlihnbaaGreatDoor
