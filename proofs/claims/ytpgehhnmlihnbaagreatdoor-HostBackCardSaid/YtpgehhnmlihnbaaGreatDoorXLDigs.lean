import Derived.Test.YtpgehhnmlihnbaaGreatDoorXLCases
import Derived.Test.YtpgehhnmlihnbaaGreatDoorXLawQ
namespace Go.Proofs.YtpgehhnmlihnbaaGreatDoor
open Go.RowKit

set_option maxHeartbeats 4000000 in
set_option maxRecDepth 100000 in
theorem law2_digits (n b : Nat) (B : Int) (w : World) (hb : (b = 8 ∧ B = 8) ∨ (b = 10 ∧ B = 10) ∨ (b = 16 ∧ B = 16)) (hn : n ≤ 4294967295) :
    Calls Tryz.prog 26 #[.int .u64 n, .int .u64 B] w fun e w' => (∃ t, e = .returned (.string t) ∧ Hid (bl t = digs b n)) ∧ w = w' := by
  rcases hb with ⟨rfl, rfl⟩ | ⟨rfl, rfl⟩ | ⟨rfl, rfl⟩
  · go_enter Tryz.func26, Tryz.ntmps26
    go_wp2
    go_loop [0, 5] (fun i t => ∃ (k : Nat) (s : ByteArray), i = .int .u64 k ∧ t = .string s ∧ k ≤ n ∧ Hid (DigInv 8 n k (bl s))) (fun i t => match t with | .string s => (intOf i).toNat + (if (bl s).isEmpty then 1 else 0) | _ => 0)
    case atStart => exact ⟨n, ⟨#[]⟩, rfl, rfl, Nat.le_refl _, DigInv.start 8 n⟩
    case round =>
      obtain ⟨k, s, rfl, rfl, hk, HI⟩ := hrel
      have hsz : s.size ≤ 30 := by have h1 := HI.out.len (by omega); have h2 := digs_len 8 (by omega) 11 n (by omega) (by omega); rw [bl_length] at h1; omega
      by_cases hz : k = 0
      · subst hz
        by_cases he : bl s = []
        · have HS := Lib.hid (HI.out.step (by omega) (.inr he))
          have he' : s.toList.isEmpty = true := (str_empty s).2 he
          clear HI he
          go_wp2
          refine ⟨⟨0, _, rfl, rfl, by omega, ?_⟩, ?_⟩
          · unfold Hid; rw [bl_append]; exact HS.out
          · have h1 : bl s = [] := (str_empty s).1 he'
            have h2 : (bl ((⟨#[48, 49, 50, 51, 52, 53, 54, 55, 56, 57, 97, 98, 99, 100, 101, 102]⟩ : ByteArray).extract 0 1 ++ s)).isEmpty = false := by rw [bl_append]; rfl
            simp only [intOf, h2, h1]
            simp
        · have HS := Lib.hid (HI.out.done (by simp [he]))
          have he' : s.toList.isEmpty = false := by rw [Bool.eq_false_iff, ne_eq, str_empty]; exact he
          clear HI he
          go_wp2
          go_ret
          exact ⟨⟨_, rfl, HS⟩, rfl⟩
      · have HS := Lib.hid (HI.out.step (by omega) (.inl (by omega)))
        clear HI
        go_wp2
        refine ⟨⟨k / 8, _, by go_num, rfl, by omega, ?_⟩, ?_⟩
        · unfold Hid; rw [bl_append]; have := dig_piece16 ⟨k % 8, by omega⟩; dsimp only at this; rw [this]; exact HS.out
        · have h2 : (bl ((⟨#[48, 49, 50, 51, 52, 53, 54, 55, 56, 57, 97, 98, 99, 100, 101, 102]⟩ : ByteArray).extract (k % 8) (k % 8 + 1) ++ s)).isEmpty = false := by
            rw [bl_append]; have := dig_piece16 ⟨k % 8, by omega⟩; dsimp only at this; rw [this]; rfl
          simp only [intOf, h2]
          simp
          split <;> omega
  · go_enter Tryz.func26, Tryz.ntmps26
    go_wp2
    go_loop [0, 5] (fun i t => ∃ (k : Nat) (s : ByteArray), i = .int .u64 k ∧ t = .string s ∧ k ≤ n ∧ Hid (DigInv 10 n k (bl s))) (fun i t => match t with | .string s => (intOf i).toNat + (if (bl s).isEmpty then 1 else 0) | _ => 0)
    case atStart => exact ⟨n, ⟨#[]⟩, rfl, rfl, Nat.le_refl _, DigInv.start 10 n⟩
    case round =>
      obtain ⟨k, s, rfl, rfl, hk, HI⟩ := hrel
      have hsz : s.size ≤ 30 := by have h1 := HI.out.len (by omega); have h2 := digs_len 10 (by omega) 11 n (by omega) (by omega); rw [bl_length] at h1; omega
      by_cases hz : k = 0
      · subst hz
        by_cases he : bl s = []
        · have HS := Lib.hid (HI.out.step (by omega) (.inr he))
          have he' : s.toList.isEmpty = true := (str_empty s).2 he
          clear HI he
          go_wp2
          refine ⟨⟨0, _, rfl, rfl, by omega, ?_⟩, ?_⟩
          · unfold Hid; rw [bl_append]; exact HS.out
          · have h1 : bl s = [] := (str_empty s).1 he'
            have h2 : (bl ((⟨#[48, 49, 50, 51, 52, 53, 54, 55, 56, 57, 97, 98, 99, 100, 101, 102]⟩ : ByteArray).extract 0 1 ++ s)).isEmpty = false := by rw [bl_append]; rfl
            simp only [intOf, h2, h1]
            simp
        · have HS := Lib.hid (HI.out.done (by simp [he]))
          have he' : s.toList.isEmpty = false := by rw [Bool.eq_false_iff, ne_eq, str_empty]; exact he
          clear HI he
          go_wp2
          go_ret
          exact ⟨⟨_, rfl, HS⟩, rfl⟩
      · have HS := Lib.hid (HI.out.step (by omega) (.inl (by omega)))
        clear HI
        go_wp2
        refine ⟨⟨k / 10, _, by go_num, rfl, by omega, ?_⟩, ?_⟩
        · unfold Hid; rw [bl_append]; have := dig_piece16 ⟨k % 10, by omega⟩; dsimp only at this; rw [this]; exact HS.out
        · have h2 : (bl ((⟨#[48, 49, 50, 51, 52, 53, 54, 55, 56, 57, 97, 98, 99, 100, 101, 102]⟩ : ByteArray).extract (k % 10) (k % 10 + 1) ++ s)).isEmpty = false := by
            rw [bl_append]; have := dig_piece16 ⟨k % 10, by omega⟩; dsimp only at this; rw [this]; rfl
          simp only [intOf, h2]
          simp
          split <;> omega
  · go_enter Tryz.func26, Tryz.ntmps26
    go_wp2
    go_loop [0, 5] (fun i t => ∃ (k : Nat) (s : ByteArray), i = .int .u64 k ∧ t = .string s ∧ k ≤ n ∧ Hid (DigInv 16 n k (bl s))) (fun i t => match t with | .string s => (intOf i).toNat + (if (bl s).isEmpty then 1 else 0) | _ => 0)
    case atStart => exact ⟨n, ⟨#[]⟩, rfl, rfl, Nat.le_refl _, DigInv.start 16 n⟩
    case round =>
      obtain ⟨k, s, rfl, rfl, hk, HI⟩ := hrel
      have hsz : s.size ≤ 30 := by have h1 := HI.out.len (by omega); have h2 := digs_len 16 (by omega) 11 n (by omega) (by omega); rw [bl_length] at h1; omega
      by_cases hz : k = 0
      · subst hz
        by_cases he : bl s = []
        · have HS := Lib.hid (HI.out.step (by omega) (.inr he))
          have he' : s.toList.isEmpty = true := (str_empty s).2 he
          clear HI he
          go_wp2
          refine ⟨⟨0, _, rfl, rfl, by omega, ?_⟩, ?_⟩
          · unfold Hid; rw [bl_append]; exact HS.out
          · have h1 : bl s = [] := (str_empty s).1 he'
            have h2 : (bl ((⟨#[48, 49, 50, 51, 52, 53, 54, 55, 56, 57, 97, 98, 99, 100, 101, 102]⟩ : ByteArray).extract 0 1 ++ s)).isEmpty = false := by rw [bl_append]; rfl
            simp only [intOf, h2, h1]
            simp
        · have HS := Lib.hid (HI.out.done (by simp [he]))
          have he' : s.toList.isEmpty = false := by rw [Bool.eq_false_iff, ne_eq, str_empty]; exact he
          clear HI he
          go_wp2
          go_ret
          exact ⟨⟨_, rfl, HS⟩, rfl⟩
      · have HS := Lib.hid (HI.out.step (by omega) (.inl (by omega)))
        clear HI
        go_wp2
        refine ⟨⟨k / 16, _, by go_num, rfl, by omega, ?_⟩, ?_⟩
        · unfold Hid; rw [bl_append]; have := dig_piece16 ⟨k % 16, by omega⟩; dsimp only at this; rw [this]; exact HS.out
        · have h2 : (bl ((⟨#[48, 49, 50, 51, 52, 53, 54, 55, 56, 57, 97, 98, 99, 100, 101, 102]⟩ : ByteArray).extract (k % 16) (k % 16 + 1) ++ s)).isEmpty = false := by
            rw [bl_append]; have := dig_piece16 ⟨k % 16, by omega⟩; dsimp only at this; rw [this]; rfl
          simp only [intOf, h2]
          simp
          split <;> omega
end Go.Proofs.YtpgehhnmlihnbaaGreatDoor
