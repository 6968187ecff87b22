import Derived.Lib.ItoaNum
import Derived.Lib.ItoaMem
namespace Go.Proofs.YtpgehhnmlihnbaaGreatDoor
open Go

/-! Digits of a number by a base, as both texts write them. -/
def dgc (d : Nat) : UInt8 := if d < 10 then UInt8.ofNat (48 + d) else UInt8.ofNat (87 + d)
def digs (b u : Nat) : List UInt8 := if _h : 2 ≤ b ∧ b ≤ u then digs b (u / b) ++ [dgc (u % b)] else [dgc u]
termination_by u
decreasing_by exact Nat.div_lt_self (by omega) (by omega)
theorem digs_small {b u : Nat} (h : u < b) : digs b u = [dgc u] := by rw [digs, dif_neg (by omega)]
theorem digs_step {b u : Nat} (h2 : 2 ≤ b) (h : b ≤ u) : digs b u = digs b (u / b) ++ [dgc (u % b)] := by rw [digs, dif_pos ⟨h2, h⟩]
theorem digs10 (u : Nat) : digs 10 u = Lib.decDigits u := by
  induction u using Nat.strongRecOn with
  | _ u ih =>
    rw [Lib.decDigits]
    by_cases h : u < 10
    · rw [dif_pos h, digs_small h, dgc, if_pos h]
    · rw [dif_neg h, digs_step (by omega) (by omega), ih (u / 10) (by omega), dgc, if_pos (by omega)]
def DigInv (b n k : Nat) (t : List UInt8) : Prop := (t = [] ∧ k = n) ∨ (t ≠ [] ∧ k = 0 ∧ t = digs b n) ∨ (t ≠ [] ∧ 0 < k ∧ digs b k ++ t = digs b n)
theorem DigInv.start (b n : Nat) : DigInv b n n [] := .inl ⟨rfl, rfl⟩
theorem DigInv.step {b n k : Nat} {t : List UInt8} (hb : 2 ≤ b) (h : DigInv b n k t) (hg : 0 < k ∨ t = []) : DigInv b n (k / b) (dgc (k % b) :: t) := by
  have key : ∀ k, k / b = 0 → digs b k = [dgc (k % b)] := fun k hk => by
    have : k < b := by rcases Nat.lt_or_ge k b with h | h; exact h; have := Nat.div_pos h (by omega); omega
    rw [digs_small this, Nat.mod_eq_of_lt this]
  have key2 : ∀ k, 0 < k / b → digs b k = digs b (k / b) ++ [dgc (k % b)] := fun k hk => digs_step hb (by
    rcases Nat.lt_or_ge k b with h | h
    · rw [Nat.div_eq_of_lt h] at hk; omega
    · exact h)
  rcases Nat.eq_zero_or_pos (k / b) with h0 | h0
  · refine .inr (.inl ⟨by simp, h0, ?_⟩)
    rcases h with ⟨rfl, rfl⟩ | ⟨h1, rfl, h3⟩ | ⟨h1, h2, h3⟩
    · rw [key _ h0]
    · rcases hg with h | h
      · omega
      · exact absurd h h1
    · rw [← h3, key _ h0]; rfl
  · refine .inr (.inr ⟨by simp, h0, ?_⟩)
    rcases h with ⟨rfl, rfl⟩ | ⟨h1, rfl, h3⟩ | ⟨h1, h2, h3⟩
    · rw [key2 _ h0]
    · simp at h0
    · rw [← h3, key2 _ h0]; simp
theorem DigInv.done {b n k : Nat} {t : List UInt8} (h : DigInv b n k t) (hg : ¬ (0 < k ∨ t = [])) : t = digs b n := by
  rcases h with ⟨rfl, rfl⟩ | ⟨h1, rfl, h3⟩ | ⟨h1, h2, h3⟩
  · simp at hg
  · exact h3
  · omega
theorem DigInv.len {b n k : Nat} {t : List UInt8} (_hb : 2 ≤ b) (h : DigInv b n k t) : t.length ≤ (digs b n).length := by
  rcases h with ⟨rfl, rfl⟩ | ⟨h1, rfl, h3⟩ | ⟨h1, h2, h3⟩
  · simp
  · rw [h3]; exact Nat.le_refl _
  · rw [← h3]; simp
theorem digs_len (b : Nat) (hb : 2 ≤ b) : ∀ (m u : Nat), u < b ^ m → 1 ≤ m → (digs b u).length ≤ m
  | 0, _, _, h => by omega
  | m + 1, u, h, _ => by
    by_cases hu : u < b
    · rw [digs_small hu]; simp
    · rw [digs_step hb (by omega)]
      have hm : 1 ≤ m := by
        rcases Nat.eq_zero_or_pos m with rfl | h'
        · simp at h; omega
        · exact h'
      have := digs_len b hb m (u / b) (by rw [Nat.div_lt_iff_lt_mul (by omega)]; rw [Nat.pow_succ] at h; exact h) hm
      simp; omega
/-- A text in small letters; percent signs. -/
def low (x : UInt8) : UInt8 := if 65 ≤ x.toNat ∧ x.toNat ≤ 90 then x + 32 else x
def lower (l : List UInt8) : List UInt8 := l.map low
theorem low_toNat (x : UInt8) : (low x).toNat = if 65 ≤ x.toNat ∧ x.toNat ≤ 90 then x.toNat + 32 else x.toNat := by
  unfold low; split
  · rw [UInt8.toNat_add]; simp; omega
  · rfl
end Go.Proofs.YtpgehhnmlihnbaaGreatDoor
