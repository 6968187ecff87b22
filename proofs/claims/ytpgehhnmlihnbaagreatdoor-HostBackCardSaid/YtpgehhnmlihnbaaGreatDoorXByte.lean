import Derived.Test.YtpgehhnmlihnbaaGreatDoorXText4
import Derived.Lib.AtoiAll
namespace Go.Proofs.YtpgehhnmlihnbaaGreatDoor
open Go.RowKit

theorem valF_app (b : Nat) : ∀ (l r : List UInt8) (n : Nat), valF b n (l ++ r) = valF b (valF b n l) r
  | [], _, _ => rfl
  | x :: l, r, n => by rw [List.cons_append, valF, valF_app b l r, valF]
theorem valF_lt (b : Nat) (hb : 1 ≤ b) : ∀ (l : List UInt8) (n : Nat), l.all (okDig b) = true → valF b n l < (n + 1) * b ^ l.length
  | [], n, _ => by simp [valF]
  | x :: r, n, h => by
    rw [List.all_cons, Bool.and_eq_true] at h
    have hx : (hexV x.toNat).toNat + 1 ≤ b := by have := h.1; simp [okDig] at this; omega
    rw [valF, List.length_cons]
    refine Nat.lt_of_lt_of_le (valF_lt b hb r _ h.2) ?_
    rw [Nat.pow_succ, Nat.mul_comm (b ^ r.length) b, ← Nat.mul_assoc]
    refine Nat.mul_le_mul_right _ ?_
    rw [Nat.add_mul, Nat.one_mul, Nat.add_assoc]
    exact Nat.add_le_add_left hx _
theorem valS_lt (b : Nat) (hb : 1 ≤ b) (l : List UInt8) (h : l.all (okDig b) = true) : valS b l < b ^ l.length := by
  have := valF_lt b hb l 0 h
  unfold valS
  omega
theorem digit_back (x : UInt8) (h : isDec x = true) : dgc ((hexV x.toNat).toNat) = x ∧ (hexV x.toNat).toNat < 10 := by
  have := u8_all (p := fun x => !(isDec x) || (decide (dgc ((hexV x.toNat).toNat) = x) && decide ((hexV x.toNat).toNat < 10))) (q := fun _ => true) (by decide +kernel) x
  simpa [h] using this
theorem all10 (l : List UInt8) : l.all (okDig 10) = l.all isDec := by congr 1; funext x; exact ok10 x
/-- A numeral with no needless zero ahead is the digits of its value. -/
theorem digs_back : ∀ (l : List UInt8), l.all isDec = true → l ≠ [] → (l.length ≤ 1 ∨ l.head? ≠ some 48) → digs 10 (valS 10 l) = l := by
  intro l
  induction hn : l.length generalizing l with
  | zero => intro _ h0; exact absurd (List.length_eq_zero_iff.1 hn) h0
  | succ n ih =>
    intro hall h0 hz
    obtain ⟨r, c, rfl⟩ : ∃ r c, l = r ++ [c] := ⟨l.dropLast, l.getLast h0, (List.dropLast_concat_getLast h0).symm⟩
    rw [List.all_append, Bool.and_eq_true] at hall
    have hc := digit_back c (by simpa using hall.2)
    have hv : valS 10 (r ++ [c]) = valS 10 r * 10 + (hexV c.toNat).toNat := by unfold valS; rw [valF_app]; rfl
    rw [hv]
    by_cases hr : r = []
    · subst hr
      rw [show valS 10 [] = 0 from rfl, Nat.zero_mul, Nat.zero_add, digs_small hc.2, hc.1]; rfl
    · obtain ⟨x, r', rfl⟩ : ∃ x r', r = x :: r' := by cases r with | nil => exact absurd rfl hr | cons x r' => exact ⟨x, r', rfl⟩
      have hx : x ≠ 48 := by
        intro e; subst e
        rcases hz with hz | hz
        · simp at hn; omega
        · simp at hz
      have hpos : 1 ≤ valS 10 (x :: r') := by
        have h1 := hall.1
        rw [List.all_cons, Bool.and_eq_true] at h1
        have hx2 := digit_back x h1.1
        have : 1 ≤ (hexV x.toNat).toNat := by
          rcases Nat.eq_zero_or_pos (hexV x.toNat).toNat with h | h
          · rw [h] at hx2; exact absurd hx2.1.symm hx
          · exact h
        unfold valS; rw [valF]
        refine Nat.le_trans ?_ (valF_ge 10 (by omega) r' _)
        omega
      rw [digs_step (by omega) (by omega)]
      have e1 : (valS 10 (x :: r') * 10 + (hexV c.toNat).toNat) / 10 = valS 10 (x :: r') := by omega
      have e2 : (valS 10 (x :: r') * 10 + (hexV c.toNat).toNat) % 10 = (hexV c.toNat).toNat := by omega
      rw [e1, e2, hc.1, ih (x :: r') (by simp at hn ⊢; exact hn) hall.1 (by simp) (by right; simpa using hx)]
/-- One with a needless zero is not. -/
theorem digs_zero (r : List UInt8) (h : (48 :: r).all isDec = true) (h0 : r ≠ []) : digs 10 (valS 10 (48 :: r)) ≠ 48 :: r := by
  intro e
  have hv : valS 10 (48 :: r) = valS 10 r := by unfold valS; rw [valF]; rfl
  rw [hv] at e
  rw [List.all_cons, Bool.and_eq_true] at h
  have hl := digs_len 10 (by omega) r.length (valS 10 r) (valS_lt 10 (by omega) r (by rw [all10]; exact h.2)) (List.length_pos_iff.2 h0)
  rw [e] at hl
  simp at hl
  omega
/-- A number from 0 to 255 written as it is to be. -/
def byteS (x : List UInt8) : Option Nat := if x ≠ [] ∧ x.all isDec = true ∧ valS 10 x ≤ 255 ∧ digs 10 (valS 10 x) = x then some (valS 10 x) else none
theorem byte_le {x : List UInt8} {d : Nat} (h : byteS x = some d) : d ≤ 255 := by
  unfold byteS at h
  split at h
  · rename_i hh; have := Option.some.inj h; omega
  · cases h
def max63 : Nat := 9223372036854775807
theorem intF_is : ∀ (l : List UInt8) (m : Nat), intF (min m max63 : Nat) l = if l.all isDec = true then some ((min (valF 10 m l) max63 : Nat) : Int) else none
  | [], m => by simp [intF, valF]
  | x :: r, m => by
    rw [intF]
    cases hx : isDec x
    · rw [show isDigit x.toNat = false from hx]; simp [hx]
    · rw [show isDigit x.toNat = true from hx]
      have hd := digit_back x hx
      have hx' : isDigit x.toNat = true := hx
      unfold isDigit at hx'
      have hr : (48 : Int) ≤ x.toNat ∧ (x.toNat : Int) ≤ 57 := by simpa using hx'
      have hv : hexV x.toNat = x.toNat - 48 := hexV_dec x hr.1 hr.2
      have hN : intN (min m max63 : Nat) x = (min (m * 10 + (hexV x.toNat).toNat) max63 : Nat) := by
        unfold intN max63
        rw [hv]
        split <;> omega
      rw [hN]
      have := intF_is r (m * 10 + (hexV x.toNat).toNat)
      simp only [if_true, this, valF, List.all_cons, hx, Bool.true_and]
theorem byte_ref (x : List UInt8) : byteS x = if (intS x).2 = true ∧ (intS x).1 ≤ 255 ∧ ¬ (1 < x.length ∧ x.head? = some 48) then some (intS x).1.toNat else none := by
  have hi := intF_is x 0
  rw [Nat.zero_min] at hi
  unfold intS
  rw [show ((0 : Nat) : Int) = 0 from rfl] at hi
  rw [hi]
  unfold byteS valS
  cases ha : x.all isDec
  · simp
  · by_cases h0 : x = []
    · subst h0; simp
    · have hp : 0 < x.length := List.length_pos_iff.2 h0
      simp only [if_true, hp, decide_true, true_and, ne_eq, h0, not_false_eq_true]
      by_cases hz : 1 < x.length ∧ x.head? = some 48
      · rw [if_neg, if_neg]
        · rintro ⟨_, h⟩; exact h hz
        · rintro ⟨_, h⟩
          obtain ⟨r, rfl⟩ : ∃ r, x = 48 :: r := by
            cases x with
            | nil => exact absurd rfl h0
            | cons y r => exact ⟨r, by have := hz.2; simp at this; rw [this]⟩
          exact digs_zero r ha (by intro e; subst e; simp at hz) h
      · have hb := digs_back x ha h0 (by
          by_cases h1 : x.length ≤ 1
          · exact .inl h1
          · right; intro h; exact hz ⟨by omega, h⟩)
        unfold valS at hb
        by_cases hv : valF 10 0 x ≤ 255
        · rw [if_pos ⟨hv, hb⟩, if_pos ⟨by unfold max63; omega, hz⟩]
          congr 1
          unfold max63; omega
        · rw [if_neg (fun h => hv h.1), if_neg (fun h => hv (by have := h.1; unfold max63 at this; omega))]
/-- What strconv.Atoi says of digits. -/
theorem parse10_is : ∀ (l : List UInt8) (m : Nat), l.all isDec = true → m < 18446744073709551616 → Lib.parseUint10 m l = if valF 10 m l < 18446744073709551616 then .ok (valF 10 m l) else .range
  | [], m, _, hm => by simp [Lib.parseUint10, valF, hm]
  | x :: r, m, h, hm => by
    rw [List.all_cons, Bool.and_eq_true] at h
    have hx' : isDigit x.toNat = true := h.1
    unfold isDigit at hx'
    have hr : (48 : Int) ≤ x.toNat ∧ (x.toNat : Int) ≤ 57 := by simpa using hx'
    have hv : hexV x.toNat = x.toNat - 48 := hexV_dec x hr.1 hr.2
    have hv2 : (hexV x.toNat).toNat = x.toNat - 48 := by rw [hv]; omega
    have hge := valF_ge 10 (by omega) r (m * 10 + (x.toNat - 48))
    rw [Lib.parseUint10, if_pos (by omega), valF, hv2]
    split
    · rw [if_neg (by omega)]
    · split
      · rw [if_neg (by omega)]
      · exact parse10_is r _ h.2 (by omega)
theorem atoi_dec (l : List UInt8) (h : l.all isDec = true) (h0 : l ≠ []) : Lib.atoiAll l = if valS 10 l < 9223372036854775808 then .ok ((valS 10 l : Nat) : Int) else .range := by
  cases l with
  | nil => exact absurd rfl h0
  | cons x r =>
    have hh := h
    rw [List.all_cons, Bool.and_eq_true] at hh
    have hx' : isDigit x.toNat = true := hh.1
    unfold isDigit at hx'
    have hr : (48 : Int) ≤ x.toNat ∧ (x.toNat : Int) ≤ 57 := by simpa using hx'
    have hp := parse10_is (x :: r) 0 h (by omega)
    unfold Lib.atoiAll
    simp only
    rw [if_neg (by omega)]
    unfold Lib.parseMag
    rw [if_neg (by simp), hp]
    unfold valS
    by_cases h1 : valF 10 0 (x :: r) < 9223372036854775808
    · rw [if_pos (by omega), if_pos h1]
      simp only
      rw [if_neg (by omega), if_neg (by omega), if_neg (by omega)]
    · rw [if_neg h1]
      by_cases h2 : valF 10 0 (x :: r) < 18446744073709551616
      · rw [if_pos h2]; simp only; rw [if_pos (by omega)]
      · rw [if_neg h2]
/-- Four numbers as one. -/
def dot4F (n : Nat) : List (List UInt8) → Option Nat
  | [] => some n
  | x :: r => match byteS x with
    | none => none
    | some d => dot4F (n * 256 + d) r
theorem dot4_none {n : Nat} {x : List UInt8} {r : List (List UInt8)} (h : byteS x = none) : dot4F n (x :: r) = none := by rw [dot4F, h]
theorem dot4_some {n d : Nat} {x : List UInt8} {r : List (List UInt8)} (h : byteS x = some d) : dot4F n (x :: r) = dot4F (n * 256 + d) r := by rw [dot4F, h]
/-- Two pieces out of four decimal numbers. -/
def dottedS (l : List UInt8) : Option (List Nat) := if (cutS 46 [] l).length = 4 then (dot4F 0 (cutS 46 [] l)).map fun n => [n / 65536, n % 65536] else none
end Go.Proofs.YtpgehhnmlihnbaaGreatDoor
