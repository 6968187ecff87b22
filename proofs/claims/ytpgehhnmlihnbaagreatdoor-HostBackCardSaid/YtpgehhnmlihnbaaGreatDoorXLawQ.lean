import Derived.Test.YtpgehhnmlihnbaaGreatDoorXLawP
namespace Go.Proofs.YtpgehhnmlihnbaaGreatDoor
open Go.RowKit

/-! The numbers' forms. -/
theorem or_u64 (a d k : Nat) (hd : d < 2 ^ k) (h : a * 2 ^ k + d < 18446744073709551616) : Go.bits .or .u64 ((a * 2 ^ k : Nat) : Int) (d : Int) = ((a * 2 ^ k + d : Nat) : Int) := by
  show IntKind.u64.wrap ((BitVec.ofInt 64 ((a * 2 ^ k : Nat) : Int) ||| BitVec.ofInt 64 (d : Int)).toNat : Int) = _
  have h1 : (BitVec.ofInt 64 ((a * 2 ^ k : Nat) : Int)).toNat = a * 2 ^ k := by
    rw [BitVec.ofInt_natCast, BitVec.toNat_ofNat]; exact Nat.mod_eq_of_lt (by omega)
  have h2 : (BitVec.ofInt 64 (d : Int)).toNat = d := by
    rw [BitVec.ofInt_natCast, BitVec.toNat_ofNat]; exact Nat.mod_eq_of_lt (by omega)
  have h3 : a * 2 ^ k ||| d = a * 2 ^ k + d := by
    have := Nat.shiftLeft_add_eq_or_of_lt (i := k) (b := d) hd a
    rw [Nat.shiftLeft_eq] at this
    exact this.symm
  rw [BitVec.toNat_or, h1, h2, h3]
  exact u64_of _ (by omega)
theorem fourA_0 (v : Nat) (hv : v ≤ 255) : fourA 0 0 v = ((v * 16777216 : Nat) : Int) := by
  unfold fourA
  rw [show ((v : Int) * 2 ^ (24 - 8 * 0)) = ((v * 16777216 : Nat) : Int) from (Int.natCast_mul _ _).symm, u64_of _ (by omega)]
  have := or_u64 0 (v * 16777216) 32 (by omega) (by omega)
  rw [show (0 * 2 ^ 32 : Nat) = 0 from rfl, Nat.zero_add] at this
  exact this
theorem fourA_1 (a v : Nat) (ha : a ≤ 255) (hv : v ≤ 255) : fourA ((a * 16777216 : Nat) : Int) 1 v = (((a * 256 + v) * 65536 : Nat) : Int) := by
  unfold fourA
  rw [show ((v : Int) * 2 ^ (24 - 8 * 1)) = ((v * 65536 : Nat) : Int) from (Int.natCast_mul _ _).symm, u64_of _ (by omega)]
  have := or_u64 a (v * 65536) 24 (by omega) (by omega)
  rw [show a * 2 ^ 24 = a * 16777216 from rfl] at this
  rw [this]; omega
theorem fourA_2 (a v : Nat) (ha : a ≤ 65535) (hv : v ≤ 255) : fourA ((a * 65536 : Nat) : Int) 2 v = (((a * 256 + v) * 256 : Nat) : Int) := by
  unfold fourA
  rw [show ((v : Int) * 2 ^ (24 - 8 * 2)) = ((v * 256 : Nat) : Int) from (Int.natCast_mul _ _).symm, u64_of _ (by omega)]
  have := or_u64 a (v * 256) 16 (by omega) (by omega)
  rw [show a * 2 ^ 16 = a * 65536 from rfl] at this
  rw [this]; omega
theorem wrap32 (n : Nat) (h : n < 4294967296) : IntKind.u32.wrap (n : Int) = (n : Int) := by rw [IntKind.wrap_u32]; omega
theorem four_1 {x : List UInt8} {v : Nat} (hx : numberS x = some v) (hv : v < 4294967296) : fourF 1 0 0 [x] = some (v : Int) := by
  rw [fourF_end hx (by omega), if_neg (by simp only [Nat.reducePow, Nat.reduceMul, Nat.reduceSub]; omega), fourF]
  have := or_u64 0 v 32 (by omega) (by omega)
  rw [show (0 * 2 ^ 32 : Nat) = 0 from rfl, Nat.zero_add] at this
  rw [show Go.bits .or .u64 0 (v : Int) = (v : Int) from this, wrap32 v hv]
theorem four_2 {x y : List UInt8} {a v : Nat} (hx : numberS x = some a) (hy : numberS y = some v) (ha : a ≤ 255) (hv : v < 16777216) : fourF 2 0 0 [x, y] = some ((a * 16777216 + v : Nat) : Int) := by
  rw [fourF_mid hx (by omega), if_neg (by omega), fourA_0 a ha, fourF_end hy (by omega), if_neg (by simp only [Nat.reducePow, Nat.reduceMul, Nat.reduceSub]; omega), fourF]
  have := or_u64 a v 24 (by omega) (by omega)
  rw [show a * 2 ^ 24 = a * 16777216 from rfl] at this
  rw [this, wrap32 _ (by omega)]
theorem four_3 {x y z : List UInt8} {a b v : Nat} (hx : numberS x = some a) (hy : numberS y = some b) (hz : numberS z = some v) (ha : a ≤ 255) (hb : b ≤ 255) (hv : v < 65536) : fourF 3 0 0 [x, y, z] = some (((a * 256 + b) * 65536 + v : Nat) : Int) := by
  rw [fourF_mid hx (by omega), if_neg (by omega), fourA_0 a ha, fourF_mid hy (by omega), if_neg (by omega), fourA_1 a b ha hb, fourF_end hz (by omega), if_neg (by simp only [Nat.reducePow, Nat.reduceMul, Nat.reduceSub]; omega), fourF]
  have := or_u64 (a * 256 + b) v 16 (by omega) (by omega)
  rw [show (a * 256 + b) * 2 ^ 16 = (a * 256 + b) * 65536 from rfl] at this
  rw [this, wrap32 _ (by omega)]
theorem four_4 {x y z u : List UInt8} {a b c v : Nat} (hx : numberS x = some a) (hy : numberS y = some b) (hz : numberS z = some c) (hu : numberS u = some v) (ha : a ≤ 255) (hb : b ≤ 255) (hc : c ≤ 255) (hv : v ≤ 255) : fourF 4 0 0 [x, y, z, u] = some ((((a * 256 + b) * 256 + c) * 256 + v : Nat) : Int) := by
  rw [fourF_mid hx (by omega), if_neg (by omega), fourA_0 a ha, fourF_mid hy (by omega), if_neg (by omega), fourA_1 a b ha hb, fourF_mid hz (by omega), if_neg (by omega), fourA_2 _ c (by omega) hc, fourF_end hu (by omega), if_neg (by simp only [Nat.reducePow, Nat.reduceMul, Nat.reduceSub]; omega), fourF]
  have := or_u64 ((a * 256 + b) * 256 + c) v 8 (by omega) (by omega)
  rw [show ((a * 256 + b) * 256 + c) * 2 ^ 8 = ((a * 256 + b) * 256 + c) * 256 from rfl] at this
  rw [this, wrap32 _ (by omega)]
theorem octS_is (n k : Nat) (hn : n < 4294967296) : octS (n : Int) k = n / 2 ^ (24 - 8 * k) % 256 := by
  have hle : n / 2 ^ (24 - 8 * k) ≤ n := Nat.div_le_self _ _
  have e : (n : Int) / 2 ^ (24 - 8 * k) = ((n / 2 ^ (24 - 8 * k) : Nat) : Int) := by push_cast; rfl
  unfold octS
  rw [e]
  generalize n / 2 ^ (24 - 8 * k) = m at *
  rw [u32_and _ _ (by omega) (by omega) (by omega) (by omega), Int.toNat_natCast, Int.toNat_natCast]
  exact Nat.and_two_pow_sub_one_eq_mod _ 8
theorem dgc_facts (d : Nat) (h : d < 16) : hexV (dgc d).toNat = d ∧ dgc d ≠ 46 ∧ dgc d ≠ 58 ∧ (0 < d → dgc d ≠ 48) ∧ dgc d ≠ 120 ∧ dgc d ≠ 88 := by
  have : ∀ d : Fin 16, hexV (dgc d.val).toNat = d.val ∧ dgc d.val ≠ 46 ∧ dgc d.val ≠ 58 ∧ (0 < d.val → dgc d.val ≠ 48) ∧ dgc d.val ≠ 120 ∧ dgc d.val ≠ 88 := by decide +kernel
  exact this ⟨d, h⟩
theorem digs_mem (b : Nat) (hb : 2 ≤ b) (P : UInt8 → Prop) (hP : ∀ d, d < b → P (dgc d)) : ∀ (n u : Nat), u ≤ n → ∀ x ∈ digs b u, P x
  | n, u, hn, x, hx => by
    by_cases h : u < b
    · rw [digs_small h] at hx
      simp at hx; subst hx; exact hP u h
    · rw [digs_step hb (by omega)] at hx
      rcases List.mem_append.1 hx with hx | hx
      · have hlt : u / b < u := Nat.div_lt_self (by omega) (by omega)
        match n, hn with
        | n + 1, hn => exact digs_mem b hb P hP n (u / b) (by omega) x hx
        | 0, hn => omega
      · simp at hx; subst hx; exact hP _ (Nat.mod_lt _ (by omega))
theorem digs_ok (b u : Nat) (hb : 2 ≤ b) (h16 : b ≤ 16) : (digs b u).all (okDig b) = true := by
  rw [List.all_eq_true]
  exact digs_mem b hb (fun x => okDig b x = true) (fun d hd => by unfold okDig; rw [(dgc_facts d (by omega)).1]; simp; omega) u u (Nat.le_refl _)
theorem digs_val (b : Nat) (hb : 2 ≤ b) (h16 : b ≤ 16) : ∀ (n u : Nat), u ≤ n → valS b (digs b u) = u
  | n, u, hn => by
    by_cases h : u < b
    · rw [digs_small h]
      show (0 * b + (hexV (dgc u).toNat).toNat) = u
      rw [(dgc_facts u (by omega)).1]; simp
    · have hlt : u / b < u := Nat.div_lt_self (by omega) (by omega)
      have hm : u % b < b := Nat.mod_lt _ (by omega)
      have ih : valS b (digs b (u / b)) = u / b := by
        match n, hn with
        | n + 1, hn => exact digs_val b hb h16 n (u / b) (by omega)
        | 0, hn => omega
      rw [digs_step hb (by omega)]
      unfold valS at ih ⊢
      rw [valF_app, ih]
      show u / b * b + (hexV (dgc (u % b)).toNat).toNat = u
      rw [(dgc_facts _ (by omega)).1]
      have := Nat.div_add_mod u b
      rw [Nat.mul_comm] at this
      simp; omega
theorem digs_head (b : Nat) (hb : 2 ≤ b) (h16 : b ≤ 16) : ∀ (n u : Nat), u ≤ n → 0 < u → (digs b u).head? ≠ some 48
  | n, u, hn, h0 => by
    by_cases h : u < b
    · rw [digs_small h]; simp; exact (dgc_facts u (by omega)).2.2.2.1 h0
    · have hlt : u / b < u := Nat.div_lt_self (by omega) (by omega)
      have hpos : 0 < u / b := Nat.div_pos (by omega) (by omega)
      have hne := digs_ne b (u / b)
      rw [digs_step hb (by omega)]
      rw [show (digs b (u / b) ++ [dgc (u % b)]).head? = (digs b (u / b)).head? by cases hd : digs b (u / b) with | nil => exact absurd hd hne | cons _ _ => rfl]
      match n, hn with
      | n + 1, hn => exact digs_head b hb h16 n (u / b) (by omega) hpos
      | 0, hn => omega
theorem num_dec (u : Nat) : numberS (digs 10 u) = some u := by
  have hall := digs_ok 10 u (by omega) (by omega)
  have hx : hexS (digs 10 u) = false := by
    rw [Bool.eq_false_iff]; intro h
    have := hexS_not_dec _ h
    rw [← all10, hall] at this; cases this
  have h8 : ¬ (1 < (digs 10 u).length ∧ (digs 10 u).head? = some 48) := by
    intro ⟨h1, h2⟩
    rcases Nat.eq_zero_or_pos u with h | h
    · subst h; rw [digs_small (by omega)] at h1; simp at h1
    · exact digs_head 10 (by omega) (by omega) u u (Nat.le_refl _) h h2
  have eR : numR (digs 10 u) = digs 10 u := by unfold numR; rw [hx, if_neg Bool.false_ne_true, if_neg h8]
  have eB : numB (digs 10 u) = 10 := by unfold numB; rw [hx, if_neg Bool.false_ne_true, if_neg h8]
  unfold numberS
  rw [eR, eB, if_pos ⟨hall, .inr (digs_ne 10 u)⟩, digs_val 10 (by omega) (by omega) u u (Nat.le_refl _)]
theorem hexS_x (l : List UInt8) : hexS (48 :: 120 :: l) = true := by unfold hexS begins; simp
theorem num_hex (u : Nat) : numberS (48 :: 120 :: digs 16 u) = some u := by
  have eR : numR (48 :: 120 :: digs 16 u) = digs 16 u := by unfold numR; rw [hexS_x, if_pos rfl]; rfl
  have eB : numB (48 :: 120 :: digs 16 u) = 16 := by unfold numB; rw [hexS_x, if_pos rfl]
  unfold numberS
  rw [eR, eB, if_pos ⟨digs_ok 16 u (by omega) (by omega), .inr (digs_ne 16 u)⟩, digs_val 16 (by omega) (by omega) u u (Nat.le_refl _)]
theorem hexS_oct (u : Nat) : hexS (48 :: digs 8 u) = false := by
  rw [Bool.eq_false_iff]
  intro h
  have hm := digs_mem 8 (by omega) (fun x => x ≠ 120 ∧ x ≠ 88) (fun d hd => ⟨(dgc_facts d (by omega)).2.2.2.2.1, (dgc_facts d (by omega)).2.2.2.2.2⟩) u u (Nat.le_refl _)
  match hd : digs 8 u with
  | [] => exact digs_ne 8 u hd
  | y :: r =>
    rw [hd] at h hm
    have := hm y (by simp)
    unfold hexS begins at h
    simp at h
    rcases h with h | h
    · exact this.1 h
    · exact this.2 h
theorem num_oct (u : Nat) : numberS (48 :: digs 8 u) = some u := by
  have h8 : 1 < (48 :: digs 8 u).length ∧ (48 :: digs 8 u).head? = some 48 := ⟨by have := List.length_pos_iff.2 (digs_ne 8 u); simp only [List.length_cons]; omega, rfl⟩
  have eR : numR (48 :: digs 8 u) = digs 8 u := by unfold numR; rw [hexS_oct, if_neg Bool.false_ne_true, if_pos h8]; rfl
  have eB : numB (48 :: digs 8 u) = 8 := by unfold numB; rw [hexS_oct, if_neg Bool.false_ne_true, if_pos h8]
  unfold numberS
  rw [eR, eB, if_pos ⟨digs_ok 8 u (by omega) (by omega), .inr (digs_ne 8 u)⟩, digs_val 8 (by omega) (by omega) u u (Nat.le_refl _)]
end Go.Proofs.YtpgehhnmlihnbaaGreatDoor
