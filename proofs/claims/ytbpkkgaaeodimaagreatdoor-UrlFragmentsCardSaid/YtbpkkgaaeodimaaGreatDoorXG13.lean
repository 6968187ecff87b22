import Derived.Test.YtbpkkgaaeodimaaGreatDoorXG12
namespace Go.Proofs.YtbpkkgaaeodimaaGreatDoor
open Go.RowKit

/-! The numbers' forms. -/
theorem or_u64 (a d k : Nat) (hd : d < 2 ^ k) (h : a * 2 ^ k + d < 18446744073709551616) : Go.bits .or .u64 ((a * 2 ^ k : Nat) : Int) (d : Int) = ((a * 2 ^ k + d : Nat) : Int) := by
  show IntKind.u64.wrap ((BitVec.ofInt 64 ((a * 2 ^ k : Nat) : Int) ||| BitVec.ofInt 64 (d : Int)).toNat : Int) = _
  have h1 : (BitVec.ofInt 64 ((a * 2 ^ k : Nat) : Int)).toNat = a * 2 ^ k := by
    rw [BitVec.ofInt_natCast, BitVec.toNat_ofNat]; exact Nat.mod_eq_of_lt (by omega)
  have h2 : (BitVec.ofInt 64 (d : Int)).toNat = d := by
    rw [BitVec.ofInt_natCast, BitVec.toNat_ofNat]; exact Nat.mod_eq_of_lt (by omega)
  have h3 : a * 2 ^ k ||| d = a * 2 ^ k + d := by
    have := Nat.shiftLeft_add_eq_or_of_lt (i := k) (b := d) hd a
    rw [Nat.shiftLeft_eq] at this
    exact this.symm
  rw [BitVec.toNat_or, h1, h2, h3]
  exact u64_of _ (by omega)
theorem fourA_0 (v : Nat) (hv : v ≤ 255) : fourA 0 0 v = ((v * 16777216 : Nat) : Int) := by
  unfold fourA
  rw [show ((v : Int) * 2 ^ (24 - 8 * 0)) = ((v * 16777216 : Nat) : Int) from (Int.natCast_mul _ _).symm, u64_of _ (by omega)]
  have := or_u64 0 (v * 16777216) 32 (by omega) (by omega)
  rw [show (0 * 2 ^ 32 : Nat) = 0 from rfl, Nat.zero_add] at this
  exact this
theorem fourA_1 (a v : Nat) (ha : a ≤ 255) (hv : v ≤ 255) : fourA ((a * 16777216 : Nat) : Int) 1 v = (((a * 256 + v) * 65536 : Nat) : Int) := by
  unfold fourA
  rw [show ((v : Int) * 2 ^ (24 - 8 * 1)) = ((v * 65536 : Nat) : Int) from (Int.natCast_mul _ _).symm, u64_of _ (by omega)]
  have := or_u64 a (v * 65536) 24 (by omega) (by omega)
  rw [show a * 2 ^ 24 = a * 16777216 from rfl] at this
  rw [this]; omega
theorem fourA_2 (a v : Nat) (ha : a ≤ 65535) (hv : v ≤ 255) : fourA ((a * 65536 : Nat) : Int) 2 v = (((a * 256 + v) * 256 : Nat) : Int) := by
  unfold fourA
  rw [show ((v : Int) * 2 ^ (24 - 8 * 2)) = ((v * 256 : Nat) : Int) from (Int.natCast_mul _ _).symm, u64_of _ (by omega)]
  have := or_u64 a (v * 256) 16 (by omega) (by omega)
  rw [show a * 2 ^ 16 = a * 65536 from rfl] at this
  rw [this]; omega
theorem wrap32 (n : Nat) (h : n < 4294967296) : IntKind.u32.wrap (n : Int) = (n : Int) := by rw [IntKind.wrap_u32]; omega
theorem four_1 {x : List UInt8} {v : Nat} (hx : numberS x = some v) (hv : v < 4294967296) : fourF 1 0 0 [x] = some (v : Int) := by
  rw [fourF_end hx (by omega), if_neg (by simp only [Nat.reducePow, Nat.reduceMul, Nat.reduceSub]; omega), fourF]
  have := or_u64 0 v 32 (by omega) (by omega)
  rw [show (0 * 2 ^ 32 : Nat) = 0 from rfl, Nat.zero_add] at this
  rw [show Go.bits .or .u64 0 (v : Int) = (v : Int) from this, wrap32 v hv]
theorem four_2 {x y : List UInt8} {a v : Nat} (hx : numberS x = some a) (hy : numberS y = some v) (ha : a ≤ 255) (hv : v < 16777216) : fourF 2 0 0 [x, y] = some ((a * 16777216 + v : Nat) : Int) := by
  rw [fourF_mid hx (by omega), if_neg (by omega), fourA_0 a ha, fourF_end hy (by omega), if_neg (by simp only [Nat.reducePow, Nat.reduceMul, Nat.reduceSub]; omega), fourF]
  have := or_u64 a v 24 (by omega) (by omega)
  rw [show a * 2 ^ 24 = a * 16777216 from rfl] at this
  rw [this, wrap32 _ (by omega)]
theorem four_3 {x y z : List UInt8} {a b v : Nat} (hx : numberS x = some a) (hy : numberS y = some b) (hz : numberS z = some v) (ha : a ≤ 255) (hb : b ≤ 255) (hv : v < 65536) : fourF 3 0 0 [x, y, z] = some (((a * 256 + b) * 65536 + v : Nat) : Int) := by
  rw [fourF_mid hx (by omega), if_neg (by omega), fourA_0 a ha, fourF_mid hy (by omega), if_neg (by omega), fourA_1 a b ha hb, fourF_end hz (by omega), if_neg (by simp only [Nat.reducePow, Nat.reduceMul, Nat.reduceSub]; omega), fourF]
  have := or_u64 (a * 256 + b) v 16 (by omega) (by omega)
  rw [show (a * 256 + b) * 2 ^ 16 = (a * 256 + b) * 65536 from rfl] at this
  rw [this, wrap32 _ (by omega)]
theorem four_4 {x y z u : List UInt8} {a b c v : Nat} (hx : numberS x = some a) (hy : numberS y = some b) (hz : numberS z = some c) (hu : numberS u = some v) (ha : a ≤ 255) (hb : b ≤ 255) (hc : c ≤ 255) (hv : v ≤ 255) : fourF 4 0 0 [x, y, z, u] = some ((((a * 256 + b) * 256 + c) * 256 + v : Nat) : Int) := by
  rw [fourF_mid hx (by omega), if_neg (by omega), fourA_0 a ha, fourF_mid hy (by omega), if_neg (by omega), fourA_1 a b ha hb, fourF_mid hz (by omega), if_neg (by omega), fourA_2 _ c (by omega) hc, fourF_end hu (by omega), if_neg (by simp only [Nat.reducePow, Nat.reduceMul, Nat.reduceSub]; omega), fourF]
  have := or_u64 ((a * 256 + b) * 256 + c) v 8 (by omega) (by omega)
  rw [show ((a * 256 + b) * 256 + c) * 2 ^ 8 = ((a * 256 + b) * 256 + c) * 256 from rfl] at this
  rw [this, wrap32 _ (by omega)]
theorem octS_is (n k : Nat) (hn : n < 4294967296) : octS (n : Int) k = n / 2 ^ (24 - 8 * k) % 256 := by
  have hle : n / 2 ^ (24 - 8 * k) ≤ n := Nat.div_le_self _ _
  have e : (n : Int) / 2 ^ (24 - 8 * k) = ((n / 2 ^ (24 - 8 * k) : Nat) : Int) := by push_cast; rfl
  unfold octS
  rw [e]
  generalize n / 2 ^ (24 - 8 * k) = m at *
  rw [u32_and _ _ (by omega) (by omega) (by omega) (by omega), Int.toNat_natCast, Int.toNat_natCast]
  exact Nat.and_two_pow_sub_one_eq_mod _ 8
theorem dgc_facts (d : Nat) (h : d < 16) : hexV (dgc d).toNat = d ∧ dgc d ≠ 46 ∧ dgc d ≠ 58 ∧ (0 < d → dgc d ≠ 48) ∧ dgc d ≠ 120 ∧ dgc d ≠ 88 := by
  have : ∀ d : Fin 16, hexV (dgc d.val).toNat = d.val ∧ dgc d.val ≠ 46 ∧ dgc d.val ≠ 58 ∧ (0 < d.val → dgc d.val ≠ 48) ∧ dgc d.val ≠ 120 ∧ dgc d.val ≠ 88 := by decide +kernel
  exact this ⟨d, h⟩
theorem digs_mem (b : Nat) (hb : 2 ≤ b) (P : UInt8 → Prop) (hP : ∀ d, d < b → P (dgc d)) : ∀ (n u : Nat), u ≤ n → ∀ x ∈ digs b u, P x
  | n, u, hn, x, hx => by
    by_cases h : u < b
    · rw [digs_small h] at hx
      simp at hx; subst hx; exact hP u h
    · rw [digs_step hb (by omega)] at hx
      rcases List.mem_append.1 hx with hx | hx
      · have hlt : u / b < u := Nat.div_lt_self (by omega) (by omega)
        match n, hn with
        | n + 1, hn => exact digs_mem b hb P hP n (u / b) (by omega) x hx
        | 0, hn => omega
      · simp at hx; subst hx; exact hP _ (Nat.mod_lt _ (by omega))
theorem digs_ok (b u : Nat) (hb : 2 ≤ b) (h16 : b ≤ 16) : (digs b u).all (okDig b) = true := by
  rw [List.all_eq_true]
  exact digs_mem b hb (fun x => okDig b x = true) (fun d hd => by unfold okDig; rw [(dgc_facts d (by omega)).1]; simp; omega) u u (Nat.le_refl _)
theorem digs_val (b : Nat) (hb : 2 ≤ b) (h16 : b ≤ 16) : ∀ (n u : Nat), u ≤ n → valS b (digs b u) = u
  | n, u, hn => by
    by_cases h : u < b
    · rw [digs_small h]
      show (0 * b + (hexV (dgc u).toNat).toNat) = u
      rw [(dgc_facts u (by omega)).1]; simp
    · have hlt : u / b < u := Nat.div_lt_self (by omega) (by omega)
      have hm : u % b < b := Nat.mod_lt _ (by omega)
      have ih : valS b (digs b (u / b)) = u / b := by
        match n, hn with
        | n + 1, hn => exact digs_val b hb h16 n (u / b) (by omega)
        | 0, hn => omega
      rw [digs_step hb (by omega)]
      unfold valS at ih ⊢
      rw [valF_app, ih]
      show u / b * b + (hexV (dgc (u % b)).toNat).toNat = u
      rw [(dgc_facts _ (by omega)).1]
      have := Nat.div_add_mod u b
      rw [Nat.mul_comm] at this
      simp; omega
theorem digs_head (b : Nat) (hb : 2 ≤ b) (h16 : b ≤ 16) : ∀ (n u : Nat), u ≤ n → 0 < u → (digs b u).head? ≠ some 48
  | n, u, hn, h0 => by
    by_cases h : u < b
    · rw [digs_small h]; simp; exact (dgc_facts u (by omega)).2.2.2.1 h0
    · have hlt : u / b < u := Nat.div_lt_self (by omega) (by omega)
      have hpos : 0 < u / b := Nat.div_pos (by omega) (by omega)
      have hne := digs_ne b (u / b)
      rw [digs_step hb (by omega)]
      rw [show (digs b (u / b) ++ [dgc (u % b)]).head? = (digs b (u / b)).head? by cases hd : digs b (u / b) with | nil => exact absurd hd hne | cons _ _ => rfl]
      match n, hn with
      | n + 1, hn => exact digs_head b hb h16 n (u / b) (by omega) hpos
      | 0, hn => omega
theorem num_dec (u : Nat) : numberS (digs 10 u) = some u := by
  have hall := digs_ok 10 u (by omega) (by omega)
  have hx : hexS (digs 10 u) = false := by
    rw [Bool.eq_false_iff]; intro h
    have := hexS_not_dec _ h
    rw [← all10, hall] at this; cases this
  have h8 : ¬ (1 < (digs 10 u).length ∧ (digs 10 u).head? = some 48) := by
    intro ⟨h1, h2⟩
    rcases Nat.eq_zero_or_pos u with h | h
    · subst h; rw [digs_small (by omega)] at h1; simp at h1
    · exact digs_head 10 (by omega) (by omega) u u (Nat.le_refl _) h h2
  have eR : numR (digs 10 u) = digs 10 u := by unfold numR; rw [hx, if_neg Bool.false_ne_true, if_neg h8]
  have eB : numB (digs 10 u) = 10 := by unfold numB; rw [hx, if_neg Bool.false_ne_true, if_neg h8]
  unfold numberS
  rw [eR, eB, if_pos ⟨hall, .inr (digs_ne 10 u)⟩, digs_val 10 (by omega) (by omega) u u (Nat.le_refl _)]
theorem hexS_x (l : List UInt8) : hexS (48 :: 120 :: l) = true := by unfold hexS begins; simp
theorem num_hex (u : Nat) : numberS (48 :: 120 :: digs 16 u) = some u := by
  have eR : numR (48 :: 120 :: digs 16 u) = digs 16 u := by unfold numR; rw [hexS_x, if_pos rfl]; rfl
  have eB : numB (48 :: 120 :: digs 16 u) = 16 := by unfold numB; rw [hexS_x, if_pos rfl]
  unfold numberS
  rw [eR, eB, if_pos ⟨digs_ok 16 u (by omega) (by omega), .inr (digs_ne 16 u)⟩, digs_val 16 (by omega) (by omega) u u (Nat.le_refl _)]
theorem hexS_oct (u : Nat) : hexS (48 :: digs 8 u) = false := by
  rw [Bool.eq_false_iff]
  intro h
  have hm := digs_mem 8 (by omega) (fun x => x ≠ 120 ∧ x ≠ 88) (fun d hd => ⟨(dgc_facts d (by omega)).2.2.2.2.1, (dgc_facts d (by omega)).2.2.2.2.2⟩) u u (Nat.le_refl _)
  match hd : digs 8 u with
  | [] => exact digs_ne 8 u hd
  | y :: r =>
    rw [hd] at h hm
    have := hm y (by simp)
    unfold hexS begins at h
    simp at h
    rcases h with h | h
    · exact this.1 h
    · exact this.2 h
theorem num_oct (u : Nat) : numberS (48 :: digs 8 u) = some u := by
  have h8 : 1 < (48 :: digs 8 u).length ∧ (48 :: digs 8 u).head? = some 48 := ⟨by have := List.length_pos_iff.2 (digs_ne 8 u); simp only [List.length_cons]; omega, rfl⟩
  have eR : numR (48 :: digs 8 u) = digs 8 u := by unfold numR; rw [hexS_oct, if_neg Bool.false_ne_true, if_pos h8]; rfl
  have eB : numB (48 :: digs 8 u) = 8 := by unfold numB; rw [hexS_oct, if_neg Bool.false_ne_true, if_pos h8]
  unfold numberS
  rw [eR, eB, if_pos ⟨digs_ok 8 u (by omega) (by omega), .inr (digs_ne 8 u)⟩, digs_val 8 (by omega) (by omega) u u (Nat.le_refl _)]
end Go.Proofs.YtbpkkgaaeodimaaGreatDoor
namespace Go.Proofs.YtbpkkgaaeodimaaGreatDoor
open Go.RowKit

/-- The bytes of a number's forms. -/
def formB (x : UInt8) : Bool := (isHex x && !(decide (65 ≤ x.toNat) && decide (x.toNat ≤ 90))) || x == 120 || x == 46
theorem form_facts (x : UInt8) (h : formB x = true) : x ≠ 37 ∧ low x = x ∧ x ≠ 91 ∧ fineB x = true ∧ x ≠ 110 := by
  have := u8_imp (p := fun x => !formB x || (!(x == 37) && (low x == x) && !(x == 91) && fineB x && !(x == 110))) (by decide +kernel) x
  rw [h] at this
  simpa [and_assoc] using this
theorem dgc_form (d : Nat) (h : d < 16) : formB (dgc d) = true := by
  have : ∀ d : Fin 16, formB (dgc d.val) = true := by decide +kernel
  exact this ⟨d, h⟩
theorem digs_form (b u : Nat) (hb : 2 ≤ b) (h16 : b ≤ 16) : ∀ x ∈ digs b u, formB x = true := digs_mem b hb (fun x => formB x = true) (fun d hd => dgc_form d (by omega)) u u (Nat.le_refl _)
theorem digs_dot (b u : Nat) (hb : 2 ≤ b) (h16 : b ≤ 16) : ∀ x ∈ digs b u, (x.toNat : Int) ≠ 46 := digs_mem b hb (fun x => (x.toNat : Int) ≠ 46) (fun d hd e => (dgc_facts d (by omega)).2.1 (UInt8.toNat_inj.1 (by simpa using (by omega : (dgc d).toNat = 46)))) u u (Nat.le_refl _)
theorem cut_sub (c : Int) : ∀ (m acc s : List UInt8), s ∈ cutS c acc m → ∀ z ∈ s, z ∈ acc ∨ z ∈ m := by
  intro m
  induction m with
  | nil => intro acc s hs z hz; simp [cutS] at hs; subst hs; exact .inl hz
  | cons a r ih =>
    intro acc s hs z hz
    rw [cutS] at hs
    split at hs
    · rcases List.mem_cons.1 hs with hs | hs
      · subst hs; exact .inl hz
      · rcases ih [] s hs z hz with h | h
        · cases h
        · exact .inr (by simp [h])
    · rcases ih _ s hs z hz with h | h
      · rcases List.mem_append.1 h with h | h
        · exact .inl h
        · exact .inr (by simp at h; simp [h])
      · exact .inr (by simp [h])
theorem cut_no (c : Int) : ∀ (l acc : List UInt8), (∀ x ∈ l, (x.toNat : Int) ≠ c) → cutS c acc l = [acc ++ l]
  | [], acc, _ => by simp [cutS]
  | x :: r, acc, h => by
    rw [cutS, if_neg (h x (by simp)), cut_no c r _ (fun y hy => h y (by simp [hy]))]; simp
theorem cut_hit (c : Int) (x : UInt8) (hx : (x.toNat : Int) = c) (r : List UInt8) : ∀ (l acc : List UInt8), (∀ y ∈ l, (y.toNat : Int) ≠ c) → cutS c acc (l ++ x :: r) = (acc ++ l) :: cutS c [] r
  | [], acc, _ => by rw [List.nil_append, cutS, if_pos hx]; simp
  | z :: t, acc, h => by
    rw [List.cons_append, cutS, if_neg (h z (by simp)), cut_hit c x hx r t _ (fun y hy => h y (by simp [hy]))]; simp
theorem labels_of {l : List UInt8} {ls : List (List UInt8)} (h : cutS 46 [] l = ls) (hl : ls.getLast? ≠ some []) : labelsS l = ls := by
  unfold labelsS; rw [h, if_neg (fun e => hl e.2)]
theorem labels_dot {l : List UInt8} {ls : List (List UInt8)} (h : cutS 46 [] l = ls ++ [[]]) (hl : ls ≠ []) : labelsS l = ls := by
  unfold labelsS
  rw [h, if_pos ⟨by have := List.length_pos_iff.2 hl; simp; exact this, by simp⟩]
  simp
theorem numbered_of {l x : List UInt8} {ls : List (List UInt8)} (h : labelsS l = ls) (hx : ls.getLast? = some x) (hn : (if hexS x then (x.drop 2).all isHex else !x.isEmpty && x.all isDec) = true) : numberedS l = true := by
  have e : lastS l = x := by unfold lastS; rw [h, List.getLastD_eq_getLast?, hx]; rfl
  unfold numberedS
  rw [e]; exact hn
theorem nd_dec (u : Nat) : (if hexS (digs 10 u) then ((digs 10 u).drop 2).all isHex else !(digs 10 u).isEmpty && (digs 10 u).all isDec) = true := by
  have hall := digs_ok 10 u (by omega) (by omega)
  rw [all10] at hall
  have hx : hexS (digs 10 u) = false := by
    rw [Bool.eq_false_iff]; intro h
    have := hexS_not_dec _ h
    rw [hall] at this; cases this
  have he : (digs 10 u).isEmpty = false := by
    rw [Bool.eq_false_iff, ne_eq, List.isEmpty_iff]; exact digs_ne 10 u
  rw [hx, if_neg Bool.false_ne_true, he, hall]; rfl
theorem nd_hex (u : Nat) : (if hexS (48 :: 120 :: digs 16 u) then ((48 :: 120 :: digs 16 u).drop 2).all isHex else !(48 :: 120 :: digs 16 u).isEmpty && (48 :: 120 :: digs 16 u).all isDec) = true := by
  rw [hexS_x, if_pos rfl]
  show (digs 16 u).all isHex = true
  rw [← all16]; exact digs_ok 16 u (by omega) (by omega)
theorem nd_oct (u : Nat) : (if hexS (48 :: digs 8 u) then ((48 :: digs 8 u).drop 2).all isHex else !(48 :: digs 8 u).isEmpty && (48 :: digs 8 u).all isDec) = true := by
  rw [hexS_oct, if_neg Bool.false_ne_true]
  have h : (digs 8 u).all isDec = true := by
    rw [List.all_eq_true]
    refine digs_mem 8 (by omega) (fun x => isDec x = true) (fun d hd => ?_) u u (Nat.le_refl _)
    have : ∀ d : Fin 8, isDec (dgc d.val) = true := by decide +kernel
    exact this ⟨d, hd⟩
  rw [List.all_cons, h]; rfl
/-- A number's form is parsed to its four bytes. -/
theorem parse_form {l : List UInt8} {v : Int} (hf : ∀ x ∈ l, formB x = true) (h0 : l ≠ []) (hn : numberedS l = true) (h4 : fourS l = some v) : parseS l true = some (text4S v) := by
  have hb : begins l [91] = false := by
    match l, h0 with
    | x :: r, _ => exact begins_no ((form_facts x (hf x (by simp))).2.2.1)
  rw [parse_special hb, unp_id l (fun x hx => (form_facts x (hf x hx)).1), lower_id (fun x hx => (form_facts x (hf x hx)).2.1)]
  have h1 : l.all fineB = true := List.all_eq_true.2 fun x hx => (form_facts x (hf x hx)).2.2.2.1
  have h2 : (cutS 46 [] l).any xnB = false := by
    rw [Bool.eq_false_iff]
    intro h
    obtain ⟨y, hy, hyx⟩ := List.any_eq_true.1 h
    unfold xnB begins at hyx
    simp only [Bool.and_eq_true, decide_eq_true_eq, beq_iff_eq] at hyx
    have h110 : (110 : UInt8) ∈ y := (List.take_sublist 4 y).subset (by rw [show List.take 4 y = xnS from hyx.2]; decide)
    rcases cut_sub 46 l [] y hy 110 h110 with h | h
    · cases h
    · exact (form_facts 110 (hf 110 h)).2.2.2.2 rfl
  rw [named_num h1 h2 h0 hn, h4]; rfl
theorem four_of {l : List UInt8} {ls : List (List UInt8)} {o : Option Int} (h : labelsS l = ls) (hl : ls.length ≤ 4) (ho : fourF ls.length 0 0 ls = o) : fourS l = o := by
  unfold fourS; rw [h, if_neg (by omega)]; exact ho
theorem text4_cut (v : Int) (r : List UInt8) (rs : List (List UInt8)) (hr : cutS 46 [] (digs 10 (octS v 3) ++ r) = rs) :
    cutS 46 [] (text4S v ++ r) = digs 10 (octS v 0) :: digs 10 (octS v 1) :: digs 10 (octS v 2) :: rs := by
  have e : text4S v ++ r = digs 10 (octS v 0) ++ 46 :: (digs 10 (octS v 1) ++ 46 :: (digs 10 (octS v 2) ++ 46 :: (digs 10 (octS v 3) ++ r))) := by
    unfold text4S; simp [dotF]
  rw [e, cut_hit 46 46 rfl _ _ _ (digs_dot 10 _ (by omega) (by omega)), cut_hit 46 46 rfl _ _ _ (digs_dot 10 _ (by omega) (by omega)), cut_hit 46 46 rfl _ _ _ (digs_dot 10 _ (by omega) (by omega)), hr]; rfl
theorem octs_sum (n : Nat) (h : n < 4294967296) : ((octS (n : Int) 0 * 256 + octS (n : Int) 1) * 256 + octS (n : Int) 2) * 256 + octS (n : Int) 3 = n ∧ octS (n : Int) 0 ≤ 255 ∧ octS (n : Int) 1 ≤ 255 ∧ octS (n : Int) 2 ≤ 255 ∧ octS (n : Int) 3 ≤ 255 := by
  rw [octS_is n 0 h, octS_is n 1 h, octS_is n 2 h, octS_is n 3 h]
  simp only [Nat.reduceMul, Nat.reduceSub, Nat.reducePow]
  omega
theorem text4_form (v : Int) : ∀ x ∈ text4S v, formB x = true := by
  intro x hx
  have h46 : formB 46 = true := by decide
  have hd := fun u => digs_form 10 u (by omega) (by omega)
  unfold text4S at hx
  simp only [dotF, List.mem_append, List.mem_cons, List.not_mem_nil, or_false, List.cons_append] at hx
  rcases hx with h | (rfl | h | (rfl | h | (rfl | h)))
  all_goals first | exact h46 | exact hd _ x h
theorem four_pieces (n : Nat) (h : n < 4294967296) : fourF 4 0 0 (piecesS (n : Int)) = some (n : Int) := by
  obtain ⟨e, b0, b1, b2, b3⟩ := octs_sum n h
  unfold piecesS
  rw [four_4 (num_dec _) (num_dec _) (num_dec _) (num_dec _) b0 b1 b2 b3, e]
theorem last_ne {ls : List (List UInt8)} {x : List UInt8} (h : ls.getLast? = some x) (hx : x ≠ []) : ls.getLast? ≠ some [] := by
  rw [h]; intro e; exact hx (Option.some.inj e)
theorem text4_labels (v : Int) : labelsS (text4S v) = piecesS v := by
  have h := text4_cut v [] [digs 10 (octS v 3)] (by rw [List.append_nil, cut_no 46 _ _ (digs_dot 10 _ (by omega) (by omega))]; rfl)
  rw [List.append_nil] at h
  exact labels_of h (last_ne (x := digs 10 (octS v 3)) rfl (digs_ne 10 _))
/-- Four numbers are read as what they are written of. -/
theorem four_text (n : Nat) (h : n < 4294967296) : fourS (text4S (n : Int)) = some (n : Int) := four_of (text4_labels _) (by simp [piecesS]) (four_pieces n h)
theorem text4_numbered (v : Int) : numberedS (text4S v) = true := numbered_of (text4_labels v) (x := digs 10 (octS v 3)) rfl (nd_dec _)
theorem text4_ne (v : Int) : text4S v ≠ [] := by unfold text4S; intro h; exact digs_ne 10 _ (List.append_eq_nil_iff.1 h).1
theorem form_0 (n : Nat) (h : n < 4294967296) : parseS (text4S (n : Int)) true = some (text4S (n : Int)) := parse_form (text4_form _) (text4_ne _) (text4_numbered _) (four_text n h)
theorem form_1 (n : Nat) (h : n < 4294967296) : parseS (digs 10 n) true = some (text4S (n : Int)) := by
  have hc : cutS 46 [] (digs 10 n) = [digs 10 n] := cut_no 46 _ [] (digs_dot 10 n (by omega) (by omega))
  have hl := labels_of hc (last_ne (x := digs 10 n) rfl (digs_ne 10 n))
  exact parse_form (digs_form 10 n (by omega) (by omega)) (digs_ne 10 n) (numbered_of hl rfl (nd_dec n)) (four_of hl (by simp) (four_1 (num_dec n) h))
theorem hex_label (n : Nat) : (∀ x ∈ 48 :: 120 :: digs 16 n, formB x = true) ∧ (∀ x ∈ 48 :: 120 :: digs 16 n, (x.toNat : Int) ≠ 46) := by
  constructor
  · intro x hx
    rcases List.mem_cons.1 hx with rfl | hx
    · decide
    · rcases List.mem_cons.1 hx with rfl | hx
      · decide
      · exact digs_form 16 n (by omega) (by omega) x hx
  · intro x hx
    rcases List.mem_cons.1 hx with rfl | hx
    · decide
    · rcases List.mem_cons.1 hx with rfl | hx
      · decide
      · exact digs_dot 16 n (by omega) (by omega) x hx
theorem oct_label (n : Nat) : (∀ x ∈ 48 :: digs 8 n, formB x = true) ∧ (∀ x ∈ 48 :: digs 8 n, (x.toNat : Int) ≠ 46) := by
  constructor
  · intro x hx
    rcases List.mem_cons.1 hx with rfl | hx
    · decide
    · exact digs_form 8 n (by omega) (by omega) x hx
  · intro x hx
    rcases List.mem_cons.1 hx with rfl | hx
    · decide
    · exact digs_dot 8 n (by omega) (by omega) x hx
theorem form_2 (n : Nat) (h : n < 4294967296) : parseS (48 :: 120 :: digs 16 n) true = some (text4S (n : Int)) := by
  have hc : cutS 46 [] (48 :: 120 :: digs 16 n) = [48 :: 120 :: digs 16 n] := cut_no 46 _ [] (hex_label n).2
  have hl := labels_of hc (last_ne (x := 48 :: 120 :: digs 16 n) rfl (by simp))
  exact parse_form (hex_label n).1 (by simp) (numbered_of hl rfl (nd_hex n)) (four_of hl (by simp) (four_1 (num_hex n) h))
theorem form_3 (n : Nat) (h : n < 4294967296) : parseS (48 :: digs 8 n) true = some (text4S (n : Int)) := by
  have hc : cutS 46 [] (48 :: digs 8 n) = [48 :: digs 8 n] := cut_no 46 _ [] (oct_label n).2
  have hl := labels_of hc (last_ne (x := 48 :: digs 8 n) rfl (by simp))
  exact parse_form (oct_label n).1 (by simp) (numbered_of hl rfl (nd_oct n)) (four_of hl (by simp) (four_1 (num_oct n) h))
theorem form_4 (n : Nat) (h : n < 4294967296) : parseS (text4S (n : Int) ++ [46]) true = some (text4S (n : Int)) := by
  have hc := text4_cut (n : Int) [46] [digs 10 (octS (n : Int) 3), []] (by rw [cut_hit 46 46 rfl _ _ _ (digs_dot 10 _ (by omega) (by omega))]; rfl)
  have hl : labelsS (text4S (n : Int) ++ [46]) = piecesS (n : Int) := labels_dot hc (by simp [piecesS])
  refine parse_form ?_ (by simp) (numbered_of hl (x := digs 10 (octS (n : Int) 3)) rfl (nd_dec _)) (four_of hl (by simp [piecesS]) (four_pieces n h))
  intro x hx
  rcases List.mem_append.1 hx with h | h
  · exact text4_form _ x h
  · simp at h; subst h; decide
theorem form_5 (n a v : Nat) (ha : a ≤ 255) (hv : v < 16777216) (hn : n = a * 16777216 + v) : parseS ((48 :: 120 :: digs 16 a) ++ 46 :: digs 10 v) true = some (text4S (n : Int)) := by
  have hc : cutS 46 [] ((48 :: 120 :: digs 16 a) ++ 46 :: digs 10 v) = [48 :: 120 :: digs 16 a, digs 10 v] := by
    rw [cut_hit 46 46 rfl _ _ _ (hex_label a).2, cut_no 46 _ _ (digs_dot 10 v (by omega) (by omega))]; rfl
  have hl := labels_of hc (last_ne (x := digs 10 v) rfl (digs_ne 10 v))
  subst hn
  refine parse_form ?_ (by simp) (numbered_of hl rfl (nd_dec v)) (four_of hl (by simp) (four_2 (num_hex a) (num_dec v) ha hv))
  intro x hx
  rcases List.mem_append.1 hx with h | h
  · exact (hex_label a).1 x h
  · rcases List.mem_cons.1 h with rfl | h
    · decide
    · exact digs_form 10 v (by omega) (by omega) x h
theorem form_6 (n a b v : Nat) (ha : a ≤ 255) (hb : b ≤ 255) (hv : v < 65536) (hn : n = (a * 256 + b) * 65536 + v) : parseS (digs 10 a ++ 46 :: ((48 :: digs 8 b) ++ 46 :: digs 10 v)) true = some (text4S (n : Int)) := by
  have hc : cutS 46 [] (digs 10 a ++ 46 :: ((48 :: digs 8 b) ++ 46 :: digs 10 v)) = [digs 10 a, 48 :: digs 8 b, digs 10 v] := by
    rw [cut_hit 46 46 rfl _ _ _ (digs_dot 10 a (by omega) (by omega)), cut_hit 46 46 rfl _ _ _ (oct_label b).2, cut_no 46 _ _ (digs_dot 10 v (by omega) (by omega))]; rfl
  have hl := labels_of hc (last_ne (x := digs 10 v) rfl (digs_ne 10 v))
  subst hn
  refine parse_form ?_ (by simp) (numbered_of hl rfl (nd_dec v)) (four_of hl (by simp) (four_3 (num_dec a) (num_oct b) (num_dec v) ha hb hv))
  intro x hx
  rcases List.mem_append.1 hx with h | h
  · exact digs_form 10 a (by omega) (by omega) x h
  · rcases List.mem_cons.1 h with rfl | h
    · decide
    · rcases List.mem_append.1 h with h | h
      · exact (oct_label b).1 x h
      · rcases List.mem_cons.1 h with rfl | h
        · decide
        · exact digs_form 10 v (by omega) (by omega) x h
end Go.Proofs.YtbpkkgaaeodimaaGreatDoor
namespace Go.Proofs.YtbpkkgaaeodimaaGreatDoor
open Go.RowKit

/-! Eight pieces are read as what they are written of; what is parsed is parsed to itself. -/
def joinC : List Nat → List UInt8
  | [] => []
  | [v] => digs 16 v
  | v :: w :: r => digs 16 v ++ 58 :: joinC (w :: r)
theorem digs_col (u : Nat) : ∀ x ∈ digs 16 u, x ≠ 58 := digs_mem 16 (by omega) (fun x => x ≠ 58) (fun d hd => (dgc_facts d (by omega)).2.2.1) u u (Nat.le_refl _)
theorem joinC_head (v : Nat) (r : List Nat) : ∃ x t, joinC (v :: r) = x :: t ∧ x ≠ 58 := by
  obtain ⟨x, t, hd⟩ : ∃ x t, digs 16 v = x :: t := by
    cases h : digs 16 v with
    | nil => exact absurd h (digs_ne 16 v)
    | cons x t => exact ⟨x, t, rfl⟩
  have hx := digs_col v x (by rw [hd]; simp)
  cases r with
  | nil => exact ⟨x, t, hd, hx⟩
  | cons w r => exact ⟨x, t ++ 58 :: joinC (w :: r), by rw [joinC, hd]; rfl, hx⟩
def okN : List UInt8 → Bool
  | [] => false
  | y :: _ => y != 58
def okCC : List UInt8 → Bool
  | [] => true
  | x :: r => (x != 58 || okN r) && okCC r
theorem okCC_app : ∀ (l r : List UInt8), (∀ x ∈ l, x ≠ 58) → okCC r = true → okCC (l ++ r) = true
  | [], r, _, h => h
  | x :: l, r, hl, h => by
    have h1 : (x != 58) = true := by simpa using hl x (by simp)
    rw [List.cons_append, okCC, okCC_app l r (fun y hy => hl y (by simp [hy])) h, h1]; rfl
theorem okCC_join : ∀ (A : List Nat), okCC (joinC A) = true
  | [] => rfl
  | [v] => by have := okCC_app (digs 16 v) [] (digs_col v) rfl; rw [List.append_nil] at this; exact this
  | v :: w :: r => by
    rw [joinC]
    refine okCC_app _ _ (digs_col v) ?_
    obtain ⟨x, t, h, hx⟩ := joinC_head w r
    have ih := okCC_join (w :: r)
    rw [okCC, ih, h]
    simp [okN, hx]
theorem idx_in (R : List UInt8) : ∀ (l : List UInt8), okCC l = true → Lib.index (l ++ 58 :: 58 :: R) [58, 58] = l.length
  | [], _ => idx_hit R
  | x :: r, h => by
    rw [okCC, Bool.and_eq_true] at h
    have ih := idx_in R r h.2
    rw [List.cons_append, idx_step x _ (by
      intro ⟨e, hh⟩
      have h1 := h.1
      subst e
      cases r with
      | nil => simp [okN] at h1
      | cons y r => simp [okN] at h1 hh; exact h1 hh), ih]
    unfold shiftI
    rw [if_neg (by omega)]; simp
theorem idx_out : ∀ (l : List UInt8), okCC l = true → Lib.index l [58, 58] = -1
  | [], _ => rfl
  | x :: r, h => by
    rw [okCC, Bool.and_eq_true] at h
    have ih := idx_out r h.2
    rw [idx_step x _ (by
      intro ⟨e, hh⟩
      have h1 := h.1
      subst e
      cases r with
      | nil => simp at hh
      | cons y r => simp [okN] at h1 hh; exact h1 hh), ih]
    rfl
theorem cut_gap (A B : List Nat) : Lib.cut (joinC A ++ 58 :: 58 :: joinC B) [58, 58] = (joinC A, joinC B, true) := by
  unfold Lib.cut
  rw [idx_in _ _ (okCC_join A), if_pos (by omega), Int.toNat_natCast]
  have e : (joinC A ++ 58 :: 58 :: joinC B).drop ((joinC A).length + 2) = joinC B := by
    rw [List.drop_append, List.drop_eq_nil_of_le (by omega)]; simp
  simp only [List.length_cons, List.length_nil]
  rw [e]; simp
theorem cut_whole (A : List Nat) : Lib.cut (joinC A) [58, 58] = (joinC A, [], false) := by
  unfold Lib.cut
  rw [idx_out _ (okCC_join A), if_neg (by omega)]
theorem cut_pieces : ∀ (A : List Nat), A ≠ [] → cutS 58 [] (joinC A) = A.map (digs 16)
  | [], h => absurd rfl h
  | [v], _ => by
    rw [joinC, cut_no 58 _ [] (fun x hx e => digs_col v x hx (UInt8.toNat_inj.1 (by simpa using (by omega : x.toNat = 58))))]; rfl
  | v :: w :: r, _ => by
    rw [joinC, cut_hit 58 58 rfl _ _ _ (fun x hx e => digs_col v x hx (UInt8.toNat_inj.1 (by simpa using (by omega : x.toNat = 58)))), cut_pieces (w :: r) (by simp)]; rfl
theorem hexPiece_digs (v : Nat) (h : v ≤ 65535) : hexPieceS (digs 16 v) = some v := by
  unfold hexPieceS
  have hall := digs_ok 16 v (by omega) (by omega)
  rw [all16] at hall
  rw [if_pos ⟨digs_ne 16 v, digs16_len v h, hall⟩, digs_val 16 (by omega) (by omega) v v (Nat.le_refl _)]
theorem pf_join (last : Bool) : ∀ (A : List Nat), (∀ v ∈ A, v ≤ 65535) → piecesF last (A.map (digs 16)) = some A
  | [], _ => rfl
  | v :: r, h => by
    have h46 : (digs 16 v).contains 46 = false := by
      rw [Bool.eq_false_iff]; intro hc
      exact digs_dot 16 v (by omega) (by omega) 46 (List.contains_iff_mem.1 hc) rfl
    rw [List.map_cons, pf_some (v := v) (by rw [h46, Bool.and_false]) (hexPiece_digs v (h v (by simp))), pf_join last r (fun y hy => h y (by simp [hy]))]; rfl
theorem pieces_join (last : Bool) (A : List Nat) (h : ∀ v ∈ A, v ≤ 65535) : pieces6S last (joinC A) = some A := by
  unfold pieces6S
  cases A with
  | nil => rfl
  | cons v r =>
    obtain ⟨x, t, hx, _⟩ := joinC_head v r
    rw [if_neg (by rw [hx]; simp), cut_pieces _ (by simp), pf_join last _ h]
theorem zeros_take : ∀ (l : List Nat) (n : Nat), n ≤ (l.takeWhile (· == 0)).length → l.take n = List.replicate n 0
  | _, 0, _ => by simp
  | [], n + 1, h => by simp at h
  | x :: r, n + 1, h => by
    rw [List.takeWhile_cons] at h
    by_cases hx : x = 0
    · subst hx
      simp at h
      rw [List.take_succ_cons, zeros_take r n (by simpa using h)]; rfl
    · rw [if_neg (by simpa using hx)] at h; simp at h
theorem best_run (xs : List Nat) : ∀ (k f : Nat), (bestF xs k).1 = (f : Int) → (bestF xs k).2 = runAt xs f
  | 0, f, h => by have h : (-1 : Int) = f := h; omega
  | k + 1, f, h => by
    rw [bestF] at h ⊢
    split at h
    · rename_i hlt
      rw [if_pos hlt]
      have h : (k : Int) = f := h
      have : k = f := by omega
      rw [this]
    · rename_i hlt
      rw [if_neg hlt]
      exact best_run xs k f h
theorem joinC_cons (v : Nat) (r : List Nat) : joinC (v :: r) = digs 16 v ++ (if r = [] then [] else 58 :: joinC r) := by
  cases r with
  | nil => rw [if_pos rfl, List.append_nil]; rfl
  | cons w r => rw [joinC, if_neg (by simp)]
theorem rest_after {xs : List Nat} (h8 : xs.length = 8) (f : Int) (m : Nat) : ∀ (n i : Nat), 8 - i ≤ n → (∀ j : Nat, i ≤ j → (j : Int) ≠ f) → (∀ j : Nat, i < j → (j : Int) ≠ f + m) →
    restF xs f m i = (if i < 8 ∧ 0 < i ∧ (i : Int) ≠ f + m then [58] else []) ++ joinC (xs.drop i)
  | 0, i, hn, _, _ => by rw [rest_end xs f m i (by omega), if_neg (by omega), List.drop_eq_nil_of_le (by omega)]; rfl
  | n + 1, i, hn, hf, hm => by
    by_cases hi : i < 8
    · have hx : xs[i]? = some xs[i] := List.getElem?_eq_getElem (by omega)
      have ih := rest_after h8 f m n (i + 1) (by omega) (fun j hj => hf j (by omega)) (fun j hj => hm j (by omega))
      rw [rest_one hi (hf i (Nat.le_refl _)) hx, ih, drop_get hx, joinC_cons]
      have e1 : (if i < 8 ∧ 0 < i ∧ (i : Int) ≠ f + m then [(58 : UInt8)] else []) = (if 0 < i ∧ (i : Int) ≠ f + m then [58] else []) := by
        by_cases h : 0 < i ∧ (i : Int) ≠ f + m
        · rw [if_pos h, if_pos ⟨hi, h⟩]
        · rw [if_neg h, if_neg (fun h2 => h h2.2)]
      rw [e1]
      congr 2
      by_cases h7 : i + 1 < 8
      · rw [if_pos ⟨h7, by omega, hm (i + 1) (by omega)⟩, if_neg (by intro h; have := congrArg List.length h; rw [List.length_drop] at this; simp at this; omega)]; rfl
      · rw [if_neg (fun h => h7 h.1), List.drop_eq_nil_of_le (by omega), if_pos rfl]; rfl
    · rw [rest_end xs f m i (by omega), if_neg (by omega), List.drop_eq_nil_of_le (by omega)]; rfl
theorem rest_before {xs : List Nat} (h8 : xs.length = 8) (f m : Nat) (hf8 : f ≤ 8) : ∀ (n i : Nat), f - i ≤ n → i ≤ f →
    restF xs f m i = (if 0 < i ∧ i < f then [58] else []) ++ joinC ((xs.take f).drop i) ++ restF xs f m f
  | 0, i, hn, hi => by
    obtain rfl : i = f := by omega
    rw [if_neg (by omega), List.drop_eq_nil_of_le (by rw [List.length_take]; omega)]; rfl
  | n + 1, i, hn, hi => by
    by_cases hlt : i < f
    · have hx : xs[i]? = some xs[i] := List.getElem?_eq_getElem (by omega)
      have hxt : (xs.take f)[i]? = some xs[i] := by rw [List.getElem?_take, if_pos hlt]; exact hx
      have ih := rest_before h8 f m hf8 n (i + 1) (by omega) (by omega)
      rw [rest_one (by omega) (by omega) hx, ih, drop_get hxt, joinC_cons]
      have e1 : (if 0 < i ∧ (i : Int) ≠ (f : Int) + m then [(58 : UInt8)] else []) = (if 0 < i ∧ i < f then [58] else []) := by
        by_cases h : 0 < i
        · rw [if_pos ⟨h, by omega⟩, if_pos ⟨h, hlt⟩]
        · rw [if_neg (fun h2 => h h2.1), if_neg (fun h2 => h h2.1)]
      rw [e1]
      by_cases h7 : i + 1 < f
      · have e2 : (if 0 < i + 1 ∧ i + 1 < f then [(58 : UInt8)] else []) = [58] := if_pos ⟨by omega, h7⟩
        have e3 : ¬ (xs.take f).drop (i + 1) = [] := by intro h; have := congrArg List.length h; rw [List.length_drop, List.length_take] at this; simp at this; omega
        rw [e2, if_neg e3]
        simp only [List.append_assoc, List.cons_append, List.nil_append]
      · have e2 : (if 0 < i + 1 ∧ i + 1 < f then [(58 : UInt8)] else []) = [] := if_neg (fun h => h7 h.2)
        have e3 : (xs.take f).drop (i + 1) = [] := List.drop_eq_nil_of_le (by rw [List.length_take]; omega)
        rw [e2, e3, if_pos rfl]
        simp only [joinC, List.append_nil, List.nil_append, List.append_assoc]
    · obtain rfl : i = f := by omega
      rw [if_neg (by omega), List.drop_eq_nil_of_le (by rw [List.length_take]; omega)]; rfl
theorem six_text {xs : List Nat} (h8 : xs.length = 8) (hv : ∀ v ∈ xs, v ≤ 65535) : sixS (text6S xs) = some xs := by
  rcases best_facts xs 8 with ⟨h1, h2⟩ | ⟨f, h1, h2, h3⟩
  · have e : text6S xs = joinC xs := by
      unfold text6S
      rw [h1, h2, rest_after h8 (-1) 1 8 0 (by omega) (fun j _ => by omega) (fun j _ => by omega), if_neg (by omega)]; rfl
    unfold sixS
    rw [e, cut_whole]
    show sixJ false (pieces6S true (joinC xs)) (pieces6S true []) = some xs
    rw [pieces_join true xs hv]
    show (if (!false && xs.length != 8 || false && decide (8 ≤ xs.length + 0)) = true then none else some (xs ++ (List.replicate (8 - xs.length - 0) 0 ++ []))) = some xs
    rw [h8]; simp
  · have hm := best_run xs 8 f h1
    obtain ⟨m, hmm⟩ : ∃ m, (bestF xs 8).2 = m := ⟨_, rfl⟩
    rw [hmm] at h2 h3 hm
    have e : text6S xs = joinC (xs.take f) ++ 58 :: 58 :: joinC (xs.drop (f + m)) := by
      unfold text6S
      rw [h1, hmm, rest_before h8 f m (by omega) 8 0 (by omega) (by omega), if_neg (by omega), rest_gap (by omega) rfl, show f + (m - 1) + 1 = f + m by omega,
        rest_after h8 f m 8 (f + m) (by omega) (fun j _ => by omega) (fun j _ => by omega), if_neg (by omega)]
      simp
    have hz : (xs.drop f).take m = List.replicate m 0 := zeros_take _ _ (by rw [hm]; unfold runAt; exact Nat.le_refl _)
    have hsplit : xs = xs.take f ++ (List.replicate m 0 ++ xs.drop (f + m)) := by
      rw [← hz, ← List.drop_drop, List.take_append_drop, List.take_append_drop]
    have l1 : (xs.take f).length = f := by rw [List.length_take]; omega
    have l2 : (xs.drop (f + m)).length = 8 - f - m := by rw [List.length_drop]; omega
    unfold sixS
    rw [e, cut_gap]
    show sixJ true (pieces6S false (joinC (xs.take f))) (pieces6S true (joinC (xs.drop (f + m)))) = some xs
    rw [pieces_join false _ (fun v h => hv v ((List.take_sublist _ _).subset h)), pieces_join true _ (fun v h => hv v ((List.drop_sublist _ _).subset h))]
    show (if (!true && (xs.take f).length != 8 || true && decide (8 ≤ (xs.take f).length + (xs.drop (f + m)).length)) = true then none else some (xs.take f ++ (List.replicate (8 - (xs.take f).length - (xs.drop (f + m)).length) 0 ++ xs.drop (f + m)))) = some xs
    rw [l1, l2, if_neg (by simp; omega), show 8 - f - (8 - f - m) = m by omega, ← hsplit]
theorem parse_text6 {xs : List Nat} (h8 : xs.length = 8) (hv : ∀ v ∈ xs, v ≤ 65535) (sp : Bool) : parseS (91 :: (text6S xs ++ [93])) sp = some (91 :: (text6S xs ++ [93])) := by
  rw [parse_six, six_text h8 hv]; rfl
theorem esc_bytes (x : UInt8) : ∀ y ∈ esc x, ctl y.toNat = false ∧ badS y = false := by
  have h : ∀ d : Fin 16, ctl (hexU d.val).toNat = false ∧ badS (hexU d.val) = false := by decide +kernel
  intro y hy
  unfold esc at hy
  simp only [List.mem_cons, List.not_mem_nil, or_false] at hy
  have hx := x.toNat_lt
  rcases hy with rfl | rfl | rfl
  · decide
  · exact h ⟨x.toNat / 16, by omega⟩
  · exact h ⟨x.toNat % 16, by omega⟩
theorem percent_bytes : ∀ (l : List UInt8), (∀ x ∈ l, badS x = false) → ∀ y ∈ percent 1 l, ctl y.toNat = false ∧ badS y = false
  | [], _, y, hy => by cases hy
  | x :: r, h, y, hy => by
    rw [percent] at hy
    rcases List.mem_append.1 hy with hy | hy
    · split at hy
      · exact esc_bytes x y hy
      · rename_i hs
        simp at hy; subst hy
        rw [in_1] at hs
        exact ⟨by simpa using hs, h y (by simp)⟩
    · exact percent_bytes r (fun z hz => h z (by simp [hz])) y hy
theorem percent_id : ∀ (l : List UInt8), (∀ x ∈ l, ctl x.toNat = false) → percent 1 l = l
  | [], _ => rfl
  | x :: r, h => by rw [percent, in_1, h x (by simp), if_neg Bool.false_ne_true, percent_id r (fun y hy => h y (by simp [hy]))]; rfl
theorem low_low (x : UInt8) : low (low x) = low x := by
  have := u8_imp (p := fun x => low (low x) == low x) (by decide +kernel) x
  simpa using this
/-- What a text is parsed to is parsed to itself. -/
theorem parse_back {l a : List UInt8} {sp : Bool} (h : parseS l sp = some a) : parseS a sp = some a := by
  cases hb : begins l [91]
  · cases sp
    · rw [parse_opaque hb] at h
      split at h
      · cases h
      · rename_i hbad
        have ha := Option.some.inj h
        have hl : ∀ x ∈ l, badS x = false := by
          intro x hx
          rw [Bool.eq_false_iff]; intro hh
          exact hbad (List.any_eq_true.2 ⟨x, hx, hh⟩)
        have hp := percent_bytes l hl
        rw [ha] at hp
        have hba : begins a [91] = false := by
          rw [← ha]
          cases l with
          | nil => rfl
          | cons x r =>
            rw [percent]
            split
            · exact begins_no (by decide)
            · refine begins_no (fun e => ?_)
              subst e
              rw [begins_yes] at hb; cases hb
        rw [parse_opaque hba, if_neg, percent_id a (fun x hx => (hp x hx).1)]
        intro hh
        obtain ⟨x, hx, hx2⟩ := List.any_eq_true.1 hh
        rw [(hp x hx).2] at hx2; cases hx2
    · rw [parse_special hb] at h
      obtain ⟨t, ht⟩ : ∃ t, lower (unpercent l) = t := ⟨_, rfl⟩
      rw [ht] at h
      have hlow : ∀ x ∈ t, low x = x := by
        intro x hx
        rw [← ht] at hx
        obtain ⟨y, _, rfl⟩ := List.mem_map.1 hx
        exact low_low y
      have h0 := h
      unfold namedS at h
      split at h
      · rename_i hc
        split at h
        · obtain ⟨v, hv, rfl⟩ := Option.map_eq_some_iff.1 h
          obtain ⟨h1, h2⟩ := four_range hv
          obtain ⟨n, rfl⟩ := Int.eq_ofNat_of_zero_le h1
          exact form_0 n (by omega)
        · have e := Option.some.inj h
          subst e
          have hf := List.all_eq_true.1 hc.1
          have hbt : begins t [91] = false := by
            cases t with
            | nil => rfl
            | cons x r =>
              refine begins_no (fun e => ?_)
              subst e
              have := hf 91 (by simp)
              exact absurd this (by decide)
          rw [parse_special hbt, unp_id t (fun x hx e => by subst e; exact absurd (hf 37 hx) (by decide)), lower_id hlow]
          exact h0
      · cases h
  · unfold parseS at h
    rw [hb, if_pos rfl] at h
    split at h
    · obtain ⟨xs, hxs, rfl⟩ := Option.map_eq_some_iff.1 h
      obtain ⟨h8, hv⟩ := six_shape hxs
      exact parse_text6 h8 hv sp
    · cases h
end Go.Proofs.YtbpkkgaaeodimaaGreatDoor
