import Derived.Test.YtpgehhnmlihnbaaGreatDoorXLawQ
namespace Go.Proofs.YtpgehhnmlihnbaaGreatDoor
open Go.RowKit

/-- The bytes of a number's forms. -/
def formB (x : UInt8) : Bool := (isHex x && !(decide (65 ≤ x.toNat) && decide (x.toNat ≤ 90))) || x == 120 || x == 46
theorem form_facts (x : UInt8) (h : formB x = true) : x ≠ 37 ∧ low x = x ∧ x ≠ 91 ∧ fineB x = true ∧ x ≠ 110 := by
  have := u8_imp (p := fun x => !formB x || (!(x == 37) && (low x == x) && !(x == 91) && fineB x && !(x == 110))) (by decide +kernel) x
  rw [h] at this
  simpa [and_assoc] using this
theorem dgc_form (d : Nat) (h : d < 16) : formB (dgc d) = true := by
  have : ∀ d : Fin 16, formB (dgc d.val) = true := by decide +kernel
  exact this ⟨d, h⟩
theorem digs_form (b u : Nat) (hb : 2 ≤ b) (h16 : b ≤ 16) : ∀ x ∈ digs b u, formB x = true := digs_mem b hb (fun x => formB x = true) (fun d hd => dgc_form d (by omega)) u u (Nat.le_refl _)
theorem digs_dot (b u : Nat) (hb : 2 ≤ b) (h16 : b ≤ 16) : ∀ x ∈ digs b u, (x.toNat : Int) ≠ 46 := digs_mem b hb (fun x => (x.toNat : Int) ≠ 46) (fun d hd e => (dgc_facts d (by omega)).2.1 (UInt8.toNat_inj.1 (by simpa using (by omega : (dgc d).toNat = 46)))) u u (Nat.le_refl _)
theorem cut_sub (c : Int) : ∀ (m acc s : List UInt8), s ∈ cutS c acc m → ∀ z ∈ s, z ∈ acc ∨ z ∈ m := by
  intro m
  induction m with
  | nil => intro acc s hs z hz; simp [cutS] at hs; subst hs; exact .inl hz
  | cons a r ih =>
    intro acc s hs z hz
    rw [cutS] at hs
    split at hs
    · rcases List.mem_cons.1 hs with hs | hs
      · subst hs; exact .inl hz
      · rcases ih [] s hs z hz with h | h
        · cases h
        · exact .inr (by simp [h])
    · rcases ih _ s hs z hz with h | h
      · rcases List.mem_append.1 h with h | h
        · exact .inl h
        · exact .inr (by simp at h; simp [h])
      · exact .inr (by simp [h])
theorem cut_no (c : Int) : ∀ (l acc : List UInt8), (∀ x ∈ l, (x.toNat : Int) ≠ c) → cutS c acc l = [acc ++ l]
  | [], acc, _ => by simp [cutS]
  | x :: r, acc, h => by
    rw [cutS, if_neg (h x (by simp)), cut_no c r _ (fun y hy => h y (by simp [hy]))]; simp
theorem cut_hit (c : Int) (x : UInt8) (hx : (x.toNat : Int) = c) (r : List UInt8) : ∀ (l acc : List UInt8), (∀ y ∈ l, (y.toNat : Int) ≠ c) → cutS c acc (l ++ x :: r) = (acc ++ l) :: cutS c [] r
  | [], acc, _ => by rw [List.nil_append, cutS, if_pos hx]; simp
  | z :: t, acc, h => by
    rw [List.cons_append, cutS, if_neg (h z (by simp)), cut_hit c x hx r t _ (fun y hy => h y (by simp [hy]))]; simp
theorem labels_of {l : List UInt8} {ls : List (List UInt8)} (h : cutS 46 [] l = ls) (hl : ls.getLast? ≠ some []) : labelsS l = ls := by
  unfold labelsS; rw [h, if_neg (fun e => hl e.2)]
theorem labels_dot {l : List UInt8} {ls : List (List UInt8)} (h : cutS 46 [] l = ls ++ [[]]) (hl : ls ≠ []) : labelsS l = ls := by
  unfold labelsS
  rw [h, if_pos ⟨by have := List.length_pos_iff.2 hl; simp; exact this, by simp⟩]
  simp
theorem numbered_of {l x : List UInt8} {ls : List (List UInt8)} (h : labelsS l = ls) (hx : ls.getLast? = some x) (hn : (if hexS x then (x.drop 2).all isHex else !x.isEmpty && x.all isDec) = true) : numberedS l = true := by
  have e : lastS l = x := by unfold lastS; rw [h, List.getLastD_eq_getLast?, hx]; rfl
  unfold numberedS
  rw [e]; exact hn
theorem nd_dec (u : Nat) : (if hexS (digs 10 u) then ((digs 10 u).drop 2).all isHex else !(digs 10 u).isEmpty && (digs 10 u).all isDec) = true := by
  have hall := digs_ok 10 u (by omega) (by omega)
  rw [all10] at hall
  have hx : hexS (digs 10 u) = false := by
    rw [Bool.eq_false_iff]; intro h
    have := hexS_not_dec _ h
    rw [hall] at this; cases this
  have he : (digs 10 u).isEmpty = false := by
    rw [Bool.eq_false_iff, ne_eq, List.isEmpty_iff]; exact digs_ne 10 u
  rw [hx, if_neg Bool.false_ne_true, he, hall]; rfl
theorem nd_hex (u : Nat) : (if hexS (48 :: 120 :: digs 16 u) then ((48 :: 120 :: digs 16 u).drop 2).all isHex else !(48 :: 120 :: digs 16 u).isEmpty && (48 :: 120 :: digs 16 u).all isDec) = true := by
  rw [hexS_x, if_pos rfl]
  show (digs 16 u).all isHex = true
  rw [← all16]; exact digs_ok 16 u (by omega) (by omega)
theorem nd_oct (u : Nat) : (if hexS (48 :: digs 8 u) then ((48 :: digs 8 u).drop 2).all isHex else !(48 :: digs 8 u).isEmpty && (48 :: digs 8 u).all isDec) = true := by
  rw [hexS_oct, if_neg Bool.false_ne_true]
  have h : (digs 8 u).all isDec = true := by
    rw [List.all_eq_true]
    refine digs_mem 8 (by omega) (fun x => isDec x = true) (fun d hd => ?_) u u (Nat.le_refl _)
    have : ∀ d : Fin 8, isDec (dgc d.val) = true := by decide +kernel
    exact this ⟨d, hd⟩
  rw [List.all_cons, h]; rfl
/-- A number's form is parsed to its four bytes. -/
theorem parse_form {l : List UInt8} {v : Int} (hf : ∀ x ∈ l, formB x = true) (h0 : l ≠ []) (hn : numberedS l = true) (h4 : fourS l = some v) : parseS l true = some (text4S v) := by
  have hb : begins l [91] = false := by
    match l, h0 with
    | x :: r, _ => exact begins_no ((form_facts x (hf x (by simp))).2.2.1)
  rw [parse_special hb, unp_id l (fun x hx => (form_facts x (hf x hx)).1), lower_id (fun x hx => (form_facts x (hf x hx)).2.1)]
  have h1 : l.all fineB = true := List.all_eq_true.2 fun x hx => (form_facts x (hf x hx)).2.2.2.1
  have h2 : (cutS 46 [] l).any xnB = false := by
    rw [Bool.eq_false_iff]
    intro h
    obtain ⟨y, hy, hyx⟩ := List.any_eq_true.1 h
    unfold xnB begins at hyx
    simp only [Bool.and_eq_true, decide_eq_true_eq, beq_iff_eq] at hyx
    have h110 : (110 : UInt8) ∈ y := (List.take_sublist 4 y).subset (by rw [show List.take 4 y = xnS from hyx.2]; decide)
    rcases cut_sub 46 l [] y hy 110 h110 with h | h
    · cases h
    · exact (form_facts 110 (hf 110 h)).2.2.2.2 rfl
  rw [named_num h1 h2 h0 hn, h4]; rfl
theorem four_of {l : List UInt8} {ls : List (List UInt8)} {o : Option Int} (h : labelsS l = ls) (hl : ls.length ≤ 4) (ho : fourF ls.length 0 0 ls = o) : fourS l = o := by
  unfold fourS; rw [h, if_neg (by omega)]; exact ho
theorem text4_cut (v : Int) (r : List UInt8) (rs : List (List UInt8)) (hr : cutS 46 [] (digs 10 (octS v 3) ++ r) = rs) :
    cutS 46 [] (text4S v ++ r) = digs 10 (octS v 0) :: digs 10 (octS v 1) :: digs 10 (octS v 2) :: rs := by
  have e : text4S v ++ r = digs 10 (octS v 0) ++ 46 :: (digs 10 (octS v 1) ++ 46 :: (digs 10 (octS v 2) ++ 46 :: (digs 10 (octS v 3) ++ r))) := by
    unfold text4S; simp [dotF]
  rw [e, cut_hit 46 46 rfl _ _ _ (digs_dot 10 _ (by omega) (by omega)), cut_hit 46 46 rfl _ _ _ (digs_dot 10 _ (by omega) (by omega)), cut_hit 46 46 rfl _ _ _ (digs_dot 10 _ (by omega) (by omega)), hr]; rfl
theorem octs_sum (n : Nat) (h : n < 4294967296) : ((octS (n : Int) 0 * 256 + octS (n : Int) 1) * 256 + octS (n : Int) 2) * 256 + octS (n : Int) 3 = n ∧ octS (n : Int) 0 ≤ 255 ∧ octS (n : Int) 1 ≤ 255 ∧ octS (n : Int) 2 ≤ 255 ∧ octS (n : Int) 3 ≤ 255 := by
  rw [octS_is n 0 h, octS_is n 1 h, octS_is n 2 h, octS_is n 3 h]
  simp only [Nat.reduceMul, Nat.reduceSub, Nat.reducePow]
  omega
theorem text4_form (v : Int) : ∀ x ∈ text4S v, formB x = true := by
  intro x hx
  have h46 : formB 46 = true := by decide
  have hd := fun u => digs_form 10 u (by omega) (by omega)
  unfold text4S at hx
  simp only [dotF, List.mem_append, List.mem_cons, List.not_mem_nil, or_false, List.cons_append] at hx
  rcases hx with h | (rfl | h | (rfl | h | (rfl | h)))
  all_goals first | exact h46 | exact hd _ x h
theorem four_pieces (n : Nat) (h : n < 4294967296) : fourF 4 0 0 (piecesS (n : Int)) = some (n : Int) := by
  obtain ⟨e, b0, b1, b2, b3⟩ := octs_sum n h
  unfold piecesS
  rw [four_4 (num_dec _) (num_dec _) (num_dec _) (num_dec _) b0 b1 b2 b3, e]
theorem last_ne {ls : List (List UInt8)} {x : List UInt8} (h : ls.getLast? = some x) (hx : x ≠ []) : ls.getLast? ≠ some [] := by
  rw [h]; intro e; exact hx (Option.some.inj e)
theorem text4_labels (v : Int) : labelsS (text4S v) = piecesS v := by
  have h := text4_cut v [] [digs 10 (octS v 3)] (by rw [List.append_nil, cut_no 46 _ _ (digs_dot 10 _ (by omega) (by omega))]; rfl)
  rw [List.append_nil] at h
  exact labels_of h (last_ne (x := digs 10 (octS v 3)) rfl (digs_ne 10 _))
/-- Four numbers are read as what they are written of. -/
theorem four_text (n : Nat) (h : n < 4294967296) : fourS (text4S (n : Int)) = some (n : Int) := four_of (text4_labels _) (by simp [piecesS]) (four_pieces n h)
theorem text4_numbered (v : Int) : numberedS (text4S v) = true := numbered_of (text4_labels v) (x := digs 10 (octS v 3)) rfl (nd_dec _)
theorem text4_ne (v : Int) : text4S v ≠ [] := by unfold text4S; intro h; exact digs_ne 10 _ (List.append_eq_nil_iff.1 h).1
theorem form_0 (n : Nat) (h : n < 4294967296) : parseS (text4S (n : Int)) true = some (text4S (n : Int)) := parse_form (text4_form _) (text4_ne _) (text4_numbered _) (four_text n h)
theorem form_1 (n : Nat) (h : n < 4294967296) : parseS (digs 10 n) true = some (text4S (n : Int)) := by
  have hc : cutS 46 [] (digs 10 n) = [digs 10 n] := cut_no 46 _ [] (digs_dot 10 n (by omega) (by omega))
  have hl := labels_of hc (last_ne (x := digs 10 n) rfl (digs_ne 10 n))
  exact parse_form (digs_form 10 n (by omega) (by omega)) (digs_ne 10 n) (numbered_of hl rfl (nd_dec n)) (four_of hl (by simp) (four_1 (num_dec n) h))
theorem hex_label (n : Nat) : (∀ x ∈ 48 :: 120 :: digs 16 n, formB x = true) ∧ (∀ x ∈ 48 :: 120 :: digs 16 n, (x.toNat : Int) ≠ 46) := by
  constructor
  · intro x hx
    rcases List.mem_cons.1 hx with rfl | hx
    · decide
    · rcases List.mem_cons.1 hx with rfl | hx
      · decide
      · exact digs_form 16 n (by omega) (by omega) x hx
  · intro x hx
    rcases List.mem_cons.1 hx with rfl | hx
    · decide
    · rcases List.mem_cons.1 hx with rfl | hx
      · decide
      · exact digs_dot 16 n (by omega) (by omega) x hx
theorem oct_label (n : Nat) : (∀ x ∈ 48 :: digs 8 n, formB x = true) ∧ (∀ x ∈ 48 :: digs 8 n, (x.toNat : Int) ≠ 46) := by
  constructor
  · intro x hx
    rcases List.mem_cons.1 hx with rfl | hx
    · decide
    · exact digs_form 8 n (by omega) (by omega) x hx
  · intro x hx
    rcases List.mem_cons.1 hx with rfl | hx
    · decide
    · exact digs_dot 8 n (by omega) (by omega) x hx
theorem form_2 (n : Nat) (h : n < 4294967296) : parseS (48 :: 120 :: digs 16 n) true = some (text4S (n : Int)) := by
  have hc : cutS 46 [] (48 :: 120 :: digs 16 n) = [48 :: 120 :: digs 16 n] := cut_no 46 _ [] (hex_label n).2
  have hl := labels_of hc (last_ne (x := 48 :: 120 :: digs 16 n) rfl (by simp))
  exact parse_form (hex_label n).1 (by simp) (numbered_of hl rfl (nd_hex n)) (four_of hl (by simp) (four_1 (num_hex n) h))
theorem form_3 (n : Nat) (h : n < 4294967296) : parseS (48 :: digs 8 n) true = some (text4S (n : Int)) := by
  have hc : cutS 46 [] (48 :: digs 8 n) = [48 :: digs 8 n] := cut_no 46 _ [] (oct_label n).2
  have hl := labels_of hc (last_ne (x := 48 :: digs 8 n) rfl (by simp))
  exact parse_form (oct_label n).1 (by simp) (numbered_of hl rfl (nd_oct n)) (four_of hl (by simp) (four_1 (num_oct n) h))
theorem form_4 (n : Nat) (h : n < 4294967296) : parseS (text4S (n : Int) ++ [46]) true = some (text4S (n : Int)) := by
  have hc := text4_cut (n : Int) [46] [digs 10 (octS (n : Int) 3), []] (by rw [cut_hit 46 46 rfl _ _ _ (digs_dot 10 _ (by omega) (by omega))]; rfl)
  have hl : labelsS (text4S (n : Int) ++ [46]) = piecesS (n : Int) := labels_dot hc (by simp [piecesS])
  refine parse_form ?_ (by simp) (numbered_of hl (x := digs 10 (octS (n : Int) 3)) rfl (nd_dec _)) (four_of hl (by simp [piecesS]) (four_pieces n h))
  intro x hx
  rcases List.mem_append.1 hx with h | h
  · exact text4_form _ x h
  · simp at h; subst h; decide
theorem form_5 (n a v : Nat) (ha : a ≤ 255) (hv : v < 16777216) (hn : n = a * 16777216 + v) : parseS ((48 :: 120 :: digs 16 a) ++ 46 :: digs 10 v) true = some (text4S (n : Int)) := by
  have hc : cutS 46 [] ((48 :: 120 :: digs 16 a) ++ 46 :: digs 10 v) = [48 :: 120 :: digs 16 a, digs 10 v] := by
    rw [cut_hit 46 46 rfl _ _ _ (hex_label a).2, cut_no 46 _ _ (digs_dot 10 v (by omega) (by omega))]; rfl
  have hl := labels_of hc (last_ne (x := digs 10 v) rfl (digs_ne 10 v))
  subst hn
  refine parse_form ?_ (by simp) (numbered_of hl rfl (nd_dec v)) (four_of hl (by simp) (four_2 (num_hex a) (num_dec v) ha hv))
  intro x hx
  rcases List.mem_append.1 hx with h | h
  · exact (hex_label a).1 x h
  · rcases List.mem_cons.1 h with rfl | h
    · decide
    · exact digs_form 10 v (by omega) (by omega) x h
theorem form_6 (n a b v : Nat) (ha : a ≤ 255) (hb : b ≤ 255) (hv : v < 65536) (hn : n = (a * 256 + b) * 65536 + v) : parseS (digs 10 a ++ 46 :: ((48 :: digs 8 b) ++ 46 :: digs 10 v)) true = some (text4S (n : Int)) := by
  have hc : cutS 46 [] (digs 10 a ++ 46 :: ((48 :: digs 8 b) ++ 46 :: digs 10 v)) = [digs 10 a, 48 :: digs 8 b, digs 10 v] := by
    rw [cut_hit 46 46 rfl _ _ _ (digs_dot 10 a (by omega) (by omega)), cut_hit 46 46 rfl _ _ _ (oct_label b).2, cut_no 46 _ _ (digs_dot 10 v (by omega) (by omega))]; rfl
  have hl := labels_of hc (last_ne (x := digs 10 v) rfl (digs_ne 10 v))
  subst hn
  refine parse_form ?_ (by simp) (numbered_of hl rfl (nd_dec v)) (four_of hl (by simp) (four_3 (num_dec a) (num_oct b) (num_dec v) ha hb hv))
  intro x hx
  rcases List.mem_append.1 hx with h | h
  · exact digs_form 10 a (by omega) (by omega) x h
  · rcases List.mem_cons.1 h with rfl | h
    · decide
    · rcases List.mem_append.1 h with h | h
      · exact (oct_label b).1 x h
      · rcases List.mem_cons.1 h with rfl | h
        · decide
        · exact digs_form 10 v (by omega) (by omega) x h
end Go.Proofs.YtpgehhnmlihnbaaGreatDoor
