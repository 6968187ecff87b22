import Derived.Test.YtpgehhnmlihnbaaGreatDoorXLawR
namespace Go.Proofs.YtpgehhnmlihnbaaGreatDoor
open Go.RowKit

/-! Eight pieces are read as what they are written of; what is parsed is parsed to itself. -/
def joinC : List Nat → List UInt8
  | [] => []
  | [v] => digs 16 v
  | v :: w :: r => digs 16 v ++ 58 :: joinC (w :: r)
theorem digs_col (u : Nat) : ∀ x ∈ digs 16 u, x ≠ 58 := digs_mem 16 (by omega) (fun x => x ≠ 58) (fun d hd => (dgc_facts d (by omega)).2.2.1) u u (Nat.le_refl _)
theorem joinC_head (v : Nat) (r : List Nat) : ∃ x t, joinC (v :: r) = x :: t ∧ x ≠ 58 := by
  obtain ⟨x, t, hd⟩ : ∃ x t, digs 16 v = x :: t := by
    cases h : digs 16 v with
    | nil => exact absurd h (digs_ne 16 v)
    | cons x t => exact ⟨x, t, rfl⟩
  have hx := digs_col v x (by rw [hd]; simp)
  cases r with
  | nil => exact ⟨x, t, hd, hx⟩
  | cons w r => exact ⟨x, t ++ 58 :: joinC (w :: r), by rw [joinC, hd]; rfl, hx⟩
def okN : List UInt8 → Bool
  | [] => false
  | y :: _ => y != 58
def okCC : List UInt8 → Bool
  | [] => true
  | x :: r => (x != 58 || okN r) && okCC r
theorem okCC_app : ∀ (l r : List UInt8), (∀ x ∈ l, x ≠ 58) → okCC r = true → okCC (l ++ r) = true
  | [], r, _, h => h
  | x :: l, r, hl, h => by
    have h1 : (x != 58) = true := by simpa using hl x (by simp)
    rw [List.cons_append, okCC, okCC_app l r (fun y hy => hl y (by simp [hy])) h, h1]; rfl
theorem okCC_join : ∀ (A : List Nat), okCC (joinC A) = true
  | [] => rfl
  | [v] => by have := okCC_app (digs 16 v) [] (digs_col v) rfl; rw [List.append_nil] at this; exact this
  | v :: w :: r => by
    rw [joinC]
    refine okCC_app _ _ (digs_col v) ?_
    obtain ⟨x, t, h, hx⟩ := joinC_head w r
    have ih := okCC_join (w :: r)
    rw [okCC, ih, h]
    simp [okN, hx]
theorem idx_in (R : List UInt8) : ∀ (l : List UInt8), okCC l = true → Lib.index (l ++ 58 :: 58 :: R) [58, 58] = l.length
  | [], _ => idx_hit R
  | x :: r, h => by
    rw [okCC, Bool.and_eq_true] at h
    have ih := idx_in R r h.2
    rw [List.cons_append, idx_step x _ (by
      intro ⟨e, hh⟩
      have h1 := h.1
      subst e
      cases r with
      | nil => simp [okN] at h1
      | cons y r => simp [okN] at h1 hh; exact h1 hh), ih]
    unfold shiftI
    rw [if_neg (by omega)]; simp
theorem idx_out : ∀ (l : List UInt8), okCC l = true → Lib.index l [58, 58] = -1
  | [], _ => rfl
  | x :: r, h => by
    rw [okCC, Bool.and_eq_true] at h
    have ih := idx_out r h.2
    rw [idx_step x _ (by
      intro ⟨e, hh⟩
      have h1 := h.1
      subst e
      cases r with
      | nil => simp at hh
      | cons y r => simp [okN] at h1 hh; exact h1 hh), ih]
    rfl
theorem cut_gap (A B : List Nat) : Lib.cut (joinC A ++ 58 :: 58 :: joinC B) [58, 58] = (joinC A, joinC B, true) := by
  unfold Lib.cut
  rw [idx_in _ _ (okCC_join A), if_pos (by omega), Int.toNat_natCast]
  have e : (joinC A ++ 58 :: 58 :: joinC B).drop ((joinC A).length + 2) = joinC B := by
    rw [List.drop_append, List.drop_eq_nil_of_le (by omega)]; simp
  simp only [List.length_cons, List.length_nil]
  rw [e]; simp
theorem cut_whole (A : List Nat) : Lib.cut (joinC A) [58, 58] = (joinC A, [], false) := by
  unfold Lib.cut
  rw [idx_out _ (okCC_join A), if_neg (by omega)]
theorem cut_pieces : ∀ (A : List Nat), A ≠ [] → cutS 58 [] (joinC A) = A.map (digs 16)
  | [], h => absurd rfl h
  | [v], _ => by
    rw [joinC, cut_no 58 _ [] (fun x hx e => digs_col v x hx (UInt8.toNat_inj.1 (by simpa using (by omega : x.toNat = 58))))]; rfl
  | v :: w :: r, _ => by
    rw [joinC, cut_hit 58 58 rfl _ _ _ (fun x hx e => digs_col v x hx (UInt8.toNat_inj.1 (by simpa using (by omega : x.toNat = 58)))), cut_pieces (w :: r) (by simp)]; rfl
theorem hexPiece_digs (v : Nat) (h : v ≤ 65535) : hexPieceS (digs 16 v) = some v := by
  unfold hexPieceS
  have hall := digs_ok 16 v (by omega) (by omega)
  rw [all16] at hall
  rw [if_pos ⟨digs_ne 16 v, digs16_len v h, hall⟩, digs_val 16 (by omega) (by omega) v v (Nat.le_refl _)]
theorem pf_join (last : Bool) : ∀ (A : List Nat), (∀ v ∈ A, v ≤ 65535) → piecesF last (A.map (digs 16)) = some A
  | [], _ => rfl
  | v :: r, h => by
    have h46 : (digs 16 v).contains 46 = false := by
      rw [Bool.eq_false_iff]; intro hc
      exact digs_dot 16 v (by omega) (by omega) 46 (List.contains_iff_mem.1 hc) rfl
    rw [List.map_cons, pf_some (v := v) (by rw [h46, Bool.and_false]) (hexPiece_digs v (h v (by simp))), pf_join last r (fun y hy => h y (by simp [hy]))]; rfl
theorem pieces_join (last : Bool) (A : List Nat) (h : ∀ v ∈ A, v ≤ 65535) : pieces6S last (joinC A) = some A := by
  unfold pieces6S
  cases A with
  | nil => rfl
  | cons v r =>
    obtain ⟨x, t, hx, _⟩ := joinC_head v r
    rw [if_neg (by rw [hx]; simp), cut_pieces _ (by simp), pf_join last _ h]
theorem zeros_take : ∀ (l : List Nat) (n : Nat), n ≤ (l.takeWhile (· == 0)).length → l.take n = List.replicate n 0
  | _, 0, _ => by simp
  | [], n + 1, h => by simp at h
  | x :: r, n + 1, h => by
    rw [List.takeWhile_cons] at h
    by_cases hx : x = 0
    · subst hx
      simp at h
      rw [List.take_succ_cons, zeros_take r n (by simpa using h)]; rfl
    · rw [if_neg (by simpa using hx)] at h; simp at h
theorem best_run (xs : List Nat) : ∀ (k f : Nat), (bestF xs k).1 = (f : Int) → (bestF xs k).2 = runAt xs f
  | 0, f, h => by have h : (-1 : Int) = f := h; omega
  | k + 1, f, h => by
    rw [bestF] at h ⊢
    split at h
    · rename_i hlt
      rw [if_pos hlt]
      have h : (k : Int) = f := h
      have : k = f := by omega
      rw [this]
    · rename_i hlt
      rw [if_neg hlt]
      exact best_run xs k f h
theorem joinC_cons (v : Nat) (r : List Nat) : joinC (v :: r) = digs 16 v ++ (if r = [] then [] else 58 :: joinC r) := by
  cases r with
  | nil => rw [if_pos rfl, List.append_nil]; rfl
  | cons w r => rw [joinC, if_neg (by simp)]
theorem rest_after {xs : List Nat} (h8 : xs.length = 8) (f : Int) (m : Nat) : ∀ (n i : Nat), 8 - i ≤ n → (∀ j : Nat, i ≤ j → (j : Int) ≠ f) → (∀ j : Nat, i < j → (j : Int) ≠ f + m) →
    restF xs f m i = (if i < 8 ∧ 0 < i ∧ (i : Int) ≠ f + m then [58] else []) ++ joinC (xs.drop i)
  | 0, i, hn, _, _ => by rw [rest_end xs f m i (by omega), if_neg (by omega), List.drop_eq_nil_of_le (by omega)]; rfl
  | n + 1, i, hn, hf, hm => by
    by_cases hi : i < 8
    · have hx : xs[i]? = some xs[i] := List.getElem?_eq_getElem (by omega)
      have ih := rest_after h8 f m n (i + 1) (by omega) (fun j hj => hf j (by omega)) (fun j hj => hm j (by omega))
      rw [rest_one hi (hf i (Nat.le_refl _)) hx, ih, drop_get hx, joinC_cons]
      have e1 : (if i < 8 ∧ 0 < i ∧ (i : Int) ≠ f + m then [(58 : UInt8)] else []) = (if 0 < i ∧ (i : Int) ≠ f + m then [58] else []) := by
        by_cases h : 0 < i ∧ (i : Int) ≠ f + m
        · rw [if_pos h, if_pos ⟨hi, h⟩]
        · rw [if_neg h, if_neg (fun h2 => h h2.2)]
      rw [e1]
      congr 2
      by_cases h7 : i + 1 < 8
      · rw [if_pos ⟨h7, by omega, hm (i + 1) (by omega)⟩, if_neg (by intro h; have := congrArg List.length h; rw [List.length_drop] at this; simp at this; omega)]; rfl
      · rw [if_neg (fun h => h7 h.1), List.drop_eq_nil_of_le (by omega), if_pos rfl]; rfl
    · rw [rest_end xs f m i (by omega), if_neg (by omega), List.drop_eq_nil_of_le (by omega)]; rfl
theorem rest_before {xs : List Nat} (h8 : xs.length = 8) (f m : Nat) (hf8 : f ≤ 8) : ∀ (n i : Nat), f - i ≤ n → i ≤ f →
    restF xs f m i = (if 0 < i ∧ i < f then [58] else []) ++ joinC ((xs.take f).drop i) ++ restF xs f m f
  | 0, i, hn, hi => by
    obtain rfl : i = f := by omega
    rw [if_neg (by omega), List.drop_eq_nil_of_le (by rw [List.length_take]; omega)]; rfl
  | n + 1, i, hn, hi => by
    by_cases hlt : i < f
    · have hx : xs[i]? = some xs[i] := List.getElem?_eq_getElem (by omega)
      have hxt : (xs.take f)[i]? = some xs[i] := by rw [List.getElem?_take, if_pos hlt]; exact hx
      have ih := rest_before h8 f m hf8 n (i + 1) (by omega) (by omega)
      rw [rest_one (by omega) (by omega) hx, ih, drop_get hxt, joinC_cons]
      have e1 : (if 0 < i ∧ (i : Int) ≠ (f : Int) + m then [(58 : UInt8)] else []) = (if 0 < i ∧ i < f then [58] else []) := by
        by_cases h : 0 < i
        · rw [if_pos ⟨h, by omega⟩, if_pos ⟨h, hlt⟩]
        · rw [if_neg (fun h2 => h h2.1), if_neg (fun h2 => h h2.1)]
      rw [e1]
      by_cases h7 : i + 1 < f
      · have e2 : (if 0 < i + 1 ∧ i + 1 < f then [(58 : UInt8)] else []) = [58] := if_pos ⟨by omega, h7⟩
        have e3 : ¬ (xs.take f).drop (i + 1) = [] := by intro h; have := congrArg List.length h; rw [List.length_drop, List.length_take] at this; simp at this; omega
        rw [e2, if_neg e3]
        simp only [List.append_assoc, List.cons_append, List.nil_append]
      · have e2 : (if 0 < i + 1 ∧ i + 1 < f then [(58 : UInt8)] else []) = [] := if_neg (fun h => h7 h.2)
        have e3 : (xs.take f).drop (i + 1) = [] := List.drop_eq_nil_of_le (by rw [List.length_take]; omega)
        rw [e2, e3, if_pos rfl]
        simp only [joinC, List.append_nil, List.nil_append, List.append_assoc]
    · obtain rfl : i = f := by omega
      rw [if_neg (by omega), List.drop_eq_nil_of_le (by rw [List.length_take]; omega)]; rfl
theorem six_text {xs : List Nat} (h8 : xs.length = 8) (hv : ∀ v ∈ xs, v ≤ 65535) : sixS (text6S xs) = some xs := by
  rcases best_facts xs 8 with ⟨h1, h2⟩ | ⟨f, h1, h2, h3⟩
  · have e : text6S xs = joinC xs := by
      unfold text6S
      rw [h1, h2, rest_after h8 (-1) 1 8 0 (by omega) (fun j _ => by omega) (fun j _ => by omega), if_neg (by omega)]; rfl
    unfold sixS
    rw [e, cut_whole]
    show sixJ false (pieces6S true (joinC xs)) (pieces6S true []) = some xs
    rw [pieces_join true xs hv]
    show (if (!false && xs.length != 8 || false && decide (8 ≤ xs.length + 0)) = true then none else some (xs ++ (List.replicate (8 - xs.length - 0) 0 ++ []))) = some xs
    rw [h8]; simp
  · have hm := best_run xs 8 f h1
    obtain ⟨m, hmm⟩ : ∃ m, (bestF xs 8).2 = m := ⟨_, rfl⟩
    rw [hmm] at h2 h3 hm
    have e : text6S xs = joinC (xs.take f) ++ 58 :: 58 :: joinC (xs.drop (f + m)) := by
      unfold text6S
      rw [h1, hmm, rest_before h8 f m (by omega) 8 0 (by omega) (by omega), if_neg (by omega), rest_gap (by omega) rfl, show f + (m - 1) + 1 = f + m by omega,
        rest_after h8 f m 8 (f + m) (by omega) (fun j _ => by omega) (fun j _ => by omega), if_neg (by omega)]
      simp
    have hz : (xs.drop f).take m = List.replicate m 0 := zeros_take _ _ (by rw [hm]; unfold runAt; exact Nat.le_refl _)
    have hsplit : xs = xs.take f ++ (List.replicate m 0 ++ xs.drop (f + m)) := by
      rw [← hz, ← List.drop_drop, List.take_append_drop, List.take_append_drop]
    have l1 : (xs.take f).length = f := by rw [List.length_take]; omega
    have l2 : (xs.drop (f + m)).length = 8 - f - m := by rw [List.length_drop]; omega
    unfold sixS
    rw [e, cut_gap]
    show sixJ true (pieces6S false (joinC (xs.take f))) (pieces6S true (joinC (xs.drop (f + m)))) = some xs
    rw [pieces_join false _ (fun v h => hv v ((List.take_sublist _ _).subset h)), pieces_join true _ (fun v h => hv v ((List.drop_sublist _ _).subset h))]
    show (if (!true && (xs.take f).length != 8 || true && decide (8 ≤ (xs.take f).length + (xs.drop (f + m)).length)) = true then none else some (xs.take f ++ (List.replicate (8 - (xs.take f).length - (xs.drop (f + m)).length) 0 ++ xs.drop (f + m)))) = some xs
    rw [l1, l2, if_neg (by simp; omega), show 8 - f - (8 - f - m) = m by omega, ← hsplit]
theorem parse_text6 {xs : List Nat} (h8 : xs.length = 8) (hv : ∀ v ∈ xs, v ≤ 65535) (sp : Bool) : parseS (91 :: (text6S xs ++ [93])) sp = some (91 :: (text6S xs ++ [93])) := by
  rw [parse_six, six_text h8 hv]; rfl
theorem esc_bytes (x : UInt8) : ∀ y ∈ esc x, ctl y.toNat = false ∧ badS y = false := by
  have h : ∀ d : Fin 16, ctl (hexU d.val).toNat = false ∧ badS (hexU d.val) = false := by decide +kernel
  intro y hy
  unfold esc at hy
  simp only [List.mem_cons, List.not_mem_nil, or_false] at hy
  have hx := x.toNat_lt
  rcases hy with rfl | rfl | rfl
  · decide
  · exact h ⟨x.toNat / 16, by omega⟩
  · exact h ⟨x.toNat % 16, by omega⟩
theorem percent_bytes : ∀ (l : List UInt8), (∀ x ∈ l, badS x = false) → ∀ y ∈ percent 1 l, ctl y.toNat = false ∧ badS y = false
  | [], _, y, hy => by cases hy
  | x :: r, h, y, hy => by
    rw [percent] at hy
    rcases List.mem_append.1 hy with hy | hy
    · split at hy
      · exact esc_bytes x y hy
      · rename_i hs
        simp at hy; subst hy
        rw [in_1] at hs
        exact ⟨by simpa using hs, h y (by simp)⟩
    · exact percent_bytes r (fun z hz => h z (by simp [hz])) y hy
theorem percent_id : ∀ (l : List UInt8), (∀ x ∈ l, ctl x.toNat = false) → percent 1 l = l
  | [], _ => rfl
  | x :: r, h => by rw [percent, in_1, h x (by simp), if_neg Bool.false_ne_true, percent_id r (fun y hy => h y (by simp [hy]))]; rfl
theorem low_low (x : UInt8) : low (low x) = low x := by
  have := u8_imp (p := fun x => low (low x) == low x) (by decide +kernel) x
  simpa using this
/-- What a text is parsed to is parsed to itself. -/
theorem parse_back {l a : List UInt8} {sp : Bool} (h : parseS l sp = some a) : parseS a sp = some a := by
  cases hb : begins l [91]
  · cases sp
    · rw [parse_opaque hb] at h
      split at h
      · cases h
      · rename_i hbad
        have ha := Option.some.inj h
        have hl : ∀ x ∈ l, badS x = false := by
          intro x hx
          rw [Bool.eq_false_iff]; intro hh
          exact hbad (List.any_eq_true.2 ⟨x, hx, hh⟩)
        have hp := percent_bytes l hl
        rw [ha] at hp
        have hba : begins a [91] = false := by
          rw [← ha]
          cases l with
          | nil => rfl
          | cons x r =>
            rw [percent]
            split
            · exact begins_no (by decide)
            · refine begins_no (fun e => ?_)
              subst e
              rw [begins_yes] at hb; cases hb
        rw [parse_opaque hba, if_neg, percent_id a (fun x hx => (hp x hx).1)]
        intro hh
        obtain ⟨x, hx, hx2⟩ := List.any_eq_true.1 hh
        rw [(hp x hx).2] at hx2; cases hx2
    · rw [parse_special hb] at h
      obtain ⟨t, ht⟩ : ∃ t, lower (unpercent l) = t := ⟨_, rfl⟩
      rw [ht] at h
      have hlow : ∀ x ∈ t, low x = x := by
        intro x hx
        rw [← ht] at hx
        obtain ⟨y, _, rfl⟩ := List.mem_map.1 hx
        exact low_low y
      have h0 := h
      unfold namedS at h
      split at h
      · rename_i hc
        split at h
        · obtain ⟨v, hv, rfl⟩ := Option.map_eq_some_iff.1 h
          obtain ⟨h1, h2⟩ := four_range hv
          obtain ⟨n, rfl⟩ := Int.eq_ofNat_of_zero_le h1
          exact form_0 n (by omega)
        · have e := Option.some.inj h
          subst e
          have hf := List.all_eq_true.1 hc.1
          have hbt : begins t [91] = false := by
            cases t with
            | nil => rfl
            | cons x r =>
              refine begins_no (fun e => ?_)
              subst e
              have := hf 91 (by simp)
              exact absurd this (by decide)
          rw [parse_special hbt, unp_id t (fun x hx e => by subst e; exact absurd (hf 37 hx) (by decide)), lower_id hlow]
          exact h0
      · cases h
  · unfold parseS at h
    rw [hb, if_pos rfl] at h
    split at h
    · obtain ⟨xs, hxs, rfl⟩ := Option.map_eq_some_iff.1 h
      obtain ⟨h8, hv⟩ := six_shape hxs
      exact parse_text6 h8 hv sp
    · cases h
end Go.Proofs.YtpgehhnmlihnbaaGreatDoor
