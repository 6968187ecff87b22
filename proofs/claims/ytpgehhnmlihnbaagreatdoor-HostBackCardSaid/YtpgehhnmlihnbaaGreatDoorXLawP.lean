import Derived.Test.YtpgehhnmlihnbaaGreatDoorXPar2
namespace Go.Proofs.YtpgehhnmlihnbaaGreatDoor
open Go.RowKit

/-! Plain laws of the parsed host. -/
theorem u8_imp {p : UInt8 → Bool} (h : ∀ n : Fin 256, p (UInt8.ofNat n.val) = true) (x : UInt8) : p x = true := by
  rw [u8_all (p := p) (q := fun _ => true) (fun n => h n) x]
theorem bad_facts (x : UInt8) (h : badS x = true) : fineB x = false ∧ hexV x.toNat < 0 ∧ x ≠ 37 ∧ low x = x := by
  have := u8_imp (p := fun x => !badS x || (!fineB x && decide (hexV x.toNat < 0) && !(x == 37) && (low x == x))) (by decide +kernel) x
  rw [h] at this
  simpa [and_assoc] using this
theorem unp_id : ∀ (l : List UInt8), (∀ x ∈ l, x ≠ 37) → unpercent l = l
  | [], _ => rfl
  | x :: r, h => by rw [unp_other (h x (by simp)), unp_id r (fun y hy => h y (by simp [hy]))]
theorem unp_pre : ∀ (p l : List UInt8), (∀ x ∈ p, x ≠ 37) → unpercent (p ++ l) = p ++ unpercent l
  | [], _, _ => rfl
  | x :: r, l, h => by rw [List.cons_append, unp_other (h x (by simp)), unp_pre r l (fun y hy => h y (by simp [hy]))]; rfl
theorem unp_keep {x : UInt8} (hx : hexV x.toNat < 0) (h37 : x ≠ 37) : ∀ (n : Nat) (l : List UInt8), l.length ≤ n → x ∈ l → x ∈ unpercent l
  | 0, [], _, h => by cases h
  | n + 1, [], _, h => by cases h
  | n + 1, y :: r, hn, h => by
    have hr : r.length ≤ n := by simpa using hn
    have ih := unp_keep hx h37 n
    by_cases hy : y = 37
    · subst hy
      rcases List.mem_cons.1 h with h | h
      · exact absurd h h37
      · by_cases h2 : r.length < 2
        · rw [unp_short h2]
          exact List.mem_cons_of_mem _ (ih r hr h)
        · match r, h2, h, hr with
          | a :: b :: t, _, h, hr =>
            by_cases hh : 0 ≤ hexV a.toNat ∧ 0 ≤ hexV b.toNat
            · rw [unp_yes hh]
              rcases List.mem_cons.1 h with h | h
              · subst h; omega
              · rcases List.mem_cons.1 h with h | h
                · subst h; omega
                · exact List.mem_cons_of_mem _ (ih t (by simp at hr; omega) h)
            · rw [unp_no hh]
              exact List.mem_cons_of_mem _ (ih _ hr h)
          | [], h2, _, _ => simp at h2
          | [_], h2, _, _ => simp at h2
    · rw [unp_other hy]
      rcases List.mem_cons.1 h with h | h
      · rw [h]; exact List.mem_cons_self
      · exact List.mem_cons_of_mem _ (ih r hr h)
theorem mem_not_all {p : UInt8 → Bool} {x : UInt8} {l : List UInt8} (h : x ∈ l) (hp : p x = false) : l.all p = false := by
  rw [Bool.eq_false_iff]
  intro ha
  rw [List.all_eq_true.1 ha x h] at hp; cases hp
theorem begins_no {c x : UInt8} {r : List UInt8} (h : x ≠ c) : begins (x :: r) [c] = false := by
  unfold begins
  simp [h]
theorem begins_nil (c : UInt8) : begins [] [c] = false := rfl
theorem begins_yes {c : UInt8} {r : List UInt8} : begins (c :: r) [c] = true := by unfold begins; simp
theorem ends_yes {c : UInt8} {r : List UInt8} : ends (r ++ [c]) [c] = true := by unfold ends; simp
theorem parse_special {l : List UInt8} (h : begins l [91] = false) : parseS l true = namedS (lower (unpercent l)) := by
  unfold parseS; rw [h]; rfl
theorem parse_opaque {l : List UInt8} (h : begins l [91] = false) : parseS l false = if l.any badS = true then none else some (percent 1 l) := by
  unfold parseS; rw [h]; rfl
theorem parse_six (l : List UInt8) (sp : Bool) : parseS (91 :: (l ++ [93])) sp = (sixS l).map (fun xs => 91 :: (text6S xs ++ [93])) := by
  unfold parseS
  rw [begins_yes, if_pos rfl, ← List.cons_append, ends_yes, if_pos rfl]
  congr 2
  simp
theorem parse_bad (s t : List UInt8) (b : UInt8) (hb : badS b = true) (sp : Bool) : parseS ((113 :: s) ++ b :: t) sp = none := by
  obtain ⟨f1, f2, f3, f4⟩ := bad_facts b hb
  have hm : b ∈ (113 :: s) ++ b :: t := by simp
  cases sp
  · rw [List.cons_append, parse_opaque (begins_no (by decide)), if_pos]
    exact List.any_eq_true.2 ⟨b, by simp, hb⟩
  · rw [List.cons_append, parse_special (begins_no (by decide))]
    apply named_bad
    refine mem_not_all (x := b) ?_ f1
    have := unp_keep f2 f3 _ _ (Nat.le_refl _) hm
    exact List.mem_map.2 ⟨b, this, f4⟩
theorem text6_ne (xs : List Nat) : text6S xs ≠ [] := by
  unfold text6S
  rw [restF, dif_pos (by omega)]
  split
  · simp
  · intro h
    have := congrArg List.length h
    have h2 := digs_ne 16 (xs.getD 0 0)
    have h3 := List.length_pos_iff.2 h2
    simp at this
    exact h2 this.1

/-! A name of small letters. -/
def nameB (x : UInt8) : Bool := (decide (97 ≤ x.toNat) && decide (x.toNat ≤ 122)) || x == 45 || x == 46
def upB (x : UInt8) : UInt8 := if 97 ≤ x.toNat ∧ x.toNat ≤ 122 then x - 32 else x
def hexL (d : Nat) : UInt8 := dgc d
def signB (x : UInt8) : List UInt8 := [37, hexL (x.toNat / 16), hexL (x.toNat % 16)]
theorem name_facts (x : UInt8) (h : nameB x = true) : x ≠ 37 ∧ upB x ≠ 37 ∧ low x = x ∧ low (upB x) = x ∧ x ≠ 91 ∧ upB x ≠ 91 ∧ fineB x = true ∧ x ≠ 48 ∧ isDec x = false := by
  have := u8_imp (p := fun x => !nameB x || (!(x == 37) && !(upB x == 37) && (low x == x) && (low (upB x) == x) && !(x == 91) && !(upB x == 91) && fineB x && !(x == 48) && !isDec x)) (by decide +kernel) x
  rw [h] at this
  simpa [and_assoc] using this
theorem sign_facts (x : UInt8) : 0 ≤ hexV (hexL (x.toNat / 16)).toNat ∧ 0 ≤ hexV (hexL (x.toNat % 16)).toNat ∧ UInt8.ofNat (16 * (hexV (hexL (x.toNat / 16)).toNat).toNat + (hexV (hexL (x.toNat % 16)).toNat).toNat) = x := by
  have := u8_imp (p := fun x => decide (0 ≤ hexV (hexL (x.toNat / 16)).toNat) && decide (0 ≤ hexV (hexL (x.toNat % 16)).toNat) && (UInt8.ofNat (16 * (hexV (hexL (x.toNat / 16)).toNat).toNat + (hexV (hexL (x.toNat % 16)).toNat).toNat) == x)) (by decide +kernel) x
  simpa [and_assoc] using this
theorem lower_id {l : List UInt8} (h : ∀ x ∈ l, low x = x) : lower l = l := by
  unfold lower
  conv => rhs; rw [← List.map_id l]
  exact List.map_congr_left h
theorem unp_signs : ∀ (l : List UInt8), unpercent (l.flatMap signB) = l
  | [] => rfl
  | x :: r => by
    obtain ⟨h1, h2, h3⟩ := sign_facts x
    rw [List.flatMap_cons]
    show unpercent (37 :: hexL (x.toNat / 16) :: hexL (x.toNat % 16) :: r.flatMap signB) = _
    rw [unp_yes ⟨h1, h2⟩, h3, unp_signs r]
theorem cut_snoc (c : Int) (x : UInt8) (hx : (x.toNat : Int) ≠ c) : ∀ (l acc : List UInt8), ∃ hs y, cutS c acc (l ++ [x]) = hs ++ [y ++ [x]] ∧ cutS c acc l = hs ++ [y]
  | [], acc => ⟨[], acc, by simp [cutS, hx], by simp [cutS]⟩
  | z :: r, acc => by
    by_cases hz : (z.toNat : Int) = c
    · obtain ⟨hs, y, h1, h2⟩ := cut_snoc c x hx r []
      exact ⟨acc :: hs, y, by rw [List.cons_append, cutS, if_pos hz, h1]; rfl, by rw [cutS, if_pos hz, h2]; rfl⟩
    · obtain ⟨hs, y, h1, h2⟩ := cut_snoc c x hx r (acc ++ [z])
      exact ⟨hs, y, by rw [List.cons_append, cutS, if_neg hz, h1], by rw [cutS, if_neg hz, h2]⟩
theorem last_snoc (l : List UInt8) (x : UInt8) (hx : (x.toNat : Int) ≠ 46) : ∃ y, lastS (l ++ [x]) = y ++ [x] ∧ ∀ z ∈ y, z ∈ l := by
  obtain ⟨hs, y, h1, h2⟩ := cut_snoc 46 x hx l []
  refine ⟨y, ?_, ?_⟩
  · have hl : (cutS 46 [] (l ++ [x])).getLast? = some (y ++ [x]) := by rw [h1]; simp
    unfold lastS labelsS
    rw [hl, if_neg (by intro h; have := h.2; simp at this), List.getLastD_eq_getLast?, hl]; rfl
  · intro z hz
    have key : ∀ (m acc : List UInt8) (s : List UInt8), s ∈ cutS 46 acc m → ∀ z ∈ s, z ∈ acc ∨ z ∈ m := by
      intro m
      induction m with
      | nil => intro acc s hs z hz; simp [cutS] at hs; subst hs; exact .inl hz
      | cons a r ih =>
        intro acc s hs z hz
        rw [cutS] at hs
        split at hs
        · rcases List.mem_cons.1 hs with hs | hs
          · subst hs; exact .inl hz
          · rcases ih [] s hs z hz with h | h
            · cases h
            · exact .inr (by simp [h])
        · rcases ih _ s hs z hz with h | h
          · rcases List.mem_append.1 h with h | h
            · exact .inl h
            · exact .inr (by simp at h; simp [h])
          · exact .inr (by simp [h])
    rcases key l [] y (by rw [h2]; simp) z hz with h | h
    · cases h
    · exact h
/-- A name that ends in q is no number, and is parsed to itself or refused. -/
theorem parse_name (m : List UInt8) (hm : ∀ x ∈ m, nameB x = true) : let n := 113 :: (m ++ [113]); parseS n true = namedS n ∧ parseS (n.map upB) true = namedS n ∧ parseS (n.flatMap signB) true = namedS n ∧ (namedS n = none ∨ namedS n = some n) := by
  intro n
  have hn : ∀ x ∈ n, nameB x = true := by
    intro x hx
    rcases List.mem_cons.1 hx with rfl | hx
    · decide
    · rcases List.mem_append.1 hx with hx | hx
      · exact hm x hx
      · simp at hx; subst hx; decide
  have h37 : ∀ x ∈ n, x ≠ 37 := fun x hx => (name_facts x (hn x hx)).1
  have hup : ∀ x ∈ n.map upB, x ≠ 37 := by
    intro x hx
    obtain ⟨y, hy, rfl⟩ := List.mem_map.1 hx
    exact (name_facts y (hn y hy)).2.1
  have hlow : lower n = n := lower_id fun x hx => (name_facts x (hn x hx)).2.2.1
  have hlu : lower (n.map upB) = n := by
    unfold lower
    rw [List.map_map]
    conv => rhs; rw [← List.map_id n]
    exact List.map_congr_left fun x hx => (name_facts x (hn x hx)).2.2.2.1
  refine ⟨?_, ?_, ?_, ?_⟩
  · rw [parse_special (begins_no (by decide)), unp_id n h37, hlow]
  · rw [parse_special (show begins (n.map upB) [91] = false from begins_no (by decide)), unp_id _ hup, hlu]
  · rw [parse_special (show begins (n.flatMap signB) [91] = false from begins_no (by decide)), unp_signs, hlow]
  · unfold namedS
    split
    · have hnum : numberedS n = false := by
        obtain ⟨y, h1, h2⟩ := last_snoc (113 :: m) 113 (by decide)
        have h1 : lastS n = y ++ [113] := h1
        have hh : hexS (y ++ [113]) = false := by
          rw [Bool.eq_false_iff]
          intro h
          unfold hexS begins at h
          simp only [Bool.or_eq_true, Bool.and_eq_true, decide_eq_true_eq, beq_iff_eq] at h
          have h48 : (48 : UInt8) ∈ y ++ [113] := by
            rcases h with ⟨_, h⟩ | ⟨_, h⟩
            · exact (List.take_sublist 2 _).subset (show (48 : UInt8) ∈ List.take 2 (y ++ [113]) by rw [show List.take 2 (y ++ [113]) = [48, 120] from h]; simp)
            · exact (List.take_sublist 2 _).subset (show (48 : UInt8) ∈ List.take 2 (y ++ [113]) by rw [show List.take 2 (y ++ [113]) = [48, 88] from h]; simp)
          rcases List.mem_append.1 h48 with h | h
          · have := h2 _ h
            exact (name_facts 48 (hn 48 (by
              rcases List.mem_cons.1 this with h | h
              · simp at h
              · exact List.mem_cons_of_mem _ (List.mem_append.2 (.inl h))))).2.2.2.2.2.2.2.1 rfl
          · simp at h
        unfold numberedS
        rw [h1, hh, if_neg Bool.false_ne_true, mem_not_all (p := isDec) (x := 113) (by simp) (by decide), Bool.and_false]
      rw [hnum, if_neg Bool.false_ne_true]
      exact .inr rfl
    · exact .inl rfl
/-- A percent sign that is near the end of such a name refuses it. -/
theorem parse_sign (p q : List UInt8) (hp : ∀ x ∈ p, x ≠ 37) (h0 : p = [] ∨ p.head? ≠ some 91) (hq : q.length ≤ 2) (hl : q = [] ∨ q.getLast? = some 113) : parseS (p ++ 37 :: q) true = none := by
  have hb : begins (p ++ 37 :: q) [91] = false := by
    match p, h0 with
    | [], _ => exact begins_no (by decide)
    | x :: r, h0 =>
      refine begins_no (fun e => ?_)
      subst e
      rcases h0 with h | h
      · cases h
      · exact h rfl
  rw [parse_special hb, unp_pre p _ hp]
  apply named_bad
  refine mem_not_all (x := 37) ?_ (by decide)
  refine List.mem_map.2 ⟨37, List.mem_append.2 (.inr ?_), by decide⟩
  match q, hq, hl with
  | [], _, _ => rw [unp_short (by simp)]; simp
  | [a], _, _ => rw [unp_short (by simp)]; simp
  | [a, b], _, hl =>
    have hb : b = 113 := by
      rcases hl with h | h
      · cases h
      · simpa using h
    subst hb
    rw [unp_no (by intro h; exact absurd h.2 (by decide))]; simp
end Go.Proofs.YtpgehhnmlihnbaaGreatDoor
