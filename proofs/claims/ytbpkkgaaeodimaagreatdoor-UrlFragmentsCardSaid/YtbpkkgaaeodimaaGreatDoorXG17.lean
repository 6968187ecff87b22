import Derived.Test.YtbpkkgaaeodimaaGreatDoorXG16
import Derived.Test.YtbpkkgaaeodimaaGreatDoorXG13
namespace Go.Proofs.YtbpkkgaaeodimaaGreatDoor
open Go.RowKit

/-! An address that was parsed, written and parsed again. -/
def safeB (x : UInt8) : Bool := x == 37 || isDec x || (decide (65 ≤ x.toNat) && decide (x.toNat ≤ 70))
theorem esc_safe (x : UInt8) : ∀ y ∈ esc x, safeB y = true := by
  have := u8_imp (p := fun x => (esc x).all safeB) (by decide +kernel) x
  exact List.all_eq_true.1 this
theorem safe_in (k : Int) (x : UInt8) (h : safeB x = true) : inSet k x.toNat = false := by
  by_cases hk : 1 ≤ k ∧ k ≤ 6
  · have hc : k = 1 ∨ k = 2 ∨ k = 3 ∨ k = 4 ∨ k = 5 ∨ k = 6 := by omega
    have := u8_imp (p := fun x => !safeB x || (!inSet 1 x.toNat && !inSet 2 x.toNat && !inSet 3 x.toNat && !inSet 4 x.toNat && !inSet 5 x.toNat && !inSet 6 x.toNat)) (by decide +kernel) x
    simp only [h, Bool.not_true, Bool.false_or, Bool.and_eq_true, Bool.not_eq_true'] at this
    obtain ⟨⟨⟨⟨⟨h1, h2⟩, h3⟩, h4⟩, h5⟩, h6⟩ := this
    rcases hc with rfl | rfl | rfl | rfl | rfl | rfl
    · exact h1
    · exact h2
    · exact h3
    · exact h4
    · exact h5
    · exact h6
  · unfold inSet
    rw [decide_eq_false hk, Bool.false_and]
theorem percent_mem (k : Int) : ∀ (l : List UInt8), ∀ y ∈ percent k l, (y ∈ l ∧ inSet k y.toNat = false) ∨ safeB y = true
  | [], y, h => by simp [percent] at h
  | x :: r, y, h => by
    rw [percent, List.mem_append] at h
    rcases h with h | h
    · split at h
      · exact .inr (esc_safe x y h)
      · rename_i hx
        simp only [List.mem_singleton] at h
        subst h
        exact .inl ⟨List.mem_cons_self, by simpa using hx⟩
    · rcases percent_mem k r y h with ⟨h1, h2⟩ | h1
      · exact .inl ⟨List.mem_cons_of_mem _ h1, h2⟩
      · exact .inr h1
theorem percent_out (k : Int) (l : List UInt8) : ∀ y ∈ percent k l, inSet k y.toNat = false := by
  intro y hy
  rcases percent_mem k l y hy with ⟨_, h⟩ | h
  · exact h
  · exact safe_in k y h
theorem percent_fix (k : Int) : ∀ (l : List UInt8), (∀ x ∈ l, inSet k x.toNat = false) → percent k l = l
  | [], _ => rfl
  | x :: r, h => by
    rw [percent, h x List.mem_cons_self, percent_fix k r (fun y hy => h y (List.mem_cons_of_mem _ hy))]
    rfl
theorem in_ctl (k : Int) (hk : 1 ≤ k ∧ k ≤ 6) (x : UInt8) (h : inSet k x.toNat = false) : 32 ≤ x.toNat ∧ x.toNat ≤ 126 := by
  unfold inSet at h
  rw [decide_eq_true hk, Bool.true_and, Bool.or_eq_false_iff] at h
  have := h.1
  unfold ctl at this
  simp only [decide_eq_false_iff_not, not_or] at this
  omega
theorem in_not (k : Int) (hk : 1 ≤ k ∧ k ≤ 6) (c : UInt8) (hc : (setL k).any (fun x => (x.toNat : Int) == (c.toNat : Int)) = true) (x : UInt8) (h : inSet k x.toNat = false) : x ≠ c := by
  intro e
  subst e
  unfold inSet at h
  rw [decide_eq_true hk, Bool.true_and, Bool.or_eq_false_iff] at h
  rw [h.2] at hc
  cases hc
theorem set6 (x : UInt8) (h : inSet 6 x.toNat = false) : x ≠ 35 ∧ x ≠ 47 ∧ x ≠ 58 ∧ x ≠ 63 ∧ x ≠ 64 ∧ x ≠ 92 ∧ x ≠ 32 := by
  have := u8_imp (p := fun x => inSet 6 x.toNat || (x != 35 && x != 47 && x != 58 && x != 63 && x != 64 && x != 92 && x != 32)) (by decide +kernel) x
  simp only [h, Bool.false_or, Bool.and_eq_true, bne_iff_ne] at this
  obtain ⟨⟨⟨⟨⟨⟨h1, h2⟩, h3⟩, h4⟩, h5⟩, h6⟩, h7⟩ := this
  exact ⟨h1, h2, h3, h4, h5, h6, h7⟩
theorem set5 (x : UInt8) (h : inSet 5 x.toNat = false) : x ≠ 35 ∧ x ≠ 63 ∧ x ≠ 32 := by
  have := u8_imp (p := fun x => inSet 5 x.toNat || (x != 35 && x != 63 && x != 32)) (by decide +kernel) x
  simp only [h, Bool.false_or, Bool.and_eq_true, bne_iff_ne] at this
  exact ⟨this.1.1, this.1.2, this.2⟩
theorem setQ_or (s : List UInt8) : setQ s = 3 ∨ setQ s = 4 := by
  unfold setQ; split
  · exact .inr rfl
  · exact .inl rfl
theorem setQ_is (s : List UInt8) (x : UInt8) (h : inSet (setQ s) x.toNat = false) : x ≠ 35 ∧ x ≠ 32 ∧ 32 ≤ x.toNat ∧ x.toNat ≤ 126 := by
  have := u8_imp (p := fun x => (inSet 3 x.toNat || (x != 35 && x != 32)) && (inSet 4 x.toNat || (x != 35 && x != 32))) (by decide +kernel) x
  have hr : 32 ≤ x.toNat ∧ x.toNat ≤ 126 := in_ctl (setQ s) (by rcases setQ_or s with e | e <;> rw [e] <;> decide) x h
  rcases setQ_or s with e | e
  · rw [e] at h
    simp only [h, Bool.false_or, Bool.and_eq_true, bne_iff_ne] at this
    exact ⟨this.1.1, this.1.2, hr⟩
  · rw [e] at h
    simp only [h, Bool.false_or, Bool.and_eq_true, bne_iff_ne] at this
    exact ⟨this.2.1, this.2.2, hr⟩
theorem set2_is (x : UInt8) (h : inSet 2 x.toNat = false) : x ≠ 32 ∧ 32 ≤ x.toNat ∧ x.toNat ≤ 126 := by
  have := u8_imp (p := fun x => inSet 2 x.toNat || x != 32) (by decide +kernel) x
  simp only [h, Bool.false_or, bne_iff_ne] at this
  exact ⟨this, in_ctl 2 (by decide) x h⟩
/-- The bytes of a host. -/
def hostB (h : List UInt8) : Prop := (∀ x ∈ h, 33 ≤ x.toNat ∧ x.toNat ≤ 126 ∧ x ≠ 35 ∧ x ≠ 47 ∧ x ≠ 63 ∧ x ≠ 64 ∧ x ≠ 92) ∧ ((∃ m, h = 91 :: (m ++ [93]) ∧ ∀ x ∈ m, x ≠ 93) ∨ ∀ x ∈ h, x ≠ 58 ∧ x ≠ 91)
theorem badless (x : UInt8) (h : badS x = false) (h2 : ctl x.toNat = false) : (33 ≤ x.toNat ∧ x.toNat ≤ 126 ∧ x ≠ 35 ∧ x ≠ 47 ∧ x ≠ 63 ∧ x ≠ 64 ∧ x ≠ 92) ∧ x ≠ 58 ∧ x ≠ 91 := by
  have := u8_imp (p := fun x => badS x || ctl x.toNat || (decide (33 ≤ x.toNat) && decide (x.toNat ≤ 126) && x != 35 && x != 47 && x != 63 && x != 64 && x != 92 && x != 58 && x != 91)) (by decide +kernel) x
  simp only [h, h2, Bool.false_or, Bool.and_eq_true, bne_iff_ne, decide_eq_true_eq] at this
  obtain ⟨⟨⟨⟨⟨⟨⟨⟨h1, h2⟩, h3⟩, h4⟩, h5⟩, h6⟩, h7⟩, h8⟩, h9⟩ := this
  exact ⟨⟨h1, h2, h3, h4, h5, h6, h7⟩, h8, h9⟩
theorem fine_bad (x : UInt8) (h : fineB x = true) : badS x = false ∧ ctl x.toNat = false := by
  have := u8_imp (p := fun x => !fineB x || (!badS x && !ctl x.toNat)) (by decide +kernel) x
  simp only [h, Bool.not_true, Bool.false_or, Bool.and_eq_true, Bool.not_eq_true'] at this
  exact this
theorem dgc_plain (d : Nat) (h : d < 16) : (33 ≤ (dgc d).toNat ∧ (dgc d).toNat ≤ 126 ∧ dgc d ≠ 35 ∧ dgc d ≠ 47 ∧ dgc d ≠ 63 ∧ dgc d ≠ 64 ∧ dgc d ≠ 92) ∧ dgc d ≠ 93 := by
  have : ∀ n : Fin 16, (33 ≤ (dgc n.val).toNat ∧ (dgc n.val).toNat ≤ 126 ∧ dgc n.val ≠ 35 ∧ dgc n.val ≠ 47 ∧ dgc n.val ≠ 63 ∧ dgc n.val ≠ 64 ∧ dgc n.val ≠ 92) ∧ dgc n.val ≠ 93 := by decide +kernel
  exact this ⟨d, h⟩
theorem rest_bytes {xs : List Nat} (f : Int) (m : Nat) : ∀ (n i : Nat), 8 - i ≤ n → ∀ x ∈ restF xs f m i, (33 ≤ x.toNat ∧ x.toNat ≤ 126 ∧ x ≠ 35 ∧ x ≠ 47 ∧ x ≠ 63 ∧ x ≠ 64 ∧ x ≠ 92) ∧ x ≠ 93 := by
  intro n
  have h58 : ((33 : Nat) ≤ (58 : UInt8).toNat ∧ (58 : UInt8).toNat ≤ 126 ∧ (58 : UInt8) ≠ 35 ∧ (58 : UInt8) ≠ 47 ∧ (58 : UInt8) ≠ 63 ∧ (58 : UInt8) ≠ 64 ∧ (58 : UInt8) ≠ 92) ∧ (58 : UInt8) ≠ 93 := by decide
  induction n with
  | zero => intro i hi x hx; rw [restF, dif_neg (by omega)] at hx; simp at hx
  | succ n ih =>
    intro i hi x hx
    rw [restF] at hx
    split at hx
    · split at hx
      · rw [List.mem_append] at hx
        rcases hx with hx | hx
        · simp at hx; subst hx; exact h58
        · exact ih _ (by omega) x hx
      · rw [List.mem_append, List.mem_append] at hx
        rcases hx with hx | hx | hx
        · split at hx
          · rw [List.mem_singleton] at hx; subst hx; exact h58
          · simp at hx
        · exact digs_mem 16 (by omega) (fun x => (33 ≤ x.toNat ∧ x.toNat ≤ 126 ∧ x ≠ 35 ∧ x ≠ 47 ∧ x ≠ 63 ∧ x ≠ 64 ∧ x ≠ 92) ∧ x ≠ 93) (fun d hd => dgc_plain d (by omega)) _ _ (Nat.le_refl _) x hx
        · exact ih _ (by omega) x hx
    · simp at hx
theorem host_bytes {l h : List UInt8} {sp : Bool} (hp : parseS l sp = some h) : hostB h := by
  unfold parseS at hp
  split at hp
  · split at hp
    · cases hx : sixS ((l.drop 1).take (l.length - 2)) with
      | none => rw [hx] at hp; cases hp
      | some xs =>
        rw [hx] at hp
        simp only [Option.map_some, Option.some.injEq] at hp
        have hb : ∀ x ∈ text6S xs, _ := rest_bytes _ _ 8 0 (by omega)
        rw [← hp]
        refine ⟨fun x hx => ?_, .inl ⟨text6S xs, rfl, fun x hx => (hb x hx).2⟩⟩
        simp only [List.mem_cons, List.mem_append, List.not_mem_nil, or_false] at hx
        rcases hx with rfl | hx | rfl
        · decide
        · exact (hb x hx).1
        · decide
    · cases hp
  · have key : (∀ x ∈ h, badS x = false ∧ ctl x.toNat = false) → hostB h := fun k => ⟨fun x hx => (badless x (k x hx).1 (k x hx).2).1, .inr fun x hx => (badless x (k x hx).1 (k x hx).2).2⟩
    split at hp
    · apply key
      unfold namedS at hp
      split at hp
      · rename_i hc
        split at hp
        · cases hf : fourS (lower (unpercent l)) with
          | none => rw [hf] at hp; cases hp
          | some v =>
            rw [hf] at hp
            simp only [Option.map_some, Option.some.injEq] at hp
            intro x hx
            rw [← hp] at hx
            exact fine_bad x (form_facts x (text4_form v x hx)).2.2.2.1
        · simp only [Option.some.injEq] at hp
          rw [← hp]
          exact fun x hx => fine_bad x (List.all_eq_true.1 hc.1 x hx)
      · cases hp
    · split at hp
      · cases hp
      · rename_i hb
        simp only [Option.some.injEq] at hp
        apply key
        intro x hx
        rw [← hp] at hx
        have := percent_bytes l (fun y hy => by
          cases e : badS y
          · rfl
          · exact absurd (List.any_eq_true.2 ⟨y, hy, e⟩) hb) x hx
        exact ⟨this.2, this.1⟩
theorem special_host {l h : List UInt8} (hp : parseS l true = some h) : h ≠ [] := by
  unfold parseS at hp
  split at hp
  · split at hp
    · cases hx : sixS ((l.drop 1).take (l.length - 2)) with
      | none => rw [hx] at hp; cases hp
      | some xs =>
        rw [hx] at hp
        simp only [Option.map_some, Option.some.injEq] at hp
        rw [← hp]; simp
    · cases hp
  · rw [if_pos rfl] at hp
    unfold namedS at hp
    split at hp
    · rename_i hc
      split at hp
      · cases hf : fourS (lower (unpercent l)) with
        | none => rw [hf] at hp; cases hp
        | some v =>
          rw [hf] at hp
          simp only [Option.map_some, Option.some.injEq] at hp
          rw [← hp]; exact text4_ne v
      · simp only [Option.some.injEq] at hp
        rw [← hp]; exact hc.2.2
    · cases hp
/-! The port's numeral. -/
theorem dgc_val (d : Nat) (h : d < 10) : (dgc d).toNat = 48 + d := by
  have : ∀ n : Fin 10, (dgc n.val).toNat = 48 + n.val := by decide +kernel
  exact this ⟨d, h⟩
theorem int_digs : ∀ (n : Nat), n ≤ 1000000 → ∀ r, intF 0 (digs 10 n ++ r) = intF (n : Int) r := by
  intro n
  have step : ∀ (m d : Nat), d < 10 → m ≤ 1000000 → ∀ r, intF (m : Int) (dgc d :: r) = intF ((m * 10 + d : Nat) : Int) r := by
    intro m d hd hm r
    have hv := dgc_val d hd
    rw [intF, show isDigit (dgc d).toNat = true by unfold isDigit; rw [hv]; simp; omega, if_pos rfl]
    congr 1
    unfold intN
    rw [hv, if_neg (by omega)]
    omega
  induction n using Nat.strongRecOn with
  | _ n ih =>
    intro hn r
    by_cases h : n < 10
    · rw [digs_small h]
      have := step 0 n h (by omega) r
      simpa using this
    · rw [digs_step (by omega) (by omega), List.append_assoc, ih (n / 10) (by omega) (by omega)]
      rw [List.singleton_append, step _ _ (by omega) (by omega)]
      congr 1
      omega
theorem int_itoa (n : Nat) (h : n ≤ 1000000) : intS (Lib.itoa (n : Int)) = ((n : Int), true) := by
  have hit : Lib.itoa (n : Int) = digs 10 n := by rw [digs10]; unfold Lib.itoa; rw [if_neg (by omega), Int.toNat_natCast]
  have hi := int_digs n h []
  rw [List.append_nil] at hi
  rw [hit]
  unfold intS
  rw [hi, intF]
  simp only [Prod.mk.injEq, decide_eq_true_eq, true_and]
  exact List.length_pos_iff.2 (digs_ne 10 n)
theorem itoa_bytes (n : Nat) : ∀ x ∈ Lib.itoa (n : Int), 48 ≤ x.toNat ∧ x.toNat ≤ 57 := by
  have hit : Lib.itoa (n : Int) = digs 10 n := by rw [digs10]; unfold Lib.itoa; rw [if_neg (by omega), Int.toNat_natCast]
  rw [hit]
  refine digs_mem 10 (by omega) (fun x => 48 ≤ x.toNat ∧ x.toNat ≤ 57) (fun d hd => ?_) n n (Nat.le_refl _)
  rw [dgc_val d hd]; omega
theorem itoa_ne (n : Nat) : Lib.itoa (n : Int) ≠ [] := by
  have hit : Lib.itoa (n : Int) = digs 10 n := by rw [digs10]; unfold Lib.itoa; rw [if_neg (by omega), Int.toNat_natCast]
  rw [hit]; exact digs_ne 10 n
theorem itoa_len (n : Nat) (h : n ≤ 65535) : (Lib.itoa (n : Int)).length ≤ 5 := by
  have hit : Lib.itoa (n : Int) = digs 10 n := by rw [digs10]; unfold Lib.itoa; rw [if_neg (by omega), Int.toNat_natCast]
  rw [hit]; exact digs_len 10 (by omega) 5 n (by omega) (by omega)
end Go.Proofs.YtbpkkgaaeodimaaGreatDoor
namespace Go.Proofs.YtbpkkgaaeodimaaGreatDoor
open Go.RowKit

/-- What an address that was parsed is like. -/
structure Good (u : UrlS) : Prop where
  sch : ∀ r, schemeS (u.scheme ++ 58 :: r) = some (u.scheme, r)
  schB : ∀ x ∈ u.scheme, 33 ≤ x.toNat ∧ x.toNat ≤ 126 ∧ x ≠ 35
  schN : u.scheme ≠ []
  usr : ∀ x ∈ u.user, inSet 6 x.toNat = false
  pas : ∀ x ∈ u.pass, inSet 6 x.toNat = false
  hst : u.hasHost = true → parseS u.host (specialS u.scheme) = some u.host ∧ (u.host = [] → u.user = [] ∧ u.pass = [] ∧ u.port = -1)
  noh : u.hasHost = false → u.user = [] ∧ u.pass = [] ∧ u.host = [] ∧ u.port = -1
  prt : u.port = -1 ∨ ∃ n : Nat, u.port = (n : Int) ∧ n ≤ 65535 ∧ (n : Int) ≠ ownS u.scheme
  spc : specialS u.scheme = true → u.hasHost = true ∧ u.path ≠ [] ∧ ∀ p ∈ u.path, ∀ x ∈ p, x ≠ 92
  opq : u.opaq = true → u.hasHost = false ∧ specialS u.scheme = false ∧ ∃ p, u.path = [p] ∧ (∀ x ∈ p, inSet 1 x.toNat = false ∧ x ≠ 63 ∧ x ≠ 35) ∧ p.head? ≠ some 47 ∧ (u.hasQuery = false → u.hasFrag = false → ∀ x, p.getLast? = some x → 33 ≤ x.toNat)
  pth : u.opaq = false → (∀ p ∈ u.path, dotsS p = 0 ∧ ∀ x ∈ p, inSet 5 x.toNat = false ∧ x ≠ 47) ∧ (u.hasHost = false → u.path ≠ [])
  qry : (∀ x ∈ u.query, inSet (setQ u.scheme) x.toNat = false) ∧ (u.hasQuery = false → u.query = [])
  frg : (∀ x ∈ u.frag, inSet 2 x.toNat = false) ∧ (u.hasFrag = false → u.frag = [])

/-! Pieces of a text at a byte. -/
theorem tw_stop {p : UInt8 → Bool} : ∀ (a r : List UInt8), (∀ x ∈ a, p x = true) → (∀ x, r.head? = some x → p x = false) → (a ++ r).takeWhile p = a ∧ (a ++ r).dropWhile p = r
  | [], r, _, h => by
    cases r with
    | nil => exact ⟨rfl, rfl⟩
    | cons x t => rw [List.nil_append, List.takeWhile_cons, List.dropWhile_cons, h x rfl]; exact ⟨rfl, rfl⟩
  | x :: a, r, h, h2 => by
    obtain ⟨h3, h4⟩ := tw_stop a r (fun y hy => h y (List.mem_cons_of_mem _ hy)) h2
    rw [List.cons_append, List.takeWhile_cons, List.dropWhile_cons, h x List.mem_cons_self, if_pos rfl, if_pos rfl, h3, h4]
    exact ⟨rfl, rfl⟩
theorem contains_no {c : UInt8} {a : List UInt8} (h : ∀ x ∈ a, x ≠ c) : a.contains c = false := by
  rw [Bool.eq_false_iff]
  intro e
  exact h c (List.contains_iff_mem.1 e) rfl
theorem seg_app (c : UInt8) (a f : List UInt8) (b : Bool) (h : ∀ x ∈ a, x ≠ c) (hf : b = false → f = []) : segS c (a ++ (if b = true then c :: f else [])) = (a, f, b) := by
  have hp : ∀ x ∈ a, (x != c) = true := fun x hx => by simpa using h x hx
  cases b
  · rw [if_neg (by decide), List.append_nil, hf rfl]
    have := tw_stop a [] hp (by simp)
    rw [List.append_nil] at this
    unfold segS
    rw [this.1, this.2, contains_no h]; rfl
  · rw [if_pos rfl]
    obtain ⟨h1, h2⟩ := tw_stop (p := (· != c)) a (c :: f) hp (by simp)
    unfold segS
    rw [h1, h2]
    simp
theorem lastAt_no {l : List UInt8} (h : ∀ x ∈ l, x ≠ 64) : lastAt l = none := by
  unfold lastAt
  rw [contains_no h]; rfl
theorem lastAt_is (a b : List UInt8) (h : ∀ x ∈ b, x ≠ 64) : lastAt (a ++ 64 :: b) = some a.length := by
  unfold lastAt
  rw [if_pos (by simp), List.reverse_append, List.reverse_cons, List.append_assoc]
  have hp : ∀ x ∈ b.reverse, (x != 64) = true := fun x hx => by simpa using h x (List.mem_reverse.1 hx)
  obtain ⟨h1, _⟩ := tw_stop (p := (· != (64 : UInt8))) b.reverse ([64] ++ a.reverse) hp (by simp)
  rw [h1]
  simp
theorem colon_plain : ∀ (l r : List UInt8) (i : Nat) (o : Option Nat), (∀ x ∈ l, x ≠ 58 ∧ x ≠ 91) → colonF false i o (l ++ r) = colonF false (i + l.length) o r
  | [], r, i, o, _ => rfl
  | x :: l, r, i, o, h => by
    obtain ⟨h1, h2⟩ := h x List.mem_cons_self
    rw [List.cons_append, colonF, if_neg Bool.false_ne_true, if_neg h2, if_neg h1, colon_plain l r _ _ (fun y hy => h y (List.mem_cons_of_mem _ hy)), List.length_cons]
    congr 1; omega
theorem colon_in : ∀ (m r : List UInt8) (i : Nat) (o : Option Nat), (∀ x ∈ m, x ≠ 93) → colonF true i o (m ++ 93 :: r) = colonF false (i + m.length + 1) o r
  | [], r, i, o, _ => by rw [List.nil_append, colonF, if_pos rfl]; rfl
  | x :: m, r, i, o, h => by
    have h1 : (x != 93) = true := by simpa using h x List.mem_cons_self
    rw [List.cons_append, colonF, if_pos rfl, h1, colon_in m r _ _ (fun y hy => h y (List.mem_cons_of_mem _ hy)), List.length_cons]
    congr 1; omega
theorem colon_host {h : List UInt8} (hb : hostB h) (r : List UInt8) : colonF false 0 none (h ++ r) = colonF false h.length none r := by
  rcases hb.2 with ⟨m, rfl, hm⟩ | hn
  · rw [List.cons_append, colonF, if_neg Bool.false_ne_true, if_pos rfl, List.append_assoc]
    have := colon_in m r 1 none hm
    simp only [List.singleton_append]
    rw [Nat.zero_add, this]
    simp
    congr 1; omega
  · rw [colon_plain h r 0 none hn, Nat.zero_add]
theorem ported_none {h : List UInt8} (hb : hostB h) : portedS h = (h, []) := by
  have := colon_host hb []
  rw [List.append_nil] at this
  unfold portedS
  rw [this]; rfl
theorem ported_some {h d : List UInt8} (hb : hostB h) (hd : ∀ x ∈ d, x ≠ 58 ∧ x ≠ 91) : portedS (h ++ 58 :: d) = (h, d) := by
  have h1 := colon_host hb (58 :: d)
  have h2 := colon_plain d [] (h.length + 1) (some h.length) hd
  rw [List.append_nil] at h2
  have h3 : colonF false 0 none (h ++ 58 :: d) = some h.length := by
    rw [h1, colonF, if_neg Bool.false_ne_true, if_neg (by decide), if_pos rfl, h2]; rfl
  unfold portedS
  rw [h3]
  simp
/-- The text of a user, a password, a host and a port. -/
def portT (p : Int) : List UInt8 := if p ≠ -1 then 58 :: Lib.itoa p else []
def credT (u : UrlS) : List UInt8 := u.user ++ (if u.pass ≠ [] then 58 :: u.pass else []) ++ (if u.user ≠ [] ∨ u.pass ≠ [] then [64] else [])
def authT (u : UrlS) : List UInt8 := credT u ++ (u.host ++ portT u.port)
theorem port_bytes {u : UrlS} (g : Good u) : ∀ x ∈ portT u.port, 48 ≤ x.toNat ∧ x.toNat ≤ 58 := by
  intro x hx
  unfold portT at hx
  rcases g.prt with e | ⟨n, e, _, _⟩
  · rw [e, if_neg (by decide)] at hx; simp at hx
  · rw [e, if_pos (by omega), List.mem_cons] at hx
    rcases hx with rfl | hx
    · decide
    · have := itoa_bytes n x hx; omega
theorem u8_ne {x : UInt8} {c : UInt8} (h : x.toNat ≠ c.toNat) : x ≠ c := fun e => h (by rw [e])
theorem auth_text {u u0 : UrlS} (g : Good u) (hh : u.hasHost = true) (h0 : u0.scheme = u.scheme) (h1 : u0.user = []) (h2 : u0.pass = []) :
    authS u0 (authT u) = .ok { u0 with user := u.user, pass := u.pass, port := u.port, host := u.host, hasHost := true } := by
  obtain ⟨hp, he⟩ := g.hst hh
  have hb := host_bytes hp
  have hpb := port_bytes g
  have hn64 : ∀ x ∈ u.host ++ portT u.port, x ≠ 64 := by
    intro x hx
    rw [List.mem_append] at hx
    rcases hx with hx | hx
    · exact (hb.1 x hx).2.2.2.2.2.1
    · have := hpb x hx; exact u8_ne (by simp; omega)
  have hu : userS u0 (authT u) = ({ u0 with user := u.user, pass := u.pass }, u.host ++ portT u.port) := by
    unfold userS authT credT
    by_cases hc : u.user ≠ [] ∨ u.pass ≠ []
    · rw [if_pos hc]
      generalize hA : (u.user ++ if u.pass ≠ [] then 58 :: u.pass else []) = A
      rw [List.append_assoc, List.singleton_append, lastAt_is A _ hn64]
      simp only []
      have hs : (segS 58 A).1 = u.user ∧ (segS 58 A).2.1 = u.pass := by
        have := seg_app 58 u.user u.pass (decide (u.pass ≠ [])) (fun x hx => (set6 x (g.usr x hx)).2.2.1) (by simp)
        rw [show (if decide (u.pass ≠ []) = true then 58 :: u.pass else []) = (if u.pass ≠ [] then 58 :: u.pass else []) by simp, hA] at this
        rw [this]; exact ⟨rfl, rfl⟩
      rw [List.take_left' rfl, hs.1, hs.2, percent_fix 6 _ g.usr, percent_fix 6 _ g.pas]
      congr 1
      rw [List.drop_append]
      simp
    · rw [if_neg hc]
      rw [not_or] at hc
      have e1 : u.user = [] := by simpa using hc.1
      have e2 : u.pass = [] := by simpa using hc.2
      rw [e1, e2]
      simp only [ne_eq, not_true_eq_false, if_false, List.nil_append]
      rw [lastAt_no hn64]
      simp only []
      rw [show ({ u0 with user := [], pass := [] } : UrlS) = u0 by cases u0; simp only [] at h1 h2; rw [h1, h2]]
  have hpt : portedS (u.host ++ portT u.port) = (u.host, if u.port ≠ -1 then Lib.itoa u.port else []) ∧ portS u.scheme (if u.port ≠ -1 then Lib.itoa u.port else []) = some u.port ∧ (u.port = -1 → (if u.port ≠ -1 then Lib.itoa u.port else []) = []) := by
    unfold portT
    rcases g.prt with e | ⟨n, e, hn, ho⟩
    · rw [e, if_neg (by decide), if_neg (by decide), List.append_nil]
      exact ⟨ported_none hb, rfl, fun _ => rfl⟩
    · have hd := itoa_bytes n
      rw [e, if_pos (by omega), if_pos (by omega)]
      refine ⟨ported_some hb fun x hx => ?_, ?_, fun h => by omega⟩
      · have := hd x hx
        exact ⟨u8_ne (by simp; omega), u8_ne (by simp; omega)⟩
      · unfold portS
        rw [if_neg (itoa_ne n), int_itoa n (by omega), if_pos ⟨rfl, by simp only []; omega⟩]
        simp only []
        rw [if_neg ho]
  unfold authS
  simp only []
  rw [hu]
  simp only []
  rw [hpt.1]
  simp only []
  rw [h0, hpt.2.1]
  simp only []
  rw [hp]
  simp only []
  rw [if_neg]
  rintro ⟨q, r⟩
  obtain ⟨q1, q2, q3⟩ := he q
  rcases r with r | r | r
  · exact r q1
  · exact r q2
  · exact r (hpt.2.2 q3)
/-! The path. -/
def pathT (b : Bool) (l : List (List UInt8)) : List UInt8 := l.flatMap fun x => if b = true then x else 47 :: x
theorem cut_path : ∀ (l : List (List UInt8)) (x : List UInt8), (∀ p ∈ x :: l, ∀ y ∈ p, y ≠ 47) → cutS 47 [] (x ++ pathT false l) = x :: l
  | [], x, h => by
    have := cut_no 47 x [] (fun y hy e => h x List.mem_cons_self y hy (UInt8.toNat_inj.1 (by simp; omega)))
    unfold pathT
    simpa using this
  | z :: l, x, h => by
    have e : x ++ pathT false (z :: l) = x ++ 47 :: (z ++ pathT false l) := by unfold pathT; simp
    rw [e, cut_hit 47 47 (by decide) _ x [] (fun y hy e => h x List.mem_cons_self y hy (UInt8.toNat_inj.1 (by simp; omega)))]
    rw [cut_path l z (fun p hp => h p (List.mem_cons_of_mem _ hp))]
    rfl
theorem pathF_id : ∀ (l hv : List (List UInt8)), (∀ p ∈ l, dotsS p = 0 ∧ ∀ x ∈ p, inSet 5 x.toNat = false) → pathF hv l = hv ++ l
  | [], hv, _ => by rw [pathF, List.append_nil]
  | x :: l, hv, h => by
    obtain ⟨h1, h2⟩ := h x List.mem_cons_self
    rw [pathF, if_pos h1, percent_fix 5 x h2, pathF_id l _ (fun p hp => h p (List.mem_cons_of_mem _ hp)), List.append_assoc]; rfl
theorem path_text (l : List (List UInt8)) (h : ∀ p ∈ l, dotsS p = 0 ∧ ∀ x ∈ p, inSet 5 x.toNat = false ∧ x ≠ 47) (hne : l ≠ []) : pathS [] (pathT false l) = l := by
  cases l with
  | nil => exact absurd rfl hne
  | cons x r =>
    have e : slashless (pathT false (x :: r)) = x ++ pathT false r := by unfold slashless pathT; simp
    unfold pathS
    rw [e, cut_path r x (fun p hp y hy => ((h p hp).2 y hy).2), pathF_id _ _ (fun p hp => ⟨(h p hp).1, fun y hy => ((h p hp).2 y hy).1⟩)]
    rfl
theorem pathT_mem (b : Bool) : ∀ (l : List (List UInt8)), ∀ x ∈ pathT b l, x = 47 ∧ b = false ∨ ∃ p ∈ l, x ∈ p := by
  intro l x hx
  unfold pathT at hx
  rw [List.mem_flatMap] at hx
  obtain ⟨p, hp, hx⟩ := hx
  split at hx
  · exact .inr ⟨p, hp, hx⟩
  · rename_i hb
    rcases List.mem_cons.1 hx with h | h
    · exact .inl ⟨h, by simpa using hb⟩
    · exact .inr ⟨p, hp, h⟩
theorem pathT_head (l : List (List UInt8)) : (∃ t, pathT false l = 47 :: t) ∨ l = [] := by
  cases l with
  | nil => exact .inr rfl
  | cons x r => exact .inl ⟨x ++ pathT false r, by unfold pathT; simp⟩
def queryT (u : UrlS) : List UInt8 := if u.hasQuery = true then 63 :: u.query else []
theorem queryT_head (u : UrlS) : ∀ x, (queryT u).head? = some x → x = 63 := by
  intro x hx
  unfold queryT at hx
  split at hx
  · simpa using hx.symm
  · simp at hx
/-- A query that is read behind a text without its sign. -/
theorem query_text {u u0 : UrlS} (g : Good u) (h0 : u0.scheme = u.scheme) (p : List UInt8) (hp : ∀ x ∈ p, x ≠ 63) :
    (queryS u0 (p ++ queryT u)).1 = { u0 with hasQuery := u.hasQuery, query := u.query } ∧ aheadQ (p ++ queryT u) = p := by
  have h := seg_app 63 p u.query u.hasQuery hp g.qry.2
  have e : p ++ queryT u = p ++ (if u.hasQuery = true then 63 :: u.query else []) := rfl
  refine ⟨?_, ?_⟩
  · unfold queryS
    rw [e, h, h0, percent_fix _ _ g.qry.1]
  · rw [ahead_seg, e, h]
theorem rooted_text {u u0 : UrlS} (g : Good u) (ho : u.opaq = false) (h0 : u0.scheme = u.scheme) (hne : u.path = [] → specialS u.scheme = false) :
    rootedS u0 (pathT false u.path ++ queryT u) = { u0 with path := u.path, hasQuery := u.hasQuery, query := u.query } := by
  have hpq : ∀ x ∈ pathT false u.path, x ≠ 63 := by
    intro x hx
    rcases pathT_mem false _ x hx with ⟨rfl, _⟩ | ⟨p, hp, hx⟩
    · decide
    · exact (set5 x (((g.pth ho).1 p hp).2 x hx).1).2.1
  have hq := fun v (hv : v.scheme = u.scheme) => query_text (u0 := v) g hv (pathT false u.path) hpq
  unfold rootedS
  rw [(hq u0 h0).2, show specialS u0.scheme = specialS u.scheme by rw [h0]]
  by_cases he : u.path = []
  · rw [if_pos ⟨by rw [he]; rfl, hne he⟩, (hq _ (by exact h0)).1, he]
  · have hnn : pathT false u.path ≠ [] := by
      rcases pathT_head u.path with ⟨t, ht⟩ | h
      · rw [ht]; simp
      · exact absurd h he
    rw [if_neg (fun h => hnn h.1), (hq _ (by exact h0)).1, path_text _ (g.pth ho).1 he]
theorem slash_id : ∀ (a q : List UInt8), (∀ x ∈ a, x ≠ 92) → (∀ x, q.head? = some x → x = 63) → slashS (a ++ q) = a ++ q
  | [], q, _, h => by
    cases q with
    | nil => rfl
    | cons x r => rw [List.nil_append, slashS, if_pos (h x rfl)]
  | x :: a, q, h, h2 => by
    rw [List.cons_append, slashS]
    split
    · rfl
    · rw [if_neg (h x List.mem_cons_self), slash_id a q (fun y hy => h y (List.mem_cons_of_mem _ hy)) h2]
end Go.Proofs.YtbpkkgaaeodimaaGreatDoor
