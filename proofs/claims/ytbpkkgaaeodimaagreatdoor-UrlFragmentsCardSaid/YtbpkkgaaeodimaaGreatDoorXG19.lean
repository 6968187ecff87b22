import Derived.Test.YtbpkkgaaeodimaaGreatDoorXG18
namespace Go.Proofs.YtbpkkgaaeodimaaGreatDoor
open Go.RowKit

/-! What is parsed is good. -/
theorem letter_facts (x : UInt8) (h : letterB x = true ∨ restB x = true) : x ≠ 58 ∧ letterB (low x) = letterB x ∧ restB (low x) = restB x ∧ 33 ≤ (low x).toNat ∧ (low x).toNat ≤ 126 ∧ low x ≠ 35 := by
  have := u8_imp (p := fun x => !(letterB x || restB x) || (x != 58 && (letterB (low x) == letterB x) && (restB (low x) == restB x) && decide (33 ≤ (low x).toNat) && decide ((low x).toNat ≤ 126) && low x != 35)) (by decide +kernel) x
  have hb : (letterB x || restB x) = true := by rcases h with h | h <;> simp [h]
  simp only [hb, Bool.not_true, Bool.false_or, Bool.and_eq_true, bne_iff_ne, beq_iff_eq, decide_eq_true_eq] at this
  obtain ⟨⟨⟨⟨⟨h1, h2⟩, h3⟩, h4⟩, h5⟩, h6⟩ := this
  exact ⟨h1, h2, h3, h4, h5, h6⟩
def okS (b : Bool) : List UInt8 → Prop
  | [] => True
  | x :: t => (letterB x = true ∨ (b = false ∧ restB x = true)) ∧ okS false t
theorem ok_of : ∀ (l acc s r : List UInt8), schemeF acc l = some (s, r) → ∃ m, l = m ++ 58 :: r ∧ s = lower (acc ++ m) ∧ acc ++ m ≠ [] ∧ okS (acc.isEmpty) m
  | [], acc, s, r, h => by simp [schemeF] at h
  | c :: l, acc, s, r, h => by
    rw [schemeF] at h
    split at h
    · rename_i hc
      simp only [Option.some.injEq, Prod.mk.injEq] at h
      exact ⟨[], by rw [hc.1, h.2]; rfl, by rw [List.append_nil, h.1], by rw [List.append_nil]; exact hc.2, trivial⟩
    · split at h
      · rename_i hc
        obtain ⟨m, h1, h2, _, h4⟩ := ok_of l _ s r h
        refine ⟨c :: m, by rw [h1]; rfl, by rw [h2, List.append_assoc]; rfl, by simp, ?_, ?_⟩
        · rcases hc with hc | ⟨ha, hc⟩
          · exact .inl hc
          · right
            refine ⟨?_, hc⟩
            cases acc with
            | nil => exact absurd rfl ha
            | cons _ _ => rfl
        · have e : (acc ++ [c]).isEmpty = false := by cases acc <;> rfl
          rw [e] at h4
          exact h4
      · cases h
theorem ok_run (r : List UInt8) : ∀ (m acc : List UInt8), okS acc.isEmpty m → acc ++ m ≠ [] → schemeF acc (m ++ 58 :: r) = some (lower (acc ++ m), r)
  | [], acc, _, hn => by
    rw [List.append_nil] at hn ⊢
    rw [List.nil_append, schemeF, if_pos ⟨rfl, hn⟩]
  | x :: m, acc, h, hn => by
    have hx : letterB x = true ∨ (acc ≠ [] ∧ restB x = true) := by
      rcases h.1 with h1 | ⟨h1, h2⟩
      · exact .inl h1
      · refine .inr ⟨?_, h2⟩
        intro e; rw [e] at h1; cases h1
    have h58 : x ≠ 58 := (letter_facts x (hx.imp id (·.2))).1
    have e : (acc ++ [x]).isEmpty = false := by cases acc <;> rfl
    rw [List.cons_append, schemeF, if_neg (fun q => h58 q.1), if_pos hx, ok_run r m (acc ++ [x]) (by rw [e]; exact h.2) (by simp), List.append_assoc]
    rfl
theorem ok_low : ∀ (m : List UInt8) (b : Bool), okS b m → okS b (lower m) ∧ ∀ x ∈ lower m, 33 ≤ x.toNat ∧ x.toNat ≤ 126 ∧ x ≠ 35
  | [], _, _ => ⟨trivial, by simp [lower]⟩
  | x :: m, b, h => by
    obtain ⟨h1, h2⟩ := ok_low m false h.2
    obtain ⟨_, f2, f3, f4, f5, f6⟩ := letter_facts x (h.1.imp id (·.2))
    refine ⟨⟨?_, h1⟩, ?_⟩
    · show letterB (low x) = true ∨ (b = false ∧ restB (low x) = true)
      rw [f2, f3]; exact h.1
    · intro y hy
      have hy : y ∈ low x :: lower m := hy
      rcases List.mem_cons.1 hy with rfl | hy
      · exact ⟨f4, f5, f6⟩
      · exact h2 y hy
theorem lower_lower (l : List UInt8) : lower (lower l) = lower l := by
  unfold lower
  rw [List.map_map]
  exact List.map_congr_left fun x _ => low_low x
theorem scheme_good {x s r : List UInt8} (h : schemeS x = some (s, r)) : (∀ q, schemeS (s ++ 58 :: q) = some (s, q)) ∧ (∀ y ∈ s, 33 ≤ y.toNat ∧ y.toNat ≤ 126 ∧ y ≠ 35) ∧ s ≠ [] ∧ ∃ m, x = m ++ 58 :: r := by
  obtain ⟨m, h1, h2, h3, h4⟩ := ok_of _ _ _ _ h
  rw [List.nil_append] at h2 h3
  obtain ⟨o1, o2⟩ := ok_low m true h4
  have hne : lower m ≠ [] := by unfold lower; simpa using h3
  subst h2
  refine ⟨fun q => ?_, o2, hne, m, h1⟩
  have := ok_run q (lower m) [] o1 (by rw [List.nil_append]; exact hne)
  rw [List.nil_append, lower_lower] at this
  exact this
theorem dots_pct : ∀ (k : Nat) (l : List UInt8), l.length ≤ k → ∀ n, dotN (percent 5 l) = some n → dotN l = some n
  | _, [], _, n, h => h
  | 0, x :: r, h, _, _ => by simp at h
  | k + 1, x :: r, hk, n, h => by
    have hr : r.length ≤ k := by simpa using hk
    rw [percent] at h
    by_cases hi : inSet 5 x.toNat = true
    · rw [if_pos hi] at h
      have he := u8_imp (p := fun x => !inSet 5 x.toNat || ((esc x).length == 3 && (esc x).getD 0 0 == 37 && !((esc x).getD 1 0 == 50 && ((esc x).getD 2 0 == 101 || (esc x).getD 2 0 == 69)))) (by decide +kernel) x
      rw [hi] at he
      simp only [esc, List.length_cons, List.length_nil, List.getD_cons_zero, List.getD_cons_succ, Bool.not_true, Bool.false_or, Bool.and_eq_true, Bool.not_eq_true', beq_iff_eq] at he
      have he2 := he.2
      simp only [esc, List.cons_append, List.nil_append] at h
      rw [dotN.eq_def] at h
      split at h
      · rename_i e; cases e
      · rename_i e; simp at e
      · rename_i c t e
        simp only [List.cons.injEq, true_and] at e
        obtain ⟨e1, e2, _⟩ := e
        split at h
        · rename_i hc
          rw [e1, e2] at he2
          rcases hc with rfl | rfl <;> simp at he2
        · cases h
      · cases h
    · have hi' : inSet 5 x.toNat = false := by simpa using hi
      rw [if_neg hi, List.singleton_append] at h
      by_cases h46 : x = 46
      · subst h46
        have e1 : ∀ q, dotN (46 :: q) = (dotN q).map (· + 1) := fun q => by rw [dotN]
        rw [e1] at h ⊢
        obtain ⟨a, ha, rfl⟩ := Option.map_eq_some_iff.1 h
        rw [dots_pct k r hr a ha]; rfl
      · rw [dotN.eq_def] at h
        split at h
        · rename_i e; cases e
        · rename_i e; simp at e; exact absurd e.1 h46
        · rename_i c t e
          simp only [List.cons.injEq] at e
          obtain ⟨rfl, e⟩ := e
          split at h
          · rename_i hc
            match r, e, hr with
            | [], e, _ => simp [percent] at e
            | b :: q, e, hr =>
              rw [percent] at e
              by_cases hb : inSet 5 b.toNat = true
              · rw [if_pos hb] at e
                simp [esc] at e
              · rw [if_neg hb, List.singleton_append, List.cons.injEq] at e
                obtain ⟨rfl, e⟩ := e
                match q, e, hr with
                | [], e, _ => simp [percent] at e
                | d :: q2, e, hr =>
                  rw [percent] at e
                  by_cases hd : inSet 5 d.toNat = true
                  · rw [if_pos hd] at e
                    simp only [esc, List.cons_append, List.cons.injEq] at e
                    rcases hc with rfl | rfl
                    · exact absurd e.1 (by decide)
                    · exact absurd e.1 (by decide)
                  · rw [if_neg hd, List.singleton_append, List.cons.injEq] at e
                    obtain ⟨rfl, rfl⟩ := e
                    obtain ⟨a, ha, rfl⟩ := Option.map_eq_some_iff.1 h
                    have := dots_pct k q2 (by simp at hr; omega) a ha
                    rw [dotN.eq_def]
                    simp only []
                    rw [if_pos hc, this]; rfl
          · cases h
        · cases h
theorem dots_zero {x : List UInt8} (h : dotsS x = 0) : dotsS (percent 5 x) = 0 := by
  have hp := dots_pct _ x (Nat.le_refl _)
  unfold dotsS at h ⊢
  split
  · rename_i e; rw [hp 1 e] at h; cases h
  · rename_i e; rw [hp 2 e] at h; cases h
  · rfl
/-- Parts of a path. -/
def partB (b : Bool) (p : List UInt8) : Prop := dotsS p = 0 ∧ ∀ x ∈ p, inSet 5 x.toNat = false ∧ x ≠ 47 ∧ (b = true → x ≠ 92)
theorem safe_ne (x : UInt8) (h : safeB x = true) : x ≠ 47 ∧ x ≠ 92 ∧ x ≠ 63 ∧ x ≠ 35 ∧ 33 ≤ x.toNat := by
  have := u8_imp (p := fun x => !safeB x || (x != 47 && x != 92 && x != 63 && x != 35 && decide (33 ≤ x.toNat))) (by decide +kernel) x
  simp only [h, Bool.not_true, Bool.false_or, Bool.and_eq_true, bne_iff_ne, decide_eq_true_eq] at this
  obtain ⟨⟨⟨⟨h1, h2⟩, h3⟩, h4⟩, h5⟩ := this
  exact ⟨h1, h2, h3, h4, h5⟩
theorem part_nil (b : Bool) : partB b [] := ⟨rfl, by simp⟩
theorem path_good (b : Bool) : ∀ (ls hv : List (List UInt8)), (∀ p ∈ hv, partB b p) → (∀ p ∈ ls, ∀ x ∈ p, x ≠ 47 ∧ (b = true → x ≠ 92)) → ∀ p ∈ pathF hv ls, partB b p
  | [], hv, h, _ => h
  | x :: r, hv, h, hl => by
    rw [pathF]
    refine path_good b r _ ?_ (fun p hp => hl p (List.mem_cons_of_mem _ hp))
    have hd : ∀ p ∈ hv.dropLast, partB b p := fun p hp => h p (List.dropLast_subset _ hp)
    intro p hp
    split at hp
    · rename_i h0
      rw [List.mem_append, List.mem_singleton] at hp
      rcases hp with hp | rfl
      · exact h p hp
      · refine ⟨dots_zero h0, fun y hy => ⟨percent_out 5 x y hy, ?_⟩⟩
        rcases percent_mem 5 x y hy with ⟨hm, _⟩ | hs
        · exact hl x List.mem_cons_self y hm
        · exact ⟨(safe_ne y hs).1, fun _ => (safe_ne y hs).2.1⟩
    · split at hp
      · rw [List.mem_append, List.mem_singleton] at hp
        rcases hp with hp | rfl
        · split at hp
          · exact hd p hp
          · exact h p hp
        · exact part_nil b
      · split at hp
        · exact hd p hp
        · exact h p hp
theorem pathF_ne : ∀ (ls hv : List (List UInt8)), ls ≠ [] → pathF hv ls ≠ []
  | [], _, h => absurd rfl h
  | [x], hv, _ => by
    rw [pathF, pathF]
    split
    · simp
    · rw [if_pos rfl]; simp
  | x :: y :: r, hv, _ => by
    rw [pathF]
    exact pathF_ne (y :: r) _ (by simp)
theorem cut_no47 : ∀ (l acc : List UInt8), (∀ x ∈ acc, x ≠ 47) → ∀ p ∈ cutS 47 [] l ++ cutS 47 acc l, ∀ x ∈ p, x ≠ 47
  | [], acc, h, p, hp, x, hx => by
    simp [cutS] at hp
    rcases hp with rfl | rfl
    · simp at hx
    · exact h x hx
  | c :: l, acc, h, p, hp, x, hx => by
    have ih0 := fun a ha => cut_no47 l a ha
    rw [List.mem_append, cutS, cutS] at hp
    by_cases hc : (c.toNat : Int) = 47
    · rw [if_pos hc, if_pos hc] at hp
      rcases hp with hp | hp
      · rcases List.mem_cons.1 hp with rfl | hp
        · simp at hx
        · exact ih0 [] (by simp) p (List.mem_append_left _ hp) x hx
      · rcases List.mem_cons.1 hp with rfl | hp
        · exact h x hx
        · exact ih0 [] (by simp) p (List.mem_append_left _ hp) x hx
    · rw [if_neg hc, if_neg hc] at hp
      have hc47 : c ≠ 47 := fun e => hc (by rw [e]; rfl)
      rcases hp with hp | hp
      · refine ih0 ([] ++ [c]) (fun y hy => ?_) p (List.mem_append_right _ hp) x hx
        rw [List.nil_append, List.mem_singleton] at hy
        rw [hy]; exact hc47
      · refine ih0 (acc ++ [c]) (fun y hy => ?_) p (List.mem_append_right _ hp) x hx
        rw [List.mem_append, List.mem_singleton] at hy
        rcases hy with hy | hy
        · exact h y hy
        · rw [hy]; exact hc47
theorem pathS_good (b : Bool) (hv : List (List UInt8)) (l : List UInt8) (hh : ∀ p ∈ hv, partB b p) (h : b = true → ∀ x ∈ l, x ≠ 92) : (∀ p ∈ pathS hv l, partB b p) ∧ pathS hv l ≠ [] := by
  have hs : ∀ x ∈ slashless l, x ∈ l := by
    intro x hx
    unfold slashless at hx
    split at hx
    · exact List.mem_of_mem_drop hx
    · exact hx
  refine ⟨path_good b _ _ hh fun p hp x hx => ⟨cut_no47 (slashless l) [] (by simp) p (List.mem_append_left _ hp) x hx, fun hb => ?_⟩, pathF_ne _ _ (cutS_ne 47 _ _)⟩
  rcases cut_sub 47 (slashless l) [] p hp x hx with h1 | h1
  · simp at h1
  · exact h hb x (hs x h1)
theorem intF_ge : ∀ (l : List UInt8) (n v : Int), 0 ≤ n → intF n l = some v → 0 ≤ v
  | [], n, v, hn, h => by rw [intF] at h; injection h with h; omega
  | x :: r, n, v, hn, h => by
    rw [intF] at h
    split at h
    · rename_i hd
      refine intF_ge r _ v ?_ h
      unfold isDigit at hd
      simp only [decide_eq_true_eq] at hd
      unfold intN
      split <;> omega
    · cases h
theorem port_good {s p : List UInt8} {n : Int} (h : portS s p = some n) : (n = -1 ∨ ∃ k : Nat, n = (k : Int) ∧ k ≤ 65535 ∧ (k : Int) ≠ ownS s) ∧ (p = [] → n = -1) := by
  unfold portS at h
  split at h
  · simp only [Option.some.injEq] at h
    exact ⟨.inl h.symm, fun _ => h.symm⟩
  · rename_i hp
    split at h
    · rename_i hc
      simp only [Option.some.injEq] at h
      refine ⟨?_, fun e => absurd e hp⟩
      split at h
      · exact .inl h.symm
      · rename_i ho
        have hge : 0 ≤ (intS p).1 := by
          unfold intS
          cases hi : intF 0 p with
          | none => simp
          | some v => exact intF_ge p 0 v (by omega) hi
        refine .inr ⟨(intS p).1.toNat, by rw [← h]; omega, by omega, ?_⟩
        rw [Int.toNat_of_nonneg hge]
        exact ho
    · cases h
/-- What is known ahead of what stands behind a scheme. -/
structure Start (u : UrlS) : Prop where
  sch : ∀ r, schemeS (u.scheme ++ 58 :: r) = some (u.scheme, r)
  schB : ∀ x ∈ u.scheme, 33 ≤ x.toNat ∧ x.toNat ≤ 126 ∧ x ≠ 35
  schN : u.scheme ≠ []
  frg : (∀ x ∈ u.frag, inSet 2 x.toNat = false) ∧ (u.hasFrag = false → u.frag = [])
  rest : u.user = [] ∧ u.pass = [] ∧ u.host = [] ∧ u.hasHost = false ∧ u.opaq = false ∧ u.path = [] ∧ u.query = [] ∧ u.hasQuery = false
theorem query_good (s l : List UInt8) : (∀ x ∈ percent (setQ s) (segS 63 l).2.1, inSet (setQ s) x.toNat = false) ∧ ((segS 63 l).2.2 = false → percent (setQ s) (segS 63 l).2.1 = []) := by
  refine ⟨percent_out _ _, fun h => ?_⟩
  have h : l.contains 63 = false := h
  have : (segS 63 l).2.1 = [] := by
    unfold segS
    simp only []
    rw [(tw_all 63 l h).2]; rfl
  rw [this]; rfl
theorem auth_good {u v : UrlS} {a : List UInt8} (s : Start u) (h : authS u a = .ok v) :
    v.scheme = u.scheme ∧ v.frag = u.frag ∧ v.hasFrag = u.hasFrag ∧ v.opaq = u.opaq ∧ v.path = u.path ∧ v.query = u.query ∧ v.hasQuery = u.hasQuery ∧ v.hasHost = true ∧ (∀ x ∈ v.user, inSet 6 x.toNat = false) ∧ (∀ x ∈ v.pass, inSet 6 x.toNat = false) ∧
    (parseS v.host (specialS u.scheme) = some v.host ∧ (v.host = [] → v.user = [] ∧ v.pass = [] ∧ v.port = -1)) ∧ (v.port = -1 ∨ ∃ n : Nat, v.port = (n : Int) ∧ n ≤ 65535 ∧ (n : Int) ≠ ownS u.scheme) := by
  have hu : ∃ us ps, (userS u a).1 = { u with user := us, pass := ps } ∧ (∀ x ∈ us, inSet 6 x.toNat = false) ∧ (∀ x ∈ ps, inSet 6 x.toNat = false) := by
    unfold userS
    split
    · refine ⟨[], [], ?_, by simp, by simp⟩
      obtain ⟨r1, r2, _⟩ := s.rest
      show u = _
      cases u
      simp only [] at r1 r2
      rw [r1, r2]
    · exact ⟨_, _, rfl, percent_out _ _, percent_out _ _⟩
  obtain ⟨us, ps, hu, h6, h7⟩ := hu
  unfold authS at h
  simp only [] at h
  split at h
  · cases h
  · rename_i port hp
    obtain ⟨p1, p2⟩ := port_good hp
    split at h
    · cases h
    · rename_i hst hx
      split at h
      · cases h
      · rename_i hc
        simp only [Except.ok.injEq] at h
        subst h
        rw [hu] at hc ⊢
        refine ⟨rfl, rfl, rfl, rfl, rfl, rfl, rfl, rfl, h6, h7, ⟨parse_back hx, fun e => ?_⟩, p1⟩
        rw [not_and, not_or, not_or] at hc
        obtain ⟨c1, c2, c3⟩ := hc e
        exact ⟨by simpa using c1, by simpa using c2, p2 (by simpa using c3)⟩
theorem tw_mem {p : UInt8 → Bool} : ∀ (l : List UInt8), ∀ x ∈ l.takeWhile p, p x = true
  | [], x, h => by simp at h
  | c :: l, x, h => by
    rw [List.takeWhile_cons] at h
    split at h
    · rename_i hc
      rcases List.mem_cons.1 h with h | h
      · rw [h]; exact hc
      · exact tw_mem l x h
    · simp at h
theorem drop_ahead {p : UInt8 → Bool} (hp : p 63 = false) : ∀ (l : List UInt8), ∀ x ∈ aheadQ (l.dropWhile p), x ∈ aheadQ l
  | [], x, h => h
  | c :: l, x, h => by
    rw [List.dropWhile_cons] at h
    split at h
    · rename_i hc
      have hn : (c != 63) = true := by
        rw [bne_iff_ne]; intro e; rw [e, hp] at hc; cases hc
      have := drop_ahead hp l x h
      unfold aheadQ
      rw [List.takeWhile_cons, if_pos hn]
      exact List.mem_cons_of_mem _ this
    · exact h
theorem slash_ahead : ∀ (l : List UInt8), ∀ x ∈ aheadQ (slashS l), x ≠ 92
  | [], x, h => by simp [slashS, aheadQ] at h
  | c :: l, x, h => by
    rw [slashS] at h
    split at h
    · rename_i hc
      subst hc
      simp [aheadQ] at h
    · rename_i hc
      generalize hd : (if c = 92 then (47 : UInt8) else c) = d at h
      have hd92 : d ≠ 92 := by
        rw [← hd]
        split
        · decide
        · rename_i h92; exact h92
      unfold aheadQ at h
      rw [List.takeWhile_cons] at h
      split at h
      · rcases List.mem_cons.1 h with h | h
        · rw [h]; exact hd92
        · exact slash_ahead l x h
      · simp at h
theorem behind_good {u v : UrlS} {l : List UInt8} (s : Start u) (h92 : specialS u.scheme = true → ∀ x ∈ aheadQ l, x ≠ 92) (h : behindS u l = .ok v) : Good v := by
  unfold behindS at h
  split at h
  · cases h
  · rename_i y hy
    simp only [Except.ok.injEq] at h
    obtain ⟨e1, e2, e3, e4, e5, e6, e7, e8, e9, e10, e11, e12⟩ := auth_good s hy
    obtain ⟨r1, r2, r3, r4, r5, r6, r7, r8⟩ := s.rest
    have hb : (fun x => !stopB x) (63 : UInt8) = false := rfl
    have hpg := pathS_good (specialS u.scheme) [] (aheadQ (l.dropWhile fun x => !stopB x)) (by simp) (fun hs x hx => h92 hs x (drop_ahead hb l x hx))
    have hqg := query_good u.scheme (l.dropWhile fun x => !stopB x)
    generalize (l.dropWhile fun x => !stopB x) = m at *
    unfold rootedS at h
    rw [show specialS y.scheme = specialS u.scheme by rw [e1]] at h
    by_cases hc : aheadQ m = [] ∧ specialS u.scheme = false
    · rw [if_pos hc] at h
      subst h
      refine ⟨by simpa [queryS, e1] using s.sch, by simpa [queryS, e1] using s.schB, by simpa [queryS, e1] using s.schN, e9, e10, fun _ => by simpa [queryS, e1] using e11, fun q => by simp [queryS, e8] at q, by simpa [queryS, e1] using e12, fun q => ?_, fun q => ?_, fun _ => ⟨by simp [queryS], fun q => by simp [queryS, e8] at q⟩, ?_, ?_⟩
      · have q : specialS y.scheme = true := q
        rw [e1, hc.2] at q; cases q
      · have q : y.opaq = true := q
        rw [e4, r5] at q; cases q
      · show (∀ x ∈ percent (setQ y.scheme) (segS 63 m).2.1, inSet (setQ y.scheme) x.toNat = false) ∧ ((segS 63 m).2.2 = false → percent (setQ y.scheme) (segS 63 m).2.1 = [])
        rw [e1]; exact hqg
      · show (∀ x ∈ y.frag, inSet 2 x.toNat = false) ∧ (y.hasFrag = false → y.frag = [])
        rw [e2, e3]; exact s.frg
    · rw [if_neg hc] at h
      subst h
      refine ⟨by simpa [queryS, e1] using s.sch, by simpa [queryS, e1] using s.schB, by simpa [queryS, e1] using s.schN, e9, e10, fun _ => by simpa [queryS, e1] using e11, fun q => by simp [queryS, e8] at q, by simpa [queryS, e1] using e12, fun q => ⟨e8, hpg.2, fun p hp x hx => ?_⟩, fun q => ?_, fun _ => ⟨fun p hp => ?_, fun q => by simp [queryS, e8] at q⟩, ?_, ?_⟩
      · have q : specialS y.scheme = true := q
        rw [e1] at q
        exact ((hpg.1 p hp).2 x hx).2.2 q
      · have q : y.opaq = true := q
        rw [e4, r5] at q; cases q
      · exact ⟨(hpg.1 p hp).1, fun x hx => ⟨((hpg.1 p hp).2 x hx).1, ((hpg.1 p hp).2 x hx).2.1⟩⟩
      · show (∀ x ∈ percent (setQ y.scheme) (segS 63 m).2.1, inSet (setQ y.scheme) x.toNat = false) ∧ ((segS 63 m).2.2 = false → percent (setQ y.scheme) (segS 63 m).2.1 = [])
        rw [e1]; exact hqg
      · show (∀ x ∈ y.frag, inSet 2 x.toNat = false) ∧ (y.hasFrag = false → y.frag = [])
        rw [e2, e3]; exact s.frg
theorem percent_last (k : Int) : ∀ (l : List UInt8), (∀ x, l.getLast? = some x → 33 ≤ x.toNat) → ∀ x, (percent k l).getLast? = some x → 33 ≤ x.toNat
  | [], _, x, h => by simp [percent] at h
  | [c], hl, x, h => by
    rw [percent, percent, List.append_nil] at h
    split at h
    · exact (safe_ne x (esc_safe c x (List.mem_of_getLast? h))).2.2.2.2
    · simp at h; subst h; exact hl c rfl
  | c :: d :: r, hl, x, h => by
    rw [percent] at h
    have ih := percent_last k (d :: r) (fun y hy => hl y (by simpa using hy))
    rcases last_of h with h1 | ⟨h1, _⟩
    · refine ih x ?_
      rw [List.getLast?_append] at h
      cases hq : (percent k (d :: r)).getLast? with
      | none => rw [List.getLast?_eq_none_iff] at hq; rw [hq] at h1; simp at h1
      | some y => rw [hq] at h; simpa using h
    · rw [percent] at h1
      have := (List.append_eq_nil_iff.1 h1).1
      split at this <;> simp [esc] at this
theorem all_good {u v : UrlS} {l : List UInt8} (s : Start u) (h35 : ∀ x ∈ l, x ≠ 35) (hl : u.hasFrag = false → ∀ x, l.getLast? = some x → 33 ≤ x.toNat) (h : allS u l = .ok v) : Good v := by
  obtain ⟨r1, r2, r3, r4, r5, r6, r7, r8⟩ := s.rest
  by_cases hs : specialS u.scheme = true
  · rw [allS_special hs] at h
    exact behind_good s (fun _ x hx => slash_ahead l x (drop_ahead (by rfl) _ x hx)) h
  · have hs' : specialS u.scheme = false := by simpa using hs
    cases h2 : begins l [47, 47]
    · cases h1 : begins l [47]
      · rw [allS_opaq hs' h2 h1] at h
        simp only [Except.ok.injEq] at h
        subst h
        have hqg := query_good u.scheme l
        have h47 : l.head? ≠ some 47 := fun e => by rw [begins_one.2 e] at h1; cases h1
        have hmem : ∀ x ∈ aheadQ l, x ∈ l ∧ x ≠ 63 := fun x hx => ⟨(List.takeWhile_subset _) hx, by
          have := tw_mem _ x hx
          simpa using this⟩
        refine ⟨s.sch, s.schB, s.schN, by simp [queryS, r1], by simp [queryS, r2], fun q => ?_, fun _ => ⟨r1, r2, r3, rfl⟩, .inl rfl, fun q => ?_, fun _ => ⟨r4, hs', _, rfl, fun x hx => ?_, ?_, fun q1 q2 => ?_⟩, (fun q => by cases q), hqg, s.frg⟩
        · have q : u.hasHost = true := q
          rw [r4] at q; cases q
        · have q : specialS u.scheme = true := q
          rw [hs'] at q; cases q
        · refine ⟨percent_out 1 _ x hx, ?_⟩
          rcases percent_mem 1 _ x hx with ⟨hm, _⟩ | hsf
          · exact ⟨(hmem x hm).2, h35 x (hmem x hm).1⟩
          · exact ⟨(safe_ne x hsf).2.2.1, (safe_ne x hsf).2.2.2.1⟩
        · intro e
          cases ha : aheadQ l with
          | nil => rw [ha] at e; simp [percent] at e
          | cons c t =>
            rw [ha, percent] at e
            split at e
            · simp [esc] at e
            · simp at e
              exact h47 ((aheadQ_head 47 (by decide)).1 (by rw [ha, e]; rfl))
        · have q1 : l.contains 63 = false := q1
          have q2 : u.hasFrag = false := q2
          have ha : aheadQ l = l := (tw_all 63 l q1).1
          rw [ha]
          exact percent_last 1 l (hl q2)
      · rw [allS_one hs' h2 h1] at h
        simp only [Except.ok.injEq] at h
        subst h
        have hqg := query_good u.scheme l
        have h47 := begins_one.1 h1
        have hne : aheadQ l ≠ [] := by
          intro e
          have := (aheadQ_head (l := l) 47 (by decide)).2 h47
          rw [e] at this; cases this
        have hpg := pathS_good false [] (aheadQ l) (by simp) (fun q => by cases q)
        unfold rootedS
        rw [if_neg (fun q => hne q.1)]
        refine ⟨s.sch, s.schB, s.schN, by simp [queryS, r1], by simp [queryS, r2], fun q => ?_, fun _ => ⟨r1, r2, r3, rfl⟩, .inl rfl, fun q => ?_, fun q => ?_, fun _ => ⟨fun p hp => ?_, fun _ => hpg.2⟩, hqg, s.frg⟩
        · have q : u.hasHost = true := q
          rw [r4] at q; cases q
        · have q : specialS u.scheme = true := q
          rw [hs'] at q; cases q
        · have q : u.opaq = true := q
          rw [r5] at q; cases q
        · exact ⟨(hpg.1 p hp).1, fun x hx => ⟨((hpg.1 p hp).2 x hx).1, ((hpg.1 p hp).2 x hx).2.1⟩⟩
    · rw [allS_two hs' h2] at h
      exact behind_good s (fun q => by rw [hs'] at q; cases q) h
theorem frag_start (l : List UInt8) : (∀ x ∈ (fragS noUrl l).1.frag, inSet 2 x.toNat = false) ∧ ((fragS noUrl l).1.hasFrag = false → (fragS noUrl l).1.frag = []) := by
  refine ⟨percent_out _ _, fun h => ?_⟩
  have h : l.contains 35 = false := h
  show percent 2 (segS 35 l).2.1 = []
  have : (segS 35 l).2.1 = [] := by
    unfold segS
    simp only []
    rw [(tw_all 35 l h).2]; rfl
  rw [this]; rfl
theorem parseC_good {l : List UInt8} {u : UrlS} (hl : ∀ x, l.getLast? = some x → 33 ≤ x.toNat) (h : parseC l = .ok u) : Good u := by
  unfold parseC at h
  split at h
  · cases h
  · rename_i s r hs
    obtain ⟨g1, g2, g3, m, g4⟩ := scheme_good hs
    have e : (fragS noUrl l).2 = l.takeWhile (· != 35) := rfl
    have h35 : ∀ x ∈ l.takeWhile (· != 35), x ≠ 35 := fun x hx => by
      have := tw_mem _ x hx
      simpa using this
    refine all_good (u := { (fragS noUrl l).1 with scheme := s }) ⟨g1, g2, g3, frag_start l, rfl, rfl, rfl, rfl, rfl, rfl, rfl, rfl⟩ (fun x hx => h35 x ?_) (fun q x hx => ?_) h
    · rw [← e, g4]; simp [hx]
    · have q : l.contains 35 = false := q
      refine hl x ?_
      rw [← (tw_all 35 l q).1, ← e, g4, List.getLast?_append, List.getLast?_cons, hx]; rfl
theorem clean_last (l : List UInt8) : ∀ x, (cleanS l).getLast? = some x → 33 ≤ x.toNat := by
  intro x hx
  unfold cleanS trimS at hx
  generalize l.dropWhile blankB = m at hx
  unfold rstrip at hx
  rw [List.filter_reverse, List.getLast?_reverse] at hx
  cases hd : m.reverse.dropWhile blankB with
  | nil => rw [hd] at hx; simp at hx
  | cons c t =>
    have hc : blankB c = false := by
      have := List.head?_dropWhile_not blankB m.reverse
      rw [hd] at this
      simpa using this
    have h33 : 33 ≤ c.toNat := by
      unfold blankB at hc
      simp only [decide_eq_false_iff_not] at hc
      omega
    have hline : lineB c = false := by
      unfold lineB
      have a1 : c ≠ 9 := u8_ne (by simp; omega)
      have a2 : c ≠ 10 := u8_ne (by simp; omega)
      have a3 : c ≠ 13 := u8_ne (by simp; omega)
      simp [a1, a2, a3]
    rw [hd, List.filter_cons, if_pos (by rw [hline]; rfl)] at hx
    simp at hx
    subst hx
    exact h33
theorem url_good {l : List UInt8} {u : UrlS} (h : urlS l = .ok u) : Good u := by
  unfold urlS at h
  split at h
  · cases h
  · exact parseC_good (clean_last l) h
theorem port_len {u : UrlS} (g : Good u) : (Lib.itoa u.port).length ≤ 5 := by
  rcases g.prt with e | ⟨n, e, hn, _⟩
  · rw [e]; decide +kernel
  · rw [e]; exact itoa_len n hn
/-- W2: what was parsed, written and parsed again, is itself. -/
theorem url_again {l : List UInt8} {u : UrlS} (h : urlS l = .ok u) (hl : l.length ≤ 1300) : urlS (textS u) = .ok u := by
  have g := url_good h
  refine url_back g ?_
  have h1 := url_len h
  have h2 := text_len u
  have h3 := port_len g
  omega
end Go.Proofs.YtbpkkgaaeodimaaGreatDoor
namespace Go.Proofs.YtbpkkgaaeodimaaGreatDoor
open Go.RowKit

/-! UrlParts, UrlWhole, UrlFragments: in plain words. -/
theorem part_dot {u : UrlS} (g : Good u) (ho : u.opaq = false) : ∀ p ∈ u.path, p ≠ [46] ∧ p ≠ [46, 46] := by
  intro p hp
  have := ((g.pth ho).1 p hp).1
  exact ⟨fun e => by rw [e] at this; exact absurd this (by decide), fun e => by rw [e] at this; exact absurd this (by decide)⟩
theorem good_parts {u : UrlS} (g : Good u) :
    (specialS u.scheme = true → u.host ≠ [] ∧ u.path ≠ [] ∧ u.opaq = false) ∧ (u.port ≠ -1 → 0 ≤ u.port ∧ u.port ≤ 65535 ∧ u.port ≠ ownS u.scheme ∧ u.hasHost = true) ∧ (u.opaq = true → u.hasHost = false) := by
  refine ⟨fun hs => ?_, fun hp => ?_, fun ho => (g.opq ho).1⟩
  · obtain ⟨h1, h2, _⟩ := g.spc hs
    have := (g.hst h1).1
    rw [hs] at this
    exact ⟨special_host this, h2, not_opaq g h1⟩
  · have hh : u.hasHost = true := by
      cases e : u.hasHost
      · exact absurd (g.noh e).2.2.2 hp
      · rfl
    rcases g.prt with e | ⟨n, e, hn, ho⟩
    · exact absurd e hp
    · rw [e]; exact ⟨by omega, by omega, ho, hh⟩
/-- A text that is an address with an authority is joined to that. -/
theorem join_whole {l : List UInt8} {u base : UrlS} (h : urlS l = .ok u) (hl : l.length ≤ 1300) (hh : u.hasHost = true) : joinS (textS u) base = .ok u := by
  have g := url_good h
  have h1 := url_len h
  have h2 := text_len u
  have h3 := port_len g
  have hn : ∀ x ∈ u.scheme ++ 58 :: bodyT u, x ≠ 35 := by
    intro x hx
    rw [List.mem_append, List.mem_cons] at hx
    rcases hx with hx | rfl | hx
    · exact (g.schB x hx).2.2
    · decide
    · exact (body_bytes g x hx).2.2.1
  have hs := seg_app 35 (u.scheme ++ 58 :: bodyT u) u.frag u.hasFrag hn g.frg.2
  have e : (segS 35 (textS u)).1 = u.scheme ++ 58 :: bodyT u := by
    rw [text_body]
    unfold fragT
    rw [hs]
  unfold joinS
  rw [if_neg (by omega), text_clean g]
  simp only []
  rw [e, g.sch]
  simp only []
  rw [if_pos (.inr (.inr (by unfold bodyT; rw [if_pos hh]; rfl))), parseC_text g]
/-! A fragment is carried along. -/
def withF (b : Bool) (f : List UInt8) (u : UrlS) : UrlS := { u with hasFrag := b, frag := f }
theorem authS_frag (b : Bool) (f : List UInt8) (u : UrlS) (a : List UInt8) : authS (withF b f u) a = (authS u a).map (withF b f) := by
  have hu : (userS (withF b f u) a) = (withF b f (userS u a).1, (userS u a).2) := by
    unfold userS
    cases lastAt a <;> rfl
  unfold authS
  simp only []
  rw [hu]
  show (match portS u.scheme (portedS (userS u a).2).2 with
    | none => (Except.error 11 : Except Int UrlS)
    | some port => match parseS (portedS (userS u a).2).1 (specialS u.scheme) with
      | none => .error 10
      | some h => if h = [] ∧ ((userS u a).1.user ≠ [] ∨ (userS u a).1.pass ≠ [] ∨ (portedS (userS u a).2).2 ≠ []) then .error 10 else .ok { (withF b f (userS u a).1) with port := port, host := h, hasHost := true }) = _
  cases portS u.scheme (portedS (userS u a).2).2 with
  | none => rfl
  | some port =>
    simp only []
    cases parseS (portedS (userS u a).2).1 (specialS u.scheme) with
    | none => rfl
    | some h =>
      simp only []
      split <;> rfl
theorem rootedS_frag (b : Bool) (f : List UInt8) (u : UrlS) (l : List UInt8) : rootedS (withF b f u) l = withF b f (rootedS u l) := by
  unfold rootedS
  rw [show (withF b f u).scheme = u.scheme from rfl]
  split <;> rfl
theorem behindS_frag (b : Bool) (f : List UInt8) (u : UrlS) (l : List UInt8) : behindS (withF b f u) l = (behindS u l).map (withF b f) := by
  unfold behindS
  rw [authS_frag]
  cases authS u (l.takeWhile fun x => !stopB x) with
  | error e => rfl
  | ok v => exact congrArg Except.ok (rootedS_frag b f v _)
theorem allS_frag (b : Bool) (f : List UInt8) (u : UrlS) (l : List UInt8) : allS (withF b f u) l = (allS u l).map (withF b f) := by
  by_cases hs : specialS u.scheme = true
  · rw [allS_special hs, allS_special (u0 := withF b f u) hs, behindS_frag]
  · have hs' : specialS u.scheme = false := by simpa using hs
    cases h2 : begins l [47, 47]
    · cases h1 : begins l [47]
      · rw [allS_opaq hs' h2 h1, allS_opaq (u0 := withF b f u) hs' h2 h1]; rfl
      · rw [allS_one hs' h2 h1, allS_one (u0 := withF b f u) hs' h2 h1]
        exact congrArg Except.ok (rootedS_frag b f { u with port := -1 } l)
    · rw [allS_two hs' h2, allS_two (u0 := withF b f u) hs' h2, behindS_frag]
theorem parseC_frag (a F : List UInt8) (ha : ∀ x ∈ a, x ≠ 35) : parseC (a ++ 35 :: F) = (match schemeS a with
    | none => (.error 12 : Except Int UrlS)
    | some (s, r) => allS { noUrl with scheme := s } r).map (withF true (percent 2 F)) := by
  have hs := seg_app 35 a F true ha (by simp)
  rw [if_pos rfl] at hs
  have hf : fragS noUrl (a ++ 35 :: F) = (withF true (percent 2 F) noUrl, a) := by
    unfold fragS
    rw [hs]; rfl
  unfold parseC
  rw [hf]
  simp only []
  cases schemeS a with
  | none => rfl
  | some p =>
    obtain ⟨s, r⟩ := p
    exact allS_frag true (percent 2 F) { noUrl with scheme := s } r
theorem dw_app {p : UInt8 → Bool} {c : UInt8} (hc : p c = false) (r : List UInt8) : ∀ l, (l ++ c :: r).dropWhile p = l.dropWhile p ++ c :: r
  | [] => by rw [List.nil_append, List.dropWhile_cons, hc]; rfl
  | x :: l => by
    rw [List.cons_append, List.dropWhile_cons, List.dropWhile_cons]
    split
    · exact dw_app hc r l
    · rfl
theorem rstrip_app {p : UInt8 → Bool} {c : UInt8} (hc : p c = false) (a r : List UInt8) : rstrip p (a ++ c :: r) = a ++ c :: rstrip p r := by
  unfold rstrip
  rw [List.reverse_append, List.reverse_cons, List.append_assoc, List.singleton_append, dw_app hc, List.reverse_append, List.reverse_cons, List.reverse_reverse]
  simp
/-- A text with a fragment is cleaned. -/
theorem clean_frag (s f : List UInt8) : cleanS (s ++ 35 :: f) = (s.dropWhile blankB).filter (fun x => !lineB x) ++ 35 :: (rstrip blankB f).filter (fun x => !lineB x) := by
  unfold cleanS trimS
  rw [dw_app (by decide), rstrip_app (by decide), List.filter_append, List.filter_cons, if_pos (by decide)]
theorem frag_law (s f : List UInt8) (hs : ∀ x ∈ s, x ≠ 35) (hl : s.length + f.length ≤ 1000) :
    (∃ e, urlS (s ++ 35 :: f) = .error e ∧ urlS (s ++ [35]) = .error e) ∨ ∃ u v, urlS (s ++ 35 :: f) = .ok u ∧ urlS (s ++ [35]) = .ok v ∧ bareS u = bareS v ∧ joinS (35 :: f) v = .ok u ∧ u.hasFrag = true ∧ v.hasFrag = true ∧ v.frag = [] := by
  have hS : ∀ x ∈ (s.dropWhile blankB).filter (fun x => !lineB x), x ≠ 35 := fun x hx => hs x ((List.dropWhile_sublist _).subset (List.mem_filter.1 hx).1)
  have e1 := parseC_frag _ ((rstrip blankB f).filter (fun x => !lineB x)) hS
  have e2 := parseC_frag _ [] hS
  have c1 := clean_frag s f
  have c2 : cleanS (s ++ [35]) = (s.dropWhile blankB).filter (fun x => !lineB x) ++ [35] := clean_frag s []
  have u1 : urlS (s ++ 35 :: f) = parseC (cleanS (s ++ 35 :: f)) := by unfold urlS; rw [if_neg (by simp; omega)]
  have u2 : urlS (s ++ [35]) = parseC (cleanS (s ++ [35])) := by unfold urlS; rw [if_neg (by simp; omega)]
  rw [c1, e1] at u1
  rw [c2, e2] at u2
  generalize (match schemeS ((s.dropWhile blankB).filter (fun x => !lineB x)) with
    | none => (.error 12 : Except Int UrlS)
    | some (s, r) => allS { noUrl with scheme := s } r) = o at u1 u2
  cases o with
  | error e => exact .inl ⟨e, u1, u2⟩
  | ok y =>
    refine .inr ⟨_, _, u1, u2, rfl, ?_, rfl, rfl, rfl⟩
    have cj : cleanS (35 :: f) = 35 :: (rstrip blankB f).filter (fun x => !lineB x) := clean_frag [] f
    generalize (rstrip blankB f).filter (fun x => !lineB x) = F at cj ⊢
    have hsg : segS 35 (35 :: F) = ([], F, true) := by
      have := seg_app 35 [] F true (by simp) (by simp)
      rw [if_pos rfl] at this
      exact this
    unfold joinS
    rw [if_neg (by simp; omega), cj]
    simp only []
    rw [hsg]
    show relS (35 :: F) _ = _
    unfold relS fragS
    rw [hsg]
    simp only []
    by_cases ho : (withF true (percent 2 []) y).opaq = true
    · rw [if_pos ho, if_neg (by simp)]; rfl
    · rw [if_neg ho]
      unfold joinedS
      simp only []
      have e : (if specialS (withF true (percent 2 []) y).scheme = true then slashS [] else []) = ([] : List UInt8) := by split <;> rfl
      rw [e, if_neg (by decide), if_neg (by decide), if_pos rfl]; rfl
end Go.Proofs.YtbpkkgaaeodimaaGreatDoor
