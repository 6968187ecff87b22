import Derived.Test.YtbpkkgaaeodimaaGreatDoorXG19
import Derived.Test.YtbpkkgaaeodimaaGreatDoorXG14
import Derived.Laws.OwnMore
namespace Go.Proofs.YtbpkkgaaeodimaaGreatDoor
open Go.RowKit

/-! UrlOwn, UrlDots, UrlSlashes: in plain words. -/
def specials : List (List UInt8) := [httpS, httpsS, wsS, wssS, ftpS]
theorem special_scheme {s : List UInt8} (hs : s ∈ specials) : (∀ q, schemeS (s ++ 58 :: q) = some (s, q)) ∧ (∀ y ∈ s, 33 ≤ y.toNat ∧ y.toNat ≤ 126 ∧ y ≠ 35) ∧ s ≠ [] ∧ specialS s = true ∧ s.length ≤ 5 := by
  have key : schemeS (s ++ 58 :: []) = some (s, []) ∧ specialS s = true ∧ s.length ≤ 5 := by
    simp only [specials, List.mem_cons, List.not_mem_nil, or_false] at hs
    rcases hs with rfl | rfl | rfl | rfl | rfl <;> decide +kernel
  obtain ⟨h1, h2, h3, _⟩ := scheme_good key.1
  exact ⟨h1, h2, h3, key.2.1, key.2.2⟩
theorem noUrl_frag (l : List UInt8) (h : ∀ x ∈ l, x ≠ 35) : fragS noUrl l = (noUrl, l) := by
  have := seg_app 35 l [] false h (fun _ => rfl)
  rw [if_neg (by decide), List.append_nil] at this
  unfold fragS
  rw [this]; rfl
/-- A text of a special scheme, of plain bytes. -/
theorem url_special {s B : List UInt8} (hs : s ∈ specials) (hb : ∀ x ∈ B, 33 ≤ x.toNat ∧ x ≠ 35) (hl : B.length ≤ 4000) :
    urlS (s ++ 58 :: B) = behindS { noUrl with scheme := s } ((slashS B).dropWhile (· == 47)) := by
  obtain ⟨s1, s2, s3, s4, s5⟩ := special_scheme hs
  have hall : ∀ x ∈ s ++ 58 :: B, 33 ≤ x.toNat ∧ x ≠ 35 := by
    intro x hx
    rw [List.mem_append, List.mem_cons] at hx
    rcases hx with hx | rfl | hx
    · exact ⟨(s2 x hx).1, (s2 x hx).2.2⟩
    · decide
    · exact hb x hx
  have hc : cleanS (s ++ 58 :: B) = s ++ 58 :: B := clean_id (fun x hx => by have := (hall x hx).1; omega) (fun x hx => (hall x (List.mem_of_head? hx)).1) (fun x hx => (hall x (List.mem_of_getLast? hx)).1)
  unfold urlS
  rw [if_neg (by simp; omega), hc]
  unfold parseC
  rw [noUrl_frag _ (fun x hx => (hall x hx).2)]
  simp only []
  rw [s1]
  simp only []
  exact allS_special s4
theorem h_host : parseS [104] true = some [104] := by decide +kernel
theorem h_bytes : hostB [104] := host_bytes h_host
def hUrl (s : List UInt8) (port : Int) (path : List (List UInt8)) : UrlS := ⟨s, [], [], [104], true, port, false, path, [], [], false, false⟩
theorem auth_h {s : List UInt8} (hs : specialS s = true) : authS { noUrl with scheme := s } [104] = .ok (hUrl s (-1) []) := by
  unfold authS userS
  rw [lastAt_no (by decide)]
  simp only []
  rw [ported_none h_bytes]
  show (match portS s [] with
    | none => (Except.error 11 : Except Int UrlS)
    | some port => match parseS [104] (specialS s) with
      | none => .error 10
      | some h => if h = [] ∧ (noUrl.user ≠ [] ∨ noUrl.pass ≠ [] ∨ ([] : List UInt8) ≠ []) then .error 10 else .ok { noUrl with scheme := s, port := port, host := h, hasHost := true }) = _
  rw [hs, h_host, show portS s [] = some (-1) from rfl]
  rfl
theorem auth_hp {s P : List UInt8} (hs : specialS s = true) (hP : ∀ x ∈ P, 48 ≤ x.toNat ∧ x.toNat ≤ 57) : authS { noUrl with scheme := s } (104 :: 58 :: P) = match portS s P with
    | none => .error 11
    | some n => .ok (hUrl s n []) := by
  have h64 : ∀ x ∈ 104 :: 58 :: P, x ≠ 64 := by
    intro x hx
    simp only [List.mem_cons] at hx
    rcases hx with rfl | rfl | hx
    · decide
    · decide
    · have := hP x hx; exact u8_ne (by simp; omega)
  unfold authS userS
  rw [lastAt_no h64]
  simp only []
  have hp := ported_some h_bytes (d := P) (fun x hx => by have := hP x hx; exact ⟨u8_ne (by simp; omega), u8_ne (by simp; omega)⟩)
  rw [List.singleton_append] at hp
  rw [hp]
  show (match portS s P with
    | none => (Except.error 11 : Except Int UrlS)
    | some port => match parseS [104] (specialS s) with
      | none => .error 10
      | some h => if h = [] ∧ (noUrl.user ≠ [] ∨ noUrl.pass ≠ [] ∨ P ≠ []) then .error 10 else .ok { noUrl with scheme := s, port := port, host := h, hasHost := true }) = _
  rw [hs, h_host]
  cases portS s P with
  | none => rfl
  | some n =>
    simp only []
    rw [if_neg (by simp)]
    rfl
theorem rooted_h (s p : List UInt8) (n : Int) (hs : specialS s = true) (hp : ∀ x ∈ p, x ≠ 63) : rootedS (hUrl s n []) p = hUrl s n (pathS [] p) := by
  have h := seg_app 63 p [] false hp (fun _ => rfl)
  rw [if_neg (by decide), List.append_nil] at h
  unfold rootedS
  rw [show specialS (hUrl s n []).scheme = true from hs, if_neg (by simp), ahead_seg, h]
  unfold queryS
  rw [h]; rfl
/-- An address with a host of one letter, a port and a path. -/
theorem url_hp {s P p : List UInt8} (hs : s ∈ specials) (hP : ∀ x ∈ P, 48 ≤ x.toNat ∧ x.toNat ≤ 57) (hp : ∀ x ∈ p, 33 ≤ x.toNat ∧ x ≠ 35 ∧ x ≠ 63 ∧ x ≠ 92) (hl : P.length + p.length ≤ 3000) :
    urlS (s ++ [58, 47, 47, 104, 58] ++ P ++ 47 :: p) = match portS s P with
      | none => .error 11
      | some n => .ok (hUrl s n (pathS [] (47 :: p))) := by
  have e : s ++ [58, 47, 47, 104, 58] ++ P ++ 47 :: p = s ++ 58 :: (47 :: 47 :: ((104 :: 58 :: P) ++ 47 :: p)) := by simp
  have hP2 : ∀ x ∈ 104 :: 58 :: P, 33 ≤ x.toNat ∧ x ≠ 35 ∧ x ≠ 63 ∧ x ≠ 92 ∧ x ≠ 47 := by
    intro x hx
    simp only [List.mem_cons] at hx
    rcases hx with rfl | rfl | hx
    · decide
    · decide
    · have := hP x hx
      exact ⟨by omega, u8_ne (by simp; omega), u8_ne (by simp; omega), u8_ne (by simp; omega), u8_ne (by simp; omega)⟩
  have hB : ∀ x ∈ 47 :: 47 :: ((104 :: 58 :: P) ++ 47 :: p), 33 ≤ x.toNat ∧ x ≠ 35 ∧ x ≠ 92 := by
    intro x hx
    rw [List.mem_cons, List.mem_cons, List.mem_append, List.mem_cons (a := x) (b := 47)] at hx
    rcases hx with rfl | rfl | hx | rfl | hx
    · decide
    · decide
    · obtain ⟨a, b, _, c, _⟩ := hP2 x hx; exact ⟨a, b, c⟩
    · decide
    · obtain ⟨a, b, _, c⟩ := hp x hx; exact ⟨a, b, c⟩
  have hsl : slashS (47 :: 47 :: ((104 :: 58 :: P) ++ 47 :: p)) = 47 :: 47 :: ((104 :: 58 :: P) ++ 47 :: p) := by
    have := slash_id (47 :: 47 :: ((104 :: 58 :: P) ++ 47 :: p)) [] (fun x hx => (hB x hx).2.2) (by simp)
    rw [List.append_nil] at this
    exact this
  have hd : (47 :: 47 :: ((104 :: 58 :: P) ++ 47 :: p)).dropWhile (· == (47 : UInt8)) = (104 :: 58 :: P) ++ 47 :: p := by simp
  obtain ⟨t1, t2⟩ := tw_stop (p := fun x => !stopB x) (104 :: 58 :: P) (47 :: p) (fun x hx => by
    obtain ⟨_, _, h1, _, h2⟩ := hP2 x hx
    simp [stopB, h1, h2]) (fun x hx => by simp at hx; rw [← hx]; rfl)
  obtain ⟨_, _, _, h4, _⟩ := special_scheme hs
  rw [e, url_special hs (fun x hx => ⟨(hB x hx).1, (hB x hx).2.1⟩) (by simp; omega), hsl, hd]
  unfold behindS
  rw [t1, t2, auth_hp h4 hP]
  cases portS s P with
  | none => rfl
  | some n =>
    simp only []
    rw [rooted_h s _ n h4 (fun x hx => by
      rcases List.mem_cons.1 hx with rfl | hx
      · decide
      · exact (hp x hx).2.2.1)]
/-- The same without a port, behind slashes of either kind. -/
theorem url_h {s S p : List UInt8} (c : UInt8) (hc : c = 47 ∨ c = 92) (hs : s ∈ specials) (hS : ∀ x ∈ S, x = 47 ∨ x = 92) (hp : ∀ x ∈ p, 33 ≤ x.toNat ∧ x ≠ 35 ∧ x ≠ 63 ∧ x ≠ 92) (hl : S.length + p.length ≤ 3000) :
    urlS (s ++ [58] ++ S ++ 104 :: c :: p) = .ok (hUrl s (-1) (pathS [] (47 :: p))) := by
  have e : s ++ [58] ++ S ++ 104 :: c :: p = s ++ 58 :: (S ++ 104 :: c :: p) := by simp
  have hB : ∀ x ∈ S ++ 104 :: c :: p, 33 ≤ x.toNat ∧ x ≠ 35 := by
    intro x hx
    rw [List.mem_append, List.mem_cons, List.mem_cons] at hx
    rcases hx with hx | rfl | rfl | hx
    · rcases hS x hx with rfl | rfl <;> decide
    · decide
    · rcases hc with rfl | rfl <;> decide
    · exact ⟨(hp x hx).1, (hp x hx).2.1⟩
  have hsl : ∀ S : List UInt8, (∀ x ∈ S, x = 47 ∨ x = 92) → (slashS (S ++ 104 :: c :: p)).dropWhile (· == (47 : UInt8)) = 104 :: 47 :: p := by
    intro S
    induction S with
    | nil =>
      intro _
      have hpp : slashS p = p := by
        have := slash_id p [] (fun x hx => (hp x hx).2.2.2) (by simp)
        rw [List.append_nil] at this
        exact this
      rcases hc with rfl | rfl <;> simp [slashS, hpp]
    | cons x S ih =>
      intro h
      have h1 := ih (fun y hy => h y (List.mem_cons_of_mem _ hy))
      rcases h x List.mem_cons_self with rfl | rfl <;> simp [slashS, h1]
  obtain ⟨t1, t2⟩ := tw_stop (p := fun x => !stopB x) [104] (47 :: p) (by decide) (fun x hx => by simp at hx; rw [← hx]; rfl)
  rw [List.singleton_append] at t1 t2
  obtain ⟨_, _, _, h4, _⟩ := special_scheme hs
  rw [e, url_special hs hB (by simp; omega), hsl S hS]
  unfold behindS
  rw [t1, t2, auth_h h4]
  simp only []
  rw [rooted_h s _ (-1) h4 (fun x hx => by
    rcases List.mem_cons.1 hx with rfl | hx
    · decide
    · exact (hp x hx).2.2.1)]
theorem h_text (s : List UInt8) (path : List (List UInt8)) : textS (hUrl s (-1) path) = s ++ [58, 47, 47, 104] ++ pathT false path := by
  rw [text_body]
  unfold bodyT authT credT portT dotT queryT fragT hUrl
  simp
/-! Letters. -/
def smallB (x : UInt8) : Bool := decide (97 ≤ x.toNat) && decide (x.toNat ≤ 122)
theorem small_facts (x : UInt8) (h : smallB x = true) : 33 ≤ x.toNat ∧ x ≠ 35 ∧ x ≠ 63 ∧ x ≠ 92 ∧ x ≠ 47 ∧ x ≠ 46 ∧ x ≠ 37 ∧ inSet 5 x.toNat = false := by
  have := u8_imp (p := fun x => !smallB x || (decide (33 ≤ x.toNat) && x != 35 && x != 63 && x != 92 && x != 47 && x != 46 && x != 37 && !inSet 5 x.toNat)) (by decide +kernel) x
  simp only [h, Bool.not_true, Bool.false_or, Bool.and_eq_true, bne_iff_ne, decide_eq_true_eq, Bool.not_eq_true'] at this
  obtain ⟨⟨⟨⟨⟨⟨⟨h1, h2⟩, h3⟩, h4⟩, h5⟩, h6⟩, h7⟩, h8⟩ := this
  exact ⟨h1, h2, h3, h4, h5, h6, h7, h8⟩
theorem small_part {a : List UInt8} (h : ∀ x ∈ a, smallB x = true) (hn : a ≠ []) : dotsS a = 0 ∧ percent 5 a = a ∧ ∀ x ∈ a, (x.toNat : Int) ≠ 47 := by
  refine ⟨?_, percent_fix 5 a fun x hx => (small_facts x (h x hx)).2.2.2.2.2.2.2, fun x hx e => (small_facts x (h x hx)).2.2.2.2.1 (UInt8.toNat_inj.1 (by simp; omega))⟩
  cases a with
  | nil => exact absurd rfl hn
  | cons x r =>
    obtain ⟨_, _, _, _, _, h6, h7, _⟩ := small_facts x (h x List.mem_cons_self)
    have : dotN (x :: r) = none := by
      rw [dotN.eq_def]
      split
      · rename_i e; cases e
      · rename_i e; simp at e; exact absurd e.1 h6
      · rename_i e; simp at e; exact absurd e.1 h7
      · rfl
    unfold dotsS
    rw [this]
theorem slash_path (p : List UInt8) : pathS [] (47 :: p) = pathF [] (cutS 47 [] p) := by
  unfold pathS slashless
  simp
theorem cut_at (a r : List UInt8) (h : ∀ x ∈ a, (x.toNat : Int) ≠ 47) : cutS 47 [] (a ++ 47 :: r) = a :: cutS 47 [] r := by
  have := cut_hit 47 47 (by decide) r a [] h
  rw [List.nil_append] at this
  exact this
theorem cut_end (a : List UInt8) (h : ∀ x ∈ a, (x.toNat : Int) ≠ 47) : cutS 47 [] a = [a] := by
  have := cut_no 47 a [] h
  rw [List.nil_append] at this
  exact this
theorem dot_0 {b : List UInt8} (hb : ∀ x ∈ b, smallB x = true) (hb0 : b ≠ []) : pathS [] (47 :: b) = [b] := by
  obtain ⟨b1, b2, b3⟩ := small_part hb hb0
  rw [slash_path, cut_end b b3]
  simp [pathF, b1, b2]
theorem dot_1 {b : List UInt8} (hb : ∀ x ∈ b, smallB x = true) (hb0 : b ≠ []) : pathS [] (47 :: ([46, 47] ++ b)) = [b] := by
  obtain ⟨b1, b2, b3⟩ := small_part hb hb0
  rw [slash_path, show [46, 47] ++ b = [46] ++ 47 :: b from rfl, cut_at _ _ (by decide), cut_end b b3]
  simp [pathF, b1, b2, show dotsS [46] = 1 from rfl]
theorem dot_4 {b : List UInt8} (hb : ∀ x ∈ b, smallB x = true) (hb0 : b ≠ []) : pathS [] (47 :: ([46, 46, 47, 46, 46, 47] ++ b)) = [b] := by
  obtain ⟨b1, b2, b3⟩ := small_part hb hb0
  rw [slash_path, show [46, 46, 47, 46, 46, 47] ++ b = [46, 46] ++ 47 :: ([46, 46] ++ 47 :: b) from rfl, cut_at _ _ (by decide), cut_at _ _ (by decide), cut_end b b3]
  simp [pathF, b1, b2, show dotsS [46, 46] = 2 from rfl]
theorem dot_5 {b : List UInt8} (hb : ∀ x ∈ b, smallB x = true) (hb0 : b ≠ []) : pathS [] (47 :: ([37, 50, 101, 47] ++ b)) = [b] := by
  obtain ⟨b1, b2, b3⟩ := small_part hb hb0
  rw [slash_path, show [37, 50, 101, 47] ++ b = [37, 50, 101] ++ 47 :: b from rfl, cut_at _ _ (by decide), cut_end b b3]
  simp [pathF, b1, b2, show dotsS [37, 50, 101] = 1 from rfl]
theorem dot_2 {a b : List UInt8} (ha : ∀ x ∈ a, smallB x = true) (ha0 : a ≠ []) (hb : ∀ x ∈ b, smallB x = true) (hb0 : b ≠ []) : pathS [] (47 :: (a ++ [47, 46, 46, 47] ++ b)) = [b] := by
  obtain ⟨a1, a2, a3⟩ := small_part ha ha0
  obtain ⟨b1, b2, b3⟩ := small_part hb hb0
  rw [slash_path, show a ++ [47, 46, 46, 47] ++ b = a ++ 47 :: ([46, 46] ++ 47 :: b) by simp, cut_at _ _ a3, cut_at _ _ (by decide), cut_end b b3]
  simp [pathF, a1, a2, b1, b2, show dotsS [46, 46] = 2 from rfl]
theorem dot_3 {a b : List UInt8} (ha : ∀ x ∈ a, smallB x = true) (ha0 : a ≠ []) (hb : ∀ x ∈ b, smallB x = true) (hb0 : b ≠ []) : pathS [] (47 :: (a ++ [47, 37, 50, 69, 37, 50, 101, 47] ++ b)) = [b] := by
  obtain ⟨a1, a2, a3⟩ := small_part ha ha0
  obtain ⟨b1, b2, b3⟩ := small_part hb hb0
  rw [slash_path, show a ++ [47, 37, 50, 69, 37, 50, 101, 47] ++ b = a ++ 47 :: ([37, 50, 69, 37, 50, 101] ++ 47 :: b) by simp, cut_at _ _ a3, cut_at _ _ (by decide), cut_end b b3]
  simp [pathF, a1, a2, b1, b2, show dotsS [37, 50, 69, 37, 50, 101] = 2 from rfl]
theorem dot_6 {a b : List UInt8} (ha : ∀ x ∈ a, smallB x = true) (ha0 : a ≠ []) (hb : ∀ x ∈ b, smallB x = true) (hb0 : b ≠ []) : pathS [] (47 :: (a ++ [47] ++ b ++ [47, 46, 46])) = [a, []] := by
  obtain ⟨a1, a2, a3⟩ := small_part ha ha0
  obtain ⟨b1, b2, b3⟩ := small_part hb hb0
  rw [slash_path, show a ++ [47] ++ b ++ [47, 46, 46] = a ++ 47 :: (b ++ 47 :: [46, 46]) by simp, cut_at _ _ a3, cut_at _ _ b3, cut_end _ (by decide)]
  simp [pathF, a1, a2, b1, b2, show dotsS [46, 46] = 2 from rfl]
theorem dot_7 {a : List UInt8} (ha : ∀ x ∈ a, smallB x = true) (ha0 : a ≠ []) : pathS [] (47 :: (a ++ [47])) = [a, []] := by
  obtain ⟨a1, a2, a3⟩ := small_part ha ha0
  rw [slash_path, show a ++ [47] = a ++ 47 :: [] from rfl, cut_at _ _ a3, cut_end _ (by simp)]
  simp [pathF, a1, a2, show dotsS [] = 0 from rfl, show percent 5 [] = [] from rfl]
/-! Slashes of either kind, as many as one likes. -/
def slashL (n : Nat) (back : Bool) : List UInt8 := (List.range n).map fun i => if back = true ∧ i % 2 = 0 then 92 else 47
theorem slashL_mem (n : Nat) (back : Bool) : ∀ x ∈ slashL n back, x = 47 ∨ x = 92 := by
  intro x hx
  unfold slashL at hx
  rw [List.mem_map] at hx
  obtain ⟨i, _, rfl⟩ := hx
  split
  · exact .inr rfl
  · exact .inl rfl
def textO (l : List UInt8) : List UInt8 := match urlS l with
  | .ok u => textS u
  | .error _ => []
theorem slash_a : ∀ n : Fin 7, ∀ back : Bool, (textO ([97, 58] ++ slashL n.val back ++ [104]) == [97, 58, 47, 47, 104]) = (slashL n.val back == [47, 47]) := by decide +kernel
theorem portS_digs {s : List UInt8} (n : Nat) (h : n ≤ 200000) (z : List UInt8) (hz : z = [] ∨ z = [48]) : portS s (z ++ digs 10 n) = if n ≤ 65535 then some (if (n : Int) = ownS s then -1 else (n : Int)) else none := by
  have hi : intS (z ++ digs 10 n) = ((n : Int), true) := by
    have h1 := int_digs n (by omega) []
    rw [List.append_nil] at h1
    have h2 : intF 0 (z ++ digs 10 n) = some (n : Int) := by
      rcases hz with rfl | rfl
      · rw [List.nil_append, h1]; rfl
      · show intF 0 (48 :: digs 10 n) = _
        rw [intF, if_pos (by decide)]
        show intF (intN 0 48) (digs 10 n) = _
        rw [show intN 0 48 = 0 by decide +kernel, h1]; rfl
    unfold intS
    rw [h2]
    simp only [Prod.mk.injEq, decide_eq_true_eq, true_and]
    have := List.length_pos_iff.2 (digs_ne 10 n)
    rw [List.length_append]; omega
  unfold portS
  rw [if_neg (by simp [digs_ne]), hi]
  simp only [true_and]
  by_cases hn : n ≤ 65535
  · rw [if_pos hn, if_pos (by omega)]
  · rw [if_neg hn, if_neg (by omega)]
theorem digs_bytes (n : Nat) : ∀ x ∈ digs 10 n, 48 ≤ x.toNat ∧ x.toNat ≤ 57 :=
  digs_mem 10 (by omega) (fun x => 48 ≤ x.toNat ∧ x.toNat ≤ 57) (fun d hd => by rw [dgc_val d hd]; omega) n n (Nat.le_refl _)
end Go.Proofs.YtbpkkgaaeodimaaGreatDoor
namespace Go.Proofs.YtbpkkgaaeodimaaGreatDoor
open Go.RowKit

/-! Chapter 3's runs. -/
def okU (o : Except Int UrlS) : UrlS := match o with | .ok u => u | .error _ => noUrl
def whyE (o : Except Int UrlS) : Int := match o with | .ok _ => 0 | .error e => e
def joinO (s base : List UInt8) : List UInt8 := match joinS s (okU (urlS base)) with
  | .ok u => textS u
  | .error _ => []
theorem un_t0 : textO (bl ⟨#[72, 84, 84, 80, 58, 47, 47, 117, 58, 112, 64, 69, 88, 46, 99, 111, 109, 58, 56, 48, 47, 97, 47, 46, 46, 47, 98, 32, 99, 63, 113, 39, 35, 102]⟩) = bl ⟨#[104, 116, 116, 112, 58, 47, 47, 117, 58, 112, 64, 101, 120, 46, 99, 111, 109, 47, 98, 37, 50, 48, 99, 63, 113, 37, 50, 55, 35, 102]⟩ := by decide +kernel
theorem un_t1 : textO (bl ⟨#[104, 116, 116, 112, 115, 58, 101, 120, 46, 99, 111, 109]⟩) = bl ⟨#[104, 116, 116, 112, 115, 58, 47, 47, 101, 120, 46, 99, 111, 109, 47]⟩ := by decide +kernel
theorem un_t2 : textO (bl ⟨#[100, 97, 116, 97, 58, 97, 32, 98, 63, 99]⟩) = bl ⟨#[100, 97, 116, 97, 58, 97, 32, 98, 63, 99]⟩ := by decide +kernel
theorem un_t3 : textO (bl ⟨#[104, 116, 116, 112, 58, 47, 47, 64, 104]⟩) = bl ⟨#[104, 116, 116, 112, 58, 47, 47, 104, 47]⟩ := by decide +kernel
theorem un_t4 : textO (bl ⟨#[97, 58]⟩) = bl ⟨#[97, 58]⟩ := by decide +kernel
theorem un_t5 : textO (bl ⟨#[104, 116, 116, 112, 115, 58, 47, 47, 104, 58, 56, 48, 47]⟩) = bl ⟨#[104, 116, 116, 112, 115, 58, 47, 47, 104, 58, 56, 48, 47]⟩ := by decide +kernel
theorem un_t6 : textO (bl ⟨#[97, 58, 47, 46, 47, 47, 98]⟩) = bl ⟨#[97, 58, 47, 46, 47, 47, 98]⟩ := by decide +kernel
theorem un_t7 : textO (bl ⟨#[104, 116, 116, 112, 58, 92, 92, 104, 92, 97, 63, 92]⟩) = bl ⟨#[104, 116, 116, 112, 58, 47, 47, 104, 47, 97, 63, 92]⟩ := by decide +kernel
theorem un_t8 : textO (bl ⟨#[32, 104, 9, 116, 116, 112, 58, 47, 47, 104, 32]⟩) = bl ⟨#[104, 116, 116, 112, 58, 47, 47, 104, 47]⟩ := by decide +kernel
theorem un_j0 : joinO (bl ⟨#[46, 46, 47, 120]⟩) (bl ⟨#[104, 116, 116, 112, 58, 47, 47, 104, 47, 97, 47, 98, 47, 99]⟩) = bl ⟨#[104, 116, 116, 112, 58, 47, 47, 104, 47, 97, 47, 120]⟩ := by decide +kernel
theorem un_j1 : joinO (bl ⟨#[47, 47, 103]⟩) (bl ⟨#[104, 116, 116, 112, 58, 47, 47, 104, 47, 97, 47, 98, 47, 99]⟩) = bl ⟨#[104, 116, 116, 112, 58, 47, 47, 103, 47]⟩ := by decide +kernel
theorem un_j2 : joinO (bl ⟨#[63, 113]⟩) (bl ⟨#[104, 116, 116, 112, 58, 47, 47, 104, 47, 97, 47, 98, 47, 99]⟩) = bl ⟨#[104, 116, 116, 112, 58, 47, 47, 104, 47, 97, 47, 98, 47, 99, 63, 113]⟩ := by decide +kernel
theorem un_j3 : joinO (bl ⟨#[]⟩) (bl ⟨#[104, 116, 116, 112, 58, 47, 47, 104, 47, 97, 47, 98, 47, 99, 35, 102]⟩) = bl ⟨#[104, 116, 116, 112, 58, 47, 47, 104, 47, 97, 47, 98, 47, 99]⟩ := by decide +kernel
theorem un_j4 : joinO (bl ⟨#[104, 116, 116, 112, 58, 120]⟩) (bl ⟨#[104, 116, 116, 112, 58, 47, 47, 104, 47, 97, 47, 98]⟩) = bl ⟨#[104, 116, 116, 112, 58, 47, 47, 104, 47, 97, 47, 120]⟩ := by decide +kernel
theorem un_j5 : joinO (bl ⟨#[104, 116, 116, 112, 115, 58, 120]⟩) (bl ⟨#[104, 116, 116, 112, 58, 47, 47, 104, 47, 97, 47, 98]⟩) = bl ⟨#[104, 116, 116, 112, 115, 58, 47, 47, 120, 47]⟩ := by decide +kernel
theorem un_w0 : whyE (urlS (bl ⟨#[47, 97]⟩)) = 12 := by decide +kernel
theorem un_w1 : whyE (urlS (bl ⟨#[104, 116, 116, 112, 58, 47, 47, 104, 58, 57, 57, 57, 57, 57]⟩)) = 11 := by decide +kernel
theorem un_w2 : whyE (urlS (bl ⟨#[104, 116, 116, 112, 58, 47, 47]⟩)) = 10 := by decide +kernel
theorem un_w3 : whyE (urlS (bl ⟨#[104, 116, 116, 112, 58, 47, 47, 117, 64, 58, 56, 48]⟩)) = 10 := by decide +kernel
theorem un_w4 : whyE (urlS (bl ⟨#[]⟩)) = 12 := by decide +kernel
theorem un_x : (match joinS (bl ⟨#[]⟩) (okU (urlS (bl ⟨#[100, 97, 116, 97, 58, 97, 32, 98, 63, 99, 35, 100]⟩))) with | .ok u => textS u | .error _ => []) = bl ⟨#[100, 97, 116, 97, 58, 97, 32, 98, 63, 99]⟩ := by decide +kernel
theorem un_f : whyE (joinS (bl ⟨#[120]⟩) (okU (urlS (bl ⟨#[100, 97, 116, 97, 58, 97, 32, 98, 63, 99, 35, 100]⟩)))) = 12 := by decide +kernel
theorem un_y : (match joinS (bl ⟨#[35, 122]⟩) (okU (urlS (bl ⟨#[100, 97, 116, 97, 58, 97, 32, 98, 63, 99, 35, 100]⟩))) with | .ok u => textS u | .error _ => []) = bl ⟨#[100, 97, 116, 97, 58, 97, 32, 98, 63, 99, 35, 122]⟩ := by decide +kernel
theorem un_l (l : List UInt8) (h : l.length = 4097) : whyE (urlS l) = 3 := by unfold urlS; rw [if_pos (by omega)]; rfl
end Go.Proofs.YtbpkkgaaeodimaaGreatDoor
namespace Go.Proofs.YtbpkkgaaeodimaaGreatDoor
open Go.RowKit

/-! Safe and unsafe places. -/
def localS : List UInt8 := [108, 111, 99, 97, 108, 104, 111, 115, 116]
def dataS : List UInt8 := [100, 97, 116, 97]
def aboutS : List UInt8 := [97, 98, 111, 117, 116]
def blobS : List UInt8 := [98, 108, 111, 98]
def ndotB (x : UInt8) : Bool := isDec x || x == 46
def numsB (h : List UInt8) : Bool := h.all ndotB
/-- A host that nobody between can be. -/
def homeB (h : List UInt8) : Bool := h == localS || ends h (46 :: localS) || (begins h [49, 50, 55, 46] && numsB h) || h == [91, 58, 58, 49, 93]
def safeSch (s : List UInt8) : Bool := s == httpsS || s == wssS || s == dataS || s == aboutS
/-- Is an address to be trusted? Of one that is no blob. -/
def trustB (u : UrlS) : Bool := safeSch u.scheme || homeB u.host
def judgeS (page u : UrlS) (trust : Bool) (dest : Int) : Int :=
  if page.scheme ≠ httpsS ∨ trust = true ∨ (u.scheme ≠ httpS ∧ u.scheme ≠ wsS) then 1
  else if dest = 4 ∧ u.scheme = httpS ∧ begins u.host [91] = false ∧ numsB u.host = false then 2 else 3
def badPorts : List Int := [0, 1, 7, 9, 11, 13, 15, 17, 19, 20, 21, 22, 23, 25, 37, 42, 43, 53, 69, 77, 79, 87, 95, 101, 102, 103, 104, 109, 110, 111, 113, 115, 117, 119, 123, 135, 137, 139, 143, 161, 179, 389, 427, 465, 512, 513, 514, 515, 526, 530, 531, 532, 540, 548, 554, 556, 563, 587, 601, 636, 989, 990, 993, 995, 1719, 1720, 1723, 2049, 3659, 4045, 4190, 5060, 5061, 6000, 6566, 6665, 6666, 6667, 6668, 6669, 6679, 6697, 10080]
def badPortS (u : UrlS) : Bool := specialS u.scheme && u.port != -1 && badPorts.contains u.port
/-! An address with a host alone. -/
def hostUrl (s h : List UInt8) : UrlS := ⟨s, [], [], h, true, -1, false, [[]], [], [], false, false⟩
theorem auth_host {s H h : List UInt8} (hs : specialS s = true) (hp : parseS H true = some h) (hb : ∀ x ∈ H, x ≠ 58 ∧ x ≠ 91 ∧ x ≠ 64) : authS { noUrl with scheme := s } H = .ok { hostUrl s h with path := [] } := by
  have hpt : portedS H = (H, []) := by
    have := colon_plain H [] 0 none (fun x hx => ⟨(hb x hx).1, (hb x hx).2.1⟩)
    rw [List.append_nil] at this
    unfold portedS
    rw [this]; rfl
  unfold authS userS
  rw [lastAt_no (fun x hx => (hb x hx).2.2)]
  simp only []
  rw [hpt]
  show (match portS s [] with
    | none => (Except.error 11 : Except Int UrlS)
    | some port => match parseS H (specialS s) with
      | none => .error 10
      | some h => if h = [] ∧ (noUrl.user ≠ [] ∨ noUrl.pass ≠ [] ∨ ([] : List UInt8) ≠ []) then .error 10 else .ok { noUrl with scheme := s, port := port, host := h, hasHost := true }) = _
  rw [hs, hp, show portS s [] = some (-1) from rfl]
  simp only []
  rw [if_neg (fun h => by rcases h.2 with h | h | h <;> exact h rfl)]
  rfl
/-- s://host/ -/
theorem url_host {s H h : List UInt8} (hs : s ∈ specials) (hp : parseS H true = some h) (hb : ∀ x ∈ H, x ≠ 58 ∧ x ≠ 91 ∧ x ≠ 64 ∧ 33 ≤ x.toNat ∧ x ≠ 35 ∧ x ≠ 47 ∧ x ≠ 63 ∧ x ≠ 92) (hl : H.length ≤ 3000) :
    urlS (s ++ [58, 47, 47] ++ H ++ [47]) = .ok (hostUrl s h) := by
  have e : s ++ [58, 47, 47] ++ H ++ [47] = s ++ 58 :: (47 :: 47 :: (H ++ [47])) := by simp
  have hB : ∀ x ∈ 47 :: 47 :: (H ++ [47]), 33 ≤ x.toNat ∧ x ≠ 35 ∧ x ≠ 92 := by
    intro x hx
    rw [List.mem_cons, List.mem_cons, List.mem_append, List.mem_singleton] at hx
    rcases hx with rfl | rfl | hx | rfl
    · decide
    · decide
    · obtain ⟨_, _, _, a, b, _, _, c⟩ := hb x hx; exact ⟨a, b, c⟩
    · decide
  have hsl : slashS (47 :: 47 :: (H ++ [47])) = 47 :: 47 :: (H ++ [47]) := by
    have := slash_id (47 :: 47 :: (H ++ [47])) [] (fun x hx => (hB x hx).2.2) (by simp)
    rw [List.append_nil] at this
    exact this
  have hne : H ≠ [] := by
    intro e0
    rw [e0] at hp
    have h0 : parseS [] true = none := by decide +kernel
    rw [h0] at hp; cases hp
  have hd : (47 :: 47 :: (H ++ [47])).dropWhile (· == (47 : UInt8)) = H ++ [47] := by
    cases H with
    | nil => exact absurd rfl hne
    | cons y t =>
      have h47 : y ≠ 47 := (hb y List.mem_cons_self).2.2.2.2.2.1
      simp [h47]
  obtain ⟨t1, t2⟩ := tw_stop (p := fun x => !stopB x) H [47] (fun x hx => by
    obtain ⟨_, _, _, _, _, h1, h2, _⟩ := hb x hx
    simp [stopB, h1, h2]) (fun x hx => by simp at hx; rw [← hx]; rfl)
  obtain ⟨_, _, _, h4, _⟩ := special_scheme hs
  rw [e, url_special hs (fun x hx => ⟨(hB x hx).1, (hB x hx).2.1⟩) (by simp; omega), hsl, hd]
  unfold behindS
  rw [t1, t2, auth_host h4 hp (fun x hx => ⟨(hb x hx).1, (hb x hx).2.1, (hb x hx).2.2.1⟩)]
  simp only [Except.ok.injEq]
  have hq := seg_app 63 [47] [] false (by decide) (fun _ => rfl)
  rw [if_neg (by decide), List.append_nil] at hq
  unfold rootedS
  rw [if_neg (fun q => by have := q.1; unfold aheadQ at this; simp at this), ahead_seg, hq]
  unfold queryS
  rw [hq]
  rfl
/-- Small letters and points. -/
theorem name_bytes (x : UInt8) (h : nameB x = true) : x ≠ 58 ∧ x ≠ 91 ∧ x ≠ 64 ∧ 33 ≤ x.toNat ∧ x ≠ 35 ∧ x ≠ 47 ∧ x ≠ 63 ∧ x ≠ 92 := by
  have := u8_imp (p := fun x => !nameB x || (x != 58 && x != 91 && x != 64 && decide (33 ≤ x.toNat) && x != 35 && x != 47 && x != 63 && x != 92)) (by decide +kernel) x
  simp only [h, Bool.not_true, Bool.false_or, Bool.and_eq_true, bne_iff_ne, decide_eq_true_eq] at this
  obtain ⟨⟨⟨⟨⟨⟨⟨h1, h2⟩, h3⟩, h4⟩, h5⟩, h6⟩, h7⟩, h8⟩ := this
  exact ⟨h1, h2, h3, h4, h5, h6, h7, h8⟩
theorem small_name (x : UInt8) (h : smallB x = true) : nameB x = true ∧ (x.toNat : Int) ≠ 46 ∧ ndotB x = false := by
  have := u8_imp (p := fun x => !smallB x || (nameB x && x != 46 && !ndotB x)) (by decide +kernel) x
  simp only [h, Bool.not_true, Bool.false_or, Bool.and_eq_true, bne_iff_ne, Bool.not_eq_true'] at this
  exact ⟨this.1.1, fun e => this.1.2 (UInt8.toNat_inj.1 (by simp; omega)), this.2⟩
theorem small_fine (x : UInt8) (h : smallB x = true) : fineB x = true ∧ low x = x ∧ x ≠ 37 ∧ x ≠ 91 ∧ x ≠ 45 ∧ isDec x = false ∧ x ≠ 48 := by
  have := u8_imp (p := fun x => !smallB x || (fineB x && low x == x && x != 37 && x != 91 && x != 45 && !isDec x && x != 48)) (by decide +kernel) x
  simp only [h, Bool.not_true, Bool.false_or, Bool.and_eq_true, bne_iff_ne, beq_iff_eq, Bool.not_eq_true'] at this
  obtain ⟨⟨⟨⟨⟨⟨h1, h2⟩, h3⟩, h4⟩, h5⟩, h6⟩, h7⟩ := this
  exact ⟨h1, h2, h3, h4, h5, h6, h7⟩
theorem no_xn {a : List UInt8} (h : ∀ x ∈ a, smallB x = true) : xnB a = false := by
  unfold xnB begins xnS
  rw [Bool.eq_false_iff]
  intro e
  simp only [Bool.and_eq_true, beq_iff_eq, decide_eq_true_eq] at e
  have h45 : (45 : UInt8) ∈ a := (List.take_sublist 4 a).subset (by
    have : List.take 4 a = [120, 110, 45, 45] := e.2
    rw [this]; simp)
  exact absurd (h 45 h45) (by decide)
theorem small_num {a : List UInt8} (h : ∀ x ∈ a, smallB x = true) (hn : a ≠ []) : (if hexS a then (a.drop 2).all isHex else !a.isEmpty && a.all isDec) = false := by
  have hh : hexS a = false := by
    cases a with
    | nil => exact absurd rfl hn
    | cons x r =>
      have := (small_fine x (h x List.mem_cons_self)).2.2.2.2.2.2
      unfold hexS begins
      rw [Bool.eq_false_iff]
      intro e
      simp only [Bool.or_eq_true, Bool.and_eq_true, beq_iff_eq, decide_eq_true_eq] at e
      rcases e with ⟨_, e⟩ | ⟨_, e⟩
      · have := congrArg List.head? e; simp at this; exact absurd this ‹x ≠ 48›
      · have := congrArg List.head? e; simp at this; exact absurd this ‹x ≠ 48›
  rw [hh, if_neg (by decide)]
  cases a with
  | nil => exact absurd rfl hn
  | cons x r => rw [List.all_cons, (small_fine x (h x List.mem_cons_self)).2.2.2.2.2.1]; simp
/-- A name of one or two labels of small letters is parsed to itself. -/
theorem parse_small {H : List UInt8} {ls : List (List UInt8)} {x : List UInt8} (hc : cutS 46 [] H = ls ++ [x]) (hs : ∀ p ∈ ls ++ [x], ∀ y ∈ p, smallB y = true) (hx : x ≠ []) (hH : ∀ y ∈ H, smallB y = true ∨ y = 46) (hn : H ≠ []) : parseS H true = some H := by
  have hf : ∀ y ∈ H, fineB y = true ∧ low y = y ∧ y ≠ 37 ∧ y ≠ 91 := by
    intro y hy
    rcases hH y hy with h | rfl
    · obtain ⟨a, b, c, d, _⟩ := small_fine y h; exact ⟨a, b, c, d⟩
    · decide
  have hb : begins H [91] = false := by
    cases H with
    | nil => exact absurd rfl hn
    | cons y r => exact begins_no (hf y List.mem_cons_self).2.2.2
  rw [parse_special hb, unp_id H (fun y hy => (hf y hy).2.2.1), lower_id (fun y hy => (hf y hy).2.1)]
  refine named_name (List.all_eq_true.2 fun y hy => (hf y hy).1) ?_ hn ?_
  · rw [hc, List.any_eq_false]
    intro p hp
    rw [no_xn (hs p hp)]; decide
  · have hl : labelsS H = ls ++ [x] := labels_of hc (by simp [hx])
    unfold numberedS lastS
    rw [hl]
    simp only [List.getLastD_concat]
    exact small_num (hs x (by simp)) hx
theorem cut46 (a r : List UInt8) (h : ∀ x ∈ a, smallB x = true) : cutS 46 [] (a ++ 46 :: r) = a :: cutS 46 [] r := by
  have := cut_hit 46 46 (by decide) r a [] (fun x hx => (small_name x (h x hx)).2.1)
  rw [List.nil_append] at this
  exact this
theorem cut46_end (a : List UInt8) (h : ∀ x ∈ a, smallB x = true) : cutS 46 [] a = [a] := by
  have := cut_no 46 a [] (fun x hx => (small_name x (h x hx)).2.1)
  rw [List.nil_append] at this
  exact this
theorem one_label {a : List UInt8} (h : ∀ x ∈ a, smallB x = true) (hn : a ≠ []) : parseS a true = some a :=
  parse_small (ls := []) (x := a) (cut46_end a h) (by simpa using h) hn (fun y hy => .inl (h y hy)) hn
theorem two_labels {a b : List UInt8} (h : ∀ x ∈ a, smallB x = true) (hb : ∀ x ∈ b, smallB x = true) (hn : b ≠ []) : parseS (a ++ 46 :: b) true = some (a ++ 46 :: b) := by
  refine parse_small (ls := [a]) (x := b) ?_ ?_ hn ?_ (by simp)
  · rw [cut46 a b h, cut46_end b hb]; rfl
  · intro p hp
    simp at hp
    rcases hp with rfl | rfl
    · exact h
    · exact hb
  · intro y hy
    rw [List.mem_append, List.mem_cons] at hy
    rcases hy with hy | rfl | hy
    · exact .inl (h y hy)
    · exact .inr rfl
    · exact .inl (hb y hy)
def comS : List UInt8 := [99, 111, 109]
theorem home_com {h : List UInt8} (hq : h.head? = some 113) (hs : ∀ x ∈ h, smallB x = true) : homeB (h ++ 46 :: comS) = false ∧ numsB (h ++ 46 :: comS) = false ∧ begins (h ++ 46 :: comS) [91] = false := by
  cases h with
  | nil => simp at hq
  | cons x r =>
    simp at hq
    subst hq
    have he : ends (113 :: r ++ 46 :: comS) (46 :: localS) = false := by
      unfold ends
      rw [Bool.eq_false_iff]
      intro e
      simp only [Bool.and_eq_true, beq_iff_eq, decide_eq_true_eq] at e
      have h1 := congrArg List.getLast? e.2
      rw [List.getLast?_drop] at h1
      have hlen : (113 :: r ++ 46 :: comS).length = r.length + 5 := by simp [comS]
      have hlen2 : (46 :: localS).length = 10 := rfl
      rw [if_neg (by rw [hlen, hlen2]; omega)] at h1
      have h2 : (113 :: r ++ 46 :: comS).getLast? = some 109 := by
        rw [show 113 :: r ++ 46 :: comS = (113 :: r ++ [46, 99, 111]) ++ [109] by simp [comS], List.getLast?_concat]
      rw [h2] at h1
      exact absurd h1 (by decide)
    refine ⟨?_, ?_, begins_no (by decide)⟩
    · unfold homeB
      rw [he]
      simp [localS, begins]
    · unfold numsB
      rw [List.cons_append, List.all_cons]; rfl
theorem home_local (h : List UInt8) : homeB (h ++ 46 :: localS) = true := by
  have : ends (h ++ 46 :: localS) (46 :: localS) = true := by
    unfold ends
    rw [show (h ++ 46 :: localS).length - (46 :: localS).length = h.length by simp, List.drop_left' rfl]
    simp
  unfold homeB
  rw [this]; simp
/-! Addresses of four numbers. -/
theorem text4_bytes (n : Nat) : ∀ x ∈ text4S (n : Int), 48 ≤ x.toNat ∧ x.toNat ≤ 57 ∨ x = 46 := by
  have hd : ∀ k, ∀ x ∈ digs 10 (octS (n : Int) k), 48 ≤ x.toNat ∧ x.toNat ≤ 57 := fun k => digs_bytes _
  intro x hx
  unfold text4S at hx
  simp only [dotF, List.append_nil, List.mem_append, List.mem_cons, List.cons_append] at hx
  rcases hx with hx | rfl | hx | rfl | hx | rfl | hx
  · exact .inl (hd 0 x hx)
  · exact .inr rfl
  · exact .inl (hd 1 x hx)
  · exact .inr rfl
  · exact .inl (hd 2 x hx)
  · exact .inr rfl
  · exact .inl (hd 3 x hx)
theorem text4_nums (n : Nat) : numsB (text4S (n : Int)) = true := by
  unfold numsB
  rw [List.all_eq_true]
  intro x hx
  rcases text4_bytes n x hx with h | rfl
  · unfold ndotB isDec isDigit
    rw [decide_eq_true (by omega)]; rfl
  · decide
theorem text4_home (n : Nat) (h : n < 4294967296) : homeB (text4S (n : Int)) = decide (n / 16777216 = 127) := by
  have hb := text4_bytes n
  have ho : octS (n : Int) 0 = n / 16777216 := by
    rw [octS_is n 0 h]
    show n / 2 ^ 24 % 256 = _
    omega
  have h1 : (text4S (n : Int) == localS) = false := by
    rw [beq_eq_false_iff_ne]
    intro e
    have := hb 108 (by rw [e]; decide)
    rcases this with ⟨_, h⟩ | h
    · exact absurd h (by decide)
    · exact absurd h (by decide)
  have h2 : ends (text4S (n : Int)) (46 :: localS) = false := by
    unfold ends
    rw [Bool.eq_false_iff]
    intro e
    simp only [Bool.and_eq_true, beq_iff_eq, decide_eq_true_eq] at e
    have hm : (108 : UInt8) ∈ text4S (n : Int) := List.mem_of_mem_drop (by rw [e.2]; decide)
    rcases hb 108 hm with ⟨_, h⟩ | h
    · exact absurd h (by decide)
    · exact absurd h (by decide)
  have h3 : (text4S (n : Int) == [91, 58, 58, 49, 93]) = false := by
    rw [beq_eq_false_iff_ne]
    intro e
    rcases hb 91 (by rw [e]; decide) with ⟨_, h⟩ | h
    · exact absurd h (by decide)
    · exact absurd h (by decide)
  have h4 : begins (text4S (n : Int)) [49, 50, 55, 46] = decide (n / 16777216 = 127) := by
    have hr : text4S (n : Int) = digs 10 (n / 16777216) ++ 46 :: (digs 10 (octS (n : Int) 1) ++ 46 :: (digs 10 (octS (n : Int) 2) ++ 46 :: digs 10 (octS (n : Int) 3))) := by
      unfold text4S
      rw [ho]
      simp [dotF]
    have hlt : n / 16777216 < 256 := by omega
    rw [hr]
    generalize (digs 10 (octS (n : Int) 1) ++ 46 :: (digs 10 (octS (n : Int) 2) ++ 46 :: digs 10 (octS (n : Int) 3))) = R
    rw [Bool.eq_iff_iff, decide_eq_true_eq]
    unfold begins
    simp only [Bool.and_eq_true, beq_iff_eq, decide_eq_true_eq]
    constructor
    · rintro ⟨_, e⟩
      generalize hm : n / 16777216 = m at *
      have hcase : m < 10 ∨ (10 ≤ m ∧ m < 100) ∨ 100 ≤ m := by omega
      rcases hcase with hc | hc | hc
      · rw [digs_small hc] at e
        simp at e
      · rw [digs_step (by omega) hc.1, digs_small (u := m / 10) (by omega)] at e
        simp at e
      · rw [digs_step (by omega) (by omega), digs_step (u := m / 10) (by omega) (by omega), digs_small (u := m / 10 / 10) (by omega)] at e
        simp at e
        obtain ⟨e1, e2, e3⟩ := e
        have d1 := dgc_val (m / 10 / 10) (by omega)
        have d2 := dgc_val (m / 10 % 10) (by omega)
        have d3 := dgc_val (m % 10) (by omega)
        rw [e1] at d1
        rw [e2] at d2
        rw [e3] at d3
        simp at d1 d2 d3
        omega
    · intro e
      rw [e]
      exact ⟨by simp [show digs 10 127 = [49, 50, 55] by decide +kernel], by simp [show digs 10 127 = [49, 50, 55] by decide +kernel]⟩
  unfold homeB
  rw [h1, h2, h3, h4, text4_nums]
  simp
end Go.Proofs.YtbpkkgaaeodimaaGreatDoor
namespace Go.Proofs.YtbpkkgaaeodimaaGreatDoor
open Go.RowKit

/-! An address in cells. -/
structure UrlC where
  scheme : ByteArray
  user : ByteArray
  pass : ByteArray
  host : ByteArray
  hasHost : Bool
  port : Int
  opaq : Bool
  path : Value
  query : ByteArray
  frag : ByteArray
  hasQuery : Bool
  hasFrag : Bool
def UrlC.cells (c : UrlC) : List Value := [.string c.scheme, .string c.user, .string c.pass, .string c.host, .bool c.hasHost, .int .i64 c.port, .bool c.opaq, c.path, .string c.query, .string c.frag, .bool c.hasQuery, .bool c.hasFrag]
def UrlC.flat (c : UrlC) (p : List (List UInt8)) : UrlS := ⟨bl c.scheme, bl c.user, bl c.pass, bl c.host, c.hasHost, c.port, c.opaq, p, bl c.query, bl c.frag, c.hasQuery, c.hasFrag⟩
def noC : UrlC := ⟨⟨#[]⟩, ⟨#[]⟩, ⟨#[]⟩, ⟨#[]⟩, false, 0, false, .slice none 0 0, ⟨#[]⟩, ⟨#[]⟩, false, false⟩
theorem no_flat : noC.flat [] = noUrl := rfl
/-- The state of an address that is being read: its block g, and what else is as it was. -/
structure Rd (w0 we : World) (g : Nat) (c : UrlC) (ext : List Value) (w : World) : Prop where
  row : RowAt w g (c.cells ++ ext)
  bel : Bel w0 w
  big : w0.heap.size ≤ g
  env : Env w0
  fr : BelP (fun k => k = g) we w
theorem Rd.envn {w0 we w : World} {g : Nat} {c : UrlC} {ext : List Value} (h : Rd w0 we g c ext w) : Env w := h.env.bel h.bel
theorem Rd.now {w0 we w : World} {g : Nat} {c : UrlC} {ext : List Value} (h : Rd w0 we g c ext w) : Rd w0 w g c ext w := ⟨h.row, h.bel, h.big, h.env, .refl _ w⟩
theorem Rd.step {w0 we w w' : World} {g : Nat} {c : UrlC} {ext : List Value} (h : Rd w0 we g c ext w) (hb : Bel w w') : Rd w0 we g c ext w' :=
  ⟨h.row.bel hb, bel_trans h.bel hb, h.big, h.env, h.fr.trans (.of _ hb)⟩
theorem Rd.next {w0 we w w' : World} {g : Nat} {c c' : UrlC} {ext ext' : List Value} (h : Rd w0 we g c ext w) (k : Rd w0 w g c' ext' w') : Rd w0 we g c' ext' w' :=
  ⟨k.row, k.bel, h.big, h.env, h.fr.trans k.fr⟩
theorem Rd.put {w0 we w : World} {g : Nat} {c c' : UrlC} {ext ext' : List Value} (h : Rd w0 we g c ext w) (k : Nat) (v : Value) (e : (c.cells ++ ext).set k v = c'.cells ++ ext') : Rd w0 we g c' ext' (w.setCell ⟨g, k, none⟩ v) :=
  ⟨by rw [← e]; exact h.row.set k v, BelP.bel h.bel (fun j hj => by rw [hj]; exact h.big) (BelP.set ⟨g, k, none⟩ v rfl), h.big, h.env, h.fr.trans (BelP.set ⟨g, k, none⟩ v rfl)⟩
/-- The twelve cells. -/
def At12 (w : World) (g : Nat) (c : UrlC) : Prop :=
  (w.cell? ⟨g, 0, none⟩ = some (.string c.scheme) ∧ w.frozen? ⟨g, 0, none⟩ = false) ∧ (w.cell? ⟨g, 1, none⟩ = some (.string c.user) ∧ w.frozen? ⟨g, 1, none⟩ = false) ∧
  (w.cell? ⟨g, 2, none⟩ = some (.string c.pass) ∧ w.frozen? ⟨g, 2, none⟩ = false) ∧ (w.cell? ⟨g, 3, none⟩ = some (.string c.host) ∧ w.frozen? ⟨g, 3, none⟩ = false) ∧
  (w.cell? ⟨g, 4, none⟩ = some (.bool c.hasHost) ∧ w.frozen? ⟨g, 4, none⟩ = false) ∧ (w.cell? ⟨g, 5, none⟩ = some (.int .i64 c.port) ∧ w.frozen? ⟨g, 5, none⟩ = false) ∧
  (w.cell? ⟨g, 6, none⟩ = some (.bool c.opaq) ∧ w.frozen? ⟨g, 6, none⟩ = false) ∧ (w.cell? ⟨g, 7, none⟩ = some c.path ∧ w.frozen? ⟨g, 7, none⟩ = false) ∧
  (w.cell? ⟨g, 8, none⟩ = some (.string c.query) ∧ w.frozen? ⟨g, 8, none⟩ = false) ∧ (w.cell? ⟨g, 9, none⟩ = some (.string c.frag) ∧ w.frozen? ⟨g, 9, none⟩ = false) ∧
  (w.cell? ⟨g, 10, none⟩ = some (.bool c.hasQuery) ∧ w.frozen? ⟨g, 10, none⟩ = false) ∧ (w.cell? ⟨g, 11, none⟩ = some (.bool c.hasFrag) ∧ w.frozen? ⟨g, 11, none⟩ = false)
theorem Rd.cells {w0 we w : World} {g : Nat} {c : UrlC} {ext : List Value} (h : Rd w0 we g c ext w) : At12 w g c :=
  ⟨h.row.2 0 _ rfl, h.row.2 1 _ rfl, h.row.2 2 _ rfl, h.row.2 3 _ rfl, h.row.2 4 _ rfl, h.row.2 5 _ rfl, h.row.2 6 _ rfl, h.row.2 7 _ rfl, h.row.2 8 _ rfl, h.row.2 9 _ rfl, h.row.2 10 _ rfl, h.row.2 11 _ rfl⟩
theorem Rd.rest {w0 we w : World} {g : Nat} {c : UrlC} {r : ByteArray} (h : Rd w0 we g c [.string r] w) : w.cell? ⟨g, 12, none⟩ = some (.string r) ∧ w.frozen? ⟨g, 12, none⟩ = false := h.row.2 12 _ rfl
/-- A path that is the call's own: its block is not g. -/
def PathOwn (w : World) (base g : Nat) (v : Value) (p : List (List UInt8)) : Prop := Own w base 9 v (strs p) ∧ ∀ k, v.ownBlock = some k → k ≠ g
theorem PathOwn.nil (w : World) (base g : Nat) : PathOwn w base g (.slice none 0 0) [] := ⟨Own.nil _ _ _, fun k hk => by simp [Value.ownBlock] at hk⟩
theorem PathOwn.fr {w w' : World} {base g : Nat} {v : Value} {p : List (List UInt8)} (h : PathOwn w base g v p) (hb : BelP (fun k => k = g) w w') : PathOwn w' base g v p :=
  ⟨BelP.own hb h.2 h.1, h.2⟩
theorem PathOwn.bel {w w' : World} {base g : Nat} {v : Value} {p : List (List UInt8)} (h : PathOwn w base g v p) (hb : Bel w w') : PathOwn w' base g v p := h.fr (.of _ hb)
theorem PathOwn.of {w : World} {base g : Nat} {v : Value} {p : List (List UInt8)} (h : Own w base 9 v (strs p)) (hg : g < base) : PathOwn w base g v p :=
  ⟨h, fun k hk => by have := h.base k hk; omega⟩
theorem Own.one (w : World) (base : Nat) (y : ByteArray) (hb : base ≤ w.heap.size) : Own (w.alloc (.cells #[.string y] 9)) base 9 (.slice (some ⟨w.heap.size, 0, none⟩) 1 1) (strs [bl y]) := by
  have e : strs [bl y] = [.string y] := by simp [strs, mk_bl]
  rw [e]
  exact World.ownsRow_lit w #[.string y] 1 hb (by decide) rfl
/-- The value of an address. -/
def UrlV (w : World) (base : Nat) (v : Value) (u : UrlS) : Prop := ∃ (c : UrlC) (p : List (List UInt8)), v = .agg c.cells.toArray ∧ c.flat p = u ∧ Own w base 9 c.path (strs p)
theorem UrlV.bel {w w' : World} {base : Nat} {v : Value} {u : UrlS} (h : UrlV w base v u) (hb : Bel w w') : UrlV w' base v u := by
  obtain ⟨c, p, h1, h2, h3⟩ := h
  exact ⟨c, p, h1, h2, h3.bel hb⟩
end Go.Proofs.YtbpkkgaaeodimaaGreatDoor
