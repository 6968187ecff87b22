import Derived.Test.YtbpkkgaaeodimaaGreatDoorXG11
import Derived.Lib.Replace
import Derived.Lib.IndexBytes
import Derived.Test.YtbpkkgaaeodimaaGreatDoorXG01
namespace Go.Proofs.YtbpkkgaaeodimaaGreatDoor
open Go.RowKit

/-! Plain laws of the parsed host. -/
theorem u8_imp {p : UInt8 → Bool} (h : ∀ n : Fin 256, p (UInt8.ofNat n.val) = true) (x : UInt8) : p x = true := by
  rw [u8_all (p := p) (q := fun _ => true) (fun n => h n) x]
theorem bad_facts (x : UInt8) (h : badS x = true) : fineB x = false ∧ hexV x.toNat < 0 ∧ x ≠ 37 ∧ low x = x := by
  have := u8_imp (p := fun x => !badS x || (!fineB x && decide (hexV x.toNat < 0) && !(x == 37) && (low x == x))) (by decide +kernel) x
  rw [h] at this
  simpa [and_assoc] using this
theorem unp_id : ∀ (l : List UInt8), (∀ x ∈ l, x ≠ 37) → unpercent l = l
  | [], _ => rfl
  | x :: r, h => by rw [unp_other (h x (by simp)), unp_id r (fun y hy => h y (by simp [hy]))]
theorem unp_pre : ∀ (p l : List UInt8), (∀ x ∈ p, x ≠ 37) → unpercent (p ++ l) = p ++ unpercent l
  | [], _, _ => rfl
  | x :: r, l, h => by rw [List.cons_append, unp_other (h x (by simp)), unp_pre r l (fun y hy => h y (by simp [hy]))]; rfl
theorem unp_keep {x : UInt8} (hx : hexV x.toNat < 0) (h37 : x ≠ 37) : ∀ (n : Nat) (l : List UInt8), l.length ≤ n → x ∈ l → x ∈ unpercent l
  | 0, [], _, h => by cases h
  | n + 1, [], _, h => by cases h
  | n + 1, y :: r, hn, h => by
    have hr : r.length ≤ n := by simpa using hn
    have ih := unp_keep hx h37 n
    by_cases hy : y = 37
    · subst hy
      rcases List.mem_cons.1 h with h | h
      · exact absurd h h37
      · by_cases h2 : r.length < 2
        · rw [unp_short h2]
          exact List.mem_cons_of_mem _ (ih r hr h)
        · match r, h2, h, hr with
          | a :: b :: t, _, h, hr =>
            by_cases hh : 0 ≤ hexV a.toNat ∧ 0 ≤ hexV b.toNat
            · rw [unp_yes hh]
              rcases List.mem_cons.1 h with h | h
              · subst h; omega
              · rcases List.mem_cons.1 h with h | h
                · subst h; omega
                · exact List.mem_cons_of_mem _ (ih t (by simp at hr; omega) h)
            · rw [unp_no hh]
              exact List.mem_cons_of_mem _ (ih _ hr h)
          | [], h2, _, _ => simp at h2
          | [_], h2, _, _ => simp at h2
    · rw [unp_other hy]
      rcases List.mem_cons.1 h with h | h
      · rw [h]; exact List.mem_cons_self
      · exact List.mem_cons_of_mem _ (ih r hr h)
theorem mem_not_all {p : UInt8 → Bool} {x : UInt8} {l : List UInt8} (h : x ∈ l) (hp : p x = false) : l.all p = false := by
  rw [Bool.eq_false_iff]
  intro ha
  rw [List.all_eq_true.1 ha x h] at hp; cases hp
theorem begins_no {c x : UInt8} {r : List UInt8} (h : x ≠ c) : begins (x :: r) [c] = false := by
  unfold begins
  simp [h]
theorem begins_nil (c : UInt8) : begins [] [c] = false := rfl
theorem begins_yes {c : UInt8} {r : List UInt8} : begins (c :: r) [c] = true := by unfold begins; simp
theorem ends_yes {c : UInt8} {r : List UInt8} : ends (r ++ [c]) [c] = true := by unfold ends; simp
theorem parse_special {l : List UInt8} (h : begins l [91] = false) : parseS l true = namedS (lower (unpercent l)) := by
  unfold parseS; rw [h]; rfl
theorem parse_opaque {l : List UInt8} (h : begins l [91] = false) : parseS l false = if l.any badS = true then none else some (percent 1 l) := by
  unfold parseS; rw [h]; rfl
theorem parse_six (l : List UInt8) (sp : Bool) : parseS (91 :: (l ++ [93])) sp = (sixS l).map (fun xs => 91 :: (text6S xs ++ [93])) := by
  unfold parseS
  rw [begins_yes, if_pos rfl, ← List.cons_append, ends_yes, if_pos rfl]
  congr 2
  simp
theorem parse_bad (s t : List UInt8) (b : UInt8) (hb : badS b = true) (sp : Bool) : parseS ((113 :: s) ++ b :: t) sp = none := by
  obtain ⟨f1, f2, f3, f4⟩ := bad_facts b hb
  have hm : b ∈ (113 :: s) ++ b :: t := by simp
  cases sp
  · rw [List.cons_append, parse_opaque (begins_no (by decide)), if_pos]
    exact List.any_eq_true.2 ⟨b, by simp, hb⟩
  · rw [List.cons_append, parse_special (begins_no (by decide))]
    apply named_bad
    refine mem_not_all (x := b) ?_ f1
    have := unp_keep f2 f3 _ _ (Nat.le_refl _) hm
    exact List.mem_map.2 ⟨b, this, f4⟩
theorem text6_ne (xs : List Nat) : text6S xs ≠ [] := by
  unfold text6S
  rw [restF, dif_pos (by omega)]
  split
  · simp
  · intro h
    have := congrArg List.length h
    have h2 := digs_ne 16 (xs.getD 0 0)
    have h3 := List.length_pos_iff.2 h2
    simp at this
    exact h2 this.1

/-! A name of small letters. -/
def nameB (x : UInt8) : Bool := (decide (97 ≤ x.toNat) && decide (x.toNat ≤ 122)) || x == 45 || x == 46
def upB (x : UInt8) : UInt8 := if 97 ≤ x.toNat ∧ x.toNat ≤ 122 then x - 32 else x
def hexL (d : Nat) : UInt8 := dgc d
def signB (x : UInt8) : List UInt8 := [37, hexL (x.toNat / 16), hexL (x.toNat % 16)]
theorem name_facts (x : UInt8) (h : nameB x = true) : x ≠ 37 ∧ upB x ≠ 37 ∧ low x = x ∧ low (upB x) = x ∧ x ≠ 91 ∧ upB x ≠ 91 ∧ fineB x = true ∧ x ≠ 48 ∧ isDec x = false := by
  have := u8_imp (p := fun x => !nameB x || (!(x == 37) && !(upB x == 37) && (low x == x) && (low (upB x) == x) && !(x == 91) && !(upB x == 91) && fineB x && !(x == 48) && !isDec x)) (by decide +kernel) x
  rw [h] at this
  simpa [and_assoc] using this
theorem sign_facts (x : UInt8) : 0 ≤ hexV (hexL (x.toNat / 16)).toNat ∧ 0 ≤ hexV (hexL (x.toNat % 16)).toNat ∧ UInt8.ofNat (16 * (hexV (hexL (x.toNat / 16)).toNat).toNat + (hexV (hexL (x.toNat % 16)).toNat).toNat) = x := by
  have := u8_imp (p := fun x => decide (0 ≤ hexV (hexL (x.toNat / 16)).toNat) && decide (0 ≤ hexV (hexL (x.toNat % 16)).toNat) && (UInt8.ofNat (16 * (hexV (hexL (x.toNat / 16)).toNat).toNat + (hexV (hexL (x.toNat % 16)).toNat).toNat) == x)) (by decide +kernel) x
  simpa [and_assoc] using this
theorem lower_id {l : List UInt8} (h : ∀ x ∈ l, low x = x) : lower l = l := by
  unfold lower
  conv => rhs; rw [← List.map_id l]
  exact List.map_congr_left h
theorem unp_signs : ∀ (l : List UInt8), unpercent (l.flatMap signB) = l
  | [] => rfl
  | x :: r => by
    obtain ⟨h1, h2, h3⟩ := sign_facts x
    rw [List.flatMap_cons]
    show unpercent (37 :: hexL (x.toNat / 16) :: hexL (x.toNat % 16) :: r.flatMap signB) = _
    rw [unp_yes ⟨h1, h2⟩, h3, unp_signs r]
theorem cut_snoc (c : Int) (x : UInt8) (hx : (x.toNat : Int) ≠ c) : ∀ (l acc : List UInt8), ∃ hs y, cutS c acc (l ++ [x]) = hs ++ [y ++ [x]] ∧ cutS c acc l = hs ++ [y]
  | [], acc => ⟨[], acc, by simp [cutS, hx], by simp [cutS]⟩
  | z :: r, acc => by
    by_cases hz : (z.toNat : Int) = c
    · obtain ⟨hs, y, h1, h2⟩ := cut_snoc c x hx r []
      exact ⟨acc :: hs, y, by rw [List.cons_append, cutS, if_pos hz, h1]; rfl, by rw [cutS, if_pos hz, h2]; rfl⟩
    · obtain ⟨hs, y, h1, h2⟩ := cut_snoc c x hx r (acc ++ [z])
      exact ⟨hs, y, by rw [List.cons_append, cutS, if_neg hz, h1], by rw [cutS, if_neg hz, h2]⟩
theorem last_snoc (l : List UInt8) (x : UInt8) (hx : (x.toNat : Int) ≠ 46) : ∃ y, lastS (l ++ [x]) = y ++ [x] ∧ ∀ z ∈ y, z ∈ l := by
  obtain ⟨hs, y, h1, h2⟩ := cut_snoc 46 x hx l []
  refine ⟨y, ?_, ?_⟩
  · have hl : (cutS 46 [] (l ++ [x])).getLast? = some (y ++ [x]) := by rw [h1]; simp
    unfold lastS labelsS
    rw [hl, if_neg (by intro h; have := h.2; simp at this), List.getLastD_eq_getLast?, hl]; rfl
  · intro z hz
    have key : ∀ (m acc : List UInt8) (s : List UInt8), s ∈ cutS 46 acc m → ∀ z ∈ s, z ∈ acc ∨ z ∈ m := by
      intro m
      induction m with
      | nil => intro acc s hs z hz; simp [cutS] at hs; subst hs; exact .inl hz
      | cons a r ih =>
        intro acc s hs z hz
        rw [cutS] at hs
        split at hs
        · rcases List.mem_cons.1 hs with hs | hs
          · subst hs; exact .inl hz
          · rcases ih [] s hs z hz with h | h
            · cases h
            · exact .inr (by simp [h])
        · rcases ih _ s hs z hz with h | h
          · rcases List.mem_append.1 h with h | h
            · exact .inl h
            · exact .inr (by simp at h; simp [h])
          · exact .inr (by simp [h])
    rcases key l [] y (by rw [h2]; simp) z hz with h | h
    · cases h
    · exact h
/-- A name that ends in q is no number, and is parsed to itself or refused. -/
theorem parse_name (m : List UInt8) (hm : ∀ x ∈ m, nameB x = true) : let n := 113 :: (m ++ [113]); parseS n true = namedS n ∧ parseS (n.map upB) true = namedS n ∧ parseS (n.flatMap signB) true = namedS n ∧ (namedS n = none ∨ namedS n = some n) := by
  intro n
  have hn : ∀ x ∈ n, nameB x = true := by
    intro x hx
    rcases List.mem_cons.1 hx with rfl | hx
    · decide
    · rcases List.mem_append.1 hx with hx | hx
      · exact hm x hx
      · simp at hx; subst hx; decide
  have h37 : ∀ x ∈ n, x ≠ 37 := fun x hx => (name_facts x (hn x hx)).1
  have hup : ∀ x ∈ n.map upB, x ≠ 37 := by
    intro x hx
    obtain ⟨y, hy, rfl⟩ := List.mem_map.1 hx
    exact (name_facts y (hn y hy)).2.1
  have hlow : lower n = n := lower_id fun x hx => (name_facts x (hn x hx)).2.2.1
  have hlu : lower (n.map upB) = n := by
    unfold lower
    rw [List.map_map]
    conv => rhs; rw [← List.map_id n]
    exact List.map_congr_left fun x hx => (name_facts x (hn x hx)).2.2.2.1
  refine ⟨?_, ?_, ?_, ?_⟩
  · rw [parse_special (begins_no (by decide)), unp_id n h37, hlow]
  · rw [parse_special (show begins (n.map upB) [91] = false from begins_no (by decide)), unp_id _ hup, hlu]
  · rw [parse_special (show begins (n.flatMap signB) [91] = false from begins_no (by decide)), unp_signs, hlow]
  · unfold namedS
    split
    · have hnum : numberedS n = false := by
        obtain ⟨y, h1, h2⟩ := last_snoc (113 :: m) 113 (by decide)
        have h1 : lastS n = y ++ [113] := h1
        have hh : hexS (y ++ [113]) = false := by
          rw [Bool.eq_false_iff]
          intro h
          unfold hexS begins at h
          simp only [Bool.or_eq_true, Bool.and_eq_true, decide_eq_true_eq, beq_iff_eq] at h
          have h48 : (48 : UInt8) ∈ y ++ [113] := by
            rcases h with ⟨_, h⟩ | ⟨_, h⟩
            · exact (List.take_sublist 2 _).subset (show (48 : UInt8) ∈ List.take 2 (y ++ [113]) by rw [show List.take 2 (y ++ [113]) = [48, 120] from h]; simp)
            · exact (List.take_sublist 2 _).subset (show (48 : UInt8) ∈ List.take 2 (y ++ [113]) by rw [show List.take 2 (y ++ [113]) = [48, 88] from h]; simp)
          rcases List.mem_append.1 h48 with h | h
          · have := h2 _ h
            exact (name_facts 48 (hn 48 (by
              rcases List.mem_cons.1 this with h | h
              · simp at h
              · exact List.mem_cons_of_mem _ (List.mem_append.2 (.inl h))))).2.2.2.2.2.2.2.1 rfl
          · simp at h
        unfold numberedS
        rw [h1, hh, if_neg Bool.false_ne_true, mem_not_all (p := isDec) (x := 113) (by simp) (by decide), Bool.and_false]
      rw [hnum, if_neg Bool.false_ne_true]
      exact .inr rfl
    · exact .inl rfl
/-- A percent sign that is near the end of such a name refuses it. -/
theorem parse_sign (p q : List UInt8) (hp : ∀ x ∈ p, x ≠ 37) (h0 : p = [] ∨ p.head? ≠ some 91) (hq : q.length ≤ 2) (hl : q = [] ∨ q.getLast? = some 113) : parseS (p ++ 37 :: q) true = none := by
  have hb : begins (p ++ 37 :: q) [91] = false := by
    match p, h0 with
    | [], _ => exact begins_no (by decide)
    | x :: r, h0 =>
      refine begins_no (fun e => ?_)
      subst e
      rcases h0 with h | h
      · cases h
      · exact h rfl
  rw [parse_special hb, unp_pre p _ hp]
  apply named_bad
  refine mem_not_all (x := 37) ?_ (by decide)
  refine List.mem_map.2 ⟨37, List.mem_append.2 (.inr ?_), by decide⟩
  match q, hq, hl with
  | [], _, _ => rw [unp_short (by simp)]; simp
  | [a], _, _ => rw [unp_short (by simp)]; simp
  | [a, b], _, hl =>
    have hb : b = 113 := by
      rcases hl with h | h
      · cases h
      · simpa using h
    subst hb
    rw [unp_no (by intro h; exact absurd h.2 (by decide))]; simp
end Go.Proofs.YtbpkkgaaeodimaaGreatDoor
namespace Go.Proofs.YtbpkkgaaeodimaaGreatDoor
open Go.RowKit

/-! What an address is, in plain words. -/
structure UrlS where
  scheme : List UInt8
  user : List UInt8
  pass : List UInt8
  host : List UInt8
  hasHost : Bool
  port : Int
  opaq : Bool
  path : List (List UInt8)
  query : List UInt8
  frag : List UInt8
  hasQuery : Bool
  hasFrag : Bool
def noUrl : UrlS := ⟨[], [], [], [], false, 0, false, [], [], [], false, false⟩
def httpS : List UInt8 := [104, 116, 116, 112]
def httpsS : List UInt8 := [104, 116, 116, 112, 115]
def wsS : List UInt8 := [119, 115]
def wssS : List UInt8 := [119, 115, 115]
def ftpS : List UInt8 := [102, 116, 112]
def ownS (s : List UInt8) : Int := if s = httpS ∨ s = wsS then 80 else if s = httpsS ∨ s = wssS then 443 else if s = ftpS then 21 else -1
def specialS (s : List UInt8) : Bool := decide (0 ≤ ownS s)
def blankB (x : UInt8) : Bool := decide (x.toNat ≤ 32)
def lineB (x : UInt8) : Bool := x == 9 || x == 10 || x == 13
def trimS (l : List UInt8) : List UInt8 := rstrip blankB (l.dropWhile blankB)
def cleanS (l : List UInt8) : List UInt8 := (trimS l).filter fun x => !lineB x
def letterB (x : UInt8) : Bool := (decide (97 ≤ x.toNat) && decide (x.toNat ≤ 122)) || (decide (65 ≤ x.toNat) && decide (x.toNat ≤ 90))
def restB (x : UInt8) : Bool := isDec x || x == 43 || x == 45 || x == 46
/-- A scheme, in small letters, and what is behind its colon. -/
def schemeF (acc : List UInt8) : List UInt8 → Option (List UInt8 × List UInt8)
  | [] => none
  | c :: r => if c = 58 ∧ acc ≠ [] then some (lower acc, r) else if letterB c = true ∨ (acc ≠ [] ∧ restB c = true) then schemeF (acc ++ [c]) r else none
def schemeS (l : List UInt8) : Option (List UInt8 × List UInt8) := schemeF [] l
/-- Up to the first such byte; what is behind it; was it there? -/
def segS (c : UInt8) (l : List UInt8) : List UInt8 × List UInt8 × Bool := (l.takeWhile (· != c), (l.dropWhile (· != c)).drop 1, l.contains c)
def slashS : List UInt8 → List UInt8
  | [] => []
  | x :: r => if x = 63 then x :: r else (if x = 92 then 47 else x) :: slashS r
def setQ (s : List UInt8) : Int := if specialS s = true then 4 else 3
def fragS (u : UrlS) (l : List UInt8) : UrlS × List UInt8 := ({ u with hasFrag := (segS 35 l).2.2, frag := percent 2 (segS 35 l).2.1 }, (segS 35 l).1)
def queryS (u : UrlS) (l : List UInt8) : UrlS × List UInt8 := ({ u with hasQuery := (segS 63 l).2.2, query := percent (setQ u.scheme) (segS 63 l).2.1 }, (segS 63 l).1)
/-- The place behind which a port stands: the last colon that is not within brackets. -/
def colonF (inn : Bool) (i : Nat) (at' : Option Nat) : List UInt8 → Option Nat
  | [] => at'
  | x :: r => if inn = true then colonF (x != 93) (i + 1) at' r else if x = 91 then colonF true (i + 1) at' r else colonF false (i + 1) (if x = 58 then some i else at') r
def portedS (l : List UInt8) : List UInt8 × List UInt8 := match colonF false 0 none l with
  | none => (l, [])
  | some i => (l.take i, l.drop (i + 1))
/-- A user and a password, and what is behind the last such sign. -/
def lastAt (l : List UInt8) : Option Nat := if l.contains 64 then some (l.length - 1 - (l.reverse.takeWhile (· != 64)).length) else none
def userS (u : UrlS) (a : List UInt8) : UrlS × List UInt8 := match lastAt a with
  | none => (u, a)
  | some i => ({ u with user := percent 6 (segS 58 (a.take i)).1, pass := percent 6 (segS 58 (a.take i)).2.1 }, a.drop (i + 1))
/-- The port that a text tells; none: it is refused. -/
def portS (scheme p : List UInt8) : Option Int :=
  if p = [] then some (-1) else if (intS p).2 = true ∧ (intS p).1 ≤ 65535 then some (if (intS p).1 = ownS scheme then -1 else (intS p).1) else none
def authS (u : UrlS) (a : List UInt8) : Except Int UrlS :=
  let u1 := (userS u a).1
  let np := portedS (userS u a).2
  match portS u.scheme np.2 with
  | none => .error 11
  | some port => match parseS np.1 (specialS u.scheme) with
    | none => .error 10
    | some h => if h = [] ∧ (u1.user ≠ [] ∨ u1.pass ≠ [] ∨ np.2 ≠ []) then .error 10 else .ok { u1 with port := port, host := h, hasHost := true }
/-- How many dots a part is of, perhaps written as percent signs; 0: it is another one. -/
def dotN : List UInt8 → Option Nat
  | [] => some 0
  | 46 :: r => (dotN r).map (· + 1)
  | 37 :: 50 :: c :: r => if c = 101 ∨ c = 69 then (dotN r).map (· + 1) else none
  | _ :: _ => none
def dotsS (l : List UInt8) : Nat := match dotN l with
  | some 1 => 1
  | some 2 => 2
  | _ => 0
def pathF (hv : List (List UInt8)) : List (List UInt8) → List (List UInt8)
  | [] => hv
  | x :: r => pathF (if dotsS x = 0 then hv ++ [percent 5 x] else if r = [] then (if dotsS x = 2 then hv.dropLast else hv) ++ [[]] else (if dotsS x = 2 then hv.dropLast else hv)) r
def slashless (p : List UInt8) : List UInt8 := if p.head? = some 47 then p.drop 1 else p
/-- The parts of a path behind those that are there; what is behind it. -/
def pathS (hv : List (List UInt8)) (p : List UInt8) : List (List UInt8) := pathF hv (cutS 47 [] (slashless p))
def aheadQ (l : List UInt8) : List UInt8 := l.takeWhile (· != 63)
def behindQ (l : List UInt8) : List UInt8 := l.dropWhile (· != 63)
def rootedS (u : UrlS) (l : List UInt8) : UrlS :=
  (queryS (if aheadQ l = [] ∧ specialS u.scheme = false then { u with path := [] } else { u with path := pathS [] (aheadQ l) }) l).1
def stopB (x : UInt8) : Bool := x == 47 || x == 63
def behindS (u : UrlS) (l : List UInt8) : Except Int UrlS := match authS u (l.takeWhile fun x => !stopB x) with
  | .error e => .error e
  | .ok v => .ok (rootedS v (l.dropWhile fun x => !stopB x))
def allS (u0 : UrlS) (l : List UInt8) : Except Int UrlS :=
  let u := { u0 with port := -1 }
  if specialS u.scheme = true then behindS u ((slashS l).dropWhile (· == 47))
  else if begins l [47, 47] = true then behindS u (l.drop 2)
  else if begins l [47] = true then .ok (rootedS u l)
  else .ok { (queryS u l).1 with opaq := true, path := [percent 1 (aheadQ l)] }
/-- An address is parsed: of a text that is cleaned. -/
def parseC (l : List UInt8) : Except Int UrlS :=
  match schemeS (fragS noUrl l).2 with
  | none => .error 12
  | some (s, r) => allS { (fragS noUrl l).1 with scheme := s } r
def urlS (l : List UInt8) : Except Int UrlS := if 4096 < l.length then .error 3 else parseC (cleanS l)
def twiceB (l : List UInt8) : Bool := match l with
  | a :: b :: _ => (a == 47 || a == 92) && (b == 47 || b == 92)
  | _ => false
def joinedS (u : UrlS) (l0 : List UInt8) (base : UrlS) : Except Int UrlS :=
  let l := if specialS base.scheme = true then slashS l0 else l0
  if begins l [47, 47] = true then allS { noUrl with scheme := base.scheme, frag := u.frag, hasFrag := u.hasFrag } l
  else if begins l [47] = true then .ok (rootedS u l)
  else if l = [] then .ok u
  else if l.head? = some 63 then .ok (queryS u l).1
  else .ok (queryS { u with path := pathS base.path.dropLast (aheadQ l) } l).1
def relS (l : List UInt8) (base : UrlS) : Except Int UrlS :=
  let u := (fragS base l).1
  if base.opaq = true then (if (fragS base l).2 ≠ [] then .error 12 else .ok u) else joinedS u (fragS base l).2 base
def joinS (l0 : List UInt8) (base : UrlS) : Except Int UrlS :=
  if 4096 < l0.length then .error 3 else
  let l := cleanS l0
  match schemeS (segS 35 l).1 with
  | some (s, r) => if specialS s = false ∨ s ≠ base.scheme ∨ twiceB r = true then parseC l else relS (l.drop (s.length + 1)) base
  | none => relS l base
def bareS (u : UrlS) : List UInt8 :=
  u.scheme ++ [58] ++ (if u.hasHost = true then [47, 47] ++ u.user ++ (if u.pass ≠ [] then 58 :: u.pass else []) ++ (if u.user ≠ [] ∨ u.pass ≠ [] then [64] else []) ++ u.host ++ (if u.port ≠ -1 then 58 :: Lib.itoa u.port else []) else [])
    ++ (if u.hasHost = false ∧ u.opaq = false ∧ 1 < u.path.length ∧ u.path.head? = some [] then [47, 46] else [])
    ++ u.path.flatMap (fun x => if u.opaq = true then x else 47 :: x) ++ (if u.hasQuery = true then 63 :: u.query else [])
def textS (u : UrlS) : List UInt8 := bareS u ++ (if u.hasFrag = true then 35 :: u.frag else [])
end Go.Proofs.YtbpkkgaaeodimaaGreatDoor
namespace Go.Proofs.YtbpkkgaaeodimaaGreatDoor
open Go.RowKit

/-! The library's words at one byte are the plain ones. -/
theorem idx_take (c : UInt8) : ∀ l : List UInt8, (l.contains c = true ∧ Lib.indexByte l c = (l.takeWhile (· != c)).length) ∨ (l.contains c = false ∧ Lib.indexByte l c = -1)
  | [] => .inr ⟨rfl, rfl⟩
  | b :: l => by
    rw [Lib.indexByte, List.contains_cons, List.takeWhile_cons]
    by_cases h : b = c
    · subst h
      exact .inl ⟨by simp, by simp⟩
    · have h1 : (b == c) = false := by simpa using h
      have h2 : (c == b) = false := by simpa using fun e => h e.symm
      have h3 : (b != c) = true := by simpa using h
      rw [h1, h2, h3, Bool.false_or, if_neg Bool.false_ne_true, if_pos rfl]
      rcases idx_take c l with ⟨i1, i2⟩ | ⟨i1, i2⟩
      · refine .inl ⟨i1, ?_⟩
        rw [i2, if_neg (by intro e; have := beq_iff_eq.1 e; omega)]
        simp
      · exact .inr ⟨i1, by rw [i2]; rfl⟩
theorem take_tw (p : UInt8 → Bool) : ∀ l : List UInt8, l.take (l.takeWhile p).length = l.takeWhile p ∧ l.drop (l.takeWhile p).length = l.dropWhile p
  | [] => ⟨rfl, rfl⟩
  | b :: l => by
    obtain ⟨h1, h2⟩ := take_tw p l
    rw [List.takeWhile_cons, List.dropWhile_cons]
    cases p b
    · exact ⟨rfl, rfl⟩
    · exact ⟨by simp [h1], by simp [h2]⟩
theorem tw_all (c : UInt8) : ∀ l : List UInt8, l.contains c = false → l.takeWhile (· != c) = l ∧ l.dropWhile (· != c) = []
  | [], _ => ⟨rfl, rfl⟩
  | b :: l, h => by
    rw [List.contains_cons, Bool.or_eq_false_iff] at h
    have hb : (b != c) = true := by have := h.1; simp at this ⊢; exact fun e => this e.symm
    obtain ⟨h1, h2⟩ := tw_all c l h.2
    rw [List.takeWhile_cons, List.dropWhile_cons, hb]
    exact ⟨by simp [h1], by simp [h2]⟩
theorem cut_one (c : UInt8) (l : List UInt8) : Lib.cut l [c] = segS c l := by
  unfold Lib.cut segS
  rw [Lib.index_one]
  obtain ⟨t1, t2⟩ := take_tw (· != c) l
  rcases idx_take c l with ⟨h1, h2⟩ | ⟨h1, h2⟩
  · rw [h2, if_pos (by omega), Int.toNat_natCast, t1, h1, List.length_singleton, ← List.drop_drop, t2]
  · obtain ⟨e1, e2⟩ := tw_all c l h1
    rw [h2, if_neg (by omega), h1, e1, e2]; rfl
/-- One byte put in another's place. -/
def putB (a b : UInt8) (l : List UInt8) : List UInt8 := l.map fun x => if x = a then b else x
/-- strings.ReplaceAll step by step. -/
def repG (old new s : List UInt8) : List UInt8 := Lib.replaceK old new (Lib.count s old) s
theorem repG_nil (old new : List UInt8) (h : old ≠ []) : repG old new [] = [] := by
  have : Lib.index [] old = -1 := by
    unfold Lib.index
    cases old with
    | nil => exact absurd rfl h
    | cons _ _ => rfl
  unfold repG
  rw [Lib.count_miss this]; rfl
theorem repG_miss (old new s : List UInt8) (h : Lib.index s old = -1) : repG old new s = s := by
  unfold repG
  rw [Lib.count_miss h]; rfl
theorem repG_at (old new s : List UInt8) (hne : old ≠ []) (i : Nat) (h : Lib.index s old = i) : repG old new s = s.take i ++ new ++ repG old new (s.drop (i + old.length)) := by
  unfold repG
  rw [Lib.count_hit hne h, Nat.add_comm 1, Lib.replaceK_hit old new _ s i h]
theorem repG_hit (old new : List UInt8) (hne : old ≠ []) (x : UInt8) (r : List UInt8) (h : old.isPrefixOf (x :: r) = true) : repG old new (x :: r) = new ++ repG old new ((x :: r).drop old.length) := by
  have hi : Lib.index (x :: r) old = ((0 : Nat) : Int) := by rw [Lib.index, if_pos h]; rfl
  rw [repG_at old new _ hne 0 hi, Nat.zero_add]; rfl
theorem repG_step (old new : List UInt8) (hne : old ≠ []) (x : UInt8) (r : List UInt8) (h : old.isPrefixOf (x :: r) = false) : repG old new (x :: r) = x :: repG old new r := by
  have hx : Lib.index (x :: r) old = if Lib.index r old == -1 then -1 else Lib.index r old + 1 := by rw [Lib.index, h, if_neg Bool.false_ne_true]
  by_cases hm : Lib.index r old = -1
  · rw [hm] at hx
    rw [repG_miss old new _ hx, repG_miss old new r hm]
  · have hge := index_ge r old
    obtain ⟨i, hi⟩ : ∃ i : Nat, Lib.index r old = i := ⟨(Lib.index r old).toNat, by omega⟩
    have hx2 : Lib.index (x :: r) old = ((i + 1 : Nat) : Int) := by
      rw [hx, if_neg (by intro e; exact hm (beq_iff_eq.1 e)), hi]; rfl
    rw [repG_at old new _ hne (i + 1) hx2, repG_at old new r hne i hi, show i + 1 + old.length = (i + old.length) + 1 by omega, List.drop_succ_cons, List.take_succ_cons]; rfl
theorem replaceAll_is (s old new : List UInt8) (h : old ≠ new) : Lib.replaceAll s old new = repG old new s := by
  unfold Lib.replaceAll Lib.replace Lib.replaceNum
  rw [if_neg (by simpa using h), if_pos (.inl (by omega))]; rfl
theorem rep_one (a b : UInt8) : ∀ l : List UInt8, repG [a] [b] l = putB a b l
  | [] => repG_nil _ _ (by simp)
  | x :: r => by
    by_cases hx : x = a
    · rw [repG_hit [a] [b] (by simp) x r (by simp [List.isPrefixOf, hx])]
      show b :: repG [a] [b] r = _
      rw [rep_one a b r]; simp [putB, hx]
    · rw [repG_step [a] [b] (by simp) x r (by simp [List.isPrefixOf]; exact fun e => hx e.symm), rep_one a b r]; simp [putB, hx]
/-- %2e as a dot. -/
def repE : List UInt8 → List UInt8
  | 37 :: 50 :: 101 :: r => 46 :: repE r
  | x :: r => x :: repE r
  | [] => []
theorem repE_hit (r : List UInt8) : repE (37 :: 50 :: 101 :: r) = 46 :: repE r := by rw [repE]
theorem repE_step (x : UInt8) (r : List UInt8) (h : ¬ (x = 37 ∧ r.take 2 = [50, 101])) : repE (x :: r) = x :: repE r := by
  rw [repE.eq_def]
  split
  · rename_i e; simp at e; obtain ⟨rfl, rfl⟩ := e; simp at h
  · rename_i e; simp at e; rw [e.1, e.2]
  · rename_i e; simp at e
theorem pre_2e (x : UInt8) (r : List UInt8) : ([37, 50, 101] : List UInt8).isPrefixOf (x :: r) = true ↔ (x = 37 ∧ r.take 2 = [50, 101]) := by
  match r with
  | [] => simp [List.isPrefixOf]
  | [a] => simp [List.isPrefixOf]
  | a :: b :: t =>
    simp [List.isPrefixOf]
    constructor
    · rintro ⟨h1, h2, h3⟩; exact ⟨h1.symm, h2.symm, h3.symm⟩
    · rintro ⟨h1, h2, h3⟩; exact ⟨h1.symm, h2.symm, h3.symm⟩
theorem rep_2e : ∀ (n : Nat) (l : List UInt8), l.length ≤ n → repG [37, 50, 101] [46] l = repE l
  | _, [], _ => repG_nil _ _ (by simp)
  | 0, x :: r, h => by simp at h
  | n + 1, x :: r, h => by
    have hr : r.length ≤ n := by simpa using h
    by_cases hp : x = 37 ∧ r.take 2 = [50, 101]
    · obtain ⟨rfl, ht⟩ := hp
      match r, ht, hr with
      | a :: b :: t, ht, hr =>
        simp at ht
        obtain ⟨rfl, rfl⟩ := ht
        rw [repG_hit _ _ (by simp) _ _ (by simp [List.isPrefixOf]), repE_hit]
        show 46 :: repG [37, 50, 101] [46] t = _
        rw [rep_2e n t (by simp at hr; omega)]
      | [], ht, _ => simp at ht
      | [_], ht, _ => simp at ht
    · have hf : ([37, 50, 101] : List UInt8).isPrefixOf (x :: r) = false := by
        rw [Bool.eq_false_iff]; intro e; exact hp ((pre_2e x r).1 e)
      rw [repG_step _ _ (by simp) x r hf, repE_step x r hp, rep_2e n r hr]
theorem low_dot (x : UInt8) (h : low x = 46) : x = 46 := by
  have := u8_imp (p := fun x => !(low x == 46) || x == 46) (by decide +kernel) x
  rw [h] at this; simpa using this
theorem low_e (x : UInt8) : low x = 101 ↔ (x = 101 ∨ x = 69) := by
  have := u8_imp (p := fun x => (low x == 101) == (x == 101 || x == 69)) (by decide +kernel) x
  simp only [beq_iff_eq] at this
  rw [Bool.eq_iff_iff] at this
  simpa using this
theorem low_n (x c : UInt8) (h : c = 37 ∨ c = 50) : low x = c ↔ x = c := by
  have := u8_imp (p := fun x => ((low x == 37) == (x == 37)) && ((low x == 50) == (x == 50))) (by decide +kernel) x
  simp only [Bool.and_eq_true, beq_iff_eq] at this
  obtain ⟨h1, h2⟩ := this
  rw [Bool.eq_iff_iff] at h1 h2
  rcases h with rfl | rfl
  · simpa using h1
  · simpa using h2
/-- A part is of n dots just if it is, in small letters and with %2e as a dot, n dots. -/
theorem dots_rep : ∀ (k : Nat) (l : List UInt8), l.length ≤ k → ∀ n, dotN l = some n ↔ repE (lower l) = List.replicate n 46
  | _, [], _, n => by
    have e : dotN [] = some 0 := rfl
    have e2 : repE (lower []) = [] := rfl
    rw [e, e2]
    cases n with
    | zero => simp
    | succ n => simp [List.replicate_succ]
  | 0, x :: r, h, _ => by simp at h
  | k + 1, x :: r, h, n => by
    have hr : r.length ≤ k := by simpa using h
    have hl : lower (x :: r) = low x :: lower r := rfl
    by_cases h46 : x = 46
    · subst h46
      have ih := dots_rep k r hr
      have e1 : dotN (46 :: r) = (dotN r).map (· + 1) := by rw [dotN]
      have e2 : repE (lower (46 :: r)) = 46 :: repE (lower r) := by
        rw [hl]; exact repE_step _ _ (by intro ⟨e, _⟩; exact absurd e (by decide))
      rw [e1, e2]
      cases n with
      | zero => simp
      | succ n => rw [List.replicate_succ, List.cons.injEq, ← ih n, Option.map_eq_some_iff]; simp
    · by_cases hq : x = 37 ∧ ∃ c t, r = 50 :: c :: t ∧ (c = 101 ∨ c = 69)
      · obtain ⟨rfl, c, t, rfl, hc⟩ := hq
        have ih := dots_rep k t (by simp at hr; omega)
        have e1 : dotN (37 :: 50 :: c :: t) = (dotN t).map (· + 1) := by
          rw [dotN.eq_def]; simp only []; rw [if_pos hc]
        have e2 : repE (lower (37 :: 50 :: c :: t)) = 46 :: repE (lower t) := by
          show repE (low 37 :: low 50 :: low c :: lower t) = _
          rw [(low_e c).2 hc]
          exact repE_hit _
        rw [e1, e2]
        cases n with
        | zero => simp
        | succ n => rw [List.replicate_succ, List.cons.injEq, ← ih n, Option.map_eq_some_iff]; simp
      · have e1 : dotN (x :: r) = none := by
          rw [dotN.eq_def]
          split
          · rename_i e; simp at e
          · rename_i e; simp at e; exact absurd e.1 h46
          · rename_i c t e
            simp at e
            obtain ⟨rfl, rfl⟩ := e
            rw [if_neg (fun hc => hq ⟨rfl, c, t, rfl, hc⟩)]
          · rfl
        have e2 : repE (lower (x :: r)) = low x :: repE (lower r) := by
          rw [hl]
          apply repE_step
          intro ⟨e, ht⟩
          have hx := (low_n x 37 (.inl rfl)).1 e
          match r, ht with
          | [], ht => simp [lower] at ht
          | [_], ht => simp [lower] at ht
          | a :: c :: t, ht =>
            simp [lower] at ht
            exact hq ⟨hx, c, t, by rw [(low_n a 50 (.inr rfl)).1 ht.1], (low_e c).1 ht.2⟩
        rw [e1, e2]
        constructor
        · intro e; cases e
        · intro e
          cases n with
          | zero => cases e
          | succ n =>
            rw [List.replicate_succ, List.cons.injEq] at e
            exact absurd (low_dot x e.1) h46
theorem dots_is (l : List UInt8) : dotsS l = if repE (lower l) = [46] then 1 else if repE (lower l) = [46, 46] then 2 else 0 := by
  have h := dots_rep l.length l (Nat.le_refl _)
  have k1 : dotN l = some 1 ↔ repE (lower l) = [46] := h 1
  have k2 : dotN l = some 2 ↔ repE (lower l) = [46, 46] := h 2
  unfold dotsS
  split
  · rename_i e; rw [if_pos (k1.1 e)]
  · rename_i e
    have e2 := k2.1 e
    rw [if_neg (by rw [e2]; decide), if_pos e2]
  · rename_i h1 h2
    rw [if_neg (fun e => h1 (k1.2 e)), if_neg (fun e => h2 (k2.2 e))]
end Go.Proofs.YtbpkkgaaeodimaaGreatDoor
namespace Go.Proofs.YtbpkkgaaeodimaaGreatDoor
open Go.RowKit

/-- All blocks that were there but g are as they were. -/
structure BelX (g : Nat) (w w' : World) : Prop where
  os : w'.os = w.os
  tape : w'.tape = w.tape
  output : w'.output = w.output
  size : w.heap.size ≤ w'.heap.size
  block : ∀ k, k < w.heap.size → k ≠ g → w'.heap[k]? = w.heap[k]?
theorem BelX.refl (g : Nat) (w : World) : BelX g w w := ⟨rfl, rfl, rfl, Nat.le_refl _, fun _ _ _ => rfl⟩
theorem BelX.trans {g : Nat} {a b c : World} (h : BelX g a b) (k : BelX g b c) : BelX g a c :=
  ⟨k.os.trans h.os, k.tape.trans h.tape, k.output.trans h.output, Nat.le_trans h.size k.size, fun i hi hn => (k.block i (Nat.lt_of_lt_of_le hi h.size) hn).trans (h.block i hi hn)⟩
theorem BelX.of {w w' : World} (g : Nat) (h : Bel w w') : BelX g w w' := ⟨h.os, h.tape, h.output, h.size, fun k hk _ => h.block k hk⟩
theorem BelX.bel {g : Nat} {w0 w w' : World} (h0 : Bel w0 w) (hg : w0.heap.size ≤ g) (h : BelX g w w') : Bel w0 w' :=
  ⟨h.os.trans h0.os, h.tape.trans h0.tape, h.output.trans h0.output, Nat.le_trans h0.size h.size, fun k hk => (h.block k (Nat.lt_of_lt_of_le hk h0.size) (by omega)).trans (h0.block k hk)⟩
theorem BelX.heap {g : Nat} {w w' : World} (h : BelX g w w') {k : Nat} {o : Obj} (hn : k ≠ g) (hk : w.heap[k]? = some o) : w'.heap[k]? = some o :=
  (h.block k (Array.getElem?_eq_some_iff.1 hk).1 hn).trans hk
theorem BelX.cell {g : Nat} {w w' : World} (h : BelX g w w') {a : Addr} {v : Value} (hn : a.block ≠ g) (hc : w.cell? a = some v) : w'.cell? a = some v := by
  have hb := World.block_lt_of_cell? w a hc
  have := h.block a.block hb hn
  unfold World.cell? at hc ⊢
  rw [this]; exact hc
end Go.Proofs.YtbpkkgaaeodimaaGreatDoor
namespace Go.Proofs.YtbpkkgaaeodimaaGreatDoor
open Go.RowKit

theorem bl_eq (s : ByteArray) (l : List UInt8) : s.toList = l ↔ bl s = l := by rw [toList_bl]
set_option maxHeartbeats 1000000 in
theorem url_Own (s : ByteArray) (w : World) : Calls Tryz.prog 36 #[.string s] w fun e w' => e = .returned (.int .i64 (ownS (bl s))) ∧ w = w' := by
  go_enter Tryz.func36, Tryz.ntmps36
  go_wp2
  all_goals
    go_ret
    refine ⟨ret_int ?_, rfl⟩
    simp_all [ownS, httpS, httpsS, wsS, wssS, ftpS, toList_bl]
set_option maxHeartbeats 1000000 in
theorem ref3_Own (s : ByteArray) (w : World) : Calls Tryz.prog 62 #[.string s] w fun e w' => e = .returned (.int .i64 (ownS (bl s))) ∧ w = w' := by
  go_enter Tryz.func62, Tryz.ntmps62
  go_wp2
  all_goals
    go_ret
    refine ⟨ret_int ?_, rfl⟩
    simp_all [ownS, httpS, httpsS, wsS, wssS, ftpS, toList_bl]
theorem url_Special (s : ByteArray) (w : World) : Calls Tryz.prog 35 #[.string s] w fun e w' => e = .returned (.bool (specialS (bl s))) ∧ w = w' := by
  go_enter Tryz.func35, Tryz.ntmps35
  go_wp2_with fail
  refine (url_Own s _).mono ?_
  rintro e w1 ⟨rfl, rfl⟩
  go_wp2
  go_ret
  exact ⟨rfl, rfl⟩
theorem ref3_Special (s : ByteArray) (w : World) : Calls Tryz.prog 40 #[.string s] w fun e w' => e = .returned (.bool (specialS (bl s))) ∧ w = w' := by
  go_enter Tryz.func40, Tryz.ntmps40
  go_wp2_with fail
  refine (ref3_Own s _).mono ?_
  rintro e w1 ⟨rfl, rfl⟩
  go_wp2
  go_ret
  exact ⟨rfl, rfl⟩
end Go.Proofs.YtbpkkgaaeodimaaGreatDoor
