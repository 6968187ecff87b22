import Derived.Test.YtbpkkgaaeodimaaGreatDoorXG05
import Derived.Lib.AtoiAll
import Derived.StillTailTactics
namespace Go.Proofs.YtbpkkgaaeodimaaGreatDoor
open Go.RowKit

theorem valF_app (b : Nat) : ∀ (l r : List UInt8) (n : Nat), valF b n (l ++ r) = valF b (valF b n l) r
  | [], _, _ => rfl
  | x :: l, r, n => by rw [List.cons_append, valF, valF_app b l r, valF]
theorem valF_lt (b : Nat) (hb : 1 ≤ b) : ∀ (l : List UInt8) (n : Nat), l.all (okDig b) = true → valF b n l < (n + 1) * b ^ l.length
  | [], n, _ => by simp [valF]
  | x :: r, n, h => by
    rw [List.all_cons, Bool.and_eq_true] at h
    have hx : (hexV x.toNat).toNat + 1 ≤ b := by have := h.1; simp [okDig] at this; omega
    rw [valF, List.length_cons]
    refine Nat.lt_of_lt_of_le (valF_lt b hb r _ h.2) ?_
    rw [Nat.pow_succ, Nat.mul_comm (b ^ r.length) b, ← Nat.mul_assoc]
    refine Nat.mul_le_mul_right _ ?_
    rw [Nat.add_mul, Nat.one_mul, Nat.add_assoc]
    exact Nat.add_le_add_left hx _
theorem valS_lt (b : Nat) (hb : 1 ≤ b) (l : List UInt8) (h : l.all (okDig b) = true) : valS b l < b ^ l.length := by
  have := valF_lt b hb l 0 h
  unfold valS
  omega
theorem digit_back (x : UInt8) (h : isDec x = true) : dgc ((hexV x.toNat).toNat) = x ∧ (hexV x.toNat).toNat < 10 := by
  have := u8_all (p := fun x => !(isDec x) || (decide (dgc ((hexV x.toNat).toNat) = x) && decide ((hexV x.toNat).toNat < 10))) (q := fun _ => true) (by decide +kernel) x
  simpa [h] using this
theorem all10 (l : List UInt8) : l.all (okDig 10) = l.all isDec := by congr 1; funext x; exact ok10 x
/-- A numeral with no needless zero ahead is the digits of its value. -/
theorem digs_back : ∀ (l : List UInt8), l.all isDec = true → l ≠ [] → (l.length ≤ 1 ∨ l.head? ≠ some 48) → digs 10 (valS 10 l) = l := by
  intro l
  induction hn : l.length generalizing l with
  | zero => intro _ h0; exact absurd (List.length_eq_zero_iff.1 hn) h0
  | succ n ih =>
    intro hall h0 hz
    obtain ⟨r, c, rfl⟩ : ∃ r c, l = r ++ [c] := ⟨l.dropLast, l.getLast h0, (List.dropLast_concat_getLast h0).symm⟩
    rw [List.all_append, Bool.and_eq_true] at hall
    have hc := digit_back c (by simpa using hall.2)
    have hv : valS 10 (r ++ [c]) = valS 10 r * 10 + (hexV c.toNat).toNat := by unfold valS; rw [valF_app]; rfl
    rw [hv]
    by_cases hr : r = []
    · subst hr
      rw [show valS 10 [] = 0 from rfl, Nat.zero_mul, Nat.zero_add, digs_small hc.2, hc.1]; rfl
    · obtain ⟨x, r', rfl⟩ : ∃ x r', r = x :: r' := by cases r with | nil => exact absurd rfl hr | cons x r' => exact ⟨x, r', rfl⟩
      have hx : x ≠ 48 := by
        intro e; subst e
        rcases hz with hz | hz
        · simp at hn; omega
        · simp at hz
      have hpos : 1 ≤ valS 10 (x :: r') := by
        have h1 := hall.1
        rw [List.all_cons, Bool.and_eq_true] at h1
        have hx2 := digit_back x h1.1
        have : 1 ≤ (hexV x.toNat).toNat := by
          rcases Nat.eq_zero_or_pos (hexV x.toNat).toNat with h | h
          · rw [h] at hx2; exact absurd hx2.1.symm hx
          · exact h
        unfold valS; rw [valF]
        refine Nat.le_trans ?_ (valF_ge 10 (by omega) r' _)
        omega
      rw [digs_step (by omega) (by omega)]
      have e1 : (valS 10 (x :: r') * 10 + (hexV c.toNat).toNat) / 10 = valS 10 (x :: r') := by omega
      have e2 : (valS 10 (x :: r') * 10 + (hexV c.toNat).toNat) % 10 = (hexV c.toNat).toNat := by omega
      rw [e1, e2, hc.1, ih (x :: r') (by simp at hn ⊢; exact hn) hall.1 (by simp) (by right; simpa using hx)]
/-- One with a needless zero is not. -/
theorem digs_zero (r : List UInt8) (h : (48 :: r).all isDec = true) (h0 : r ≠ []) : digs 10 (valS 10 (48 :: r)) ≠ 48 :: r := by
  intro e
  have hv : valS 10 (48 :: r) = valS 10 r := by unfold valS; rw [valF]; rfl
  rw [hv] at e
  rw [List.all_cons, Bool.and_eq_true] at h
  have hl := digs_len 10 (by omega) r.length (valS 10 r) (valS_lt 10 (by omega) r (by rw [all10]; exact h.2)) (List.length_pos_iff.2 h0)
  rw [e] at hl
  simp at hl
  omega
/-- A number from 0 to 255 written as it is to be. -/
def byteS (x : List UInt8) : Option Nat := if x ≠ [] ∧ x.all isDec = true ∧ valS 10 x ≤ 255 ∧ digs 10 (valS 10 x) = x then some (valS 10 x) else none
theorem byte_le {x : List UInt8} {d : Nat} (h : byteS x = some d) : d ≤ 255 := by
  unfold byteS at h
  split at h
  · rename_i hh; have := Option.some.inj h; omega
  · cases h
def max63 : Nat := 9223372036854775807
theorem intF_is : ∀ (l : List UInt8) (m : Nat), intF (min m max63 : Nat) l = if l.all isDec = true then some ((min (valF 10 m l) max63 : Nat) : Int) else none
  | [], m => by simp [intF, valF]
  | x :: r, m => by
    rw [intF]
    cases hx : isDec x
    · rw [show isDigit x.toNat = false from hx]; simp [hx]
    · rw [show isDigit x.toNat = true from hx]
      have hd := digit_back x hx
      have hx' : isDigit x.toNat = true := hx
      unfold isDigit at hx'
      have hr : (48 : Int) ≤ x.toNat ∧ (x.toNat : Int) ≤ 57 := by simpa using hx'
      have hv : hexV x.toNat = x.toNat - 48 := hexV_dec x hr.1 hr.2
      have hN : intN (min m max63 : Nat) x = (min (m * 10 + (hexV x.toNat).toNat) max63 : Nat) := by
        unfold intN max63
        rw [hv]
        split <;> omega
      rw [hN]
      have := intF_is r (m * 10 + (hexV x.toNat).toNat)
      simp only [if_true, this, valF, List.all_cons, hx, Bool.true_and]
theorem byte_ref (x : List UInt8) : byteS x = if (intS x).2 = true ∧ (intS x).1 ≤ 255 ∧ ¬ (1 < x.length ∧ x.head? = some 48) then some (intS x).1.toNat else none := by
  have hi := intF_is x 0
  rw [Nat.zero_min] at hi
  unfold intS
  rw [show ((0 : Nat) : Int) = 0 from rfl] at hi
  rw [hi]
  unfold byteS valS
  cases ha : x.all isDec
  · simp
  · by_cases h0 : x = []
    · subst h0; simp
    · have hp : 0 < x.length := List.length_pos_iff.2 h0
      simp only [if_true, hp, decide_true, true_and, ne_eq, h0, not_false_eq_true]
      by_cases hz : 1 < x.length ∧ x.head? = some 48
      · rw [if_neg, if_neg]
        · rintro ⟨_, h⟩; exact h hz
        · rintro ⟨_, h⟩
          obtain ⟨r, rfl⟩ : ∃ r, x = 48 :: r := by
            cases x with
            | nil => exact absurd rfl h0
            | cons y r => exact ⟨r, by have := hz.2; simp at this; rw [this]⟩
          exact digs_zero r ha (by intro e; subst e; simp at hz) h
      · have hb := digs_back x ha h0 (by
          by_cases h1 : x.length ≤ 1
          · exact .inl h1
          · right; intro h; exact hz ⟨by omega, h⟩)
        unfold valS at hb
        by_cases hv : valF 10 0 x ≤ 255
        · rw [if_pos ⟨hv, hb⟩, if_pos ⟨by unfold max63; omega, hz⟩]
          congr 1
          unfold max63; omega
        · rw [if_neg (fun h => hv h.1), if_neg (fun h => hv (by have := h.1; unfold max63 at this; omega))]
/-- What strconv.Atoi says of digits. -/
theorem parse10_is : ∀ (l : List UInt8) (m : Nat), l.all isDec = true → m < 18446744073709551616 → Lib.parseUint10 m l = if valF 10 m l < 18446744073709551616 then .ok (valF 10 m l) else .range
  | [], m, _, hm => by simp [Lib.parseUint10, valF, hm]
  | x :: r, m, h, hm => by
    rw [List.all_cons, Bool.and_eq_true] at h
    have hx' : isDigit x.toNat = true := h.1
    unfold isDigit at hx'
    have hr : (48 : Int) ≤ x.toNat ∧ (x.toNat : Int) ≤ 57 := by simpa using hx'
    have hv : hexV x.toNat = x.toNat - 48 := hexV_dec x hr.1 hr.2
    have hv2 : (hexV x.toNat).toNat = x.toNat - 48 := by rw [hv]; omega
    have hge := valF_ge 10 (by omega) r (m * 10 + (x.toNat - 48))
    rw [Lib.parseUint10, if_pos (by omega), valF, hv2]
    split
    · rw [if_neg (by omega)]
    · split
      · rw [if_neg (by omega)]
      · exact parse10_is r _ h.2 (by omega)
theorem atoi_dec (l : List UInt8) (h : l.all isDec = true) (h0 : l ≠ []) : Lib.atoiAll l = if valS 10 l < 9223372036854775808 then .ok ((valS 10 l : Nat) : Int) else .range := by
  cases l with
  | nil => exact absurd rfl h0
  | cons x r =>
    have hh := h
    rw [List.all_cons, Bool.and_eq_true] at hh
    have hx' : isDigit x.toNat = true := hh.1
    unfold isDigit at hx'
    have hr : (48 : Int) ≤ x.toNat ∧ (x.toNat : Int) ≤ 57 := by simpa using hx'
    have hp := parse10_is (x :: r) 0 h (by omega)
    unfold Lib.atoiAll
    simp only
    rw [if_neg (by omega)]
    unfold Lib.parseMag
    rw [if_neg (by simp), hp]
    unfold valS
    by_cases h1 : valF 10 0 (x :: r) < 9223372036854775808
    · rw [if_pos (by omega), if_pos h1]
      simp only
      rw [if_neg (by omega), if_neg (by omega), if_neg (by omega)]
    · rw [if_neg h1]
      by_cases h2 : valF 10 0 (x :: r) < 18446744073709551616
      · rw [if_pos h2]; simp only; rw [if_pos (by omega)]
      · rw [if_neg h2]
/-- Four numbers as one. -/
def dot4F (n : Nat) : List (List UInt8) → Option Nat
  | [] => some n
  | x :: r => match byteS x with
    | none => none
    | some d => dot4F (n * 256 + d) r
theorem dot4_none {n : Nat} {x : List UInt8} {r : List (List UInt8)} (h : byteS x = none) : dot4F n (x :: r) = none := by rw [dot4F, h]
theorem dot4_some {n d : Nat} {x : List UInt8} {r : List (List UInt8)} (h : byteS x = some d) : dot4F n (x :: r) = dot4F (n * 256 + d) r := by rw [dot4F, h]
/-- Two pieces out of four decimal numbers. -/
def dottedS (l : List UInt8) : Option (List Nat) := if (cutS 46 [] l).length = 4 then (dot4F 0 (cutS 46 [] l)).map fun n => [n / 65536, n % 65536] else none
end Go.Proofs.YtbpkkgaaeodimaaGreatDoor
namespace Go.Proofs.YtbpkkgaaeodimaaGreatDoor
open Go.RowKit

theorem wrap_small (n : Nat) (h : n < 9223372036854775808) : IntKind.i64.wrap (n : Int) = (n : Int) := by
  have e : (n : Int) % 2 ^ 64 = n := Int.emod_eq_of_lt (by omega) (by omega)
  simp only [IntKind.wrap, IntKind.bits, IntKind.signed, e]
  rw [if_neg]
  simp
  omega
theorem or_i64 (a d : Nat) (ha : a < 1099511627776) (hd : d ≤ 255) : Go.bits .or .i64 ((a * 256 : Nat) : Int) (d : Int) = ((a * 256 + d : Nat) : Int) := by
  show IntKind.i64.wrap ((BitVec.ofInt 64 ((a * 256 : Nat) : Int) ||| BitVec.ofInt 64 (d : Int)).toNat : Int) = _
  have h1 : (BitVec.ofInt 64 ((a * 256 : Nat) : Int)).toNat = a * 256 := by
    rw [BitVec.ofInt_natCast, BitVec.toNat_ofNat]; exact Nat.mod_eq_of_lt (by omega)
  have h2 : (BitVec.ofInt 64 (d : Int)).toNat = d := by
    rw [BitVec.ofInt_natCast, BitVec.toNat_ofNat]; exact Nat.mod_eq_of_lt (by omega)
  have h3 : a * 256 ||| d = a * 256 + d := by
    have := Nat.shiftLeft_add_eq_or_of_lt (i := 8) (b := d) (by omega) a
    rw [Nat.shiftLeft_eq] at this
    exact this.symm
  rw [BitVec.toNat_or, h1, h2, h3]
  exact wrap_small _ (by omega)
theorem mul_i64 (a : Nat) (ha : a < 1099511627776) : IntKind.i64.wrap ((a : Int) * 256) = ((a * 256 : Nat) : Int) := by
  rw [show ((a : Int) * 256) = ((a * 256 : Nat) : Int) from (Int.natCast_mul a 256).symm]
  exact wrap_small _ (by omega)
/-- A row of 16-bit numbers. -/
def u16s (l : List Nat) : List Value := l.map fun (n : Nat) => Value.int .u16 (n : Int)
/-- A row that can be read: from nil on. -/
def IsRow (w : World) (base : Nat) (v : Value) (l : List Nat) : Prop := Hid (Own w base 149 v (u16s l))
def dotted_post (w w' : World) (e : Ending) (o : Option (List Nat)) : Prop := ∃ v, e = .returned (.tuple #[v, .bool o.isSome]) ∧ match o with
  | none => v = .slice none 0 0
  | some l => ∃ g c, v = .slice (some ⟨g, 0, none⟩) l.length c ∧ l.length ≤ c ∧ w.heap.size ≤ g ∧ RdAt w' g (u16s l)
theorem cut_mem_len {c : Int} {l x : List UInt8} (h : x ∈ cutS c [] l) : x.length ≤ l.length := by
  have key : ∀ (m acc : List UInt8), x ∈ cutS c acc m → x.length ≤ acc.length + m.length := by
    intro m
    induction m with
    | nil => intro acc h; simp [cutS] at h; subst h; simp
    | cons a r ih =>
      intro acc h
      unfold cutS at h
      split at h
      · rcases List.mem_cons.1 h with h | h
        · subst h; simp
        · have := ih [] h; simp at this ⊢; omega
      · have := ih _ h; simp at this ⊢; omega
  simpa using key l [] h
theorem dotted_no {w w' : World} {o : Option (List Nat)} (h : o = none) : dotted_post w w' (.returned (.tuple #[.slice none 0 0, .bool false])) o := by
  subst h; exact ⟨_, rfl, rfl⟩
theorem dotted_yes {w W : World} {o : Option (List Nat)} {n : Nat} {x y : Int} (h : o = some [n / 65536, n % 65536]) (hx : x = (n : Int) / 65536) (hy : y = IntKind.u16.wrap n) (hb : w.heap.size ≤ W.heap.size) :
    dotted_post w (W.alloc (.cells #[.int .u16 x, .int .u16 y] 149)) (.returned (.tuple #[.slice (some ⟨W.heap.size, 0, none⟩) 2 2, .bool true])) o := by
  subst h hx hy
  refine ⟨_, rfl, W.heap.size, 2, rfl, Nat.le_refl _, hb, ?_⟩
  have := RdAt.alloc W (u16s [n / 65536, n % 65536]) 149
  rw [IntKind.wrap_u16]
  simpa [u16s] using this
set_option maxHeartbeats 4000000 in
set_option maxRecDepth 100000 in
theorem host_dotted (s : ByteArray) (w : World) (hs : s.size ≤ 1000000) (HE : Hid (Env w)) :
    Calls Tryz.prog 227 #[.string s] w fun e w' => dotted_post w w' e (dottedS (bl s)) ∧ Hid (Bel w w') := by
  go_enter Tryz.func227, Tryz.ntmps227
  go_wp2_with fail
  refine (host_Split 46 s _ hs HE).mono ?_
  rintro e w1 ⟨⟨g, c, rfl, hc, hR⟩, HB1⟩
  try rw [show ((46 : UInt8).toNat : Int) = 46 from rfl] at *
  have HL : Hid (∀ x, x ∈ cutS 46 [] (bl s) → x.length ≤ s.size) := fun x hx => by have := cut_mem_len hx; rw [bl_length] at this; exact this
  have HS : Hid (dottedS (bl s) = if (cutS 46 [] (bl s)).length = 4 then (dot4F 0 (cutS 46 [] (bl s))).map fun n => [n / 65536, n % 65536] else none) := rfl
  generalize cutS 46 [] (bl s) = ls at *
  by_cases h4 : ls.length = 4
  · have HF : Hid (dottedS (bl s) = (dot4F 0 ls).map fun n => [n / 65536, n % 65536]) := HS.out.trans (if_pos h4)
    rw [h4] at hc ⊢
    have HN := Lib.hid h4
    clear HS h4
    go_wp2
    go_loopg [5, 17] 4 (fun r v5 v17 wr => ∃ (n k : Nat), v5 = .int .i64 n ∧ v17 = .int .i64 k ∧ k + r = 4 ∧ Hid (n < 256 ^ k) ∧ Hid (dottedS (bl s) = (dot4F n (ls.drop k)).map fun n => [n / 65536, n % 65536]) ∧ Hid (Bel w1 wr))
    case atStart => exact ⟨0, 0, rfl, rfl, by omega, by unfold Hid; omega, HF, by unfold Hid; exact Below.refl _ _⟩
    case round =>
      obtain ⟨n, k, rfl, rfl, hk, HM, HI, HB⟩ := hrel
      have HB4 := Lib.hid (bel_trans HB1.out HB.out)
      cases gk with
      | zero =>
        obtain rfl : k = 4 := by omega
        have hn : n < 4294967296 := HM.out
        have hX := HI.out
        rw [List.drop_eq_nil_of_le (by rw [HN.out]; omega)] at hX
        have HX := Lib.hid hX
        clear HI HF hX HM
        go_wp2
        go_ret2
        have hsz := HB4.out.size
        exact ⟨dotted_yes HX.out (by first | rfl | (rw [IntKind.wrap_u16]; omega)) rfl hsz, HB4.out.alloc (by omega) _⟩
      | succ g' =>
        obtain ⟨u, hu⟩ : ∃ u, ls[k]? = some (bl u) := ⟨⟨(ls[k]'(by rw [HN.out]; omega)).toArray⟩, by rw [bl_mk]; exact List.getElem?_eq_getElem _⟩
        have hus := HL.out _ (List.mem_of_getElem? hu)
        rw [bl_length] at hus
        have hI := HI.out
        rw [drop_get hu] at hI
        have hcell := strs_cell (hR.out.bel HB.out) hu
        have HE1 := Lib.hid ((HE.out.bel HB1.out).bel HB.out)
        have HX := Lib.hid hI
        have hm : n < 1099511627776 := by
          have := HM.out
          have h3 : 256 ^ k ≤ 256 ^ 3 := Nat.pow_le_pow_right (by omega) (by omega)
          omega
        clear hI HI hu HF
        by_cases hA : (bl u).all isDec = true ∧ bl u ≠ []
        · have hat := atoi_dec (bl u) hA.1 hA.2
          have HA := Lib.hid hA
          clear hA
          by_cases hv : valS 10 (bl u) < 9223372036854775808
          · rw [if_pos hv] at hat
            have HAt := Lib.hid hat
            have HVV := Lib.hid hv
            clear hat
            go_wp2_with fail
            refine (Tryz.strconv_Atoi_ok u (by omega) _ HAt.out _).mono ?_
            rintro e w2 ⟨rfl, hw2⟩
            have HB5 : Hid (Bel wr w2) := by
              rcases hw2 with rfl | ⟨t, rfl⟩
              · exact Below.refl _ _
              · exact bel_bytes _ _ _
            clear hw2
            have HE2 := Lib.hid (HE1.out.bel HB5.out)
            have hB : byteS (bl u) = if valS 10 (bl u) ≤ 255 ∧ digs 10 (valS 10 (bl u)) = bl u then some (valS 10 (bl u)) else none := by
              unfold byteS; simp only [HA.out.1, HA.out.2, ne_eq, not_false_eq_true, true_and]
            obtain ⟨d, hd⟩ : ∃ d, valS 10 (bl u) = d := ⟨_, rfl⟩
            rw [hd] at hB hv ⊢
            have HBy := Lib.hid hB
            clear hB hd HVV HAt
            go_wp2_with fail
            refine (host_all u _ _ (by omega) (by decide) (asc_of (by decide)) HE2).mono ?_
            rintro e w3 ⟨rfl, HB6⟩
            have HF6 : Hid ((bl u).all (bl ⟨#[48, 49, 50, 51, 52, 53, 54, 55, 56, 57]⟩).contains = true) := by unfold Hid; rw [← HA.out.1]; congr 1; funext y; exact dec_eq y
            rw [HF6.out]
            have HB7 := Lib.hid (bel_trans HB5.out HB6.out)
            have HE3 := Lib.hid (HE1.out.bel HB7.out)
            have hd63 : (d : Int) ≤ 9223372036854775807 := by omega
            clear hv
            by_cases h255 : d ≤ 255
            · have h255' : (d : Int) ≤ 255 := by omega
              by_cases he : digs 10 d = bl u
              · have HY : Hid (dottedS (bl s) = (dot4F (n * 256 + d) (ls.drop (k + 1))).map fun n => [n / 65536, n % 65536]) := HX.out.trans (congrArg _ (dot4_some (HBy.out.trans (if_pos ⟨h255, he⟩))))
                have hou := or_i64 n d hm h255
                have hmu := mul_i64 n hm
                have hit : (⟨(Lib.itoa (d : Int)).toArray⟩ : ByteArray) = u := by
                  have : Lib.itoa (d : Int) = digs 10 d := by rw [digs10]; unfold Lib.itoa; rw [if_neg (by omega), Int.toNat_natCast]
                  rw [this, he, mk_bl]
                clear h255 he
                go_wp2_with fail
                refine (Tryz.strconv_Itoa (d : Int) (by omega) (by omega) _ HE3.out.pow).mono ?_
                rintro e w4 ⟨rfl, kk, os, hw4⟩
                rw [hit]
                have HB8 := Lib.hid (show Bel w3 w4 by rw [hw4]; exact bel_grow _ kk os)
                clear hw4 hit
                go_wp2
                go_roundg g'
                case measure => omega
                case rel =>
                  refine ⟨n * 256 + d, k + 1, ?_, rfl, by omega, ?_, HY, bel_trans HB.out (bel_trans HB7.out HB8.out)⟩
                  · rw [← hou, Int.natCast_mul]; rfl
                  · have := HM.out
                    unfold Hid
                    rw [Nat.pow_succ]
                    omega
              · have HY : Hid (dottedS (bl s) = none) := HX.out.trans (by rw [dot4_none (HBy.out.trans (if_neg fun h => he h.2))]; rfl)
                obtain ⟨t, ht⟩ : ∃ t : ByteArray, (⟨(Lib.itoa (d : Int)).toArray⟩ : ByteArray) = t := ⟨_, rfl⟩
                have hne : (t.toList == u.toList) = false := by
                  rw [beq_eq_false_iff_ne, toList_bl, toList_bl]; intro h; have h := bl_inj h; subst h
                  have : Lib.itoa (d : Int) = digs 10 d := by rw [digs10]; unfold Lib.itoa; rw [if_neg (by omega), Int.toNat_natCast]
                  rw [this] at ht
                  exact he (by rw [← ht, bl_mk])
                clear he h255
                go_wp2_with fail
                refine (Tryz.strconv_Itoa (d : Int) (by omega) (by omega) _ HE3.out.pow).mono ?_
                rintro e w4 ⟨rfl, kk, os, hw4⟩
                rw [ht]
                have HB8 := Lib.hid (show Bel w3 w4 by rw [hw4]; exact bel_grow _ kk os)
                clear hw4 ht
                go_wp2
                go_ret2
                exact ⟨dotted_no HY.out, bel_trans HB4.out (bel_trans HB7.out HB8.out)⟩
            · have HY : Hid (dottedS (bl s) = none) := HX.out.trans (by rw [dot4_none (HBy.out.trans (if_neg fun h => h255 h.1))]; rfl)
              have h255' : 255 < (d : Int) := by omega
              clear h255
              go_wp2
              go_ret2
              exact ⟨dotted_no HY.out, bel_trans HB4.out HB7.out⟩
          · rw [if_neg hv] at hat
            have HX2 : Hid (dottedS (bl s) = none) := by unfold Hid; rw [HX.out, dot4_none (by unfold byteS; rw [if_neg]; rintro ⟨_, _, h3, _⟩; omega)]; rfl
            have HAt := Lib.hid hat
            clear hv hat
            obtain ⟨ev, hv, hv2⟩ := HE1.out.rang
            go_wp2_with fail
            refine (Tryz.strconv_Atoi_range u (by omega) HAt.out ev _ hv hv2).mono ?_
            rintro e w2 ⟨N, rfl, hN⟩
            have HB5 := Lib.hid hN.2.2
            clear hN hv hv2
            go_wp2
            go_ret2
            exact ⟨dotted_no HX2.out, bel_trans HB4.out HB5.out⟩
        · have HX2 : Hid (dottedS (bl s) = none) := by unfold Hid; rw [HX.out, dot4_none (by unfold byteS; rw [if_neg]; rintro ⟨h1, h2, _⟩; exact hA ⟨h2, h1⟩)]; rfl
          clear HX
          have HA := Lib.hid hA
          cases ha : Lib.atoiAll (bl u) with
          | ok v =>
            have h0 : bl u ≠ [] := by intro h; rw [h] at ha; cases ha
            have hall : Hid ((bl u).all isDec = false) := by unfold Hid; rw [Bool.eq_false_iff]; intro h; exact hA ⟨h, h0⟩
            have HAt := Lib.hid ha
            clear hA ha h0
            go_wp2_with fail
            refine (Tryz.strconv_Atoi_ok u (by omega) v HAt.out _).mono ?_
            rintro e w2 ⟨rfl, hw2⟩
            have HB5 : Hid (Bel wr w2) := by
              rcases hw2 with rfl | ⟨t, rfl⟩
              · exact Below.refl _ _
              · exact bel_bytes _ _ _
            clear hw2
            have HE2 := Lib.hid (HE1.out.bel HB5.out)
            go_wp2_with fail
            refine (host_all u _ _ (by omega) (by decide) (asc_of (by decide)) HE2).mono ?_
            rintro e w3 ⟨rfl, HB6⟩
            have HF6 : Hid ((bl u).all (bl ⟨#[48, 49, 50, 51, 52, 53, 54, 55, 56, 57]⟩).contains = false) := by unfold Hid; rw [← hall.out]; congr 1; funext y; exact dec_eq y
            rw [HF6.out]
            go_wp2
            go_ret2
            exact ⟨dotted_no HX2.out, bel_trans (bel_trans HB4.out HB5.out) HB6.out⟩
          | range =>
            have HAt := Lib.hid ha
            clear hA ha
            obtain ⟨ev, hv, hv2⟩ := HE1.out.rang
            go_wp2_with fail
            refine (Tryz.strconv_Atoi_range u (by omega) HAt.out ev _ hv hv2).mono ?_
            rintro e w2 ⟨N, rfl, hN⟩
            have HB5 := Lib.hid hN.2.2
            clear hN hv hv2
            go_wp2
            go_ret2
            exact ⟨dotted_no HX2.out, bel_trans HB4.out HB5.out⟩
          | _ =>
            have HAt := Lib.hid ha
            clear hA ha
            obtain ⟨ev, hv, hv2⟩ := HE1.out.synt
            go_wp2_with fail
            refine (Tryz.strconv_Atoi_syntax u (by omega) HAt.out ev _ hv hv2).mono ?_
            rintro e w2 ⟨N, rfl, hN⟩
            have HB5 := Lib.hid hN.2.2
            clear hN hv hv2
            go_wp2
            go_ret2
            exact ⟨dotted_no HX2.out, bel_trans HB4.out HB5.out⟩
  · have HF : Hid (dottedS (bl s) = none) := HS.out.trans (if_neg h4)
    have h4' : ¬ (ls.length : Int) = 4 := by omega
    have hb4 : ((ls.length : Int) == 4) = false := by simpa using h4'
    clear HS h4 h4'
    go_wp2
    go_ret2
    exact ⟨dotted_no HF.out, HB1⟩
end Go.Proofs.YtbpkkgaaeodimaaGreatDoor
namespace Go.Proofs.YtbpkkgaaeodimaaGreatDoor
open Go.RowKit

theorem info3 : (Tryz.prog.info? 2).map (fun i => (i.zero, i.size, i.bytes)) = some (some (.int .i64 0), 1, 8) := by kernel_rfl
theorem info26 : (Tryz.prog.info? 149).map (fun i => (i.zero, i.size, i.bytes)) = some (some (.int .u16 0), 1, 2) := by kernel_rfl
section
variable {ops : Array Oper} {Q : Exit → Act → World → Prop} {a : Act} {rest : List Oper} {o : Oper}
theorem app_int {w0 W : World} (base : Nat) (hgd : o.guard = none) (s x : Operand)
    (ho : o.op = .call { callee := .builtin .append, args := #[s, x], argTypes := #[230, 230] })
    (v : Value) (xs : List Value) (n : Int) (hs : a.eval s = v) (hx : a.eval x = .slice (some ⟨W.heap.size, 0, none⟩) 1 1)
    (HO : Hid (Own W base 2 v xs)) (HB : Hid (Below base w0 W)) (hbase : base ≤ W.heap.size) (hl : xs.length ≤ 1000000000)
    (h : ∀ v1 w1, Hid (Own w1 base 2 v1 (xs ++ [.int .i64 n])) → Hid (Below base w0 w1) → W.heap.size ≤ w1.heap.size → wpList Tryz.prog ops Q rest (a.put o.dst v1) w1) :
    wpList Tryz.prog ops Q (o :: rest) a (W.alloc (.cells #[.int .i64 n] 2)) :=
  own_append base hgd s x _ _ _ 8 ho Tryz.underlying230 info3 rfl v xs (.int .i64 n) hs hx rfl HO HB hbase (by omega) (by omega) h
theorem app_u16 {w0 W : World} (base : Nat) (hgd : o.guard = none) (s x : Operand)
    (ho : o.op = .call { callee := .builtin .append, args := #[s, x], argTypes := #[187, 187] })
    (v : Value) (xs : List Value) (n : Int) (hs : a.eval s = v) (hx : a.eval x = .slice (some ⟨W.heap.size, 0, none⟩) 1 1)
    (HO : Hid (Own W base 149 v xs)) (HB : Hid (Below base w0 W)) (hbase : base ≤ W.heap.size) (hl : xs.length ≤ 1000000000)
    (h : ∀ v1 w1, Hid (Own w1 base 149 v1 (xs ++ [.int .u16 n])) → Hid (Below base w0 w1) → W.heap.size ≤ w1.heap.size → wpList Tryz.prog ops Q rest (a.put o.dst v1) w1) :
    wpList Tryz.prog ops Q (o :: rest) a (W.alloc (.cells #[.int .u16 n] 149)) :=
  own_append base hgd s x _ _ _ 2 ho Tryz.underlying187 info26 rfl v xs (.int .u16 n) hs hx rfl HO HB hbase (by omega) (by omega) h
end
theorem dotted_yes2 {w W : World} {o : Option (List Nat)} {p q : Nat} {x y : Int} (h : o = some [p, q]) (hx : x = (p : Int)) (hy : y = (q : Int)) (hb : w.heap.size ≤ W.heap.size) :
    dotted_post w (W.alloc (.cells #[.int .u16 x, .int .u16 y] 149)) (.returned (.tuple #[.slice (some ⟨W.heap.size, 0, none⟩) 2 2, .bool true])) o := by
  subst h hx hy
  exact ⟨_, rfl, W.heap.size, 2, rfl, Nat.le_refl _, hb, RdAt.alloc W (u16s [p, q]) 149⟩
def foldD (ds : List Nat) : Nat := ds.foldl (fun n d => n * 256 + d) 0
theorem foldD_snoc (ds : List Nat) (d : Nat) : foldD (ds ++ [d]) = foldD ds * 256 + d := by unfold foldD; rw [List.foldl_append]; rfl
def ints (ds : List Nat) : List Value := ds.map fun (d : Nat) => Value.int .i64 (d : Int)
theorem intS_nonneg (x : List UInt8) : 0 ≤ (intS x).1 := by
  have hi := intF_is x 0
  rw [Nat.zero_min] at hi
  unfold intS
  rw [show ((0 : Nat) : Int) = 0 from rfl] at hi
  rw [hi]
  split
  · rename_i n hn
    split at hn
    · have := Option.some.inj hn; omega
    · cases hn
  · exact Int.le_refl _
set_option maxHeartbeats 4000000 in
set_option maxRecDepth 100000 in
theorem ref2_decimals (s : ByteArray) (w : World) (hs : s.size ≤ 1000000) (h4 : (cutS 46 [] (bl s)).length = 4) :
    Calls Tryz.prog 202 #[.string s] w fun e w' => dotted_post w w' e (dottedS (bl s)) ∧ Hid (Bel w w') := by
  have H4 := Lib.hid h4
  clear h4
  go_enter Tryz.func202, Tryz.ntmps202
  go_wp2_with fail
  refine (ref1_CutS 46 s _ hs).mono ?_
  rintro e w1 ⟨⟨g, c, rfl, hc, hR⟩, HB1⟩
  try rw [show ((46 : UInt8).toNat : Int) = 46 from rfl] at *
  have HL : Hid (∀ x, x ∈ cutS 46 [] (bl s) → x.length ≤ s.size) := fun x hx => by have := cut_mem_len hx; rw [bl_length] at this; exact this
  have HF : Hid (dottedS (bl s) = (dot4F 0 (cutS 46 [] (bl s))).map fun n => [n / 65536, n % 65536]) := if_pos H4.out
  generalize cutS 46 [] (bl s) = ls at *
  have h4 := H4.out
  have HN := Lib.hid h4
  rw [h4] at hc ⊢
  clear H4 h4
  go_upto_block 0 with (fail)
  go_cut [5] (fun v5 wc => (∃ ds : List Nat, Hid (Own wc w1.heap.size 2 v5 (ints ds)) ∧ Hid (ds.length = 4) ∧ Hid (dottedS (bl s) = some [foldD ds / 65536, foldD ds % 65536]) ∧ Hid (∀ d ∈ ds, d ≤ 255)) ∧ Hid (Bel w1 wc))
  case first =>
    go_wp2_with fail
    go_loopg [5, 6] 4 (fun r v5 v6 wr => ∃ (ds : List Nat) (k : Nat), v6 = .int .i64 k ∧ k + r = 4 ∧ Hid (ds.length = k) ∧ Hid (Own wr w1.heap.size 2 v5 (ints ds)) ∧ Hid (∀ d ∈ ds, d ≤ 255) ∧ Hid (dottedS (bl s) = (dot4F (foldD ds) (ls.drop k)).map fun n => [n / 65536, n % 65536]) ∧ Hid (Bel w1 wr))
    case atStart => exact ⟨[], 0, rfl, by omega, rfl, Own.nil _ _ _, (by intro x hx; cases hx), HF, by unfold Hid; exact Below.refl _ _⟩
    case round =>
      obtain ⟨ds, k, rfl, hk, HD, HO, H255, HI, HB⟩ := hrel
      have HB4 := Lib.hid (bel_trans HB1.out HB.out)
      cases gk with
      | zero =>
        obtain rfl : k = 4 := by omega
        have hX := HI.out
        rw [List.drop_eq_nil_of_le (by rw [HN.out]; omega)] at hX
        have HX := Lib.hid hX
        clear HI HF hX
        go_wp2
        go_meet
        exact ⟨⟨ds, HO, HD, HX, H255⟩, HB⟩
      | succ g' =>
        obtain ⟨u, hu⟩ : ∃ u, ls[k]? = some (bl u) := ⟨⟨(ls[k]'(by rw [HN.out]; omega)).toArray⟩, by rw [bl_mk]; exact List.getElem?_eq_getElem _⟩
        have hus := HL.out _ (List.mem_of_getElem? hu)
        rw [bl_length] at hus
        have hI := HI.out
        rw [drop_get hu] at hI
        have hcell := strs_cell (hR.out.bel HB.out) hu
        have hB := byte_ref (bl u)
        have HX := Lib.hid hI
        have hk0 : (k : Int) < 4 := by omega
        clear hI HI hu HF
        obtain ⟨n, ok, hno⟩ : ∃ n ok, intS (bl u) = (n, ok) := ⟨_, _, rfl⟩
        have hcall := ref1_Int u wr (by omega)
        have hn0 := intS_nonneg (bl u)
        rw [hno] at hB hcall hn0
        obtain ⟨d, rfl⟩ : ∃ d : Nat, n = d := ⟨n.toNat, by have : 0 ≤ n := hn0; omega⟩
        clear hn0
        have HC := Lib.hid hcall
        have HBy := Lib.hid hB
        clear hcall hB hno
        have hsz := HB.out.size
        have hlen : (ints ds).length ≤ 1000000000 := by have := HD.out; simp [ints]; omega
        have hno2 : ∀ {W : World}, byteS (bl u) = none → dotted_post w W (.returned (.tuple #[.slice none 0 0, .bool false])) (dottedS (bl s)) := fun {W} h => dotted_no (by rw [HX.out, dot4_none h]; rfl)
        have HNO : Hid (∀ {W : World}, byteS (bl u) = none → dotted_post w W (.returned (.tuple #[.slice none 0 0, .bool false])) (dottedS (bl s))) := hno2
        clear hno2
        cases ok
        · have HY : Hid (byteS (bl u) = none) := HBy.out.trans (if_neg (by rintro ⟨h, _⟩; cases h))
          go_wp2_with (go_at_call 129; go_must (refine HC.out.mono ?_); rintro e w' ⟨rfl, rfl⟩)
          go_ret2
          exact ⟨HNO.out HY.out, HB4⟩
        · by_cases h255 : (d : Int) ≤ 255
          · by_cases h1 : 1 < u.size
            · by_cases hz : ((u[0]'(by omega)).toNat : Int) = 48
              · have HY : Hid (byteS (bl u) = none) := HBy.out.trans (if_neg (by
                  rintro ⟨_, _, h⟩
                  refine h ⟨by rw [bl_length]; exact h1, ?_⟩
                  rw [List.head?_eq_getElem?, bl_get u 0 (by omega)]; congr 1; exact UInt8.toNat_inj.1 (by have : (48 : UInt8).toNat = 48 := rfl; omega)))
                go_wp2_with (go_at_call 129; go_must (refine HC.out.mono ?_); rintro e w' ⟨rfl, rfl⟩)
                go_ret2
                exact ⟨HNO.out HY.out, HB4⟩
              · have HY : Hid (byteS (bl u) = some d) := HBy.out.trans (if_pos ⟨rfl, h255, fun h => hz (by
                  have h3 := h.2
                  rw [List.head?_eq_getElem?, bl_get u 0 (by omega)] at h3
                  rw [Option.some.inj h3]; rfl)⟩)
                have hz' : (((u[0]'(by omega)).toNat : Int) == 48) = false := by rw [beq_eq_false_iff_ne]; exact hz
                clear hz
                have HY2 : Hid (dottedS (bl s) = (dot4F (foldD (ds ++ [d])) (ls.drop (k + 1))).map fun n => [n / 65536, n % 65536]) := by unfold Hid; rw [HX.out, dot4_some HY.out, foldD_snoc]
                go_wp2_with (first | (go_at_call 129; go_must (refine HC.out.mono ?_); rintro e w' ⟨rfl, rfl⟩) | (at_builtin; go_must (refine app_int (w0 := w1) w1.heap.size rfl _ _ (by exact rfl) _ (ints ds) d (by exact rfl) (by exact rfl) HO HB hsz hlen ?_); intro v1 w3 HO1 HB1 hs1))
                go_roundg g'
                case measure => omega
                case rel => exact ⟨ds ++ [d], k + 1, rfl, by omega, by unfold Hid; simp [HD.out], by unfold ints; rw [List.map_append]; exact HO1, by
                  intro x hx
                  rcases List.mem_append.1 hx with h | h
                  · exact H255.out x h
                  · rw [List.mem_singleton.1 h]; omega, HY2, HB1⟩
            · have HY : Hid (byteS (bl u) = some d) := HBy.out.trans (if_pos ⟨rfl, h255, fun h => h1 (by have := h.1; rw [bl_length] at this; exact this)⟩)
              have HY2 : Hid (dottedS (bl s) = (dot4F (foldD (ds ++ [d])) (ls.drop (k + 1))).map fun n => [n / 65536, n % 65536]) := by unfold Hid; rw [HX.out, dot4_some HY.out, foldD_snoc]
              go_wp2_with (first | (go_at_call 129; go_must (refine HC.out.mono ?_); rintro e w' ⟨rfl, rfl⟩) | (at_builtin; go_must (refine app_int (w0 := w1) w1.heap.size rfl _ _ (by exact rfl) _ (ints ds) d (by exact rfl) (by exact rfl) HO HB hsz hlen ?_); intro v1 w3 HO1 HB1 hs1))
              go_roundg g'
              case measure => omega
              case rel => exact ⟨ds ++ [d], k + 1, rfl, by omega, by unfold Hid; simp [HD.out], by unfold ints; rw [List.map_append]; exact HO1, by
                intro x hx
                rcases List.mem_append.1 hx with h | h
                · exact H255.out x h
                · rw [List.mem_singleton.1 h]; omega, HY2, HB1⟩
          · have HY : Hid (byteS (bl u) = none) := HBy.out.trans (if_neg (by rintro ⟨_, h, _⟩; exact h255 h))
            go_wp2_with (go_at_call 129; go_must (refine HC.out.mono ?_); rintro e w' ⟨rfl, rfl⟩)
            go_ret2
            exact ⟨HNO.out HY.out, HB4⟩
  case rest =>
    obtain ⟨⟨ds, HO, HD, HX, H255⟩, HB⟩ := hcut
    obtain ⟨a, b, d, f, rfl⟩ : ∃ a b d f, ds = [a, b, d, f] := by
      have := HD.out
      match ds, this with
      | [a, b, d, f], _ => exact ⟨a, b, d, f, rfl⟩
    obtain ⟨g5, c5, rfl, hg5, hr5, hc5⟩ := HO.out.row (by simp [ints])
    rw [show (ints [a, b, d, f]).length = 4 from rfl] at *
    have k0 : wc.drew.cell? ⟨g5, 0, none⟩ = some (.int .i64 a) := (hr5.2 0 _ rfl).1
    have k1 : wc.drew.cell? ⟨g5, 1, none⟩ = some (.int .i64 b) := (hr5.2 1 _ rfl).1
    have k2 : wc.drew.cell? ⟨g5, 2, none⟩ = some (.int .i64 d) := (hr5.2 2 _ rfl).1
    have k3 : wc.drew.cell? ⟨g5, 3, none⟩ = some (.int .i64 f) := (hr5.2 3 _ rfl).1
    have HB2 : Hid (Bel w wc.drew) := (bel_trans HB1.out HB.out).drew
    have ha : a ≤ 255 := H255.out a (by simp)
    have hb : b ≤ 255 := H255.out b (by simp)
    have hd : d ≤ 255 := H255.out d (by simp)
    have hf : f ≤ 255 := H255.out f (by simp)
    have o1 : Go.bits .or .i64 ((a : Int) * 256) b = ((a * 256 + b : Nat) : Int) := by have := or_i64 a b (by omega) hb; rw [Int.natCast_mul] at this; exact this
    have o2 : Go.bits .or .i64 ((d : Int) * 256) f = ((d * 256 + f : Nat) : Int) := by have := or_i64 d f (by omega) hf; rw [Int.natCast_mul] at this; exact this
    have HX2 : Hid (dottedS (bl s) = some [(a * 16777216 + b * 65536 + d * 256 + f) / 65536, (a * 16777216 + b * 65536 + d * 256 + f) % 65536]) := by
      unfold Hid; rw [HX.out]; unfold foldD; simp only [List.foldl]; congr 1
      rw [show (((0 * 256 + a) * 256 + b) * 256 + d) * 256 + f = a * 16777216 + b * 65536 + d * 256 + f by omega]
    clear hr5 hg5 HO HD HF HX H255
    go_upto_region 10 with (fail)
    go_still_tail 18, (by kernel_rfl)
    change wpList _ _ _ _ _ wc.drew
    generalize wc.drew = w2 at *
    go_wp2
    go_ret2
    exact ⟨dotted_yes2 HX2.out (by rw [o1]; omega) (by rw [o2]; omega) HB2.out.size, HB2.out.alloc HB2.out.size _⟩
end Go.Proofs.YtbpkkgaaeodimaaGreatDoor
