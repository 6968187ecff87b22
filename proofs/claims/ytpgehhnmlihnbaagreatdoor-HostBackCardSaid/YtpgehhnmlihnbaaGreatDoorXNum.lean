import Derived.Test.YtpgehhnmlihnbaaGreatDoorXConv
namespace Go.Proofs.YtpgehhnmlihnbaaGreatDoor
open Go.RowKit

/-- What strconv.ParseUint hands back for digits of the base. -/
def PuE (b bits : Nat) (l : List UInt8) (v : Value) : Prop :=
  (valS b l < 2 ^ bits ∧ v = .tuple #[.int .u64 (valS b l : Nat), .nilIface]) ∨
  (2 ^ bits ≤ valS b l ∧ ∃ N, v = .tuple #[.int .u64 (2 ^ bits - 1 : Nat), .iface 124 (.pointer (some ⟨N, 0, none⟩))])
set_option maxHeartbeats 2000000 in
set_option maxRecDepth 100000 in
theorem lib_ParseUintP (s : ByteArray) (b bits : Nat) (w : World) (hs : s.size ≤ 1000000) (h0 : bl s ≠ []) (hbb : (b = 8 ∧ bits = 64) ∨ (b = 10 ∧ bits = 64) ∨ (b = 16 ∧ bits = 64) ∨ (b = 16 ∧ bits = 16)) (hall : Hid ((bl s).all (okDig b) = true)) (HE : Hid (Env w)) :
    Calls Tryz.prog 62 #[.string s, .int .i64 b, .int .i64 bits] w fun e w' => (∃ v, e = .returned v ∧ PuE b bits (bl s) v) ∧ Hid (Bel w w') := by
  have H0 := Lib.hid h0
  have HBB := Lib.hid hbb
  clear h0 hbb
  go_enter Tryz.func62, Tryz.ntmps62
  go_wp2_with fail
  refine (lib_ParseUint s b bits _ hs H0.out HBB.out hall).mono ?_
  rintro e w1 ⟨⟨v, rfl, hv⟩, HB1⟩
  unfold PuEnd at hv
  subst hv
  obtain ⟨er, hr, hr2⟩ := (HE.out.bel HB1.out).rang
  have HR := Lib.hid hr
  have HR2 := Lib.hid hr2
  clear hr hr2
  by_cases hlt : valS b (bl s) < 2 ^ bits
  · rw [if_pos hlt, cap_in hlt]
    have HL := Lib.hid hlt
    clear hlt
    go_wp2
    go_ret2
    exact ⟨⟨_, rfl, .inl ⟨HL.out, rfl⟩⟩, HB1⟩
  · rw [if_neg hlt, cap_over (by omega)]
    have HL := Lib.hid hlt
    clear hlt
    go_wp2_with fail
    refine (Tryz.strconv_toError_range _ s _ _ er _ (by omega) HR.out HR2.out).mono ?_
    rintro e w2 ⟨N, rfl, hN⟩
    have HB2 := Lib.hid hN.2.2
    clear hN
    go_wp2
    go_ret2
    exact ⟨⟨_, rfl, .inr ⟨Nat.le_of_not_lt HL.out, N, rfl⟩⟩, bel_trans HB1.out HB2.out⟩

def numB (l : List UInt8) : Nat := if hexS l then 16 else if 1 < l.length ∧ l.head? = some 48 then 8 else 10
def numR (l : List UInt8) : List UInt8 := if hexS l then l.drop 2 else if 1 < l.length ∧ l.head? = some 48 then l.drop 1 else l
/-- The number that a label spells. -/
def numberS (l : List UInt8) : Option Nat := if (numR l).all (okDig (numB l)) = true ∧ (hexS l = true ∨ numR l ≠ []) then some (valS (numB l) (numR l)) else none
def optC (cap : Nat) (o : Option Nat) : Int := match o with | none => 0 | some v => (min v cap : Nat)
theorem ok10 (x : UInt8) : okDig 10 x = isDec x := u8_all (by decide +kernel) x
theorem ok8 (x : UInt8) : okDig 8 x = isOct x := u8_all (by decide +kernel) x
theorem ok16 (x : UInt8) : okDig 16 x = isHex x := u8_all (by decide +kernel) x
/-- What a label's number is read by. -/
structure NumBy (s r : ByteArray) (b : Nat) : Prop where
  hr : bl r = numR (bl s)
  hb : numB (bl s) = b
  ne : hexS (bl s) = true → bl r ≠ []
  bb : b = 8 ∨ b = 10 ∨ b = 16
theorem NumBy.none_e {s r : ByteArray} {b : Nat} (h : NumBy s r b) (he : bl r = []) : numberS (bl s) = none := by
  unfold numberS
  rw [if_neg]
  rintro ⟨_, h2 | h2⟩
  · exact h.ne h2 he
  · exact h2 (by rw [← h.hr, he])
theorem NumBy.none_a {s r : ByteArray} {b : Nat} (h : NumBy s r b) (he : (bl r).all (okDig b) = false) : numberS (bl s) = none := by
  unfold numberS
  rw [if_neg]
  rw [← h.hr, h.hb, he]; simp
theorem NumBy.some {s r : ByteArray} {b : Nat} (h : NumBy s r b) (he : bl r ≠ []) (ha : (bl r).all (okDig b) = true) : numberS (bl s) = some (valS b (bl r)) := by
  unfold numberS
  rw [← h.hr, h.hb, if_pos ⟨ha, .inr he⟩]
theorem num_hex0 {s : ByteArray} (h : hexS (bl s) = true) (h2 : (bl s).drop 2 = []) : numberS (bl s) = some 0 := by
  unfold numberS
  have : numR (bl s) = [] := by unfold numR; rw [if_pos h, h2]
  rw [this, if_pos ⟨rfl, .inl h⟩]; rfl
theorem by_hex {s r : ByteArray} (h : hexS (bl s) = true) (hr : bl r = (bl s).drop 2) (h2 : bl r ≠ []) : NumBy s r 16 :=
  ⟨by unfold numR; rw [if_pos h, hr], by unfold numB; rw [if_pos h], fun _ => h2, by omega⟩
theorem by_oct {s r : ByteArray} (h : hexS (bl s) = false) (h1 : 1 < s.size) (hz : (s[0]'(by omega)).toNat = 48) (hr : bl r = (bl s).drop 1) : NumBy s r 8 := by
  have hh : 1 < (bl s).length ∧ (bl s).head? = some 48 := by
    rw [bl_length]; refine ⟨h1, ?_⟩
    rw [List.head?_eq_getElem?, bl_get s 0 (by omega)]; congr 1; exact UInt8.toNat_inj.1 hz
  exact ⟨by unfold numR; rw [if_neg (by rw [h]; simp), if_pos hh, hr], by unfold numB; rw [if_neg (by rw [h]; simp), if_pos hh], by rw [h]; simp, by omega⟩
theorem by_dec {s : ByteArray} (h : hexS (bl s) = false) (h1 : ∀ hlt : 1 < s.size, (s[0]'(by omega)).toNat ≠ 48) : NumBy s s 10 := by
  have hh : ¬ (1 < (bl s).length ∧ (bl s).head? = some 48) := by
    rw [bl_length]; rintro ⟨h2, h3⟩
    rw [List.head?_eq_getElem?, bl_get s 0 (by omega)] at h3
    exact h1 h2 (by rw [Option.some.inj h3]; rfl)
  exact ⟨by unfold numR; rw [if_neg (by rw [h]; simp), if_neg hh], by unfold numB; rw [if_neg (by rw [h]; simp), if_neg hh], by rw [h]; simp, by omega⟩
theorem opt_some (cap v : Nat) : optC cap (some v) = (min v cap : Nat) := rfl

set_option maxHeartbeats 2000000 in
set_option maxRecDepth 100000 in
theorem host_number (s : ByteArray) (w : World) (hs : s.size ≤ 1000000) (HE : Hid (Env w)) :
    Calls Tryz.prog 29 #[.string s] w fun e w' => e = .returned (.tuple #[.int .u64 (optC 18446744073709551615 (numberS (bl s))), .bool (numberS (bl s)).isSome]) ∧ Hid (Bel w w') := by
  go_enter Tryz.func29, Tryz.ntmps29
  go_wp2_with fail
  refine (host_hexed s _).mono ?_
  rintro e w2 ⟨⟨r, rfl, hr, hrz⟩, rfl⟩
  obtain ⟨h, hh⟩ : ∃ h, hexS (bl s) = h := ⟨_, rfl⟩
  rw [hh] at hr ⊢
  have HH := Lib.hid hh
  clear hh
  go_upto_if 15 with (fail)
  go_cut [0, 4, 5] (fun v0 v4 v5 wc => (∃ (q : ByteArray) (b : Nat) (t : ByteArray), v0 = .string q ∧ v4 = .int .i64 b ∧ v5 = .string t ∧ q.size ≤ s.size ∧ t.size ≤ 1000 ∧ Hid (NumBy s q b) ∧ Hid (Asc (bl t) ∧ ∀ x, (bl t).contains x = okDig b x)) ∧ w = wc)
  case first =>
    cases h
    · clear hr
      by_cases h1 : 1 < s.size
      · by_cases hz : ((s[0]'(by omega)).toNat : Int) = 48
        · have HZ := Lib.hid hz
          go_wp2
          go_meet
          exact ⟨⟨_, 8, _, rfl, rfl, rfl, by rw [ByteArray.size_extract]; omega, by decide, by_oct HH.out h1 (by have := HZ.out; omega) (by rw [bl_extract, List.take_of_length_le (by rw [List.length_drop, bl_length]; omega)]), (asc_of (by decide)).out, fun x => by rw [ok8]; exact oct_eq x⟩, rfl⟩
        · have HZ := Lib.hid hz
          have hz' : ((s[0]'(by omega)).toNat : Int) < 48 ∨ 48 < ((s[0]'(by omega)).toNat : Int) := by omega
          clear hz
          rcases hz' with hz' | hz'
          all_goals
            go_wp2
            go_meet
            exact ⟨⟨_, 10, _, rfl, rfl, rfl, Nat.le_refl _, by decide, by_dec HH.out (fun _ h => HZ.out (by omega)), (asc_of (by decide)).out, fun x => by rw [ok10]; exact dec_eq x⟩, rfl⟩
      · go_wp2
        go_meet
        exact ⟨⟨_, 10, _, rfl, rfl, rfl, Nat.le_refl _, by decide, by_dec HH.out (fun h => absurd h h1), (asc_of (by decide)).out, fun x => by rw [ok10]; exact dec_eq x⟩, rfl⟩
    · have hr' : Hid (bl r = (bl s).drop 2) := hr
      clear hr
      by_cases h0 : bl r = []
      · have h0' : r.toList.isEmpty = true := (str_empty r).2 h0
        have HN : Hid (numberS (bl s) = some 0) := num_hex0 HH.out (by rw [← hr'.out, h0])
        clear h0
        go_wp2
        go_ret2
        exact ⟨by rw [HN.out]; rfl, by apply Lib.hid; exact Below.refl _ _⟩
      · have h0' : r.toList.isEmpty = false := by rw [Bool.eq_false_iff, ne_eq, str_empty]; exact h0
        have H0 := Lib.hid h0
        clear h0
        go_wp2
        go_meet
        exact ⟨⟨_, 16, _, rfl, rfl, rfl, hrz, by decide, by_hex HH.out hr'.out H0.out, (asc_of (by decide)).out, fun x => by rw [ok16]; exact hex_eq x⟩, rfl⟩
  case rest =>
    obtain ⟨⟨q, b, t, rfl, rfl, rfl, hq, ht, HN, HT⟩, rfl⟩ := hcut
    clear hr hrz
    by_cases h0 : bl q = []
    · have h0' : q.toList.isEmpty = true := (str_empty q).2 h0
      have HF := Lib.hid (HN.out.none_e h0)
      clear h0
      go_wp2
      go_ret2
      exact ⟨by rw [HF.out]; rfl, by apply Lib.hid; exact Below.refl _ _⟩
    · have h0' : q.toList.isEmpty = false := by rw [Bool.eq_false_iff, ne_eq, str_empty]; exact h0
      have H0 := Lib.hid h0
      have HA : Hid ((bl q).all (bl t).contains = (bl q).all (okDig b)) := by unfold Hid; congr 1; funext x; exact HT.out.2 x
      clear h0
      go_wp2_with fail
      refine (host_all q t _ (by omega) ht HT.out.1 HE).mono ?_
      rintro e w1 ⟨rfl, HB1⟩
      rw [HA.out]
      cases ha : (bl q).all (okDig b)
      · have HF := Lib.hid (HN.out.none_a ha)
        clear ha
        go_wp2
        go_ret2
        exact ⟨by rw [HF.out]; rfl, HB1⟩
      · have HF := Lib.hid (HN.out.some H0.out ha)
        have HA2 := Lib.hid ha
        have HE1 := Lib.hid (HE.out.bel HB1.out)
        clear ha
        go_wp2_with fail
        refine (lib_ParseUintP q b 64 _ (by omega) H0.out (by have := HN.out.bb; omega) HA2 HE1).mono ?_
        rintro e w2 ⟨⟨v, rfl, hv⟩, HB2⟩
        have HB3 := Lib.hid (bel_trans HB1.out HB2.out)
        rcases hv with ⟨hlt, rfl⟩ | ⟨hge, N, rfl⟩
        · go_wp2
          go_ret2
          exact ⟨by rw [HF.out, opt_some, Nat.min_eq_left (by omega)]; rfl, HB3⟩
        · go_wp2
          go_ret2
          exact ⟨by rw [HF.out, opt_some, Nat.min_eq_right (by omega)]; rfl, HB3⟩
end Go.Proofs.YtpgehhnmlihnbaaGreatDoor
