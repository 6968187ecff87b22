import Derived.Test.YtpgehhnmlihnbaaGreatDoorXPar3
namespace Go.Proofs.YtpgehhnmlihnbaaGreatDoor
open Go.RowKit

theorem keep_Few (s : ByteArray) (n : Nat) (w : World) (hn : n ≤ 1000000) :
    Calls Tryz.prog 17 #[.string s, .int .i64 n] w fun e w' => (∃ t, e = .returned (.string t) ∧ Hid (bl t = (bl s).take n) ∧ t.size ≤ n) ∧ w = w' := by
  go_enter Tryz.func17, Tryz.ntmps17
  by_cases h : n < s.size
  · have ht : Hid (bl (s.extract 0 n) = (bl s).take n) := by unfold Hid; rw [bl_extract]; simp
    have hz : (s.extract 0 n).size ≤ n := by rw [ByteArray.size_extract]; omega
    go_wp2
    go_ret
    exact ⟨⟨_, rfl, ht, hz⟩, rfl⟩
  · have ht : Hid (bl s = (bl s).take n) := by unfold Hid; rw [List.take_of_length_le (by rw [bl_length]; omega)]
    go_wp2
    go_ret
    exact ⟨⟨_, rfl, ht, by omega⟩, rfl⟩
theorem law2_told (ok : Bool) (n : Int) (w : World) (h : n = if ok = true then 0 else 10) :
    Calls Tryz.prog 22 #[.int .i64 n, .bool ok] w fun e w' => e = .returned (.bool true) ∧ w = w' := by
  subst h
  cases ok
  all_goals
    go_enter Tryz.func22, Tryz.ntmps22
    go_wp2
    go_ret
    exact ⟨rfl, rfl⟩
def withinS (n lo hi : Int) : Int := lo + (if Int.tmod n (hi - lo + 1) < 0 then Int.tmod n (hi - lo + 1) + hi - lo + 1 else Int.tmod n (hi - lo + 1))
/-- Is a text parsed to this? -/
def isS (s : List UInt8) (sp : Bool) (want : List UInt8) : Bool :=
  if want.isEmpty && sp then (parseS s sp).isNone else (parseS s sp).isSome && (parseS s sp).getD [] == want
theorem errO_is (o : Option (List UInt8)) : errO o = if o.isSome = true then 0 else 10 := rfl
set_option maxHeartbeats 1000000 in
theorem law2_is (s want : ByteArray) (sp : Bool) (w : World) (hs : s.size ≤ 1000000) (HE : Hid (Env w)) :
    Calls Tryz.prog 12 #[.string s, .bool sp, .string want] w fun e w' => e = .returned (.bool (isS (bl s) sp (bl want))) ∧ Hid (Bel w w') := by
  have HI : Hid (isS (bl s) sp (bl want) = if (bl want).isEmpty && sp then (parseS (bl s) sp).isNone else (parseS (bl s) sp).isSome && (parseS (bl s) sp).getD [] == bl want) := rfl
  have hwe : (want.toList == ([] : List UInt8)) = (bl want).isEmpty := empty_of want _ rfl
  go_enter Tryz.func12, Tryz.ntmps12
  go_wp2_with fail
  refine (host_Parse s sp w hs HE).mono ?_
  rintro e w1 ⟨⟨t, rfl, ht⟩, HB⟩
  have hte : (t.toList == ([] : List UInt8)) = ((parseS (bl s) sp).getD []).isEmpty := empty_of t _ (by rw [ht.out])
  have htw : (t.toList == want.toList) = ((parseS (bl s) sp).getD [] == bl want) := by rw [toList_bl, toList_bl, ht.out]
  generalize parseS (bl s) sp = o at *
  generalize (bl want).isEmpty = b at *
  cases o with
  | none =>
    rw [show errO none = 10 from rfl]
    have hte2 : (t.toList == ([] : List UInt8)) = true := hte
    generalize (none.getD [] == bl want) = c at *
    clear hte ht
    cases b <;> cases sp <;> cases c
    all_goals
      have HI2 := HI.out
      simp only [Bool.and_true, Bool.and_false, Bool.and_self, Option.isNone_none, Option.isSome_none, if_true, if_false, Bool.false_eq_true] at HI2
      have HX := Lib.hid HI2
      clear HI HI2
      go_wp2
      go_ret
      exact ⟨ret_bool HX.out.symm, HB⟩
  | some x =>
    rw [show errO (some x) = 0 from rfl]
    have htw2 : (t.toList == want.toList) = (x == bl want) := htw
    have HI3 : Hid (isS (bl s) sp (bl want) = if (b && sp) = true then false else (x == bl want)) := HI.out
    generalize (x == bl want) = c at *
    clear hte ht HI htw
    cases b <;> cases sp <;> cases c
    all_goals
      have HI2 := HI3.out
      simp only [Bool.and_true, Bool.and_false, Bool.and_self, if_true, if_false, Bool.false_eq_true] at HI2
      have HX := Lib.hid HI2
      clear HI3 HI2
      go_wp2
      all_goals
        go_ret
        exact ⟨ret_bool HX.out.symm, HB⟩
theorem is_1 : isS (bl ⟨#[69, 88, 65, 77, 80, 76, 69, 46, 99, 111, 109]⟩) true (bl ⟨#[101, 120, 97, 109, 112, 108, 101, 46, 99, 111, 109]⟩) = true := by decide +kernel
theorem is_2 : isS (bl ⟨#[48, 120, 55, 102, 46, 49]⟩) true (bl ⟨#[49, 50, 55, 46, 48, 46, 48, 46, 49]⟩) = true := by decide +kernel
theorem is_3 : isS (bl ⟨#[97, 32, 98]⟩) true (bl ⟨#[]⟩) = true := by decide +kernel
theorem is_4 : isS (bl ⟨#[91, 58, 58, 49, 46, 50, 46, 51, 46, 52, 93]⟩) false (bl ⟨#[91, 58, 58, 49, 48, 50, 58, 51, 48, 52, 93]⟩) = true := by decide +kernel
set_option maxHeartbeats 1000000 in
theorem law2_known (w : World) (HE : Hid (Env w)) :
    Calls Tryz.prog 16 #[] w fun e w' => e = .returned (.bool true) ∧ Hid (Bel w w') := by
  have H1 := Lib.hid is_1
  have H2 := Lib.hid is_2
  have H3 := Lib.hid is_3
  have H4 := Lib.hid is_4
  go_enter Tryz.func16, Tryz.ntmps16
  go_wp2_with fail
  refine (law2_is _ _ _ _ (by decide) HE).mono ?_
  rintro e w1 ⟨rfl, HB1⟩
  rw [H1.out]
  have HE1 := Lib.hid (HE.out.bel HB1.out)
  go_wp2_with fail
  refine (law2_is _ _ _ _ (by decide) HE1).mono ?_
  rintro e w2 ⟨rfl, HB2⟩
  rw [H2.out]
  have HE2 := Lib.hid (HE1.out.bel HB2.out)
  have HB3 := Lib.hid (bel_trans HB1.out HB2.out)
  go_wp2_with fail
  refine (law2_is _ _ _ _ (by decide) HE2).mono ?_
  rintro e w3 ⟨rfl, HB4⟩
  rw [H3.out]
  have HE3 := Lib.hid (HE2.out.bel HB4.out)
  have HB5 := Lib.hid (bel_trans HB3.out HB4.out)
  go_wp2_with fail
  refine (law2_is _ _ _ _ (by decide) HE3).mono ?_
  rintro e w4 ⟨rfl, HB6⟩
  rw [H4.out]
  go_wp2
  go_ret
  exact ⟨rfl, bel_trans HB5.out HB6.out⟩
end Go.Proofs.YtpgehhnmlihnbaaGreatDoor
