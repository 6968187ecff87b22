import Derived.Test.YtbpkkgaaeodimaaGreatDoorXG29
namespace Go.Proofs.YtbpkkgaaeodimaaGreatDoor
open Go.RowKit

/-! The statement UrlDots. -/
/-- Behind http://h/. -/
def hp (p : List UInt8) : List UInt8 := [104, 116, 116, 112, 58, 47, 47, 104, 47] ++ p
theorem hp_text (p : List UInt8) (hb : ∀ x ∈ p, 33 ≤ x.toNat ∧ x ≠ 35 ∧ x ≠ 63 ∧ x ≠ 92) (hl : p.length ≤ 2000) : textO (hp p) = [104, 116, 116, 112, 58, 47, 47, 104] ++ pathT false (pathS [] (47 :: p)) := by
  have e := url_h (s := httpS) (S := [47, 47]) (p := p) 47 (.inl rfl) (by unfold specials; simp) (by simp) hb (by simp; omega)
  unfold textO
  rw [show hp p = httpS ++ [58] ++ [47, 47] ++ 104 :: 47 :: p from rfl, e]
  show textS _ = _
  rw [h_text]; rfl
theorem small_bytes {p : List UInt8} (hp : ∀ x ∈ p, smallB x = true) : ∀ x ∈ p, 33 ≤ x.toNat ∧ x ≠ 35 ∧ x ≠ 63 ∧ x ≠ 92 := fun x hx => by
  obtain ⟨h1, h2, h3, h4, _⟩ := small_facts x (hp x hx); exact ⟨h1, h2, h3, h4⟩
theorem bytes_app {a b : List UInt8} (ha : ∀ x ∈ a, 33 ≤ x.toNat ∧ x ≠ 35 ∧ x ≠ 63 ∧ x ≠ 92) (hb : ∀ x ∈ b, 33 ≤ x.toNat ∧ x ≠ 35 ∧ x ≠ 63 ∧ x ≠ 92) : ∀ x ∈ a ++ b, 33 ≤ x.toNat ∧ x ≠ 35 ∧ x ≠ 63 ∧ x ≠ 92 := fun x hx => by
  rcases List.mem_append.1 hx with h | h
  · exact ha x h
  · exact hb x h
/-- The texts of UrlDots, in plain words. -/
structure DotsL (a b : List UInt8) : Prop where
  t0 : textO (hp b) = hp b
  t1 : textO (hp ([46, 47] ++ b)) = hp b
  t2 : textO (hp (a ++ [47, 46, 46, 47] ++ b)) = hp b
  t3 : textO (hp (a ++ [47, 37, 50, 69, 37, 50, 101, 47] ++ b)) = hp b
  t4 : textO (hp ([46, 46, 47, 46, 46, 47] ++ b)) = hp b
  t5 : textO (hp ([37, 50, 101, 47] ++ b)) = hp b
  t6 : textO (hp (a ++ [47] ++ b ++ [47, 46, 46])) = hp (a ++ [47])
  t7 : textO (hp (a ++ [47])) = hp (a ++ [47])
theorem dots_l {a b : List UInt8} (ha : ∀ x ∈ a, smallB x = true) (ha0 : a ≠ []) (hb : ∀ x ∈ b, smallB x = true) (hb0 : b ≠ []) (hla : a.length ≤ 20) (hlb : b.length ≤ 20) : DotsL a b := by
  have sa := small_bytes ha
  have sb := small_bytes hb
  have one : ∀ p : List UInt8, [104, 116, 116, 112, 58, 47, 47, 104] ++ pathT false [p] = hp p := fun p => by unfold pathT hp; simp
  have two : ∀ p : List UInt8, [104, 116, 116, 112, 58, 47, 47, 104] ++ pathT false [p, []] = hp (p ++ [47]) := fun p => by unfold pathT hp; simp
  refine ⟨?_, ?_, ?_, ?_, ?_, ?_, ?_, ?_⟩
  · rw [hp_text _ sb (by omega), dot_0 hb hb0, one]
  · rw [hp_text _ (bytes_app (by decide) sb) (by simp; omega), dot_1 hb hb0, one]
  · rw [hp_text _ (bytes_app (bytes_app sa (by decide)) sb) (by simp; omega), dot_2 ha ha0 hb hb0, one]
  · rw [hp_text _ (bytes_app (bytes_app sa (by decide)) sb) (by simp; omega), dot_3 ha ha0 hb hb0, one]
  · rw [hp_text _ (bytes_app (by decide) sb) (by simp; omega), dot_4 hb hb0, one]
  · rw [hp_text _ (bytes_app (by decide) sb) (by simp; omega), dot_5 hb hb0, one]
  · rw [hp_text _ (bytes_app (bytes_app (bytes_app sa (by decide)) sb) (by decide)) (by simp; omega), dot_6 ha ha0 hb hb0, two]
  · rw [hp_text _ (bytes_app sa (by decide)) (by simp; omega), dot_7 ha ha0, two]
theorem bl_lit (a : Array UInt8) : bl ⟨a⟩ = a.toList := rfl
theorem size_lit (a : Array UInt8) : (⟨a⟩ : ByteArray).size = a.size := rfl
set_option maxHeartbeats 8000000 in
set_option maxRecDepth 100000 in
theorem law_UDot (part more : ByteArray) (w : World) (hs : part.size ≤ 140737488351232) (hs2 : more.size ≤ 140737488351232) (HE : Hid (Env w)) :
    Calls Tryz.prog 11 #[.string part, .string more] w fun e w' => e = .returned (.bool true) ∧ Hid (Bel w w') := by
  go_enter Tryz.func11, Tryz.ntmps11
  go_wp2_with fail
  refine (law3_letters part w hs).mono ?_
  rintro e w1 ⟨⟨a, rfl, ha, haz⟩, rfl⟩
  go_wp2_with fail
  refine (law3_letters more w hs2).mono ?_
  rintro e w1 ⟨⟨b, rfl, hb, hbz⟩, rfl⟩
  have HD := Lib.hid (dots_l ha.out.1 ha.out.2 hb.out.1 hb.out.2 (by rw [bl_length]; exact haz) (by rw [bl_length]; exact hbz))
  have HE0 := HE
  have HB0 : Hid (Bel w w) := Below.refl _ _
  have hz0 : ((⟨#[104, 116, 116, 112, 58, 47, 47, 104, 47]⟩ : ByteArray) ++ b).size ≤ 1000000 := by simp only [ByteArray.size_append, size_lit]; simp only [List.size_toArray, List.length_cons, List.length_nil]; omega
  have HZ0 := Lib.hid hz0
  clear hz0
  have HQ0 : Hid (∀ t : ByteArray, bl t = textO (bl ((⟨#[104, 116, 116, 112, 58, 47, 47, 104, 47]⟩ : ByteArray) ++ b)) → t = (⟨#[104, 116, 116, 112, 58, 47, 47, 104, 47]⟩ : ByteArray) ++ b) := fun t h => by
    apply bl_inj
    rw [h]
    refine Eq.trans ?_ (HD.out.t0.trans ?_)
    · congr 1 <;> (unfold hp; simp [bl_append, bl_lit])
    · unfold hp; simp [bl_append, bl_lit]
  go_wp2_with fail
  refine (law3_text _ w HZ0.out HE0).mono ?_
  rintro e w2 ⟨⟨t, rfl, ht, _⟩, HB⟩
  obtain rfl := HQ0.out t ht.out
  have HB1 := Lib.hid (bel_trans HB0.out HB.out)
  have HE1 := Lib.hid (HE.out.bel HB1.out)
  clear HB ht HQ0 HZ0
  have hne : (((⟨#[104, 116, 116, 112, 58, 47, 47, 104, 47]⟩ : ByteArray) ++ b).toList.isEmpty) = false := by rw [toList_bl, bl_append]; rfl
  have hz1 : ((⟨#[104, 116, 116, 112, 58, 47, 47, 104, 47, 46, 47]⟩ : ByteArray) ++ b).size ≤ 1000000 := by simp only [ByteArray.size_append, size_lit]; simp only [List.size_toArray, List.length_cons, List.length_nil]; omega
  have HZ1 := Lib.hid hz1
  clear hz1
  have HQ1 : Hid (∀ t : ByteArray, bl t = textO (bl ((⟨#[104, 116, 116, 112, 58, 47, 47, 104, 47, 46, 47]⟩ : ByteArray) ++ b)) → t = (⟨#[104, 116, 116, 112, 58, 47, 47, 104, 47]⟩ : ByteArray) ++ b) := fun t h => by
    apply bl_inj
    rw [h]
    refine Eq.trans ?_ (HD.out.t1.trans ?_)
    · congr 1 <;> (unfold hp; simp [bl_append, bl_lit])
    · unfold hp; simp [bl_append, bl_lit]
  go_wp2_with fail
  refine (law3_text _ w2 HZ1.out HE1).mono ?_
  rintro e w3 ⟨⟨t, rfl, ht, _⟩, HB⟩
  obtain rfl := HQ1.out t ht.out
  have HB2 := Lib.hid (bel_trans HB1.out HB.out)
  have HE2 := Lib.hid (HE.out.bel HB2.out)
  clear HB ht HQ1 HZ1
  have hz2 : ((⟨#[104, 116, 116, 112, 58, 47, 47, 104, 47]⟩ : ByteArray) ++ a ++ ⟨#[47, 46, 46, 47]⟩ ++ b).size ≤ 1000000 := by simp only [ByteArray.size_append, size_lit]; simp only [List.size_toArray, List.length_cons, List.length_nil]; omega
  have HZ2 := Lib.hid hz2
  clear hz2
  have HQ2 : Hid (∀ t : ByteArray, bl t = textO (bl ((⟨#[104, 116, 116, 112, 58, 47, 47, 104, 47]⟩ : ByteArray) ++ a ++ ⟨#[47, 46, 46, 47]⟩ ++ b)) → t = (⟨#[104, 116, 116, 112, 58, 47, 47, 104, 47]⟩ : ByteArray) ++ b) := fun t h => by
    apply bl_inj
    rw [h]
    refine Eq.trans ?_ (HD.out.t2.trans ?_)
    · congr 1 <;> (unfold hp; simp [bl_append, bl_lit])
    · unfold hp; simp [bl_append, bl_lit]
  go_wp2_with fail
  refine (law3_text _ w3 HZ2.out HE2).mono ?_
  rintro e w4 ⟨⟨t, rfl, ht, _⟩, HB⟩
  obtain rfl := HQ2.out t ht.out
  have HB3 := Lib.hid (bel_trans HB2.out HB.out)
  have HE3 := Lib.hid (HE.out.bel HB3.out)
  clear HB ht HQ2 HZ2
  have hz3 : ((⟨#[104, 116, 116, 112, 58, 47, 47, 104, 47]⟩ : ByteArray) ++ a ++ ⟨#[47, 37, 50, 69, 37, 50, 101, 47]⟩ ++ b).size ≤ 1000000 := by simp only [ByteArray.size_append, size_lit]; simp only [List.size_toArray, List.length_cons, List.length_nil]; omega
  have HZ3 := Lib.hid hz3
  clear hz3
  have HQ3 : Hid (∀ t : ByteArray, bl t = textO (bl ((⟨#[104, 116, 116, 112, 58, 47, 47, 104, 47]⟩ : ByteArray) ++ a ++ ⟨#[47, 37, 50, 69, 37, 50, 101, 47]⟩ ++ b)) → t = (⟨#[104, 116, 116, 112, 58, 47, 47, 104, 47]⟩ : ByteArray) ++ b) := fun t h => by
    apply bl_inj
    rw [h]
    refine Eq.trans ?_ (HD.out.t3.trans ?_)
    · congr 1 <;> (unfold hp; simp [bl_append, bl_lit])
    · unfold hp; simp [bl_append, bl_lit]
  go_wp2_with fail
  refine (law3_text _ w4 HZ3.out HE3).mono ?_
  rintro e w5 ⟨⟨t, rfl, ht, _⟩, HB⟩
  obtain rfl := HQ3.out t ht.out
  have HB4 := Lib.hid (bel_trans HB3.out HB.out)
  have HE4 := Lib.hid (HE.out.bel HB4.out)
  clear HB ht HQ3 HZ3
  have hz4 : ((⟨#[104, 116, 116, 112, 58, 47, 47, 104, 47, 46, 46, 47, 46, 46, 47]⟩ : ByteArray) ++ b).size ≤ 1000000 := by simp only [ByteArray.size_append, size_lit]; simp only [List.size_toArray, List.length_cons, List.length_nil]; omega
  have HZ4 := Lib.hid hz4
  clear hz4
  have HQ4 : Hid (∀ t : ByteArray, bl t = textO (bl ((⟨#[104, 116, 116, 112, 58, 47, 47, 104, 47, 46, 46, 47, 46, 46, 47]⟩ : ByteArray) ++ b)) → t = (⟨#[104, 116, 116, 112, 58, 47, 47, 104, 47]⟩ : ByteArray) ++ b) := fun t h => by
    apply bl_inj
    rw [h]
    refine Eq.trans ?_ (HD.out.t4.trans ?_)
    · congr 1 <;> (unfold hp; simp [bl_append, bl_lit])
    · unfold hp; simp [bl_append, bl_lit]
  go_wp2_with fail
  refine (law3_text _ w5 HZ4.out HE4).mono ?_
  rintro e w6 ⟨⟨t, rfl, ht, _⟩, HB⟩
  obtain rfl := HQ4.out t ht.out
  have HB5 := Lib.hid (bel_trans HB4.out HB.out)
  have HE5 := Lib.hid (HE.out.bel HB5.out)
  clear HB ht HQ4 HZ4
  have hz5 : ((⟨#[104, 116, 116, 112, 58, 47, 47, 104, 47, 37, 50, 101, 47]⟩ : ByteArray) ++ b).size ≤ 1000000 := by simp only [ByteArray.size_append, size_lit]; simp only [List.size_toArray, List.length_cons, List.length_nil]; omega
  have HZ5 := Lib.hid hz5
  clear hz5
  have HQ5 : Hid (∀ t : ByteArray, bl t = textO (bl ((⟨#[104, 116, 116, 112, 58, 47, 47, 104, 47, 37, 50, 101, 47]⟩ : ByteArray) ++ b)) → t = (⟨#[104, 116, 116, 112, 58, 47, 47, 104, 47]⟩ : ByteArray) ++ b) := fun t h => by
    apply bl_inj
    rw [h]
    refine Eq.trans ?_ (HD.out.t5.trans ?_)
    · congr 1 <;> (unfold hp; simp [bl_append, bl_lit])
    · unfold hp; simp [bl_append, bl_lit]
  go_wp2_with fail
  refine (law3_text _ w6 HZ5.out HE5).mono ?_
  rintro e w7 ⟨⟨t, rfl, ht, _⟩, HB⟩
  obtain rfl := HQ5.out t ht.out
  have HB6 := Lib.hid (bel_trans HB5.out HB.out)
  have HE6 := Lib.hid (HE.out.bel HB6.out)
  clear HB ht HQ5 HZ5
  have hz6 : ((⟨#[104, 116, 116, 112, 58, 47, 47, 104, 47]⟩ : ByteArray) ++ a ++ ⟨#[47]⟩ ++ b ++ ⟨#[47, 46, 46]⟩).size ≤ 1000000 := by simp only [ByteArray.size_append, size_lit]; simp only [List.size_toArray, List.length_cons, List.length_nil]; omega
  have HZ6 := Lib.hid hz6
  clear hz6
  have HQ6 : Hid (∀ t : ByteArray, bl t = textO (bl ((⟨#[104, 116, 116, 112, 58, 47, 47, 104, 47]⟩ : ByteArray) ++ a ++ ⟨#[47]⟩ ++ b ++ ⟨#[47, 46, 46]⟩)) → t = (⟨#[104, 116, 116, 112, 58, 47, 47, 104, 47]⟩ : ByteArray) ++ a ++ ⟨#[47]⟩) := fun t h => by
    apply bl_inj
    rw [h]
    refine Eq.trans ?_ (HD.out.t6.trans ?_)
    · congr 1 <;> (unfold hp; simp [bl_append, bl_lit])
    · unfold hp; simp [bl_append, bl_lit]
  go_wp2_with fail
  refine (law3_text _ w7 HZ6.out HE6).mono ?_
  rintro e w8 ⟨⟨t, rfl, ht, _⟩, HB⟩
  obtain rfl := HQ6.out t ht.out
  have HB7 := Lib.hid (bel_trans HB6.out HB.out)
  have HE7 := Lib.hid (HE.out.bel HB7.out)
  clear HB ht HQ6 HZ6
  have hz7 : ((⟨#[104, 116, 116, 112, 58, 47, 47, 104, 47]⟩ : ByteArray) ++ a ++ ⟨#[47]⟩).size ≤ 1000000 := by simp only [ByteArray.size_append, size_lit]; simp only [List.size_toArray, List.length_cons, List.length_nil]; omega
  have HZ7 := Lib.hid hz7
  clear hz7
  have HQ7 : Hid (∀ t : ByteArray, bl t = textO (bl ((⟨#[104, 116, 116, 112, 58, 47, 47, 104, 47]⟩ : ByteArray) ++ a ++ ⟨#[47]⟩)) → t = (⟨#[104, 116, 116, 112, 58, 47, 47, 104, 47]⟩ : ByteArray) ++ a ++ ⟨#[47]⟩) := fun t h => by
    apply bl_inj
    rw [h]
    refine Eq.trans ?_ (HD.out.t7.trans ?_)
    · congr 1 <;> (unfold hp; simp [bl_append, bl_lit])
    · unfold hp; simp [bl_append, bl_lit]
  go_wp2_with fail
  refine (law3_text _ w8 HZ7.out HE7).mono ?_
  rintro e w9 ⟨⟨t, rfl, ht, _⟩, HB⟩
  obtain rfl := HQ7.out t ht.out
  have HB8 := Lib.hid (bel_trans HB7.out HB.out)
  have HE8 := Lib.hid (HE.out.bel HB8.out)
  clear HB ht HQ7 HZ7
  go_wp2_with fail
  refine (law3_known w9 HE8).mono ?_
  rintro e w10 ⟨rfl, HB9⟩
  go_wp2
  go_ret
  exact ⟨rfl, bel_trans HB8.out HB9.out⟩
end Go.Proofs.YtbpkkgaaeodimaaGreatDoor
