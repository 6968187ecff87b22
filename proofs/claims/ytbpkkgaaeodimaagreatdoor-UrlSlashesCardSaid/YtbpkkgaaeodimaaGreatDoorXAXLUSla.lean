import Derived.Test.YtbpkkgaaeodimaaGreatDoorXG29
namespace Go.Proofs.YtbpkkgaaeodimaaGreatDoor
open Go.RowKit

/-! The statement UrlSlashes. -/
theorem path_one {p : List UInt8} (hp : ∀ x ∈ p, smallB x = true) (hp0 : p ≠ []) : pathT false (pathS [] (47 :: p)) = 47 :: p := by
  rw [dot_0 hp hp0]
  unfold pathT
  simp
theorem slash_one {s S p : List UInt8} (c : UInt8) (hc : c = 47 ∨ c = 92) (hs : s ∈ specials) (hS : ∀ x ∈ S, x = 47 ∨ x = 92) (hp : ∀ x ∈ p, smallB x = true) (hp0 : p ≠ []) (hl : S.length + p.length ≤ 3000) :
    textO (s ++ [58] ++ S ++ 104 :: c :: p) = s ++ [58, 47, 47, 104, 47] ++ p := by
  unfold textO
  rw [url_h c hc hs hS (fun x hx => by obtain ⟨h1, h2, h3, h4, _⟩ := small_facts x (hp x hx); exact ⟨h1, h2, h3, h4⟩) hl]
  show textS _ = _
  rw [h_text, path_one hp hp0]
  simp
theorem slash_next (k : Nat) (back : Bool) : slashL (k + 1) back = slashL k back ++ [if back = true ∧ k % 2 = 0 then 92 else 47] := by
  unfold slashL
  rw [List.range_succ, List.map_append]
  rfl
set_option maxHeartbeats 8000000 in
set_option maxRecDepth 100000 in
theorem law_USla (n : Int) (back : Bool) (path : ByteArray) (w : World) (h1 : -9223372036854775808 ≤ n) (h2 : n ≤ 9223372036854775807) (hs : path.size ≤ 140737488351232) (HE : Hid (Env w)) :
    Calls Tryz.prog 14 #[.int .i64 n, .bool back, .string path] w fun e w' => e = .returned (.bool true) ∧ Hid (Bel w w') := by
  go_enter Tryz.func14, Tryz.ntmps14
  go_wp2_with fail
  refine (law3_upto n 6 w h1 h2 (by decide)).mono ?_
  rintro e w1 ⟨⟨m, rfl, hm⟩, rfl⟩
  go_wp2
  go_loopg [7, 8] m (fun g v7 v8 wr => ∃ (k : Nat) (t : ByteArray), v8 = .int .i64 k ∧ k + g = m ∧ v7 = .string t ∧ t.size = k ∧ Hid (bl t = slashL k back) ∧ w = wr)
  case atStart => exact ⟨0, ⟨#[]⟩, rfl, by omega, rfl, rfl, by exact (show bl ⟨#[]⟩ = slashL 0 back from rfl), rfl⟩
  case round =>
    obtain ⟨k, t, rfl, hk, rfl, htz, ht, rfl⟩ := hrel
    by_cases hlt : k < m
    · have q1 : (k : Int) < m := by omega
      have HN := Lib.hid (slash_next k back)
      have hway : (back = false) ∨ (back = true ∧ (k : Int).tmod 2 = 0 ∧ k % 2 = 0) ∨ (back = true ∧ (k : Int).tmod 2 = 1 ∧ k % 2 = 1) := by
        cases back
        · exact .inl rfl
        · right
          have e : (k : Int).tmod 2 = ((k % 2 : Nat) : Int) := rfl
          rcases (show k % 2 = 0 ∨ k % 2 = 1 by omega) with h | h
          · exact .inl ⟨rfl, by rw [e, h]; rfl, h⟩
          · exact .inr ⟨rfl, by rw [e, h]; rfl, h⟩
      rcases hway with rfl | ⟨rfl, m1, m2⟩ | ⟨rfl, m1, m2⟩
      · have HX : Hid (slashL (k + 1) false = slashL k false ++ [47]) := by unfold Hid; rw [HN.out]; rfl
        go_wp2
        go_roundg (gk - 1)
        case measure => omega
        case rel => exact ⟨k + 1, t ++ ⟨#[47]⟩, by go_num, by omega, rfl, by rw [ByteArray.size_append, size_one]; omega, by unfold Hid; rw [HX.out, bl_append, ht.out, bl_one], rfl⟩
      · have HX : Hid (slashL (k + 1) true = slashL k true ++ [92]) := by unfold Hid; rw [HN.out, if_pos ⟨rfl, m2⟩]
        clear m2
        go_wp2
        go_roundg (gk - 1)
        case measure => omega
        case rel => exact ⟨k + 1, t ++ ⟨#[92]⟩, by go_num, by omega, rfl, by rw [ByteArray.size_append, size_one]; omega, by unfold Hid; rw [HX.out, bl_append, ht.out, bl_one], rfl⟩
      · have HX : Hid (slashL (k + 1) true = slashL k true ++ [47]) := by unfold Hid; rw [HN.out, if_neg (by rw [m2]; simp)]
        clear m2
        go_wp2
        go_roundg (gk - 1)
        case measure => omega
        case rel => exact ⟨k + 1, t ++ ⟨#[47]⟩, by go_num, by omega, rfl, by rw [ByteArray.size_append, size_one]; omega, by unfold Hid; rw [HX.out, bl_append, ht.out, bl_one], rfl⟩
    · have hkm : k = m := by omega
      subst hkm
      have q1 : ¬ (k : Int) < k := by omega
      have HSM : Hid (∀ x ∈ bl t, x = 47 ∨ x = 92) := by unfold Hid; rw [ht.out]; exact slashL_mem _ _
      have hSA := slash_a ⟨k, by omega⟩ back
      dsimp only at hSA
      rw [← ht.out] at hSA
      have HSA := Lib.hid hSA
      clear hSA hlt
      go_wp2_with fail
      refine (law3_letters path w hs).mono ?_
      rintro e w2 ⟨⟨p, rfl, hp, hpz⟩, rfl⟩
      have HP1 : Hid (∀ t2 : ByteArray, bl t2 = textO (bl ((⟨#[104, 116, 116, 112, 58]⟩ : ByteArray) ++ t ++ ⟨#[104, 47]⟩ ++ p)) → t2 = (⟨#[104, 116, 116, 112, 58, 47, 47, 104, 47]⟩ : ByteArray) ++ p) := fun t2 h => by
        have e := slash_one (s := httpS) (S := bl t) (p := bl p) 47 (.inl rfl) (by unfold specials; simp) HSM.out hp.out.1 hp.out.2 (by rw [bl_length, bl_length]; omega)
        apply bl_inj
        rw [h, bl_append, bl_append, bl_append, bl_append]
        refine Eq.trans ?_ (e.trans ?_)
        · congr 1; rw [bl_two]; simp [httpS, bl]
        · simp [httpS, bl]
      have HP2 : Hid (∀ t2 : ByteArray, bl t2 = textO (bl ((⟨#[104, 116, 116, 112, 115, 58]⟩ : ByteArray) ++ t ++ ⟨#[104, 92]⟩ ++ p)) → t2 = (⟨#[104, 116, 116, 112, 115, 58, 47, 47, 104, 47]⟩ : ByteArray) ++ p) := fun t2 h => by
        have e := slash_one (s := httpsS) (S := bl t) (p := bl p) 92 (.inr rfl) (by unfold specials; simp) HSM.out hp.out.1 hp.out.2 (by rw [bl_length, bl_length]; omega)
        apply bl_inj
        rw [h, bl_append, bl_append, bl_append, bl_append]
        refine Eq.trans ?_ (e.trans ?_)
        · congr 1; rw [bl_two]; simp [httpsS, bl]
        · simp [httpsS, bl]
      have c1 : ((⟨#[104, 116, 116, 112, 58]⟩ : ByteArray) ++ t ++ ⟨#[104, 47]⟩ ++ p).size ≤ 1000000 := by simp only [ByteArray.size_append]; have : (⟨#[104, 116, 116, 112, 58]⟩ : ByteArray).size = 5 := rfl; have : (⟨#[104, 47]⟩ : ByteArray).size = 2 := rfl; omega
      have c2 : ((⟨#[104, 116, 116, 112, 115, 58]⟩ : ByteArray) ++ t ++ ⟨#[104, 92]⟩ ++ p).size ≤ 1000000 := by simp only [ByteArray.size_append]; have : (⟨#[104, 116, 116, 112, 115, 58]⟩ : ByteArray).size = 6 := rfl; have : (⟨#[104, 92]⟩ : ByteArray).size = 2 := rfl; omega
      have c3 : ((⟨#[97, 58]⟩ : ByteArray) ++ t ++ ⟨#[104]⟩).size ≤ 1000000 := by simp only [ByteArray.size_append, size_one, size_two]; omega
      have C1 := Lib.hid c1
      have C2 := Lib.hid c2
      have C3 := Lib.hid c3
      clear c1 c2 c3
      go_wp2_with fail
      refine (law3_text _ w C1.out HE).mono ?_
      rintro e w3 ⟨⟨t1, rfl, ht1, _⟩, HB3⟩
      obtain rfl := HP1.out t1 ht1.out
      have HE3 := Lib.hid (HE.out.bel HB3.out)
      go_wp2_with fail
      refine (law3_text _ w3 C2.out HE3).mono ?_
      rintro e w4 ⟨⟨t1, rfl, ht2, _⟩, HB4⟩
      obtain rfl := HP2.out t1 ht2.out
      have HB4' := Lib.hid (bel_trans HB3.out HB4.out)
      have HE4 := Lib.hid (HE.out.bel HB4'.out)
      go_wp2_with fail
      refine (law3_text _ w4 C3.out HE4).mono ?_
      rintro e w5 ⟨⟨t3, rfl, ht3, _⟩, HB5⟩
      have HB5' := Lib.hid (bel_trans HB4'.out HB5.out)
      have HE5 := Lib.hid (HE.out.bel HB5'.out)
      have HT3 : Hid ((bl t3 == [97, 58, 47, 47, 104]) = (bl t == [47, 47])) := by
        unfold Hid
        rw [← HSA.out, ht3.out, bl_append, bl_append, bl_two, bl_one]
      have hT3 : (t3.toList == [97, 58, 47, 47, 104]) = (t.toList == [47, 47]) := by rw [toList_bl, toList_bl]; exact HT3.out
      go_wp2_with fail
      refine (law3_known w5 HE5).mono ?_
      rintro e w6 ⟨rfl, HB6⟩
      go_wp2
      go_ret
      exact ⟨rfl, bel_trans HB5'.out HB6.out⟩
end Go.Proofs.YtbpkkgaaeodimaaGreatDoor
