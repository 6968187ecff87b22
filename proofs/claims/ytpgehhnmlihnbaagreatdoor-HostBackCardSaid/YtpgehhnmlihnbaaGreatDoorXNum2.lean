import Derived.Test.YtpgehhnmlihnbaaGreatDoorXNum
namespace Go.Proofs.YtpgehhnmlihnbaaGreatDoor
open Go.RowKit

theorem okDig_of {b : Nat} {x : UInt8} (h : 0 ≤ hexV x.toNat) (h2 : hexV x.toNat < b) : okDig b x = true := by simp [okDig, h, h2]
theorem okDig_no {b : Nat} {x : UInt8} (h : hexV x.toNat < 0 ∨ b ≤ hexV x.toNat) : okDig b x = false := by
  simp only [okDig, decide_eq_false_iff_not]; omega
theorem valF_mono (b : Nat) : ∀ (l : List UInt8) (m n : Nat), m ≤ n → valF b m l ≤ valF b n l
  | [], _, _, h => h
  | x :: r, m, n, h => by
    unfold valF
    exact valF_mono b r _ _ (Nat.add_le_add_right (Nat.mul_le_mul_right b h) _)
/-- the loop's number, cut off at the cap -/
theorem cap_min {m n cap : Nat} (h : n = min m cap) (b d : Nat) (hb : 1 ≤ b) : min (n * b + d) cap = min (m * b + d) cap := by
  subst h
  by_cases hm : m ≤ cap
  · rw [Nat.min_eq_left hm]
  · rw [Nat.min_eq_right (by omega : cap ≤ m)]
    have h1 : cap ≤ cap * b := Nat.le_mul_of_pos_right _ hb
    have h2 : cap * b ≤ m * b := Nat.mul_le_mul_right b (by omega)
    omega
set_option maxHeartbeats 400000 in
set_option maxRecDepth 100000 in
theorem ref2_number (s : ByteArray) (w : World) (hs : s.size ≤ 1000000) :
    Calls Tryz.prog 55 #[.string s] w fun e w' => e = .returned (.tuple #[.int .u64 (optC 1099511627776 (numberS (bl s))), .bool (numberS (bl s)).isSome]) ∧ w = w' := by
  have h1 : bl ⟨#[48, 120]⟩ = [48, 120] := rfl
  have h2 : bl ⟨#[48, 88]⟩ = [48, 88] := rfl
  obtain ⟨h, hh⟩ : ∃ h, hexS (bl s) = h := ⟨_, rfl⟩
  have HH := Lib.hid hh
  have hS : (begins (bl s) [48, 120] || begins (bl s) [48, 88]) = h := hh
  have hsz : h = true → 2 ≤ s.size := by
    intro e
    rw [e] at hh
    unfold hexS begins at hh
    simp only [Bool.or_eq_true, Bool.and_eq_true, decide_eq_true_eq, List.length_cons, List.length_nil, bl_length] at hh
    omega
  have HZ := Lib.hid hsz
  clear hh hsz
  cases ha : begins (bl s) [48, 120] <;> cases hb : begins (bl s) [48, 88]
  all_goals
    rw [ha, hb] at hS
    simp only [Bool.or_true, Bool.or_false] at hS
    subst hS
    go_enter Tryz.func55, Tryz.ntmps55
    go_upto_if 13 with (go_at_call 47; refine (ref1_Begins _ _ _).mono ?_; rintro e w' ⟨rfl, rfl⟩)
    clear h1 h2 ha hb
    go_cut [0, 4] (fun v0 v4 wc => (∃ (q : ByteArray) (b : Nat), v0 = .string q ∧ v4 = .int .u64 b ∧ q.size ≤ s.size ∧ Hid (NumBy s q b)) ∧ w = wc)
    case first =>
      first
        | (have hz2 : 2 ≤ s.size := HZ.out trivial
           by_cases h0 : s.size = 2
           · have h0' : (s.extract 2 s.size).toList.isEmpty = true := (str_empty _).2 (by rw [bl_extract]; exact List.length_eq_zero_iff.1 (by rw [List.length_take, List.length_drop, bl_length]; omega))
             have HN : Hid (numberS (bl s) = some 0) := num_hex0 HH.out (List.length_eq_zero_iff.1 (by rw [List.length_drop, bl_length]; omega))
             clear HZ h0
             go_wp2
             go_ret2
             exact ⟨by rw [HN.out]; rfl, rfl⟩
           · have h0' : (s.extract 2 s.size).toList.isEmpty = false := by
               rw [Bool.eq_false_iff, ne_eq, str_empty, bl_extract]
               intro h
               have := congrArg List.length h
               rw [List.length_take, List.length_drop, bl_length, List.length_nil] at this
               omega
             have H0 := Lib.hid h0
             clear HZ h0
             go_wp2
             go_meet
             exact ⟨⟨_, 16, rfl, rfl, by rw [ByteArray.size_extract]; omega, by_hex HH.out (by rw [bl_extract, List.take_of_length_le (by rw [List.length_drop, bl_length]; omega)]) (by
               intro h
               have := congrArg List.length h
               rw [bl_extract, List.length_take, List.length_drop, bl_length, List.length_nil] at this
               have := H0.out; omega)⟩, rfl⟩)
        | (clear HZ
           by_cases h1 : 1 < s.size
           · by_cases hz : ((s[0]'(by omega)).toNat : Int) = 48
             · have HZ := Lib.hid hz
               go_wp2
               go_meet
               exact ⟨⟨_, 8, rfl, rfl, by rw [ByteArray.size_extract]; omega, by_oct HH.out h1 (by have := HZ.out; omega) (by rw [bl_extract, List.take_of_length_le (by rw [List.length_drop, bl_length]; omega)])⟩, rfl⟩
             · have HZ := Lib.hid hz
               have hz' : ((s[0]'(by omega)).toNat : Int) < 48 ∨ 48 < ((s[0]'(by omega)).toNat : Int) := by omega
               clear hz
               rcases hz' with hz' | hz'
               all_goals
                 go_wp2
                 go_meet
                 exact ⟨⟨_, 10, rfl, rfl, Nat.le_refl _, by_dec HH.out (fun _ h => HZ.out (by omega))⟩, rfl⟩
           · go_wp2
             go_meet
             exact ⟨⟨_, 10, rfl, rfl, Nat.le_refl _, by_dec HH.out (fun h => absurd h h1)⟩, rfl⟩)
    case rest =>
      obtain ⟨⟨q, b, rfl, rfl, hq, HN⟩, rfl⟩ := hcut
      clear HZ HH
      have hb1 : 8 ≤ (b : Int) := by have := HN.out.bb; omega
      have hb2 : (b : Int) ≤ 16 := by have := HN.out.bb; omega
      obtain ⟨B, hB⟩ : ∃ B : Int, (b : Int) = B := ⟨_, rfl⟩
      rw [hB] at hb1 hb2 ⊢
      have HB := Lib.hid hB
      clear hB
      go_wp2
      go_loopg [5, 6] q.size (fun g v5 v6 wr => ∃ (n k m : Nat), v5 = .int .u64 n ∧ v6 = .int .i64 k ∧ k + g = q.size ∧ n ≤ 1099511627776 ∧ Hid (n = min m 1099511627776) ∧ Hid (valS b (bl q) = valF b m ((bl q).drop k)) ∧ Hid ((bl q).all (okDig b) = ((bl q).drop k).all (okDig b)) ∧ w = wr)
      case atStart => exact ⟨0, 0, 0, rfl, rfl, by omega, by omega, rfl, rfl, rfl, rfl⟩
      case round =>
        obtain ⟨n, k, m, rfl, rfl, hk, hn, HC, HV, HA, rfl⟩ := hrel
        cases gk with
        | zero =>
          have HA1 : Hid ((bl q).all (okDig b) = true) := by have := HA.out; rw [bl_drop_end q k (by omega)] at this; exact this
          have HV1 : Hid (valS b (bl q) = m) := by have := HV.out; rw [bl_drop_end q k (by omega)] at this; exact this
          clear HA HV
          by_cases h0 : q.size = 0
          · have HF := Lib.hid (HN.out.none_e (List.length_eq_zero_iff.1 (by rw [bl_length]; exact h0)))
            go_wp2
            go_ret2
            have hn0 : n = 0 := by
              have h1 := HV1.out
              rw [List.length_eq_zero_iff.1 (by rw [bl_length]; exact h0 : (bl q).length = 0)] at h1
              have : m = 0 := h1.symm
              rw [HC.out, this]; rfl
            exact ⟨by rw [HF.out, hn0]; simp [optC], rfl⟩
          · have HF := Lib.hid (HN.out.some (fun h => h0 (by rw [← bl_length, h]; rfl)) HA1.out)
            clear HA1
            go_wp2
            go_ret2
            exact ⟨by rw [HF.out, opt_some, HV1.out, HC.out]; simp; omega, rfl⟩
        | succ g =>
          have hlt : k < q.size := by omega
          have hA := HA.out
          have hV := HV.out
          rw [bl_drop q k hlt, List.all_cons] at hA
          rw [bl_drop q k hlt] at hV
          have hr := hexV_range q[k].toNat
          have c1 : (q[k].toNat : Int) ≤ 255 := by have := q[k].toNat_lt; omega
          clear HA HV
          by_cases hx : 0 ≤ hexV q[k].toNat
          · by_cases hx2 : hexV q[k].toNat < B
            · obtain ⟨d, hd⟩ : ∃ d : Nat, hexV q[k].toNat = d := ⟨(hexV q[k].toNat).toNat, by omega⟩
              rw [okDig_of hx (by rw [HB.out]; exact hx2), Bool.true_and] at hA
              rw [valF, hd, Int.toNat_natCast] at hV
              have hd15 : d ≤ 15 := by omega
              have hb16 : b ≤ 16 := by have := HB.out; omega
              have HC2 : Hid (min (n * b + d) 1099511627776 = min (m * b + d) 1099511627776) := cap_min HC.out b d (by have := HB.out; omega)
              have hnb : n * b ≤ 1099511627776 * 16 := Nat.mul_le_mul hn hb16
              obtain ⟨p, hp⟩ : ∃ p, n * b = p := ⟨_, rfl⟩
              have hwm : IntKind.u64.wrap ((n : Int) * B) = (p : Int) := by rw [← HB.out, ← hp, ← Int.natCast_mul]; exact u64_of _ (by omega)
              rw [hp] at HC2 hnb
              have HA2 := Lib.hid hA
              have HV2 := Lib.hid hV
              have hx3 : (d : Int) < B := by omega
              have hH := ref1_Hex q[k].toNat w (by omega) (by omega)
              rw [hd] at hH
              have HH := Lib.hid hH
              clear hA hV hp hx hx2 hd hr HC hH
              go_wp2_with (go_at_call 58; go_must (refine HH.out.mono ?_); rintro e w' ⟨rfl, rfl⟩)
              all_goals
                go_roundg g
                case measure => omega
                case rel => exact ⟨min (p + d) 1099511627776, k + 1, m * b + d, by congr 1; omega, rfl, by omega, by omega, HC2, HV2, HA2, rfl⟩
            · have HF := Lib.hid (HN.out.none_a (hA.trans (by rw [okDig_no (.inr (by rw [HB.out]; omega)), Bool.false_and])))
              clear hA hV
              go_wp2_with (go_at_call 58; go_must (refine (ref1_Hex _ _ (by omega) (by omega)).mono ?_); rintro e w' ⟨rfl, rfl⟩)
              go_ret2
              exact ⟨by rw [HF.out]; rfl, rfl⟩
          · have HF := Lib.hid (HN.out.none_a (hA.trans (by rw [okDig_no (.inl (by omega)), Bool.false_and])))
            clear hA hV
            go_wp2_with (go_at_call 58; go_must (refine (ref1_Hex _ _ (by omega) (by omega)).mono ?_); rintro e w' ⟨rfl, rfl⟩)
            go_ret2
            exact ⟨by rw [HF.out]; rfl, rfl⟩
end Go.Proofs.YtpgehhnmlihnbaaGreatDoor
