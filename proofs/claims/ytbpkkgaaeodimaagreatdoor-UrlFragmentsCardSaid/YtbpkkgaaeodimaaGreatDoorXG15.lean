import Derived.Test.YtbpkkgaaeodimaaGreatDoorXG14
namespace Go.Proofs.YtbpkkgaaeodimaaGreatDoor
open Go.RowKit

theorem schemeF_hit (acc r : List UInt8) (h : acc ≠ []) : schemeF acc (58 :: r) = some (lower acc, r) := by rw [schemeF, if_pos ⟨rfl, h⟩]
theorem schemeF_go (acc : List UInt8) (c : UInt8) (r : List UInt8) (h1 : ¬ (c = 58 ∧ acc ≠ [])) (h2 : letterB c = true ∨ (acc ≠ [] ∧ restB c = true)) : schemeF acc (c :: r) = schemeF (acc ++ [c]) r := by
  rw [schemeF, if_neg h1, if_pos h2]
theorem schemeF_no (acc : List UInt8) (c : UInt8) (r : List UInt8) (h1 : ¬ (c = 58 ∧ acc ≠ [])) (h2 : ¬ (letterB c = true ∨ (acc ≠ [] ∧ restB c = true))) : schemeF acc (c :: r) = none := by
  rw [schemeF, if_neg h1, if_neg h2]
theorem take_nil (s : ByteArray) (k : Nat) (h : k < s.size) : (bl s).take k ≠ [] ↔ 0 < k := by
  rw [ne_eq, List.take_eq_nil_iff]
  have : bl s ≠ [] := by intro e; have := bl_length s; rw [e] at this; simp at this; omega
  simp [this]; omega
theorem rest_cases (x : UInt8) : (isDigit x.toNat = true) ∨ (isDigit x.toNat = false ∧ ((x.toNat : Int) != 43) = false) ∨ (isDigit x.toNat = false ∧ ((x.toNat : Int) != 43) = true ∧ ((x.toNat : Int) != 45) = false)
    ∨ (isDigit x.toNat = false ∧ ((x.toNat : Int) != 43) = true ∧ ((x.toNat : Int) != 45) = true ∧ ((x.toNat : Int) != 46) = false) ∨ (isDigit x.toNat = false ∧ ((x.toNat : Int) != 43) = true ∧ ((x.toNat : Int) != 45) = true ∧ ((x.toNat : Int) != 46) = true) := by
  cases isDigit x.toNat <;> cases ((x.toNat : Int) != 43) <;> cases ((x.toNat : Int) != 45) <;> cases ((x.toNat : Int) != 46) <;> simp
theorem rest_is (x : UInt8) : restB x = (isDigit x.toNat || !((x.toNat : Int) != 43) || !((x.toNat : Int) != 45) || !((x.toNat : Int) != 46)) := by
  have h1 := beq_u8 x 43; have h2 := beq_u8 x 45; have h3 := beq_u8 x 46
  have e1 : (!((x.toNat : Int) != 43)) = (x == 43) := by rw [← h1, bne, Bool.not_not]; rfl
  have e2 : (!((x.toNat : Int) != 45)) = (x == 45) := by rw [← h2, bne, Bool.not_not]; rfl
  have e3 : (!((x.toNat : Int) != 46)) = (x == 46) := by rw [← h3, bne, Bool.not_not]; rfl
  unfold restB isDec
  rw [e1, e2, e3]
def Schemed (s : ByteArray) (e : Ending) : Prop := (∃ a b : ByteArray, e = .returned (.tuple #[.string a, .string b, .bool true]) ∧ Hid (schemeS (bl s) = some (bl a, bl b)) ∧ a.size + b.size + 1 = s.size) ∨ (e = .returned (.tuple #[.string ⟨#[]⟩, .string ⟨#[]⟩, .bool false]) ∧ Hid (schemeS (bl s) = none))
set_option maxHeartbeats 1000000 in
set_option maxRecDepth 100000 in
theorem ref3_scheme (s : ByteArray) (w : World) (hs : s.size ≤ 1000000) :
    Calls Tryz.prog 45 #[.string s] w fun e w' => Schemed s e ∧ Hid (Bel w w') := by
  go_enter Tryz.func45, Tryz.ntmps45
  go_wp2
  go_loopg [5] s.size (fun g v5 wr => ∃ k : Nat, v5 = .int .i64 k ∧ k + g = s.size ∧ Hid (schemeF ((bl s).take k) ((bl s).drop k) = schemeS (bl s)) ∧ w = wr)
  case atStart => exact ⟨0, rfl, by omega, by unfold Hid; simp [schemeS], rfl⟩
  case round =>
    obtain ⟨k, rfl, hk, HI, rfl⟩ := hrel
    cases gk with
    | zero =>
      have hk' : ¬ (k : Int) < s.size := by omega
      have HF : Hid (schemeS (bl s) = none) := by unfold Hid; rw [← HI.out, bl_drop_end s k (by omega)]; rfl
      clear HI
      go_wp2
      go_ret3
      exact ⟨.inr ⟨rfl, HF⟩, by unfold Hid; exact Below.refl _ _⟩
    | succ g =>
      have hlt : k < s.size := by omega
      have HD : Hid (bl s = (bl s).take k ++ s[k] :: (bl s).drop (k + 1)) := bl_split s k hlt
      have HK : Hid ((bl s).take k ≠ [] ↔ 0 < k) := take_nil s k hlt
      rw [bl_drop s k hlt] at HI
      by_cases hA : s[k] = 58 ∧ 0 < k
      · have hb : ((s[k].toNat : Int) == 58) = true := by rw [hA.1]; rfl
        have hp : (0 : Int) < k := by omega
        have hk1 : (k : Int) ≤ s.size := by omega
        have p1 : 0 ≤ (k : Int) + 1 := by omega
        have p2 : (k : Int) + 1 ≤ s.size := by omega
        have p3 : ((k : Int) + 1).toNat = k + 1 := by omega
        have e1 : IntKind.i64.wrap ((k : Int) + 1) = (k : Int) + 1 := IntWalk.i64_in _ (by omega)
        have p4 : ¬ 9223372036854775807 < (k : Int) + 1 := by omega
        have HF : Hid (schemeS (bl s) = some (lower ((bl s).take k), (bl s).drop (k + 1))) := by
          unfold Hid; rw [← HI.out, hA.1]; exact schemeF_hit _ _ (HK.out.2 hA.2)
        have hz : (s.extract 0 k).size = k := by rw [ByteArray.size_extract]; omega
        have hz1 : (s.extract (k + 1) s.size).size = s.size - (k + 1) := by rw [ByteArray.size_extract]; omega
        have hz2 : (s.extract 0 k).size ≤ 1099511627776 := by omega
        clear hA HI HD HK
        go_wp2
        go_region_held3 (fun w' => True) (trivial) (first | ((go_at_call 68; go_must (refine (ref1_Lower (s.extract 0 k) _ hz2).mono ?_); rintro e w1 ⟨⟨u, rfl, hu⟩, HB1⟩)))
        have zu : u.size = k := by rw [← bl_length, hu.out, lower_len, bl_length, hz]
        go_wp2
        go_ret3
        exact ⟨.inl ⟨u, _, rfl, by unfold Hid; rw [HF.out, hu.out, bl_pre2, bl_suf2], by omega⟩, bel_trans (bel_drew _) HB1.out⟩
      · have hA2 : ¬ (s[k] = 58 ∧ (bl s).take k ≠ []) := fun h => hA ⟨h.1, HK.out.1 h.2⟩
        have HA : Hid (¬ (s[k] = 58 ∧ (bl s).take k ≠ [])) := hA2
        have hf : (((s[k].toNat : Int) == 58) = false) ∨ (((s[k].toNat : Int) == 58) = true ∧ ¬ (0 : Int) < k) := by
          cases hq : ((s[k].toNat : Int) == 58)
          · exact .inl rfl
          · refine .inr ⟨rfl, fun h => hA ⟨?_, by omega⟩⟩
            have := (beq_u8 s[k] 58).symm.trans hq
            exact eq_of_beq this
        clear hA hA2
        have hnext : letterB s[k] = true ∨ (0 < k ∧ restB s[k] = true) → Hid (schemeF ((bl s).take (k + 1)) ((bl s).drop (k + 1)) = schemeS (bl s)) := by
          intro h
          unfold Hid
          rw [← HI.out, schemeF_go _ _ _ HA.out (h.imp id fun h => ⟨HK.out.2 h.1, h.2⟩), bl_take s k hlt]
        have hstop : ¬ (letterB s[k] = true ∨ (0 < k ∧ restB s[k] = true)) → Hid (schemeS (bl s) = none) := by
          intro h
          unfold Hid
          rw [← HI.out, schemeF_no _ _ _ HA.out (fun h2 => h (h2.imp id fun h => ⟨HK.out.1 h.1, h.2⟩))]
        have hr := rest_is s[k]
        clear HI HD HK HA
        cases hL : letterB s[k]
        · by_cases h0 : k = 0
          · have HF := hstop (by rw [hL]; simp; omega)
            have hk0 : ((k : Int) == 0) = true := by rw [h0]; rfl
            subst h0
            clear hnext hstop hr
            rcases hf with hb | ⟨hb, hp⟩
            all_goals
              go_wp2_with fail
              refine (ref1_Letter _ _).mono ?_
              rintro e w1 ⟨rfl, rfl⟩
              rw [hL]
              go_wp2
              go_ret3
              exact ⟨.inr ⟨rfl, HF⟩, by unfold Hid; exact Below.refl _ _⟩
          · have hk0 : ((k : Int) == 0) = false := by rw [beq_eq_false_iff_ne]; omega
            have hk2 : (0 : Int) < k := by omega
            have hb : ((s[k].toNat : Int) == 58) = false := by
              rcases hf with h | ⟨_, h⟩
              · exact h
              · exact absurd hk2 h
            clear hf
            cases hR : restB s[k]
            · have HF := hstop (by rw [hL, hR]; simp)
              rw [hR] at hr
              replace hr := hr.symm
              rw [Bool.or_eq_false_iff, Bool.or_eq_false_iff, Bool.or_eq_false_iff] at hr
              obtain ⟨⟨⟨r1, r2⟩, r3⟩, r4⟩ := hr
              rw [Bool.not_eq_false'] at r2 r3 r4
              clear hnext hstop hR
              go_wp2_with fail
              refine (ref1_Letter _ _).mono ?_
              rintro e w1 ⟨rfl, rfl⟩
              rw [hL]
              go_wp2_with fail
              refine (ref1_Digit _ _).mono ?_
              rintro e w1 ⟨rfl, rfl⟩
              rw [r1]
              go_wp2
              go_ret3
              exact ⟨.inr ⟨rfl, HF⟩, by unfold Hid; exact Below.refl _ _⟩
            · have HF := hnext (.inr ⟨by omega, hR⟩)
              rw [hR] at hr
              clear hnext hstop hR
              rcases rest_cases s[k] with r1 | ⟨r1, r2⟩ | ⟨r1, r2, r3⟩ | ⟨r1, r2, r3, r4⟩ | ⟨r1, r2, r3, r4⟩
              case inr.inr.inr.inr => rw [r1, r2, r3, r4] at hr; cases hr
              all_goals
                clear hr
                go_wp2_with fail
                refine (ref1_Letter _ _).mono ?_
                rintro e w1 ⟨rfl, rfl⟩
                rw [hL]
                go_wp2_with fail
                refine (ref1_Digit _ _).mono ?_
                rintro e w1 ⟨rfl, rfl⟩
                rw [r1]
                go_wp2
                go_roundg g
                case measure => omega
                case rel => exact ⟨k + 1, by go_num, by omega, HF, rfl⟩
        · have HF := hnext (.inl hL)
          clear hnext hstop hr
          rcases hf with hb | ⟨hb, hp⟩
          · go_wp2_with fail
            refine (ref1_Letter _ _).mono ?_
            rintro e w1 ⟨rfl, rfl⟩
            rw [hL]
            go_wp2
            go_roundg g
            case measure => omega
            case rel => exact ⟨k + 1, by go_num, by omega, HF, rfl⟩
          · exfalso
            have h58 : s[k] = 58 := eq_of_beq ((beq_u8 s[k] 58).symm.trans hb)
            rw [h58] at hL
            exact absurd hL (by decide)
theorem letter_cases (x : UInt8) : (letterB x = true ∧ ((97 ≤ (x.toNat : Int) ∧ (x.toNat : Int) ≤ 122) ∨ ((x.toNat : Int) < 97 ∧ 65 ≤ (x.toNat : Int) ∧ (x.toNat : Int) ≤ 90))) ∨ (letterB x = false ∧ ((97 ≤ (x.toNat : Int) ∧ 122 < (x.toNat : Int)) ∨ ((x.toNat : Int) < 97 ∧ 65 ≤ (x.toNat : Int) ∧ 90 < (x.toNat : Int)) ∨ ((x.toNat : Int) < 97 ∧ (x.toNat : Int) < 65))) := by
  cases h : letterB x
  · right; refine ⟨rfl, ?_⟩; unfold letterB at h; simp at h; omega
  · left; refine ⟨rfl, ?_⟩; unfold letterB at h; simp at h; omega
theorem digit_cases (x : UInt8) : (isDigit x.toNat = true ∧ ¬ (x.toNat : Int) < 48 ∧ ¬ 57 < (x.toNat : Int)) ∨ (isDigit x.toNat = false ∧ ((x.toNat : Int) < 48 ∨ (¬ (x.toNat : Int) < 48 ∧ 57 < (x.toNat : Int)))) := by
  cases h : isDigit x.toNat
  · right; refine ⟨rfl, ?_⟩; simp [isDigit] at h; omega
  · left; refine ⟨rfl, ?_⟩; simp [isDigit] at h; omega
set_option maxHeartbeats 2000000 in
set_option maxRecDepth 100000 in
theorem url_schemed (s : ByteArray) (w : World) (hs : s.size ≤ 1000000) :
    Calls Tryz.prog 49 #[.string s] w fun e w' => Schemed s e ∧ Hid (Bel w w') := by
  go_enter Tryz.func49, Tryz.ntmps49
  go_wp2
  go_loopg [10] s.size (fun g v10 wr => ∃ k : Nat, v10 = .int .i64 k ∧ k + g = s.size ∧ Hid (schemeF ((bl s).take k) ((bl s).drop k) = schemeS (bl s)) ∧ w = wr)
  case atStart => exact ⟨0, rfl, by omega, by unfold Hid; simp [schemeS], rfl⟩
  case round =>
    obtain ⟨k, rfl, hk, HI, rfl⟩ := hrel
    cases gk with
    | zero =>
      have hk' : ¬ (k : Int) < s.size := by omega
      have HF : Hid (schemeS (bl s) = none) := by unfold Hid; rw [← HI.out, bl_drop_end s k (by omega)]; rfl
      clear HI
      go_wp2
      go_ret3
      exact ⟨.inr ⟨rfl, HF⟩, by unfold Hid; exact Below.refl _ _⟩
    | succ g =>
      have hlt : k < s.size := by omega
      have HD : Hid (bl s = (bl s).take k ++ s[k] :: (bl s).drop (k + 1)) := bl_split s k hlt
      have HK : Hid ((bl s).take k ≠ [] ↔ 0 < k) := take_nil s k hlt
      rw [bl_drop s k hlt] at HI
      go_upto_region 5 with (fail)
      go_cut [7] (fun v7 wc => v7 = .bool (letterB s[k]) ∧ w = wc)
      case first =>
        rcases letter_cases s[k] with ⟨h, h1 | ⟨h1, h2, h3⟩⟩ | ⟨h, h1 | ⟨h1, h2, h3⟩ | ⟨h1, h2⟩⟩
        all_goals
          have HX := Lib.hid h
          clear h
          try (obtain ⟨h1, h2⟩ := h1)
          go_wp2
          go_meet
          exact ⟨by rw [HX.out]; try (simp; omega), rfl⟩
      case rest =>
        obtain ⟨rfl, rfl⟩ := hcut
        by_cases hA : s[k] = 58 ∧ 0 < k
        · have hb : ((s[k].toNat : Int) == 58) = true := by rw [hA.1]; rfl
          have hp : (0 : Int) < k := by omega
          have hk1 : (k : Int) ≤ s.size := by omega
          have p1 : 0 ≤ (k : Int) + 1 := by omega
          have p2 : (k : Int) + 1 ≤ s.size := by omega
          have p3 : ((k : Int) + 1).toNat = k + 1 := by omega
          have e1 : IntKind.i64.wrap ((k : Int) + 1) = (k : Int) + 1 := IntWalk.i64_in _ (by omega)
          have p4 : ¬ 9223372036854775807 < (k : Int) + 1 := by omega
          have HF : Hid (schemeS (bl s) = some (lower ((bl s).take k), (bl s).drop (k + 1))) := by
            unfold Hid; rw [← HI.out, hA.1]; exact schemeF_hit _ _ (HK.out.2 hA.2)
          have hz : (s.extract 0 k).size = k := by rw [ByteArray.size_extract]; omega
          have hz1 : (s.extract (k + 1) s.size).size = s.size - (k + 1) := by rw [ByteArray.size_extract]; omega
          have hz2 : (s.extract 0 k).size ≤ 1099511627776 := by omega
          clear hA HI HD HK
          go_wp2
          go_region_held3 (fun w' => True) (trivial) (first | ((go_at_call 81; go_must (refine (infra_Lower (s.extract 0 k) _ hz2).mono ?_); rintro e w1 ⟨⟨u, rfl, hu⟩, HB1⟩)))
          have zu : u.size = k := by rw [← bl_length, hu.out, lower_len, bl_length, hz]
          go_wp2
          go_ret3
          exact ⟨.inl ⟨u, _, rfl, by unfold Hid; rw [HF.out, hu.out, bl_pre2, bl_suf2], by omega⟩, bel_trans (bel_drew _) HB1.out⟩
        · have hA2 : ¬ (s[k] = 58 ∧ (bl s).take k ≠ []) := fun h => hA ⟨h.1, HK.out.1 h.2⟩
          have HA : Hid (¬ (s[k] = 58 ∧ (bl s).take k ≠ [])) := hA2
          have hf : (((s[k].toNat : Int) == 58) = false) ∨ (((s[k].toNat : Int) == 58) = true ∧ ¬ (0 : Int) < k) := by
            cases hq : ((s[k].toNat : Int) == 58)
            · exact .inl rfl
            · refine .inr ⟨rfl, fun h => hA ⟨?_, by omega⟩⟩
              have := (beq_u8 s[k] 58).symm.trans hq
              exact eq_of_beq this
          clear hA hA2
          have hnext : letterB s[k] = true ∨ (0 < k ∧ restB s[k] = true) → Hid (schemeF ((bl s).take (k + 1)) ((bl s).drop (k + 1)) = schemeS (bl s)) := by
            intro h
            unfold Hid
            rw [← HI.out, schemeF_go _ _ _ HA.out (h.imp id fun h => ⟨HK.out.2 h.1, h.2⟩), bl_take s k hlt]
          have hstop : ¬ (letterB s[k] = true ∨ (0 < k ∧ restB s[k] = true)) → Hid (schemeS (bl s) = none) := by
            intro h
            unfold Hid
            rw [← HI.out, schemeF_no _ _ _ HA.out (fun h2 => h (h2.imp id fun h => ⟨HK.out.1 h.1, h.2⟩))]
          have hr := rest_is s[k]
          clear HI HD HK HA
          cases hL : letterB s[k]
          · by_cases h0 : k = 0
            · have HF := hstop (by rw [hL]; simp; omega)
              have hk0 : ((k : Int) == 0) = true := by rw [h0]; rfl
              subst h0
              clear hnext hstop hr
              rcases hf with hb | ⟨hb, hp⟩
              all_goals
                go_wp2
                go_ret3
                exact ⟨.inr ⟨rfl, HF⟩, by unfold Hid; exact Below.refl _ _⟩
            · have hk0 : ((k : Int) == 0) = false := by rw [beq_eq_false_iff_ne]; omega
              have hk2 : (0 : Int) < k := by omega
              have hb : ((s[k].toNat : Int) == 58) = false := by
                rcases hf with h | ⟨_, h⟩
                · exact h
                · exact absurd hk2 h
              clear hf
              cases hR : restB s[k]
              · have HF := hstop (by rw [hL, hR]; simp)
                rw [hR] at hr
                replace hr := hr.symm
                rw [Bool.or_eq_false_iff, Bool.or_eq_false_iff, Bool.or_eq_false_iff] at hr
                obtain ⟨⟨⟨r1, r2⟩, r3⟩, r4⟩ := hr
                rw [Bool.not_eq_false'] at r2 r3 r4
                clear hnext hstop hR
                rcases digit_cases s[k] with ⟨d, d1, d2⟩ | ⟨d, d1 | ⟨d1, d2⟩⟩
                case inl => rw [r1] at d; cases d
                all_goals
                  clear d r1
                  go_wp2
                  go_ret3
                  exact ⟨.inr ⟨rfl, HF⟩, by unfold Hid; exact Below.refl _ _⟩
              · have HF := hnext (.inr ⟨by omega, hR⟩)
                rw [hR] at hr
                clear hnext hstop hR
                rcases rest_cases s[k] with r1 | ⟨r1, r2⟩ | ⟨r1, r2, r3⟩ | ⟨r1, r2, r3, r4⟩ | ⟨r1, r2, r3, r4⟩
                case inr.inr.inr.inr => rw [r1, r2, r3, r4] at hr; cases hr
                all_goals
                  clear hr
                  rcases digit_cases s[k] with ⟨d, d1, d2⟩ | ⟨d, d1 | ⟨d1, d2⟩⟩
                  all_goals
                    rw [r1] at d
                    first
                    | (cases d; done)
                    | (clear d r1
                       go_wp2
                       go_roundg g
                       case measure => omega
                       case rel => exact ⟨k + 1, by go_num, by omega, HF, rfl⟩)
          · have HF := hnext (.inl hL)
            clear hnext hstop hr
            rcases hf with hb | ⟨hb, hp⟩
            · go_wp2
              go_roundg g
              case measure => omega
              case rel => exact ⟨k + 1, by go_num, by omega, HF, rfl⟩
            · exfalso
              have h58 : s[k] = 58 := eq_of_beq ((beq_u8 s[k] 58).symm.trans hb)
              rw [h58] at hL
              exact absurd hL (by decide)
end Go.Proofs.YtbpkkgaaeodimaaGreatDoor
namespace Go.Proofs.YtbpkkgaaeodimaaGreatDoor
open Go.RowKit

theorem rstrip_keep (p : UInt8 → Bool) (l : List UInt8) (x : UInt8) (h : p x = false) : rstrip p (l ++ [x]) = l ++ [x] := by rw [rstrip_snoc, h]; rfl
theorem rstrip_cut (p : UInt8 → Bool) (l : List UInt8) (x : UInt8) (h : p x = true) : rstrip p (l ++ [x]) = rstrip p l := by rw [rstrip_snoc, h]; rfl
theorem blank_cases (x : UInt8) : (blankB x = true ∧ (x.toNat : Int) ≤ 32) ∨ (blankB x = false ∧ ¬ (x.toNat : Int) ≤ 32) := by
  unfold blankB
  by_cases h : x.toNat ≤ 32
  · left; simp [h]; omega
  · right; simp [h]; omega
theorem line_cases (x : UInt8) : (lineB x = true ∧ ((x.toNat : Int) != 9) = false) ∨ (lineB x = true ∧ ((x.toNat : Int) != 9) = true ∧ ((x.toNat : Int) != 10) = false) ∨ (lineB x = true ∧ ((x.toNat : Int) != 9) = true ∧ ((x.toNat : Int) != 10) = true ∧ ((x.toNat : Int) != 13) = false) ∨ (lineB x = false ∧ ((x.toNat : Int) != 9) = true ∧ ((x.toNat : Int) != 10) = true ∧ ((x.toNat : Int) != 13) = true) := by
  have h1 := beq_u8 x 9; have h2 := beq_u8 x 10; have h3 := beq_u8 x 13
  have e1 : (x == 9) = (!((x.toNat : Int) != 9)) := by rw [← h1, bne, Bool.not_not]; rfl
  have e2 : (x == 10) = (!((x.toNat : Int) != 10)) := by rw [← h2, bne, Bool.not_not]; rfl
  have e3 : (x == 13) = (!((x.toNat : Int) != 13)) := by rw [← h3, bne, Bool.not_not]; rfl
  unfold lineB
  rw [e1, e2, e3]
  cases ((x.toNat : Int) != 9) <;> cases ((x.toNat : Int) != 10) <;> cases ((x.toNat : Int) != 13) <;> simp
theorem filter_step (s : ByteArray) (k : Nat) (h : k < s.size) : ((bl s).drop k).filter (fun x => !lineB x) = (if lineB s[k] = true then [] else [s[k]]) ++ ((bl s).drop (k + 1)).filter (fun x => !lineB x) := by
  rw [bl_drop s k h, List.filter_cons]
  cases lineB s[k] <;> rfl
set_option maxHeartbeats 2000000 in
set_option maxRecDepth 100000 in
theorem ref3_clean (s : ByteArray) (w : World) (hs : s.size ≤ 1000000) :
    Calls Tryz.prog 44 #[.string s] w fun e w' => (∃ t, e = .returned (.string t) ∧ Hid (bl t = cleanS (bl s)) ∧ t.size ≤ s.size) ∧ Hid (Bel w w') := by
  go_enter Tryz.func44, Tryz.ntmps44
  go_wp2
  go_loopg [0] s.size (fun g v0 wr => ∃ t : ByteArray, v0 = .string t ∧ t.size ≤ g ∧ t.size ≤ s.size ∧ Hid ((bl t).dropWhile blankB = (bl s).dropWhile blankB) ∧ w = wr)
  case atStart => exact ⟨s, rfl, Nat.le_refl _, Nat.le_refl _, rfl, rfl⟩
  case round =>
    obtain ⟨t, rfl, ht, hts, HI, rfl⟩ := hrel
    have hgo : 0 < t.size → ∀ h : 0 < t.size, blankB t[0] = true → Hid ((bl (t.extract 1 t.size)).dropWhile blankB = (bl s).dropWhile blankB) := by
      intro _ h hb
      unfold Hid; rw [← HI.out, bl_tail]; conv => rhs; rw [bl_head t h, List.dropWhile_cons, hb, if_pos rfl]
    by_cases hc : ∃ h : 0 < t.size, blankB t[0] = true
    · obtain ⟨h0, hb⟩ := hc
      obtain ⟨g, rfl⟩ : ∃ g, gk = g + 1 := ⟨gk - 1, by omega⟩
      have HF := hgo h0 h0 hb
      have hb2 : (t[0].toNat : Int) ≤ 32 := by
        rcases blank_cases t[0] with ⟨_, h⟩ | ⟨h, _⟩
        · exact h
        · rw [hb] at h; cases h
      have hz : (t.extract 1 t.size).size ≤ g := by rw [ByteArray.size_extract]; omega
      have hz2 : (t.extract 1 t.size).size ≤ s.size := by rw [ByteArray.size_extract]; omega
      clear hb HI hgo
      go_wp2
      go_roundg g
      case measure => omega
      case rel => exact ⟨_, rfl, hz, hz2, HF, rfl⟩
    · have HF : Hid (bl t = (bl s).dropWhile blankB) := by
        unfold Hid; rw [← HI.out]
        by_cases h0 : 0 < t.size
        · have hb : blankB t[0] = false := by
            cases h : blankB t[0]
            · rfl
            · exact absurd ⟨h0, h⟩ hc
          rw [bl_head t h0, List.dropWhile_cons, hb]; rfl
        · rw [List.eq_nil_of_length_eq_zero (l := bl t) (by rw [bl_length]; omega)]; rfl
      have hq : ¬ 0 < (t.size : Int) ∨ (0 < (t.size : Int) ∧ ∃ h : 0 < t.size, ¬ (t[0].toNat : Int) ≤ 32) := by
        by_cases h0 : 0 < t.size
        · refine .inr ⟨by omega, h0, ?_⟩
          rcases blank_cases t[0] with ⟨h, _⟩ | ⟨_, h⟩
          · exact absurd ⟨h0, h⟩ hc
          · exact h
        · exact .inl (by omega)
      clear hc HI hgo
      have HT : Hid (rstrip blankB (bl t) = trimS (bl s)) := by unfold Hid trimS; rw [HF.out]
      clear HF
      rcases hq with hq | ⟨hq, hq0, hq1⟩
      all_goals
        go_wp2
        go_loopg [0] t.size (fun g v0 wr => ∃ r : ByteArray, v0 = .string r ∧ r.size ≤ g ∧ r.size ≤ s.size ∧ Hid (rstrip blankB (bl r) = trimS (bl s)) ∧ w = wr)
        case atStart => exact ⟨t, rfl, Nat.le_refl _, hts, HT, rfl⟩
        case round =>
          obtain ⟨r, rfl, hr, hrs, HI, rfl⟩ := hrel
          clear hq
          by_cases hc : ∃ h : 0 < r.size, blankB (r[r.size - 1]'(by omega)) = true
          · obtain ⟨h0, hb⟩ := hc
            obtain ⟨g, rfl⟩ : ∃ g, gk = g + 1 := ⟨gk - 1, by omega⟩
            have HF : Hid (rstrip blankB (bl (r.extract 0 (r.size - 1))) = trimS (bl s)) := by
              unfold Hid; rw [← HI.out, bl_init]; conv => rhs; rw [bl_lastc r h0, rstrip_cut _ _ _ hb]
            have hb2 : ((r[r.size - 1]'(by omega)).toNat : Int) ≤ 32 := by
              rcases blank_cases (r[r.size - 1]'(by omega)) with ⟨_, h⟩ | ⟨h, _⟩
              · exact h
              · rw [hb] at h; cases h
            have hz : (r.extract 0 (r.size - 1)).size ≤ g := by rw [ByteArray.size_extract]; omega
            have hz2 : (r.extract 0 (r.size - 1)).size ≤ s.size := by rw [ByteArray.size_extract]; omega
            have p0 : (0 : Int) < r.size := by omega
            have e1 : IntKind.i64.wrap ((r.size : Int) - 1) = ((r.size - 1 : Nat) : Int) := by rw [IntWalk.i64_in _ (by omega)]; omega
            have p2 : r.size - 1 < r.size := by omega
            clear hb HI
            go_wp2
            go_roundg g
            case measure => omega
            case rel => exact ⟨_, rfl, hz, hz2, HF, rfl⟩
          · have HF : Hid (bl r = trimS (bl s)) := by
              unfold Hid; rw [← HI.out]
              by_cases h0 : 0 < r.size
              · have hb : blankB (r[r.size - 1]'(by omega)) = false := by
                  cases h : blankB (r[r.size - 1]'(by omega))
                  · rfl
                  · exact absurd ⟨h0, h⟩ hc
                conv => rhs; rw [bl_lastc r h0, rstrip_keep _ _ _ hb, ← bl_lastc r h0]
              · rw [List.eq_nil_of_length_eq_zero (l := bl r) (by rw [bl_length]; omega)]; rfl
            have hq : ¬ 0 < (r.size : Int) ∨ (0 < (r.size : Int) ∧ ∃ h : 0 < r.size, ¬ ((r[r.size - 1]'(by omega)).toNat : Int) ≤ 32) := by
              by_cases h0 : 0 < r.size
              · refine .inr ⟨by omega, h0, ?_⟩
                rcases blank_cases (r[r.size - 1]'(by omega)) with ⟨h, _⟩ | ⟨_, h⟩
                · exact absurd ⟨h0, h⟩ hc
                · exact h
              · exact .inl (by omega)
            clear hc HI
            have e1 : 0 < r.size → IntKind.i64.wrap ((r.size : Int) - 1) = ((r.size - 1 : Nat) : Int) := fun _ => by rw [IntWalk.i64_in _ (by omega)]; omega
            rcases hq with hq | ⟨hq, hq0, hq1⟩
            case' inl => clear e1
            case' inr =>
              replace e1 := e1 hq0
              have p2 : r.size - 1 < r.size := by omega
            all_goals
              go_wp2
              go_loopg [3, 4] r.size (fun g v3 v4 wr => ∃ (k : Nat) (o : ByteArray), v3 = .string o ∧ v4 = .int .i64 k ∧ k + g = r.size ∧ o.size ≤ k ∧ Hid (bl o ++ ((bl r).drop k).filter (fun x => !lineB x) = cleanS (bl s)) ∧ Hid (Bel w wr))
              case atStart => exact ⟨0, ⟨#[]⟩, rfl, rfl, by omega, Nat.le_refl _, by unfold Hid cleanS; rw [← HF.out]; rfl, by unfold Hid; exact Below.refl _ _⟩
              case round =>
                obtain ⟨k, o, rfl, rfl, hk, ho, HG, HB⟩ := hrel
                clear HF
                cases gk with
                | zero =>
                  have hk' : ¬ (k : Int) < r.size := by omega
                  have HX : Hid (bl o = cleanS (bl s)) := by have := HG.out; rw [bl_drop_end r k (by omega)] at this; unfold Hid; rw [← this]; simp
                  clear HG
                  go_wp2
                  go_ret
                  exact ⟨⟨o, rfl, HX, by omega⟩, HB⟩
                | succ g =>
                  have hlt : k < r.size := by omega
                  rw [filter_step r k hlt] at HG
                  have p1 : 0 ≤ (k : Int) + 1 := by omega
                  have p2 : (k : Int) + 1 ≤ r.size := by omega
                  have p3 : ((k : Int) + 1).toNat = k + 1 := by omega
                  have e1 : IntKind.i64.wrap ((k : Int) + 1) = (k : Int) + 1 := IntWalk.i64_in _ (by omega)
                  rcases line_cases r[k] with ⟨hl, l1⟩ | ⟨hl, l1, l2⟩ | ⟨hl, l1, l2, l3⟩ | ⟨hl, l1, l2, l3⟩
                  case' inr.inr.inr =>
                    have hx : bl (r.extract k (k + 1)) = [r[k]] := by rw [bl_extract, bl_drop r k hlt]; simp
                    have hz : (o ++ r.extract k (k + 1)).size ≤ k + 1 := by rw [ByteArray.size_append, ByteArray.size_extract]; omega
                    have HX : Hid (bl (o ++ r.extract k (k + 1)) ++ ((bl r).drop (k + 1)).filter (fun x => !lineB x) = cleanS (bl s)) := by
                      unfold Hid; rw [← HG.out, hl, if_neg Bool.false_ne_true, bl_append, hx, List.append_assoc]
                    have hl1 : (k : Int) ≤ (k : Int) + 1 := by omega
                    have hl2 : ¬ 9223372036854775807 < o.size + (min (k + 1) r.size - k) := by omega
                    have hl3 : ¬ 9223372036854775807 < o.size + (k + 1 - k) := by omega
                    have hl4 : ¬ 9223372036854775807 < o.size + 1 := by omega
                    clear hl HG hx
                    go_wp2
                    go_roundg g
                    case measure => omega
                    case rel => exact ⟨k + 1, _, rfl, by go_num, by omega, hz, HX, HB⟩
                  all_goals
                    have HX : Hid (bl o ++ ((bl r).drop (k + 1)).filter (fun x => !lineB x) = cleanS (bl s)) := by
                      unfold Hid; rw [← HG.out, hl, if_pos rfl]; rfl
                    clear hl HG
                    go_wp2
                    go_roundg g
                    case measure => omega
                    case rel => exact ⟨k + 1, o, rfl, by go_num, by omega, by omega, HX, HB⟩
end Go.Proofs.YtbpkkgaaeodimaaGreatDoor
