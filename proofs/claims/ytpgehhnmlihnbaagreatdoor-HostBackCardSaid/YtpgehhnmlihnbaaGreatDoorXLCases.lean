import Derived.Test.YtpgehhnmlihnbaaGreatDoorXLBad
import Derived.StillTailTactics
namespace Go.Proofs.YtpgehhnmlihnbaaGreatDoor
open Go.RowKit

theorem name_ways (x : UInt8) (h : nameB x = true) : (97 ≤ (x.toNat : Int) ∧ (x.toNat : Int) ≤ 122) ∨ ((x.toNat : Int) < 97 ∧ ((x.toNat : Int) == 45) = true) ∨ ((x.toNat : Int) < 97 ∧ ((x.toNat : Int) == 45) = false ∧ ((x.toNat : Int) == 46) = true) := by
  have := u8_imp (p := fun x => !nameB x || (decide (97 ≤ (x.toNat : Int) ∧ (x.toNat : Int) ≤ 122) || decide ((x.toNat : Int) < 97 ∧ ((x.toNat : Int) == 45) = true) || decide ((x.toNat : Int) < 97 ∧ ((x.toNat : Int) == 45) = false ∧ ((x.toNat : Int) == 46) = true))) (by decide +kernel) x
  rw [h] at this
  simpa [or_assoc] using this
theorem no_name_ways (x : UInt8) (h : nameB x = false) : ((x.toNat : Int) < 97 ∧ ((x.toNat : Int) == 45) = false ∧ ((x.toNat : Int) == 46) = false) ∨ (97 ≤ (x.toNat : Int) ∧ 122 < (x.toNat : Int) ∧ ((x.toNat : Int) == 45) = false ∧ ((x.toNat : Int) == 46) = false) := by
  have := u8_imp (p := fun x => nameB x || (decide ((x.toNat : Int) < 97 ∧ ((x.toNat : Int) == 45) = false ∧ ((x.toNat : Int) == 46) = false) || decide (97 ≤ (x.toNat : Int) ∧ 122 < (x.toNat : Int) ∧ ((x.toNat : Int) == 45) = false ∧ ((x.toNat : Int) == 46) = false))) (by decide +kernel) x
  rw [h] at this
  simpa [or_assoc] using this
theorem bl_one (s : ByteArray) (k : Nat) (h : k < s.size) : bl (s.extract k (k + 1)) = [s[k]] := by
  rw [bl_extract, bl_drop s k h]; simp
theorem bl_pre (s : ByteArray) (i : Nat) : bl (s.extract 0 i) = (bl s).take i := by rw [bl_extract, List.drop_zero, Nat.sub_zero]
theorem bl_suf (s : ByteArray) (i : Nat) : bl (s.extract i s.size) = (bl s).drop i := by
  rw [bl_extract]
  exact List.take_of_length_le (by rw [List.length_drop, bl_length]; exact Nat.le_refl _)
theorem last_q (l : List UInt8) : (113 :: (l ++ [113])).getLast? = some 113 := by
  rw [show (113 : UInt8) :: (l ++ [113]) = (113 :: l) ++ [113] from rfl, List.getLast?_append]; rfl
theorem conv_one (w : World) (c : UInt8) (v : Int) (hv : v = c.toNat) : (convert 53 9 (.slice (some ⟨w.heap.size, 0, none⟩) 1 1)).run Tryz.prog (w.alloc (.cells #[.int .u8 v] 5)) = .ok (.string ⟨#[c]⟩) (w.alloc (.cells #[.int .u8 v] 5)) := by
  subst hv
  rw [show (⟨#[c]⟩ : ByteArray) = ⟨[c].toArray⟩ from rfl, ← nums_u8]
  refine run_convert_bytes_arg _ 53 5 Tryz.underlying53 Tryz.underlying5 w.heap.size 0 1 1 _ (by simp) (fun i hi => ?_) 9 Tryz.underlying9
  obtain rfl : i = 0 := by simp at hi; omega
  rw [World.cell?_alloc_at _ _ _ _ rfl]
  rfl
theorem dig_16 (d : Nat) (h : d < 16) : bl ((⟨#[48, 49, 50, 51, 52, 53, 54, 55, 56, 57, 97, 98, 99, 100, 101, 102]⟩ : ByteArray).extract d (d + 1)) = [dgc d] := dig_piece16 ⟨d, h⟩
theorem upB_val (x : UInt8) (h : 97 ≤ (x.toNat : Int)) (h2 : (x.toNat : Int) ≤ 122) : (x.toNat : Int) - 32 = (upB x).toNat := by
  unfold upB
  rw [if_pos (by omega), UInt8.toNat_sub_of_le _ _ (by rw [UInt8.le_iff_toNat_le]; show 32 ≤ x.toNat; omega)]
  show _ = ((x.toNat - 32 : Nat) : Int)
  omega
theorem upB_same (x : UInt8) (h : (x.toNat : Int) < 97) : upB x = x := by unfold upB; rw [if_neg (by omega)]
theorem signs_len : ∀ (l : List UInt8), (l.flatMap signB).length = 3 * l.length
  | [] => rfl
  | x :: r => by rw [List.flatMap_cons, List.length_append, signs_len r, List.length_cons]; show 3 + _ = _; omega
set_option maxHeartbeats 4000000 in
set_option maxRecDepth 100000 in
theorem law_Cases (s0 : ByteArray) (n1 : Int) (w : World) (hs0 : s0.size ≤ 140737488351232) (HE : Hid (Env w)) :
    Calls Tryz.prog 8 #[.string s0, .int .i64 n1] w fun e w' => e = .returned (.bool true) ∧ Hid (Bel w w') := by
  have HS : Hid (St w w) := ⟨HE.out, Below.refl _ _⟩
  go_enter Tryz.func8, Tryz.ntmps8
  go_upto_block 0 with (fail)
  go_cut [5, 6] (fun v5 v6 wc => (∃ t : ByteArray, v5 = .string t ∧ t.size ≤ 40 ∧ Hid (∀ x ∈ bl t, nameB x = true)) ∧ w = wc)
  case first =>
    go_wp2_with fail
    go_loopg [5, 6] s0.size (fun g v5 v6 wr => ∃ (i : Nat) (t : ByteArray), v5 = .string t ∧ v6 = .int .i64 i ∧ i + g = s0.size ∧ t.size ≤ 40 ∧ Hid (∀ x ∈ bl t, nameB x = true) ∧ w = wr)
    case atStart => exact ⟨0, ⟨#[]⟩, rfl, rfl, by omega, by decide, (fun x hx => by cases hx), rfl⟩
    case round =>
      obtain ⟨i, t, rfl, rfl, hi, ht, HT, rfl⟩ := hrel
      cases gk with
      | zero =>
        have hi' : ¬ (i : Int) < s0.size := by omega
        go_wp2
        go_meet
        exact ⟨⟨t, rfl, ht, HT⟩, rfl⟩
      | succ g =>
        have hlt : i < s0.size := by omega
        by_cases h40 : t.size < 40
        · obtain ⟨c, hc⟩ : ∃ c, s0[i] = c := ⟨_, rfl⟩
          cases hn : nameB c
          · rcases no_name_ways c hn with ⟨h1, h2, h3⟩ | ⟨h1, h2, h3, h4⟩
            all_goals
              clear hn
              go_wp2
              go_roundg g
              case measure => omega
              case rel => exact ⟨i + 1, t, rfl, by go_num, by omega, ht, HT, rfl⟩
          · have HT2 : Hid (∀ x ∈ bl (t ++ s0.extract i (i + 1)), nameB x = true) := by
              intro x hx
              rw [bl_append, bl_one s0 i hlt, hc] at hx
              rcases List.mem_append.1 hx with h | h
              · exact HT.out x h
              · simp at h; rw [h]; exact hn
            have hz : (t ++ s0.extract i (i + 1)).size ≤ 40 := by rw [ByteArray.size_append, ByteArray.size_extract]; omega
            rcases name_ways c hn with ⟨h1, h2⟩ | ⟨h1, h2⟩ | ⟨h1, h2, h3⟩
            all_goals
              clear hn
              go_wp2
              go_roundg g
              case measure => omega
              case rel => exact ⟨i + 1, _, rfl, by go_num, by omega, hz, HT2, rfl⟩
        · have h40' : ¬ (t.size : Int) < 40 := by omega
          go_wp2
          go_meet
          exact ⟨⟨t, rfl, ht, HT⟩, rfl⟩
  case rest =>
    obtain ⟨⟨t, rfl, ht, HT⟩, rfl⟩ := hcut
    obtain ⟨q, hq⟩ : ∃ q, (⟨#[113]⟩ : ByteArray) ++ t ++ ⟨#[113]⟩ = q := ⟨_, rfl⟩
    have hqb : bl q = 113 :: (bl t ++ [113]) := by rw [← hq, bl_append, bl_append]; rfl
    have hqz : q.size = t.size + 2 := by rw [← bl_length, hqb]; simp [bl_length]
    have HN : Hid (∀ x ∈ bl q, nameB x = true) := by
      intro x hx
      rw [hqb] at hx
      rcases List.mem_cons.1 hx with rfl | hx
      · decide
      · rcases List.mem_append.1 hx with hx | hx
        · exact HT.out x hx
        · simp at hx; subst hx; decide
    go_upto_block 2 with (fail)
    try rw [hq]
    clear hq
    go_cut [7, 8] (fun v7 v8 wc => (∃ a b : ByteArray, v7 = .string a ∧ v8 = .string b ∧ Hid (bl a = (bl q).map upB) ∧ Hid (bl b = (bl q).flatMap signB)) ∧ Hid (St w wc))
    case first =>
      go_wp2_with fail
      go_loopg [7, 8, 9] q.size (fun g v7 v8 v9 wr => ∃ (i : Nat) (a b : ByteArray), v7 = .string a ∧ v8 = .string b ∧ v9 = .int .i64 i ∧ i + g = q.size ∧ Hid (bl a = ((bl q).take i).map upB) ∧ Hid (bl b = ((bl q).take i).flatMap signB) ∧ Hid (St w wr))
      case atStart => exact ⟨0, ⟨#[]⟩, ⟨#[]⟩, rfl, rfl, rfl, by omega, rfl, rfl, HS⟩
      case round =>
        obtain ⟨i, a, b, rfl, rfl, rfl, hi, HA, HB, HSr⟩ := hrel
        have haz : a.size = i := by have := congrArg List.length HA.out; rw [bl_length] at this; simp [bl_length] at this; omega
        cases gk with
        | zero =>
          have hi' : ¬ (i : Int) < q.size := by omega
          obtain rfl : i = q.size := by omega
          go_wp2
          go_meet
          exact ⟨⟨a, b, rfl, rfl, by have := HA.out; rw [List.take_of_length_le (by rw [bl_length]; exact Nat.le_refl _)] at this; exact this, by have := HB.out; rw [List.take_of_length_le (by rw [bl_length]; exact Nat.le_refl _)] at this; exact this⟩, HSr⟩
        | succ g =>
          have hlt : i < q.size := by omega
          obtain ⟨c, hc⟩ : ∃ c, q[i] = c := ⟨_, rfl⟩
          have hn : nameB c = true := HN.out c (by rw [← hc]; exact List.mem_of_getElem? (bl_get q i hlt))
          have hbz : b.size = 3 * i := by
            have := congrArg List.length HB.out
            rw [bl_length, signs_len, List.length_take, bl_length] at this
            omega
          have HA2 : Hid (((bl q).take (i + 1)).map upB = bl a ++ [upB c]) := by unfold Hid; rw [bl_take q i hlt, List.map_append, HA.out, hc]; rfl
          have HB2 : Hid (((bl q).take (i + 1)).flatMap signB = bl b ++ signB c) := by unfold Hid; rw [bl_take q i hlt, List.flatMap_append, HB.out, hc]; simp
          rcases name_ways c hn with ⟨h1, h2⟩ | ⟨h1, h2⟩ | ⟨h1, h2, h3⟩
          · clear hn
            have hcv := conv_one wr (upB c) _ (upB_val c h1 h2)
            have HS2 := st_next HSr (show Hid (Bel wr (wr.alloc (.cells #[.int .u8 ((c.toNat : Int) - 32)] 5))) from (Below.refl _ _).alloc (Nat.le_refl _) _)
            go_upto_region 17 with (fail)
            have ha2 : Hid (bl (a ++ ⟨#[upB c]⟩) = bl a ++ [upB c]) := by unfold Hid; rw [bl_append]; rfl
            generalize wr.alloc (.cells #[.int .u8 ((c.toNat : Int) - 32)] 5) = w2 at *
            generalize a ++ ⟨#[upB c]⟩ = a2 at *
            clear hcv
            have hA := u8_and15 (x := (c.toNat : Int)) (by omega) (by have := c.toNat_lt; omega)
            have c256 : (c.toNat : Int) < 256 := by have := c.toNat_lt; omega
            have e1 : IntKind.u8.wrap ((c.toNat : Int) / 16 + 1) = (c.toNat : Int) / 16 + 1 := by rw [IntKind.wrap_u8]; omega
            have e2 : IntKind.u8.wrap ((c.toNat : Int) % 16 + 1) = (c.toNat : Int) % 16 + 1 := by rw [IntKind.wrap_u8]; omega
            have p1 : 0 ≤ (c.toNat : Int) / 16 := by omega
            have p2 : (c.toNat : Int) / 16 ≤ (c.toNat : Int) / 16 + 1 := by omega
            have p3 : (c.toNat : Int) / 16 + 1 ≤ 16 := by omega
            have p4 : ((c.toNat : Int) / 16).toNat = c.toNat / 16 := by omega
            have p5 : ((c.toNat : Int) / 16 + 1).toNat = c.toNat / 16 + 1 := by omega
            have p6 : 0 ≤ (c.toNat : Int) % 16 := by omega
            have p7 : (c.toNat : Int) % 16 ≤ (c.toNat : Int) % 16 + 1 := by omega
            have p8 : (c.toNat : Int) % 16 + 1 ≤ 16 := by omega
            have p9 : ((c.toNat : Int) % 16).toNat = c.toNat % 16 := by omega
            have p10 : ((c.toNat : Int) % 16 + 1).toNat = c.toNat % 16 + 1 := by omega
            have d1 := dig_16 (c.toNat / 16) (by omega)
            have d2 := dig_16 (c.toNat % 16) (by omega)
            have z1 : ((⟨#[48, 49, 50, 51, 52, 53, 54, 55, 56, 57, 97, 98, 99, 100, 101, 102]⟩ : ByteArray).extract (c.toNat / 16) (c.toNat / 16 + 1)).size = 1 := by rw [← bl_length, d1]; rfl
            have z2 : ((⟨#[48, 49, 50, 51, 52, 53, 54, 55, 56, 57, 97, 98, 99, 100, 101, 102]⟩ : ByteArray).extract (c.toNat % 16) (c.toNat % 16 + 1)).size = 1 := by rw [← bl_length, d2]; rfl
            have D := Lib.hid (And.intro d1 d2)
            clear d1 d2
            go_quiet (fail)
            clear hA e1 e2 p1 p2 p3 p4 p5 p6 p7 p8 p9 p10
            have hb3 : Hid (bl (b ++ ⟨#[37]⟩ ++ (⟨#[48, 49, 50, 51, 52, 53, 54, 55, 56, 57, 97, 98, 99, 100, 101, 102]⟩ : ByteArray).extract (c.toNat / 16) (c.toNat / 16 + 1) ++ (⟨#[48, 49, 50, 51, 52, 53, 54, 55, 56, 57, 97, 98, 99, 100, 101, 102]⟩ : ByteArray).extract (c.toNat % 16) (c.toNat % 16 + 1)) = bl b ++ signB c) := by
              unfold Hid
              rw [bl_append, bl_append, bl_append]
              rw [D.out.1, D.out.2, List.append_assoc, List.append_assoc]
              rfl
            have HS3 := st_next HS2 (show Hid (Bel w2 (w2.drewN nq)) from bel_drewN _ _)
            generalize w2.drewN nq = w3 at *
            generalize b ++ ⟨#[37]⟩ ++ (⟨#[48, 49, 50, 51, 52, 53, 54, 55, 56, 57, 97, 98, 99, 100, 101, 102]⟩ : ByteArray).extract (c.toNat / 16) (c.toNat / 16 + 1) ++ (⟨#[48, 49, 50, 51, 52, 53, 54, 55, 56, 57, 97, 98, 99, 100, 101, 102]⟩ : ByteArray).extract (c.toNat % 16) (c.toNat % 16 + 1) = b2 at *
            clear D z1 z2
            go_wp2
            go_roundg g
            case measure => omega
            case rel => exact ⟨i + 1, a2, b2, rfl, rfl, by go_num, by omega, ha2.out.trans HA2.out.symm, hb3.out.trans HB2.out.symm, HS3⟩
          · clear hn
            go_upto_region 17 with (fail)
            have ha2 : Hid (bl (a ++ q.extract i (i + 1)) = bl a ++ [upB c]) := by unfold Hid; rw [bl_append, bl_one q i hlt, hc, upB_same c h1]
            obtain ⟨w2, hw2⟩ : ∃ x, x = wr := ⟨_, rfl⟩
            have HS2 := HSr
            rw [← hw2] at HS2 ⊢
            clear hw2
            generalize a ++ q.extract i (i + 1) = a2 at *
            have hA := u8_and15 (x := (c.toNat : Int)) (by omega) (by have := c.toNat_lt; omega)
            have c256 : (c.toNat : Int) < 256 := by have := c.toNat_lt; omega
            have e1 : IntKind.u8.wrap ((c.toNat : Int) / 16 + 1) = (c.toNat : Int) / 16 + 1 := by rw [IntKind.wrap_u8]; omega
            have e2 : IntKind.u8.wrap ((c.toNat : Int) % 16 + 1) = (c.toNat : Int) % 16 + 1 := by rw [IntKind.wrap_u8]; omega
            have p1 : 0 ≤ (c.toNat : Int) / 16 := by omega
            have p2 : (c.toNat : Int) / 16 ≤ (c.toNat : Int) / 16 + 1 := by omega
            have p3 : (c.toNat : Int) / 16 + 1 ≤ 16 := by omega
            have p4 : ((c.toNat : Int) / 16).toNat = c.toNat / 16 := by omega
            have p5 : ((c.toNat : Int) / 16 + 1).toNat = c.toNat / 16 + 1 := by omega
            have p6 : 0 ≤ (c.toNat : Int) % 16 := by omega
            have p7 : (c.toNat : Int) % 16 ≤ (c.toNat : Int) % 16 + 1 := by omega
            have p8 : (c.toNat : Int) % 16 + 1 ≤ 16 := by omega
            have p9 : ((c.toNat : Int) % 16).toNat = c.toNat % 16 := by omega
            have p10 : ((c.toNat : Int) % 16 + 1).toNat = c.toNat % 16 + 1 := by omega
            have d1 := dig_16 (c.toNat / 16) (by omega)
            have d2 := dig_16 (c.toNat % 16) (by omega)
            have z1 : ((⟨#[48, 49, 50, 51, 52, 53, 54, 55, 56, 57, 97, 98, 99, 100, 101, 102]⟩ : ByteArray).extract (c.toNat / 16) (c.toNat / 16 + 1)).size = 1 := by rw [← bl_length, d1]; rfl
            have z2 : ((⟨#[48, 49, 50, 51, 52, 53, 54, 55, 56, 57, 97, 98, 99, 100, 101, 102]⟩ : ByteArray).extract (c.toNat % 16) (c.toNat % 16 + 1)).size = 1 := by rw [← bl_length, d2]; rfl
            have D := Lib.hid (And.intro d1 d2)
            clear d1 d2
            go_quiet (fail)
            clear hA e1 e2 p1 p2 p3 p4 p5 p6 p7 p8 p9 p10
            have hb3 : Hid (bl (b ++ ⟨#[37]⟩ ++ (⟨#[48, 49, 50, 51, 52, 53, 54, 55, 56, 57, 97, 98, 99, 100, 101, 102]⟩ : ByteArray).extract (c.toNat / 16) (c.toNat / 16 + 1) ++ (⟨#[48, 49, 50, 51, 52, 53, 54, 55, 56, 57, 97, 98, 99, 100, 101, 102]⟩ : ByteArray).extract (c.toNat % 16) (c.toNat % 16 + 1)) = bl b ++ signB c) := by
              unfold Hid
              rw [bl_append, bl_append, bl_append]
              rw [D.out.1, D.out.2, List.append_assoc, List.append_assoc]
              rfl
            have HS3 := st_next HS2 (show Hid (Bel w2 (w2.drewN nq)) from bel_drewN _ _)
            generalize w2.drewN nq = w3 at *
            generalize b ++ ⟨#[37]⟩ ++ (⟨#[48, 49, 50, 51, 52, 53, 54, 55, 56, 57, 97, 98, 99, 100, 101, 102]⟩ : ByteArray).extract (c.toNat / 16) (c.toNat / 16 + 1) ++ (⟨#[48, 49, 50, 51, 52, 53, 54, 55, 56, 57, 97, 98, 99, 100, 101, 102]⟩ : ByteArray).extract (c.toNat % 16) (c.toNat % 16 + 1) = b2 at *
            clear D z1 z2
            go_wp2
            go_roundg g
            case measure => omega
            case rel => exact ⟨i + 1, a2, b2, rfl, rfl, by go_num, by omega, ha2.out.trans HA2.out.symm, hb3.out.trans HB2.out.symm, HS3⟩
          · clear hn
            go_upto_region 17 with (fail)
            have ha2 : Hid (bl (a ++ q.extract i (i + 1)) = bl a ++ [upB c]) := by unfold Hid; rw [bl_append, bl_one q i hlt, hc, upB_same c h1]
            obtain ⟨w2, hw2⟩ : ∃ x, x = wr := ⟨_, rfl⟩
            have HS2 := HSr
            rw [← hw2] at HS2 ⊢
            clear hw2
            generalize a ++ q.extract i (i + 1) = a2 at *
            have hA := u8_and15 (x := (c.toNat : Int)) (by omega) (by have := c.toNat_lt; omega)
            have c256 : (c.toNat : Int) < 256 := by have := c.toNat_lt; omega
            have e1 : IntKind.u8.wrap ((c.toNat : Int) / 16 + 1) = (c.toNat : Int) / 16 + 1 := by rw [IntKind.wrap_u8]; omega
            have e2 : IntKind.u8.wrap ((c.toNat : Int) % 16 + 1) = (c.toNat : Int) % 16 + 1 := by rw [IntKind.wrap_u8]; omega
            have p1 : 0 ≤ (c.toNat : Int) / 16 := by omega
            have p2 : (c.toNat : Int) / 16 ≤ (c.toNat : Int) / 16 + 1 := by omega
            have p3 : (c.toNat : Int) / 16 + 1 ≤ 16 := by omega
            have p4 : ((c.toNat : Int) / 16).toNat = c.toNat / 16 := by omega
            have p5 : ((c.toNat : Int) / 16 + 1).toNat = c.toNat / 16 + 1 := by omega
            have p6 : 0 ≤ (c.toNat : Int) % 16 := by omega
            have p7 : (c.toNat : Int) % 16 ≤ (c.toNat : Int) % 16 + 1 := by omega
            have p8 : (c.toNat : Int) % 16 + 1 ≤ 16 := by omega
            have p9 : ((c.toNat : Int) % 16).toNat = c.toNat % 16 := by omega
            have p10 : ((c.toNat : Int) % 16 + 1).toNat = c.toNat % 16 + 1 := by omega
            have d1 := dig_16 (c.toNat / 16) (by omega)
            have d2 := dig_16 (c.toNat % 16) (by omega)
            have z1 : ((⟨#[48, 49, 50, 51, 52, 53, 54, 55, 56, 57, 97, 98, 99, 100, 101, 102]⟩ : ByteArray).extract (c.toNat / 16) (c.toNat / 16 + 1)).size = 1 := by rw [← bl_length, d1]; rfl
            have z2 : ((⟨#[48, 49, 50, 51, 52, 53, 54, 55, 56, 57, 97, 98, 99, 100, 101, 102]⟩ : ByteArray).extract (c.toNat % 16) (c.toNat % 16 + 1)).size = 1 := by rw [← bl_length, d2]; rfl
            have D := Lib.hid (And.intro d1 d2)
            clear d1 d2
            go_quiet (fail)
            clear hA e1 e2 p1 p2 p3 p4 p5 p6 p7 p8 p9 p10
            have hb3 : Hid (bl (b ++ ⟨#[37]⟩ ++ (⟨#[48, 49, 50, 51, 52, 53, 54, 55, 56, 57, 97, 98, 99, 100, 101, 102]⟩ : ByteArray).extract (c.toNat / 16) (c.toNat / 16 + 1) ++ (⟨#[48, 49, 50, 51, 52, 53, 54, 55, 56, 57, 97, 98, 99, 100, 101, 102]⟩ : ByteArray).extract (c.toNat % 16) (c.toNat % 16 + 1)) = bl b ++ signB c) := by
              unfold Hid
              rw [bl_append, bl_append, bl_append]
              rw [D.out.1, D.out.2, List.append_assoc, List.append_assoc]
              rfl
            have HS3 := st_next HS2 (show Hid (Bel w2 (w2.drewN nq)) from bel_drewN _ _)
            generalize w2.drewN nq = w3 at *
            generalize b ++ ⟨#[37]⟩ ++ (⟨#[48, 49, 50, 51, 52, 53, 54, 55, 56, 57, 97, 98, 99, 100, 101, 102]⟩ : ByteArray).extract (c.toNat / 16) (c.toNat / 16 + 1) ++ (⟨#[48, 49, 50, 51, 52, 53, 54, 55, 56, 57, 97, 98, 99, 100, 101, 102]⟩ : ByteArray).extract (c.toNat % 16) (c.toNat % 16 + 1) = b2 at *
            clear D z1 z2
            go_wp2
            go_roundg g
            case measure => omega
            case rel => exact ⟨i + 1, a2, b2, rfl, rfl, by go_num, by omega, ha2.out.trans HA2.out.symm, hb3.out.trans HB2.out.symm, HS3⟩
    case rest =>
      obtain ⟨⟨a, b, rfl, rfl, HA, HB⟩, HS1⟩ := hcut
      have HPN : Hid (parseS (bl q) true = namedS (bl q) ∧ parseS (bl a) true = namedS (bl q) ∧ parseS (bl b) true = namedS (bl q) ∧ (namedS (bl q) = none ∨ namedS (bl q) = some (bl q))) := by
        have h := parse_name (bl t) HT.out
        unfold Hid
        rw [HA.out, HB.out, hqb]
        exact h
      have HQB := Lib.hid hqb
      have HQZ := Lib.hid hqz
      have hqs : q.size ≤ 42 := by omega
      clear hqb hqz
      have haz : a.size = q.size := by have := congrArg List.length HA.out; rw [bl_length] at this; simp [bl_length] at this; omega
      have hbz : b.size = 3 * q.size := by have := congrArg List.length HB.out; rw [bl_length, signs_len, bl_length] at this; exact this
      go_wp2_with fail
      refine (host_Parse q true _ (by omega) HS1.out.1).mono ?_
      rintro e w2 ⟨⟨u1, rfl, hu1⟩, HB2⟩
      rw [HPN.out.1] at hu1 ⊢
      have HS2 := st_next HS1 HB2
      go_wp2_with fail
      refine (host_Parse a true _ (by omega) HS2.out.1).mono ?_
      rintro e w3 ⟨⟨u2, rfl, hu2⟩, HB3⟩
      rw [HPN.out.2.1] at hu2 ⊢
      have HS3 := st_next HS2 HB3
      go_wp2_with fail
      refine (host_Parse b true _ (by omega) HS3.out.1).mono ?_
      rintro e w4 ⟨⟨u3, rfl, hu3⟩, HB4⟩
      rw [HPN.out.2.2.1] at hu3 ⊢
      have HS4 := st_next HS3 HB4
      have hq12 := same_text hu1 hu2
      have hq13 := same_text hu1 hu3
      have HEND : Hid (namedS (bl q) = none ∨ namedS (bl q) = some (bl q)) := HPN.out.2.2.2
      clear HPN HA HB hu2 hu3
      go_wp2_with fail
      refine (book_Within n1 q.size _ (by omega)).mono ?_
      rintro e w5 ⟨⟨i, rfl, hi⟩, rfl⟩
      go_upto_region 22 with (fail)
      have hi1 : (i : Int) ≤ q.size := by omega
      have z1 : (q.extract 0 i).size ≤ 42 := by rw [ByteArray.size_extract]; omega
      have z3 : (q.extract i q.size).size ≤ 42 := by rw [ByteArray.size_extract]; omega
      have l1 : ¬ 9223372036854775807 < i + 1 := by omega
      have l2 : ¬ 9223372036854775807 < i + 1 + (q.size - i) := by omega
      have hzb : bl (q.extract 0 i ++ ⟨#[37]⟩ ++ q.extract i q.size) = (bl q).take i ++ 37 :: (bl q).drop i := by
        rw [bl_append, bl_append, bl_pre, bl_suf, List.append_assoc]; rfl
      have HZB := Lib.hid hzb
      have hzz : (q.extract 0 i ++ ⟨#[37]⟩ ++ q.extract i q.size).size ≤ 1000000 := by
        rw [ByteArray.size_append, ByteArray.size_append]
        have : (⟨#[37]⟩ : ByteArray).size = 1 := rfl
        omega
      have HS4d := st_next HS4 (show Hid (Bel w4 w4.drew) from bel_drew w4)
      clear hzb
      go_region_held3 (fun w' => True) (trivial) (first | ((go_at_call 18; go_must (refine (host_Parse _ true _ hzz HS4d.out.1).mono ?_); rintro e w6 ⟨⟨u4, rfl, _⟩, HB6⟩)))
      have HS6 := st_next HS4d HB6
      rw [HZB.out]
      generalize q.extract 0 i ++ ⟨#[37]⟩ ++ q.extract i q.size = z at *
      have HPZ : Hid (¬ i + 2 < q.size → parseS ((bl q).take i ++ 37 :: (bl q).drop i) true = none) := by
        intro h
        refine parse_sign _ _ (fun x hx => (name_facts x (HN.out x ((List.take_sublist _ _).subset hx))).1) ?_ (by rw [List.length_drop, bl_length]; omega) ?_
        · right
          cases i with
          | zero => simp
          | succ k => rw [HQB.out, List.take_succ_cons]; simp
        · by_cases he : (bl q).drop i = []
          · exact .inl he
          · right
            have := List.getLast?_drop (l := bl q) (i := i)
            rw [this, if_neg (by intro h2; exact he (List.drop_eq_nil_of_le h2)), HQB.out]
            exact last_q _
      clear HZB l1 l2 z1 z3 hzz hi1
      by_cases hlt : i + 2 < q.size
      · have hlt' : (i : Int) + 2 < q.size := by omega
        clear HPZ
        generalize errO (parseS ((bl q).take i ++ 37 :: (bl q).drop i) true) = n4 at *
        by_cases h4 : n4 = 10
        · have h4b : (n4 == 10) = true := by rw [h4]; rfl
          clear h4
          rcases HEND.out with hE | hE
          · rw [hE, show errO none = 10 from rfl]
            clear hE HEND hu1
            go_wp2_with fail
            refine (st_known (w0 := w) _ HS6).mono ?_
            rintro e w7 ⟨rfl, HS7⟩
            go_wp2
            go_ret
            exact ⟨rfl, HS7.out.2⟩
          · have hq1q : (u1.toList == q.toList) = true := same_text (l := bl q) (by have := hu1.out; rw [hE] at this; exact this) rfl
            rw [hE, show errO (some (bl q)) = 0 from rfl]
            clear hE HEND hu1
            go_wp2_with fail
            refine (st_known (w0 := w) _ HS6).mono ?_
            rintro e w7 ⟨rfl, HS7⟩
            go_wp2
            go_ret
            exact ⟨rfl, HS7.out.2⟩
        · have h4b : (n4 == 10) = false := by simp [h4]
          clear h4
          rcases HEND.out with hE | hE
          · rw [hE, show errO none = 10 from rfl]
            clear hE HEND hu1
            go_wp2_with fail
            refine (st_known (w0 := w) _ HS6).mono ?_
            rintro e w7 ⟨rfl, HS7⟩
            go_wp2
            go_ret
            exact ⟨rfl, HS7.out.2⟩
          · have hq1q : (u1.toList == q.toList) = true := same_text (l := bl q) (by have := hu1.out; rw [hE] at this; exact this) rfl
            rw [hE, show errO (some (bl q)) = 0 from rfl]
            clear hE HEND hu1
            go_wp2_with fail
            refine (st_known (w0 := w) _ HS6).mono ?_
            rintro e w7 ⟨rfl, HS7⟩
            go_wp2
            go_ret
            exact ⟨rfl, HS7.out.2⟩
      · rw [HPZ.out hlt, show errO none = 10 from rfl]
        clear HPZ
        rcases HEND.out with hE | hE
        · rw [hE, show errO none = 10 from rfl]
          clear hE HEND hu1
          go_wp2_with fail
          refine (st_known (w0 := w) _ HS6).mono ?_
          rintro e w7 ⟨rfl, HS7⟩
          go_wp2
          go_ret
          exact ⟨rfl, HS7.out.2⟩
        · have hq1q : (u1.toList == q.toList) = true := same_text (l := bl q) (by have := hu1.out; rw [hE] at this; exact this) rfl
          rw [hE, show errO (some (bl q)) = 0 from rfl]
          clear hE HEND hu1
          go_wp2_with fail
          refine (st_known (w0 := w) _ HS6).mono ?_
          rintro e w7 ⟨rfl, HS7⟩
          go_wp2
          go_ret
          exact ⟨rfl, HS7.out.2⟩
end Go.Proofs.YtpgehhnmlihnbaaGreatDoor
