import Derived.Test.YtpgehhnmlihnbaaGreatDoorXLDigs
import Derived.Test.YtpgehhnmlihnbaaGreatDoorXLawR
namespace Go.Proofs.YtpgehhnmlihnbaaGreatDoor
open Go.RowKit

theorem and_u32 (n m k : Nat) (hn : n < 4294967296) (hm : m + 1 = 2 ^ k) (hk : m < 4294967296) : Go.bits .and .u32 (n : Int) (m : Int) = ((n % 2 ^ k : Nat) : Int) := by
  rw [u32_and _ _ (by omega) (by omega) (by omega) (by omega), Int.toNat_natCast, Int.toNat_natCast]
  have h := Nat.and_two_pow_sub_one_eq_mod n k
  rw [show 2 ^ k - 1 = m by omega] at h
  rw [h]
set_option maxHeartbeats 4000000 in
set_option maxRecDepth 100000 in
theorem law_Forms (n : Nat) (w : World) (hn : n ≤ 4294967295) (HE : Hid (Env w)) :
    Calls Tryz.prog 7 #[.int .u32 n] w fun e w' => e = .returned (.bool true) ∧ Hid (Bel w w') := by
  have HS : Hid (St w w) := ⟨HE.out, Below.refl _ _⟩
  obtain ⟨a, ha⟩ : ∃ a, n / 16777216 = a := ⟨_, rfl⟩
  obtain ⟨b, hb⟩ : ∃ b, n / 65536 % 256 = b := ⟨_, rfl⟩
  obtain ⟨c, hc⟩ : ∃ c, n % 16777216 = c := ⟨_, rfl⟩
  obtain ⟨d, hd⟩ : ∃ d, n % 65536 = d := ⟨_, rfl⟩
  have HF5 : Hid (parseS ((48 :: 120 :: digs 16 a) ++ 46 :: digs 10 c) true = some (text4S (n : Int))) := form_5 n a c (by omega) (by omega) (by omega)
  have HF6 : Hid (parseS (digs 10 a ++ 46 :: ((48 :: digs 8 b) ++ 46 :: digs 10 d)) true = some (text4S (n : Int))) := form_6 n a b d (by omega) (by omega) (by omega) (by omega)
  have e1 : (n : Int) / 16777216 = (a : Int) := by omega
  have e2 : Go.bits .and .u32 (n : Int) 16777215 = (c : Int) := (and_u32 n 16777215 24 (by omega) (by omega) (by omega)).trans (by rw [← hc])
  have e3 : Go.bits .and .u32 (n : Int) 65535 = (d : Int) := (and_u32 n 65535 16 (by omega) (by omega) (by omega)).trans (by rw [← hd])
  have e4 : Go.bits .and .u32 ((n : Int) / 65536) 255 = (b : Int) := by
    rw [show (n : Int) / 65536 = ((n / 65536 : Nat) : Int) by omega]
    exact (and_u32 (n / 65536) 255 8 (by omega) (by omega) (by omega)).trans (by rw [← hb])
  have ba : a ≤ 255 := by omega
  have bb : b ≤ 255 := by omega
  have bc : c ≤ 16777215 := by omega
  have bd : d ≤ 65535 := by omega
  clear ha hb hc hd
  have a1 : (a : Int) ≤ 255 := by omega
  have a2 : IntKind.u8.wrap (a : Int) = (a : Int) := by rw [IntKind.wrap_u8]; omega
  go_enter Tryz.func7, Tryz.ntmps7
  go_wp2_with fail
  refine (host_Text4 (n : Int) _ (by omega) (by omega) HE).mono ?_
  rintro e w1 ⟨⟨t, rfl, ht⟩, HB1⟩
  have HS1 := st_next HS HB1
  have htz : t.size ≤ 15 := by rw [← bl_length, ht.out]; exact text4_len _ (by omega) (by omega)
  go_wp2_with fail
  refine (law2_digits n 10 10 _ (by simp) (by omega)).mono ?_
  rintro e w2 ⟨⟨t1, rfl, h1⟩, rfl⟩
  go_wp2_with fail
  refine (law2_digits n 16 16 _ (by simp) (by omega)).mono ?_
  rintro e w2 ⟨⟨t2, rfl, h2⟩, rfl⟩
  have z2 : t2.size ≤ 8 := by rw [← bl_length, h2.out]; exact digs_len 16 (by omega) 8 n (by omega) (by omega)
  go_wp2_with fail
  refine (law2_digits n 8 8 _ (by simp) (by omega)).mono ?_
  rintro e w2 ⟨⟨t3, rfl, h3⟩, rfl⟩
  have z3 : t3.size ≤ 11 := by rw [← bl_length, h3.out]; exact digs_len 8 (by omega) 11 n (by omega) (by omega)
  go_wp2_with fail
  refine (law2_digits a 16 16 _ (by simp) (by omega)).mono ?_
  rintro e w2 ⟨⟨t4, rfl, h4⟩, rfl⟩
  have z4 : t4.size ≤ 2 := by rw [← bl_length, h4.out]; exact digs_len 16 (by omega) 2 a (by omega) (by omega)
  go_wp2_with fail
  refine (law2_digits c 10 10 _ (by simp) (by omega)).mono ?_
  rintro e w2 ⟨⟨t5, rfl, h5⟩, rfl⟩
  have z5 : t5.size ≤ 8 := by rw [← bl_length, h5.out]; exact digs_len 10 (by omega) 8 c (by omega) (by omega)
  go_wp2_with fail
  refine (law2_digits a 10 10 _ (by simp) (by omega)).mono ?_
  rintro e w2 ⟨⟨t6, rfl, h6⟩, rfl⟩
  have z6 : t6.size ≤ 3 := by rw [← bl_length, h6.out]; exact digs_len 10 (by omega) 3 a (by omega) (by omega)
  go_wp2_with fail
  refine (law2_digits b 8 8 _ (by simp) (by omega)).mono ?_
  rintro e w2 ⟨⟨t7, rfl, h7⟩, rfl⟩
  have z7 : t7.size ≤ 3 := by rw [← bl_length, h7.out]; exact digs_len 8 (by omega) 3 b (by omega) (by omega)
  go_wp2_with fail
  refine (law2_digits d 10 10 _ (by simp) (by omega)).mono ?_
  rintro e w2 ⟨⟨t8, rfl, h8⟩, rfl⟩
  have z8 : t8.size ≤ 5 := by rw [← bl_length, h8.out]; exact digs_len 10 (by omega) 5 d (by omega) (by omega)
  go_upto_block 0 with (fail)
  have HU : Hid (RdAt (w1.alloc (.cells #[.string t1, .string ((⟨#[48, 120]⟩ : ByteArray) ++ t2), .string ((⟨#[48]⟩ : ByteArray) ++ t3), .string (t ++ ⟨#[46]⟩), .string ((⟨#[48, 120]⟩ : ByteArray) ++ t4 ++ ⟨#[46]⟩ ++ t5), .string (t6 ++ ⟨#[46, 48]⟩ ++ t7 ++ ⟨#[46]⟩ ++ t8)] 9)) w1.heap.size (strs [digs 10 n, 48 :: 120 :: digs 16 n, 48 :: digs 8 n, text4S (n : Int) ++ [46], (48 :: 120 :: digs 16 a) ++ 46 :: digs 10 c, digs 10 a ++ 46 :: ((48 :: digs 8 b) ++ 46 :: digs 10 d)])) := by
    have h := RdAt.alloc w1 [.string t1, .string ((⟨#[48, 120]⟩ : ByteArray) ++ t2), .string ((⟨#[48]⟩ : ByteArray) ++ t3), .string (t ++ ⟨#[46]⟩), .string ((⟨#[48, 120]⟩ : ByteArray) ++ t4 ++ ⟨#[46]⟩ ++ t5), .string (t6 ++ ⟨#[46, 48]⟩ ++ t7 ++ ⟨#[46]⟩ ++ t8)] 9
    have e : [Value.string t1, .string ((⟨#[48, 120]⟩ : ByteArray) ++ t2), .string ((⟨#[48]⟩ : ByteArray) ++ t3), .string (t ++ ⟨#[46]⟩), .string ((⟨#[48, 120]⟩ : ByteArray) ++ t4 ++ ⟨#[46]⟩ ++ t5), .string (t6 ++ ⟨#[46, 48]⟩ ++ t7 ++ ⟨#[46]⟩ ++ t8)] = strs [digs 10 n, 48 :: 120 :: digs 16 n, 48 :: digs 8 n, text4S (n : Int) ++ [46], (48 :: 120 :: digs 16 a) ++ 46 :: digs 10 c, digs 10 a ++ 46 :: ((48 :: digs 8 b) ++ 46 :: digs 10 d)] := by
      rw [← ht.out, ← h1.out, ← h2.out, ← h3.out, ← h4.out, ← h5.out, ← h6.out, ← h7.out, ← h8.out]
      have k2 : bl ((⟨#[48, 120]⟩ : ByteArray) ++ t2) = 48 :: 120 :: bl t2 := by rw [bl_append]; rfl
      have k3 : bl ((⟨#[48]⟩ : ByteArray) ++ t3) = 48 :: bl t3 := by rw [bl_append]; rfl
      have k4 : bl (t ++ ⟨#[46]⟩) = bl t ++ [46] := by rw [bl_append]; rfl
      have k5 : bl ((⟨#[48, 120]⟩ : ByteArray) ++ t4 ++ ⟨#[46]⟩ ++ t5) = (48 :: 120 :: bl t4) ++ 46 :: bl t5 := by rw [bl_append, bl_append, bl_append, List.append_assoc]; rfl
      have k6 : bl (t6 ++ ⟨#[46, 48]⟩ ++ t7 ++ ⟨#[46]⟩ ++ t8) = bl t6 ++ 46 :: ((48 :: bl t7) ++ 46 :: bl t8) := by rw [bl_append, bl_append, bl_append, bl_append, List.append_assoc, List.append_assoc, List.append_assoc]; rfl
      rw [← k2, ← k3, ← k4, ← k5, ← k6]
      simp only [strs, List.map_cons, List.map_nil, mk_bl]
    rw [e] at h
    have h' := h
    rw [← e] at h'
    rw [← e]
    exact h'
  have HSu := st_next HS1 (show Hid (Bel w1 (w1.alloc (.cells #[.string t1, .string ((⟨#[48, 120]⟩ : ByteArray) ++ t2), .string ((⟨#[48]⟩ : ByteArray) ++ t3), .string (t ++ ⟨#[46]⟩), .string ((⟨#[48, 120]⟩ : ByteArray) ++ t4 ++ ⟨#[46]⟩ ++ t5), .string (t6 ++ ⟨#[46, 48]⟩ ++ t7 ++ ⟨#[46]⟩ ++ t8)] 9))) from (Below.refl _ _).alloc (Nat.le_refl _) _)
  generalize w1.alloc (.cells #[.string t1, .string ((⟨#[48, 120]⟩ : ByteArray) ++ t2), .string ((⟨#[48]⟩ : ByteArray) ++ t3), .string (t ++ ⟨#[46]⟩), .string ((⟨#[48, 120]⟩ : ByteArray) ++ t4 ++ ⟨#[46]⟩ ++ t5), .string (t6 ++ ⟨#[46, 48]⟩ ++ t7 ++ ⟨#[46]⟩ ++ t8)] 9) = w2 at *
  obtain ⟨g, hg⟩ : ∃ g, w1.heap.size = g := ⟨_, rfl⟩
  rw [hg] at HU
  simp only [hg]
  clear hg
  obtain ⟨L, hL⟩ : ∃ L, L = [digs 10 n, 48 :: 120 :: digs 16 n, 48 :: digs 8 n, text4S (n : Int) ++ [46], (48 :: 120 :: digs 16 a) ++ 46 :: digs 10 c, digs 10 a ++ 46 :: ((48 :: digs 8 b) ++ 46 :: digs 10 d)] := ⟨_, rfl⟩
  rw [← hL] at HU
  have HL6 : Hid (L.length = 6) := by rw [hL]; rfl
  have HLP : Hid (∀ x ∈ L, parseS x true = some (text4S (n : Int)) ∧ x.length ≤ 100) := by
    have q1 := congrArg List.length h1.out
    have q2 := congrArg List.length h2.out
    have q3 := congrArg List.length h3.out
    have q4 := congrArg List.length h4.out
    have q5 := congrArg List.length h5.out
    have q6 := congrArg List.length h6.out
    have q7 := congrArg List.length h7.out
    have q8 := congrArg List.length h8.out
    have q0 := congrArg List.length ht.out
    have q9 := digs_len 10 (by omega) 11 n (by omega) (by omega)
    simp only [bl_length] at q0 q1 q2 q3 q4 q5 q6 q7 q8
    intro x hx
    rw [hL] at hx
    simp only [List.mem_cons, List.not_mem_nil, or_false] at hx
    rcases hx with rfl | rfl | rfl | rfl | rfl | rfl
    · exact ⟨form_1 n (by omega), by omega⟩
    · exact ⟨form_2 n (by omega), by simp; omega⟩
    · exact ⟨form_3 n (by omega), by simp; omega⟩
    · exact ⟨form_4 n (by omega), by simp; omega⟩
    · exact ⟨HF5.out, by simp; omega⟩
    · exact ⟨HF6.out, by simp; omega⟩
  clear hL
  go_wp2_with fail
  go_loopg [6] 6 (fun r v wr => ∃ i : Nat, v = .int .i64 i ∧ i + r = 6 ∧ Hid (RdAt wr g (strs L)) ∧ Hid (St w wr))
  case atStart => exact ⟨0, rfl, by omega, HU, HSu⟩
  case round =>
    obtain ⟨i, rfl, hi, HUr, HSr⟩ := hrel
    cases gk with
    | zero =>
      have hi' : ¬ (i : Int) < 6 := by omega
      go_wp2_with fail
      refine (st_known (w0 := w) _ HSr).mono ?_
      rintro e w7 ⟨rfl, HS7⟩
      go_wp2
      go_ret
      exact ⟨rfl, HS7.out.2⟩
    | succ r =>
      have hlt : i < 6 := by omega
      obtain ⟨u, hu⟩ : ∃ u, L[i]? = some (bl u) := ⟨⟨(L[i]'(by rw [HL6.out]; omega)).toArray⟩, by rw [bl_mk]; exact List.getElem?_eq_getElem _⟩
      have hcell := strs_cell HUr.out hu
      have HP := Lib.hid (HLP.out _ (List.mem_of_getElem? hu))
      have hus := HP.out.2
      rw [bl_length] at hus
      clear hu
      go_wp2_with fail
      refine (host_Parse u true _ (by omega) HSr.out.1).mono ?_
      rintro e w3 ⟨⟨y, rfl, hy⟩, HB3⟩
      rw [HP.out.1] at hy ⊢
      rw [show errO (some (text4S (n : Int))) = 0 from rfl]
      have hyt : (y.toList == t.toList) = true := same_text hy ht
      have HS3 := st_next HSr HB3
      have HU3 := Lib.hid (HUr.out.bel HB3.out)
      go_wp2
      go_roundg r
      case measure => omega
      case rel => exact ⟨i + 1, by go_num, by omega, HU3, HS3⟩
theorem law_FormsI (v : Int) (w : World) (h0 : 0 ≤ v) (h1 : v ≤ 4294967295) (HE : Hid (Env w)) :
    Calls Tryz.prog 7 #[.int .u32 v] w fun e w' => e = .returned (.bool true) ∧ Hid (Bel w w') := by
  obtain ⟨n, rfl⟩ := Int.eq_ofNat_of_zero_le h0
  exact law_Forms n w (by omega) HE
end Go.Proofs.YtpgehhnmlihnbaaGreatDoor
