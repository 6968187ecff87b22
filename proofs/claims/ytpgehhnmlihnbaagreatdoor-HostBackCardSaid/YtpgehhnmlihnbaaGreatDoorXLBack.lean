import Derived.Test.YtpgehhnmlihnbaaGreatDoorXLForms
import Derived.Test.YtpgehhnmlihnbaaGreatDoorXLawS
namespace Go.Proofs.YtpgehhnmlihnbaaGreatDoor
open Go.RowKit

theorem percent_len (k : Int) : ∀ (l : List UInt8), (percent k l).length ≤ 3 * l.length
  | [] => by simp [percent]
  | x :: r => by
    have := percent_len k r
    rw [percent, List.length_append]
    split
    · show 3 + _ ≤ _; rw [List.length_cons]; omega
    · show 1 + _ ≤ _; rw [List.length_cons]; omega
theorem unpercent_len : ∀ (n : Nat) (l : List UInt8), l.length ≤ n → (unpercent l).length ≤ l.length
  | 0, [], _ => by simp [unpercent]
  | n + 1, [], _ => by simp [unpercent]
  | n + 1, x :: r, h => by
    have hr : r.length ≤ n := by simpa using h
    by_cases hx : x = 37
    · subst hx
      by_cases h2 : r.length < 2
      · rw [unp_short h2]; have := unpercent_len n r hr; simp; exact this
      · match r, h2, hr with
        | a :: b :: t, _, hr =>
          by_cases hh : 0 ≤ hexV a.toNat ∧ 0 ≤ hexV b.toNat
          · rw [unp_yes hh]; have := unpercent_len n t (by simp at hr; omega); simp; omega
          · rw [unp_no hh]; have := unpercent_len n (a :: b :: t) hr; simp only [List.length_cons] at this ⊢; omega
        | [], h2, _ => simp at h2
        | [_], h2, _ => simp at h2
    · rw [unp_other hx]; have := unpercent_len n r hr; simp; exact this
theorem parse_len {l a : List UInt8} {sp : Bool} (h : parseS l sp = some a) : a.length ≤ 3 * l.length + 42 := by
  cases hb : begins l [91]
  · cases sp
    · rw [parse_opaque hb] at h
      split at h
      · cases h
      · have := percent_len 1 l
        rw [Option.some.inj h] at this; omega
    · rw [parse_special hb] at h
      have hl := unpercent_len _ l (Nat.le_refl _)
      rw [← lower_len] at hl
      unfold namedS at h
      split at h
      · split at h
        · obtain ⟨v, hv, rfl⟩ := Option.map_eq_some_iff.1 h
          obtain ⟨h1, h2⟩ := four_range hv
          have := text4_len v h1 h2
          omega
        · rw [Option.some.inj h] at hl; omega
      · cases h
  · unfold parseS at h
    rw [hb, if_pos rfl] at h
    split at h
    · obtain ⟨xs, hxs, rfl⟩ := Option.map_eq_some_iff.1 h
      have := text6_len (six_shape hxs).2
      simp; omega
    · cases h
/-- The state of the walk: what the library asks, and the box of the array. -/
def Bx (w0 : World) (g : Nat) (xs : List Nat) (w : World) : Prop := Env w ∧ Bel w0 w ∧ w.heap[g]? = some (.cells (u16s xs).toArray 27 (0, 0))
theorem bx_next {w0 w w1 : World} {g : Nat} {xs : List Nat} (h : Hid (Bx w0 g xs w)) (hb : Hid (Bel w w1)) : Hid (Bx w0 g xs w1) := ⟨h.out.1.bel hb.out, bel_trans h.out.2.1 hb.out, (heap_bel hb (Lib.hid h.out.2.2)).out⟩
set_option maxHeartbeats 4000000 in
set_option maxRecDepth 100000 in
theorem law_Back (s0 : ByteArray) (sp : Bool) (n : Nat) (xs : List Nat) (w : World) (hn : n ≤ 4294967295) (h8 : Hid (xs.length = 8)) (hv : Hid (∀ x ∈ xs, x ≤ 65535)) (HE : Hid (Env w)) :
    Calls Tryz.prog 6 #[.string s0, .bool sp, .int .u32 n, .agg (u16s xs).toArray] w fun e w' => e = .returned (.bool true) ∧ Hid (Bel w w') := by
  go_enter Tryz.func6, Tryz.ntmps6
  go_wp2_with fail
  have HX : Hid (Bx w w.heap.size xs (w.alloc (.cells (u16s xs).toArray 27))) := by
    have hb : Bel w (w.alloc (.cells (u16s xs).toArray 27)) := (Below.refl _ _).alloc (Nat.le_refl _) _
    exact ⟨HE.out.bel hb, hb, alloc_at _ _⟩
  generalize w.alloc (.cells (u16s xs).toArray 27) = w1 at *
  obtain ⟨g, hg⟩ : ∃ g, w.heap.size = g := ⟨_, rfl⟩
  rw [hg] at HX
  simp only [hg]
  clear hg
  refine (keep_Few s0 500 _ (by omega)).mono ?_
  rintro e w2 ⟨⟨s, rfl, _, hs⟩, rfl⟩
  go_wp2_with fail
  refine (host_Parse s sp _ (by omega) HX.out.1).mono ?_
  rintro e w2 ⟨⟨u1, rfl, hu1⟩, HB2⟩
  have HX2 := bx_next HX HB2
  obtain ⟨er, her⟩ : ∃ er, errO (parseS (bl s) sp) = er := ⟨_, rfl⟩
  rw [her]
  have HER := Lib.hid her
  clear her
  go_upto_if 29 with (fail)
  go_cut [11, 12] (fun v11 v12 wc => Hid (Bx w g xs wc))
  case first =>
    cases ho : parseS (bl s) sp with
    | none =>
      have e10 : er = 10 := by rw [← HER.out, ho]; rfl
      clear HER
      subst e10
      go_wp2
      go_meet
      exact HX2
    | some a =>
      have e0 : er = 0 := by rw [← HER.out, ho]; rfl
      clear HER
      subst e0
      rw [ho] at hu1
      have hua : Hid (bl u1 = a) := hu1
      have hlen := parse_len ho
      rw [← hua.out, bl_length, bl_length] at hlen
      have HPB : Hid (parseS (bl u1) sp = some a) := by unfold Hid; rw [hua.out]; exact parse_back ho
      clear ho
      go_wp2_with fail
      refine (host_Parse u1 sp _ (by omega) HX2.out.1).mono ?_
      rintro e w3 ⟨⟨u2, rfl, hu2⟩, HB3⟩
      rw [HPB.out] at hu2 ⊢
      rw [show errO (some a) = 0 from rfl]
      have hq : (u1.toList == u2.toList) = true := same_text hu1 hu2
      have HX3 := bx_next HX2 HB3
      go_wp2
      go_meet
      exact HX3
  case rest =>
    have HX3 : Hid (Bx w g xs wc) := hcut
    clear hcut HX HX2 HB2 HER hu1
    have h0 : (0 : Int) ≤ n := by omega
    have h1 : (n : Int) ≤ 4294967295 := by omega
    go_wp2_with fail
    refine (host_Text4 (n : Int) _ h0 h1 HX3.out.1).mono ?_
    rintro e w4 ⟨⟨t4, rfl, ht4⟩, HB4⟩
    have HX4 := bx_next HX3 HB4
    have ht4z : t4.size ≤ 15 := by rw [← bl_length, ht4.out]; exact text4_len _ h0 h1
    go_wp2_with fail
    refine (host_Four t4 _ (by omega) HX4.out.1).mono ?_
    rintro e w5 ⟨rfl, HB5⟩
    rw [ht4.out, four_text n (by omega), show fourV (some (n : Int)) = n from rfl, show errn (some (n : Int)) 10 = 0 from rfl]
    have HX5 := bx_next HX4 HB5
    go_wp2_with (refine load8 rfl _ (by exact rfl) g (by exact rfl) xs h8.out HX5.out.2.2 ?_)
    refine (host_Text6 xs _ h8.out hv.out HX5.out.1).mono ?_
    rintro e w6 ⟨⟨t6, rfl, ht6⟩, HB6⟩
    have HX6 := bx_next HX5 HB6
    have ht6z : t6.size ≤ 40 := by rw [← bl_length, ht6.out]; exact text6_len hv.out
    go_wp2_with fail
    refine (host_Six t6 _ (by omega) HX6.out.1).mono ?_
    rintro e w7 ⟨rfl, HB7⟩
    rw [ht6.out, six_text h8.out hv.out, show sixV (some xs) = .agg (u16s xs).toArray from rfl, show errSix (some xs) = 0 from rfl]
    have HX7 := bx_next HX6 HB7
    have HB10 : Hid (Bel w7 (w7.alloc zeroCells)) := (Below.refl _ w7).alloc (Nat.le_refl _) _
    go_wp2_with (refine store8 (w0 := w7) w7.heap.size rfl _ _ (by exact rfl) w7.heap.size (by exact rfl) xs zeros8 h8.out rfl (by exact rfl) (alloc_at w7 zeroCells) HB10 (Nat.le_refl _) ?_; intro w8 HK8 HB8)
    have HX8 := bx_next HX7 HB8
    obtain ⟨g2, hg2⟩ : ∃ g2, w7.heap.size = g2 := ⟨_, rfl⟩
    rw [hg2] at HK8
    simp only [hg2]
    clear hg2
    refine (host_Text4 (n : Int) _ h0 h1 HX8.out.1).mono ?_
    rintro e w9 ⟨⟨t42, rfl, ht42⟩, HB9⟩
    have HX9 := bx_next HX8 HB9
    have HK9 := heap_bel HB9 HK8
    have ht42z : t42.size ≤ 15 := by rw [← bl_length, ht42.out]; exact text4_len _ h0 h1
    go_wp2_with fail
    refine (host_Parse t42 true _ (by omega) HX9.out.1).mono ?_
    rintro e w10 ⟨⟨p1, rfl, hp1⟩, HB10⟩
    rw [ht42.out, form_0 n (by omega)] at hp1 ⊢
    rw [show errO (some (text4S (n : Int))) = 0 from rfl]
    have HX10 := bx_next HX9 HB10
    have HK10 := heap_bel HB10 HK9
    go_wp2_with (refine load8 rfl _ (by exact rfl) g (by exact rfl) xs h8.out HX10.out.2.2 ?_)
    refine (host_Text6 xs _ h8.out hv.out HX10.out.1).mono ?_
    rintro e w11 ⟨⟨t62, rfl, ht62⟩, HB11⟩
    have HX11 := bx_next HX10 HB11
    have HK11 := heap_bel HB11 HK10
    have ht62z : t62.size ≤ 40 := by rw [← bl_length, ht62.out]; exact text6_len hv.out
    have hbr : bl ((⟨#[91]⟩ : ByteArray) ++ t62 ++ ⟨#[93]⟩) = 91 :: (text6S xs ++ [93]) := by rw [bl_append, bl_append, ht62.out]; rfl
    have hbz : ((⟨#[91]⟩ : ByteArray) ++ t62 ++ ⟨#[93]⟩).size ≤ 1000000 := by
      have h : (bl ((⟨#[91]⟩ : ByteArray) ++ t62 ++ ⟨#[93]⟩)).length = (text6S xs).length + 2 := by rw [hbr]; simp
      have h2 := text6_len hv.out
      rw [bl_length] at h
      omega
    go_wp2_with fail
    refine (host_Parse _ true _ hbz HX11.out.1).mono ?_
    rintro e w12 ⟨⟨p2, rfl, hp2⟩, HB12⟩
    rw [hbr, parse_text6 h8.out hv.out] at hp2 ⊢
    rw [show errO (some (91 :: (text6S xs ++ [93]))) = 0 from rfl]
    have HX12 := bx_next HX11 HB12
    have HK12 := heap_bel HB12 HK11
    clear hbr hbz
    have HXb := HX12
    obtain ⟨x0, x1, x2, x3, x4, x5, x6, x7, rfl⟩ := eight h8.out
    have cg0 := u16_row HX12.out.2.2 (k := 0) rfl
    have cg1 := u16_row HX12.out.2.2 (k := 1) rfl
    have cg2 := u16_row HX12.out.2.2 (k := 2) rfl
    have cg3 := u16_row HX12.out.2.2 (k := 3) rfl
    have cg4 := u16_row HX12.out.2.2 (k := 4) rfl
    have cg5 := u16_row HX12.out.2.2 (k := 5) rfl
    have cg6 := u16_row HX12.out.2.2 (k := 6) rfl
    have cg7 := u16_row HX12.out.2.2 (k := 7) rfl
    have ch0 := u16_row HK12.out (k := 0) rfl
    have ch1 := u16_row HK12.out (k := 1) rfl
    have ch2 := u16_row HK12.out (k := 2) rfl
    have ch3 := u16_row HK12.out (k := 3) rfl
    have ch4 := u16_row HK12.out (k := 4) rfl
    have ch5 := u16_row HK12.out (k := 5) rfl
    have ch6 := u16_row HK12.out (k := 6) rfl
    have ch7 := u16_row HK12.out (k := 7) rfl
    have he8 := eq8 x0 x1 x2 x3 x4 x5 x6 x7 w12
    go_wp2_with fail
    refine (host_Text4 (n : Int) _ h0 h1 HX12.out.1).mono ?_
    rintro e w13 ⟨⟨t43, rfl, ht43⟩, HB13⟩
    have HX13 := bx_next HX12 HB13
    have hq1 : (p1.toList == t43.toList) = true := same_text hp1 ht43
    clear he8 cg0 ch0 cg1 ch1 cg2 ch2 cg3 ch3 cg4 ch4 cg5 ch5 cg6 ch6 cg7 ch7
    have cg0 := u16_row HX13.out.2.2 (k := 0) rfl
    have cg1 := u16_row HX13.out.2.2 (k := 1) rfl
    have cg2 := u16_row HX13.out.2.2 (k := 2) rfl
    have cg3 := u16_row HX13.out.2.2 (k := 3) rfl
    have cg4 := u16_row HX13.out.2.2 (k := 4) rfl
    have cg5 := u16_row HX13.out.2.2 (k := 5) rfl
    have cg6 := u16_row HX13.out.2.2 (k := 6) rfl
    have cg7 := u16_row HX13.out.2.2 (k := 7) rfl
    go_wp2_with fail
    refine (host_Text6 [x0, x1, x2, x3, x4, x5, x6, x7] _ h8.out hv.out HX13.out.1).mono ?_
    rintro e w14 ⟨⟨t63, rfl, ht63⟩, HB14⟩
    have HX14 := bx_next HX13 HB14
    have ht63z : t63.size ≤ 40 := by rw [← bl_length, ht63.out]; exact text6_len hv.out
    have hbr : Hid (bl ((⟨#[91]⟩ : ByteArray) ++ t63 ++ ⟨#[93]⟩) = 91 :: (text6S [x0, x1, x2, x3, x4, x5, x6, x7] ++ [93])) := by unfold Hid; rw [bl_append, bl_append, ht63.out]; rfl
    have hq2 : (p2.toList == ((⟨#[91]⟩ : ByteArray) ++ t63 ++ ⟨#[93]⟩).toList) = true := same_text hp2 hbr
    clear cg0 cg1 cg2 cg3 cg4 cg5 cg6 cg7
    go_wp2_with fail
    refine (law2_known _ HX14.out.1).mono ?_
    rintro e w15 ⟨rfl, HB15⟩
    have HX15 := bx_next HX14 HB15
    go_wp2
    go_ret
    exact ⟨rfl, HX15.out.2.1⟩
theorem law_BackI (s0 : ByteArray) (sp : Bool) (v : Int) (xs : List Nat) (w : World) (h0 : 0 ≤ v) (h1 : v ≤ 4294967295) (h8 : xs.length = 8) (hv : ∀ x ∈ xs, x ≤ 65535) (HE : Hid (Env w)) :
    Calls Tryz.prog 6 #[.string s0, .bool sp, .int .u32 v, .agg (u16s xs).toArray] w fun e w' => e = .returned (.bool true) ∧ Hid (Bel w w') := by
  obtain ⟨n, rfl⟩ := Int.eq_ofNat_of_zero_le h0
  exact law_Back s0 sp n xs w (by omega) h8 hv HE
end Go.Proofs.YtpgehhnmlihnbaaGreatDoor
