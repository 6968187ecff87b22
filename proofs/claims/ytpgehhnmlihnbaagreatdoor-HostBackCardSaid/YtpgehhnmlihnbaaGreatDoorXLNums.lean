import Derived.Test.YtpgehhnmlihnbaaGreatDoorXLParses
namespace Go.Proofs.YtpgehhnmlihnbaaGreatDoor
open Go.RowKit

theorem nb_1 : fourS (bl ⟨#[50, 53, 54]⟩) = some 256 := by decide +kernel
theorem nb_2 : fourS (bl ⟨#[49, 46, 50, 46, 51, 46, 52, 46, 53]⟩) = none := by decide +kernel
theorem nb_3 : fourS (bl ⟨#[48, 57]⟩) = none := by decide +kernel
theorem nb_4 : fourS (bl ⟨#[52, 50, 57, 52, 57, 54, 55, 50, 57, 54]⟩) = none := by decide +kernel
theorem nb_5 : sixS (bl ⟨#[49, 58, 50, 58, 51, 58, 52, 58, 53, 58, 54, 58, 55, 58, 58]⟩) = some [1, 2, 3, 4, 5, 6, 7, 0] := by decide +kernel
theorem nb_6 : sixS (bl ⟨#[49, 58, 58, 50, 58, 58, 51]⟩) = none := by decide +kernel
theorem nb_7 : isS (bl ⟨#[91, 49, 58, 48, 58, 48, 58, 50, 58, 58, 93]⟩) true (bl ⟨#[91, 49, 58, 48, 58, 48, 58, 50, 58, 58, 93]⟩) = true := by decide +kernel
theorem nb_8 : isS (bl ⟨#[91, 49, 58, 58, 93, 120]⟩) true (bl ⟨#[]⟩) = true := by decide +kernel
theorem nb_9 : isS (bl ⟨#[120, 110, 45, 45, 97, 46, 98]⟩) true (bl ⟨#[]⟩) = true := by decide +kernel
theorem nb_10 : isS (bl ⟨#[97, 46, 88, 78, 45, 45, 98]⟩) true (bl ⟨#[]⟩) = true := by decide +kernel
theorem nb_11 : isS (bl ⟨#[]⟩) true (bl ⟨#[]⟩) = true := by decide +kernel
theorem nb_12 : isS (bl ⟨#[]⟩) false (bl ⟨#[]⟩) = true := by decide +kernel
theorem nb_13 : isS (bl ⟨#[65, 37, 52, 49]⟩) false (bl ⟨#[65, 37, 52, 49]⟩) = true := by decide +kernel
theorem nb_14 : isS (bl ⟨#[97, 37, 50, 101, 49]⟩) true (bl ⟨#[]⟩) = true := by decide +kernel
theorem nb_15 : isS (bl ⟨#[49, 46, 50, 46, 51, 46]⟩) true (bl ⟨#[49, 46, 50, 46, 48, 46, 51]⟩) = true := by decide +kernel
theorem nb_16 : text4S 4294967295 = [50, 53, 53, 46, 50, 53, 53, 46, 50, 53, 53, 46, 50, 53, 53] := by decide +kernel
theorem nb_17 : text6S [0, 0, 1, 0, 0, 0, 0, 0] = [48, 58, 48, 58, 49, 58, 58] := by decide +kernel
theorem nb_18 : text6S [1, 0, 2, 3, 4, 5, 6, 7] = [49, 58, 48, 58, 50, 58, 51, 58, 52, 58, 53, 58, 54, 58, 55] := by decide +kernel
theorem nb_19 : numberedS (bl ⟨#[97, 46, 48, 120]⟩) = true := by decide +kernel
theorem nb_20 : numberedS (bl ⟨#[97, 46, 98]⟩) = false := by decide +kernel
/-- The state of a law's walk: what the library asks; the law's own world below. -/
def St (w0 w : World) : Prop := Env w ∧ Bel w0 w
theorem st_next {w0 w w1 : World} (h : Hid (St w0 w)) (hb : Hid (Bel w w1)) : Hid (St w0 w1) := ⟨h.out.1.bel hb.out, bel_trans h.out.2 hb.out⟩
theorem st_is {w0 : World} (s want : ByteArray) (sp : Bool) (w : World) (hs : s.size ≤ 1000000) (hv : isS (bl s) sp (bl want) = true) (HS : Hid (St w0 w)) :
    Calls Tryz.prog 12 #[.string s, .bool sp, .string want] w fun e w' => e = .returned (.bool true) ∧ Hid (St w0 w') := by
  refine (law2_is s want sp w hs HS.out.1).mono ?_
  rintro e w1 ⟨rfl, HB⟩
  rw [hv]
  exact ⟨rfl, st_next HS HB⟩
theorem st_known {w0 : World} (w : World) (HS : Hid (St w0 w)) : Calls Tryz.prog 16 #[] w fun e w' => e = .returned (.bool true) ∧ Hid (St w0 w') := by
  refine (law2_known w HS.out.1).mono ?_
  rintro e w1 ⟨rfl, HB⟩
  exact ⟨rfl, st_next HS HB⟩
theorem st_Four {w0 : World} (s : ByteArray) (o : Option Int) (w : World) (hs : s.size ≤ 1000000) (hv : fourS (bl s) = o) (HS : Hid (St w0 w)) :
    Calls Tryz.prog 10 #[.string s] w fun e w' => e = .returned (.tuple #[.int .u32 (fourV o), .int .i64 (errn o 10)]) ∧ Hid (St w0 w') := by
  refine (host_Four s w hs HS.out.1).mono ?_
  rintro e w1 ⟨rfl, HB⟩
  rw [hv]
  exact ⟨rfl, st_next HS HB⟩
theorem st_Six {w0 : World} (s : ByteArray) (o : Option (List Nat)) (w : World) (hs : s.size ≤ 1000000) (hv : sixS (bl s) = o) (HS : Hid (St w0 w)) :
    Calls Tryz.prog 11 #[.string s] w fun e w' => e = .returned (.tuple #[sixV o, .int .i64 (errSix o)]) ∧ Hid (St w0 w') ∧ Hid (Bel w w') := by
  refine (host_Six s w hs HS.out.1).mono ?_
  rintro e w1 ⟨rfl, HB⟩
  rw [hv]
  exact ⟨rfl, st_next HS HB, HB⟩
theorem st_Numbered {w0 : World} (s : ByteArray) (b : Bool) (w : World) (hs : s.size ≤ 1000000) (hv : numberedS (bl s) = b) (HS : Hid (St w0 w)) :
    Calls Tryz.prog 15 #[.string s] w fun e w' => e = .returned (.bool b) ∧ Hid (St w0 w') := by
  refine (host_Numbered s w hs HS.out.1).mono ?_
  rintro e w1 ⟨rfl, HB⟩
  rw [hv]
  exact ⟨rfl, st_next HS HB⟩
theorem st_Text4 {w0 : World} (v : Int) (u : ByteArray) (w : World) (h0 : 0 ≤ v) (h1 : v ≤ 4294967295) (hv : text4S v = bl u) (HS : Hid (St w0 w)) :
    Calls Tryz.prog 13 #[.int .u32 v] w fun e w' => e = .returned (.string u) ∧ Hid (St w0 w') := by
  refine (host_Text4 v w h0 h1 HS.out.1).mono ?_
  rintro e w1 ⟨⟨t, rfl, ht⟩, HB⟩
  exact ⟨ret_str (bl_inj (ht.out.trans hv)), st_next HS HB⟩
theorem st_Text6 {w0 : World} (xs : List Nat) (u : ByteArray) (w : World) (h8 : xs.length = 8) (h : ∀ x ∈ xs, x ≤ 65535) (hv : text6S xs = bl u) (HS : Hid (St w0 w)) :
    Calls Tryz.prog 14 #[.agg (u16s xs).toArray] w fun e w' => e = .returned (.string u) ∧ Hid (St w0 w') := by
  refine (host_Text6 xs w h8 h HS.out.1).mono ?_
  rintro e w1 ⟨⟨t, rfl, ht⟩, HB⟩
  exact ⟨ret_str (bl_inj (ht.out.trans hv)), st_next HS HB⟩
set_option maxHeartbeats 4000000 in
set_option maxRecDepth 100000 in
theorem law_Numbers (w : World) (HE : Hid (Env w)) :
    Calls Tryz.prog 3 #[] w fun e w' => e = .returned (.bool true) ∧ Hid (Bel w w') := by
  have HS : Hid (St w w) := ⟨HE.out, Below.refl _ _⟩
  go_enter Tryz.func3, Tryz.ntmps3
  go_wp2_with fail
  refine (st_Four _ _ _ (by decide) nb_1 HS).mono ?_
  rintro e w1 ⟨rfl, HS1⟩
  rw [show fourV (some 256) = 256 from rfl, show errn (some 256) 10 = 0 from rfl]
  go_wp2_with fail
  refine (st_Four _ _ _ (by decide) nb_2 HS1).mono ?_
  rintro e w2 ⟨rfl, HS2⟩
  rw [show fourV none = 0 from rfl, show errn none 10 = 10 from rfl]
  go_wp2_with fail
  refine (st_Four _ _ _ (by decide) nb_3 HS2).mono ?_
  rintro e w3 ⟨rfl, HS3⟩
  rw [show fourV none = 0 from rfl, show errn none 10 = 10 from rfl]
  go_wp2_with fail
  refine (st_Four _ _ _ (by decide) nb_4 HS3).mono ?_
  rintro e w4 ⟨rfl, HS4⟩
  rw [show fourV none = 0 from rfl, show errn none 10 = 10 from rfl]
  go_wp2_with fail
  refine (st_Six _ _ _ (by decide) nb_5 HS4).mono ?_
  rintro e w5 ⟨rfl, HS5, _⟩
  rw [show errSix (some [1, 2, 3, 4, 5, 6, 7, 0]) = 0 from rfl]
  obtain ⟨xs, hxs⟩ : ∃ xs, xs = [1, 2, 3, 4, 5, 6, 7, 0] := ⟨_, rfl⟩
  have H8 : Hid (xs.length = 8) := by rw [hxs]; rfl
  rw [show sixV (some [1, 2, 3, 4, 5, 6, 7, 0]) = .agg (u16s xs).toArray by rw [hxs]; rfl]
  have HXS := Lib.hid hxs
  clear hxs
  have HB10 : Hid (Bel w5 (w5.alloc zeroCells)) := (Below.refl _ w5).alloc (Nat.le_refl _) _
  go_wp2_with (refine store8 (w0 := w5) w5.heap.size rfl _ _ (by exact rfl) w5.heap.size (by exact rfl) xs zeros8 H8.out rfl (by exact rfl) (alloc_at w5 zeroCells) HB10 (Nat.le_refl _) ?_; intro w6 HK1 HB11)
  have HS6 := st_next HS5 HB11
  refine (st_Six _ _ _ (by decide) nb_6 HS6).mono ?_
  rintro e w7 ⟨rfl, HS7, HB7⟩
  rw [show errSix none = 10 from rfl]
  obtain ⟨ys, hys⟩ : ∃ ys, ys = zeros8 := ⟨_, rfl⟩
  have Y8 : Hid (ys.length = 8) := by rw [hys]; rfl
  rw [show sixV none = .agg (u16s ys).toArray by rw [hys]; rfl]
  clear hys
  obtain ⟨g1, hg1⟩ : ∃ g1, w5.heap.size = g1 := ⟨_, rfl⟩
  rw [hg1] at HK1 ⊢
  clear hg1
  have HK2 := heap_bel HB7 HK1
  have HB15 : Hid (Bel w7 (w7.alloc zeroCells)) := (Below.refl _ w7).alloc (Nat.le_refl _) _
  go_upto_region 7 with (refine store8 (w0 := w7) w7.heap.size rfl _ _ (by exact rfl) w7.heap.size (by exact rfl) ys zeros8 Y8.out rfl (by exact rfl) (alloc_at w7 zeroCells) HB15 (Nat.le_refl _) ?_; intro w8 HK3 HB16)
  have HS8 := st_next HS7 HB16
  have HK5 := heap_bel HB16 HK2
  have c0 : w8.cell? ⟨g1, 0, none⟩ = some (.int .u16 1) := u16_row HK5.out (k := 0) (x := 1) (by rw [HXS.out]; rfl)
  have c1 : w8.cell? ⟨g1, 1, none⟩ = some (.int .u16 2) := u16_row HK5.out (k := 1) (x := 2) (by rw [HXS.out]; rfl)
  have c2 : w8.cell? ⟨g1, 2, none⟩ = some (.int .u16 3) := u16_row HK5.out (k := 2) (x := 3) (by rw [HXS.out]; rfl)
  have c3 : w8.cell? ⟨g1, 3, none⟩ = some (.int .u16 4) := u16_row HK5.out (k := 3) (x := 4) (by rw [HXS.out]; rfl)
  have c4 : w8.cell? ⟨g1, 4, none⟩ = some (.int .u16 5) := u16_row HK5.out (k := 4) (x := 5) (by rw [HXS.out]; rfl)
  have c5 : w8.cell? ⟨g1, 5, none⟩ = some (.int .u16 6) := u16_row HK5.out (k := 5) (x := 6) (by rw [HXS.out]; rfl)
  have c6 : w8.cell? ⟨g1, 6, none⟩ = some (.int .u16 7) := u16_row HK5.out (k := 6) (x := 7) (by rw [HXS.out]; rfl)
  have c7 : w8.cell? ⟨g1, 7, none⟩ = some (.int .u16 0) := u16_row HK5.out (k := 7) (x := 0) (by rw [HXS.out]; rfl)
  have he8 := eq8 1 2 3 4 5 6 7 0
  clear HS HS1 HS2 HS3 HS4 HS5 HS6 HS7 HK1 HK2 HK3 HB10 HB15 HB7 HB11 HB16 HE
  go_wp2_with fail
  refine (st_is (w0 := w) _ _ _ _ (by decide) nb_7 HS8).mono ?_
  rintro e w9 ⟨rfl, HS9⟩
  clear HS8
  go_wp2_with fail
  refine (st_is (w0 := w) _ _ _ _ (by decide) nb_8 HS9).mono ?_
  rintro e w10 ⟨rfl, HS10⟩
  clear HS9
  go_wp2_with fail
  refine (st_is (w0 := w) _ _ _ _ (by decide) nb_9 HS10).mono ?_
  rintro e w11 ⟨rfl, HS11⟩
  clear HS10
  go_wp2_with fail
  refine (st_is (w0 := w) _ _ _ _ (by decide) nb_10 HS11).mono ?_
  rintro e w12 ⟨rfl, HS12⟩
  clear HS11
  go_wp2_with fail
  refine (st_is (w0 := w) _ _ _ _ (by decide) nb_11 HS12).mono ?_
  rintro e w13 ⟨rfl, HS13⟩
  clear HS12
  go_wp2_with fail
  refine (st_is (w0 := w) _ _ _ _ (by decide) nb_12 HS13).mono ?_
  rintro e w14 ⟨rfl, HS14⟩
  clear HS13
  go_wp2_with fail
  refine (st_is (w0 := w) _ _ _ _ (by decide) nb_13 HS14).mono ?_
  rintro e w15 ⟨rfl, HS15⟩
  clear HS14
  go_wp2_with fail
  refine (st_is (w0 := w) _ _ _ _ (by decide) nb_14 HS15).mono ?_
  rintro e w16 ⟨rfl, HS16⟩
  clear HS15
  go_wp2_with fail
  refine (st_is (w0 := w) _ _ _ _ (by decide) nb_15 HS16).mono ?_
  rintro e w17 ⟨rfl, HS17⟩
  clear HS16
  go_wp2_with fail
  refine (st_Text4 (w0 := w) 4294967295 ⟨#[50, 53, 53, 46, 50, 53, 53, 46, 50, 53, 53, 46, 50, 53, 53]⟩ _ (by decide) (by decide) nb_16 HS17).mono ?_
  rintro e w18 ⟨rfl, HS18⟩
  clear HS17
  go_wp2_with fail
  refine (st_Text6 (w0 := w) [0, 0, 1, 0, 0, 0, 0, 0] ⟨#[48, 58, 48, 58, 49, 58, 58]⟩ _ rfl (by decide) nb_17 HS18).mono ?_
  rintro e w19 ⟨rfl, HS19⟩
  clear HS18
  go_wp2_with fail
  refine (st_Text6 (w0 := w) [1, 0, 2, 3, 4, 5, 6, 7] ⟨#[49, 58, 48, 58, 50, 58, 51, 58, 52, 58, 53, 58, 54, 58, 55]⟩ _ rfl (by decide) nb_18 HS19).mono ?_
  rintro e w20 ⟨rfl, HS20⟩
  clear HS19
  go_wp2_with fail
  refine (st_Numbered (w0 := w) ⟨#[97, 46, 48, 120]⟩ _ _ (by decide) nb_19 HS20).mono ?_
  rintro e w21 ⟨rfl, HS21⟩
  clear HS20
  go_wp2_with fail
  refine (st_Numbered (w0 := w) ⟨#[97, 46, 98]⟩ _ _ (by decide) nb_20 HS21).mono ?_
  rintro e w22 ⟨rfl, HS22⟩
  clear HS21
  go_wp2_with fail
  refine (st_known (w0 := w) _ HS22).mono ?_
  rintro e w23 ⟨rfl, HS23⟩
  clear HS22
  go_wp2
  go_ret
  exact ⟨rfl, HS23.out.2⟩
end Go.Proofs.YtpgehhnmlihnbaaGreatDoor
