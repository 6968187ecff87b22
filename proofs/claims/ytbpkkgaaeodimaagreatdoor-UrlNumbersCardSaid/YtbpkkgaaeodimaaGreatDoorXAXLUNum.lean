import Derived.Test.YtbpkkgaaeodimaaGreatDoorXG29
namespace Go.Proofs.YtbpkkgaaeodimaaGreatDoor
open Go.RowKit

/-! The statement UrlNumbers: chapter 3's runs. -/
theorem unn_x : whyE (joinS (bl ⟨#[]⟩) (okU (urlS (bl ⟨#[100, 97, 116, 97, 58, 97, 32, 98, 63, 99, 35, 100]⟩)))) = 0 := by decide +kernel
theorem unn_f : whyE (joinS (bl ⟨#[120]⟩) (okU (urlS (bl ⟨#[100, 97, 116, 97, 58, 97, 32, 98, 63, 99, 35, 100]⟩)))) = 12 := by decide +kernel
theorem unn_y : whyE (joinS (bl ⟨#[35, 122]⟩) (okU (urlS (bl ⟨#[100, 97, 116, 97, 58, 97, 32, 98, 63, 99, 35, 100]⟩)))) = 0 := by decide +kernel
theorem unt_x : textS (okU (joinS (bl ⟨#[]⟩) (okU (urlS (bl ⟨#[100, 97, 116, 97, 58, 97, 32, 98, 63, 99, 35, 100]⟩))))) = bl ⟨#[100, 97, 116, 97, 58, 97, 32, 98, 63, 99]⟩ := by decide +kernel
theorem unt_y : textS (okU (joinS (bl ⟨#[35, 122]⟩) (okU (urlS (bl ⟨#[100, 97, 116, 97, 58, 97, 32, 98, 63, 99, 35, 100]⟩))))) = bl ⟨#[100, 97, 116, 97, 58, 97, 32, 98, 63, 99, 35, 122]⟩ := by decide +kernel
theorem make_own8 (w : World) (N : Nat) (hN : N ≤ 1000000) : ∃ w', (Instr.makeSlice 43 (.int .i64 N) (.int .i64 N)).run Tryz.prog w = .ok (.slice (some ⟨w.heap.size, 0, none⟩) N N) w' ∧ Hid (Own w' w.heap.size 5 (.slice (some ⟨w.heap.size, 0, none⟩) N N) ((List.replicate N (0 : UInt8)).map u8v)) ∧ Hid (Bel w w') := by
  obtain ⟨i, hi, hz0, hz1, hz2⟩ := info_parts info5
  obtain ⟨w', h1, h2, h3⟩ := run_makeSlice_full w w.heap.size 43 5 i _ 1 Tryz.underlying43 hi hz0 hz1 .i64 .i64 N (by omega) (by rw [hz2]; omega) (by unfold Go.maxLen; omega) (Nat.le_refl _)
  have hm : (madeCells (Value.int .u8 0).cells (N * 1)).toList = (List.replicate N (0 : UInt8)).map u8v := by rw [Nat.mul_one, List.map_replicate]; exact toList_madeCells_one _ N
  rw [hm] at h2
  refine ⟨w', h1, ?_, bel_grown h3⟩
  show World.ownsRow _ _ _ _ _ _ _
  rw [show ((List.replicate N (0 : UInt8)).map u8v).length = N by simp]
  exact h2
set_option maxHeartbeats 8000000 in
set_option maxRecDepth 100000 in
theorem law_UNum (w : World) (HE : Hid (Env w)) :
    Calls Tryz.prog 5 #[] w fun e w' => e = .returned (.bool true) ∧ Hid (Bel w w') := by
  have HB0 : Hid (Bel w w) := Below.refl _ _
  have HU0 := Lib.hid (url_fine (bl ⟨#[100, 97, 116, 97, 58, 97, 32, 98, 63, 99, 35, 100]⟩))
  go_enter Tryz.func5, Tryz.ntmps5
  go_wp2_with fail
  refine (ref3_Parse _ w (by decide) HE).mono ?_
  rintro e wa1 ⟨⟨v, rfl, HV⟩, HBa⟩
  obtain ⟨c1, p1, rfl, hc, hp⟩ := HV.out
  have HC1 := Lib.hid hc
  have HP1 := Lib.hid hp
  have h1c := own_cell hp
  clear HV hc hp
  have hpl : p1.length ≤ 1000000 := by
    have h1 := HU0.out.1; rw [← HC1.out] at h1; have h2 := plen_ge p1
    unfold slen UrlC.flat at h1; simp only [] at h1; omega
  generalize whyE (urlS (bl ⟨#[100, 97, 116, 97, 58, 97, 32, 98, 63, 99, 35, 100]⟩)) = E0 at *
  have HBx1 := Lib.hid (bel_trans HB0.out HBa.out)
  have HEx1 := Lib.hid (HE.out.bel HBx1.out)
  have hr3 : RowAt (wa1.alloc (.cells noC.cells.toArray 24)) wa1.heap.size (noC.cells ++ []) := RowAt.new wa1 noC.cells.toArray 24
  have hb3 : Bel wa1 (wa1.alloc (.cells noC.cells.toArray 24)) := (Below.refl _ wa1).alloc (Nat.le_refl _) _
  rw [no_cells] at hr3 hb3
  have HRn := Lib.hid hr3
  have HBn := Lib.hid hb3
  clear hr3 hb3
  go_wp2_with (first | (refine store_url rfl _ _ (by exact rfl) wa1.heap.size (by exact rfl) noC c1 [] (by exact rfl) HRn.out h1c ?_; intro wb1 R1 HPb; obtain ⟨⟨k0, _⟩, ⟨k1, _⟩, ⟨k2, _⟩, ⟨k3, _⟩, ⟨k4, _⟩, ⟨k5, _⟩, ⟨k6, _⟩, ⟨k7, _⟩, ⟨k8, _⟩, ⟨k9, _⟩, ⟨k10, _⟩, ⟨k11, _⟩⟩ := at_row R1.out))
  replace HP1 := Lib.hid (own_fresh HP1.out (Nat.le_refl _) HBn.out HPb.out)
  have HBx2 : Hid (Bel w wb1) := BelP.bel HBx1.out (fun k hk => by rw [hk]; exact HBx1.out.size) ((BelP.of _ HBn.out).trans HPb.out)
  have HEx2 := Lib.hid (HE.out.bel HBx2.out)
  clear HRn HBn HPb
  clear k0 k1 k2 k3 k4 k5 k6 k7 k8 k9 k10 k11
  refine (url_Join (⟨#[]⟩) c1 p1 w.heap.size wb1 (by decide) hpl HEx2 HP1).mono ?_
  rintro e wa2 ⟨⟨v, rfl, HV⟩, HBa⟩
  rw [HC1.out] at HV ⊢
  obtain ⟨c2, p2, rfl, hc, hp⟩ := HV.out
  have HC2 := Lib.hid hc
  have HP2 := Lib.hid hp
  have h1c2 := own_cell hp
  rw [unn_x]
  clear HV hc hp
  have HBx3 := Lib.hid (bel_trans HBx2.out HBa.out)
  have HEx3 := Lib.hid (HE.out.bel HBx3.out)
  replace R1 := Lib.hid (R1.out.bel HBa.out)
  replace HP1 := Lib.hid (HP1.out.bel HBa.out)
  have hr3 : RowAt (wa2.alloc (.cells noC.cells.toArray 24)) wa2.heap.size (noC.cells ++ []) := RowAt.new wa2 noC.cells.toArray 24
  have hb3 : Bel wa2 (wa2.alloc (.cells noC.cells.toArray 24)) := (Below.refl _ wa2).alloc (Nat.le_refl _) _
  rw [no_cells] at hr3 hb3
  have HRn := Lib.hid hr3
  have HBn := Lib.hid hb3
  clear hr3 hb3
  go_wp2_with (first | (refine store_url rfl _ _ (by exact rfl) wa2.heap.size (by exact rfl) noC c2 [] (by exact rfl) HRn.out h1c2 ?_; intro wb2 R2 HPb; obtain ⟨⟨k0, _⟩, ⟨k1, _⟩, ⟨k2, _⟩, ⟨k3, _⟩, ⟨k4, _⟩, ⟨k5, _⟩, ⟨k6, _⟩, ⟨k7, _⟩, ⟨k8, _⟩, ⟨k9, _⟩, ⟨k10, _⟩, ⟨k11, _⟩⟩ := at_row (BelP.row HPb.out (Nat.ne_of_lt R1.out.1) (R1.out.bel HBn.out))))
  replace R1 := Lib.hid (BelP.row HPb.out (Nat.ne_of_lt R1.out.1) (R1.out.bel HBn.out))
  replace HP1 := Lib.hid (own_fresh HP1.out (Nat.le_refl _) HBn.out HPb.out)
  replace HP2 := Lib.hid (own_fresh HP2.out (Nat.le_refl _) HBn.out HPb.out)
  have HBx4 : Hid (Bel w wb2) := BelP.bel HBx3.out (fun k hk => by rw [hk]; exact HBx3.out.size) ((BelP.of _ HBn.out).trans HPb.out)
  have HEx4 := Lib.hid (HE.out.bel HBx4.out)
  clear HRn HBn HPb
  clear k0 k1 k2 k3 k4 k5 k6 k7 k8 k9 k10 k11
  refine (url_Join (⟨#[120]⟩) c1 p1 w.heap.size wb2 (by decide) hpl HEx4 HP1).mono ?_
  rintro e wa3 ⟨⟨v, rfl, HV⟩, HBa⟩
  rw [HC1.out] at HV ⊢
  obtain ⟨c3, p3, rfl, hc, hp⟩ := HV.out
  have HC3 := Lib.hid hc
  have HP3 := Lib.hid hp
  have h1c3 := own_cell hp
  rw [unn_f]
  clear HV hc hp
  have HBx5 := Lib.hid (bel_trans HBx4.out HBa.out)
  have HEx5 := Lib.hid (HE.out.bel HBx5.out)
  replace R1 := Lib.hid (R1.out.bel HBa.out)
  replace R2 := Lib.hid (R2.out.bel HBa.out)
  replace HP1 := Lib.hid (HP1.out.bel HBa.out)
  replace HP2 := Lib.hid (HP2.out.bel HBa.out)
  have hr3 : RowAt (wa3.alloc (.cells noC.cells.toArray 24)) wa3.heap.size (noC.cells ++ []) := RowAt.new wa3 noC.cells.toArray 24
  have hb3 : Bel wa3 (wa3.alloc (.cells noC.cells.toArray 24)) := (Below.refl _ wa3).alloc (Nat.le_refl _) _
  rw [no_cells] at hr3 hb3
  have HRn := Lib.hid hr3
  have HBn := Lib.hid hb3
  clear hr3 hb3
  go_wp2_with (first | (refine store_url rfl _ _ (by exact rfl) wa3.heap.size (by exact rfl) noC c3 [] (by exact rfl) HRn.out h1c3 ?_; intro wb3 R3 HPb; obtain ⟨⟨k0, _⟩, ⟨k1, _⟩, ⟨k2, _⟩, ⟨k3, _⟩, ⟨k4, _⟩, ⟨k5, _⟩, ⟨k6, _⟩, ⟨k7, _⟩, ⟨k8, _⟩, ⟨k9, _⟩, ⟨k10, _⟩, ⟨k11, _⟩⟩ := at_row (BelP.row HPb.out (Nat.ne_of_lt R1.out.1) (R1.out.bel HBn.out))))
  replace R1 := Lib.hid (BelP.row HPb.out (Nat.ne_of_lt R1.out.1) (R1.out.bel HBn.out))
  replace R2 := Lib.hid (BelP.row HPb.out (Nat.ne_of_lt R2.out.1) (R2.out.bel HBn.out))
  replace HP1 := Lib.hid (own_fresh HP1.out (Nat.le_refl _) HBn.out HPb.out)
  replace HP2 := Lib.hid (own_fresh HP2.out (Nat.le_refl _) HBn.out HPb.out)
  replace HP3 := Lib.hid (own_fresh HP3.out (Nat.le_refl _) HBn.out HPb.out)
  have HBx6 : Hid (Bel w wb3) := BelP.bel HBx5.out (fun k hk => by rw [hk]; exact HBx5.out.size) ((BelP.of _ HBn.out).trans HPb.out)
  have HEx6 := Lib.hid (HE.out.bel HBx6.out)
  clear HRn HBn HPb
  clear k0 k1 k2 k3 k4 k5 k6 k7 k8 k9 k10 k11
  refine (url_Join (⟨#[35, 122]⟩) c1 p1 w.heap.size wb3 (by decide) hpl HEx6 HP1).mono ?_
  rintro e wa4 ⟨⟨v, rfl, HV⟩, HBa⟩
  rw [HC1.out] at HV ⊢
  obtain ⟨c4, p4, rfl, hc, hp⟩ := HV.out
  have HC4 := Lib.hid hc
  have HP4 := Lib.hid hp
  have h1c4 := own_cell hp
  rw [unn_y]
  clear HV hc hp
  have HBx7 := Lib.hid (bel_trans HBx6.out HBa.out)
  have HEx7 := Lib.hid (HE.out.bel HBx7.out)
  replace R1 := Lib.hid (R1.out.bel HBa.out)
  replace R2 := Lib.hid (R2.out.bel HBa.out)
  replace R3 := Lib.hid (R3.out.bel HBa.out)
  replace HP1 := Lib.hid (HP1.out.bel HBa.out)
  replace HP2 := Lib.hid (HP2.out.bel HBa.out)
  replace HP3 := Lib.hid (HP3.out.bel HBa.out)
  have hr3 : RowAt (wa4.alloc (.cells noC.cells.toArray 24)) wa4.heap.size (noC.cells ++ []) := RowAt.new wa4 noC.cells.toArray 24
  have hb3 : Bel wa4 (wa4.alloc (.cells noC.cells.toArray 24)) := (Below.refl _ wa4).alloc (Nat.le_refl _) _
  rw [no_cells] at hr3 hb3
  have HRn := Lib.hid hr3
  have HBn := Lib.hid hb3
  clear hr3 hb3
  go_wp2_with (first | (refine store_url rfl _ _ (by exact rfl) wa4.heap.size (by exact rfl) noC c4 [] (by exact rfl) HRn.out h1c4 ?_; intro wb4 R4 HPb))
  replace R1 := Lib.hid (BelP.row HPb.out (Nat.ne_of_lt R1.out.1) (R1.out.bel HBn.out))
  replace R2 := Lib.hid (BelP.row HPb.out (Nat.ne_of_lt R2.out.1) (R2.out.bel HBn.out))
  replace R3 := Lib.hid (BelP.row HPb.out (Nat.ne_of_lt R3.out.1) (R3.out.bel HBn.out))
  replace HP1 := Lib.hid (own_fresh HP1.out (Nat.le_refl _) HBn.out HPb.out)
  replace HP2 := Lib.hid (own_fresh HP2.out (Nat.le_refl _) HBn.out HPb.out)
  replace HP3 := Lib.hid (own_fresh HP3.out (Nat.le_refl _) HBn.out HPb.out)
  replace HP4 := Lib.hid (own_fresh HP4.out (Nat.le_refl _) HBn.out HPb.out)
  have HBx8 : Hid (Bel w wb4) := BelP.bel HBx7.out (fun k hk => by rw [hk]; exact HBx7.out.size) ((BelP.of _ HBn.out).trans HPb.out)
  have HEx8 := Lib.hid (HE.out.bel HBx8.out)
  clear HRn HBn HPb
  have HF10 : Hid (∀ t : ByteArray, bl t = textO (bl ⟨#[104, 116, 116, 112, 115, 58, 101, 120, 46, 99, 111, 109]⟩) → t = ⟨#[104, 116, 116, 112, 115, 58, 47, 47, 101, 120, 46, 99, 111, 109, 47]⟩) := fun t h => bl_inj (h.trans un_t1)
  refine (law3_text _ wb4 (by decide) HEx8).mono ?_
  rintro e w10 ⟨⟨t, rfl, ht, _⟩, HBc⟩
  obtain rfl := HF10.out t ht.out
  clear ht HF10
  have HBx9 := Lib.hid (bel_trans HBx8.out HBc.out)
  have HEx9 := Lib.hid (HE.out.bel HBx9.out)
  replace R1 := Lib.hid (R1.out.bel HBc.out)
  replace R2 := Lib.hid (R2.out.bel HBc.out)
  replace R3 := Lib.hid (R3.out.bel HBc.out)
  replace R4 := Lib.hid (R4.out.bel HBc.out)
  replace HP1 := Lib.hid (HP1.out.bel HBc.out)
  replace HP2 := Lib.hid (HP2.out.bel HBc.out)
  replace HP3 := Lib.hid (HP3.out.bel HBc.out)
  replace HP4 := Lib.hid (HP4.out.bel HBc.out)
  have HF11 : Hid (∀ t : ByteArray, bl t = textO (bl ⟨#[100, 97, 116, 97, 58, 97, 32, 98, 63, 99]⟩) → t = ⟨#[100, 97, 116, 97, 58, 97, 32, 98, 63, 99]⟩) := fun t h => bl_inj (h.trans un_t2)
  go_wp2_with fail
  refine (law3_text _ w10 (by decide) HEx9).mono ?_
  rintro e w11 ⟨⟨t, rfl, ht, _⟩, HBc⟩
  obtain rfl := HF11.out t ht.out
  clear ht HF11
  have HBx10 := Lib.hid (bel_trans HBx9.out HBc.out)
  have HEx10 := Lib.hid (HE.out.bel HBx10.out)
  replace R1 := Lib.hid (R1.out.bel HBc.out)
  replace R2 := Lib.hid (R2.out.bel HBc.out)
  replace R3 := Lib.hid (R3.out.bel HBc.out)
  replace R4 := Lib.hid (R4.out.bel HBc.out)
  replace HP1 := Lib.hid (HP1.out.bel HBc.out)
  replace HP2 := Lib.hid (HP2.out.bel HBc.out)
  replace HP3 := Lib.hid (HP3.out.bel HBc.out)
  replace HP4 := Lib.hid (HP4.out.bel HBc.out)
  go_wp2_with fail
  refine (law3_why _ w11 (by decide) HEx10).mono ?_
  rintro e w12 ⟨rfl, HBc⟩
  rw [un_w0]
  have HBx11 := Lib.hid (bel_trans HBx10.out HBc.out)
  have HEx11 := Lib.hid (HE.out.bel HBx11.out)
  replace R1 := Lib.hid (R1.out.bel HBc.out)
  replace R2 := Lib.hid (R2.out.bel HBc.out)
  replace R3 := Lib.hid (R3.out.bel HBc.out)
  replace R4 := Lib.hid (R4.out.bel HBc.out)
  replace HP1 := Lib.hid (HP1.out.bel HBc.out)
  replace HP2 := Lib.hid (HP2.out.bel HBc.out)
  replace HP3 := Lib.hid (HP3.out.bel HBc.out)
  replace HP4 := Lib.hid (HP4.out.bel HBc.out)
  have HF13 : Hid (∀ t : ByteArray, bl t = joinO (bl ⟨#[47, 47, 103]⟩) (bl ⟨#[104, 116, 116, 112, 58, 47, 47, 104, 47, 97, 47, 98, 47, 99]⟩) → t = ⟨#[104, 116, 116, 112, 58, 47, 47, 103, 47]⟩) := fun t h => bl_inj (h.trans un_j1)
  go_wp2_with fail
  refine (law3_joined _ _ w12 (by decide) (by decide) HEx11).mono ?_
  rintro e w13 ⟨⟨t, rfl, ht, _⟩, HBc⟩
  obtain rfl := HF13.out t ht.out
  clear ht HF13
  have HBx12 := Lib.hid (bel_trans HBx11.out HBc.out)
  have HEx12 := Lib.hid (HE.out.bel HBx12.out)
  replace R1 := Lib.hid (R1.out.bel HBc.out)
  replace R2 := Lib.hid (R2.out.bel HBc.out)
  replace R3 := Lib.hid (R3.out.bel HBc.out)
  replace R4 := Lib.hid (R4.out.bel HBc.out)
  replace HP1 := Lib.hid (HP1.out.bel HBc.out)
  replace HP2 := Lib.hid (HP2.out.bel HBc.out)
  replace HP3 := Lib.hid (HP3.out.bel HBc.out)
  replace HP4 := Lib.hid (HP4.out.bel HBc.out)
  have HF14 : Hid (∀ t : ByteArray, bl t = joinO (bl ⟨#[63, 113]⟩) (bl ⟨#[104, 116, 116, 112, 58, 47, 47, 104, 47, 97, 47, 98, 47, 99]⟩) → t = ⟨#[104, 116, 116, 112, 58, 47, 47, 104, 47, 97, 47, 98, 47, 99, 63, 113]⟩) := fun t h => bl_inj (h.trans un_j2)
  go_wp2_with fail
  refine (law3_joined _ _ w13 (by decide) (by decide) HEx12).mono ?_
  rintro e w14 ⟨⟨t, rfl, ht, _⟩, HBc⟩
  obtain rfl := HF14.out t ht.out
  clear ht HF14
  have HBx13 := Lib.hid (bel_trans HBx12.out HBc.out)
  have HEx13 := Lib.hid (HE.out.bel HBx13.out)
  replace R1 := Lib.hid (R1.out.bel HBc.out)
  replace R2 := Lib.hid (R2.out.bel HBc.out)
  replace R3 := Lib.hid (R3.out.bel HBc.out)
  replace R4 := Lib.hid (R4.out.bel HBc.out)
  replace HP1 := Lib.hid (HP1.out.bel HBc.out)
  replace HP2 := Lib.hid (HP2.out.bel HBc.out)
  replace HP3 := Lib.hid (HP3.out.bel HBc.out)
  replace HP4 := Lib.hid (HP4.out.bel HBc.out)
  have HF15 : Hid (∀ t : ByteArray, bl t = joinO (bl ⟨#[]⟩) (bl ⟨#[104, 116, 116, 112, 58, 47, 47, 104, 47, 97, 47, 98, 47, 99, 35, 102]⟩) → t = ⟨#[104, 116, 116, 112, 58, 47, 47, 104, 47, 97, 47, 98, 47, 99]⟩) := fun t h => bl_inj (h.trans un_j3)
  go_wp2_with fail
  refine (law3_joined _ _ w14 (by decide) (by decide) HEx13).mono ?_
  rintro e w15 ⟨⟨t, rfl, ht, _⟩, HBc⟩
  obtain rfl := HF15.out t ht.out
  clear ht HF15
  have HBx14 := Lib.hid (bel_trans HBx13.out HBc.out)
  have HEx14 := Lib.hid (HE.out.bel HBx14.out)
  replace R1 := Lib.hid (R1.out.bel HBc.out)
  replace R2 := Lib.hid (R2.out.bel HBc.out)
  replace R3 := Lib.hid (R3.out.bel HBc.out)
  replace R4 := Lib.hid (R4.out.bel HBc.out)
  replace HP1 := Lib.hid (HP1.out.bel HBc.out)
  replace HP2 := Lib.hid (HP2.out.bel HBc.out)
  replace HP3 := Lib.hid (HP3.out.bel HBc.out)
  replace HP4 := Lib.hid (HP4.out.bel HBc.out)
  go_wp2_with fail
  refine (law3_why _ w15 (by decide) HEx14).mono ?_
  rintro e w16 ⟨rfl, HBc⟩
  rw [un_w1]
  have HBx15 := Lib.hid (bel_trans HBx14.out HBc.out)
  have HEx15 := Lib.hid (HE.out.bel HBx15.out)
  replace R1 := Lib.hid (R1.out.bel HBc.out)
  replace R2 := Lib.hid (R2.out.bel HBc.out)
  replace R3 := Lib.hid (R3.out.bel HBc.out)
  replace R4 := Lib.hid (R4.out.bel HBc.out)
  replace HP1 := Lib.hid (HP1.out.bel HBc.out)
  replace HP2 := Lib.hid (HP2.out.bel HBc.out)
  replace HP3 := Lib.hid (HP3.out.bel HBc.out)
  replace HP4 := Lib.hid (HP4.out.bel HBc.out)
  go_wp2_with fail
  refine (law3_why _ w16 (by decide) HEx15).mono ?_
  rintro e w17 ⟨rfl, HBc⟩
  rw [un_w2]
  have HBx16 := Lib.hid (bel_trans HBx15.out HBc.out)
  have HEx16 := Lib.hid (HE.out.bel HBx16.out)
  replace R1 := Lib.hid (R1.out.bel HBc.out)
  replace R2 := Lib.hid (R2.out.bel HBc.out)
  replace R3 := Lib.hid (R3.out.bel HBc.out)
  replace R4 := Lib.hid (R4.out.bel HBc.out)
  replace HP1 := Lib.hid (HP1.out.bel HBc.out)
  replace HP2 := Lib.hid (HP2.out.bel HBc.out)
  replace HP3 := Lib.hid (HP3.out.bel HBc.out)
  replace HP4 := Lib.hid (HP4.out.bel HBc.out)
  have HF18 : Hid (∀ t : ByteArray, bl t = textO (bl ⟨#[104, 116, 116, 112, 58, 47, 47, 64, 104]⟩) → t = ⟨#[104, 116, 116, 112, 58, 47, 47, 104, 47]⟩) := fun t h => bl_inj (h.trans un_t3)
  go_wp2_with fail
  refine (law3_text _ w17 (by decide) HEx16).mono ?_
  rintro e w18 ⟨⟨t, rfl, ht, _⟩, HBc⟩
  obtain rfl := HF18.out t ht.out
  clear ht HF18
  have HBx17 := Lib.hid (bel_trans HBx16.out HBc.out)
  have HEx17 := Lib.hid (HE.out.bel HBx17.out)
  replace R1 := Lib.hid (R1.out.bel HBc.out)
  replace R2 := Lib.hid (R2.out.bel HBc.out)
  replace R3 := Lib.hid (R3.out.bel HBc.out)
  replace R4 := Lib.hid (R4.out.bel HBc.out)
  replace HP1 := Lib.hid (HP1.out.bel HBc.out)
  replace HP2 := Lib.hid (HP2.out.bel HBc.out)
  replace HP3 := Lib.hid (HP3.out.bel HBc.out)
  replace HP4 := Lib.hid (HP4.out.bel HBc.out)
  go_wp2_with fail
  refine (law3_why _ w18 (by decide) HEx17).mono ?_
  rintro e w19 ⟨rfl, HBc⟩
  rw [un_w3]
  have HBx18 := Lib.hid (bel_trans HBx17.out HBc.out)
  have HEx18 := Lib.hid (HE.out.bel HBx18.out)
  replace R1 := Lib.hid (R1.out.bel HBc.out)
  replace R2 := Lib.hid (R2.out.bel HBc.out)
  replace R3 := Lib.hid (R3.out.bel HBc.out)
  replace R4 := Lib.hid (R4.out.bel HBc.out)
  replace HP1 := Lib.hid (HP1.out.bel HBc.out)
  replace HP2 := Lib.hid (HP2.out.bel HBc.out)
  replace HP3 := Lib.hid (HP3.out.bel HBc.out)
  replace HP4 := Lib.hid (HP4.out.bel HBc.out)
  go_wp2_with fail
  refine (law3_why _ w19 (by decide) HEx18).mono ?_
  rintro e w20 ⟨rfl, HBc⟩
  rw [un_w4]
  have HBx19 := Lib.hid (bel_trans HBx18.out HBc.out)
  have HEx19 := Lib.hid (HE.out.bel HBx19.out)
  replace R1 := Lib.hid (R1.out.bel HBc.out)
  replace R2 := Lib.hid (R2.out.bel HBc.out)
  replace R3 := Lib.hid (R3.out.bel HBc.out)
  replace R4 := Lib.hid (R4.out.bel HBc.out)
  replace HP1 := Lib.hid (HP1.out.bel HBc.out)
  replace HP2 := Lib.hid (HP2.out.bel HBc.out)
  replace HP3 := Lib.hid (HP3.out.bel HBc.out)
  replace HP4 := Lib.hid (HP4.out.bel HBc.out)
  have HF21 : Hid (∀ t : ByteArray, bl t = textO (bl ⟨#[97, 58]⟩) → t = ⟨#[97, 58]⟩) := fun t h => bl_inj (h.trans un_t4)
  go_wp2_with fail
  refine (law3_text _ w20 (by decide) HEx19).mono ?_
  rintro e w21 ⟨⟨t, rfl, ht, _⟩, HBc⟩
  obtain rfl := HF21.out t ht.out
  clear ht HF21
  have HBx20 := Lib.hid (bel_trans HBx19.out HBc.out)
  have HEx20 := Lib.hid (HE.out.bel HBx20.out)
  replace R1 := Lib.hid (R1.out.bel HBc.out)
  replace R2 := Lib.hid (R2.out.bel HBc.out)
  replace R3 := Lib.hid (R3.out.bel HBc.out)
  replace R4 := Lib.hid (R4.out.bel HBc.out)
  replace HP1 := Lib.hid (HP1.out.bel HBc.out)
  replace HP2 := Lib.hid (HP2.out.bel HBc.out)
  replace HP3 := Lib.hid (HP3.out.bel HBc.out)
  replace HP4 := Lib.hid (HP4.out.bel HBc.out)
  have HF22 : Hid (∀ t : ByteArray, bl t = textO (bl ⟨#[104, 116, 116, 112, 115, 58, 47, 47, 104, 58, 56, 48, 47]⟩) → t = ⟨#[104, 116, 116, 112, 115, 58, 47, 47, 104, 58, 56, 48, 47]⟩) := fun t h => bl_inj (h.trans un_t5)
  go_wp2_with fail
  refine (law3_text _ w21 (by decide) HEx20).mono ?_
  rintro e w22 ⟨⟨t, rfl, ht, _⟩, HBc⟩
  obtain rfl := HF22.out t ht.out
  clear ht HF22
  have HBx21 := Lib.hid (bel_trans HBx20.out HBc.out)
  have HEx21 := Lib.hid (HE.out.bel HBx21.out)
  replace R1 := Lib.hid (R1.out.bel HBc.out)
  replace R2 := Lib.hid (R2.out.bel HBc.out)
  replace R3 := Lib.hid (R3.out.bel HBc.out)
  replace R4 := Lib.hid (R4.out.bel HBc.out)
  replace HP1 := Lib.hid (HP1.out.bel HBc.out)
  replace HP2 := Lib.hid (HP2.out.bel HBc.out)
  replace HP3 := Lib.hid (HP3.out.bel HBc.out)
  replace HP4 := Lib.hid (HP4.out.bel HBc.out)
  obtain ⟨wm, hmk, HMO, HBc⟩ := make_own8 w22 4097 (by decide)
  replace hmk : (Instr.makeSlice 43 (.int .i64 4097) (.int .i64 4097)).run Tryz.prog w22 = .ok (.slice (some ⟨w22.heap.size, 0, none⟩) 4097 4097) wm := hmk
  have hcv := own_str (src := 43) (dst := 9) Tryz.underlying43 Tryz.underlying5 Tryz.underlying9 HMO.out
  obtain ⟨L4, hL4⟩ : ∃ L4 : ByteArray, (⟨(List.replicate 4097 (0 : UInt8)).toArray⟩ : ByteArray) = L4 := ⟨_, rfl⟩
  have HL4 : Hid (whyE (urlS (bl L4)) = 3) := un_l _ (by rw [← hL4, bl_mk, List.length_replicate])
  have hz4 : L4.size = 4097 := by rw [← bl_length, ← hL4, bl_mk, List.length_replicate]
  have HZ4 : Hid (L4.size ≤ 1000000) := by unfold Hid; omega
  rw [hL4] at hcv
  clear hL4 hz4
  have HBx22 := Lib.hid (bel_trans HBx21.out HBc.out)
  have HEx22 := Lib.hid (HE.out.bel HBx22.out)
  replace R1 := Lib.hid (R1.out.bel HBc.out)
  replace R2 := Lib.hid (R2.out.bel HBc.out)
  replace R3 := Lib.hid (R3.out.bel HBc.out)
  replace R4 := Lib.hid (R4.out.bel HBc.out)
  replace HP1 := Lib.hid (HP1.out.bel HBc.out)
  replace HP2 := Lib.hid (HP2.out.bel HBc.out)
  replace HP3 := Lib.hid (HP3.out.bel HBc.out)
  replace HP4 := Lib.hid (HP4.out.bel HBc.out)
  go_wp2_with fail
  clear hmk hcv
  refine (law3_why _ wm HZ4.out HEx22).mono ?_
  rintro e w23 ⟨rfl, HBc⟩
  rw [HL4.out]
  have HBx23 := Lib.hid (bel_trans HBx22.out HBc.out)
  have HEx23 := Lib.hid (HE.out.bel HBx23.out)
  replace R1 := Lib.hid (R1.out.bel HBc.out)
  replace R2 := Lib.hid (R2.out.bel HBc.out)
  replace R3 := Lib.hid (R3.out.bel HBc.out)
  replace R4 := Lib.hid (R4.out.bel HBc.out)
  replace HP1 := Lib.hid (HP1.out.bel HBc.out)
  replace HP2 := Lib.hid (HP2.out.bel HBc.out)
  replace HP3 := Lib.hid (HP3.out.bel HBc.out)
  replace HP4 := Lib.hid (HP4.out.bel HBc.out)
  have HF24 : Hid (∀ t : ByteArray, bl t = textO (bl ⟨#[97, 58, 47, 46, 47, 47, 98]⟩) → t = ⟨#[97, 58, 47, 46, 47, 47, 98]⟩) := fun t h => bl_inj (h.trans un_t6)
  go_wp2_with fail
  refine (law3_text _ w23 (by decide) HEx23).mono ?_
  rintro e w24 ⟨⟨t, rfl, ht, _⟩, HBc⟩
  obtain rfl := HF24.out t ht.out
  clear ht HF24
  have HBx24 := Lib.hid (bel_trans HBx23.out HBc.out)
  have HEx24 := Lib.hid (HE.out.bel HBx24.out)
  replace R1 := Lib.hid (R1.out.bel HBc.out)
  replace R2 := Lib.hid (R2.out.bel HBc.out)
  replace R3 := Lib.hid (R3.out.bel HBc.out)
  replace R4 := Lib.hid (R4.out.bel HBc.out)
  replace HP1 := Lib.hid (HP1.out.bel HBc.out)
  replace HP2 := Lib.hid (HP2.out.bel HBc.out)
  replace HP3 := Lib.hid (HP3.out.bel HBc.out)
  replace HP4 := Lib.hid (HP4.out.bel HBc.out)
  have HF25 : Hid (∀ t : ByteArray, bl t = joinO (bl ⟨#[104, 116, 116, 112, 58, 120]⟩) (bl ⟨#[104, 116, 116, 112, 58, 47, 47, 104, 47, 97, 47, 98]⟩) → t = ⟨#[104, 116, 116, 112, 58, 47, 47, 104, 47, 97, 47, 120]⟩) := fun t h => bl_inj (h.trans un_j4)
  go_wp2_with fail
  refine (law3_joined _ _ w24 (by decide) (by decide) HEx24).mono ?_
  rintro e w25 ⟨⟨t, rfl, ht, _⟩, HBc⟩
  obtain rfl := HF25.out t ht.out
  clear ht HF25
  have HBx25 := Lib.hid (bel_trans HBx24.out HBc.out)
  have HEx25 := Lib.hid (HE.out.bel HBx25.out)
  replace R1 := Lib.hid (R1.out.bel HBc.out)
  replace R2 := Lib.hid (R2.out.bel HBc.out)
  replace R3 := Lib.hid (R3.out.bel HBc.out)
  replace R4 := Lib.hid (R4.out.bel HBc.out)
  replace HP1 := Lib.hid (HP1.out.bel HBc.out)
  replace HP2 := Lib.hid (HP2.out.bel HBc.out)
  replace HP3 := Lib.hid (HP3.out.bel HBc.out)
  replace HP4 := Lib.hid (HP4.out.bel HBc.out)
  have HF26 : Hid (∀ t : ByteArray, bl t = joinO (bl ⟨#[104, 116, 116, 112, 115, 58, 120]⟩) (bl ⟨#[104, 116, 116, 112, 58, 47, 47, 104, 47, 97, 47, 98]⟩) → t = ⟨#[104, 116, 116, 112, 115, 58, 47, 47, 120, 47]⟩) := fun t h => bl_inj (h.trans un_j5)
  go_wp2_with fail
  refine (law3_joined _ _ w25 (by decide) (by decide) HEx25).mono ?_
  rintro e w26 ⟨⟨t, rfl, ht, _⟩, HBc⟩
  obtain rfl := HF26.out t ht.out
  clear ht HF26
  have HBx26 := Lib.hid (bel_trans HBx25.out HBc.out)
  have HEx26 := Lib.hid (HE.out.bel HBx26.out)
  replace R1 := Lib.hid (R1.out.bel HBc.out)
  replace R2 := Lib.hid (R2.out.bel HBc.out)
  replace R3 := Lib.hid (R3.out.bel HBc.out)
  replace R4 := Lib.hid (R4.out.bel HBc.out)
  replace HP1 := Lib.hid (HP1.out.bel HBc.out)
  replace HP2 := Lib.hid (HP2.out.bel HBc.out)
  replace HP3 := Lib.hid (HP3.out.bel HBc.out)
  replace HP4 := Lib.hid (HP4.out.bel HBc.out)
  have HF27 : Hid (∀ t : ByteArray, bl t = textO (bl ⟨#[104, 116, 116, 112, 58, 92, 92, 104, 92, 97, 63, 92]⟩) → t = ⟨#[104, 116, 116, 112, 58, 47, 47, 104, 47, 97, 63, 92]⟩) := fun t h => bl_inj (h.trans un_t7)
  go_wp2_with fail
  refine (law3_text _ w26 (by decide) HEx26).mono ?_
  rintro e w27 ⟨⟨t, rfl, ht, _⟩, HBc⟩
  obtain rfl := HF27.out t ht.out
  clear ht HF27
  have HBx27 := Lib.hid (bel_trans HBx26.out HBc.out)
  have HEx27 := Lib.hid (HE.out.bel HBx27.out)
  replace R1 := Lib.hid (R1.out.bel HBc.out)
  replace R2 := Lib.hid (R2.out.bel HBc.out)
  replace R3 := Lib.hid (R3.out.bel HBc.out)
  replace R4 := Lib.hid (R4.out.bel HBc.out)
  replace HP1 := Lib.hid (HP1.out.bel HBc.out)
  replace HP2 := Lib.hid (HP2.out.bel HBc.out)
  replace HP3 := Lib.hid (HP3.out.bel HBc.out)
  replace HP4 := Lib.hid (HP4.out.bel HBc.out)
  have HF28 : Hid (∀ t : ByteArray, bl t = textO (bl ⟨#[32, 104, 9, 116, 116, 112, 58, 47, 47, 104, 32]⟩) → t = ⟨#[104, 116, 116, 112, 58, 47, 47, 104, 47]⟩) := fun t h => bl_inj (h.trans un_t8)
  go_wp2_with fail
  refine (law3_text _ w27 (by decide) HEx27).mono ?_
  rintro e w28 ⟨⟨t, rfl, ht, _⟩, HBc⟩
  obtain rfl := HF28.out t ht.out
  clear ht HF28
  have HBx28 := Lib.hid (bel_trans HBx27.out HBc.out)
  have HEx28 := Lib.hid (HE.out.bel HBx28.out)
  replace R1 := Lib.hid (R1.out.bel HBc.out)
  replace R2 := Lib.hid (R2.out.bel HBc.out)
  replace R3 := Lib.hid (R3.out.bel HBc.out)
  replace R4 := Lib.hid (R4.out.bel HBc.out)
  replace HP1 := Lib.hid (HP1.out.bel HBc.out)
  replace HP2 := Lib.hid (HP2.out.bel HBc.out)
  replace HP3 := Lib.hid (HP3.out.bel HBc.out)
  replace HP4 := Lib.hid (HP4.out.bel HBc.out)
  obtain ⟨⟨k0, _⟩, ⟨k1, _⟩, ⟨k2, _⟩, ⟨k3, _⟩, ⟨k4, _⟩, ⟨k5, _⟩, ⟨k6, _⟩, ⟨k7, _⟩, ⟨k8, _⟩, ⟨k9, _⟩, ⟨k10, _⟩, ⟨k11, _⟩⟩ := at_row R2.out
  have HT2 : Hid (∀ t : ByteArray, bl t = textS (c2.flat p2) → t = ⟨#[100, 97, 116, 97, 58, 97, 32, 98, 63, 99]⟩) := fun t h => bl_inj (by rw [h, HC2.out]; exact unt_x)
  have HZ2 : Hid (Small c2 p2) := Fine.small (n := 12334 + 12334) (by rw [HC2.out]; exact join_fine _ HU0.out) (by decide)
  go_wp2_with fail
  clear k0 k1 k2 k3 k4 k5 k6 k7 k8 k9 k10 k11
  refine (url_Text c2 p2 _ w28 HP2 HEx28 HZ2).mono ?_
  rintro e wt2 ⟨⟨t, rfl, ht, _⟩, HBc⟩
  obtain rfl := HT2.out t ht.out
  clear ht HT2
  have HBx29 := Lib.hid (bel_trans HBx28.out HBc.out)
  have HEx29 := Lib.hid (HE.out.bel HBx29.out)
  replace R1 := Lib.hid (R1.out.bel HBc.out)
  replace R2 := Lib.hid (R2.out.bel HBc.out)
  replace R3 := Lib.hid (R3.out.bel HBc.out)
  replace R4 := Lib.hid (R4.out.bel HBc.out)
  replace HP1 := Lib.hid (HP1.out.bel HBc.out)
  replace HP2 := Lib.hid (HP2.out.bel HBc.out)
  replace HP3 := Lib.hid (HP3.out.bel HBc.out)
  replace HP4 := Lib.hid (HP4.out.bel HBc.out)
  obtain ⟨⟨k0, _⟩, ⟨k1, _⟩, ⟨k2, _⟩, ⟨k3, _⟩, ⟨k4, _⟩, ⟨k5, _⟩, ⟨k6, _⟩, ⟨k7, _⟩, ⟨k8, _⟩, ⟨k9, _⟩, ⟨k10, _⟩, ⟨k11, _⟩⟩ := at_row R4.out
  have HT4 : Hid (∀ t : ByteArray, bl t = textS (c4.flat p4) → t = ⟨#[100, 97, 116, 97, 58, 97, 32, 98, 63, 99, 35, 122]⟩) := fun t h => bl_inj (by rw [h, HC4.out]; exact unt_y)
  have HZ4 : Hid (Small c4 p4) := Fine.small (n := 12334 + 12334) (by rw [HC4.out]; exact join_fine _ HU0.out) (by decide)
  go_wp2_with fail
  clear k0 k1 k2 k3 k4 k5 k6 k7 k8 k9 k10 k11
  refine (url_Text c4 p4 _ wt2 HP4 HEx29 HZ4).mono ?_
  rintro e wt4 ⟨⟨t, rfl, ht, _⟩, HBc⟩
  obtain rfl := HT4.out t ht.out
  clear ht HT4
  have HBx30 := Lib.hid (bel_trans HBx29.out HBc.out)
  have HEx30 := Lib.hid (HE.out.bel HBx30.out)
  replace R1 := Lib.hid (R1.out.bel HBc.out)
  replace R2 := Lib.hid (R2.out.bel HBc.out)
  replace R3 := Lib.hid (R3.out.bel HBc.out)
  replace R4 := Lib.hid (R4.out.bel HBc.out)
  replace HP1 := Lib.hid (HP1.out.bel HBc.out)
  replace HP2 := Lib.hid (HP2.out.bel HBc.out)
  replace HP3 := Lib.hid (HP3.out.bel HBc.out)
  replace HP4 := Lib.hid (HP4.out.bel HBc.out)
  go_wp2_with fail
  refine (law3_known wt4 HEx30).mono ?_
  rintro e wz ⟨rfl, HBc⟩
  have HBx31 := Lib.hid (bel_trans HBx30.out HBc.out)
  have HEx31 := Lib.hid (HE.out.bel HBx31.out)
  replace R1 := Lib.hid (R1.out.bel HBc.out)
  replace R2 := Lib.hid (R2.out.bel HBc.out)
  replace R3 := Lib.hid (R3.out.bel HBc.out)
  replace R4 := Lib.hid (R4.out.bel HBc.out)
  replace HP1 := Lib.hid (HP1.out.bel HBc.out)
  replace HP2 := Lib.hid (HP2.out.bel HBc.out)
  replace HP3 := Lib.hid (HP3.out.bel HBc.out)
  replace HP4 := Lib.hid (HP4.out.bel HBc.out)
  go_wp2
  go_ret
  exact ⟨rfl, HBx31⟩
end Go.Proofs.YtbpkkgaaeodimaaGreatDoor
