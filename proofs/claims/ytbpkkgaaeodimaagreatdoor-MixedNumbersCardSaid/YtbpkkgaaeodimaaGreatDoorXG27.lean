import Derived.Test.YtbpkkgaaeodimaaGreatDoorXG26
import Derived.Test.YtbpkkgaaeodimaaGreatDoorXG24
namespace Go.Proofs.YtbpkkgaaeodimaaGreatDoor
open Go.RowKit

/-! Chapter 14's runs, and every port up to 11000. -/
theorem mn_5 : (atS (bl ⟨#[104, 116, 116, 112, 58, 47, 47, 104, 58, 53, 47]⟩)).scheme = httpS := by decide +kernel
theorem mn_d : specialS (atS (bl ⟨#[100, 97, 116, 97, 58, 120]⟩)).scheme = false := by decide +kernel
theorem mn_f : (atS (bl ⟨#[102, 116, 112, 58, 47, 47, 104, 47]⟩)).port = -1 := by decide +kernel
theorem mn_22 : specialS (atS (bl ⟨#[102, 116, 112, 58, 47, 47, 104, 58, 50, 50, 47]⟩)).scheme = true ∧ (atS (bl ⟨#[102, 116, 112, 58, 47, 47, 104, 58, 50, 50, 47]⟩)).port = 22 ∧ okB (bl ⟨#[102, 116, 112, 58, 47, 47, 104, 58, 50, 50, 47]⟩) = true := by decide +kernel
theorem mn_j0 : judgeO (bl ⟨#[104, 116, 116, 112, 115, 58, 47, 47, 97, 47]⟩) (bl ⟨#[104, 116, 116, 112, 58, 47, 47, 108, 111, 99, 97, 108, 104, 111, 115, 116, 47]⟩) 2 = 1 ∧ (atS (bl ⟨#[104, 116, 116, 112, 58, 47, 47, 108, 111, 99, 97, 108, 104, 111, 115, 116, 47]⟩)).scheme ≠ blobS := by decide +kernel
theorem mn_j1 : judgeO (bl ⟨#[104, 116, 116, 112, 115, 58, 47, 47, 97, 47]⟩) (bl ⟨#[104, 116, 116, 112, 58, 47, 47, 49, 46, 50, 46, 51, 46, 52, 47]⟩) 4 = 3 ∧ (atS (bl ⟨#[104, 116, 116, 112, 58, 47, 47, 49, 46, 50, 46, 51, 46, 52, 47]⟩)).scheme ≠ blobS := by decide +kernel
theorem mn_j2 : judgeO (bl ⟨#[104, 116, 116, 112, 115, 58, 47, 47, 97, 47]⟩) (bl ⟨#[119, 115, 58, 47, 47, 98, 47]⟩) 1 = 3 ∧ (atS (bl ⟨#[119, 115, 58, 47, 47, 98, 47]⟩)).scheme ≠ blobS := by decide +kernel
theorem mn_j3 : judgeO (bl ⟨#[104, 116, 116, 112, 115, 58, 47, 47, 97, 47]⟩) (bl ⟨#[100, 97, 116, 97, 58, 120]⟩) 2 = 1 ∧ (atS (bl ⟨#[100, 97, 116, 97, 58, 120]⟩)).scheme ≠ blobS := by decide +kernel
def CellsN (c : UrlC) (g : Nat) (n : Nat) (w' : World) : Prop := w'.cell? ⟨g, 0, none⟩ = some (.string c.scheme) ∧ w'.cell? ⟨g, 1, none⟩ = some (.string c.user) ∧ w'.cell? ⟨g, 2, none⟩ = some (.string c.pass) ∧ w'.cell? ⟨g, 3, none⟩ = some (.string c.host) ∧ w'.cell? ⟨g, 4, none⟩ = some (.bool c.hasHost) ∧ w'.cell? ⟨g, 5, none⟩ = some (.int .i64 (n : Int)) ∧ w'.cell? ⟨g, 6, none⟩ = some (.bool c.opaq) ∧ w'.cell? ⟨g, 7, none⟩ = some (c.path) ∧ w'.cell? ⟨g, 8, none⟩ = some (.string c.query) ∧ w'.cell? ⟨g, 9, none⟩ = some (.string c.frag) ∧ w'.cell? ⟨g, 10, none⟩ = some (.bool c.hasQuery) ∧ w'.cell? ⟨g, 11, none⟩ = some (.bool c.hasFrag)
theorem cells_row {c : UrlC} {g n : Nat} {w : World} (h : RowAt w g (({ c with port := (n : Int) } : UrlC).cells ++ [])) : CellsN c g n w :=
  ⟨(h.2 0 _ rfl).1, (h.2 1 _ rfl).1, (h.2 2 _ rfl).1, (h.2 3 _ rfl).1, (h.2 4 _ rfl).1, (h.2 5 _ rfl).1, (h.2 6 _ rfl).1, (h.2 7 _ rfl).1, (h.2 8 _ rfl).1, (h.2 9 _ rfl).1, (h.2 10 _ rfl).1, (h.2 11 _ rfl).1⟩
theorem cells_bel {c : UrlC} {g n : Nat} {w w1 : World} (h : CellsN c g n w) (hb : Bel w w1) : CellsN c g n w1 := by
  obtain ⟨h0, h1, h2, h3, h4, h5, h6, h7, h8, h9, h10, h11⟩ := h
  exact ⟨bel_cell hb h0, bel_cell hb h1, bel_cell hb h2, bel_cell hb h3, bel_cell hb h4, bel_cell hb h5, bel_cell hb h6, bel_cell hb h7, bel_cell hb h8, bel_cell hb h9, bel_cell hb h10, bel_cell hb h11⟩
theorem cells_drew {c : UrlC} {g n : Nat} {w : World} (h : CellsN c g n w) : CellsN c g n w.drew := h
set_option maxHeartbeats 8000000 in
set_option maxRecDepth 100000 in
theorem law_MNums (w : World) (HE : Hid (Env w)) : Calls Tryz.prog 3 #[] w fun e w' => e = .returned (.bool true) ∧ Hid (Bel w w') := by
  go_enter Tryz.func3, Tryz.ntmps3
  go_wp2_with fail
  refine (keep_URL ⟨#[104, 116, 116, 112, 58, 47, 47, 104, 58, 53, 47]⟩ _ HE).mono ?_
  rintro e w1 ⟨⟨v, rfl, hv⟩, HB1⟩
  obtain ⟨c, p, rfl, hc, hp⟩ := hv.out
  have HSC : Hid (bl c.scheme = httpS) := by
    have h1 : (c.flat p).scheme = httpS := by rw [hc]; exact mn_5
    exact h1
  have h1c := own_cell hp
  have hr3 : RowAt (w1.alloc (.cells noC.cells.toArray 24)) w1.heap.size (noC.cells ++ []) := RowAt.new w1 noC.cells.toArray 24
  have hb3 : Bel w1 (w1.alloc (.cells noC.cells.toArray 24)) := (Below.refl _ w1).alloc (Nat.le_refl _) _
  rw [no_cells] at hr3 hb3
  have HR3 := Lib.hid hr3
  have HB3 := Lib.hid hb3
  clear hr3 hb3 hc hv hp
  go_wp2_with (first | (refine store_url rfl _ _ (by exact rfl) w1.heap.size (by exact rfl) noC c [] (by exact rfl) HR3.out h1c ?_; intro w4 HR4 HP4; have HB4 := Lib.hid (BelP.bel HB3.out (fun k hk => by rw [hk]; exact Nat.le_refl _) HP4.out)))
  have HB5 := Lib.hid (bel_trans HB1.out HB4.out)
  have hgw : w.heap.size ≤ w1.heap.size := HB1.out.size
  obtain ⟨g, hg⟩ : ∃ g, w1.heap.size = g := ⟨_, rfl⟩
  rw [hg] at HR4 hgw ⊢
  clear HR3 HB3 HP4 HB4 HB1 hg
  go_loopg [3] 11000 (fun r v3 wr => ∃ (n : Nat) (q : Int), v3 = .int .i64 n ∧ n + r = 11000 ∧ Hid (RowAt wr g (({ c with port := q } : UrlC).cells ++ [])) ∧ Hid (Bel w wr))
  case atStart => exact ⟨0, c.port, rfl, rfl, HR4, HB5⟩
  case round =>
    obtain ⟨n, q, rfl, hn, HR, HB⟩ := hrel
    clear HR4 HB5
    cases gk with
    | succ r =>
      have hlt : n < 11000 := by omega
      have c5 := (HR.out.2 5 _ rfl).1
      have f5 := (HR.out.2 5 _ rfl).2
      have HR2 : Hid (RowAt (wr.setCell ⟨g, 5, none⟩ (.int .i64 n)) g (({ c with port := (n : Int) } : UrlC).cells ++ [])) := HR.out.set 5 (.int .i64 n)
      have HB2 : Hid (Bel w (wr.setCell ⟨g, 5, none⟩ (.int .i64 n))) := BelP.bel HB.out (fun k hk => by rw [hk]; exact hgw) (BelP.set ⟨g, 5, none⟩ (.int .i64 n) rfl)
      go_upto_region 6 with (fail)
      generalize (wr.setCell ⟨g, 5, none⟩ (.int .i64 n)) = w5 at *
      clear HR HB c5 f5
      have HS := Lib.hid (cells_row HR2.out)
      by_cases h80 : n = 80
      · have hq : ((n : Int) != 80) = false := by rw [h80]; rfl
        have hq2 : ((n : Int) == 80) = true := by rw [h80]; rfl
        have hl := HS.out
        obtain ⟨l0, l1, l2, l3, l4, l5, l6, l7, l8, l9, l10, l11⟩ := hl
        go_quiet (fail)
        go_wp2
        go_roundg r
        case measure => omega
        case rel => exact ⟨n + 1, n, by go_num, by omega, HR2.out.bel (bel_drewN _ _), bel_trans HB2.out (bel_drewN _ _)⟩
      · have hq : ((n : Int) != 80) = true := by rw [bne_iff_ne]; omega
        have hq2 : ((n : Int) == 80) = false := by rw [beq_eq_false_iff_ne]; omega
        have HM := fun W => mixed_Bad { c with port := (n : Int) } W (by show specialS (bl c.scheme) = true; rw [HSC.out]; decide) (by show (n : Int) ≠ -1; omega)
        have HF := fun W => ref14_Bad { c with port := (n : Int) } W HSC.out (by show (n : Int) ≠ -1; omega)
        generalize badPorts.contains (({ c with port := (n : Int) } : UrlC).port) = bb at *
        go_region_held3 (fun w' => w'.cell? ⟨g, 0, none⟩ = some (.string c.scheme) ∧ w'.cell? ⟨g, 1, none⟩ = some (.string c.user) ∧ w'.cell? ⟨g, 2, none⟩ = some (.string c.pass) ∧ w'.cell? ⟨g, 3, none⟩ = some (.string c.host) ∧ w'.cell? ⟨g, 4, none⟩ = some (.bool c.hasHost) ∧ w'.cell? ⟨g, 5, none⟩ = some (.int .i64 (n : Int)) ∧ w'.cell? ⟨g, 6, none⟩ = some (.bool c.opaq) ∧ w'.cell? ⟨g, 7, none⟩ = some (c.path) ∧ w'.cell? ⟨g, 8, none⟩ = some (.string c.query) ∧ w'.cell? ⟨g, 9, none⟩ = some (.string c.frag) ∧ w'.cell? ⟨g, 10, none⟩ = some (.bool c.hasQuery) ∧ w'.cell? ⟨g, 11, none⟩ = some (.bool c.hasFrag)) ((first | exact cells_drew HS.out | exact cells_bel (by assumption) (by assumption)))
          (first | ((go_at_call 16; go_must (refine (HM _).mono ?_); rintro e w6 ⟨rfl, HB6⟩)) | ((go_at_call 17; go_must (refine (HF _).mono ?_); rintro e w7 ⟨rfl, HB7⟩)))
        have hbb : (bb != bb) = false := by cases bb <;> rfl
        have hbb2 : (bb == bb) = true := by cases bb <;> rfl
        have HB8 := Lib.hid (bel_trans (bel_trans (bel_drew _) HB6.out) HB7.out)
        go_wp2
        go_roundg r
        case measure => omega
        case rel => exact ⟨n + 1, n, by go_num, by omega, HR2.out.bel HB8.out, bel_trans HB2.out HB8.out⟩
    | zero =>
      obtain rfl : n = 11000 := by omega
      clear HR
      have HE0 := Lib.hid (HE.out.bel HB.out)
      generalize (whyE (urlS (List.take 300 (bl ⟨#[104, 116, 116, 112, 58, 47, 47, 104, 58, 53, 47]⟩))) == 0) = okk at *
      go_wp2_with fail
      refine (law14_bad ⟨#[100, 97, 116, 97, 58, 120]⟩ false _ HE0 (bad_spec _ (.inl mn_d)) (fun _ => rfl)).mono ?_
      rintro e v1 ⟨rfl, HC1⟩
      have HE1 := Lib.hid (HE0.out.bel HC1.out)
      go_wp2_with fail
      refine (law14_bad ⟨#[102, 116, 112, 58, 47, 47, 104, 47]⟩ false _ HE1 (bad_spec _ (.inr mn_f)) (fun _ => rfl)).mono ?_
      rintro e v2 ⟨rfl, HC2⟩
      have HE2 := Lib.hid (HE1.out.bel HC2.out)
      go_wp2_with fail
      refine (law14_bad ⟨#[102, 116, 112, 58, 47, 47, 104, 58, 50, 50, 47]⟩ true _ HE2 (fun c p hc W => bad_at22 c W (by have h := mn_22.1; rw [← hc] at h; exact h) (by have h := mn_22.2.1; rw [← hc] at h; exact h)) (fun h => by rw [mn_22.2.2] at h; cases h)).mono ?_
      rintro e v3 ⟨rfl, HC3⟩
      have HE3 := Lib.hid (HE2.out.bel HC3.out)
      go_wp2_with fail
      refine (judge_at ⟨#[104, 116, 116, 112, 115, 58, 47, 47, 97, 47]⟩ ⟨#[104, 116, 116, 112, 58, 47, 47, 108, 111, 99, 97, 108, 104, 111, 115, 116, 47]⟩ _ _ 2 1 rfl rfl mn_j0 _ HE3).mono ?_
      rintro e v4 ⟨rfl, HC4⟩
      have HE4 := Lib.hid (HE3.out.bel HC4.out)
      go_wp2_with fail
      refine (judge_at ⟨#[104, 116, 116, 112, 115, 58, 47, 47, 97, 47]⟩ ⟨#[104, 116, 116, 112, 58, 47, 47, 49, 46, 50, 46, 51, 46, 52, 47]⟩ _ _ 4 3 rfl rfl mn_j1 _ HE4).mono ?_
      rintro e v5 ⟨rfl, HC5⟩
      have HE5 := Lib.hid (HE4.out.bel HC5.out)
      go_wp2_with fail
      refine (judge_at ⟨#[104, 116, 116, 112, 115, 58, 47, 47, 97, 47]⟩ ⟨#[119, 115, 58, 47, 47, 98, 47]⟩ _ _ 1 3 rfl rfl mn_j2 _ HE5).mono ?_
      rintro e v6 ⟨rfl, HC6⟩
      have HE6 := Lib.hid (HE5.out.bel HC6.out)
      go_wp2_with fail
      refine (judge_at ⟨#[104, 116, 116, 112, 115, 58, 47, 47, 97, 47]⟩ ⟨#[100, 97, 116, 97, 58, 120]⟩ _ _ 2 1 rfl rfl mn_j3 _ HE6).mono ?_
      rintro e v7 ⟨rfl, HC7⟩
      have HE7 := Lib.hid (HE6.out.bel HC7.out)
      go_wp2_with fail
      refine (law14_known _ HE7).mono ?_
      rintro e v8 ⟨rfl, HC8⟩
      have HE8 := Lib.hid (HE7.out.bel HC8.out)
      go_wp2
      go_ret
      exact ⟨rfl, bel_trans (bel_trans (bel_trans (bel_trans (bel_trans (bel_trans (bel_trans (bel_trans HB.out HC1.out) HC2.out) HC3.out) HC4.out) HC5.out) HC6.out) HC7.out) HC8.out⟩
end Go.Proofs.YtbpkkgaaeodimaaGreatDoor
