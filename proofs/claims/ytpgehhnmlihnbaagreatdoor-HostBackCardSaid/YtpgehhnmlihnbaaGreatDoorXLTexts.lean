import Derived.Test.YtpgehhnmlihnbaaGreatDoorXLaw
import Derived.Deep.RegionHeld3
namespace Go.Proofs.YtpgehhnmlihnbaaGreatDoor
open Go.RowKit

abbrev S8 (g x0 x1 x2 x3 x4 x5 x6 x7 : Nat) (w : World) : Prop := Hid (Env w) ∧ w.cell? ⟨g, 0, none⟩ = some (.int .u16 (x0 : Nat)) ∧ w.cell? ⟨g, 1, none⟩ = some (.int .u16 (x1 : Nat)) ∧ w.cell? ⟨g, 2, none⟩ = some (.int .u16 (x2 : Nat)) ∧ w.cell? ⟨g, 3, none⟩ = some (.int .u16 (x3 : Nat)) ∧ w.cell? ⟨g, 4, none⟩ = some (.int .u16 (x4 : Nat)) ∧ w.cell? ⟨g, 5, none⟩ = some (.int .u16 (x5 : Nat)) ∧ w.cell? ⟨g, 6, none⟩ = some (.int .u16 (x6 : Nat)) ∧ w.cell? ⟨g, 7, none⟩ = some (.int .u16 (x7 : Nat))
theorem s8_bel {g x0 x1 x2 x3 x4 x5 x6 x7 : Nat} {w w1 : World} (hb : Hid (Bel w w1)) (h : S8 g x0 x1 x2 x3 x4 x5 x6 x7 w) : S8 g x0 x1 x2 x3 x4 x5 x6 x7 w1 := by
  obtain ⟨h, h0, h1, h2, h3, h4, h5, h6, h7⟩ := h
  exact ⟨h.out.bel hb.out, bel_cell hb.out h0, bel_cell hb.out h1, bel_cell hb.out h2, bel_cell hb.out h3, bel_cell hb.out h4, bel_cell hb.out h5, bel_cell hb.out h6, bel_cell hb.out h7⟩
theorem s8_drew {g x0 x1 x2 x3 x4 x5 x6 x7 : Nat} {w : World} (h : S8 g x0 x1 x2 x3 x4 x5 x6 x7 w) : S8 g x0 x1 x2 x3 x4 x5 x6 x7 w.drew := s8_bel (bel_drew w) h
theorem s8_env {g x0 x1 x2 x3 x4 x5 x6 x7 : Nat} {w : World} (h : S8 g x0 x1 x2 x3 x4 x5 x6 x7 w) : Hid (Env w) := h.1
theorem s8_alloc (w : World) (x0 x1 x2 x3 x4 x5 x6 x7 : Nat) (HE : Hid (Env w)) (t : TypeId) : S8 w.heap.size x0 x1 x2 x3 x4 x5 x6 x7 (w.alloc (.cells #[.int .u16 x0, .int .u16 x1, .int .u16 x2, .int .u16 x3, .int .u16 x4, .int .u16 x5, .int .u16 x6, .int .u16 x7] t)) := by
  have HB : Bel w (w.alloc (.cells #[.int .u16 x0, .int .u16 x1, .int .u16 x2, .int .u16 x3, .int .u16 x4, .int .u16 x5, .int .u16 x6, .int .u16 x7] t)) := (Below.refl _ w).alloc (Nat.le_refl _) _
  have h := (RdAt.alloc w [Value.int .u16 x0, Value.int .u16 x1, Value.int .u16 x2, Value.int .u16 x3, Value.int .u16 x4, Value.int .u16 x5, Value.int .u16 x6, Value.int .u16 x7] t).2
  exact ⟨HE.out.bel HB, h 0 _ rfl, h 1 _ rfl, h 2 _ rfl, h 3 _ rfl, h 4 _ rfl, h 5 _ rfl, h 6 _ rfl, h 7 _ rfl⟩
theorem same_text {t u : ByteArray} {l : List UInt8} (h : Hid (bl t = l)) (h2 : Hid (bl u = l)) : (t.toList == u.toList) = true := by
  rw [toList_bl, toList_bl, h.out, h2.out]; exact beq_self_eq_true _
theorem eight {xs : List Nat} (h : xs.length = 8) : ∃ x0 x1 x2 x3 x4 x5 x6 x7, xs = [x0, x1, x2, x3, x4, x5, x6, x7] := by
  match xs, h with
  | [x0, x1, x2, x3, x4, x5, x6, x7], _ => exact ⟨x0, x1, x2, x3, x4, x5, x6, x7, rfl⟩
set_option maxHeartbeats 2000000 in
theorem law_Texts (v : Int) (x0 x1 x2 x3 x4 x5 x6 x7 : Nat) (w : World) (h0 : 0 ≤ v) (h1 : v ≤ 4294967295) (hv : Hid (∀ x ∈ [x0, x1, x2, x3, x4, x5, x6, x7], x ≤ 65535)) (HE : Hid (Env w)) :
    Calls Tryz.prog 5 #[.int .u32 v, .agg #[.int .u16 x0, .int .u16 x1, .int .u16 x2, .int .u16 x3, .int .u16 x4, .int .u16 x5, .int .u16 x6, .int .u16 x7]] w fun e w' => e = .returned (.bool true) ∧ Hid (Bel w w') := by
  have H8 : Hid ([x0, x1, x2, x3, x4, x5, x6, x7].length = 8) := rfl
  go_enter Tryz.func5, Tryz.ntmps5
  go_wp2_with fail
  have HS := Lib.hid (s8_alloc w x0 x1 x2 x3 x4 x5 x6 x7 HE 27)
  have HB0 : Hid (Bel w (w.alloc (.cells #[.int .u16 x0, .int .u16 x1, .int .u16 x2, .int .u16 x3, .int .u16 x4, .int .u16 x5, .int .u16 x6, .int .u16 x7] 27))) := (Below.refl _ w).alloc (Nat.le_refl _) _
  generalize w.alloc (.cells #[.int .u16 x0, .int .u16 x1, .int .u16 x2, .int .u16 x3, .int .u16 x4, .int .u16 x5, .int .u16 x6, .int .u16 x7] 27) = w0 at *
  obtain ⟨g, hg⟩ : ∃ g, w.heap.size = g := ⟨_, rfl⟩
  rw [hg] at HS ⊢
  have HG := Lib.hid hg
  clear hg
  go_region_held3 (fun w' => Hid (Env w') ∧ w'.cell? ⟨g, 0, none⟩ = some (.int .u16 (x0 : Nat)) ∧ w'.cell? ⟨g, 1, none⟩ = some (.int .u16 (x1 : Nat)) ∧ w'.cell? ⟨g, 2, none⟩ = some (.int .u16 (x2 : Nat)) ∧ w'.cell? ⟨g, 3, none⟩ = some (.int .u16 (x3 : Nat)) ∧ w'.cell? ⟨g, 4, none⟩ = some (.int .u16 (x4 : Nat)) ∧ w'.cell? ⟨g, 5, none⟩ = some (.int .u16 (x5 : Nat)) ∧ w'.cell? ⟨g, 6, none⟩ = some (.int .u16 (x6 : Nat)) ∧ w'.cell? ⟨g, 7, none⟩ = some (.int .u16 (x7 : Nat))) ((first | exact s8_drew HS.out | exact s8_bel (by assumption) (by assumption)))
    (first | ((go_at_call 13; go_must (refine (host_Text4 v _ h0 h1 (s8_env (g := g) (x0 := x0) (x1 := x1) (x2 := x2) (x3 := x3) (x4 := x4) (x5 := x5) (x6 := x6) (x7 := x7) (by assumption))).mono ?_); rintro e w1 ⟨⟨t, rfl, ht⟩, HB1⟩)) | ((go_at_call 24; go_must (refine (ref2_Text4 v _ h0 h1).mono ?_); rintro e w2 ⟨⟨u, rfl, hu⟩, HB2⟩; have hq := same_text ht hu)) | ((go_at_call 14; go_must (refine (host_Text6 [x0, x1, x2, x3, x4, x5, x6, x7] _ H8.out hv.out (s8_env (g := g) (x0 := x0) (x1 := x1) (x2 := x2) (x3 := x3) (x4 := x4) (x5 := x5) (x6 := x6) (x7 := x7) (by assumption))).mono ?_); rintro e w3 ⟨⟨t6, rfl, ht6⟩, HB3⟩)) | ((go_at_call 25; go_must (refine (ref2_Text6 [x0, x1, x2, x3, x4, x5, x6, x7] _ H8.out hv.out).mono ?_); rintro e w4 ⟨⟨u6, rfl, hu6⟩, HB4⟩; have hq6 := same_text ht6 hu6)) | ((go_at_call 16; go_must (refine (law2_known _ (s8_env (g := g) (x0 := x0) (x1 := x1) (x2 := x2) (x3 := x3) (x4 := x4) (x5 := x5) (x6 := x6) (x7 := x7) (by assumption))).mono ?_); rintro e w5 ⟨rfl, HB5⟩)))
  go_wp2
  go_ret
  exact ⟨rfl, bel_trans HB0.out (bel_trans (bel_drew w0) (bel_trans HB1.out (bel_trans HB2.out (bel_trans HB3.out (bel_trans HB4.out HB5.out)))))⟩
end Go.Proofs.YtpgehhnmlihnbaaGreatDoor
