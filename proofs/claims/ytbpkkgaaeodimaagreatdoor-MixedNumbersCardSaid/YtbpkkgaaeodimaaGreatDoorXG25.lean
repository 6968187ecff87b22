import Derived.Test.YtbpkkgaaeodimaaGreatDoorXG24
namespace Go.Proofs.YtbpkkgaaeodimaaGreatDoor
open Go.RowKit

set_option maxHeartbeats 4000000 in
set_option maxRecDepth 100000 in
theorem bad_at0 (c : UrlC) (w : World) (h : specialS (bl c.scheme) = true) (hp : c.port = 0) :
    Calls Tryz.prog 16 #[.agg c.cells.toArray] w fun e w' => e = .returned (.bool true) ∧ Hid (Bel w w') := by
  have HB := Lib.hid (box_bel w c)
  rw [noC_val, hp] at HB ⊢
  have HSP := Lib.hid h
  clear h
  go_enter Tryz.func16, Tryz.ntmps16
  go_wp2_with (first | (go_at_call 35; go_must (refine (url_Special _ _).mono ?_); rintro e w' ⟨rfl, rfl⟩; rw [HSP.out]))
  go_ret
  exact ⟨rfl, HB⟩
set_option maxHeartbeats 4000000 in
set_option maxRecDepth 100000 in
theorem bad_at1 (c : UrlC) (w : World) (h : specialS (bl c.scheme) = true) (hp : c.port = 1) :
    Calls Tryz.prog 16 #[.agg c.cells.toArray] w fun e w' => e = .returned (.bool true) ∧ Hid (Bel w w') := by
  have HB := Lib.hid (box_bel w c)
  rw [noC_val, hp] at HB ⊢
  have HSP := Lib.hid h
  clear h
  go_enter Tryz.func16, Tryz.ntmps16
  go_wp2_with (first | (go_at_call 35; go_must (refine (url_Special _ _).mono ?_); rintro e w' ⟨rfl, rfl⟩; rw [HSP.out]))
  go_ret
  exact ⟨rfl, HB⟩
set_option maxHeartbeats 4000000 in
set_option maxRecDepth 100000 in
theorem bad_at7 (c : UrlC) (w : World) (h : specialS (bl c.scheme) = true) (hp : c.port = 7) :
    Calls Tryz.prog 16 #[.agg c.cells.toArray] w fun e w' => e = .returned (.bool true) ∧ Hid (Bel w w') := by
  have HB := Lib.hid (box_bel w c)
  rw [noC_val, hp] at HB ⊢
  have HSP := Lib.hid h
  clear h
  go_enter Tryz.func16, Tryz.ntmps16
  go_wp2_with (first | (go_at_call 35; go_must (refine (url_Special _ _).mono ?_); rintro e w' ⟨rfl, rfl⟩; rw [HSP.out]))
  go_ret
  exact ⟨rfl, HB⟩
set_option maxHeartbeats 4000000 in
set_option maxRecDepth 100000 in
theorem bad_at9 (c : UrlC) (w : World) (h : specialS (bl c.scheme) = true) (hp : c.port = 9) :
    Calls Tryz.prog 16 #[.agg c.cells.toArray] w fun e w' => e = .returned (.bool true) ∧ Hid (Bel w w') := by
  have HB := Lib.hid (box_bel w c)
  rw [noC_val, hp] at HB ⊢
  have HSP := Lib.hid h
  clear h
  go_enter Tryz.func16, Tryz.ntmps16
  go_wp2_with (first | (go_at_call 35; go_must (refine (url_Special _ _).mono ?_); rintro e w' ⟨rfl, rfl⟩; rw [HSP.out]))
  go_ret
  exact ⟨rfl, HB⟩
set_option maxHeartbeats 4000000 in
set_option maxRecDepth 100000 in
theorem bad_at11 (c : UrlC) (w : World) (h : specialS (bl c.scheme) = true) (hp : c.port = 11) :
    Calls Tryz.prog 16 #[.agg c.cells.toArray] w fun e w' => e = .returned (.bool true) ∧ Hid (Bel w w') := by
  have HB := Lib.hid (box_bel w c)
  rw [noC_val, hp] at HB ⊢
  have HSP := Lib.hid h
  clear h
  go_enter Tryz.func16, Tryz.ntmps16
  go_wp2_with (first | (go_at_call 35; go_must (refine (url_Special _ _).mono ?_); rintro e w' ⟨rfl, rfl⟩; rw [HSP.out]))
  go_ret
  exact ⟨rfl, HB⟩
set_option maxHeartbeats 4000000 in
set_option maxRecDepth 100000 in
theorem bad_at13 (c : UrlC) (w : World) (h : specialS (bl c.scheme) = true) (hp : c.port = 13) :
    Calls Tryz.prog 16 #[.agg c.cells.toArray] w fun e w' => e = .returned (.bool true) ∧ Hid (Bel w w') := by
  have HB := Lib.hid (box_bel w c)
  rw [noC_val, hp] at HB ⊢
  have HSP := Lib.hid h
  clear h
  go_enter Tryz.func16, Tryz.ntmps16
  go_wp2_with (first | (go_at_call 35; go_must (refine (url_Special _ _).mono ?_); rintro e w' ⟨rfl, rfl⟩; rw [HSP.out]))
  go_ret
  exact ⟨rfl, HB⟩
set_option maxHeartbeats 4000000 in
set_option maxRecDepth 100000 in
theorem bad_at15 (c : UrlC) (w : World) (h : specialS (bl c.scheme) = true) (hp : c.port = 15) :
    Calls Tryz.prog 16 #[.agg c.cells.toArray] w fun e w' => e = .returned (.bool true) ∧ Hid (Bel w w') := by
  have HB := Lib.hid (box_bel w c)
  rw [noC_val, hp] at HB ⊢
  have HSP := Lib.hid h
  clear h
  go_enter Tryz.func16, Tryz.ntmps16
  go_wp2_with (first | (go_at_call 35; go_must (refine (url_Special _ _).mono ?_); rintro e w' ⟨rfl, rfl⟩; rw [HSP.out]))
  go_ret
  exact ⟨rfl, HB⟩
set_option maxHeartbeats 4000000 in
set_option maxRecDepth 100000 in
theorem bad_at17 (c : UrlC) (w : World) (h : specialS (bl c.scheme) = true) (hp : c.port = 17) :
    Calls Tryz.prog 16 #[.agg c.cells.toArray] w fun e w' => e = .returned (.bool true) ∧ Hid (Bel w w') := by
  have HB := Lib.hid (box_bel w c)
  rw [noC_val, hp] at HB ⊢
  have HSP := Lib.hid h
  clear h
  go_enter Tryz.func16, Tryz.ntmps16
  go_wp2_with (first | (go_at_call 35; go_must (refine (url_Special _ _).mono ?_); rintro e w' ⟨rfl, rfl⟩; rw [HSP.out]))
  go_ret
  exact ⟨rfl, HB⟩
set_option maxHeartbeats 4000000 in
set_option maxRecDepth 100000 in
theorem bad_at19 (c : UrlC) (w : World) (h : specialS (bl c.scheme) = true) (hp : c.port = 19) :
    Calls Tryz.prog 16 #[.agg c.cells.toArray] w fun e w' => e = .returned (.bool true) ∧ Hid (Bel w w') := by
  have HB := Lib.hid (box_bel w c)
  rw [noC_val, hp] at HB ⊢
  have HSP := Lib.hid h
  clear h
  go_enter Tryz.func16, Tryz.ntmps16
  go_wp2_with (first | (go_at_call 35; go_must (refine (url_Special _ _).mono ?_); rintro e w' ⟨rfl, rfl⟩; rw [HSP.out]))
  go_ret
  exact ⟨rfl, HB⟩
set_option maxHeartbeats 4000000 in
set_option maxRecDepth 100000 in
theorem bad_at20 (c : UrlC) (w : World) (h : specialS (bl c.scheme) = true) (hp : c.port = 20) :
    Calls Tryz.prog 16 #[.agg c.cells.toArray] w fun e w' => e = .returned (.bool true) ∧ Hid (Bel w w') := by
  have HB := Lib.hid (box_bel w c)
  rw [noC_val, hp] at HB ⊢
  have HSP := Lib.hid h
  clear h
  go_enter Tryz.func16, Tryz.ntmps16
  go_wp2_with (first | (go_at_call 35; go_must (refine (url_Special _ _).mono ?_); rintro e w' ⟨rfl, rfl⟩; rw [HSP.out]))
  go_ret
  exact ⟨rfl, HB⟩
set_option maxHeartbeats 4000000 in
set_option maxRecDepth 100000 in
theorem bad_at21 (c : UrlC) (w : World) (h : specialS (bl c.scheme) = true) (hp : c.port = 21) :
    Calls Tryz.prog 16 #[.agg c.cells.toArray] w fun e w' => e = .returned (.bool true) ∧ Hid (Bel w w') := by
  have HB := Lib.hid (box_bel w c)
  rw [noC_val, hp] at HB ⊢
  have HSP := Lib.hid h
  clear h
  go_enter Tryz.func16, Tryz.ntmps16
  go_wp2_with (first | (go_at_call 35; go_must (refine (url_Special _ _).mono ?_); rintro e w' ⟨rfl, rfl⟩; rw [HSP.out]))
  go_ret
  exact ⟨rfl, HB⟩
set_option maxHeartbeats 4000000 in
set_option maxRecDepth 100000 in
theorem bad_at22 (c : UrlC) (w : World) (h : specialS (bl c.scheme) = true) (hp : c.port = 22) :
    Calls Tryz.prog 16 #[.agg c.cells.toArray] w fun e w' => e = .returned (.bool true) ∧ Hid (Bel w w') := by
  have HB := Lib.hid (box_bel w c)
  rw [noC_val, hp] at HB ⊢
  have HSP := Lib.hid h
  clear h
  go_enter Tryz.func16, Tryz.ntmps16
  go_wp2_with (first | (go_at_call 35; go_must (refine (url_Special _ _).mono ?_); rintro e w' ⟨rfl, rfl⟩; rw [HSP.out]))
  go_ret
  exact ⟨rfl, HB⟩
set_option maxHeartbeats 4000000 in
set_option maxRecDepth 100000 in
theorem bad_at23 (c : UrlC) (w : World) (h : specialS (bl c.scheme) = true) (hp : c.port = 23) :
    Calls Tryz.prog 16 #[.agg c.cells.toArray] w fun e w' => e = .returned (.bool true) ∧ Hid (Bel w w') := by
  have HB := Lib.hid (box_bel w c)
  rw [noC_val, hp] at HB ⊢
  have HSP := Lib.hid h
  clear h
  go_enter Tryz.func16, Tryz.ntmps16
  go_wp2_with (first | (go_at_call 35; go_must (refine (url_Special _ _).mono ?_); rintro e w' ⟨rfl, rfl⟩; rw [HSP.out]))
  go_ret
  exact ⟨rfl, HB⟩
set_option maxHeartbeats 4000000 in
set_option maxRecDepth 100000 in
theorem bad_at25 (c : UrlC) (w : World) (h : specialS (bl c.scheme) = true) (hp : c.port = 25) :
    Calls Tryz.prog 16 #[.agg c.cells.toArray] w fun e w' => e = .returned (.bool true) ∧ Hid (Bel w w') := by
  have HB := Lib.hid (box_bel w c)
  rw [noC_val, hp] at HB ⊢
  have HSP := Lib.hid h
  clear h
  go_enter Tryz.func16, Tryz.ntmps16
  go_wp2_with (first | (go_at_call 35; go_must (refine (url_Special _ _).mono ?_); rintro e w' ⟨rfl, rfl⟩; rw [HSP.out]))
  go_ret
  exact ⟨rfl, HB⟩
set_option maxHeartbeats 4000000 in
set_option maxRecDepth 100000 in
theorem bad_at37 (c : UrlC) (w : World) (h : specialS (bl c.scheme) = true) (hp : c.port = 37) :
    Calls Tryz.prog 16 #[.agg c.cells.toArray] w fun e w' => e = .returned (.bool true) ∧ Hid (Bel w w') := by
  have HB := Lib.hid (box_bel w c)
  rw [noC_val, hp] at HB ⊢
  have HSP := Lib.hid h
  clear h
  go_enter Tryz.func16, Tryz.ntmps16
  go_wp2_with (first | (go_at_call 35; go_must (refine (url_Special _ _).mono ?_); rintro e w' ⟨rfl, rfl⟩; rw [HSP.out]))
  go_ret
  exact ⟨rfl, HB⟩
set_option maxHeartbeats 4000000 in
set_option maxRecDepth 100000 in
theorem bad_at42 (c : UrlC) (w : World) (h : specialS (bl c.scheme) = true) (hp : c.port = 42) :
    Calls Tryz.prog 16 #[.agg c.cells.toArray] w fun e w' => e = .returned (.bool true) ∧ Hid (Bel w w') := by
  have HB := Lib.hid (box_bel w c)
  rw [noC_val, hp] at HB ⊢
  have HSP := Lib.hid h
  clear h
  go_enter Tryz.func16, Tryz.ntmps16
  go_wp2_with (first | (go_at_call 35; go_must (refine (url_Special _ _).mono ?_); rintro e w' ⟨rfl, rfl⟩; rw [HSP.out]))
  go_ret
  exact ⟨rfl, HB⟩
set_option maxHeartbeats 4000000 in
set_option maxRecDepth 100000 in
theorem bad_at43 (c : UrlC) (w : World) (h : specialS (bl c.scheme) = true) (hp : c.port = 43) :
    Calls Tryz.prog 16 #[.agg c.cells.toArray] w fun e w' => e = .returned (.bool true) ∧ Hid (Bel w w') := by
  have HB := Lib.hid (box_bel w c)
  rw [noC_val, hp] at HB ⊢
  have HSP := Lib.hid h
  clear h
  go_enter Tryz.func16, Tryz.ntmps16
  go_wp2_with (first | (go_at_call 35; go_must (refine (url_Special _ _).mono ?_); rintro e w' ⟨rfl, rfl⟩; rw [HSP.out]))
  go_ret
  exact ⟨rfl, HB⟩
set_option maxHeartbeats 4000000 in
set_option maxRecDepth 100000 in
theorem bad_at53 (c : UrlC) (w : World) (h : specialS (bl c.scheme) = true) (hp : c.port = 53) :
    Calls Tryz.prog 16 #[.agg c.cells.toArray] w fun e w' => e = .returned (.bool true) ∧ Hid (Bel w w') := by
  have HB := Lib.hid (box_bel w c)
  rw [noC_val, hp] at HB ⊢
  have HSP := Lib.hid h
  clear h
  go_enter Tryz.func16, Tryz.ntmps16
  go_wp2_with (first | (go_at_call 35; go_must (refine (url_Special _ _).mono ?_); rintro e w' ⟨rfl, rfl⟩; rw [HSP.out]))
  go_ret
  exact ⟨rfl, HB⟩
set_option maxHeartbeats 4000000 in
set_option maxRecDepth 100000 in
theorem bad_at69 (c : UrlC) (w : World) (h : specialS (bl c.scheme) = true) (hp : c.port = 69) :
    Calls Tryz.prog 16 #[.agg c.cells.toArray] w fun e w' => e = .returned (.bool true) ∧ Hid (Bel w w') := by
  have HB := Lib.hid (box_bel w c)
  rw [noC_val, hp] at HB ⊢
  have HSP := Lib.hid h
  clear h
  go_enter Tryz.func16, Tryz.ntmps16
  go_wp2_with (first | (go_at_call 35; go_must (refine (url_Special _ _).mono ?_); rintro e w' ⟨rfl, rfl⟩; rw [HSP.out]))
  go_ret
  exact ⟨rfl, HB⟩
set_option maxHeartbeats 4000000 in
set_option maxRecDepth 100000 in
theorem bad_at77 (c : UrlC) (w : World) (h : specialS (bl c.scheme) = true) (hp : c.port = 77) :
    Calls Tryz.prog 16 #[.agg c.cells.toArray] w fun e w' => e = .returned (.bool true) ∧ Hid (Bel w w') := by
  have HB := Lib.hid (box_bel w c)
  rw [noC_val, hp] at HB ⊢
  have HSP := Lib.hid h
  clear h
  go_enter Tryz.func16, Tryz.ntmps16
  go_wp2_with (first | (go_at_call 35; go_must (refine (url_Special _ _).mono ?_); rintro e w' ⟨rfl, rfl⟩; rw [HSP.out]))
  go_ret
  exact ⟨rfl, HB⟩
set_option maxHeartbeats 4000000 in
set_option maxRecDepth 100000 in
theorem bad_at79 (c : UrlC) (w : World) (h : specialS (bl c.scheme) = true) (hp : c.port = 79) :
    Calls Tryz.prog 16 #[.agg c.cells.toArray] w fun e w' => e = .returned (.bool true) ∧ Hid (Bel w w') := by
  have HB := Lib.hid (box_bel w c)
  rw [noC_val, hp] at HB ⊢
  have HSP := Lib.hid h
  clear h
  go_enter Tryz.func16, Tryz.ntmps16
  go_wp2_with (first | (go_at_call 35; go_must (refine (url_Special _ _).mono ?_); rintro e w' ⟨rfl, rfl⟩; rw [HSP.out]))
  go_ret
  exact ⟨rfl, HB⟩
set_option maxHeartbeats 4000000 in
set_option maxRecDepth 100000 in
theorem bad_at87 (c : UrlC) (w : World) (h : specialS (bl c.scheme) = true) (hp : c.port = 87) :
    Calls Tryz.prog 16 #[.agg c.cells.toArray] w fun e w' => e = .returned (.bool true) ∧ Hid (Bel w w') := by
  have HB := Lib.hid (box_bel w c)
  rw [noC_val, hp] at HB ⊢
  have HSP := Lib.hid h
  clear h
  go_enter Tryz.func16, Tryz.ntmps16
  go_wp2_with (first | (go_at_call 35; go_must (refine (url_Special _ _).mono ?_); rintro e w' ⟨rfl, rfl⟩; rw [HSP.out]))
  go_ret
  exact ⟨rfl, HB⟩
set_option maxHeartbeats 4000000 in
set_option maxRecDepth 100000 in
theorem bad_at95 (c : UrlC) (w : World) (h : specialS (bl c.scheme) = true) (hp : c.port = 95) :
    Calls Tryz.prog 16 #[.agg c.cells.toArray] w fun e w' => e = .returned (.bool true) ∧ Hid (Bel w w') := by
  have HB := Lib.hid (box_bel w c)
  rw [noC_val, hp] at HB ⊢
  have HSP := Lib.hid h
  clear h
  go_enter Tryz.func16, Tryz.ntmps16
  go_wp2_with (first | (go_at_call 35; go_must (refine (url_Special _ _).mono ?_); rintro e w' ⟨rfl, rfl⟩; rw [HSP.out]))
  go_ret
  exact ⟨rfl, HB⟩
set_option maxHeartbeats 4000000 in
set_option maxRecDepth 100000 in
theorem bad_at101 (c : UrlC) (w : World) (h : specialS (bl c.scheme) = true) (hp : c.port = 101) :
    Calls Tryz.prog 16 #[.agg c.cells.toArray] w fun e w' => e = .returned (.bool true) ∧ Hid (Bel w w') := by
  have HB := Lib.hid (box_bel w c)
  rw [noC_val, hp] at HB ⊢
  have HSP := Lib.hid h
  clear h
  go_enter Tryz.func16, Tryz.ntmps16
  go_wp2_with (first | (go_at_call 35; go_must (refine (url_Special _ _).mono ?_); rintro e w' ⟨rfl, rfl⟩; rw [HSP.out]))
  go_ret
  exact ⟨rfl, HB⟩
set_option maxHeartbeats 4000000 in
set_option maxRecDepth 100000 in
theorem bad_at102 (c : UrlC) (w : World) (h : specialS (bl c.scheme) = true) (hp : c.port = 102) :
    Calls Tryz.prog 16 #[.agg c.cells.toArray] w fun e w' => e = .returned (.bool true) ∧ Hid (Bel w w') := by
  have HB := Lib.hid (box_bel w c)
  rw [noC_val, hp] at HB ⊢
  have HSP := Lib.hid h
  clear h
  go_enter Tryz.func16, Tryz.ntmps16
  go_wp2_with (first | (go_at_call 35; go_must (refine (url_Special _ _).mono ?_); rintro e w' ⟨rfl, rfl⟩; rw [HSP.out]))
  go_ret
  exact ⟨rfl, HB⟩
set_option maxHeartbeats 4000000 in
set_option maxRecDepth 100000 in
theorem bad_at103 (c : UrlC) (w : World) (h : specialS (bl c.scheme) = true) (hp : c.port = 103) :
    Calls Tryz.prog 16 #[.agg c.cells.toArray] w fun e w' => e = .returned (.bool true) ∧ Hid (Bel w w') := by
  have HB := Lib.hid (box_bel w c)
  rw [noC_val, hp] at HB ⊢
  have HSP := Lib.hid h
  clear h
  go_enter Tryz.func16, Tryz.ntmps16
  go_wp2_with (first | (go_at_call 35; go_must (refine (url_Special _ _).mono ?_); rintro e w' ⟨rfl, rfl⟩; rw [HSP.out]))
  go_ret
  exact ⟨rfl, HB⟩
set_option maxHeartbeats 4000000 in
set_option maxRecDepth 100000 in
theorem bad_at104 (c : UrlC) (w : World) (h : specialS (bl c.scheme) = true) (hp : c.port = 104) :
    Calls Tryz.prog 16 #[.agg c.cells.toArray] w fun e w' => e = .returned (.bool true) ∧ Hid (Bel w w') := by
  have HB := Lib.hid (box_bel w c)
  rw [noC_val, hp] at HB ⊢
  have HSP := Lib.hid h
  clear h
  go_enter Tryz.func16, Tryz.ntmps16
  go_wp2_with (first | (go_at_call 35; go_must (refine (url_Special _ _).mono ?_); rintro e w' ⟨rfl, rfl⟩; rw [HSP.out]))
  go_ret
  exact ⟨rfl, HB⟩
set_option maxHeartbeats 4000000 in
set_option maxRecDepth 100000 in
theorem bad_at109 (c : UrlC) (w : World) (h : specialS (bl c.scheme) = true) (hp : c.port = 109) :
    Calls Tryz.prog 16 #[.agg c.cells.toArray] w fun e w' => e = .returned (.bool true) ∧ Hid (Bel w w') := by
  have HB := Lib.hid (box_bel w c)
  rw [noC_val, hp] at HB ⊢
  have HSP := Lib.hid h
  clear h
  go_enter Tryz.func16, Tryz.ntmps16
  go_wp2_with (first | (go_at_call 35; go_must (refine (url_Special _ _).mono ?_); rintro e w' ⟨rfl, rfl⟩; rw [HSP.out]))
  go_ret
  exact ⟨rfl, HB⟩
set_option maxHeartbeats 4000000 in
set_option maxRecDepth 100000 in
theorem bad_at110 (c : UrlC) (w : World) (h : specialS (bl c.scheme) = true) (hp : c.port = 110) :
    Calls Tryz.prog 16 #[.agg c.cells.toArray] w fun e w' => e = .returned (.bool true) ∧ Hid (Bel w w') := by
  have HB := Lib.hid (box_bel w c)
  rw [noC_val, hp] at HB ⊢
  have HSP := Lib.hid h
  clear h
  go_enter Tryz.func16, Tryz.ntmps16
  go_wp2_with (first | (go_at_call 35; go_must (refine (url_Special _ _).mono ?_); rintro e w' ⟨rfl, rfl⟩; rw [HSP.out]))
  go_ret
  exact ⟨rfl, HB⟩
set_option maxHeartbeats 4000000 in
set_option maxRecDepth 100000 in
theorem bad_at111 (c : UrlC) (w : World) (h : specialS (bl c.scheme) = true) (hp : c.port = 111) :
    Calls Tryz.prog 16 #[.agg c.cells.toArray] w fun e w' => e = .returned (.bool true) ∧ Hid (Bel w w') := by
  have HB := Lib.hid (box_bel w c)
  rw [noC_val, hp] at HB ⊢
  have HSP := Lib.hid h
  clear h
  go_enter Tryz.func16, Tryz.ntmps16
  go_wp2_with (first | (go_at_call 35; go_must (refine (url_Special _ _).mono ?_); rintro e w' ⟨rfl, rfl⟩; rw [HSP.out]))
  go_ret
  exact ⟨rfl, HB⟩
set_option maxHeartbeats 4000000 in
set_option maxRecDepth 100000 in
theorem bad_at113 (c : UrlC) (w : World) (h : specialS (bl c.scheme) = true) (hp : c.port = 113) :
    Calls Tryz.prog 16 #[.agg c.cells.toArray] w fun e w' => e = .returned (.bool true) ∧ Hid (Bel w w') := by
  have HB := Lib.hid (box_bel w c)
  rw [noC_val, hp] at HB ⊢
  have HSP := Lib.hid h
  clear h
  go_enter Tryz.func16, Tryz.ntmps16
  go_wp2_with (first | (go_at_call 35; go_must (refine (url_Special _ _).mono ?_); rintro e w' ⟨rfl, rfl⟩; rw [HSP.out]))
  go_ret
  exact ⟨rfl, HB⟩
set_option maxHeartbeats 4000000 in
set_option maxRecDepth 100000 in
theorem bad_at115 (c : UrlC) (w : World) (h : specialS (bl c.scheme) = true) (hp : c.port = 115) :
    Calls Tryz.prog 16 #[.agg c.cells.toArray] w fun e w' => e = .returned (.bool true) ∧ Hid (Bel w w') := by
  have HB := Lib.hid (box_bel w c)
  rw [noC_val, hp] at HB ⊢
  have HSP := Lib.hid h
  clear h
  go_enter Tryz.func16, Tryz.ntmps16
  go_wp2_with (first | (go_at_call 35; go_must (refine (url_Special _ _).mono ?_); rintro e w' ⟨rfl, rfl⟩; rw [HSP.out]))
  go_ret
  exact ⟨rfl, HB⟩
set_option maxHeartbeats 4000000 in
set_option maxRecDepth 100000 in
theorem bad_at117 (c : UrlC) (w : World) (h : specialS (bl c.scheme) = true) (hp : c.port = 117) :
    Calls Tryz.prog 16 #[.agg c.cells.toArray] w fun e w' => e = .returned (.bool true) ∧ Hid (Bel w w') := by
  have HB := Lib.hid (box_bel w c)
  rw [noC_val, hp] at HB ⊢
  have HSP := Lib.hid h
  clear h
  go_enter Tryz.func16, Tryz.ntmps16
  go_wp2_with (first | (go_at_call 35; go_must (refine (url_Special _ _).mono ?_); rintro e w' ⟨rfl, rfl⟩; rw [HSP.out]))
  go_ret
  exact ⟨rfl, HB⟩
set_option maxHeartbeats 4000000 in
set_option maxRecDepth 100000 in
theorem bad_at119 (c : UrlC) (w : World) (h : specialS (bl c.scheme) = true) (hp : c.port = 119) :
    Calls Tryz.prog 16 #[.agg c.cells.toArray] w fun e w' => e = .returned (.bool true) ∧ Hid (Bel w w') := by
  have HB := Lib.hid (box_bel w c)
  rw [noC_val, hp] at HB ⊢
  have HSP := Lib.hid h
  clear h
  go_enter Tryz.func16, Tryz.ntmps16
  go_wp2_with (first | (go_at_call 35; go_must (refine (url_Special _ _).mono ?_); rintro e w' ⟨rfl, rfl⟩; rw [HSP.out]))
  go_ret
  exact ⟨rfl, HB⟩
set_option maxHeartbeats 4000000 in
set_option maxRecDepth 100000 in
theorem bad_at123 (c : UrlC) (w : World) (h : specialS (bl c.scheme) = true) (hp : c.port = 123) :
    Calls Tryz.prog 16 #[.agg c.cells.toArray] w fun e w' => e = .returned (.bool true) ∧ Hid (Bel w w') := by
  have HB := Lib.hid (box_bel w c)
  rw [noC_val, hp] at HB ⊢
  have HSP := Lib.hid h
  clear h
  go_enter Tryz.func16, Tryz.ntmps16
  go_wp2_with (first | (go_at_call 35; go_must (refine (url_Special _ _).mono ?_); rintro e w' ⟨rfl, rfl⟩; rw [HSP.out]))
  go_ret
  exact ⟨rfl, HB⟩
set_option maxHeartbeats 4000000 in
set_option maxRecDepth 100000 in
theorem bad_at135 (c : UrlC) (w : World) (h : specialS (bl c.scheme) = true) (hp : c.port = 135) :
    Calls Tryz.prog 16 #[.agg c.cells.toArray] w fun e w' => e = .returned (.bool true) ∧ Hid (Bel w w') := by
  have HB := Lib.hid (box_bel w c)
  rw [noC_val, hp] at HB ⊢
  have HSP := Lib.hid h
  clear h
  go_enter Tryz.func16, Tryz.ntmps16
  go_wp2_with (first | (go_at_call 35; go_must (refine (url_Special _ _).mono ?_); rintro e w' ⟨rfl, rfl⟩; rw [HSP.out]))
  go_ret
  exact ⟨rfl, HB⟩
set_option maxHeartbeats 4000000 in
set_option maxRecDepth 100000 in
theorem bad_at137 (c : UrlC) (w : World) (h : specialS (bl c.scheme) = true) (hp : c.port = 137) :
    Calls Tryz.prog 16 #[.agg c.cells.toArray] w fun e w' => e = .returned (.bool true) ∧ Hid (Bel w w') := by
  have HB := Lib.hid (box_bel w c)
  rw [noC_val, hp] at HB ⊢
  have HSP := Lib.hid h
  clear h
  go_enter Tryz.func16, Tryz.ntmps16
  go_wp2_with (first | (go_at_call 35; go_must (refine (url_Special _ _).mono ?_); rintro e w' ⟨rfl, rfl⟩; rw [HSP.out]))
  go_ret
  exact ⟨rfl, HB⟩
set_option maxHeartbeats 4000000 in
set_option maxRecDepth 100000 in
theorem bad_at139 (c : UrlC) (w : World) (h : specialS (bl c.scheme) = true) (hp : c.port = 139) :
    Calls Tryz.prog 16 #[.agg c.cells.toArray] w fun e w' => e = .returned (.bool true) ∧ Hid (Bel w w') := by
  have HB := Lib.hid (box_bel w c)
  rw [noC_val, hp] at HB ⊢
  have HSP := Lib.hid h
  clear h
  go_enter Tryz.func16, Tryz.ntmps16
  go_wp2_with (first | (go_at_call 35; go_must (refine (url_Special _ _).mono ?_); rintro e w' ⟨rfl, rfl⟩; rw [HSP.out]))
  go_ret
  exact ⟨rfl, HB⟩
set_option maxHeartbeats 4000000 in
set_option maxRecDepth 100000 in
theorem bad_at143 (c : UrlC) (w : World) (h : specialS (bl c.scheme) = true) (hp : c.port = 143) :
    Calls Tryz.prog 16 #[.agg c.cells.toArray] w fun e w' => e = .returned (.bool true) ∧ Hid (Bel w w') := by
  have HB := Lib.hid (box_bel w c)
  rw [noC_val, hp] at HB ⊢
  have HSP := Lib.hid h
  clear h
  go_enter Tryz.func16, Tryz.ntmps16
  go_wp2_with (first | (go_at_call 35; go_must (refine (url_Special _ _).mono ?_); rintro e w' ⟨rfl, rfl⟩; rw [HSP.out]))
  go_ret
  exact ⟨rfl, HB⟩
set_option maxHeartbeats 4000000 in
set_option maxRecDepth 100000 in
theorem bad_at161 (c : UrlC) (w : World) (h : specialS (bl c.scheme) = true) (hp : c.port = 161) :
    Calls Tryz.prog 16 #[.agg c.cells.toArray] w fun e w' => e = .returned (.bool true) ∧ Hid (Bel w w') := by
  have HB := Lib.hid (box_bel w c)
  rw [noC_val, hp] at HB ⊢
  have HSP := Lib.hid h
  clear h
  go_enter Tryz.func16, Tryz.ntmps16
  go_wp2_with (first | (go_at_call 35; go_must (refine (url_Special _ _).mono ?_); rintro e w' ⟨rfl, rfl⟩; rw [HSP.out]))
  go_ret
  exact ⟨rfl, HB⟩
set_option maxHeartbeats 4000000 in
set_option maxRecDepth 100000 in
theorem bad_at179 (c : UrlC) (w : World) (h : specialS (bl c.scheme) = true) (hp : c.port = 179) :
    Calls Tryz.prog 16 #[.agg c.cells.toArray] w fun e w' => e = .returned (.bool true) ∧ Hid (Bel w w') := by
  have HB := Lib.hid (box_bel w c)
  rw [noC_val, hp] at HB ⊢
  have HSP := Lib.hid h
  clear h
  go_enter Tryz.func16, Tryz.ntmps16
  go_wp2_with (first | (go_at_call 35; go_must (refine (url_Special _ _).mono ?_); rintro e w' ⟨rfl, rfl⟩; rw [HSP.out]))
  go_ret
  exact ⟨rfl, HB⟩
set_option maxHeartbeats 4000000 in
set_option maxRecDepth 100000 in
theorem bad_at389 (c : UrlC) (w : World) (h : specialS (bl c.scheme) = true) (hp : c.port = 389) :
    Calls Tryz.prog 16 #[.agg c.cells.toArray] w fun e w' => e = .returned (.bool true) ∧ Hid (Bel w w') := by
  have HB := Lib.hid (box_bel w c)
  rw [noC_val, hp] at HB ⊢
  have HSP := Lib.hid h
  clear h
  go_enter Tryz.func16, Tryz.ntmps16
  go_wp2_with (first | (go_at_call 35; go_must (refine (url_Special _ _).mono ?_); rintro e w' ⟨rfl, rfl⟩; rw [HSP.out]))
  go_ret
  exact ⟨rfl, HB⟩
set_option maxHeartbeats 4000000 in
set_option maxRecDepth 100000 in
theorem bad_at427 (c : UrlC) (w : World) (h : specialS (bl c.scheme) = true) (hp : c.port = 427) :
    Calls Tryz.prog 16 #[.agg c.cells.toArray] w fun e w' => e = .returned (.bool true) ∧ Hid (Bel w w') := by
  have HB := Lib.hid (box_bel w c)
  rw [noC_val, hp] at HB ⊢
  have HSP := Lib.hid h
  clear h
  go_enter Tryz.func16, Tryz.ntmps16
  go_wp2_with (first | (go_at_call 35; go_must (refine (url_Special _ _).mono ?_); rintro e w' ⟨rfl, rfl⟩; rw [HSP.out]))
  go_ret
  exact ⟨rfl, HB⟩
set_option maxHeartbeats 4000000 in
set_option maxRecDepth 100000 in
theorem bad_at465 (c : UrlC) (w : World) (h : specialS (bl c.scheme) = true) (hp : c.port = 465) :
    Calls Tryz.prog 16 #[.agg c.cells.toArray] w fun e w' => e = .returned (.bool true) ∧ Hid (Bel w w') := by
  have HB := Lib.hid (box_bel w c)
  rw [noC_val, hp] at HB ⊢
  have HSP := Lib.hid h
  clear h
  go_enter Tryz.func16, Tryz.ntmps16
  go_wp2_with (first | (go_at_call 35; go_must (refine (url_Special _ _).mono ?_); rintro e w' ⟨rfl, rfl⟩; rw [HSP.out]))
  go_ret
  exact ⟨rfl, HB⟩
set_option maxHeartbeats 4000000 in
set_option maxRecDepth 100000 in
theorem bad_at512 (c : UrlC) (w : World) (h : specialS (bl c.scheme) = true) (hp : c.port = 512) :
    Calls Tryz.prog 16 #[.agg c.cells.toArray] w fun e w' => e = .returned (.bool true) ∧ Hid (Bel w w') := by
  have HB := Lib.hid (box_bel w c)
  rw [noC_val, hp] at HB ⊢
  have HSP := Lib.hid h
  clear h
  go_enter Tryz.func16, Tryz.ntmps16
  go_wp2_with (first | (go_at_call 35; go_must (refine (url_Special _ _).mono ?_); rintro e w' ⟨rfl, rfl⟩; rw [HSP.out]))
  go_ret
  exact ⟨rfl, HB⟩
set_option maxHeartbeats 4000000 in
set_option maxRecDepth 100000 in
theorem bad_at513 (c : UrlC) (w : World) (h : specialS (bl c.scheme) = true) (hp : c.port = 513) :
    Calls Tryz.prog 16 #[.agg c.cells.toArray] w fun e w' => e = .returned (.bool true) ∧ Hid (Bel w w') := by
  have HB := Lib.hid (box_bel w c)
  rw [noC_val, hp] at HB ⊢
  have HSP := Lib.hid h
  clear h
  go_enter Tryz.func16, Tryz.ntmps16
  go_wp2_with (first | (go_at_call 35; go_must (refine (url_Special _ _).mono ?_); rintro e w' ⟨rfl, rfl⟩; rw [HSP.out]))
  go_ret
  exact ⟨rfl, HB⟩
set_option maxHeartbeats 4000000 in
set_option maxRecDepth 100000 in
theorem bad_at514 (c : UrlC) (w : World) (h : specialS (bl c.scheme) = true) (hp : c.port = 514) :
    Calls Tryz.prog 16 #[.agg c.cells.toArray] w fun e w' => e = .returned (.bool true) ∧ Hid (Bel w w') := by
  have HB := Lib.hid (box_bel w c)
  rw [noC_val, hp] at HB ⊢
  have HSP := Lib.hid h
  clear h
  go_enter Tryz.func16, Tryz.ntmps16
  go_wp2_with (first | (go_at_call 35; go_must (refine (url_Special _ _).mono ?_); rintro e w' ⟨rfl, rfl⟩; rw [HSP.out]))
  go_ret
  exact ⟨rfl, HB⟩
set_option maxHeartbeats 4000000 in
set_option maxRecDepth 100000 in
theorem bad_at515 (c : UrlC) (w : World) (h : specialS (bl c.scheme) = true) (hp : c.port = 515) :
    Calls Tryz.prog 16 #[.agg c.cells.toArray] w fun e w' => e = .returned (.bool true) ∧ Hid (Bel w w') := by
  have HB := Lib.hid (box_bel w c)
  rw [noC_val, hp] at HB ⊢
  have HSP := Lib.hid h
  clear h
  go_enter Tryz.func16, Tryz.ntmps16
  go_wp2_with (first | (go_at_call 35; go_must (refine (url_Special _ _).mono ?_); rintro e w' ⟨rfl, rfl⟩; rw [HSP.out]))
  go_ret
  exact ⟨rfl, HB⟩
set_option maxHeartbeats 4000000 in
set_option maxRecDepth 100000 in
theorem bad_at526 (c : UrlC) (w : World) (h : specialS (bl c.scheme) = true) (hp : c.port = 526) :
    Calls Tryz.prog 16 #[.agg c.cells.toArray] w fun e w' => e = .returned (.bool true) ∧ Hid (Bel w w') := by
  have HB := Lib.hid (box_bel w c)
  rw [noC_val, hp] at HB ⊢
  have HSP := Lib.hid h
  clear h
  go_enter Tryz.func16, Tryz.ntmps16
  go_wp2_with (first | (go_at_call 35; go_must (refine (url_Special _ _).mono ?_); rintro e w' ⟨rfl, rfl⟩; rw [HSP.out]))
  go_ret
  exact ⟨rfl, HB⟩
set_option maxHeartbeats 4000000 in
set_option maxRecDepth 100000 in
theorem bad_at530 (c : UrlC) (w : World) (h : specialS (bl c.scheme) = true) (hp : c.port = 530) :
    Calls Tryz.prog 16 #[.agg c.cells.toArray] w fun e w' => e = .returned (.bool true) ∧ Hid (Bel w w') := by
  have HB := Lib.hid (box_bel w c)
  rw [noC_val, hp] at HB ⊢
  have HSP := Lib.hid h
  clear h
  go_enter Tryz.func16, Tryz.ntmps16
  go_wp2_with (first | (go_at_call 35; go_must (refine (url_Special _ _).mono ?_); rintro e w' ⟨rfl, rfl⟩; rw [HSP.out]))
  go_ret
  exact ⟨rfl, HB⟩
set_option maxHeartbeats 4000000 in
set_option maxRecDepth 100000 in
theorem bad_at531 (c : UrlC) (w : World) (h : specialS (bl c.scheme) = true) (hp : c.port = 531) :
    Calls Tryz.prog 16 #[.agg c.cells.toArray] w fun e w' => e = .returned (.bool true) ∧ Hid (Bel w w') := by
  have HB := Lib.hid (box_bel w c)
  rw [noC_val, hp] at HB ⊢
  have HSP := Lib.hid h
  clear h
  go_enter Tryz.func16, Tryz.ntmps16
  go_wp2_with (first | (go_at_call 35; go_must (refine (url_Special _ _).mono ?_); rintro e w' ⟨rfl, rfl⟩; rw [HSP.out]))
  go_ret
  exact ⟨rfl, HB⟩
set_option maxHeartbeats 4000000 in
set_option maxRecDepth 100000 in
theorem bad_at532 (c : UrlC) (w : World) (h : specialS (bl c.scheme) = true) (hp : c.port = 532) :
    Calls Tryz.prog 16 #[.agg c.cells.toArray] w fun e w' => e = .returned (.bool true) ∧ Hid (Bel w w') := by
  have HB := Lib.hid (box_bel w c)
  rw [noC_val, hp] at HB ⊢
  have HSP := Lib.hid h
  clear h
  go_enter Tryz.func16, Tryz.ntmps16
  go_wp2_with (first | (go_at_call 35; go_must (refine (url_Special _ _).mono ?_); rintro e w' ⟨rfl, rfl⟩; rw [HSP.out]))
  go_ret
  exact ⟨rfl, HB⟩
end Go.Proofs.YtbpkkgaaeodimaaGreatDoor
