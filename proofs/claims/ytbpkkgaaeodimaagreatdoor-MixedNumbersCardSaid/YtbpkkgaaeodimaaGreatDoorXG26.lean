import Derived.Test.YtbpkkgaaeodimaaGreatDoorXG24
import Derived.Test.YtbpkkgaaeodimaaGreatDoorXG25
namespace Go.Proofs.YtbpkkgaaeodimaaGreatDoor
open Go.RowKit

set_option maxHeartbeats 4000000 in
set_option maxRecDepth 100000 in
theorem bad_at540 (c : UrlC) (w : World) (h : specialS (bl c.scheme) = true) (hp : c.port = 540) :
    Calls Tryz.prog 16 #[.agg c.cells.toArray] w fun e w' => e = .returned (.bool true) ∧ Hid (Bel w w') := by
  have HB := Lib.hid (box_bel w c)
  rw [noC_val, hp] at HB ⊢
  have HSP := Lib.hid h
  clear h
  go_enter Tryz.func16, Tryz.ntmps16
  go_wp2_with (first | (go_at_call 35; go_must (refine (url_Special _ _).mono ?_); rintro e w' ⟨rfl, rfl⟩; rw [HSP.out]))
  go_ret
  exact ⟨rfl, HB⟩
set_option maxHeartbeats 4000000 in
set_option maxRecDepth 100000 in
theorem bad_at548 (c : UrlC) (w : World) (h : specialS (bl c.scheme) = true) (hp : c.port = 548) :
    Calls Tryz.prog 16 #[.agg c.cells.toArray] w fun e w' => e = .returned (.bool true) ∧ Hid (Bel w w') := by
  have HB := Lib.hid (box_bel w c)
  rw [noC_val, hp] at HB ⊢
  have HSP := Lib.hid h
  clear h
  go_enter Tryz.func16, Tryz.ntmps16
  go_wp2_with (first | (go_at_call 35; go_must (refine (url_Special _ _).mono ?_); rintro e w' ⟨rfl, rfl⟩; rw [HSP.out]))
  go_ret
  exact ⟨rfl, HB⟩
set_option maxHeartbeats 4000000 in
set_option maxRecDepth 100000 in
theorem bad_at554 (c : UrlC) (w : World) (h : specialS (bl c.scheme) = true) (hp : c.port = 554) :
    Calls Tryz.prog 16 #[.agg c.cells.toArray] w fun e w' => e = .returned (.bool true) ∧ Hid (Bel w w') := by
  have HB := Lib.hid (box_bel w c)
  rw [noC_val, hp] at HB ⊢
  have HSP := Lib.hid h
  clear h
  go_enter Tryz.func16, Tryz.ntmps16
  go_wp2_with (first | (go_at_call 35; go_must (refine (url_Special _ _).mono ?_); rintro e w' ⟨rfl, rfl⟩; rw [HSP.out]))
  go_ret
  exact ⟨rfl, HB⟩
set_option maxHeartbeats 4000000 in
set_option maxRecDepth 100000 in
theorem bad_at556 (c : UrlC) (w : World) (h : specialS (bl c.scheme) = true) (hp : c.port = 556) :
    Calls Tryz.prog 16 #[.agg c.cells.toArray] w fun e w' => e = .returned (.bool true) ∧ Hid (Bel w w') := by
  have HB := Lib.hid (box_bel w c)
  rw [noC_val, hp] at HB ⊢
  have HSP := Lib.hid h
  clear h
  go_enter Tryz.func16, Tryz.ntmps16
  go_wp2_with (first | (go_at_call 35; go_must (refine (url_Special _ _).mono ?_); rintro e w' ⟨rfl, rfl⟩; rw [HSP.out]))
  go_ret
  exact ⟨rfl, HB⟩
set_option maxHeartbeats 4000000 in
set_option maxRecDepth 100000 in
theorem bad_at563 (c : UrlC) (w : World) (h : specialS (bl c.scheme) = true) (hp : c.port = 563) :
    Calls Tryz.prog 16 #[.agg c.cells.toArray] w fun e w' => e = .returned (.bool true) ∧ Hid (Bel w w') := by
  have HB := Lib.hid (box_bel w c)
  rw [noC_val, hp] at HB ⊢
  have HSP := Lib.hid h
  clear h
  go_enter Tryz.func16, Tryz.ntmps16
  go_wp2_with (first | (go_at_call 35; go_must (refine (url_Special _ _).mono ?_); rintro e w' ⟨rfl, rfl⟩; rw [HSP.out]))
  go_ret
  exact ⟨rfl, HB⟩
set_option maxHeartbeats 4000000 in
set_option maxRecDepth 100000 in
theorem bad_at587 (c : UrlC) (w : World) (h : specialS (bl c.scheme) = true) (hp : c.port = 587) :
    Calls Tryz.prog 16 #[.agg c.cells.toArray] w fun e w' => e = .returned (.bool true) ∧ Hid (Bel w w') := by
  have HB := Lib.hid (box_bel w c)
  rw [noC_val, hp] at HB ⊢
  have HSP := Lib.hid h
  clear h
  go_enter Tryz.func16, Tryz.ntmps16
  go_wp2_with (first | (go_at_call 35; go_must (refine (url_Special _ _).mono ?_); rintro e w' ⟨rfl, rfl⟩; rw [HSP.out]))
  go_ret
  exact ⟨rfl, HB⟩
set_option maxHeartbeats 4000000 in
set_option maxRecDepth 100000 in
theorem bad_at601 (c : UrlC) (w : World) (h : specialS (bl c.scheme) = true) (hp : c.port = 601) :
    Calls Tryz.prog 16 #[.agg c.cells.toArray] w fun e w' => e = .returned (.bool true) ∧ Hid (Bel w w') := by
  have HB := Lib.hid (box_bel w c)
  rw [noC_val, hp] at HB ⊢
  have HSP := Lib.hid h
  clear h
  go_enter Tryz.func16, Tryz.ntmps16
  go_wp2_with (first | (go_at_call 35; go_must (refine (url_Special _ _).mono ?_); rintro e w' ⟨rfl, rfl⟩; rw [HSP.out]))
  go_ret
  exact ⟨rfl, HB⟩
set_option maxHeartbeats 4000000 in
set_option maxRecDepth 100000 in
theorem bad_at636 (c : UrlC) (w : World) (h : specialS (bl c.scheme) = true) (hp : c.port = 636) :
    Calls Tryz.prog 16 #[.agg c.cells.toArray] w fun e w' => e = .returned (.bool true) ∧ Hid (Bel w w') := by
  have HB := Lib.hid (box_bel w c)
  rw [noC_val, hp] at HB ⊢
  have HSP := Lib.hid h
  clear h
  go_enter Tryz.func16, Tryz.ntmps16
  go_wp2_with (first | (go_at_call 35; go_must (refine (url_Special _ _).mono ?_); rintro e w' ⟨rfl, rfl⟩; rw [HSP.out]))
  go_ret
  exact ⟨rfl, HB⟩
set_option maxHeartbeats 4000000 in
set_option maxRecDepth 100000 in
theorem bad_at989 (c : UrlC) (w : World) (h : specialS (bl c.scheme) = true) (hp : c.port = 989) :
    Calls Tryz.prog 16 #[.agg c.cells.toArray] w fun e w' => e = .returned (.bool true) ∧ Hid (Bel w w') := by
  have HB := Lib.hid (box_bel w c)
  rw [noC_val, hp] at HB ⊢
  have HSP := Lib.hid h
  clear h
  go_enter Tryz.func16, Tryz.ntmps16
  go_wp2_with (first | (go_at_call 35; go_must (refine (url_Special _ _).mono ?_); rintro e w' ⟨rfl, rfl⟩; rw [HSP.out]))
  go_ret
  exact ⟨rfl, HB⟩
set_option maxHeartbeats 4000000 in
set_option maxRecDepth 100000 in
theorem bad_at990 (c : UrlC) (w : World) (h : specialS (bl c.scheme) = true) (hp : c.port = 990) :
    Calls Tryz.prog 16 #[.agg c.cells.toArray] w fun e w' => e = .returned (.bool true) ∧ Hid (Bel w w') := by
  have HB := Lib.hid (box_bel w c)
  rw [noC_val, hp] at HB ⊢
  have HSP := Lib.hid h
  clear h
  go_enter Tryz.func16, Tryz.ntmps16
  go_wp2_with (first | (go_at_call 35; go_must (refine (url_Special _ _).mono ?_); rintro e w' ⟨rfl, rfl⟩; rw [HSP.out]))
  go_ret
  exact ⟨rfl, HB⟩
set_option maxHeartbeats 4000000 in
set_option maxRecDepth 100000 in
theorem bad_at993 (c : UrlC) (w : World) (h : specialS (bl c.scheme) = true) (hp : c.port = 993) :
    Calls Tryz.prog 16 #[.agg c.cells.toArray] w fun e w' => e = .returned (.bool true) ∧ Hid (Bel w w') := by
  have HB := Lib.hid (box_bel w c)
  rw [noC_val, hp] at HB ⊢
  have HSP := Lib.hid h
  clear h
  go_enter Tryz.func16, Tryz.ntmps16
  go_wp2_with (first | (go_at_call 35; go_must (refine (url_Special _ _).mono ?_); rintro e w' ⟨rfl, rfl⟩; rw [HSP.out]))
  go_ret
  exact ⟨rfl, HB⟩
set_option maxHeartbeats 4000000 in
set_option maxRecDepth 100000 in
theorem bad_at995 (c : UrlC) (w : World) (h : specialS (bl c.scheme) = true) (hp : c.port = 995) :
    Calls Tryz.prog 16 #[.agg c.cells.toArray] w fun e w' => e = .returned (.bool true) ∧ Hid (Bel w w') := by
  have HB := Lib.hid (box_bel w c)
  rw [noC_val, hp] at HB ⊢
  have HSP := Lib.hid h
  clear h
  go_enter Tryz.func16, Tryz.ntmps16
  go_wp2_with (first | (go_at_call 35; go_must (refine (url_Special _ _).mono ?_); rintro e w' ⟨rfl, rfl⟩; rw [HSP.out]))
  go_ret
  exact ⟨rfl, HB⟩
set_option maxHeartbeats 4000000 in
set_option maxRecDepth 100000 in
theorem bad_at1719 (c : UrlC) (w : World) (h : specialS (bl c.scheme) = true) (hp : c.port = 1719) :
    Calls Tryz.prog 16 #[.agg c.cells.toArray] w fun e w' => e = .returned (.bool true) ∧ Hid (Bel w w') := by
  have HB := Lib.hid (box_bel w c)
  rw [noC_val, hp] at HB ⊢
  have HSP := Lib.hid h
  clear h
  go_enter Tryz.func16, Tryz.ntmps16
  go_wp2_with (first | (go_at_call 35; go_must (refine (url_Special _ _).mono ?_); rintro e w' ⟨rfl, rfl⟩; rw [HSP.out]))
  go_ret
  exact ⟨rfl, HB⟩
set_option maxHeartbeats 4000000 in
set_option maxRecDepth 100000 in
theorem bad_at1720 (c : UrlC) (w : World) (h : specialS (bl c.scheme) = true) (hp : c.port = 1720) :
    Calls Tryz.prog 16 #[.agg c.cells.toArray] w fun e w' => e = .returned (.bool true) ∧ Hid (Bel w w') := by
  have HB := Lib.hid (box_bel w c)
  rw [noC_val, hp] at HB ⊢
  have HSP := Lib.hid h
  clear h
  go_enter Tryz.func16, Tryz.ntmps16
  go_wp2_with (first | (go_at_call 35; go_must (refine (url_Special _ _).mono ?_); rintro e w' ⟨rfl, rfl⟩; rw [HSP.out]))
  go_ret
  exact ⟨rfl, HB⟩
set_option maxHeartbeats 4000000 in
set_option maxRecDepth 100000 in
theorem bad_at1723 (c : UrlC) (w : World) (h : specialS (bl c.scheme) = true) (hp : c.port = 1723) :
    Calls Tryz.prog 16 #[.agg c.cells.toArray] w fun e w' => e = .returned (.bool true) ∧ Hid (Bel w w') := by
  have HB := Lib.hid (box_bel w c)
  rw [noC_val, hp] at HB ⊢
  have HSP := Lib.hid h
  clear h
  go_enter Tryz.func16, Tryz.ntmps16
  go_wp2_with (first | (go_at_call 35; go_must (refine (url_Special _ _).mono ?_); rintro e w' ⟨rfl, rfl⟩; rw [HSP.out]))
  go_ret
  exact ⟨rfl, HB⟩
set_option maxHeartbeats 4000000 in
set_option maxRecDepth 100000 in
theorem bad_at2049 (c : UrlC) (w : World) (h : specialS (bl c.scheme) = true) (hp : c.port = 2049) :
    Calls Tryz.prog 16 #[.agg c.cells.toArray] w fun e w' => e = .returned (.bool true) ∧ Hid (Bel w w') := by
  have HB := Lib.hid (box_bel w c)
  rw [noC_val, hp] at HB ⊢
  have HSP := Lib.hid h
  clear h
  go_enter Tryz.func16, Tryz.ntmps16
  go_wp2_with (first | (go_at_call 35; go_must (refine (url_Special _ _).mono ?_); rintro e w' ⟨rfl, rfl⟩; rw [HSP.out]))
  go_ret
  exact ⟨rfl, HB⟩
set_option maxHeartbeats 4000000 in
set_option maxRecDepth 100000 in
theorem bad_at3659 (c : UrlC) (w : World) (h : specialS (bl c.scheme) = true) (hp : c.port = 3659) :
    Calls Tryz.prog 16 #[.agg c.cells.toArray] w fun e w' => e = .returned (.bool true) ∧ Hid (Bel w w') := by
  have HB := Lib.hid (box_bel w c)
  rw [noC_val, hp] at HB ⊢
  have HSP := Lib.hid h
  clear h
  go_enter Tryz.func16, Tryz.ntmps16
  go_wp2_with (first | (go_at_call 35; go_must (refine (url_Special _ _).mono ?_); rintro e w' ⟨rfl, rfl⟩; rw [HSP.out]))
  go_ret
  exact ⟨rfl, HB⟩
set_option maxHeartbeats 4000000 in
set_option maxRecDepth 100000 in
theorem bad_at4045 (c : UrlC) (w : World) (h : specialS (bl c.scheme) = true) (hp : c.port = 4045) :
    Calls Tryz.prog 16 #[.agg c.cells.toArray] w fun e w' => e = .returned (.bool true) ∧ Hid (Bel w w') := by
  have HB := Lib.hid (box_bel w c)
  rw [noC_val, hp] at HB ⊢
  have HSP := Lib.hid h
  clear h
  go_enter Tryz.func16, Tryz.ntmps16
  go_wp2_with (first | (go_at_call 35; go_must (refine (url_Special _ _).mono ?_); rintro e w' ⟨rfl, rfl⟩; rw [HSP.out]))
  go_ret
  exact ⟨rfl, HB⟩
set_option maxHeartbeats 4000000 in
set_option maxRecDepth 100000 in
theorem bad_at4190 (c : UrlC) (w : World) (h : specialS (bl c.scheme) = true) (hp : c.port = 4190) :
    Calls Tryz.prog 16 #[.agg c.cells.toArray] w fun e w' => e = .returned (.bool true) ∧ Hid (Bel w w') := by
  have HB := Lib.hid (box_bel w c)
  rw [noC_val, hp] at HB ⊢
  have HSP := Lib.hid h
  clear h
  go_enter Tryz.func16, Tryz.ntmps16
  go_wp2_with (first | (go_at_call 35; go_must (refine (url_Special _ _).mono ?_); rintro e w' ⟨rfl, rfl⟩; rw [HSP.out]))
  go_ret
  exact ⟨rfl, HB⟩
set_option maxHeartbeats 4000000 in
set_option maxRecDepth 100000 in
theorem bad_at5060 (c : UrlC) (w : World) (h : specialS (bl c.scheme) = true) (hp : c.port = 5060) :
    Calls Tryz.prog 16 #[.agg c.cells.toArray] w fun e w' => e = .returned (.bool true) ∧ Hid (Bel w w') := by
  have HB := Lib.hid (box_bel w c)
  rw [noC_val, hp] at HB ⊢
  have HSP := Lib.hid h
  clear h
  go_enter Tryz.func16, Tryz.ntmps16
  go_wp2_with (first | (go_at_call 35; go_must (refine (url_Special _ _).mono ?_); rintro e w' ⟨rfl, rfl⟩; rw [HSP.out]))
  go_ret
  exact ⟨rfl, HB⟩
set_option maxHeartbeats 4000000 in
set_option maxRecDepth 100000 in
theorem bad_at5061 (c : UrlC) (w : World) (h : specialS (bl c.scheme) = true) (hp : c.port = 5061) :
    Calls Tryz.prog 16 #[.agg c.cells.toArray] w fun e w' => e = .returned (.bool true) ∧ Hid (Bel w w') := by
  have HB := Lib.hid (box_bel w c)
  rw [noC_val, hp] at HB ⊢
  have HSP := Lib.hid h
  clear h
  go_enter Tryz.func16, Tryz.ntmps16
  go_wp2_with (first | (go_at_call 35; go_must (refine (url_Special _ _).mono ?_); rintro e w' ⟨rfl, rfl⟩; rw [HSP.out]))
  go_ret
  exact ⟨rfl, HB⟩
set_option maxHeartbeats 4000000 in
set_option maxRecDepth 100000 in
theorem bad_at6000 (c : UrlC) (w : World) (h : specialS (bl c.scheme) = true) (hp : c.port = 6000) :
    Calls Tryz.prog 16 #[.agg c.cells.toArray] w fun e w' => e = .returned (.bool true) ∧ Hid (Bel w w') := by
  have HB := Lib.hid (box_bel w c)
  rw [noC_val, hp] at HB ⊢
  have HSP := Lib.hid h
  clear h
  go_enter Tryz.func16, Tryz.ntmps16
  go_wp2_with (first | (go_at_call 35; go_must (refine (url_Special _ _).mono ?_); rintro e w' ⟨rfl, rfl⟩; rw [HSP.out]))
  go_ret
  exact ⟨rfl, HB⟩
set_option maxHeartbeats 4000000 in
set_option maxRecDepth 100000 in
theorem bad_at6566 (c : UrlC) (w : World) (h : specialS (bl c.scheme) = true) (hp : c.port = 6566) :
    Calls Tryz.prog 16 #[.agg c.cells.toArray] w fun e w' => e = .returned (.bool true) ∧ Hid (Bel w w') := by
  have HB := Lib.hid (box_bel w c)
  rw [noC_val, hp] at HB ⊢
  have HSP := Lib.hid h
  clear h
  go_enter Tryz.func16, Tryz.ntmps16
  go_wp2_with (first | (go_at_call 35; go_must (refine (url_Special _ _).mono ?_); rintro e w' ⟨rfl, rfl⟩; rw [HSP.out]))
  go_ret
  exact ⟨rfl, HB⟩
set_option maxHeartbeats 4000000 in
set_option maxRecDepth 100000 in
theorem bad_at6665 (c : UrlC) (w : World) (h : specialS (bl c.scheme) = true) (hp : c.port = 6665) :
    Calls Tryz.prog 16 #[.agg c.cells.toArray] w fun e w' => e = .returned (.bool true) ∧ Hid (Bel w w') := by
  have HB := Lib.hid (box_bel w c)
  rw [noC_val, hp] at HB ⊢
  have HSP := Lib.hid h
  clear h
  go_enter Tryz.func16, Tryz.ntmps16
  go_wp2_with (first | (go_at_call 35; go_must (refine (url_Special _ _).mono ?_); rintro e w' ⟨rfl, rfl⟩; rw [HSP.out]))
  go_ret
  exact ⟨rfl, HB⟩
set_option maxHeartbeats 4000000 in
set_option maxRecDepth 100000 in
theorem bad_at6666 (c : UrlC) (w : World) (h : specialS (bl c.scheme) = true) (hp : c.port = 6666) :
    Calls Tryz.prog 16 #[.agg c.cells.toArray] w fun e w' => e = .returned (.bool true) ∧ Hid (Bel w w') := by
  have HB := Lib.hid (box_bel w c)
  rw [noC_val, hp] at HB ⊢
  have HSP := Lib.hid h
  clear h
  go_enter Tryz.func16, Tryz.ntmps16
  go_wp2_with (first | (go_at_call 35; go_must (refine (url_Special _ _).mono ?_); rintro e w' ⟨rfl, rfl⟩; rw [HSP.out]))
  go_ret
  exact ⟨rfl, HB⟩
set_option maxHeartbeats 4000000 in
set_option maxRecDepth 100000 in
theorem bad_at6667 (c : UrlC) (w : World) (h : specialS (bl c.scheme) = true) (hp : c.port = 6667) :
    Calls Tryz.prog 16 #[.agg c.cells.toArray] w fun e w' => e = .returned (.bool true) ∧ Hid (Bel w w') := by
  have HB := Lib.hid (box_bel w c)
  rw [noC_val, hp] at HB ⊢
  have HSP := Lib.hid h
  clear h
  go_enter Tryz.func16, Tryz.ntmps16
  go_wp2_with (first | (go_at_call 35; go_must (refine (url_Special _ _).mono ?_); rintro e w' ⟨rfl, rfl⟩; rw [HSP.out]))
  go_ret
  exact ⟨rfl, HB⟩
set_option maxHeartbeats 4000000 in
set_option maxRecDepth 100000 in
theorem bad_at6668 (c : UrlC) (w : World) (h : specialS (bl c.scheme) = true) (hp : c.port = 6668) :
    Calls Tryz.prog 16 #[.agg c.cells.toArray] w fun e w' => e = .returned (.bool true) ∧ Hid (Bel w w') := by
  have HB := Lib.hid (box_bel w c)
  rw [noC_val, hp] at HB ⊢
  have HSP := Lib.hid h
  clear h
  go_enter Tryz.func16, Tryz.ntmps16
  go_wp2_with (first | (go_at_call 35; go_must (refine (url_Special _ _).mono ?_); rintro e w' ⟨rfl, rfl⟩; rw [HSP.out]))
  go_ret
  exact ⟨rfl, HB⟩
set_option maxHeartbeats 4000000 in
set_option maxRecDepth 100000 in
theorem bad_at6669 (c : UrlC) (w : World) (h : specialS (bl c.scheme) = true) (hp : c.port = 6669) :
    Calls Tryz.prog 16 #[.agg c.cells.toArray] w fun e w' => e = .returned (.bool true) ∧ Hid (Bel w w') := by
  have HB := Lib.hid (box_bel w c)
  rw [noC_val, hp] at HB ⊢
  have HSP := Lib.hid h
  clear h
  go_enter Tryz.func16, Tryz.ntmps16
  go_wp2_with (first | (go_at_call 35; go_must (refine (url_Special _ _).mono ?_); rintro e w' ⟨rfl, rfl⟩; rw [HSP.out]))
  go_ret
  exact ⟨rfl, HB⟩
set_option maxHeartbeats 4000000 in
set_option maxRecDepth 100000 in
theorem bad_at6679 (c : UrlC) (w : World) (h : specialS (bl c.scheme) = true) (hp : c.port = 6679) :
    Calls Tryz.prog 16 #[.agg c.cells.toArray] w fun e w' => e = .returned (.bool true) ∧ Hid (Bel w w') := by
  have HB := Lib.hid (box_bel w c)
  rw [noC_val, hp] at HB ⊢
  have HSP := Lib.hid h
  clear h
  go_enter Tryz.func16, Tryz.ntmps16
  go_wp2_with (first | (go_at_call 35; go_must (refine (url_Special _ _).mono ?_); rintro e w' ⟨rfl, rfl⟩; rw [HSP.out]))
  go_ret
  exact ⟨rfl, HB⟩
set_option maxHeartbeats 4000000 in
set_option maxRecDepth 100000 in
theorem bad_at6697 (c : UrlC) (w : World) (h : specialS (bl c.scheme) = true) (hp : c.port = 6697) :
    Calls Tryz.prog 16 #[.agg c.cells.toArray] w fun e w' => e = .returned (.bool true) ∧ Hid (Bel w w') := by
  have HB := Lib.hid (box_bel w c)
  rw [noC_val, hp] at HB ⊢
  have HSP := Lib.hid h
  clear h
  go_enter Tryz.func16, Tryz.ntmps16
  go_wp2_with (first | (go_at_call 35; go_must (refine (url_Special _ _).mono ?_); rintro e w' ⟨rfl, rfl⟩; rw [HSP.out]))
  go_ret
  exact ⟨rfl, HB⟩
set_option maxHeartbeats 4000000 in
set_option maxRecDepth 100000 in
theorem bad_at10080 (c : UrlC) (w : World) (h : specialS (bl c.scheme) = true) (hp : c.port = 10080) :
    Calls Tryz.prog 16 #[.agg c.cells.toArray] w fun e w' => e = .returned (.bool true) ∧ Hid (Bel w w') := by
  have HB := Lib.hid (box_bel w c)
  rw [noC_val, hp] at HB ⊢
  have HSP := Lib.hid h
  clear h
  go_enter Tryz.func16, Tryz.ntmps16
  go_wp2_with (first | (go_at_call 35; go_must (refine (url_Special _ _).mono ?_); rintro e w' ⟨rfl, rfl⟩; rw [HSP.out]))
  go_ret
  exact ⟨rfl, HB⟩
end Go.Proofs.YtbpkkgaaeodimaaGreatDoor
namespace Go.Proofs.YtbpkkgaaeodimaaGreatDoor
open Go.RowKit

set_option maxHeartbeats 8000000 in
set_option maxRecDepth 100000 in
theorem bad_not (c : UrlC) (w : World) (h : specialS (bl c.scheme) = true) (hm : (c.port == -1) = false)
    (h0 : (c.port == 0) = false)
    (h1 : (c.port == 1) = false)
    (h7 : (c.port == 7) = false)
    (h9 : (c.port == 9) = false)
    (h11 : (c.port == 11) = false)
    (h13 : (c.port == 13) = false)
    (h15 : (c.port == 15) = false)
    (h17 : (c.port == 17) = false)
    (h19 : (c.port == 19) = false)
    (h20 : (c.port == 20) = false)
    (h21 : (c.port == 21) = false)
    (h22 : (c.port == 22) = false)
    (h23 : (c.port == 23) = false)
    (h25 : (c.port == 25) = false)
    (h37 : (c.port == 37) = false)
    (h42 : (c.port == 42) = false)
    (h43 : (c.port == 43) = false)
    (h53 : (c.port == 53) = false)
    (h69 : (c.port == 69) = false)
    (h77 : (c.port == 77) = false)
    (h79 : (c.port == 79) = false)
    (h87 : (c.port == 87) = false)
    (h95 : (c.port == 95) = false)
    (h101 : (c.port == 101) = false)
    (h102 : (c.port == 102) = false)
    (h103 : (c.port == 103) = false)
    (h104 : (c.port == 104) = false)
    (h109 : (c.port == 109) = false)
    (h110 : (c.port == 110) = false)
    (h111 : (c.port == 111) = false)
    (h113 : (c.port == 113) = false)
    (h115 : (c.port == 115) = false)
    (h117 : (c.port == 117) = false)
    (h119 : (c.port == 119) = false)
    (h123 : (c.port == 123) = false)
    (h135 : (c.port == 135) = false)
    (h137 : (c.port == 137) = false)
    (h139 : (c.port == 139) = false)
    (h143 : (c.port == 143) = false)
    (h161 : (c.port == 161) = false)
    (h179 : (c.port == 179) = false)
    (h389 : (c.port == 389) = false)
    (h427 : (c.port == 427) = false)
    (h465 : (c.port == 465) = false)
    (h512 : (c.port == 512) = false)
    (h513 : (c.port == 513) = false)
    (h514 : (c.port == 514) = false)
    (h515 : (c.port == 515) = false)
    (h526 : (c.port == 526) = false)
    (h530 : (c.port == 530) = false)
    (h531 : (c.port == 531) = false)
    (h532 : (c.port == 532) = false)
    (h540 : (c.port == 540) = false)
    (h548 : (c.port == 548) = false)
    (h554 : (c.port == 554) = false)
    (h556 : (c.port == 556) = false)
    (h563 : (c.port == 563) = false)
    (h587 : (c.port == 587) = false)
    (h601 : (c.port == 601) = false)
    (h636 : (c.port == 636) = false)
    (h989 : (c.port == 989) = false)
    (h990 : (c.port == 990) = false)
    (h993 : (c.port == 993) = false)
    (h995 : (c.port == 995) = false)
    (h1719 : (c.port == 1719) = false)
    (h1720 : (c.port == 1720) = false)
    (h1723 : (c.port == 1723) = false)
    (h2049 : (c.port == 2049) = false)
    (h3659 : (c.port == 3659) = false)
    (h4045 : (c.port == 4045) = false)
    (h4190 : (c.port == 4190) = false)
    (h5060 : (c.port == 5060) = false)
    (h5061 : (c.port == 5061) = false)
    (h6000 : (c.port == 6000) = false)
    (h6566 : (c.port == 6566) = false)
    (h6665 : (c.port == 6665) = false)
    (h6666 : (c.port == 6666) = false)
    (h6667 : (c.port == 6667) = false)
    (h6668 : (c.port == 6668) = false)
    (h6669 : (c.port == 6669) = false)
    (h6679 : (c.port == 6679) = false)
    (h6697 : (c.port == 6697) = false)
    (h10080 : (c.port == 10080) = false) :
    Calls Tryz.prog 16 #[.agg c.cells.toArray] w fun e w' => e = .returned (.bool false) ∧ Hid (Bel w w') := by
  have HB := Lib.hid (box_bel w c)
  rw [noC_val] at HB ⊢
  have HSP := Lib.hid h
  clear h
  go_enter Tryz.func16, Tryz.ntmps16
  go_wp2_with (first | (go_at_call 35; go_must (refine (url_Special _ _).mono ?_); rintro e w' ⟨rfl, rfl⟩; rw [HSP.out]))
  go_ret
  exact ⟨rfl, HB⟩
theorem mixed_Bad (c : UrlC) (w : World) (h : specialS (bl c.scheme) = true) (hm : c.port ≠ -1) :
    Calls Tryz.prog 16 #[.agg c.cells.toArray] w fun e w' => e = .returned (.bool (badPorts.contains c.port)) ∧ Hid (Bel w w') := by
  by_cases h0 : c.port = 0
  · rw [h0]
    exact bad_at0 c w h h0
  by_cases h1 : c.port = 1
  · rw [h1]
    exact bad_at1 c w h h1
  by_cases h7 : c.port = 7
  · rw [h7]
    exact bad_at7 c w h h7
  by_cases h9 : c.port = 9
  · rw [h9]
    exact bad_at9 c w h h9
  by_cases h11 : c.port = 11
  · rw [h11]
    exact bad_at11 c w h h11
  by_cases h13 : c.port = 13
  · rw [h13]
    exact bad_at13 c w h h13
  by_cases h15 : c.port = 15
  · rw [h15]
    exact bad_at15 c w h h15
  by_cases h17 : c.port = 17
  · rw [h17]
    exact bad_at17 c w h h17
  by_cases h19 : c.port = 19
  · rw [h19]
    exact bad_at19 c w h h19
  by_cases h20 : c.port = 20
  · rw [h20]
    exact bad_at20 c w h h20
  by_cases h21 : c.port = 21
  · rw [h21]
    exact bad_at21 c w h h21
  by_cases h22 : c.port = 22
  · rw [h22]
    exact bad_at22 c w h h22
  by_cases h23 : c.port = 23
  · rw [h23]
    exact bad_at23 c w h h23
  by_cases h25 : c.port = 25
  · rw [h25]
    exact bad_at25 c w h h25
  by_cases h37 : c.port = 37
  · rw [h37]
    exact bad_at37 c w h h37
  by_cases h42 : c.port = 42
  · rw [h42]
    exact bad_at42 c w h h42
  by_cases h43 : c.port = 43
  · rw [h43]
    exact bad_at43 c w h h43
  by_cases h53 : c.port = 53
  · rw [h53]
    exact bad_at53 c w h h53
  by_cases h69 : c.port = 69
  · rw [h69]
    exact bad_at69 c w h h69
  by_cases h77 : c.port = 77
  · rw [h77]
    exact bad_at77 c w h h77
  by_cases h79 : c.port = 79
  · rw [h79]
    exact bad_at79 c w h h79
  by_cases h87 : c.port = 87
  · rw [h87]
    exact bad_at87 c w h h87
  by_cases h95 : c.port = 95
  · rw [h95]
    exact bad_at95 c w h h95
  by_cases h101 : c.port = 101
  · rw [h101]
    exact bad_at101 c w h h101
  by_cases h102 : c.port = 102
  · rw [h102]
    exact bad_at102 c w h h102
  by_cases h103 : c.port = 103
  · rw [h103]
    exact bad_at103 c w h h103
  by_cases h104 : c.port = 104
  · rw [h104]
    exact bad_at104 c w h h104
  by_cases h109 : c.port = 109
  · rw [h109]
    exact bad_at109 c w h h109
  by_cases h110 : c.port = 110
  · rw [h110]
    exact bad_at110 c w h h110
  by_cases h111 : c.port = 111
  · rw [h111]
    exact bad_at111 c w h h111
  by_cases h113 : c.port = 113
  · rw [h113]
    exact bad_at113 c w h h113
  by_cases h115 : c.port = 115
  · rw [h115]
    exact bad_at115 c w h h115
  by_cases h117 : c.port = 117
  · rw [h117]
    exact bad_at117 c w h h117
  by_cases h119 : c.port = 119
  · rw [h119]
    exact bad_at119 c w h h119
  by_cases h123 : c.port = 123
  · rw [h123]
    exact bad_at123 c w h h123
  by_cases h135 : c.port = 135
  · rw [h135]
    exact bad_at135 c w h h135
  by_cases h137 : c.port = 137
  · rw [h137]
    exact bad_at137 c w h h137
  by_cases h139 : c.port = 139
  · rw [h139]
    exact bad_at139 c w h h139
  by_cases h143 : c.port = 143
  · rw [h143]
    exact bad_at143 c w h h143
  by_cases h161 : c.port = 161
  · rw [h161]
    exact bad_at161 c w h h161
  by_cases h179 : c.port = 179
  · rw [h179]
    exact bad_at179 c w h h179
  by_cases h389 : c.port = 389
  · rw [h389]
    exact bad_at389 c w h h389
  by_cases h427 : c.port = 427
  · rw [h427]
    exact bad_at427 c w h h427
  by_cases h465 : c.port = 465
  · rw [h465]
    exact bad_at465 c w h h465
  by_cases h512 : c.port = 512
  · rw [h512]
    exact bad_at512 c w h h512
  by_cases h513 : c.port = 513
  · rw [h513]
    exact bad_at513 c w h h513
  by_cases h514 : c.port = 514
  · rw [h514]
    exact bad_at514 c w h h514
  by_cases h515 : c.port = 515
  · rw [h515]
    exact bad_at515 c w h h515
  by_cases h526 : c.port = 526
  · rw [h526]
    exact bad_at526 c w h h526
  by_cases h530 : c.port = 530
  · rw [h530]
    exact bad_at530 c w h h530
  by_cases h531 : c.port = 531
  · rw [h531]
    exact bad_at531 c w h h531
  by_cases h532 : c.port = 532
  · rw [h532]
    exact bad_at532 c w h h532
  by_cases h540 : c.port = 540
  · rw [h540]
    exact bad_at540 c w h h540
  by_cases h548 : c.port = 548
  · rw [h548]
    exact bad_at548 c w h h548
  by_cases h554 : c.port = 554
  · rw [h554]
    exact bad_at554 c w h h554
  by_cases h556 : c.port = 556
  · rw [h556]
    exact bad_at556 c w h h556
  by_cases h563 : c.port = 563
  · rw [h563]
    exact bad_at563 c w h h563
  by_cases h587 : c.port = 587
  · rw [h587]
    exact bad_at587 c w h h587
  by_cases h601 : c.port = 601
  · rw [h601]
    exact bad_at601 c w h h601
  by_cases h636 : c.port = 636
  · rw [h636]
    exact bad_at636 c w h h636
  by_cases h989 : c.port = 989
  · rw [h989]
    exact bad_at989 c w h h989
  by_cases h990 : c.port = 990
  · rw [h990]
    exact bad_at990 c w h h990
  by_cases h993 : c.port = 993
  · rw [h993]
    exact bad_at993 c w h h993
  by_cases h995 : c.port = 995
  · rw [h995]
    exact bad_at995 c w h h995
  by_cases h1719 : c.port = 1719
  · rw [h1719]
    exact bad_at1719 c w h h1719
  by_cases h1720 : c.port = 1720
  · rw [h1720]
    exact bad_at1720 c w h h1720
  by_cases h1723 : c.port = 1723
  · rw [h1723]
    exact bad_at1723 c w h h1723
  by_cases h2049 : c.port = 2049
  · rw [h2049]
    exact bad_at2049 c w h h2049
  by_cases h3659 : c.port = 3659
  · rw [h3659]
    exact bad_at3659 c w h h3659
  by_cases h4045 : c.port = 4045
  · rw [h4045]
    exact bad_at4045 c w h h4045
  by_cases h4190 : c.port = 4190
  · rw [h4190]
    exact bad_at4190 c w h h4190
  by_cases h5060 : c.port = 5060
  · rw [h5060]
    exact bad_at5060 c w h h5060
  by_cases h5061 : c.port = 5061
  · rw [h5061]
    exact bad_at5061 c w h h5061
  by_cases h6000 : c.port = 6000
  · rw [h6000]
    exact bad_at6000 c w h h6000
  by_cases h6566 : c.port = 6566
  · rw [h6566]
    exact bad_at6566 c w h h6566
  by_cases h6665 : c.port = 6665
  · rw [h6665]
    exact bad_at6665 c w h h6665
  by_cases h6666 : c.port = 6666
  · rw [h6666]
    exact bad_at6666 c w h h6666
  by_cases h6667 : c.port = 6667
  · rw [h6667]
    exact bad_at6667 c w h h6667
  by_cases h6668 : c.port = 6668
  · rw [h6668]
    exact bad_at6668 c w h h6668
  by_cases h6669 : c.port = 6669
  · rw [h6669]
    exact bad_at6669 c w h h6669
  by_cases h6679 : c.port = 6679
  · rw [h6679]
    exact bad_at6679 c w h h6679
  by_cases h6697 : c.port = 6697
  · rw [h6697]
    exact bad_at6697 c w h h6697
  by_cases h10080 : c.port = 10080
  · rw [h10080]
    exact bad_at10080 c w h h10080
  have e : badPorts.contains c.port = false := by
    rw [Bool.eq_false_iff]
    intro q
    have := List.contains_iff_mem.1 q
    simp only [badPorts, List.mem_cons, List.not_mem_nil, or_false] at this
    omega
  rw [e]
  exact bad_not c w h (beq_eq_false_iff_ne.2 hm) (beq_eq_false_iff_ne.2 h0) (beq_eq_false_iff_ne.2 h1) (beq_eq_false_iff_ne.2 h7) (beq_eq_false_iff_ne.2 h9) (beq_eq_false_iff_ne.2 h11) (beq_eq_false_iff_ne.2 h13) (beq_eq_false_iff_ne.2 h15) (beq_eq_false_iff_ne.2 h17) (beq_eq_false_iff_ne.2 h19) (beq_eq_false_iff_ne.2 h20) (beq_eq_false_iff_ne.2 h21) (beq_eq_false_iff_ne.2 h22) (beq_eq_false_iff_ne.2 h23) (beq_eq_false_iff_ne.2 h25) (beq_eq_false_iff_ne.2 h37) (beq_eq_false_iff_ne.2 h42) (beq_eq_false_iff_ne.2 h43) (beq_eq_false_iff_ne.2 h53) (beq_eq_false_iff_ne.2 h69) (beq_eq_false_iff_ne.2 h77) (beq_eq_false_iff_ne.2 h79) (beq_eq_false_iff_ne.2 h87) (beq_eq_false_iff_ne.2 h95) (beq_eq_false_iff_ne.2 h101) (beq_eq_false_iff_ne.2 h102) (beq_eq_false_iff_ne.2 h103) (beq_eq_false_iff_ne.2 h104) (beq_eq_false_iff_ne.2 h109) (beq_eq_false_iff_ne.2 h110) (beq_eq_false_iff_ne.2 h111) (beq_eq_false_iff_ne.2 h113) (beq_eq_false_iff_ne.2 h115) (beq_eq_false_iff_ne.2 h117) (beq_eq_false_iff_ne.2 h119) (beq_eq_false_iff_ne.2 h123) (beq_eq_false_iff_ne.2 h135) (beq_eq_false_iff_ne.2 h137) (beq_eq_false_iff_ne.2 h139) (beq_eq_false_iff_ne.2 h143) (beq_eq_false_iff_ne.2 h161) (beq_eq_false_iff_ne.2 h179) (beq_eq_false_iff_ne.2 h389) (beq_eq_false_iff_ne.2 h427) (beq_eq_false_iff_ne.2 h465) (beq_eq_false_iff_ne.2 h512) (beq_eq_false_iff_ne.2 h513) (beq_eq_false_iff_ne.2 h514) (beq_eq_false_iff_ne.2 h515) (beq_eq_false_iff_ne.2 h526) (beq_eq_false_iff_ne.2 h530) (beq_eq_false_iff_ne.2 h531) (beq_eq_false_iff_ne.2 h532) (beq_eq_false_iff_ne.2 h540) (beq_eq_false_iff_ne.2 h548) (beq_eq_false_iff_ne.2 h554) (beq_eq_false_iff_ne.2 h556) (beq_eq_false_iff_ne.2 h563) (beq_eq_false_iff_ne.2 h587) (beq_eq_false_iff_ne.2 h601) (beq_eq_false_iff_ne.2 h636) (beq_eq_false_iff_ne.2 h989) (beq_eq_false_iff_ne.2 h990) (beq_eq_false_iff_ne.2 h993) (beq_eq_false_iff_ne.2 h995) (beq_eq_false_iff_ne.2 h1719) (beq_eq_false_iff_ne.2 h1720) (beq_eq_false_iff_ne.2 h1723) (beq_eq_false_iff_ne.2 h2049) (beq_eq_false_iff_ne.2 h3659) (beq_eq_false_iff_ne.2 h4045) (beq_eq_false_iff_ne.2 h4190) (beq_eq_false_iff_ne.2 h5060) (beq_eq_false_iff_ne.2 h5061) (beq_eq_false_iff_ne.2 h6000) (beq_eq_false_iff_ne.2 h6566) (beq_eq_false_iff_ne.2 h6665) (beq_eq_false_iff_ne.2 h6666) (beq_eq_false_iff_ne.2 h6667) (beq_eq_false_iff_ne.2 h6668) (beq_eq_false_iff_ne.2 h6669) (beq_eq_false_iff_ne.2 h6679) (beq_eq_false_iff_ne.2 h6697) (beq_eq_false_iff_ne.2 h10080)
end Go.Proofs.YtbpkkgaaeodimaaGreatDoor
namespace Go.Proofs.YtbpkkgaaeodimaaGreatDoor
open Go.RowKit

/-! The document's bad ports. -/
set_option maxHeartbeats 1000000 in
set_option maxRecDepth 100000 in
theorem ref4_Port (c : UrlC) (w : World) (h : c.port ≠ -1) :
    Calls Tryz.prog 41 #[.agg c.cells.toArray] w fun e w' => e = .returned (.int .i64 c.port) ∧ Hid (Bel w w') := by
  have HB := Lib.hid (box_bel w c)
  have hq : (c.port == -1) = false := beq_eq_false_iff_ne.2 h
  rw [noC_val] at HB ⊢
  clear h
  go_enter Tryz.func41, Tryz.ntmps41
  go_wp2
  go_ret
  exact ⟨rfl, HB⟩
theorem ports_val : (badPorts.map (Value.int .i64)).toArray = #[.int .i64 0, .int .i64 1, .int .i64 7, .int .i64 9, .int .i64 11, .int .i64 13, .int .i64 15, .int .i64 17, .int .i64 19, .int .i64 20, .int .i64 21, .int .i64 22, .int .i64 23, .int .i64 25, .int .i64 37, .int .i64 42, .int .i64 43, .int .i64 53, .int .i64 69, .int .i64 77, .int .i64 79, .int .i64 87, .int .i64 95, .int .i64 101, .int .i64 102, .int .i64 103, .int .i64 104, .int .i64 109, .int .i64 110, .int .i64 111, .int .i64 113, .int .i64 115, .int .i64 117, .int .i64 119, .int .i64 123, .int .i64 135, .int .i64 137, .int .i64 139, .int .i64 143, .int .i64 161, .int .i64 179, .int .i64 389, .int .i64 427, .int .i64 465, .int .i64 512, .int .i64 513, .int .i64 514, .int .i64 515, .int .i64 526, .int .i64 530, .int .i64 531, .int .i64 532, .int .i64 540, .int .i64 548, .int .i64 554, .int .i64 556, .int .i64 563, .int .i64 587, .int .i64 601, .int .i64 636, .int .i64 989, .int .i64 990, .int .i64 993, .int .i64 995, .int .i64 1719, .int .i64 1720, .int .i64 1723, .int .i64 2049, .int .i64 3659, .int .i64 4045, .int .i64 4190, .int .i64 5060, .int .i64 5061, .int .i64 6000, .int .i64 6566, .int .i64 6665, .int .i64 6666, .int .i64 6667, .int .i64 6668, .int .i64 6669, .int .i64 6679, .int .i64 6697, .int .i64 10080] := rfl
theorem ports_len : badPorts.length = 83 := rfl
theorem port_seen {n : Int} {k : Nat} (h : ∀ j (hj : j < k) (hl : j < badPorts.length), badPorts[j] ≠ n) (hk : 83 ≤ k) : badPorts.contains n = false := by
  rw [Bool.eq_false_iff]
  intro e
  obtain ⟨j, hj, e2⟩ := List.getElem_of_mem (List.contains_iff_mem.1 e)
  exact h j (by rw [ports_len] at hj; omega) hj e2
set_option maxHeartbeats 2000000 in
set_option maxRecDepth 100000 in
theorem ref14_Bad (c : UrlC) (w : World) (h : bl c.scheme = httpS) (hp : c.port ≠ -1) :
    Calls Tryz.prog 17 #[.agg c.cells.toArray] w fun e w' => e = .returned (.bool (badPorts.contains c.port)) ∧ Hid (Bel w w') := by
  have HB := Lib.hid (box_bel w c)
  have HR0 : Hid (RowAt (w.alloc (.cells c.cells.toArray 24)) w.heap.size (c.cells ++ [])) := by unfold Hid; rw [List.append_nil]; exact RowAt.new w c.cells.toArray 24
  have HSP : Hid (specialS (bl c.scheme) = true) := by unfold Hid; rw [h]; decide
  have hf : (c.scheme.toList == ([102, 116, 112] : List UInt8)) = false := by rw [toList_bl, h]; decide
  have HPO := fun W => ref4_Port c W hp
  rw [noC_val] at HB HR0 HPO ⊢
  clear h hp
  go_enter Tryz.func17, Tryz.ntmps17
  go_wp2_with (first | (go_at_call 40; go_must (refine (ref3_Special _ _).mono ?_); rintro e w' ⟨rfl, rfl⟩; rw [HSP.out]) | (refine load_url rfl _ (by exact rfl) w.heap.size (by exact rfl) c [] HR0.out ?_) | (go_at_call 41; go_must (refine (HPO _).mono ?_); rintro e w1 ⟨rfl, HB1⟩))
  have HB2 : Hid (Bel w1 (w1.alloc (.cells (badPorts.map (Value.int .i64)).toArray 3))) := (Below.refl _ w1).alloc (Nat.le_refl _) _
  have HRD := Lib.hid (RdAt.alloc w1 (badPorts.map (Value.int .i64)) 3)
  have HB3 := Lib.hid (bel_trans (bel_trans HB.out HB1.out) HB2.out)
  rw [ports_val] at HRD HB3
  go_loopg [5] 83 (fun g v5 wr => ∃ k : Nat, v5 = .int .i64 k ∧ k + g = 83 ∧ Hid (∀ j (_ : j < k) (hl : j < badPorts.length), badPorts[j] ≠ c.port) ∧ Hid (RdAt wr w1.heap.size (badPorts.map (Value.int .i64))) ∧ Hid (Bel w wr))
  case atStart => exact ⟨0, rfl, rfl, fun j hj _ => absurd hj (Nat.not_lt_zero j), HRD, HB3⟩
  case round =>
    obtain ⟨k, rfl, hk, HN, HR, HBr⟩ := hrel
    clear HRD HB3 HB2 HB1 HB HR0
    by_cases hlt : k < 83
    · have hl : k < badPorts.length := hlt
      obtain ⟨q, hq⟩ : ∃ q, badPorts[k] = q := ⟨_, rfl⟩
      have hc : wr.cell? ⟨w1.heap.size, k, none⟩ = some (.int .i64 q) := HR.out.2 k _ (by rw [List.getElem?_map, List.getElem?_eq_getElem hl, hq]; rfl)
      have HQ := Lib.hid hq
      clear hq
      by_cases he : q = c.port
      · have he2 : (q == c.port) = true := by simpa using he
        have HX : Hid (badPorts.contains c.port = true) := by
          unfold Hid
          rw [List.contains_iff_mem, ← he, ← HQ.out]
          exact List.getElem_mem hl
        clear he
        go_wp2
        go_ret
        exact ⟨by first | (rw [HX.out]; rfl) | (have h := HX.out; rw [List.contains_eq_mem] at h; rw [h]; rfl), HBr⟩
      · have he2 : (q == c.port) = false := by simpa using he
        have HE := Lib.hid he
        clear he
        go_wp2
        go_roundg (gk - 1)
        case measure => omega
        case rel =>
          refine ⟨k + 1, by go_num, by omega, fun j hj hl2 => ?_, HR, HBr⟩
          by_cases hjk : j = k
          · subst hjk
            rw [HQ.out]; exact HE.out
          · exact HN.out j (by omega) hl2
    · have hge : ¬ (k : Int) < 83 := by omega
      have HX := Lib.hid (port_seen HN.out (by omega))
      go_wp2
      go_ret
      exact ⟨by first | (rw [HX.out]; rfl) | (have h := HX.out; rw [List.contains_eq_mem] at h; rw [h]; rfl), HBr⟩
end Go.Proofs.YtbpkkgaaeodimaaGreatDoor
