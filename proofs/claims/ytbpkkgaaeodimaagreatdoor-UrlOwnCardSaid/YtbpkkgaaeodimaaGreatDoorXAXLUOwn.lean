import Derived.Test.YtbpkkgaaeodimaaGreatDoorXG29
import Derived.StillTailTactics
namespace Go.Proofs.YtbpkkgaaeodimaaGreatDoor
open Go.RowKit

/-! The statement UrlOwn. -/
def ownP (s : List UInt8) (n : Nat) : Int := if (n : Int) = ownS s then -1 else (n : Int)
theorem own_u {s : List UInt8} (hs : s ∈ specials) (n : Nat) (hn : n ≤ 65535) : urlS (s ++ [58, 47, 47, 104, 58] ++ digs 10 n ++ [47]) = .ok (hUrl s (ownP s n) (pathS [] [47])) := by
  have hd := digs_len 10 (by omega) 11 n (by omega) (by omega)
  have e := url_hp (s := s) (P := digs 10 n) (p := []) hs (digs_bytes n) (by simp) (by simp; omega)
  rw [e]
  have h := portS_digs (s := s) n (by omega) [] (.inl rfl)
  rw [List.nil_append, if_pos hn] at h
  rw [h]; rfl
theorem own_v {s : List UInt8} (hs : s ∈ specials) : urlS (s ++ [58, 47, 47, 104, 58, 47]) = .ok (hUrl s (-1) (pathS [] [47])) := by
  have e := url_hp (s := s) (P := []) (p := []) hs (by simp) (by simp) (by simp)
  rw [show s ++ [58, 47, 47, 104, 58, 47] = s ++ [58, 47, 47, 104, 58] ++ [] ++ 47 :: [] by simp, e]
  rfl
theorem own_w {s : List UInt8} (hs : s ∈ specials) (n : Nat) (hn : n ≤ 65535) : urlS (s ++ [58, 47, 47, 104, 58, 48] ++ digs 10 n ++ [47]) = .ok (hUrl s (ownP s n) (pathS [] [47])) := by
  have hd := digs_len 10 (by omega) 11 n (by omega) (by omega)
  have e := url_hp (s := s) (P := [48] ++ digs 10 n) (p := []) hs (by
    intro x hx
    rcases List.mem_append.1 hx with h | h
    · rw [List.mem_singleton.1 h]; decide
    · exact digs_bytes n x h) (by simp) (by simp; omega)
  rw [show s ++ [58, 47, 47, 104, 58, 48] ++ digs 10 n ++ [47] = s ++ [58, 47, 47, 104, 58] ++ ([48] ++ digs 10 n) ++ 47 :: [] by simp, e]
  have h := portS_digs (s := s) n (by omega) [48] (.inr rfl)
  rw [if_pos hn] at h
  rw [h]; rfl
theorem own_no {s : List UInt8} (hs : s ∈ specials) (n : Nat) (hn : n ≤ 65535) : urlS (s ++ [58, 47, 47, 104, 58] ++ digs 10 (n + 65536) ++ [47]) = .error 11 := by
  have hd := digs_len 10 (by omega) 11 (n + 65536) (by omega) (by omega)
  have e := url_hp (s := s) (P := digs 10 (n + 65536)) (p := []) hs (digs_bytes _) (by simp) (by simp; omega)
  rw [e]
  have h := portS_digs (s := s) (n + 65536) (by omega) [] (.inl rfl)
  rw [List.nil_append, if_neg (by omega)] at h
  rw [h]
theorem own_ge {s : List UInt8} (hs : s ∈ specials) : 0 ≤ ownS s := by
  have h := (special_scheme hs).2.2.2.1
  unfold specialS at h
  exact of_decide_eq_true h
theorem five (w : World) (k : Nat) (hk : k ≤ 4) (W : World) (hW : W = w.alloc (.cells #[.string ⟨#[104, 116, 116, 112]⟩, .string ⟨#[104, 116, 116, 112, 115]⟩, .string ⟨#[119, 115]⟩, .string ⟨#[119, 115, 115]⟩, .string ⟨#[102, 116, 112]⟩] 9)) : ∃ S : ByteArray, W.cell? ⟨w.heap.size, k, none⟩ = some (.string S) ∧ bl S ∈ specials ∧ S.size ≤ 5 := by
  subst hW
  have h := (RowAt.new w #[.string ⟨#[104, 116, 116, 112]⟩, .string ⟨#[104, 116, 116, 112, 115]⟩, .string ⟨#[119, 115]⟩, .string ⟨#[119, 115, 115]⟩, .string ⟨#[102, 116, 112]⟩] 9).2
  match k, hk with
  | 0, _ => exact ⟨_, (h 0 _ rfl).1, by decide, by decide⟩
  | 1, _ => exact ⟨_, (h 1 _ rfl).1, by decide, by decide⟩
  | 2, _ => exact ⟨_, (h 2 _ rfl).1, by decide, by decide⟩
  | 3, _ => exact ⟨_, (h 3 _ rfl).1, by decide, by decide⟩
  | 4, _ => exact ⟨_, (h 4 _ rfl).1, by decide, by decide⟩
  | k + 5, hk => omega
theorem ownw_bel {w w' : World} {g : Nat} {P : Int} (h : Hid (Env w) ∧ w.cell? ⟨g, 5, none⟩ = some (.int .i64 P)) (hb : Hid (Bel w w')) : Hid (Env w') ∧ w'.cell? ⟨g, 5, none⟩ = some (.int .i64 P) := ⟨Lib.hid (h.1.out.bel hb.out), bel_cell hb.out h.2⟩
theorem ownw_env {w : World} {g : Nat} {P : Int} (h : Hid (Env w) ∧ w.cell? ⟨g, 5, none⟩ = some (.int .i64 P)) : Hid (Env w) := h.1
set_option maxHeartbeats 8000000 in
set_option maxRecDepth 100000 in
theorem law_UOwn (which port : Int) (w : World) (h1 : -9223372036854775808 ≤ which) (h2 : which ≤ 9223372036854775807) (h3 : -9223372036854775808 ≤ port) (h4 : port ≤ 9223372036854775807) (HE : Hid (Env w)) :
    Calls Tryz.prog 13 #[.int .i64 which, .int .i64 port] w fun e w' => e = .returned (.bool true) ∧ Hid (Bel w w') := by
  have HF := Lib.hid (fun k hk => five w k hk _ rfl)
  have HB0 : Hid (Bel w (w.alloc (.cells #[.string ⟨#[104, 116, 116, 112]⟩, .string ⟨#[104, 116, 116, 112, 115]⟩, .string ⟨#[119, 115]⟩, .string ⟨#[119, 115, 115]⟩, .string ⟨#[102, 116, 112]⟩] 9))) := (Below.refl _ w).alloc (Nat.le_refl _) _
  go_enter Tryz.func13, Tryz.ntmps13
  go_wp2_with fail
  generalize (w.alloc (.cells #[.string ⟨#[104, 116, 116, 112]⟩, .string ⟨#[104, 116, 116, 112, 115]⟩, .string ⟨#[119, 115]⟩, .string ⟨#[119, 115, 115]⟩, .string ⟨#[102, 116, 112]⟩] 9)) = w1 at *
  refine (law3_upto which 4 w1 h1 h2 (by decide)).mono ?_
  rintro e w2 ⟨⟨k, rfl, hk⟩, rfl⟩
  obtain ⟨S, hS, hsp, hsz⟩ := HF.out k hk
  have HSP := Lib.hid hsp
  have q1 : (k : Int) < 5 := by omega
  have q0 : (0 : Int) ≤ k := by omega
  clear hsp
  go_wp2_with fail
  clear hS q1 q0
  refine (law3_upto port 65535 w1 h3 h4 (by decide)).mono ?_
  rintro e w2 ⟨⟨n, rfl, hn⟩, rfl⟩
  have HN := Lib.hid hn
  have HE1 := Lib.hid (HE.out.bel HB0.out)
  go_wp2_with fail
  refine (law3_digits n w1 (by omega)).mono ?_
  rintro e wd ⟨⟨d1, rfl, hd1, hzd1⟩, rfl⟩
  have hsz1 : (S ++ ⟨#[58, 47, 47, 104, 58]⟩ ++ d1 ++ ⟨#[47]⟩).size ≤ 1000000 := by simp only [ByteArray.size_append]; have hh1 : (⟨#[58, 47, 47, 104, 58]⟩ : ByteArray).size = 5 := rfl; have hh2 : (⟨#[47]⟩ : ByteArray).size = 1 := rfl; omega
  have HS1 : Hid (urlS (bl (S ++ ⟨#[58, 47, 47, 104, 58]⟩ ++ d1 ++ ⟨#[47]⟩)) = .ok (hUrl (bl S) (ownP (bl S) n) (pathS [] [47]))) := by
    unfold Hid; simp only [bl_append]; rw [hd1.out]; exact own_u HSP.out n HN.out
  have HZ1 := Lib.hid hsz1
  clear hsz1
  go_wp2_with fail
  refine (url_Parse _ w1 HZ1.out HE1).mono ?_
  rintro e wa1 ⟨⟨v, rfl, HV⟩, HBa⟩
  rw [HS1.out] at HV ⊢
  obtain ⟨c1, p1, rfl, hc, hp⟩ := HV.out
  have HC1 := Lib.hid hc
  have h1c := own_cell hp
  clear HV hc hp
  have HBx1 := Lib.hid (bel_trans HB0.out HBa.out)
  have HEx1 := Lib.hid (HE.out.bel HBx1.out)
  rw [show whyE (.ok (hUrl (bl S) (ownP (bl S) n) (pathS [] [47]))) = 0 from rfl]
  have hr3 : RowAt (wa1.alloc (.cells noC.cells.toArray 24)) wa1.heap.size (noC.cells ++ []) := RowAt.new wa1 noC.cells.toArray 24
  have hb3 : Bel wa1 (wa1.alloc (.cells noC.cells.toArray 24)) := (Below.refl _ wa1).alloc (Nat.le_refl _) _
  rw [no_cells] at hr3 hb3
  have HRn := Lib.hid hr3
  have HBn := Lib.hid hb3
  clear hr3 hb3
  go_wp2_with (first | (refine store_url rfl _ _ (by exact rfl) wa1.heap.size (by exact rfl) noC c1 [] (by exact rfl) HRn.out h1c ?_; intro wb1 R1 HPb))
  have HBx2 : Hid (Bel w wb1) := BelP.bel HBx1.out (fun k hk => by rw [hk]; exact HBx1.out.size) ((BelP.of _ HBn.out).trans HPb.out)
  have HEx2 := Lib.hid (HE.out.bel HBx2.out)
  clear HRn HBn HPb
  have hsz2 : (S ++ ⟨#[58, 47, 47, 104, 58, 47]⟩).size ≤ 1000000 := by simp only [ByteArray.size_append]; have hh1 : (⟨#[58, 47, 47, 104, 58, 47]⟩ : ByteArray).size = 6 := rfl; omega
  have HS2 : Hid (urlS (bl (S ++ ⟨#[58, 47, 47, 104, 58, 47]⟩)) = .ok (hUrl (bl S) (-1) (pathS [] [47]))) := by
    unfold Hid; simp only [bl_append]; exact own_v HSP.out
  have HZ2 := Lib.hid hsz2
  clear hsz2
  refine (url_Parse _ wb1 HZ2.out HEx2).mono ?_
  rintro e wa2 ⟨⟨v, rfl, HV⟩, HBa⟩
  rw [HS2.out] at HV ⊢
  obtain ⟨c2, p2, rfl, hc, hp⟩ := HV.out
  have HC2 := Lib.hid hc
  have h1c := own_cell hp
  clear HV hc hp
  have HBx3 := Lib.hid (bel_trans HBx2.out HBa.out)
  have HEx3 := Lib.hid (HE.out.bel HBx3.out)
  replace R1 := Lib.hid (R1.out.bel HBa.out)
  rw [show whyE (.ok (hUrl (bl S) (-1) (pathS [] [47]))) = 0 from rfl]
  have hr3 : RowAt (wa2.alloc (.cells noC.cells.toArray 24)) wa2.heap.size (noC.cells ++ []) := RowAt.new wa2 noC.cells.toArray 24
  have hb3 : Bel wa2 (wa2.alloc (.cells noC.cells.toArray 24)) := (Below.refl _ wa2).alloc (Nat.le_refl _) _
  rw [no_cells] at hr3 hb3
  have HRn := Lib.hid hr3
  have HBn := Lib.hid hb3
  clear hr3 hb3
  go_wp2_with (first | (refine store_url rfl _ _ (by exact rfl) wa2.heap.size (by exact rfl) noC c2 [] (by exact rfl) HRn.out h1c ?_; intro wb2 R2 HPb))
  replace R1 := Lib.hid (BelP.row HPb.out (Nat.ne_of_lt R1.out.1) (R1.out.bel HBn.out))
  have HBx4 : Hid (Bel w wb2) := BelP.bel HBx3.out (fun k hk => by rw [hk]; exact HBx3.out.size) ((BelP.of _ HBn.out).trans HPb.out)
  have HEx4 := Lib.hid (HE.out.bel HBx4.out)
  clear HRn HBn HPb
  refine (law3_digits n wb2 (by omega)).mono ?_
  rintro e wd ⟨⟨d2, rfl, hd2, hzd2⟩, rfl⟩
  have hsz3 : (S ++ ⟨#[58, 47, 47, 104, 58, 48]⟩ ++ d2 ++ ⟨#[47]⟩).size ≤ 1000000 := by simp only [ByteArray.size_append]; have hh1 : (⟨#[58, 47, 47, 104, 58, 48]⟩ : ByteArray).size = 6 := rfl; have hh2 : (⟨#[47]⟩ : ByteArray).size = 1 := rfl; omega
  have HS3 : Hid (urlS (bl (S ++ ⟨#[58, 47, 47, 104, 58, 48]⟩ ++ d2 ++ ⟨#[47]⟩)) = .ok (hUrl (bl S) (ownP (bl S) n) (pathS [] [47]))) := by
    unfold Hid; simp only [bl_append]; rw [hd2.out]; exact own_w HSP.out n HN.out
  have HZ3 := Lib.hid hsz3
  clear hsz3
  go_wp2_with fail
  refine (url_Parse _ wb2 HZ3.out HEx4).mono ?_
  rintro e wa3 ⟨⟨v, rfl, HV⟩, HBa⟩
  rw [HS3.out] at HV ⊢
  obtain ⟨c3, p3, rfl, hc, hp⟩ := HV.out
  have HC3 := Lib.hid hc
  have h1c := own_cell hp
  clear HV hc hp
  have HBx5 := Lib.hid (bel_trans HBx4.out HBa.out)
  have HEx5 := Lib.hid (HE.out.bel HBx5.out)
  replace R1 := Lib.hid (R1.out.bel HBa.out)
  replace R2 := Lib.hid (R2.out.bel HBa.out)
  rw [show whyE (.ok (hUrl (bl S) (ownP (bl S) n) (pathS [] [47]))) = 0 from rfl]
  have e9 : IntKind.i64.wrap ((n : Int) + 65536) = ((n + 65536 : Nat) : Int) := by rw [show (n : Int) + 65536 = ((n + 65536 : Nat) : Int) by omega]; exact IntWalk.i64_in _ (by omega)
  have hr3 : RowAt (wa3.alloc (.cells noC.cells.toArray 24)) wa3.heap.size (noC.cells ++ []) := RowAt.new wa3 noC.cells.toArray 24
  have hb3 : Bel wa3 (wa3.alloc (.cells noC.cells.toArray 24)) := (Below.refl _ wa3).alloc (Nat.le_refl _) _
  rw [no_cells] at hr3 hb3
  have HRn := Lib.hid hr3
  have HBn := Lib.hid hb3
  clear hr3 hb3
  go_wp2_with (first | (refine store_url rfl _ _ (by exact rfl) wa3.heap.size (by exact rfl) noC c3 [] (by exact rfl) HRn.out h1c ?_; intro wb3 R3 HPb))
  replace R1 := Lib.hid (BelP.row HPb.out (Nat.ne_of_lt R1.out.1) (R1.out.bel HBn.out))
  replace R2 := Lib.hid (BelP.row HPb.out (Nat.ne_of_lt R2.out.1) (R2.out.bel HBn.out))
  have HBx6 : Hid (Bel w wb3) := BelP.bel HBx5.out (fun k hk => by rw [hk]; exact HBx5.out.size) ((BelP.of _ HBn.out).trans HPb.out)
  have HEx6 := Lib.hid (HE.out.bel HBx6.out)
  clear HRn HBn HPb
  refine (law3_digits (n + 65536) wb3 (by omega)).mono ?_
  rintro e wd ⟨⟨d3, rfl, hd3, hzd3⟩, rfl⟩
  have hsz4 : (S ++ ⟨#[58, 47, 47, 104, 58]⟩ ++ d3 ++ ⟨#[47]⟩).size ≤ 1000000 := by simp only [ByteArray.size_append]; have hh1 : (⟨#[58, 47, 47, 104, 58]⟩ : ByteArray).size = 5 := rfl; have hh2 : (⟨#[47]⟩ : ByteArray).size = 1 := rfl; omega
  have HS4 : Hid (urlS (bl (S ++ ⟨#[58, 47, 47, 104, 58]⟩ ++ d3 ++ ⟨#[47]⟩)) = .error 11) := by
    unfold Hid; simp only [bl_append]; rw [hd3.out]; exact own_no HSP.out n HN.out
  have HZ4 := Lib.hid hsz4
  clear hsz4
  go_wp2_with fail
  refine (url_Parse _ wb3 HZ4.out HEx6).mono ?_
  rintro e wa4 ⟨⟨v, rfl, HV⟩, HBa⟩
  rw [HS4.out] at HV ⊢
  obtain ⟨c4, p4, rfl, hc, hp⟩ := HV.out
  have HC4 := Lib.hid hc
  have h1c := own_cell hp
  clear HV hc hp
  have HBx7 := Lib.hid (bel_trans HBx6.out HBa.out)
  have HEx7 := Lib.hid (HE.out.bel HBx7.out)
  replace R1 := Lib.hid (R1.out.bel HBa.out)
  replace R2 := Lib.hid (R2.out.bel HBa.out)
  replace R3 := Lib.hid (R3.out.bel HBa.out)
  rw [show whyE (.error 11) = 11 from rfl]
  have k15 := (R1.out.2 5 (.int .i64 c1.port) rfl).1
  have k25 := (R2.out.2 5 (.int .i64 c2.port) rfl).1
  have k35 := (R3.out.2 5 (.int .i64 c3.port) rfl).1
  have P1 : c1.port = ownP (bl S) n := congrArg UrlS.port HC1.out
  have P2 : c2.port = -1 := congrArg UrlS.port HC2.out
  have P3 : c3.port = ownP (bl S) n := congrArg UrlS.port HC3.out
  rw [P1] at k15
  rw [P2] at k25
  rw [P3] at k35
  clear P1 P2 P3
  obtain ⟨P, hP⟩ : ∃ P, ownP (bl S) n = P := ⟨_, rfl⟩
  have HPP := Lib.hid hP
  rw [hP] at k15 k35
  clear hP
  have K15 := Lib.hid k15
  have K25 := Lib.hid k25
  have K35 := Lib.hid k35
  clear k15 k25 k35
  have hr3 : RowAt (wa4.alloc (.cells noC.cells.toArray 24)) wa4.heap.size (noC.cells ++ []) := RowAt.new wa4 noC.cells.toArray 24
  have hb3 : Bel wa4 (wa4.alloc (.cells noC.cells.toArray 24)) := (Below.refl _ wa4).alloc (Nat.le_refl _) _
  rw [no_cells] at hr3 hb3
  have HRn := Lib.hid hr3
  have HBn := Lib.hid hb3
  clear hr3 hb3
  go_upto_region 8 with (first | (refine store_url rfl _ _ (by exact rfl) wa4.heap.size (by exact rfl) noC c4 [] (by exact rfl) HRn.out h1c ?_; intro wb4 R4 HPb))
  replace R1 := Lib.hid (BelP.row HPb.out (Nat.ne_of_lt R1.out.1) (R1.out.bel HBn.out))
  replace R2 := Lib.hid (BelP.row HPb.out (Nat.ne_of_lt R2.out.1) (R2.out.bel HBn.out))
  replace R3 := Lib.hid (BelP.row HPb.out (Nat.ne_of_lt R3.out.1) (R3.out.bel HBn.out))
  have HBx8 : Hid (Bel w wb4) := BelP.bel HBx7.out (fun k hk => by rw [hk]; exact HBx7.out.size) ((BelP.of _ HBn.out).trans HPb.out)
  have HEx8 := Lib.hid (HE.out.bel HBx8.out)
  clear HRn HBn HPb
  have k15 := (R1.out.2 5 (.int .i64 c1.port) rfl).1
  have k25 := (R2.out.2 5 (.int .i64 c2.port) rfl).1
  have k35 := (R3.out.2 5 (.int .i64 c3.port) rfl).1
  rw [show c1.port = P from (congrArg UrlS.port HC1.out).trans HPP.out] at k15
  rw [show c2.port = -1 from congrArg UrlS.port HC2.out] at k25
  rw [show c3.port = P from (congrArg UrlS.port HC3.out).trans HPP.out] at k35
  have hPP : (P != P) = false := by simp
  go_upto_region 10 with (fail)
  clear k25 k35
  have HQ := Lib.hid (own_ge HSP.out)
  obtain ⟨O, hO⟩ : ∃ O, ownS (bl S) = O := ⟨_, rfl⟩
  have HO := Lib.hid hO
  rw [hO] at HQ
  clear hO
  have hw : Hid (Env wb4) ∧ wb4.cell? ⟨wa1.heap.size, 5, none⟩ = some (.int .i64 P) := ⟨HEx8, k15⟩
  clear k15
  have hway : (P = -1 ∧ (n : Int) = O) ∨ (P = (n : Int) ∧ ¬ (n : Int) = O) := by
    rw [← HPP.out, ← HO.out]
    unfold ownP
    by_cases h : (n : Int) = ownS (bl S)
    · exact .inl ⟨if_pos h, h⟩
    · exact .inr ⟨if_neg h, h⟩
  rcases hway with ⟨x1, x2⟩ | ⟨x1, x2⟩
  · subst x1
    have y2 : ((n : Int) == O) = true := by rw [x2]; exact beq_self_eq_true _
    clear x2
    refine wp_region_still_tail 20 (by kernel_rfl) (by kernel_rfl) ?_
    simp only [List.take_succ_cons, List.take_zero, List.drop_succ_cons, List.drop_zero]
    repeat still_step
    still_call ((url_Own S _).mono (fun e w2 h => ⟨by rw [h.1, HO.out], h.2.symm⟩))
    repeat still_step
    try refine wpStill_nil ?_
    change wpList _ _ _ _ _ wb4.drew
    have HB7 := Lib.hid (bel_trans HBx8.out (bel_drew wb4))
    generalize wb4.drew = w7 at *
    go_wp2_with fail
    refine (law3_known _ (Lib.hid (HE.out.bel HB7.out))).mono ?_
    rintro e w8 ⟨rfl, HB8⟩
    go_wp2
    go_ret
    exact ⟨rfl, bel_trans HB7.out HB8.out⟩
  · subst x1
    have y2 : ((n : Int) == O) = false := by rw [beq_eq_false_iff_ne]; exact x2
    have y1 : ((n : Int) == -1) = false := rfl
    clear x2
    refine wp_region_still_tail 20 (by kernel_rfl) (by kernel_rfl) ?_
    simp only [List.take_succ_cons, List.take_zero, List.drop_succ_cons, List.drop_zero]
    repeat still_step
    still_call ((url_Own S _).mono (fun e w2 h => ⟨by rw [h.1, HO.out], h.2.symm⟩))
    repeat still_step
    try refine wpStill_nil ?_
    change wpList _ _ _ _ _ wb4.drew
    have HB7 := Lib.hid (bel_trans HBx8.out (bel_drew wb4))
    generalize wb4.drew = w7 at *
    go_wp2_with fail
    refine (law3_known _ (Lib.hid (HE.out.bel HB7.out))).mono ?_
    rintro e w8 ⟨rfl, HB8⟩
    go_wp2
    go_ret
    exact ⟨rfl, bel_trans HB7.out HB8.out⟩
end Go.Proofs.YtbpkkgaaeodimaaGreatDoor
