import Derived.Test.YtbpkkgaaeodimaaGreatDoorXAXRepl3
namespace Go.Proofs.YtbpkkgaaeodimaaGreatDoor
open Go.RowKit

theorem wrap_drop (m : Int) (a : Nat) (h1 : (a : Int) ≤ m) (h2 : m ≤ 1000000) : IntKind.i64.wrap (m + IntKind.i64.wrap ((a : Int) * IntKind.i64.wrap (-1))) = m - a := by
  have e1 : IntKind.i64.wrap (-1) = -1 := IntWalk.i64_in _ (by omega)
  have e2 : IntKind.i64.wrap ((a : Int) * -1) = (a : Int) * -1 := IntWalk.i64_in _ (by omega)
  rw [e1, e2, IntWalk.i64_in _ (by omega)]
  omega
theorem row_fill (A : List Value) (z x : Value) (n : Nat) (h : 0 < n) : (A ++ List.replicate n z).set A.length x = (A ++ [x]) ++ List.replicate (n - 1) z := by
  obtain ⟨k, rfl⟩ : ∃ k, n = k + 1 := ⟨n - 1, by omega⟩
  rw [List.replicate_succ, List.set_append_right _ _ (Nat.le_refl _), Nat.sub_self, List.set_cons_zero, List.append_assoc]
  rfl
theorem row_free (A : List Value) (z : Value) (n : Nat) (h : 0 < n) : (A ++ List.replicate n z)[A.length]? = some z := by
  rw [List.getElem?_append_right (Nat.le_refl _), Nat.sub_self, List.getElem?_replicate, if_pos h]
theorem keep_le (l : List UInt8) (k : Nat) : ((l.take k).filter keepL).length ≤ (l.filter keepL).length := ((List.take_sublist k l).filter _).length_le
section
variable {ops : Array Oper} {Q : Exit → Act → World → Prop} {a : Act} {rest : List Oper} {o : Oper}
/-- make([]byte, n). -/
theorem mk_bytes {W : World} (hgd : o.guard = none) (l c : Operand) (ho : o.op = .makeSlice 43 l c) (N : Nat) (hl : a.eval l = .int .i64 N) (hc : a.eval c = .int .i64 N) (hN : N ≤ 1000000)
    (h : ∀ w1, Hid (RowAt w1 W.heap.size (List.replicate N (.int .u8 0))) → Hid (Bel W w1) → wpList Tryz.prog ops Q rest (a.put o.dst (.slice (some ⟨W.heap.size, 0, none⟩) N N)) w1) :
    wpList Tryz.prog ops Q (o :: rest) a W := by
  obtain ⟨w', h1, h2, h3⟩ := make_u8 W N hN
  refine wpList_plain hgd fun K hK => ?_
  unfold Oper.wp
  simp [execOp, ho, hl, hc, h1, Result.andThen]
  exact hK _ _ (h w' h2 h3)
end
set_option maxHeartbeats 2000000 in
set_option maxRecDepth 100000 in
theorem rp_bytes (p base : Nat) (s : ByteArray) (w : World) (hs : s.size ≤ 1000000) (HK : Hid (ReplK w p base 3)) :
    Calls Tryz.prog 276 #[.pointer (some ⟨p, 0, none⟩), .string s] w fun e w' => (∃ t, e = .returned (.string t) ∧ Hid (bl t = (bl s).filter keepL) ∧ t.size ≤ s.size) ∧ Hid (Bel w w') := by
  obtain ⟨L, tv, hR, _, h256, hO, hb⟩ := HK.out
  have t256 : w.cell? ⟨p, 256, none⟩ = some tv := (hR.2 256 tv h256).1
  obtain ⟨h, c, rfl, _, HX, _⟩ := hO.row (by decide)
  have d0 : w.cell? ⟨h, 0, none⟩ = some (.string ⟨#[13]⟩) := (HX.2 0 _ rfl).1
  have d1 : w.cell? ⟨h, 1, none⟩ = some (.string ⟨#[10]⟩) := (HX.2 1 _ rfl).1
  have d2 : w.cell? ⟨h, 2, none⟩ = some (.string ⟨#[9]⟩) := (HX.2 2 _ rfl).1
  have hnn0 : ∀ W : World, (binOp .neq 43 (.slice none 0 0) (.slice none 0 0)).run Tryz.prog W = .ok (.bool false) W := fun W => rfl
  have hnn1 : ∀ (W : World) (a : Addr) (n : Nat), (binOp .neq 43 (.slice (some a) 0 n) (.slice none 0 0)).run Tryz.prog W = .ok (.bool true) W := fun W a n => rfl
  have kc := keep_count (bl s)
  rw [bl_length] at kc
  obtain ⟨N, hN⟩ : ∃ N, ((bl s).filter keepL).length = N := ⟨_, rfl⟩
  replace t256 : w.cell? ⟨p, 256, none⟩ = some (.slice (some ⟨h, 0, none⟩) 3 c) := t256
  clear HX hO hb hR h256
  have HAT := fun x => ReplK.at HK.out x
  have HN := Lib.hid hN
  have hNs : N ≤ s.size := by omega
  rw [hN] at kc
  clear hN
  go_enter Tryz.func276, Tryz.ntmps276
  go_upto_if 26 with (fail)
  obtain ⟨z24, hz24⟩ : ∃ z, decide ((24 : Int) ≤ s.size) = z := ⟨_, rfl⟩
  rw [hz24]
  go_cut [5, 6] (fun v5 v6 wc => ∃ ch : Bool, v5 = .int .i64 N ∧ v6 = .bool ch ∧ Hid (ch = false → (bl s).filter keepL = bl s) ∧ Hid (Bel w wc))
  case first =>
    have HALL : Hid (N = s.size → (bl s).filter keepL = bl s) := fun h => keep_all (by rw [HN.out, h, bl_length])
    clear hz24
    cases z24
    · clear kc d0 d1 d2
      go_wp2
      go_loopg [5, 6, 10] s.size (fun g v5 v6 v10 wr => ∃ (k : Nat) (m : Int) (ch : Bool), v10 = .int .i64 k ∧ k + g = s.size ∧ v5 = .int .i64 m ∧ v6 = .bool ch ∧ m = (s.size : Int) - ((k : Int) - (((bl s).take k).filter keepL).length) ∧ Hid (ch = false → (((bl s).take k).filter keepL).length = k) ∧ w = wr)
      case atStart => exact ⟨0, _, _, rfl, by omega, rfl, rfl, by simp, fun _ => rfl, rfl⟩
      case round =>
        obtain ⟨k, m, ch, rfl, hk, rfl, rfl, hm, HC, rfl⟩ := hrel
        have hle : (((bl s).take k).filter keepL).length ≤ k := by
          have := (List.filter_sublist (p := keepL) (l := (bl s).take k)).length_le
          rw [List.length_take] at this; omega
        by_cases hlt : k < s.size
        · have hkt := keep_take (bl s) k s[k] (bl_get s k hlt)
          have hu : ((s[k].toNat : Int)) < 256 := by have := s[k].toNat_lt; omega
          rcases HAT s[k] with ⟨hkp, hcell⟩ | ⟨hkp, y, n, hcell⟩
          · rw [if_pos hkp] at hkt
            have hl2 : (((bl s).take (k + 1)).filter keepL).length = (((bl s).take k).filter keepL).length + 1 := by rw [hkt]; simp
            have HM : Hid (m = (s.size : Int) - (((k + 1 : Nat) : Int) - (((bl s).take (k + 1)).filter keepL).length)) := by unfold Hid; rw [hl2]; omega
            have HC2 : Hid (ch = false → (((bl s).take (k + 1)).filter keepL).length = k + 1) := fun h => by have := HC.out h; omega
            clear hkt hl2 hm hle hkp
            go_wp2
            go_roundg (gk - 1)
            case measure => omega
            case rel => exact ⟨k + 1, _, _, by go_num, by omega, rfl, rfl, HM.out, HC2, rfl⟩
          · rw [if_neg (by rw [hkp]; decide), List.append_nil] at hkt
            have hl2 : (((bl s).take (k + 1)).filter keepL).length = (((bl s).take k).filter keepL).length := by rw [hkt]
            have HM : Hid (m - 1 = (s.size : Int) - (((k + 1 : Nat) : Int) - (((bl s).take (k + 1)).filter keepL).length)) := by unfold Hid; rw [hl2]; omega
            have hw : IntKind.i64.wrap (m + -1) = m - 1 := by rw [IntWalk.i64_in _ (by omega)]; omega
            clear hkt hl2 hm hle hkp
            go_wp2
            go_roundg (gk - 1)
            case measure => omega
            case rel => exact ⟨k + 1, m - 1, _, by go_num, by omega, rfl, rfl, HM.out, (fun h => by cases h), rfl⟩
        · have hke : (bl s).take k = bl s := List.take_of_length_le (by rw [bl_length]; omega)
          rw [hke, HN.out] at hm HC
          have hm2 : m = (N : Int) := by omega
          subst hm2
          have hge : ¬ (k : Int) < s.size := by omega
          clear hke hm hle
          go_wp2
          go_meet
          exact ⟨ch, rfl, rfl, fun h => HALL.out (by have := HC.out h; omega), Below.refl _ _⟩
    · have n13 := fun W => lib_Count1 s 13 W
      have n10 := fun W => lib_Count1 s 10 W
      have n9 := fun W => lib_Count1 s 9 W
      have x13 := HAT 13
      have x10 := HAT 10
      have x9 := HAT 9
      obtain ⟨_, ⟨y13, m13, z13⟩⟩ := x13.resolve_left (fun q => by simp [keepL] at q)
      obtain ⟨_, ⟨y10, m10, z10⟩⟩ := x10.resolve_left (fun q => by simp [keepL] at q)
      obtain ⟨_, ⟨y9, m9, z9⟩⟩ := x9.resolve_left (fun q => by simp [keepL] at q)
      rw [show ((13 : UInt8).toNat) = 13 from rfl] at z13
      rw [show ((10 : UInt8).toNat) = 10 from rfl] at z10
      rw [show ((9 : UInt8).toNat) = 9 from rfl] at z9
      clear x13 x10 x9 HAT
      generalize (bl s).count 13 = a13 at *
      generalize (bl s).count 10 = a10 at *
      generalize (bl s).count 9 = a9 at *
      obtain ⟨q1, hq1⟩ : ∃ q, q = (⟨#[13]⟩ : ByteArray) := ⟨_, rfl⟩
      obtain ⟨q2, hq2⟩ : ∃ q, q = (⟨#[10]⟩ : ByteArray) := ⟨_, rfl⟩
      obtain ⟨q3, hq3⟩ : ∃ q, q = (⟨#[9]⟩ : ByteArray) := ⟨_, rfl⟩
      rw [← hq1] at d0 n13
      rw [← hq2] at d1 n10
      rw [← hq3] at d2 n9
      have s1 : q1.size = 1 := by rw [hq1]; rfl
      have s2 : q2.size = 1 := by rw [hq2]; rfl
      have s3 : q3.size = 1 := by rw [hq3]; rfl
      have y1 : (q1[0]'(by omega)).toNat = 13 := by subst hq1; rfl
      have y2 : (q2[0]'(by omega)).toNat = 10 := by subst hq2; rfl
      have y3 : (q3[0]'(by omega)).toNat = 9 := by subst hq3; rfl
      clear hq1 hq2 hq3
      go_wp2
      go_loopg [5, 6, 32] 3 (fun g v5 v6 v32 wr => ∃ (k : Nat) (m : Int) (ch : Bool), v32 = .int .i64 k ∧ k + g = 3 ∧ v5 = .int .i64 m ∧ v6 = .bool ch ∧ Hid (m = (s.size : Int) - ((if 0 < k then (a13 : Int) else 0) + (if 1 < k then (a10 : Int) else 0) + (if 2 < k then (a9 : Int) else 0))) ∧ Hid (ch = false → (if 0 < k then a13 else 0) + (if 1 < k then a10 else 0) + (if 2 < k then a9 else 0) = 0) ∧ Hid (Bel w wr))
      case atStart => exact ⟨0, _, _, rfl, rfl, rfl, rfl, by unfold Hid; simp, fun _ => rfl, Below.refl _ _⟩
      case round =>
        obtain ⟨k, m, ch, rfl, hk, rfl, rfl, HM, HC, HB⟩ := hrel
        replace d0 := bel_cell HB.out d0
        replace d1 := bel_cell HB.out d1
        replace d2 := bel_cell HB.out d2
        replace z9 := bel_cell HB.out z9
        replace z10 := bel_cell HB.out z10
        replace z13 := bel_cell HB.out z13
        have hk3 : k = 0 ∧ gk = 2 + 1 ∨ k = 1 ∧ gk = 1 + 1 ∨ k = 2 ∧ gk = 0 + 1 ∨ k = 3 ∧ gk = 0 := by omega
        rcases hk3 with ⟨rfl, rfl⟩ | ⟨rfl, rfl⟩ | ⟨rfl, rfl⟩ | ⟨rfl, rfl⟩
        · have hm : m = (s.size : Int) := by have := HM.out; simp at this; omega
          by_cases h0 : a13 = 0
          · subst h0
            have hcc : Hid (ch = false → (if 0 < 1 then (0 : Nat) else 0) + (if 1 < 1 then a10 else 0) + (if 2 < 1 then a9 else 0) = 0) := fun h => by have := HC.out h; simp at this ⊢; try omega
            go_wp2_with (first | (go_at_call 169; go_must (refine (n13 _).mono ?_); rintro e w' ⟨rfl, rfl⟩))
            go_roundg 2
            case measure => omega
            case rel => exact ⟨1, _, _, rfl, rfl, rfl, rfl, by unfold Hid; simp; try omega, hcc, HB⟩
          · have hq : ((a13 : Int) != 0) = true := by rw [bne_iff_ne]; omega
            go_wp2_with (first | (go_at_call 169; go_must (refine (n13 _).mono ?_); rintro e w' ⟨rfl, rfl⟩))
            go_region_held3 (fun w' => w'.cell? ⟨p, 13, none⟩ = some (.slice (some y13) 0 m13)) (exact z13) (fail)
            go_wp2
            go_roundg 2
            case measure => omega
            case rel => exact ⟨1, _, _, rfl, rfl, rfl, rfl, by unfold Hid; rw [wrap_drop _ _ (by omega) (by omega)]; simp; try omega, (fun h => by cases h), bel_trans HB.out (bel_drew _)⟩
        · have hm : m = (s.size : Int) - a13 := by have := HM.out; simp at this; omega
          by_cases h0 : a10 = 0
          · subst h0
            have hcc : Hid (ch = false → (if 0 < 2 then a13 else 0) + (if 1 < 2 then (0 : Nat) else 0) + (if 2 < 2 then a9 else 0) = 0) := fun h => by have := HC.out h; simp at this ⊢; try omega
            go_wp2_with (first | (go_at_call 169; go_must (refine (n10 _).mono ?_); rintro e w' ⟨rfl, rfl⟩))
            go_roundg 1
            case measure => omega
            case rel => exact ⟨2, _, _, rfl, rfl, rfl, rfl, by unfold Hid; simp; try omega, hcc, HB⟩
          · have hq : ((a10 : Int) != 0) = true := by rw [bne_iff_ne]; omega
            go_wp2_with (first | (go_at_call 169; go_must (refine (n10 _).mono ?_); rintro e w' ⟨rfl, rfl⟩))
            go_region_held3 (fun w' => w'.cell? ⟨p, 10, none⟩ = some (.slice (some y10) 0 m10)) (exact z10) (fail)
            go_wp2
            go_roundg 1
            case measure => omega
            case rel => exact ⟨2, _, _, rfl, rfl, rfl, rfl, by unfold Hid; rw [wrap_drop _ _ (by omega) (by omega)]; simp; try omega, (fun h => by cases h), bel_trans HB.out (bel_drew _)⟩
        · have hm : m = (s.size : Int) - a13 - a10 := by have := HM.out; simp at this; omega
          by_cases h0 : a9 = 0
          · subst h0
            have hcc : Hid (ch = false → (if 0 < 3 then a13 else 0) + (if 1 < 3 then a10 else 0) + (if 2 < 3 then (0 : Nat) else 0) = 0) := fun h => by have := HC.out h; simp at this ⊢; try omega
            go_wp2_with (first | (go_at_call 169; go_must (refine (n9 _).mono ?_); rintro e w' ⟨rfl, rfl⟩))
            go_roundg 0
            case measure => omega
            case rel => exact ⟨3, _, _, rfl, rfl, rfl, rfl, by unfold Hid; simp; try omega, hcc, HB⟩
          · have hq : ((a9 : Int) != 0) = true := by rw [bne_iff_ne]; omega
            go_wp2_with (first | (go_at_call 169; go_must (refine (n9 _).mono ?_); rintro e w' ⟨rfl, rfl⟩))
            go_region_held3 (fun w' => w'.cell? ⟨p, 9, none⟩ = some (.slice (some y9) 0 m9)) (exact z9) (fail)
            go_wp2
            go_roundg 0
            case measure => omega
            case rel => exact ⟨3, _, _, rfl, rfl, rfl, rfl, by unfold Hid; rw [wrap_drop _ _ (by omega) (by omega)]; simp; try omega, (fun h => by cases h), bel_trans HB.out (bel_drew _)⟩
        · have hm : m = (N : Int) := by have := HM.out; simp at this; omega
          subst hm
          go_wp2
          go_meet
          exact ⟨ch, rfl, rfl, fun h => HALL.out (by have := HC.out h; simp at this; omega), HB⟩
  case rest =>
    obtain ⟨ch, rfl, rfl, HCH, HB⟩ := hcut
    cases ch
    · have HF := Lib.hid (HCH.out rfl)
      go_wp2
      go_ret
      exact ⟨⟨s, rfl, HF.out.symm, Nat.le_refl _⟩, HB⟩
    · clear d0 d1 d2 kc hz24 t256
      have hNm : N ≤ 1000000 := by omega
      go_wp2_with (first | (at_make; go_must (refine mk_bytes (W := wc) rfl _ _ (by exact rfl) N (by exact rfl) (by exact rfl) hNm ?_); intro w1 HR1 HB1))
      obtain ⟨h0, hh0⟩ : ∃ h0, wc.heap.size = h0 := ⟨_, rfl⟩
      rw [hh0] at HR1 ⊢
      have HH0 : Hid (w.heap.size ≤ h0) := by rw [← hh0]; exact HB.out.size
      have HW1 := Lib.hid (bel_trans HB.out HB1.out)
      clear hh0 HB HB1
      have hcp : ∀ (W : World) (ty : TypeId) (d a : Option Addr) (dl dc n : Nat), (Builtin.copy_ #[43, 43] ty #[.slice d dl dc, .slice a 0 n]).run Tryz.prog W = .ok (goInt 0) W := fun W ty d a dl dc n => run_copy_none W _ _ ty 5 d a dl dc 0 n Tryz.underlying43 (by kernel_rfl) (by simp)
      go_loopg [13, 14] s.size (fun g v13 v14 wr => ∃ (k j : Nat), v14 = .int .i64 k ∧ v13 = .int .i64 j ∧ k + g = s.size ∧ j = (((bl s).take k).filter keepL).length ∧ Hid (RowAt wr h0 ((((bl s).take k).filter keepL).map u8v ++ List.replicate (N - j) (.int .u8 0))) ∧ Hid (Bel w wr))
      case atStart => exact ⟨0, 0, rfl, rfl, by omega, rfl, HR1, HW1⟩
      case round =>
        obtain ⟨k, j, rfl, rfl, hk, hj, HR, HB⟩ := hrel
        have hjN := keep_le (bl s) k
        rw [HN.out, ← hj] at hjN
        by_cases hlt : k < s.size
        · have hkt := keep_take (bl s) k s[k] (bl_get s k hlt)
          have hjN2 := keep_le (bl s) (k + 1)
          rw [HN.out] at hjN2
          have hu : ((s[k].toNat : Int)) < 256 := by have := s[k].toNat_lt; omega
          rcases HAT s[k] with ⟨hkp, hcell⟩ | ⟨hkp, y, n, hcell⟩
          · rw [if_pos hkp] at hkt
            have hl2 : (((bl s).take (k + 1)).filter keepL).length = j + 1 := by rw [hkt, hj]; simp
            have hjlt : j < N := by omega
            have hfree := row_free ((((bl s).take k).filter keepL).map u8v) (.int .u8 0) (N - j) (by omega)
            rw [List.length_map, ← hj] at hfree
            obtain ⟨g1, g2⟩ := HR.out.2 j _ hfree
            have HRN : Hid (RowAt (wr.setCell ⟨h0, j, none⟩ (.int .u8 s[k].toNat)) h0 ((((bl s).take (k + 1)).filter keepL).map u8v ++ List.replicate (N - (j + 1)) (.int .u8 0))) := by
              have hset := row_fill ((((bl s).take k).filter keepL).map u8v) (.int .u8 0) (.int .u8 s[k].toNat) (N - j) (by omega)
              rw [List.length_map, ← hj] at hset
              have := HR.out.set j (.int .u8 s[k].toNat)
              rw [hset] at this
              unfold Hid
              rw [hkt, List.map_append, Nat.sub_add_eq]
              exact this
            have HBN : Hid (Bel w (wr.setCell ⟨h0, j, none⟩ (.int .u8 s[k].toNat))) := BelP.bel HB.out (fun i hi => by rw [hi]; exact HH0.out) (BelP.set (g := h0) ⟨h0, j, none⟩ _ rfl)
            have HJ2 : Hid (j + 1 = (((bl s).take (k + 1)).filter keepL).length) := hl2.symm
            replace hcell := bel_cell HB.out hcell
            clear hkt hl2 hj hjN2 hkp hfree
            have q1 : (j : Int) < N := by omega
            have q2 : (0 : Int) ≤ j := by omega
            go_wp2
            go_roundg (gk - 1)
            case measure => omega
            case rel => exact ⟨k + 1, j + 1, by go_num, by go_num, by omega, HJ2.out, HRN, HBN⟩
          · rw [if_neg (by rw [hkp]; decide), List.append_nil] at hkt
            have HJ2 : Hid (j = (((bl s).take (k + 1)).filter keepL).length) := by unfold Hid; rw [hkt]; exact hj
            rw [← hkt] at HR
            replace hcell := bel_cell HB.out hcell
            clear hkt hj hjN2 hkp
            have q2 : (0 : Int) ≤ j := by omega
            rcases Nat.lt_or_eq_of_le hjN with hjn | hjn
            · have q1 : (j : Int) ≤ N := by omega
              have q3 : (j : Int) < N := by omega
              have q4 : ¬ j = N := by omega
              go_wp2
              go_region_held3 (fun w' => w'.cell? ⟨p, s[k].toNat, none⟩ = some (.slice (some y) 0 n)) (exact hcell) (fail)
              go_wp2
              go_roundg (gk - 1)
              case measure => omega
              case rel => exact ⟨k + 1, j, by go_num, congrArg (Value.int .i64) (IntWalk.i64_in _ (by omega)), by omega, HJ2.out, HR.out.bel (bel_drew _), bel_trans HB.out (bel_drew _)⟩
            · subst hjn
              go_wp2
              go_region_held3 (fun w' => w'.cell? ⟨p, s[k].toNat, none⟩ = some (.slice (some y) 0 n)) (exact hcell) (fail)
              go_wp2
              go_roundg (gk - 1)
              case measure => omega
              case rel => exact ⟨k + 1, j, by go_num, congrArg (Value.int .i64) (IntWalk.i64_in _ (by omega)), by omega, HJ2.out, HR.out.bel (bel_drew _), bel_trans HB.out (bel_drew _)⟩
        · have hke : (bl s).take k = bl s := List.take_of_length_le (by rw [bl_length]; omega)
          rw [hke] at hj HR
          rw [HN.out] at hj
          subst hj
          rw [Nat.sub_self, List.replicate_zero, List.append_nil] at HR
          have hge : ¬ (k : Int) < s.size := by omega
          have hcv := row_string (P := Tryz.prog) (src := 43) (dst := 9) (cap := j) Tryz.underlying43 Tryz.underlying5 Tryz.underlying9 HR.out j HN.out.symm
          have hz : (⟨((bl s).filter keepL).toArray⟩ : ByteArray).size = j := by rw [← bl_length, bl_mk, HN.out]
          clear hke HR
          go_wp2
          go_ret
          exact ⟨⟨_, rfl, bl_mk _, by rw [hz]; exact hNs⟩, HB⟩
end Go.Proofs.YtbpkkgaaeodimaaGreatDoor
