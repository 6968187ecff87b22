import Derived.Test.YtpgehhnmlihnbaaGreatDoorXFour2
import Derived.Laws.BitsAllLaws
namespace Go.Proofs.YtpgehhnmlihnbaaGreatDoor
open Go.RowKit

theorem bel_grow (w : World) (k : Nat) (os : Array Obj) : Bel w (Sort.grow (w.drewN k) os) := ⟨rfl, rfl, rfl, by rw [Sort.size_grow]; exact Nat.le_add_right _ _, fun i hi => by
  show (w.heap ++ os)[i]? = _
  rw [Array.getElem?_append, if_pos hi]⟩
def octS (v : Int) (k : Nat) : Nat := (Go.bits .and .u32 (v / 2 ^ (24 - 8 * k)) 255).toNat
theorem oct_is (v : Int) (k : Nat) (h0 : 0 ≤ v) (h1 : v ≤ 4294967295) : Go.bits .and .u32 (v / 2 ^ (24 - 8 * k)) 255 = (octS v k : Nat) ∧ octS v k ≤ 255 := by
  have hp : (0 : Int) < 2 ^ (24 - 8 * k) := Int.pow_pos (by omega)
  have ha : 0 ≤ v / 2 ^ (24 - 8 * k) := Int.ediv_nonneg h0 (by omega)
  have hb : v / 2 ^ (24 - 8 * k) ≤ v := Int.ediv_le_self _ h0
  unfold octS
  rw [u32_and _ _ ha (by omega) (by omega) (by omega)]
  refine ⟨by simp, ?_⟩
  rw [Int.toNat_natCast]
  exact Nat.and_le_right
def piecesS (v : Int) : List (List UInt8) := [digs 10 (octS v 0), digs 10 (octS v 1), digs 10 (octS v 2), digs 10 (octS v 3)]
theorem piece_at (v : Int) (k : Nat) (h : k < 4) : (piecesS v)[k]? = some (digs 10 (octS v k)) := by
  rcases k with _ | _ | _ | _ | k <;> first | rfl | omega
def dotF : List (List UInt8) → List UInt8
  | [] => []
  | x :: r => (46 :: x) ++ dotF r
/-- The text of an address of four bytes. -/
def text4S (v : Int) : List UInt8 := digs 10 (octS v 0) ++ dotF [digs 10 (octS v 1), digs 10 (octS v 2), digs 10 (octS v 3)]
theorem join_text4 (v : Int) : Lib.join (piecesS v) [46] = text4S v := by
  unfold piecesS text4S
  simp [Lib.join, dotF]
theorem digs_ne (b u : Nat) : digs b u ≠ [] := by
  unfold digs; split <;> simp
theorem digs_short (u : Nat) (h : u ≤ 255) : (digs 10 u).length ≤ 3 := digs_len 10 (by omega) 3 u (by omega) (by omega)
theorem text4_len (v : Int) (h0 : 0 ≤ v) (h1 : v ≤ 4294967295) : (text4S v).length ≤ 15 := by
  have e0 := digs_short _ (oct_is v 0 h0 h1).2
  have e1 := digs_short _ (oct_is v 1 h0 h1).2
  have e2 := digs_short _ (oct_is v 2 h0 h1).2
  have e3 := digs_short _ (oct_is v 3 h0 h1).2
  unfold text4S
  simp [dotF]
  omega
set_option maxHeartbeats 2000000 in
set_option maxRecDepth 100000 in
theorem host_Text4 (v : Int) (w : World) (h0 : 0 ≤ v) (h1 : v ≤ 4294967295) (HE : Hid (Env w)) :
    Calls Tryz.prog 13 #[.int .u32 v] w fun e w' => (∃ t, e = .returned (.string t) ∧ Hid (bl t = text4S v)) ∧ Hid (Bel w w') := by
  have HLN := Lib.hid (text4_len v h0 h1)
  go_enter Tryz.func13, Tryz.ntmps13
  go_wp2
  go_loopg [3, 4] 4 (fun r v3 v4 wr => ∃ (k : Nat), v4 = .int .i64 (24 - 8 * k) ∧ k + r = 4 ∧ Hid (Own wr w.heap.size 9 v3 (strs ((piecesS v).take k))) ∧ Hid (Bel w wr))
  case atStart => exact ⟨0, rfl, by omega, Own.nil _ _ _, by unfold Hid; exact Below.refl _ _⟩
  case round =>
    obtain ⟨k, rfl, hk, HO, HB⟩ := hrel
    cases gk with
    | zero =>
      obtain rfl : k = 4 := by omega
      obtain ⟨g, c, rfl, hg, hr, hc⟩ := HO.out.row (by simp [strs, piecesS])
      rw [strs_len] at *
      have hR := Lib.hid hr
      have hgw := hr.1
      have hc4 : 4 ≤ c := hc
      rw [show (List.take 4 (piecesS v)).length = 4 from rfl] at *
      clear hr hc
      go_wp2_with fail
      refine (Tryz.strings_Join g 0 c ((piecesS v).map fun x => ⟨x.toArray⟩) _ _ ?_ hgw (by rw [List.length_map]; show 4 ≤ _; omega) hc4 ?_).mono ?_
      · intro j x hx
        rw [List.getElem?_map] at hx
        obtain ⟨y, hy, rfl⟩ := Option.map_eq_some_iff.1 hx
        rw [Nat.zero_add]
        exact (hR.out.2 j _ (strs_get _ j y hy)).1
      · rw [List.map_map]
        have : (piecesS v).map ((fun x : ByteArray => x.data.toList) ∘ fun x => ⟨x.toArray⟩) = piecesS v := by simp [piecesS]
        rw [this]
        have h2 := join_text4 v
        have := HLN.out
        rw [← h2] at this
        exact Nat.le_trans this (by omega)
      · rintro e w2 ⟨rfl, HB2⟩
        have HB3 := Lib.hid (bel_trans HB.out HB2)
        clear HB2
        go_wp2
        go_ret
        refine ⟨⟨_, rfl, ?_⟩, HB3⟩
        unfold Hid
        rw [bl_mk]
        try rw [List.map_map]
        have : (piecesS v).map ((fun x : ByteArray => x.data.toList) ∘ fun x => ⟨x.toArray⟩) = piecesS v := by simp [piecesS]
        rw [this]
        exact join_text4 v
    | succ g' =>
      have hk0 : (k : Int) ≤ 3 := by omega
      obtain ⟨ho, hle⟩ := oct_is v k h0 h1
      have hP := Lib.hid (piece_at v k (by omega))
      obtain ⟨d, hd⟩ : ∃ d, octS v k = d := ⟨_, rfl⟩
      rw [hd] at ho hle hP
      clear hd
      have hsz := HB.out.size
      have HE1 := Lib.hid (HE.out.bel HB.out)
      go_wp2_with (first | (go_at_call 32; go_must (refine (Tryz.strconv_Itoa (d : Int) (by omega) (by omega) _ HE1.out.pow).mono ?_); rintro e w2 ⟨rfl, kk, os, hw2⟩; have HB2 := Lib.hid (show Bel _ w2 by rw [hw2]; exact bel_grow _ kk os); clear hw2) | (at_builtin; go_must (refine app_str (w0 := w) w.heap.size rfl _ _ (by exact rfl) _ ((piecesS v).take k) ⟨(Lib.itoa d).toArray⟩ (by exact rfl) (by exact rfl) (Lib.hid (HO.out.bel HB2.out)) (Lib.hid (bel_trans HB.out HB2.out)) (by have := HB2.out.size; omega) (by simp; omega) ?_); intro v1 w1 HO1 HB1 hs1))
      go_roundg g'
      case measure => omega
      case rel =>
        have hit : Lib.itoa (d : Int) = digs 10 d := by rw [digs10]; unfold Lib.itoa; rw [if_neg (by omega), Int.toNat_natCast]
        refine ⟨k + 1, by congr 1; omega, by omega, ?_, HB1⟩
        rw [List.take_add_one, hP.out, ← hit, ← bl_mk (Lib.itoa d)]
        exact HO1
def partS (v : Int) : Nat → List UInt8
  | 0 => []
  | k + 1 => (if k = 0 then [] else partS v k ++ [46]) ++ digs 10 (octS v k)
theorem part4 (v : Int) : partS v 4 = text4S v := by simp [partS, text4S, dotF]
theorem part_ne (v : Int) (k : Nat) (h : k ≠ 0) : partS v k ≠ [] := by
  cases k with
  | zero => exact absurd rfl h
  | succ k => unfold partS; simp [digs_ne]
theorem part_len (v : Int) (h0 : 0 ≤ v) (h1 : v ≤ 4294967295) : ∀ k, (partS v k).length ≤ 4 * k
  | 0 => Nat.le_refl _
  | k + 1 => by
    have := part_len v h0 h1 k
    have := digs_short _ (oct_is v k h0 h1).2
    unfold partS
    split <;> simp <;> omega
set_option maxHeartbeats 2000000 in
set_option maxRecDepth 100000 in
theorem ref2_Text4 (v : Int) (w : World) (h0 : 0 ≤ v) (h1 : v ≤ 4294967295) :
    Calls Tryz.prog 24 #[.int .u32 v] w fun e w' => (∃ t, e = .returned (.string t) ∧ Hid (bl t = text4S v)) ∧ Hid (Bel w w') := by
  go_enter Tryz.func24, Tryz.ntmps24
  go_wp2
  go_loopg [3, 4] 4 (fun r v3 v4 wr => ∃ (k : Nat) (t : ByteArray), v3 = .string t ∧ v4 = .int .i64 (24 - 8 * k) ∧ k + r = 4 ∧ t.size ≤ 16 ∧ Hid (bl t = partS v k) ∧ Hid (Bel w wr))
  case atStart => exact ⟨0, _, rfl, rfl, by omega, by decide, rfl, by unfold Hid; exact Below.refl _ _⟩
  case round =>
    obtain ⟨k, t, rfl, rfl, hk, ht, HT, HB⟩ := hrel
    cases gk with
    | zero =>
      obtain rfl : k = 4 := by omega
      go_wp2
      go_ret
      exact ⟨⟨_, rfl, HT.out.trans (part4 v)⟩, HB⟩
    | succ g' =>
      have hk0 : (k : Int) ≤ 3 := by omega
      have hk3 : (24 : Int) - 8 * k ≤ 31 := by omega
      obtain ⟨ho, hle⟩ := oct_is v k h0 h1
      have HP : Hid (partS v (k + 1) = (if k = 0 then [] else partS v k ++ [46]) ++ digs 10 (octS v k)) := rfl
      have HLL := Lib.hid (part_len v h0 h1 (k + 1))
      have HNE := Lib.hid (part_ne v k)
      obtain ⟨d, hd⟩ : ∃ d, octS v k = d := ⟨_, rfl⟩
      rw [hd] at ho hle HP
      have HDL := Lib.hid (digs_short d hle)
      clear hd
      by_cases hz : k = 0
      · have hemp : t.toList.isEmpty = true := by rw [str_empty, HT.out, hz]; rfl
        have HZ := Lib.hid hz
        clear hz
        go_wp2_with (go_at_call 59; go_must (refine (ref1_Numeral d _ (by omega)).mono ?_); rintro e w2 ⟨⟨q, rfl, hq⟩, rfl⟩; have hqs : q.size ≤ 3 := by rw [← bl_length, hq.out]; exact HDL.out)
        go_roundg g'
        case measure => omega
        case rel =>
          have HF : Hid (bl (t ++ q) = partS v (k + 1)) := by unfold Hid; rw [bl_append, hq.out, HP.out, if_pos HZ.out, HT.out, HZ.out]; rfl
          exact ⟨k + 1, _, rfl, by congr 1; omega, by omega, by have := HLL.out; rw [← HF.out, bl_length] at this; omega, HF, HB⟩
      · have hemp : t.toList.isEmpty = false := by rw [Bool.eq_false_iff, ne_eq, str_empty, HT.out]; exact HNE.out hz
        have HZ := Lib.hid hz
        clear hz
        go_wp2_with (go_at_call 59; go_must (refine (ref1_Numeral d _ (by omega)).mono ?_); rintro e w2 ⟨⟨q, rfl, hq⟩, rfl⟩; have hqs : q.size ≤ 3 := by rw [← bl_length, hq.out]; exact HDL.out)
        go_roundg g'
        case measure => omega
        case rel =>
          have HF : Hid (bl (t ++ ⟨#[46]⟩ ++ q) = partS v (k + 1)) := by unfold Hid; rw [bl_append, bl_append, hq.out, HP.out, if_neg HZ.out, HT.out]; rfl
          exact ⟨k + 1, _, rfl, by congr 1; omega, by omega, by have := HLL.out; rw [← HF.out, bl_length] at this; omega, HF, HB⟩
end Go.Proofs.YtpgehhnmlihnbaaGreatDoor
