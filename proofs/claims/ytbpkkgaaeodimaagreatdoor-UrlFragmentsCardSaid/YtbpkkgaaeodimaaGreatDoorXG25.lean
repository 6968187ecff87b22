import Derived.Test.YtbpkkgaaeodimaaGreatDoorXG24
import Derived.Test.YtbpkkgaaeodimaaGreatDoorXG22
import Derived.Test.YtbpkkgaaeodimaaGreatDoorXG04
import Derived.Test.YtbpkkgaaeodimaaGreatDoorXG10
import Derived.Test.YtbpkkgaaeodimaaGreatDoorXG14
import Derived.Test.YtbpkkgaaeodimaaGreatDoorXG16
import Derived.Test.YtbpkkgaaeodimaaGreatDoorXG11
namespace Go.Proofs.YtbpkkgaaeodimaaGreatDoor
open Go.RowKit

/-! The reader's path. -/
theorem url_SplitAt (c : UInt8) (s : ByteArray) (w : World) (hs : s.size ≤ 1000000) (HE : Hid (Env w)) :
    Calls Tryz.prog 117 #[.string s, .string ⟨#[c]⟩] w fun e w' => (e = .returned (.slice (some ⟨w.heap.size, 0, none⟩) (cutS c.toNat [] (bl s)).length (cutS c.toNat [] (bl s)).length) ∧ Hid (RdAt w' w.heap.size (strs (cutS c.toNat [] (bl s))))) ∧ Hid (Bel w w') := by
  obtain ⟨m, hm⟩ := HE.out.maxLen
  refine (Tryz.strings_Split s ⟨#[c]⟩ m w (by omega) hm (Nat.le_refl 1)).mono ?_
  rintro e w' ⟨rfl, rfl⟩
  refine ⟨⟨?_, ?_⟩, (Below.refl _ _).alloc (Nat.le_refl _) _⟩
  · rw [split_len]
  · unfold Hid
    rw [split_cut]
    exact RdAt.alloc w _ _
theorem trim_slash (l : List UInt8) : Lib.trimPrefix l [47] = slashless l := by
  unfold Lib.trimPrefix slashless
  cases l with
  | nil => rfl
  | cons x r =>
    by_cases h : x = 47
    · subst h
      simp [Lib.hasPrefix, List.isPrefixOf]
    · have : (47 == x) = false := by simpa using fun e => h e.symm
      simp [Lib.hasPrefix, List.isPrefixOf, this, h]
theorem dots_3 (x : List UInt8) : dotsS x = 0 ∨ dotsS x = 1 ∨ dotsS x = 2 := by
  unfold dotsS
  split
  · exact .inr (.inl rfl)
  · exact .inr (.inr rfl)
  · exact .inl rfl
set_option maxHeartbeats 4000000 in
set_option maxRecDepth 100000 in
theorem rd_path (g : Nat) (c : UrlC) (r : ByteArray) (xv : Value) (hv : List (List UInt8)) (base : Nat) (w0 w : World) (hs : r.size ≤ 1000000) (hh : hv.length ≤ 1000000) (HR : Hid (Rd w0 w g c [.string r] w)) (HX : Hid (PathOwn w base g xv hv)) (hbase : base ≤ w.heap.size) (hb0 : w0.heap.size ≤ base) :
    Calls Tryz.prog 88 #[.pointer (some ⟨g, 0, none⟩), xv] w fun e w' => ∃ a v, e = .returned (.tuple #[]) ∧ Hid (bl a = behindQ (bl r)) ∧ a.size ≤ r.size ∧ Hid (PathOwn w' base g v (pathS hv (aheadQ (bl r)))) ∧ Hid (Rd w0 w' g { c with path := v } [.string a] w') ∧ Hid (BelP (fun k => k = g ∨ xv.ownBlock = some k) w w') := by
  have k12 := HR.out.rest.1
  have hgw : g < w.heap.size := HR.out.row.1
  obtain ⟨AX, cX, rfl⟩ := HX.out.1.shapeS
  have hit := idx_take 63 (bl r)
  go_enter Tryz.func88, Tryz.ntmps88
  go_upto_if 17 with (first | (go_at_call 82; go_must (refine (Tryz.strings_IndexByte r 63 _).mono ?_); rintro e w' ⟨rfl, hw⟩; rw [hw]; clear hw))
  have hib : Lib.indexByte r.data.toList 63 = Lib.indexByte (bl r) 63 := rfl
  rw [hib]
  obtain ⟨ix, hix⟩ : ∃ ix : Int, Lib.indexByte (bl r) 63 = ix := ⟨_, rfl⟩
  rw [hix] at hit ⊢
  clear hib hix
  go_cut [4] (fun v4 wc => ∃ p : ByteArray, v4 = .string p ∧ Hid (bl p = aheadQ (bl r)) ∧ wc = w)
  case first =>
    rcases hit with ⟨i1, i2⟩ | ⟨i1, i2⟩
    · obtain ⟨m, hm⟩ : ∃ m, ((bl r).takeWhile (· != 63)).length = m := ⟨_, rfl⟩
      have hml : m ≤ r.size := by
        rw [← hm, ← bl_length]
        exact (List.takeWhile_sublist _).length_le
      rw [hm] at i2
      subst i2
      have q1 : (0 : Int) ≤ m := by omega
      have q2 : (m : Int) ≤ r.size := by omega
      have HF : Hid (bl (r.extract 0 m) = aheadQ (bl r)) := by
        unfold Hid aheadQ
        rw [bl_extract, ← hm]
        simpa using (take_tw (· != 63) (bl r)).1
      clear hm i1
      go_wp2
      go_meet
      exact ⟨_, rfl, HF, rfl⟩
    · subst i2
      have HF : Hid (bl r = aheadQ (bl r)) := (tw_all 63 (bl r) i1).1.symm
      clear i1
      go_wp2
      go_meet
      exact ⟨r, rfl, HF, rfl⟩
  case rest =>
    obtain ⟨p, rfl, HPa, hwc⟩ := hcut
    subst wc
    clear hit
    have hpl : p.size ≤ r.size := by
      rw [← bl_length, HPa.out, ← bl_length]
      exact (List.takeWhile_sublist _).length_le
    have q1 : (0 : Int) ≤ p.size := by omega
    have q2 : (p.size : Int) ≤ r.size := by omega
    have HRest : Hid (bl (r.extract p.size r.size) = behindQ (bl r)) := by
      unfold Hid behindQ
      rw [bl_suf2, ← bl_length, HPa.out]
      exact (take_tw (· != 63) (bl r)).2
    have hrz : (r.extract p.size r.size).size ≤ r.size := by rw [ByteArray.size_extract]; omega
    obtain ⟨l12, m12⟩ := HR.out.rest
    have HR1 := Lib.hid (HR.out.put 12 (.string (r.extract p.size r.size)) (c' := c) (ext' := [.string (r.extract p.size r.size)]) rfl)
    have HB1 : Hid (BelP (fun k => k = g) w (w.setCell ⟨g, 12, none⟩ (.string (r.extract p.size r.size)))) := BelP.set ⟨g, 12, none⟩ _ rfl
    have htp : Lib.trimPrefix p.data.toList [47] = slashless (bl p) := trim_slash (bl p)
    have hsl : (⟨(slashless (bl p)).toArray⟩ : ByteArray).size ≤ 1000000 := by
      have := slashless_len (bl p)
      rw [← bl_length, bl_mk]
      rw [bl_length] at this
      omega
    go_wp2_with (first | (go_at_call 118; go_must (refine (Tryz.strings_TrimPrefix p ⟨#[47]⟩ _).mono ?_); rintro e w' ⟨rfl, hw⟩; rw [hw, htp]; clear hw))
    generalize (w.setCell ⟨g, 12, none⟩ (.string (r.extract p.size r.size))) = w1 at *
    refine (url_SplitAt 47 _ w1 hsl (Lib.hid HR1.out.envn)).mono ?_
    rintro e w2 ⟨⟨rfl, HR2⟩, HB2⟩
    rw [bl_mk] at HR2 ⊢
    have hw12 := HB1.out.size
    have hbase1 : base ≤ w1.heap.size := Nat.le_trans hbase hw12
    have HX1 := Lib.hid (HX.out.fr HB1.out)
    have HX2 := Lib.hid (HX1.out.bel HB2.out)
    have HRd2 := Lib.hid (HR1.out.step HB2.out)
    have HEW := Lib.hid (HRd2.out.envn)
    have hg2 : ∀ b, Value.ownBlock (.slice AX hv.length cX) = some b → b ≠ w1.heap.size := fun b hb e => by
      have := HX1.out.1.lt b hb
      omega
    have HG2 := Lib.hid hg2
    clear hg2
    have hlen := cutS_len 47 (slashless (bl p)) []
    have hpl2 := slashless_len (bl p)
    rw [bl_length] at hpl2
    have HML := Lib.hid (fun x (h : x ∈ cutS 47 [] (slashless (bl p))) => cut_mem_le 47 (slashless (bl p)) [] h)
    have HPS : Hid (pathS hv (aheadQ (bl r)) = pathF hv (cutS 47 [] (slashless (bl p)))) := by unfold Hid pathS; rw [HPa.out]
    have hslz : (slashless (bl p)).length ≤ 1000000 := by omega
    change Hid (RdAt w2 w1.heap.size (strs (cutS 47 [] (slashless (bl p))))) at HR2
    obtain ⟨ls, hls⟩ : ∃ ls, cutS 47 [] (slashless (bl p)) = ls := ⟨_, rfl⟩
    rw [show ((47 : UInt8).toNat : Int) = 47 from rfl, hls]
    rw [hls] at HR2 hlen HML HPS
    clear hls
    generalize hgg : w1.heap.size = g2 at *
    have hw2 : g2 ≤ w2.heap.size := by rw [← hgg]; exact HB2.out.size
    have HBw2 : Hid (BelP (fun k => k = g) w w2) := HB1.out.trans (.of _ HB2.out)
    clear HB1 HB2 HX1 HR1 HR htp HX k12 l12 m12 hgg hw12
    go_wp2
    go_loopg [1, 36] ls.length (fun g' v1 v36 wr => ∃ (k : Nat) (xs : List (List UInt8)), v36 = .int .i64 k ∧ k + g' = ls.length ∧ Hid (Own wr base 9 v1 (strs xs)) ∧ Hid (pathF xs (ls.drop k) = pathF hv ls) ∧ xs.length ≤ hv.length + k ∧ Hid (BelP (fun b => Value.ownBlock (.slice AX hv.length cX) = some b) w2 wr) ∧ Hid (∀ b, v1.ownBlock = some b → Value.ownBlock (.slice AX hv.length cX) = some b ∨ w2.heap.size ≤ b))
    case atStart => exact ⟨0, hv, rfl, by omega, HX2.out.1, by unfold Hid; rw [List.drop_zero], by omega, BelP.refl _ _, fun b hb => .inl hb⟩
    case round =>
      obtain ⟨k, xs, rfl, hk, HO, HF, hxl, HP, HS⟩ := hrel
      have HB0 : Hid (Bel w0 wr) := BelP.bel HRd2.out.bel (fun b hb => Nat.le_trans hb0 (HX2.out.1.base b hb)) HP.out
      have HEN : Hid (Env wr) := HRd2.out.env.bel HB0.out
      have hbr : base ≤ wr.heap.size := Nat.le_trans hbase (Nat.le_trans HBw2.out.size HP.out.size)
      obtain ⟨A, c5, rfl⟩ := HO.out.shapeS
      by_cases hlt : k < ls.length
      · obtain ⟨t, ht⟩ : ∃ t, ls[k]? = some (bl t) := ⟨⟨ls[k].toArray⟩, by rw [bl_mk, List.getElem?_eq_getElem hlt]⟩
        have htz : t.size ≤ 1000000 := by
          have := HML.out _ (List.mem_of_getElem? ht)
          rw [bl_length, List.length_nil] at this
          omega
        have hcell : wr.cell? ⟨g2, k, none⟩ = some (.string t) := HP.out.cell (fun h => HG2.out _ h rfl) (strs_cell HR2.out ht)
        have HF2 : Hid (pathF (if dotsS (bl t) = 0 then xs ++ [percent 5 (bl t)] else if ls.drop (k + 1) = [] then (if dotsS (bl t) = 2 then xs.dropLast else xs) ++ [[]] else (if dotsS (bl t) = 2 then xs.dropLast else xs)) (ls.drop (k + 1)) = pathF hv ls) := by
          have := HF.out
          rw [drop_next ht, path_step] at this
          exact this
        have hlast : (k + 1 = ls.length ∧ ls.drop (k + 1) = []) ∨ (k + 1 < ls.length ∧ ls.drop (k + 1) ≠ []) := by
          rcases Nat.lt_or_ge (k + 1) ls.length with h | h
          · exact .inr ⟨h, fun e => by have := List.drop_eq_nil_iff.1 e; omega⟩
          · exact .inl ⟨by omega, List.drop_eq_nil_of_le h⟩
        clear HF
        rcases dots_3 (bl t) with hz | hz | hz
        · rw [hz, if_pos rfl] at HF2
          have HD : Hid ((((dotsS (bl t) : Nat) : Int)) = 0) := by unfold Hid; rw [hz]; rfl
          clear hz hlast
          go_wp2_with (first | (go_at_call 119; go_must (refine (url_dots t _ htz HEN).mono ?_); rintro e w4 ⟨rfl, HB4⟩; rw [HD.out]; have HOa := Lib.hid (HO.out.bel HB4.out); have HPa := Lib.hid (HP.out.trans (BelP.of _ HB4.out)); have hba : base ≤ w4.heap.size := Nat.le_trans hbr HB4.out.size) | (go_at_call 84; go_must (refine (infra_Percent t 5 _ (by omega)).mono ?_); rintro e w6 ⟨⟨q, rfl, hq, _⟩, HB6⟩; have HOb := Lib.hid (HOa.out.bel HB6.out); have HPb := Lib.hid (HPa.out.trans (BelP.of _ HB6.out)); have hbb : base ≤ w6.heap.size := Nat.le_trans hba HB6.out.size) | (at_builtin; go_must (refine app_str_p (S := fun b => Value.ownBlock (.slice AX hv.length cX) = some b) (w0 := w2) base rfl _ _ (by exact rfl) _ (xs) q (by exact rfl) (by exact rfl) HOb HPb HS hbb (by omega) ?_); intro v3 w5 HO3 HP3 HS3 hs3))
          go_roundg (gk - 1)
          case measure => omega
          case rel => exact ⟨k + 1, xs ++ [bl q], by go_num, by omega, HO3, by unfold Hid; rw [hq.out]; exact HF2.out, by simp; omega, HP3, HS3⟩
        · rw [hz] at HF2
          have HD : Hid ((((dotsS (bl t) : Nat) : Int)) = 1) := by unfold Hid; rw [hz]; rfl
          clear hz
          rcases hlast with ⟨hl, hn⟩ | ⟨hl, hn⟩
          · rw [if_neg (by decide), if_pos hn, if_neg (by decide)] at HF2
            have he : ((k : Int) == (ls.length : Int) - 1) = true := by rw [beq_iff_eq]; omega
            go_wp2_with (first | (go_at_call 119; go_must (refine (url_dots t _ htz HEN).mono ?_); rintro e w4 ⟨rfl, HB4⟩; rw [HD.out]; have HOa := Lib.hid (HO.out.bel HB4.out); have HPa := Lib.hid (HP.out.trans (BelP.of _ HB4.out)); have hba : base ≤ w4.heap.size := Nat.le_trans hbr HB4.out.size) | (at_builtin; go_must (refine app_str_p (S := fun b => Value.ownBlock (.slice AX hv.length cX) = some b) (w0 := w2) base rfl _ _ (by exact rfl) _ (xs) ⟨#[]⟩ (by exact rfl) (by exact rfl) HOa HPa HS hba (by omega) ?_); intro v3 w5 HO3 HP3 HS3 hs3))
            go_roundg (gk - 1)
            case measure => omega
            case rel => exact ⟨k + 1, xs ++ [[]], by go_num, by omega, HO3, HF2, by simp; omega, HP3, HS3⟩
          · rw [if_neg (by decide), if_neg hn, if_neg (by decide)] at HF2
            have he : ((k : Int) == (ls.length : Int) - 1) = false := by rw [beq_eq_false_iff_ne]; omega
            go_wp2_with (first | (go_at_call 119; go_must (refine (url_dots t _ htz HEN).mono ?_); rintro e w4 ⟨rfl, HB4⟩; rw [HD.out]; have HOa := Lib.hid (HO.out.bel HB4.out); have HPa := Lib.hid (HP.out.trans (BelP.of _ HB4.out)); have hba : base ≤ w4.heap.size := Nat.le_trans hbr HB4.out.size))
            go_roundg (gk - 1)
            case measure => omega
            case rel => exact ⟨k + 1, xs, by go_num, by omega, HOa, HF2, by omega, HPa, HS⟩
        · rw [hz] at HF2
          have HD : Hid ((((dotsS (bl t) : Nat) : Int)) = 2) := by unfold Hid; rw [hz]; rfl
          clear hz
          by_cases hx0 : xs = []
          · subst hx0
            rcases hlast with ⟨hl, hn⟩ | ⟨hl, hn⟩
            · rw [if_neg (by decide), if_pos hn, if_pos rfl] at HF2
              have he : ((k : Int) == (ls.length : Int) - 1) = true := by rw [beq_iff_eq]; omega
              go_wp2_with (first | (go_at_call 119; go_must (refine (url_dots t _ htz HEN).mono ?_); rintro e w4 ⟨rfl, HB4⟩; rw [HD.out]; have HOa := Lib.hid (HO.out.bel HB4.out); have HPa := Lib.hid (HP.out.trans (BelP.of _ HB4.out)); have hba : base ≤ w4.heap.size := Nat.le_trans hbr HB4.out.size) | (at_builtin; go_must (refine app_str_p (S := fun b => Value.ownBlock (.slice AX hv.length cX) = some b) (w0 := w2) base rfl _ _ (by exact rfl) _ ([]) ⟨#[]⟩ (by exact rfl) (by exact rfl) HOa HPa HS hba (by simp) ?_); intro v3 w5 HO3 HP3 HS3 hs3))
              go_roundg (gk - 1)
              case measure => omega
              case rel => exact ⟨k + 1, [] ++ [[]], by go_num, by omega, HO3, HF2, by simp; omega, HP3, HS3⟩
            · rw [if_neg (by decide), if_neg hn, if_pos rfl] at HF2
              have he : ((k : Int) == (ls.length : Int) - 1) = false := by rw [beq_eq_false_iff_ne]; omega
              go_wp2_with (first | (go_at_call 119; go_must (refine (url_dots t _ htz HEN).mono ?_); rintro e w4 ⟨rfl, HB4⟩; rw [HD.out]; have HOa := Lib.hid (HO.out.bel HB4.out); have HPa := Lib.hid (HP.out.trans (BelP.of _ HB4.out)); have hba : base ≤ w4.heap.size := Nat.le_trans hbr HB4.out.size))
              go_roundg (gk - 1)
              case measure => omega
              case rel => exact ⟨k + 1, [], by go_num, by omega, HOa, HF2, by simp, HPa, HS⟩
          · have hpos : 0 < xs.length := List.length_pos_iff.2 hx0
            obtain ⟨g5, c6, hv5, hg5, _, hc5⟩ := HO.out.row (by simpa [strs] using hx0)
            rw [strs_len] at hv5 hc5
            simp only [Value.slice.injEq] at hv5
            obtain ⟨rfl, _, rfl⟩ := hv5
            have HT := Lib.hid (HO.out.take (xs.length - 1) (by rw [strs_len]; omega))
            rw [take_init] at HT
            have hdl : xs.dropLast.length = xs.length - 1 := List.length_dropLast
            have HST : Hid (∀ b, Value.ownBlock (.slice (some ⟨g5, 0, none⟩) (xs.length - 1) c5) = some b → Value.ownBlock (.slice AX hv.length cX) = some b ∨ w2.heap.size ≤ b) := HS
            rcases hlast with ⟨hl, hn⟩ | ⟨hl, hn⟩
            · rw [if_neg (by decide), if_pos hn, if_pos rfl] at HF2
              have he : ((k : Int) == (ls.length : Int) - 1) = true := by rw [beq_iff_eq]; omega
              go_wp2_with (first | (go_at_call 119; go_must (refine (url_dots t _ htz HEN).mono ?_); rintro e w4 ⟨rfl, HB4⟩; rw [HD.out]; have HOa := Lib.hid (HO.out.bel HB4.out); have HPa := Lib.hid (HP.out.trans (BelP.of _ HB4.out)); have hba : base ≤ w4.heap.size := Nat.le_trans hbr HB4.out.size; have HTa := Lib.hid (HT.out.bel HB4.out)) | (at_builtin; go_must (refine app_str_p (S := fun b => Value.ownBlock (.slice AX hv.length cX) = some b) (w0 := w2) base rfl _ _ (by exact rfl) _ (xs.dropLast) ⟨#[]⟩ (by exact rfl) (by exact rfl) HTa HPa HST hba (by simp; omega) ?_); intro v3 w5 HO3 HP3 HS3 hs3))
              go_roundg (gk - 1)
              case measure => omega
              case rel => exact ⟨k + 1, xs.dropLast ++ [[]], by go_num, by omega, HO3, HF2, by simp; omega, HP3, HS3⟩
            · rw [if_neg (by decide), if_neg hn, if_pos rfl] at HF2
              have he : ((k : Int) == (ls.length : Int) - 1) = false := by rw [beq_eq_false_iff_ne]; omega
              go_wp2_with (first | (go_at_call 119; go_must (refine (url_dots t _ htz HEN).mono ?_); rintro e w4 ⟨rfl, HB4⟩; rw [HD.out]; have HOa := Lib.hid (HO.out.bel HB4.out); have HPa := Lib.hid (HP.out.trans (BelP.of _ HB4.out)); have hba : base ≤ w4.heap.size := Nat.le_trans hbr HB4.out.size; have HTa := Lib.hid (HT.out.bel HB4.out)))
              go_roundg (gk - 1)
              case measure => omega
              case rel => exact ⟨k + 1, xs.dropLast, by go_num, by omega, HTa, HF2, by omega, HPa, HST⟩
      · have hge : ¬ (k : Int) < ls.length := by omega
        have HX9 : Hid (xs = pathS hv (aheadQ (bl r))) := by
          have := HF.out
          rw [List.drop_eq_nil_of_le (by omega), pathF] at this
          unfold Hid
          rw [HPS.out, this]
        have hgw2 : g < w2.heap.size := Nat.lt_of_lt_of_le hgw HBw2.out.size
        have hng : ¬ Value.ownBlock (.slice AX hv.length cX) = some g := fun h => HX2.out.2 g h rfl
        have HRow := Lib.hid (HP.out.row hng HRd2.out.row)
        have HRr : Hid (Rd w0 wr g c [.string (r.extract p.size r.size)] wr) := ⟨HRow.out, HB0.out, HRd2.out.big, HRd2.out.env, .refl _ _⟩
        obtain ⟨_, _, _, _, _, _, _, ⟨d7, f7⟩, _⟩ := HRr.out.cells
        have HPO : Hid (PathOwn wr base g (.slice A xs.length c5) xs) := ⟨HO.out, fun b hb => by
          rcases HS.out b hb with h | h
          · exact HX2.out.2 b h
          · omega⟩
        go_wp2
        go_end0
        refine ⟨rfl, r.extract p.size r.size, HRest, hrz, _, ?_, HRr.out.path.now, ?_⟩
        · rw [← HX9.out]; exact HPO.out.fr (BelP.set ⟨g, 7, none⟩ _ rfl)
        · exact ((HBw2.out.mono (fun k _ h => .inl h)).trans (HP.out.mono (fun k _ h => .inr h))).trans ((BelP.set (g := g) ⟨g, 7, none⟩ _ rfl).mono (fun k _ h => .inl h))
end Go.Proofs.YtbpkkgaaeodimaaGreatDoor
namespace Go.Proofs.YtbpkkgaaeodimaaGreatDoor
open Go.RowKit

theorem seg_behind (l : List UInt8) : (segS 63 (behindQ l)).2 = (segS 63 l).2 ∧ ((segS 63 (behindQ l)).1 = []) := by
  have h := tw_mem (p := fun x => x != (63 : UInt8)) l
  have hl : l = aheadQ l ++ behindQ l := (List.takeWhile_append_dropWhile).symm
  have hd : (behindQ l).dropWhile (· != 63) = behindQ l := by
    unfold behindQ
    cases hb : l.dropWhile (· != 63) with
    | nil => rfl
    | cons c t =>
      have hc : (c != 63) = false := by
        have := List.head?_dropWhile_not (fun x : UInt8 => x != 63) l
        rw [hb] at this
        simpa using this
      rw [List.dropWhile_cons, hc]; rfl
  have ht : (behindQ l).takeWhile (· != 63) = [] := by
    have h2 := List.takeWhile_append_dropWhile (p := fun x : UInt8 => x != 63) (l := behindQ l)
    rw [hd] at h2
    have := congrArg List.length h2
    rw [List.length_append] at this
    exact List.eq_nil_of_length_eq_zero (by omega)
  have hc : (behindQ l).contains 63 = l.contains 63 := by
    conv => rhs; rw [hl]
    rw [List.contains_append, show (aheadQ l).contains 63 = false from contains_no (fun x hx => by have := h x hx; simpa using this), Bool.false_or]
  refine ⟨?_, ht⟩
  show ((behindQ l).dropWhile (· != 63) |>.drop 1, (behindQ l).contains 63) = ((l.dropWhile (· != 63)).drop 1, l.contains 63)
  rw [hd, hc]; rfl
theorem ahead_nil (l : List UInt8) : aheadQ l = [] ↔ (l = [] ∨ l.head? = some 63) := by
  unfold aheadQ
  cases l with
  | nil => simp
  | cons x r =>
    rw [List.takeWhile_cons]
    by_cases h : x = 63
    · subst h; simp
    · have : (x != 63) = true := by simpa using h
      rw [this]; simp [h]
set_option maxHeartbeats 1000000 in
set_option maxRecDepth 100000 in
theorem rd_rooted (g : Nat) (c : UrlC) (r : ByteArray) (p : List (List UInt8)) (w0 w : World) (hs : r.size ≤ 1000000) (HR : Hid (Rd w0 w g c [.string r] w)) (hp : aheadQ (bl r) = [] ∧ specialS (bl c.scheme) = false → c.path = .slice none 0 0) :
    Calls Tryz.prog 86 #[.pointer (some ⟨g, 0, none⟩)] w fun e w' => ∃ a c' q, e = .returned (.tuple #[]) ∧ Hid (c'.flat q = rootedS (c.flat p) (bl r)) ∧ Hid (PathOwn w' w.heap.size g c'.path q) ∧ Hid (Rd w0 w g c' [.string a] w') := by
  have k12 := HR.out.rest.1
  obtain ⟨⟨k0, _⟩, _⟩ := HR.out.cells
  have hgw : g < w.heap.size := HR.out.row.1
  have HRT : Hid (rootedS (c.flat p) (bl r) = { c.flat p with path := if aheadQ (bl r) = [] ∧ specialS (bl c.scheme) = false then [] else pathS [] (aheadQ (bl r)), hasQuery := (segS 63 (bl r)).2.2, query := percent (setQ (bl c.scheme)) (segS 63 (bl r)).2.1 }) := by
    unfold Hid rootedS
    rw [show specialS (c.flat p).scheme = specialS (bl c.scheme) from rfl]
    split
    · rfl
    · rfl
  obtain ⟨sp, hsp⟩ : ∃ sp, specialS (bl c.scheme) = sp := ⟨_, rfl⟩
  have HSP := Lib.hid hsp
  rw [hsp] at HRT hp
  clear hsp
  have hcase : (aheadQ (bl r) = [] ∧ ((r.toList == ([] : List UInt8)) = true ∨ ((r.toList == ([] : List UInt8)) = false ∧ ∃ h : 0 < r.size, r[0] = 63))) ∨ (aheadQ (bl r) ≠ [] ∧ (r.toList == ([] : List UInt8)) = false ∧ ∃ h : 0 < r.size, r[0] ≠ 63) := by
    rw [toList_bl]
    by_cases h0 : bl r = []
    · left; exact ⟨(ahead_nil _).2 (.inl h0), .inl (by simpa using h0)⟩
    · have hpos : 0 < r.size := by rw [← bl_length]; exact List.length_pos_iff.2 h0
      have hh : (bl r).head? = some r[0] := by
        have := bl_get r 0 hpos
        rw [List.head?_eq_getElem?]; exact this
      by_cases h63 : r[0] = 63
      · left; exact ⟨(ahead_nil _).2 (.inr (by rw [hh, h63])), .inr ⟨by simpa using h0, hpos, h63⟩⟩
      · right
        refine ⟨fun e => ?_, by simpa using h0, hpos, h63⟩
        rcases (ahead_nil _).1 e with e | e
        · exact h0 e
        · rw [hh] at e; exact h63 (by simpa using e)
  have HQ := fun W c2 (r2 : ByteArray) (hz : r2.size ≤ 1000000) we (h : Hid (Rd w0 we g c2 [.string r2] W)) => rd_query g c2 r2 w0 W hz (Lib.hid h.out.now)
  have HPn := fun W we (h : Hid (Rd w0 we g c [.string r] W)) => rd_path g c r (.slice none 0 0) [] W.heap.size w0 W hs (by simp) (Lib.hid h.out.now) (Lib.hid (PathOwn.nil _ _ _)) (Nat.le_refl _) h.out.bel.size
  have HSG := Lib.hid (seg_behind (bl r))
  by_cases hgo : aheadQ (bl r) = [] ∧ sp = false
  · obtain ⟨hA, rfl⟩ := hgo
    have hnil := hp ⟨hA, rfl⟩
    rw [if_pos ⟨hA, rfl⟩] at HRT
    have HA := Lib.hid hA
    have HN := Lib.hid hnil
    have hcase2 : ((r.toList == ([] : List UInt8)) = true ∨ ((r.toList == ([] : List UInt8)) = false ∧ ∃ h : 0 < r.size, ((r[0].toNat : Int) != 63) = false)) := by
      rcases hcase with ⟨_, h | ⟨h1, hpos, h63⟩⟩ | h
      · exact .inl h
      · exact .inr ⟨h1, hpos, by rw [h63]; rfl⟩
      · exact absurd hA h.1
    clear hcase hp hA hnil
    rcases hcase2 with he | ⟨he, hpos, h63⟩
    all_goals
      go_enter Tryz.func86, Tryz.ntmps86
      go_wp2_with (first | (go_at_call 35; go_must (refine (url_Special _ _).mono ?_); rintro e w' ⟨rfl, rfl⟩; rw [HSP.out]))
      refine (HQ _ c r hs _ HR).mono ?_
      rintro e w2 ⟨a, q, rfl, ha, haz, hq, HR2⟩
      go_wp2
      go_end0
      refine ⟨a, _, [], rfl, ?_, ?_, HR2⟩
      · unfold Hid; rw [HRT.out]; unfold UrlC.flat; simp only []; rw [hq.out]
      · show PathOwn w2 w.heap.size g c.path []
        rw [HN.out]; exact PathOwn.nil _ _ _
  · rw [if_neg hgo] at HRT
    have hcase2 : ((r.toList == ([] : List UInt8)) = true ∧ sp = true) ∨ ((r.toList == ([] : List UInt8)) = false ∧ sp = true ∧ ∃ h : 0 < r.size, ((r[0].toNat : Int) != 63) = false) ∨ ((r.toList == ([] : List UInt8)) = false ∧ ∃ h : 0 < r.size, ((r[0].toNat : Int) != 63) = true) := by
      rcases hcase with ⟨hA, h⟩ | ⟨_, he, hpos, h63⟩
      · have hsp : sp = true := by
          cases sp
          · exact absurd ⟨hA, rfl⟩ hgo
          · rfl
        rcases h with h | ⟨h1, hpos, h63⟩
        · exact .inl ⟨h, hsp⟩
        · exact .inr (.inl ⟨h1, hsp, hpos, by rw [h63]; rfl⟩)
      · refine .inr (.inr ⟨he, hpos, ?_⟩)
        have h9 := u8_is r[0] 63 (by decide)
        have h10 : (r[0] == UInt8.ofNat 63) = false := by simpa using h63
        rw [h10] at h9
        unfold bne
        rw [show ((r[0].toNat : Int) == 63) = false from h9]; rfl
    clear hcase hp hgo
    rcases hcase2 with ⟨he, rfl⟩ | ⟨he, rfl, hpos, h63⟩ | ⟨he, hpos, h63⟩
    all_goals
      go_enter Tryz.func86, Tryz.ntmps86
      go_wp2_with (first | (go_at_call 35; go_must (refine (url_Special _ _).mono ?_); rintro e w' ⟨rfl, rfl⟩; rw [HSP.out]))
      refine (HPn _ _ HR).mono ?_
      rintro e w2 ⟨a, v, rfl, ha, haz, hpo, HR2', hbp⟩
      have HR2 : Hid (Rd w0 w g { c with path := v } [.string a] w2) := ⟨HR2'.out.row, HR2'.out.bel, HR2'.out.big, HR2'.out.env, hbp.out.mono (fun k _ h => by rcases h with h | h; exact h; cases h)⟩
      go_wp2_with fail
      refine (HQ _ { c with path := v } a (by omega) _ HR2).mono ?_
      rintro e w3 ⟨a3, q, rfl, ha3, haz3, hq, HR3'⟩
      have HR3 := Lib.hid (HR2.out.next HR3'.out)
      go_wp2
      go_end0
      refine ⟨a3, { c with path := v, query := q, hasQuery := (segS 63 (bl r)).2.2 }, pathS [] (aheadQ (bl r)), rfl, ?_, hpo.out.fr HR3'.out.fr, ?_⟩
      · unfold Hid; rw [HRT.out]; unfold UrlC.flat; simp only []; rw [hq.out, ha.out, HSG.out.1]
      · rw [show (segS 63 (bl r)).2.2 = (segS 63 (bl a)).2.2 by rw [ha.out, HSG.out.1]]
        exact HR3
end Go.Proofs.YtbpkkgaaeodimaaGreatDoor
namespace Go.Proofs.YtbpkkgaaeodimaaGreatDoor
open Go.RowKit

/-! The reader's authority. -/
def stopsB : ByteArray := ⟨#[47, 63]⟩
theorem stops_asc : Hid (Asc (bl stopsB)) := asc_of (by decide)
theorem idx_stop : ∀ l : List UInt8, ((l.takeWhile fun x => !stopB x).length < l.length ∧ Lib.indexAny l [47, 63] = ((l.takeWhile fun x => !stopB x).length : Int)) ∨ (Lib.indexAny l [47, 63] = -1 ∧ (l.takeWhile fun x => !stopB x) = l)
  | [] => .inr ⟨rfl, rfl⟩
  | b :: l => by
    have hc : ([47, 63] : List UInt8).contains b = stopB b := by
      unfold stopB
      rw [List.contains_cons, List.contains_cons, List.contains_nil, Bool.or_false]
    rw [Lib.indexAny, hc, List.takeWhile_cons]
    cases hb : stopB b
    · rcases idx_stop l with ⟨h1, h2⟩ | ⟨h1, h2⟩
      · left
        rw [h2]
        refine ⟨?_, ?_⟩
        · simpa using h1
        · rw [if_neg Bool.false_ne_true, if_neg (by rw [beq_iff_eq]; omega)]
          simp
      · right
        rw [h1]
        refine ⟨rfl, ?_⟩
        simp only [Bool.not_false, if_true]
        rw [h2]
    · left
      simp
theorem last_at (s : ByteArray) : Lib.lastIndexByte s 64 = atI (lastAt (bl s)) := by
  have hg : ∀ j, j < s.size → (bl s)[j]? = some s.data[j]! := fun j hj => by
    have hj' : j < s.data.size := hj
    show s.data.toList[j]? = _
    rw [Array.getElem?_toList, Array.getElem?_eq_getElem hj', getElem!_pos s.data j hj']
  rcases Lib.lastIndexByte_spec s 64 with ⟨e, h⟩ | ⟨i, hi, e, hc, h⟩
  · have : lastAt (bl s) = none := lastAt_no (fun x hx e64 => by
      obtain ⟨j, hj, hjx⟩ := List.mem_iff_getElem.1 hx
      rw [bl_length] at hj
      have h1 := hg j hj
      rw [List.getElem?_eq_getElem (by rw [bl_length]; exact hj), hjx] at h1
      have h2 := h j hj
      rw [← Option.some.inj h1, e64] at h2
      exact h2 rfl)
    rw [e, this]; rfl
  · have hl : bl s = (bl s).take i ++ 64 :: (bl s).drop (i + 1) := by
      have h1 := hg i hi
      have h2 : s.data[i]! = 64 := by
        have := (u8_eq s.data[i]! 64 (by decide)).1 hc
        exact this
      rw [h2] at h1
      have h3 : (bl s).drop i = 64 :: (bl s).drop (i + 1) := by
        have h4 := List.getElem?_eq_some_iff.1 h1
        rw [List.drop_eq_getElem_cons h4.1, h4.2]
      rw [← h3, List.take_append_drop]
    have hn : ∀ x ∈ (bl s).drop (i + 1), x ≠ 64 := fun x hx e64 => by
      obtain ⟨j, hj, hjx⟩ := List.mem_iff_getElem.1 hx
      rw [List.getElem_drop] at hjx
      rw [List.length_drop, bl_length] at hj
      have h1 := hg (i + 1 + j) (by omega)
      rw [List.getElem?_eq_getElem (by rw [bl_length]; omega), hjx] at h1
      have h2 := h (i + 1 + j) (by omega) (by omega)
      rw [← Option.some.inj h1, e64] at h2
      exact h2 rfl
    have := lastAt_is ((bl s).take i) ((bl s).drop (i + 1)) hn
    rw [← hl, List.length_take, bl_length, Nat.min_eq_left (by omega)] at this
    rw [e, this]; rfl
theorem lib_LastAt (s : ByteArray) (w : World) (hs : s.size ≤ 1000000) :
    Calls Tryz.prog 165 #[.string s, .int .u8 64] w fun e w' => e = .returned (.int .i64 (atI (lastAt (bl s)))) ∧ w' = w := by
  refine (Tryz.strings_LastIndexByte s 64 (by omega) w).mono ?_
  rintro e w' ⟨rfl, rfl⟩
  exact ⟨by rw [last_at], rfl⟩
theorem lastAt_lt {s : ByteArray} {i : Nat} (h : lastAt (bl s) = some i) : i < s.size := by
  by_cases hm : (64 : UInt8) ∈ bl s
  · obtain ⟨a, b, e, hb⟩ := last_split _ hm
    have h2 := lastAt_is a b hb
    rw [← e, h] at h2
    have h3 := congrArg List.length e
    rw [bl_length, List.length_append, List.length_cons] at h3
    have := Option.some.inj h2
    omega
  · rw [lastAt_no (fun x hx e => hm (e ▸ hx))] at h; cases h
end Go.Proofs.YtbpkkgaaeodimaaGreatDoor
