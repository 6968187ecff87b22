import Derived.Test.YtpgehhnmlihnbaaGreatDoorXBad
import Derived.Test.YtpgehhnmlihnbaaGreatDoorXHost1
import Derived.Lib.IndexAny
import Derived.WalkMore
import Derived.StillTailTactics
import Derived.Laws.Runes
namespace Go.Proofs.YtpgehhnmlihnbaaGreatDoor
open Go.RowKit

theorem enc_pick (r : Int) (h0 : 128 ≤ r) (hv : Lib.validRune r = true) : ∃ (E : ByteArray) (m : Nat), Utf8.encode r = E ∧ E.size = m + 1 ∧ 1 ≤ m ∧ m ≤ 3 ∧ ∀ h : m < E.size, 128 ≤ (E[m]'h).toNat := by
  have hvv : Utf8.valid r = true := by
    unfold Lib.validRune at hv
    rw [decide_eq_true_eq] at hv
    unfold Utf8.valid
    simp only [Bool.or_eq_true, Bool.and_eq_true, decide_eq_true_eq]
    omega
  obtain ⟨e1, e2, e3⟩ := encode_facts r hvv h0
  exact ⟨_, (Utf8.encode r).size - 1, rfl, by omega, by omega, by omega, e3⟩
theorem asc_part {l : List UInt8} (h : Asc l) (n k : Nat) (b : UInt8) (hb : 128 ≤ b.toNat) : Lib.indexByte ((l.drop k).take n) b < 0 := by
  rw [idx_lt, Bool.eq_false_iff]
  intro hc
  have := h b ((List.drop_sublist _ _).subset ((List.take_sublist _ _).subset (List.contains_iff_mem.1 hc)))
  omega
theorem bel_drewA (w : World) (n : Nat) : Bel w (w.drewN n).drew := ⟨rfl, rfl, rfl, Nat.le_refl _, fun _ _ => rfl⟩
theorem bel_drew (w : World) : Bel w w.drew := ⟨rfl, rfl, rfl, Nat.le_refl _, fun _ _ => rfl⟩
set_option maxHeartbeats 2000000 in
set_option maxRecDepth 100000 in
theorem lib_IndexRune (t : ByteArray) (r : Int) (w : World) (ht : Hid (Asc (bl t))) (_hts : t.size ≤ 1000) (h0 : 128 ≤ r) (h1 : r ≤ 2147483647) :
    Calls Tryz.prog 97 #[.string t, .int .i32 r] w fun e w' => e = .returned (.int .i64 (-1)) ∧ Hid (Bel w w') := by
  by_cases hne : r = 65533
  · subst hne
    clear h0 h1
    go_enter Tryz.func97, Tryz.ntmps97
    go_wp2_with fail
    go_loopg [5] t.size (fun g _ wr => ∃ i : Nat, i + g = t.size ∧ Hid (wr.heap[w.heap.size]? = some (.stringIter t i)) ∧ Hid (Bel w wr))
    case atStart => exact ⟨0, by omega, World.iter_heap w t 0, (Below.refl _ _).alloc (Nat.le_refl _) _⟩
    case round =>
      obtain ⟨i, hig, HW, HB⟩ := hrel
      cases gk with
      | zero =>
        have hnx := fun ty => Lib.run_next_end_at (P := Tryz.prog) wr w.heap.size t i ty HW.out (by omega)
        go_wp2
        go_ret
        exact ⟨rfl, HB⟩
      | succ g =>
        have hi : i < t.size := by omega
        have hta := bl_asc ht.out i hi
        have hnx := fun ty => Lib.run_next_ascii_at (P := Tryz.prog) wr w.heap.size t i ty HW.out hi hta
        have HWn := Lib.hid (Lib.iterAt_heap wr w.heap.size t i (i + 1) HW.out)
        have HBn := Lib.hid (Lib.below_iterAt HB.out (Nat.le_refl _) t (i + 1))
        have hne : ((t[i].toNat : Int) == 65533) = false := by rw [beq_eq_false_iff_ne]; omega
        go_wp2
        go_roundg g
        case measure => omega
        case rel => exact ⟨i + 1, by omega, HWn, HBn⟩
  · have hb : (r == 65533) = false := by simp [hne]
    cases hv : Lib.validRune r
    · have HVV := Lib.hid hv
      clear hv
      go_enter Tryz.func97, Tryz.ntmps97
      go_wp2_with (go_at_call 123; go_must (refine (Tryz.utf8_ValidRune r _).mono ?_); rintro e w' ⟨rfl, hw⟩; rw [hw, HVV.out])
      go_ret
      exact ⟨rfl, by unfold Hid; exact Below.refl _ _⟩
    · obtain ⟨E, m, hE, hm, hm1, hm3, hl⟩ := enc_pick r h0 hv
      have hmE : m < E.size := by omega
      have hlast := hl hmE
      have HVV := Lib.hid hv
      clear hv hl
      go_enter Tryz.func97, Tryz.ntmps97
      go_wp2_with (go_at_call 123; go_must (refine (Tryz.utf8_ValidRune r _).mono ?_); rintro e w' ⟨rfl, hw⟩; rw [hw, HVV.out])
      go_step3
      go_wp2
      have hE1 := Lib.hid hE
      clear hE
      go_loopg [9] 1 (fun g v9 wr => v9 = .int .i64 m ∧ w = wr)
      case atStart => exact ⟨by first | rfl | (congr 1; omega), rfl⟩
      case round =>
        obtain ⟨rfl, rfl⟩ := hrel
        have HMM := Lib.hid hm
        clear hm
        by_cases hbm : m < t.size
        · have hba : (t[m]).toNat < 128 := bl_asc ht.out m hbm
          have hneb : ((t[m].toNat : Int) == (E[m].toNat : Int)) = false := by rw [beq_eq_false_iff_ne]; omega
          go_wp2_with fail
          go_step3
          go_upto_region 6 with (fail)
          go_quiet (fail)
          go_upto_region 7 with (fail)
          have w1 : IntKind.i64.wrap ((m : Int) + 1) = (m : Int) + 1 := IntWalk.i64_in _ (by omega)
          have p1 : 0 ≤ (m : Int) + 1 := by omega
          have p2 : (m : Int) + 1 ≤ t.size := by omega
          have p3 : ((m : Int) + 1).toNat = m + 1 := by omega
          have HX : Hid (∀ n k, Lib.indexByte ((t.data.toList.drop k).take n) E[m] < 0) := fun n k => asc_part ht.out n k _ hlast
          go_still_tail 7, (by kernel_rfl)
          change wpList _ _ _ _ _ (w.drewN nq).drew
          have HB2 : Hid (Bel w (w.drewN nq).drew) := bel_drewA w nq
          generalize (w.drewN nq).drew = w2 at *
          go_wp2_with (go_at_call 76; go_must (refine (Tryz.strings_IndexByte _ _ _).mono ?_); rintro e w' ⟨rfl, hw⟩; rw [hw])
          · rw [Exit.noGoto_ret]
            simp only [Exit.inBlock, Exit.then, Exit.noGoto_ret]
            go_ret
            exact ⟨rfl, HB2⟩
          · exfalso
            have hq := HX.out (t.size - (m + 1)) (m + 1)
            omega
        · go_wp2_with fail
          try simp only [Exit.inBlock, Exit.noGoto_ret]
          go_ret
          exact ⟨rfl, by unfold Hid; exact Below.refl _ _⟩

theorem decodeN_tail (n b0 b1 b2 b3 : Nat) :
    (2 ≤ (Lib.decodeN n b0 b1 b2 b3).2 → b1 / 64 = 2) ∧ (3 ≤ (Lib.decodeN n b0 b1 b2 b3).2 → b2 / 64 = 2) ∧ (4 ≤ (Lib.decodeN n b0 b1 b2 b3).2 → b3 / 64 = 2) ∧ (Lib.decodeN n b0 b1 b2 b3).2 ≤ 4 ∧ (1 ≤ n → (Lib.decodeN n b0 b1 b2 b3).2 ≤ n) := by
  unfold Lib.decodeN
  repeat' split
  all_goals (simp only; omega)
theorem decode_tail (s : ByteArray) (i j : Nat) (hi : i < s.size) (hh : 128 ≤ s[i].toNat) (h1 : i ≤ j) (h2 : j < i + (Utf8.decode s i).2) (x : UInt8) (hx : (bl s)[j]? = some x) : 128 ≤ x.toNat := by
  rw [Lib.decode_N] at h2
  obtain ⟨a, b, c, d, _⟩ := decodeN_tail (s.data.toList.length - i) (s.data.toList.getD i 0).toNat (s.data.toList.getD (i + 1) 0).toNat (s.data.toList.getD (i + 2) 0).toNat (s.data.toList.getD (i + 3) 0).toNat
  have hg : s.data.toList.getD j 0 = x := by rw [List.getD_eq_getElem?_getD]; change ((bl s)[j]?).getD 0 = x; rw [hx]; rfl
  have hj : j = i ∨ j = i + 1 ∨ j = i + 2 ∨ j = i + 3 := by omega
  rcases hj with rfl | rfl | rfl | rfl
  · rw [bl_get s j hi] at hx; injection hx with hx; rw [← hx]; exact hh
  · have := a (by omega); rw [hg] at this; omega
  · have := b (by omega); rw [hg] at this; omega
  · have := c (by omega); rw [hg] at this; omega
theorem decode_end (s : ByteArray) (i : Nat) (hi : i < s.size) : i + (Utf8.decode s i).2 ≤ s.size := by
  rw [Lib.decode_N]
  have := (decodeN_tail (s.data.toList.length - i) (s.data.toList.getD i 0).toNat (s.data.toList.getD (i + 1) 0).toNat (s.data.toList.getD (i + 2) 0).toNat (s.data.toList.getD (i + 3) 0).toNat).2.2.2.2
  have hl : s.data.toList.length = s.size := bl_length s
  rw [hl] at this ⊢
  have := this (by omega)
  omega
theorem noany_jump {s : ByteArray} {t : List UInt8} (ht : Asc t) {i : Nat} (hi : i < s.size) (hh : 128 ≤ s[i].toNat) (h : Lib.NoAny (bl s) t i) : Lib.NoAny (bl s) t (i + (Utf8.decode s i).2) := by
  intro j b hj hb
  by_cases hlt : j < i
  · exact h j b hlt hb
  · have := decode_tail s i j hi hh (by omega) hj b hb
    rw [Bool.eq_false_iff]
    intro hc
    have := ht b (List.contains_iff_mem.1 hc)
    omega
theorem any_index (t : List UInt8) : ∀ l : List UInt8, decide (0 ≤ Lib.indexAny l t) = l.any t.contains
  | [] => rfl
  | b :: l => by
    have ih := any_index t l
    have hg := Lib.indexAny_ge t l
    rw [Lib.indexAny, List.any_cons]
    cases t.contains b
    · rw [← ih, if_neg Bool.false_ne_true, Bool.false_or]
      by_cases h : Lib.indexAny l t = -1
      · rw [h]; rfl
      · rw [if_neg (by simpa using h)]
        congr 1
        exact propext ⟨fun _ => by omega, fun _ => by omega⟩
    · rfl
theorem zero_set (w : World) : (zeroValue 115).run Tryz.prog w = .ok (.agg (Array.replicate 256 (.bool false))) w := (zero_of_info (show (Tryz.prog.info? 115).map (fun i => (i.zero, i.size)) = some (some (.agg (Array.replicate 256 (.bool false))), 256) by kernel_rfl)).1 w
set_option maxHeartbeats 2000000 in
set_option maxRecDepth 100000 in
theorem lib_IndexAny (s t : ByteArray) (w : World) (hs : s.size ≤ 1000000) (ht : Hid (Asc (bl t))) (ht2 : 2 ≤ t.size) (hts : t.size ≤ 1000) :
    Calls Tryz.prog 74 #[.string s, .string t] w fun e w' => e = .returned (.int .i64 (Lib.indexAny (bl s) (bl t))) ∧ Hid (Bel w w') := by
  by_cases h8 : 8 < s.size
  · refine (Tryz.strings_IndexAny_long zero_set s t w ht2 h8 (by omega) (by omega) (fun j b hb => ht.out b (List.mem_of_getElem? hb))).mono ?_
    rintro e w' ⟨rfl, rfl⟩
    exact ⟨rfl, ((Below.refl _ _).alloc (Nat.le_refl _) _).alloc (by simp) _⟩
  · have h8z : decide ((8 : Int) < (s.size : Int)) = false := by simp; omega
    have hemp : t.toList.isEmpty = false := by rw [Bool.eq_false_iff, ne_eq, str_empty]; intro h; have := bl_length t; rw [h] at this; simp at this; omega
    have hn1 : ((t.size : Int) == 1) = false := by rw [beq_eq_false_iff_ne]; omega
    go_enter Tryz.func74, Tryz.ntmps74
    go_wp2_with (go_at_call 98; go_must (refine (Tryz.strings_shouldUseASCIISet _ _).mono ?_); rintro e w' ⟨rfl, hw⟩; rw [hw, h8z])
    go_loopg [9, 10] s.size (fun g _ _ wr => ∃ i : Nat, i ≤ s.size ∧ s.size - i ≤ g ∧ Hid (wr.heap[w.heap.size]? = some (.stringIter s i)) ∧ Hid (Lib.NoAny (bl s) (bl t) i) ∧ Hid (Bel w wr))
    case atStart => exact ⟨0, by omega, by omega, World.iter_heap w s 0, Lib.NoAny.zero _ _, (Below.refl _ _).alloc (Nat.le_refl _) _⟩
    case round =>
      obtain ⟨i, hi, hig, HW, HN, HB⟩ := hrel
      by_cases hlt : i < s.size
      · have hnx := fun ty => Lib.run_next_any_at (P := Tryz.prog) wr w.heap.size s i ty HW.out hlt
        have HWn := Lib.hid (Lib.iterAt_heap wr w.heap.size s i (i + (Utf8.decode s i).2) HW.out)
        have HBn := Lib.hid (Lib.below_iterAt HB.out (Nat.le_refl _) s (i + (Utf8.decode s i).2))
        have hle := decode_end s i hlt
        have hpos := Lib.width_pos s i
        obtain ⟨g, rfl⟩ : ∃ g, gk = g + 1 := ⟨gk - 1, by omega⟩
        by_cases hx : s[i].toNat < 128
        · have hd1 := decode_ascii s i hlt hx
          rw [hd1] at hnx HWn HBn hle
          have hbk : ((s[i].toNat : Int)).toNat.toUInt8 = s[i] := back_u8 _
          cases hc : (bl t).contains s[i]
          · have hlt2 : Lib.indexByte t.data.toList s[i] < 0 := idx_lt.2 hc
            have HN2 : Hid (Lib.NoAny (bl s) (bl t) (i + 1)) := HN.out.succ (bl_get s i hlt) hc
            clear hc hd1 HW HB
            go_wp2_with (go_at_call 97; go_must (refine (Tryz.strings_IndexRune_ascii _ _ _ (by omega) (by omega)).mono ?_); rintro e w' ⟨rfl, hw⟩; rw [hw, hbk])
            go_roundg g
            case measure => omega
            case rel => exact ⟨i + 1, by omega, by omega, HWn, HN2, HBn⟩
          · have hlt2 : 0 ≤ Lib.indexByte t.data.toList s[i] := idx_ge.2 hc
            have HR : Hid (Lib.indexAny (bl s) (bl t) = i) := Lib.indexAny_hit HN.out (bl_get s i hlt) hc
            clear hc hd1 HW HB
            go_wp2_with (go_at_call 97; go_must (refine (Tryz.strings_IndexRune_ascii _ _ _ (by omega) (by omega)).mono ?_); rintro e w' ⟨rfl, hw⟩; rw [hw, hbk])
            go_ret
            exact ⟨by rw [HR.out]; rfl, HBn⟩
        · have HN2 : Hid (Lib.NoAny (bl s) (bl t) (i + (Utf8.decode s i).2)) := noany_jump ht.out hlt (by omega) HN.out
          have hd := (decode_high s i hlt (by omega)).1
          have hd2 := Lib.rune_le s i
          generalize Utf8.decode s i = d at *
          obtain ⟨c, n⟩ := d
          have hd' : 128 ≤ c := hd
          have hd2' : c ≤ 1114111 := hd2
          clear hd hd2 HW HB
          go_wp2_with (go_at_call 97; go_must (refine (lib_IndexRune t (c : Int) _ ht hts (by omega) (by omega)).mono ?_); rintro e w2 ⟨rfl, HB2⟩)
          have HW2 : Hid (w2.heap[w.heap.size]? = some (.stringIter s (i + n))) := by
            obtain ⟨_, _, _, _, hk⟩ := HB2.out
            exact (hk _ (Array.getElem?_eq_some_iff.1 HWn.out).1).trans HWn.out
          have HB3 : Hid (Bel w w2) := HBn.out.trans (HB2.out.mono HBn.out.size)
          go_roundg g
          case measure => omega
          case rel => exact ⟨i + n, by omega, by omega, HW2, HN2, HB3⟩
      · obtain rfl : i = s.size := by omega
        have hnx := fun ty => Lib.run_next_end_at (P := Tryz.prog) wr w.heap.size s s.size ty HW.out (by omega)
        have HR : Hid (Lib.indexAny (bl s) (bl t) = -1) := Lib.indexAny_none (by rw [bl_length]; exact HN.out)
        go_wp2_with fail
        go_ret
        exact ⟨by rw [HR.out]; rfl, HB⟩
theorem lib_ContainsAny (s t : ByteArray) (w : World) (hs : s.size ≤ 1000000) (ht : Hid (Asc (bl t))) (ht2 : 2 ≤ t.size) (hts : t.size ≤ 1000) :
    Calls Tryz.prog 42 #[.string s, .string t] w fun e w' => e = .returned (.bool ((bl s).any (bl t).contains)) ∧ Hid (Bel w w') := by
  have HA : Hid (decide (0 ≤ Lib.indexAny (bl s) (bl t)) = (bl s).any (bl t).contains) := any_index _ _
  go_enter Tryz.func42, Tryz.ntmps42
  go_wp2_with fail
  refine (lib_IndexAny s t w hs ht ht2 hts).mono ?_
  rintro e w1 ⟨rfl, HB⟩
  go_wp2
  go_ret
  exact ⟨by rw [← HA.out]; rfl, HB⟩
end Go.Proofs.YtpgehhnmlihnbaaGreatDoor
