import Derived.Test.YtpgehhnmlihnbaaGreatDoorXPar2
namespace Go.Proofs.YtpgehhnmlihnbaaGreatDoor
open Go.RowKit

theorem any_hit {p : UInt8 → Bool} {s : ByteArray} {k : Nat} (h : k < s.size) (hp : p s[k] = true) : (bl s).any p = true := List.any_eq_true.2 ⟨_, List.mem_of_getElem? (bl_get s k h), hp⟩
set_option maxHeartbeats 4000000 in
set_option maxRecDepth 100000 in
theorem ref2_Parse (s : ByteArray) (special : Bool) (w : World) (hs : s.size ≤ 1000000) (HE : Hid (Env w)) :
    Calls Tryz.prog 19 #[.string s, .bool special] w fun e w' => parsed2 (parseS (bl s) special) e ∧ Hid (Bel w w') := by
  have HP : Hid (parseS (bl s) special = if begins (bl s) [91] = true then if ends (bl s) [93] = true then (sixS (((bl s).drop 1).take ((bl s).length - 2))).map (fun xs => 91 :: (text6S xs ++ [93])) else none
    else if special = true then namedS (lower (unpercent (bl s))) else if (bl s).any badS = true then none else some (percent 1 (bl s))) := rfl
  have H2 : Hid (begins (bl s) [91] = true → ends (bl s) [93] = true → 2 ≤ s.size) := fun a b => by have := both_ends a b; rw [bl_length] at this; exact this
  have e1 : bl ⟨#[91]⟩ = [91] := rfl
  have e2 : bl ⟨#[93]⟩ = [93] := rfl
  generalize hA : begins (bl s) [91] = a at *
  generalize hB : ends (bl s) [93] = b at *
  have HA := Lib.hid hA
  have HB := Lib.hid hB
  clear hA hB
  cases a
  · cases special
    · have HP2 : Hid (parseS (bl s) false = if (bl s).any badS = true then none else some (percent 1 (bl s))) := HP.out
      clear HP H2
      go_enter Tryz.func19, Tryz.ntmps19
      go_wp2_with (go_at_call 47; go_must (refine (ref1_Begins _ _ _).mono ?_); rintro e w' ⟨rfl, rfl⟩; rw [e1, HA.out])
      go_loopg [8] s.size (fun g v8 wr => ∃ k : Nat, v8 = .int .i64 k ∧ k + g = s.size ∧ Hid (((bl s).take k).any badS = false) ∧ w = wr)
      case atStart => exact ⟨0, rfl, by omega, rfl, rfl⟩
      case round =>
        obtain ⟨k, rfl, hk, HI, rfl⟩ := hrel
        cases gk with
        | zero =>
          have HF : Hid (parseS (bl s) false = some (percent 1 (bl s))) := by
            have := HI.out
            rw [List.take_of_length_le (by rw [bl_length]; omega)] at this
            unfold Hid; rw [HP2.out, this]; rfl
          clear HP2
          go_wp2_with fail
          refine (ref1_Percent s 1 _ (by omega)).mono ?_
          rintro e w2 ⟨⟨t, rfl, ht⟩, n, rfl⟩
          go_wp2
          go_ret2
          exact ⟨parsed2_some (by rw [HF.out, ht.out]), bel_drewN _ _⟩
        | succ g =>
          have hlt : k < s.size := by omega
          cases hb : badS s[k]
          · have HI2 : Hid (((bl s).take (k + 1)).any badS = false) := by unfold Hid; rw [any_take s k hlt, HI.out, hb]; rfl
            have HBB := Lib.hid hb
            clear hb
            go_wp2_with (go_at_call 49; go_must (refine (ref2_bad _ _).mono ?_); rintro e w' ⟨rfl, rfl⟩; rw [HBB.out])
            go_roundg g
            case measure => omega
            case rel => exact ⟨k + 1, by go_num, by omega, HI2, rfl⟩
          · have HF : Hid (parseS (bl s) false = none) := by
              unfold Hid; rw [HP2.out, any_hit hlt hb]; rfl
            have HBB := Lib.hid hb
            clear hb
            go_wp2_with (go_at_call 49; go_must (refine (ref2_bad _ _).mono ?_); rintro e w' ⟨rfl, rfl⟩; rw [HBB.out])
            go_ret2
            exact ⟨parsed2_none HF.out, by unfold Hid; exact Below.refl _ _⟩
    · have HP2 : Hid (parseS (bl s) true = namedS (lower (unpercent (bl s)))) := HP.out
      clear HP H2
      go_enter Tryz.func19, Tryz.ntmps19
      go_wp2_with (go_at_call 47; go_must (refine (ref1_Begins _ _ _).mono ?_); rintro e w' ⟨rfl, rfl⟩; rw [e1, HA.out])
      refine (ref1_Unpercent s _ (by omega)).mono ?_
      rintro e w1 ⟨⟨t, rfl, ht, htz⟩, HB1⟩
      have HE1 := Lib.hid (HE.out.bel HB1.out)
      go_wp2_with fail
      refine (ref1_Lower t _ (by omega)).mono ?_
      rintro e w2 ⟨⟨u, rfl, hu⟩, HB2⟩
      have hlu : u.size = t.size := by have := congrArg List.length hu.out; rw [lower_len, bl_length, bl_length] at this; exact this
      have HE2 := Lib.hid (HE1.out.bel HB2.out)
      have HB3 := Lib.hid (bel_trans HB1.out HB2.out)
      have HF : Hid (parseS (bl s) true = namedS (bl u)) := by unfold Hid; rw [HP2.out, hu.out, ht.out]
      have hus : u.size ≤ 1000000 := by omega
      clear HP2 hlu htz HB1 HB2 HE1 hu ht
      go_wp2_with fail
      go_loopg [9] u.size (fun g v9 wr => ∃ k : Nat, v9 = .int .i64 k ∧ k + g = u.size ∧ Hid (((bl u).take k).all fineB = true) ∧ w2 = wr)
      case atStart => exact ⟨0, rfl, by omega, rfl, rfl⟩
      case round =>
        obtain ⟨k, rfl, hk, HI, rfl⟩ := hrel
        cases gk with
        | succ g =>
          have hlt : k < u.size := by omega
          obtain ⟨c, hc⟩ : ∃ c, u[k] = c := ⟨_, rfl⟩
          cases hf : fineB c
          · have HN : Hid (parseS (bl s) true = none) := HF.out.trans (named_bad (all_not hlt hc hf))
            rcases not_fine hf with h1 | ⟨h1, h2⟩ | ⟨h1, h2, h3⟩ | ⟨h1, h2, h3, h4⟩
            all_goals
              clear hf
              go_wp2_with (go_at_call 49; go_must (refine (ref2_bad _ _).mono ?_); rintro e w' ⟨rfl, rfl⟩; rw [h4])
              go_ret2
              exact ⟨parsed2_none HN.out, HB3⟩
          · obtain ⟨h1, h2, h3, h4⟩ := is_fine hf
            have HI2 : Hid (((bl u).take (k + 1)).all fineB = true) := by unfold Hid; rw [all_take u k hlt, HI.out, hc, hf]; rfl
            clear hf
            go_wp2_with (go_at_call 49; go_must (refine (ref2_bad _ _).mono ?_); rintro e w' ⟨rfl, rfl⟩; rw [h4])
            go_roundg g
            case measure => omega
            case rel => exact ⟨k + 1, by go_num, by omega, HI2, rfl⟩
        | zero =>
          obtain rfl : k = u.size := by omega
          have HA2 : Hid ((bl u).all fineB = true) := by have := HI.out; rw [List.take_of_length_le (by rw [bl_length]; exact Nat.le_refl _)] at this; exact this
          clear HI hk
          go_wp2_with fail
          refine (ref1_CutS 46 u _ hus).mono ?_
          rintro e w3 ⟨⟨g, c, rfl, hc, hR⟩, HB4⟩
          have HC : Hid ((cutS 46 [] (bl u)).length ≤ u.size + 1) := by have := cutS_len 46 (bl u) []; rw [bl_length] at this; exact this
          have hml : ∀ x ∈ cutS 46 [] (bl u), x.length ≤ u.size := fun x hx => by have := cut_mem_len hx; rw [bl_length] at this; exact this
          have HNX : Hid ((cutS 46 [] (bl u)).any xnB = true → namedS (bl u) = none) := named_xn
          have HNN : Hid ((cutS 46 [] (bl u)).any xnB = false → bl u ≠ [] → namedS (bl u) = if numberedS (bl u) = true then (fourS (bl u)).map text4S else some (bl u)) := by
            intro h1 h2
            cases h4 : numberedS (bl u)
            · rw [named_name HA2.out h1 h2 h4, if_neg Bool.false_ne_true]
            · rw [named_num HA2.out h1 h2 h4, if_pos rfl]
          have HML := Lib.hid hml
          have hcb := HC.out
          have HE3 := Lib.hid (HE2.out.bel HB4.out)
          have HB5 := Lib.hid (bel_trans HB3.out HB4.out)
          clear hml
          generalize cutS 46 [] (bl u) = ls at *
          go_wp2_with fail
          go_loopg [11] ls.length (fun g v wr => ∃ k : Nat, v = .int .i64 k ∧ k + g = ls.length ∧ Hid ((ls.take k).any xnB = false) ∧ w3 = wr)
          case atStart => exact ⟨0, rfl, by omega, rfl, rfl⟩
          case round =>
            obtain ⟨k, rfl, hk, HA, rfl⟩ := hrel
            cases gk with
            | succ g' =>
              have hlt : k < ls.length := by omega
              obtain ⟨y, hy⟩ : ∃ y, ls[k]? = some (bl y) := ⟨⟨(ls[k]'hlt).toArray⟩, by rw [bl_mk]; exact List.getElem?_eq_getElem _⟩
              have hcell := strs_cell hR.out hy
              have HA2 : Hid ((ls.take (k + 1)).any xnB = xnB (bl y)) := by
                unfold Hid
                rw [List.take_add_one, hy, List.any_append, HA.out]; simp
              have HPX : Hid (begins (bl y) (bl ⟨#[120, 110, 45, 45]⟩) = xnB (bl y)) := rfl
              have HU := Lib.hid hy
              clear hy
              generalize xnB (bl y) = b at *
              cases b
              · go_wp2_with (go_at_call 47; go_must (refine (ref1_Begins _ _ _).mono ?_); rintro e w' ⟨rfl, rfl⟩; rw [HPX.out])
                go_roundg g'
                case measure => omega
                case rel => exact ⟨k + 1, by go_num, by omega, HA2, rfl⟩
              · have HN : Hid (parseS (bl s) true = none) := HF.out.trans (HNX.out (by
                  have h2 := HA2.out
                  rw [List.any_eq_true] at h2 ⊢
                  obtain ⟨x, hx, hp⟩ := h2
                  exact ⟨x, (List.take_sublist _ _).subset hx, hp⟩))
                go_wp2_with (go_at_call 47; go_must (refine (ref1_Begins _ _ _).mono ?_); rintro e w' ⟨rfl, rfl⟩; rw [HPX.out])
                go_ret2
                exact ⟨parsed2_none HN.out, HB5⟩
            | zero =>
              obtain rfl : k = ls.length := by omega
              have HX : Hid (ls.any xnB = false) := by have := HA.out; rw [List.take_of_length_le (Nat.le_refl _)] at this; exact this
              by_cases h0 : bl u = []
              · have h0' : u.toList.isEmpty = true := (str_empty u).2 h0
                have HF : Hid (parseS (bl s) true = none) := HF.out.trans (named_nil h0)
                clear h0
                go_wp2
                go_ret2
                exact ⟨parsed2_none HF.out, HB5⟩
              · have h0' : u.toList.isEmpty = false := by rw [Bool.eq_false_iff, ne_eq, str_empty]; exact h0
                have HF := Lib.hid (HF.out.trans (HNN.out HX.out h0))
                clear h0
                go_wp2_with fail
                refine (ref2_Numbered u _ hus HE3).mono ?_
                rintro e w4 ⟨rfl, HB6⟩
                have HB7 := Lib.hid (bel_trans HB5.out HB6.out)
                have HE4 := Lib.hid (HE3.out.bel HB6.out)
                cases hn : numberedS (bl u)
                · have HF2 := Lib.hid (HF.out.trans (by rw [hn, if_neg Bool.false_ne_true]) : parseS (bl s) true = some (bl u))
                  clear hn
                  go_wp2
                  go_ret2
                  exact ⟨parsed2_some HF2.out, HB7⟩
                · have HF2 := Lib.hid (HF.out.trans (by rw [hn, if_pos rfl]) : parseS (bl s) true = (fourS (bl u)).map text4S)
                  clear hn
                  go_wp2_with fail
                  refine (ref2_Four u _ hus HE4).mono ?_
                  rintro e w5 ⟨rfl, HB8⟩
                  have HB9 := Lib.hid (bel_trans HB7.out HB8.out)
                  cases hv : fourS (bl u) with
                  | none =>
                    have HF3 : Hid (parseS (bl s) true = none) := by rw [hv] at HF2; exact HF2
                    rw [show fourV none = 0 from rfl, show (none : Option Int).isSome = false from rfl]
                    clear hv
                    go_wp2
                    go_ret2
                    exact ⟨parsed2_none HF3.out, HB9⟩
                  | some n =>
                    have HF3 : Hid (parseS (bl s) true = some (text4S n)) := by rw [hv] at HF2; exact HF2
                    rw [show fourV (some n) = n from rfl, show (some n).isSome = true from rfl]
                    have hr := four_range hv
                    clear hv
                    go_wp2_with fail
                    refine (ref2_Text4 n _ (by omega) (by omega)).mono ?_
                    rintro e w6 ⟨⟨t, rfl, ht⟩, HB10⟩
                    go_wp2
                    go_ret2
                    exact ⟨parsed2_some (by rw [HF3.out, ht.out]), bel_trans HB9.out HB10.out⟩
  · cases b
    · have HP2 : Hid (parseS (bl s) special = none) := HP.out
      clear HP H2
      go_enter Tryz.func19, Tryz.ntmps19
      go_wp2_with (first | (go_at_call 47; go_must (refine (ref1_Begins _ _ _).mono ?_); rintro e w' ⟨rfl, rfl⟩; rw [e1, HA.out]) | (go_at_call 48; go_must (refine (ref1_Ends _ _ _ (by omega)).mono ?_); rintro e w' ⟨rfl, rfl⟩; rw [e2, HB.out]))
      go_ret2
      exact ⟨parsed2_none HP2.out, by unfold Hid; exact Below.refl _ _⟩
    · have hz := H2.out rfl rfl
      have HP2 : Hid (parseS (bl s) special = (sixS (bl (s.extract 1 (s.size - 1)))).map (fun xs => 91 :: (text6S xs ++ [93]))) := by
        unfold Hid; rw [HP.out, bl_extract, bl_length, if_pos rfl, if_pos rfl]; rfl
      have hez : (s.extract 1 (s.size - 1)).size ≤ 1000000 := by rw [ByteArray.size_extract]; omega
      clear HP H2
      go_enter Tryz.func19, Tryz.ntmps19
      go_wp2_with (first | (go_at_call 47; go_must (refine (ref1_Begins _ _ _).mono ?_); rintro e w' ⟨rfl, rfl⟩; rw [e1, HA.out]) | (go_at_call 48; go_must (refine (ref1_Ends _ _ _ (by omega)).mono ?_); rintro e w' ⟨rfl, rfl⟩; rw [e2, HB.out]))
      refine (ref2_Six _ _ hez).mono ?_
      rintro e w1 ⟨rfl, HB1⟩
      generalize bl (s.extract 1 (s.size - 1)) = L at *
      have HB2 : Hid (Below w.heap.size w (w1.alloc zeroCells)) := HB1.out.alloc HB1.out.size _
      cases hv : sixS L with
      | none =>
        have HF : Hid (parseS (bl s) special = none) := HP2.out.trans (by rw [hv]; rfl)
        clear hv HP2
        obtain ⟨xs, hxs⟩ : ∃ xs, xs = zeros8 := ⟨_, rfl⟩
        have H8 : Hid (xs.length = 8) := by rw [hxs]; rfl
        have HZ : sixV none = .agg (u16s xs).toArray := by rw [hxs]; rfl
        rw [HZ, show (none : Option (List Nat)).isSome = false from rfl]
        clear hxs HZ
        go_wp2_with (first | (refine store8 (w0 := w) w.heap.size rfl _ _ (by exact rfl) w1.heap.size (by exact rfl) xs zeros8 H8.out rfl (by exact rfl) (alloc_at w1 zeroCells) HB2 HB1.out.size ?_; intro w2 HK2 HB3) | (refine load8 rfl _ (by exact rfl) w1.heap.size (by exact rfl) xs H8.out HK2.out ?_))
        go_ret2
        exact ⟨parsed2_none HF.out, HB3⟩
      | some xs =>
        have HF : Hid (parseS (bl s) special = some (91 :: (text6S xs ++ [93]))) := HP2.out.trans (by rw [hv]; rfl)
        have h8 := six_shape hv
        have H8 := Lib.hid h8.1
        have H65 := Lib.hid h8.2
        clear hv HP2 h8
        rw [show sixV (some xs) = .agg (u16s xs).toArray from rfl, show (some xs).isSome = true from rfl]
        go_wp2_with (first | (refine store8 (w0 := w) w.heap.size rfl _ _ (by exact rfl) w1.heap.size (by exact rfl) xs zeros8 H8.out rfl (by exact rfl) (alloc_at w1 zeroCells) HB2 HB1.out.size ?_; intro w2 HK2 HB3) | (refine load8 rfl _ (by exact rfl) w1.heap.size (by exact rfl) xs H8.out HK2.out ?_))
        refine (ref2_Text6 xs _ H8.out H65.out).mono ?_
        rintro e w3 ⟨⟨t, rfl, ht⟩, HB4⟩
        have htl := text6_len H65.out
        rw [← ht.out, bl_length] at htl
        go_wp2
        go_ret2
        refine ⟨parsed2_some ?_, bel_trans HB3.out HB4.out⟩
        rw [HF.out, bl_append, bl_append, ht.out]
        rfl
end Go.Proofs.YtpgehhnmlihnbaaGreatDoor
