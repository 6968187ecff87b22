import Derived.Test.YtbpkkgaaeodimaaGreatDoorXG25
import Derived.Test.YtbpkkgaaeodimaaGreatDoorXG24
import Derived.Test.YtbpkkgaaeodimaaGreatDoorXG15
import Derived.Test.YtbpkkgaaeodimaaGreatDoorXG03
import Derived.Test.YtbpkkgaaeodimaaGreatDoorXAXRepl5
namespace Go.Proofs.YtbpkkgaaeodimaaGreatDoor
open Go.RowKit

set_option maxHeartbeats 4000000 in
set_option maxRecDepth 100000 in
theorem rd_authority (g : Nat) (c : UrlC) (p : List (List UInt8)) (r : ByteArray) (w0 w : World) (hs : r.size ≤ 1000000) (HR : Hid (Rd w0 w g c [.string r] w)) :
    Calls Tryz.prog 138 #[.pointer (some ⟨g, 0, none⟩)] w fun e w' => ∃ E c' a, e = .returned (.int .i64 E) ∧ Hid (Res (authS (c.flat p) ((bl r).takeWhile fun x => !stopB x)) E (c'.flat p)) ∧ c'.path = c.path ∧ Hid (bl a = (bl r).dropWhile fun x => !stopB x) ∧ a.size ≤ r.size ∧ Hid (Rd w0 w g c' [.string a] w') := by
  have k12 := HR.out.rest.1
  have hit := idx_stop (bl r)
  have b47 : bl ⟨#[47, 63]⟩ = [47, 63] := rfl
  go_enter Tryz.func138, Tryz.ntmps138
  go_upto_if 22 with (first | (go_at_call 164; go_must (refine (lib_IndexAny r stopsB _ hs stops_asc (by decide) (by decide)).mono ?_); rintro e w1 ⟨rfl, HB1⟩; rw [show bl stopsB = [47, 63] from rfl]; have HR1 := Lib.hid (HR.out.step HB1.out)))
  obtain ⟨ix, hix⟩ : ∃ ix : Int, Lib.indexAny (bl r) [47, 63] = ix := ⟨_, rfl⟩
  rw [hix] at hit ⊢
  clear hix b47
  obtain ⟨A, hA⟩ : ∃ A, ((bl r).takeWhile fun x => !stopB x) = A := ⟨_, rfl⟩
  have HAeq := Lib.hid hA
  have htk := take_tw (fun x => !stopB x) (bl r)
  have hAl : A.length ≤ r.size := by rw [← hA, ← bl_length]; exact (List.takeWhile_sublist _).length_le
  rw [hA] at hit htk
  have HTK := Lib.hid htk
  clear hA htk
  go_cut [3] (fun v3 wc => ∃ t : ByteArray, v3 = .string t ∧ Hid (bl t = A) ∧ wc = w1)
  case first =>
    rcases hit with ⟨i1, i2⟩ | ⟨i1, i2⟩
    · obtain ⟨m, hm⟩ : ∃ m, A.length = m := ⟨_, rfl⟩
      rw [hm] at i2 hAl
      subst i2
      have q1 : (0 : Int) ≤ m := by omega
      have q2 : (m : Int) ≤ r.size := by omega
      have HF : Hid (bl (r.extract 0 m) = A) := by
        unfold Hid
        rw [bl_extract, ← hm]
        simpa using HTK.out.1
      clear hm i1
      go_wp2
      go_meet
      exact ⟨_, rfl, HF, rfl⟩
    · subst i1
      have HF : Hid (bl r = A) := i2.symm
      clear i2
      go_wp2
      go_meet
      exact ⟨r, rfl, HF, rfl⟩
  case rest =>
    obtain ⟨s, rfl, HS, hwc⟩ := hcut
    subst hwc
    clear hit
    have hsz : s.size ≤ r.size := by rw [← bl_length, HS.out]; exact hAl
    have q1 : (0 : Int) ≤ s.size := by omega
    have q2 : (s.size : Int) ≤ r.size := by omega
    have HRest : Hid (bl (r.extract s.size r.size) = (bl r).dropWhile fun x => !stopB x) := by
      unfold Hid
      rw [bl_suf2, ← bl_length, HS.out]
      exact HTK.out.2
    have hrz : (r.extract s.size r.size).size ≤ r.size := by rw [ByteArray.size_extract]; omega
    obtain ⟨l12, m12⟩ := HR1.out.rest
    have HR2 := Lib.hid (HR1.out.put 12 (.string (r.extract s.size r.size)) (c' := c) (ext' := [.string (r.extract s.size r.size)]) rfl)
    go_upto_if 40 with (first | (go_at_call 165; go_must (refine (lib_LastAt s _ (by omega)).mono ?_); rintro e w' ⟨rfl, hw⟩; rw [hw]; clear hw))
    generalize (r.extract s.size r.size) = rr at *
    generalize (wc.setCell ⟨g, 12, none⟩ (.string rr)) = w2 at *
    obtain ⟨o, ho⟩ : ∃ o, lastAt (bl s) = o := ⟨_, rfl⟩
    have hoz : ∀ j, o = some j → j < s.size := fun j hj => lastAt_lt (ho.trans hj)
    have HL := Lib.hid ho
    rw [ho]
    clear ho HR1 l12 m12 HB1
    go_cut [5] (fun v5 wc => ∃ (t : ByteArray) (c1 : UrlC), v5 = .string t ∧ t.size ≤ s.size ∧ Hid (userS (c.flat p) (bl s) = (c1.flat p, bl t)) ∧ Hid (c1.path = c.path) ∧ Hid (c1.scheme = c.scheme) ∧ Hid (Rd w0 w g c1 [.string rr] wc))
    case first =>
      cases o with
      | none =>
        have hat : atI none = -1 := rfl
        rw [hat]
        go_wp2
        go_meet
        exact ⟨s, c, rfl, Nat.le_refl _, user_none HL.out, rfl, rfl, HR2⟩
      | some i =>
        have hat : atI (some i) = i := rfl
        rw [hat]
        have hi := hoz i rfl
        have h1 : (i : Int) ≤ s.size := by omega
        have h2 : (0 : Int) ≤ i := by omega
        have p1 : 0 ≤ (i : Int) + 1 := by omega
        have p2 : (i : Int) + 1 ≤ s.size := by omega
        have p3 : ((i : Int) + 1).toNat = i + 1 := by omega
        have e1 : IntKind.i64.wrap ((i : Int) + 1) = (i : Int) + 1 := IntWalk.i64_in _ (by omega)
        have hz1 : (s.extract 0 i).size ≤ 1000000 := by rw [ByteArray.size_extract]; omega
        have hz2 : (s.extract (i + 1) s.size).size ≤ s.size := by rw [ByteArray.size_extract]; omega
        have hb1 : bl (s.extract 0 i) = (bl s).take i := by rw [bl_extract]; simp
        have hb2 : bl (s.extract (i + 1) s.size) = (bl s).drop (i + 1) := bl_suf2 s (i + 1)
        have HB1 := Lib.hid hb1
        have HB2 := Lib.hid hb2
        clear hb1 hb2
        have HU := Lib.hid (user_some (u := c.flat p) HL.out)
        go_wp2_with (first | (go_at_call 48; go_must (refine (lib_Cut1 _ 58 _ hz1 (Lib.hid HR2.out.envn)).mono ?_); rintro e w3 ⟨⟨a, b, rfl, ha, hb, haz, hbz⟩, HC1⟩; have HR3 := Lib.hid (HR2.out.step HC1.out)))
        refine (infra_Percent a 6 _ (by omega)).mono ?_
        rintro e w4 ⟨⟨us, rfl, hus, _⟩, HC2⟩
        have HR4 := Lib.hid (HR3.out.step HC2.out)
        go_wp2_with fail
        refine (infra_Percent b 6 _ (by omega)).mono ?_
        rintro e w5 ⟨⟨ps, rfl, hps, _⟩, HC3⟩
        have HR5 := Lib.hid (HR4.out.step HC3.out)
        obtain ⟨_, ⟨d1, f1⟩, _⟩ := HR5.out.cells
        have HR6 := Lib.hid (HR5.out.put 1 (.string us) (c' := { c with user := us }) (ext' := [.string rr]) rfl)
        obtain ⟨_, _, ⟨d2, f2⟩, _⟩ := HR6.out.cells
        have HR7 := Lib.hid (HR6.out.put 2 (.string ps) (c' := { c with user := us, pass := ps }) (ext' := [.string rr]) rfl)
        go_wp2
        go_meet
        refine ⟨_, { c with user := us, pass := ps }, rfl, hz2, ?_, rfl, rfl, HR7⟩
        unfold Hid
        rw [HU.out, HB2.out, ← HB1.out, ← ha.out, ← hb.out, ← hus.out, ← hps.out]
        rfl
    case rest =>
      obtain ⟨t, c1, rfl, htz, HU, HCP, HCS, HR3⟩ := hcut
      clear HR2 HL hoz
      have htz2 : t.size ≤ 1000000 := by omega
      go_upto_if 75 with (first | (go_at_call 166; go_must (refine (url_ported t _ htz2).mono ?_); rintro e w3 ⟨⟨n, m, rfl, hn, hm, hnz, hmz⟩, HC1⟩; have HR4 := Lib.hid (HR3.out.step HC1.out); obtain ⟨_, _, _, _, _, ⟨c5, f5⟩, _⟩ := HR4.out.cells; have HR5 := Lib.hid (HR4.out.put 5 (.int .i64 (-1)) (c' := { c1 with port := -1 }) (ext' := [.string rr]) rfl)))
      generalize (w3.setCell ⟨g, 5, none⟩ (.int .i64 (-1))) = w4 at *
      clear c5 f5 HR4
      obtain ⟨⟨e0, _⟩, _, _, _, _, ⟨e5, h5⟩, _⟩ := HR5.out.cells
      have HPT : Hid (portedS (bl t) = (bl n, bl m)) := by unfold Hid; rw [hn.out, hm.out]
      clear hn hm
      have h11 : portS (bl c.scheme) (bl m) = none → authS (c.flat p) A = .error 11 := fun h => auth_11 (by rw [← HS.out, HU.out, HPT.out]; exact h)
      have H11 := Lib.hid h11
      clear h11
      obtain ⟨z0, hz0⟩ : ∃ z, (!m.toList.isEmpty) = z := ⟨_, rfl⟩
      rw [hz0]
      go_cut [] (fun wc => ∃ (port : Int), Hid (portS (bl c.scheme) (bl m) = some port) ∧ Hid (Rd w0 w g { c1 with port := port } [.string rr] wc))
      case first =>
        by_cases hm0 : bl m = []
        · have he : z0 = false := by rw [← hz0, toList_bl]; simpa using hm0
          subst he
          have HM0 := Lib.hid hm0
          clear hm0
          go_wp2
          go_meet
          exact ⟨-1, by unfold Hid; rw [HM0.out]; rfl, HR5⟩
        · have he : z0 = true := by rw [← hz0, toList_bl]; simpa using hm0
          subst he
          have HM0 := Lib.hid hm0
          clear hm0
          have HPS : Hid (portS (bl c.scheme) (bl m) = if (intS (bl m)).2 = true ∧ (intS (bl m)).1 ≤ 65535 then some (if (intS (bl m)).1 = ownS (bl c.scheme) then -1 else (intS (bl m)).1) else none) := by
            unfold Hid portS
            rw [if_neg HM0.out]
          have HIN := fun W => infra_Int m W (by omega)
          have hrg : 0 ≤ (intS (bl m)).1 ∧ (intS (bl m)).1 ≤ 9223372036854775807 := int_range _
          generalize (intS (bl m)).1 = k at *
          generalize (intS (bl m)).2 = ok at *
          by_cases hgood : ok = true ∧ k ≤ 65535
          · obtain ⟨rfl, hk⟩ := hgood
            rw [if_pos ⟨rfl, hk⟩] at HPS
            have hk2 : ¬ (65535 < k) := by omega
            by_cases heq : k = ownS (bl c1.scheme)
            · have hq : ((k == ownS (bl c1.scheme)) : Bool) = true := by simpa using heq
              have hq2 : ((k != ownS (bl c1.scheme)) : Bool) = false := by simpa using heq
              have HEQ := Lib.hid heq
              clear heq
              go_wp2_with fail
              refine (HIN _).mono ?_
              rintro e w' ⟨rfl, rfl⟩
              go_wp2_with (first | (go_at_call 36; go_must (refine (url_Own _ _).mono ?_); rintro e w' ⟨rfl, rfl⟩))
              go_meet
              exact ⟨-1, by unfold Hid; rw [HPS.out, if_pos (by rw [← HCS.out]; exact HEQ.out)], HR5⟩
            · have hq : ((k == ownS (bl c1.scheme)) : Bool) = false := by simpa using heq
              have hq2 : ((k != ownS (bl c1.scheme)) : Bool) = true := by simpa using heq
              have HEQ := Lib.hid heq
              clear heq
              have HR6 := Lib.hid (HR5.out.put 5 (.int .i64 k) (c' := { c1 with port := k }) (ext' := [.string rr]) rfl)
              go_wp2_with fail
              refine (HIN _).mono ?_
              rintro e w' ⟨rfl, rfl⟩
              go_wp2_with (first | (go_at_call 36; go_must (refine (url_Own _ _).mono ?_); rintro e w' ⟨rfl, rfl⟩))
              go_meet
              exact ⟨k, by unfold Hid; rw [HPS.out, if_neg (by rw [← HCS.out]; exact HEQ.out)], HR6⟩
          · have hnone : portS (bl c.scheme) (bl m) = none := by rw [HPS.out, if_neg hgood]
            have H12 := Lib.hid (H11.out hnone)
            clear hnone
            cases ok
            · go_wp2_with ((go_at_call 167; go_must (refine (HIN _).mono ?_); rintro e w' ⟨rfl, rfl⟩))
              go_ret
              exact ⟨11, { c1 with port := -1 }, rr, rfl, by unfold Hid; rw [HAeq.out, H12.out]; rfl, HCP.out, HRest, hrz, HR5⟩
            · have hgt : 65535 < k := by
                rcases Int.lt_or_le 65535 k with h | h
                · exact h
                · exact absurd ⟨rfl, h⟩ hgood
              go_wp2_with ((go_at_call 167; go_must (refine (HIN _).mono ?_); rintro e w' ⟨rfl, rfl⟩))
              go_ret
              exact ⟨11, { c1 with port := -1 }, rr, rfl, by unfold Hid; rw [HAeq.out, H12.out]; rfl, HCP.out, HRest, hrz, HR5⟩
      case rest =>
        obtain ⟨port, HPS, HR6⟩ := hcut
        clear HR5 e0 e5 h5 H11 HR3
        obtain ⟨⟨k0, _⟩, _⟩ := HR6.out.cells
        have HSP : Hid (specialS (bl c1.scheme) = specialS (bl c.scheme)) := by unfold Hid; rw [HCS.out]
        go_wp2_with (first | (go_at_call 35; go_must (refine (url_Special _ _).mono ?_); rintro e w' ⟨rfl, rfl⟩; rw [HSP.out]))
        have HEV := Lib.hid HR6.out.envn
        refine (host_Parse n _ _ (by omega) HEV).mono ?_
        rintro e w5 ⟨⟨h, rfl, hh⟩, HB5⟩
        have HR7 := Lib.hid (HR6.out.step HB5.out)
        obtain ⟨_, ⟨k1, _⟩, ⟨k2, _⟩, ⟨k3, l3⟩, _⟩ := HR7.out.cells
        have e10 : parseS (bl n) (specialS (bl c.scheme)) = none → authS (c.flat p) A = .error 10 := fun h => auth_10 (n := port) (by rw [← HS.out, HU.out, HPT.out]; exact HPS.out) (by rw [← HS.out, HU.out, HPT.out]; exact h)
        have e10b : ∀ x, parseS (bl n) (specialS (bl c.scheme)) = some x → (x = [] ∧ (bl c1.user ≠ [] ∨ bl c1.pass ≠ [] ∨ bl m ≠ [])) → authS (c.flat p) A = .error 10 := fun x h h2 => auth_10b (n := port) (t := x) (by rw [← HS.out, HU.out, HPT.out]; exact HPS.out) (by rw [← HS.out, HU.out, HPT.out]; exact h) (by rw [← HS.out, HU.out, HPT.out]; exact h2)
        have eok : ∀ x, parseS (bl n) (specialS (bl c.scheme)) = some x → ¬ (x = [] ∧ (bl c1.user ≠ [] ∨ bl c1.pass ≠ [] ∨ bl m ≠ [])) → authS (c.flat p) A = .ok { c1.flat p with port := port, host := x, hasHost := true } := fun x h h2 => by
          have := auth_ok (u := c.flat p) (a := A) (n := port) (t := x) (by rw [← HS.out, HU.out, HPT.out]; exact HPS.out) (by rw [← HS.out, HU.out, HPT.out]; exact h) (by rw [← HS.out, HU.out, HPT.out]; exact h2)
          rw [this, ← HS.out, HU.out]
        have E10 := Lib.hid e10
        have E10b := Lib.hid e10b
        have EOK := Lib.hid eok
        clear e10 e10b eok
        have hcu : ∃ z, c1.user.toList.isEmpty = z ∧ (z = false ↔ bl c1.user ≠ []) := ⟨_, rfl, by rw [toList_bl]; simp⟩
        have hcp2 : ∃ z, c1.pass.toList.isEmpty = z ∧ (z = false ↔ bl c1.pass ≠ []) := ⟨_, rfl, by rw [toList_bl]; simp⟩
        have hcm : ∃ z, m.toList.isEmpty = z ∧ (z = false ↔ bl m ≠ []) := ⟨_, rfl, by rw [toList_bl]; simp⟩
        obtain ⟨zu, hzu, hzu2⟩ := hcu
        obtain ⟨zp, hzp, hzp2⟩ := hcp2
        obtain ⟨zm, hzm, hzm2⟩ := hcm
        have HZU := Lib.hid hzu2
        have HZP := Lib.hid hzp2
        have HZM := Lib.hid hzm2
        clear hzu2 hzp2 hzm2 HB5 k0
        obtain ⟨o2, ho2⟩ : ∃ o2, parseS (bl n) (specialS (bl c.scheme)) = o2 := ⟨_, rfl⟩
        rw [ho2] at hh ⊢
        rw [ho2] at E10 E10b EOK
        clear ho2 HPS HPT HU HSP
        cases o2 with
        | none =>
          have E := Lib.hid (E10.out rfl)
          have er : errO none = 10 := rfl
          rw [er]
          clear E10 E10b EOK
          go_wp2
          go_ret
          exact ⟨10, { c1 with port := port }, rr, rfl, by unfold Hid; rw [HAeq.out, E.out]; rfl, HCP.out, HRest, hrz, HR7⟩
        | some x =>
          obtain ⟨_, _, _, _, ⟨k4, l4⟩, _⟩ := HR7.out.cells
          have HR8 := Lib.hid ((HR7.out.put 3 (.string h) (c' := { c1 with port := port, host := h }) (ext' := [.string rr]) rfl).put 4 (.bool true) (c' := { c1 with port := port, host := h, hasHost := true }) (ext' := [.string rr]) rfl)
          have hhx : bl h = x := hh.out
          have hxx : ((h.toList == ([] : List UInt8)) = true ∧ x = []) ∨ ((h.toList == ([] : List UInt8)) = false ∧ x ≠ []) := by
            rw [toList_bl, hhx]
            by_cases h : x = []
            · exact .inl ⟨by simpa using h, h⟩
            · exact .inr ⟨by simpa using h, h⟩
          have HHX := Lib.hid hhx
          have er : errO (some x) = 0 := rfl
          rw [er]
          clear hhx hh E10 er
          rcases hxx with ⟨hx, hx2⟩ | ⟨hx, hx2⟩
          · have HX2 := Lib.hid hx2
            clear hx2
            cases zu
            · have E := Lib.hid (E10b.out x rfl ⟨HX2.out, .inl (HZU.out.1 rfl)⟩)
              clear E10b EOK
              go_wp2
              go_ret
              exact ⟨10, { c1 with port := port }, rr, rfl, by unfold Hid; rw [HAeq.out, E.out]; rfl, HCP.out, HRest, hrz, HR7⟩
            · cases zp
              · have E := Lib.hid (E10b.out x rfl ⟨HX2.out, .inr (.inl (HZP.out.1 rfl))⟩)
                clear E10b EOK
                go_wp2
                go_ret
                exact ⟨10, { c1 with port := port }, rr, rfl, by unfold Hid; rw [HAeq.out, E.out]; rfl, HCP.out, HRest, hrz, HR7⟩
              · cases zm
                · have E := Lib.hid (E10b.out x rfl ⟨HX2.out, .inr (.inr (HZM.out.1 rfl))⟩)
                  clear E10b EOK
                  go_wp2
                  go_ret
                  exact ⟨10, { c1 with port := port }, rr, rfl, by unfold Hid; rw [HAeq.out, E.out]; rfl, HCP.out, HRest, hrz, HR7⟩
                · have E := Lib.hid (EOK.out x rfl (fun q => by rcases q.2 with q | q | q; exact absurd (HZU.out.2 q).symm Bool.false_ne_true; exact absurd (HZP.out.2 q).symm Bool.false_ne_true; exact absurd (HZM.out.2 q).symm Bool.false_ne_true))
                  clear E10b EOK
                  go_wp2
                  go_ret
                  exact ⟨0, { c1 with port := port, host := h, hasHost := true }, rr, rfl, by unfold Hid; rw [HAeq.out, E.out, ← HHX.out]; exact ⟨rfl, rfl⟩, HCP.out, HRest, hrz, HR8⟩
          · have E := Lib.hid (EOK.out x rfl (fun q => hx2 q.1))
            clear E10b EOK hx2
            go_wp2
            go_ret
            exact ⟨0, { c1 with port := port, host := h, hasHost := true }, rr, rfl, by unfold Hid; rw [HAeq.out, E.out, ← HHX.out]; exact ⟨rfl, rfl⟩, HCP.out, HRest, hrz, HR8⟩
end Go.Proofs.YtbpkkgaaeodimaaGreatDoor
namespace Go.Proofs.YtbpkkgaaeodimaaGreatDoor
open Go.RowKit

/-! The reader: what stands behind the slashes, and the whole. -/
set_option maxHeartbeats 1000000 in
set_option maxRecDepth 100000 in
theorem lib_trimB (s : ByteArray) (w : World) (hs : s.size ≤ 1000000) :
    Calls Tryz.prog 97 #[.string s, .int .u8 47] w fun e w' => (∃ t, e = .returned (.string t) ∧ Hid (bl t = (bl s).dropWhile (· == 47)) ∧ t.size ≤ s.size) ∧ w' = w := by
  go_enter Tryz.func97, Tryz.ntmps97
  go_wp2
  go_loopg [0] s.size (fun g v wr => ∃ r : ByteArray, v = .string r ∧ r.size ≤ s.size ∧ r.size ≤ g ∧ Hid ((bl s).dropWhile (· == 47) = (bl r).dropWhile (· == 47)) ∧ w = wr)
  case atStart => exact ⟨s, rfl, Nat.le_refl _, Nat.le_refl _, rfl, rfl⟩
  case round =>
    obtain ⟨r, rfl, hr, hg, HD, rfl⟩ := hrel
    by_cases h0 : 0 < r.size
    · have h0' : (0 : Int) < r.size := by omega
      have hsn : bl r = r[0] :: bl (r.extract 1 r.size) := by
        have := bl_drop r 0 h0
        rw [bl_suf2]
        simpa using this
      have hx := u8_is r[0] 47 (by decide)
      by_cases hp : r[0] = 47
      · have hq : ((r[0].toNat : Int) == 47) = true := by rw [show ((47 : Nat) : Int) = 47 from rfl] at hx; rw [hx, hp]; rfl
        have HN : Hid ((bl s).dropWhile (· == 47) = (bl (r.extract 1 r.size)).dropWhile (· == 47)) := by
          unfold Hid
          rw [HD.out, hsn, List.dropWhile_cons, if_pos (by rw [hp]; rfl)]
        clear hsn hx
        go_wp2
        go_roundg (gk - 1)
        case measure => omega
        case rel => exact ⟨_, rfl, by rw [ByteArray.size_extract]; omega, by rw [ByteArray.size_extract]; omega, HN, rfl⟩
      · have hq : ((r[0].toNat : Int) == 47) = false := by rw [show ((47 : Nat) : Int) = 47 from rfl] at hx; rw [hx]; simpa using hp
        have HN : Hid ((bl s).dropWhile (· == 47) = bl r) := by
          unfold Hid
          rw [HD.out, hsn, List.dropWhile_cons, if_neg (by simpa using hp)]
        clear hsn hx
        go_wp2
        go_ret
        exact ⟨⟨r, rfl, HN.out.symm, hr⟩, rfl⟩
    · have h0' : ¬ (0 : Int) < r.size := by omega
      have HN : Hid ((bl s).dropWhile (· == 47) = bl r) := by
        unfold Hid
        have : bl r = [] := List.eq_nil_of_length_eq_zero (by rw [bl_length]; omega)
        rw [HD.out, this]; rfl
      go_wp2
      go_ret
      exact ⟨⟨r, rfl, HN.out.symm, hr⟩, rfl⟩
set_option maxHeartbeats 1000000 in
set_option maxRecDepth 100000 in
theorem lib_TrimL (s : ByteArray) (w : World) (hs : s.size ≤ 1000000) :
    Calls Tryz.prog 113 #[.string s, .string ⟨#[47]⟩] w fun e w' => (∃ t, e = .returned (.string t) ∧ Hid (bl t = (bl s).dropWhile (· == 47)) ∧ t.size ≤ s.size) ∧ w' = w := by
  by_cases h0 : bl s = []
  · have he : (s.toList == ([] : List UInt8)) = true := by rw [toList_bl]; simpa using h0
    have HX : Hid ((bl s).dropWhile (· == 47) = bl s) := by unfold Hid; rw [h0]; rfl
    clear h0
    go_enter Tryz.func113, Tryz.ntmps113
    go_wp2
    go_ret
    exact ⟨⟨s, rfl, HX.out.symm, Nat.le_refl _⟩, rfl⟩
  · have he : (s.toList == ([] : List UInt8)) = false := by rw [toList_bl]; simpa using h0
    clear h0
    go_enter Tryz.func113, Tryz.ntmps113
    go_wp2_with (first | (go_at_call 97; go_must (refine (lib_trimB s _ hs).mono ?_); rintro e w' ⟨⟨t, rfl, ht, htz⟩, hw⟩; rw [hw]; clear hw))
    go_ret
    exact ⟨⟨t, rfl, ht, htz⟩, rfl⟩
set_option maxHeartbeats 1000000 in
set_option maxRecDepth 100000 in
theorem rd_behind (g : Nat) (c : UrlC) (p : List (List UInt8)) (r : ByteArray) (w0 w : World) (hs : r.size ≤ 1000000) (HR : Hid (Rd w0 w g c [.string r] w)) (hp : c.path = .slice none 0 0) :
    Calls Tryz.prog 114 #[.pointer (some ⟨g, 0, none⟩)] w fun e w' => ∃ E c' q a, e = .returned (.int .i64 E) ∧ Hid (Res (behindS (c.flat p) (bl r)) E (c'.flat q)) ∧ Hid (E = 0 → PathOwn w' w.heap.size g c'.path q) ∧ Hid (Rd w0 w g c' [.string a] w') := by
  have HP := Lib.hid hp
  clear hp
  go_enter Tryz.func114, Tryz.ntmps114
  go_wp2_with fail
  refine (rd_authority g c p r w0 _ hs HR).mono ?_
  rintro e w2 ⟨E, c1, a, rfl, hres, hp1, ha, haz, HR2⟩
  have HP1 : Hid (c1.path = .slice none 0 0) := hp1.trans HP.out
  have HBH : Hid (behindS (c.flat p) (bl r) = match authS (c.flat p) ((bl r).takeWhile fun x => !stopB x) with | .error e => .error e | .ok v => .ok (rootedS v (bl a))) := by
    unfold Hid behindS; rw [ha.out]; cases authS (c.flat p) ((bl r).takeWhile fun x => !stopB x) <;> rfl
  clear hp1
  obtain ⟨o, hA⟩ : ∃ o, authS (c.flat p) ((bl r).takeWhile fun x => !stopB x) = o := ⟨_, rfl⟩
  rw [hA] at hres HBH
  cases o with
  | error x =>
    have hE : E = x := hres.out
    subst hE
    have hx := auth_err hA
    have hne : (E != 0) = true := by rw [bne_iff_ne]; omega
    have hne2 : (E == 0) = false := by rw [beq_eq_false_iff_ne]; omega
    clear hres hA hx
    go_wp2
    go_ret
    exact ⟨E, c1, p, a, rfl, by unfold Hid; rw [HBH.out]; rfl, (fun h => by rw [h] at hne; cases hne), HR2⟩
  | ok v =>
    obtain ⟨hE, hv⟩ : E = 0 ∧ c1.flat p = v := hres.out
    subst hE
    have HV := Lib.hid hv
    clear hres hA hv
    have HRr := fun W we (h : Hid (Rd w0 we g c1 [.string a] W)) => rd_rooted g c1 a p w0 W (by omega) (Lib.hid h.out.now) (fun _ => HP1.out)
    go_wp2_with fail
    refine (HRr _ _ HR2).mono ?_
    rintro e w3 ⟨a3, c3, q, rfl, hf, hpo, HR3'⟩
    have HR3 := Lib.hid (HR2.out.next HR3'.out)
    go_wp2
    go_ret
    exact ⟨0, c3, q, a3, rfl, by unfold Hid; rw [HBH.out, hf.out, HV.out]; exact ⟨rfl, rfl⟩, fun _ => hpo.out.weak HR2.out.fr.size, HR3⟩
theorem Rd.stash {w0 we w w' : World} {g b : Nat} {c : UrlC} {ext : List Value} (h : Rd w0 we g c ext w) (hb : BelP (fun k => k = b) w w') (h1 : we.heap.size ≤ b) (h2 : w0.heap.size ≤ b) (h3 : g ≠ b) : Rd w0 we g c ext w' :=
  ⟨hb.row h3 h.row, BelP.bel h.bel (fun j hj => by rw [hj]; exact h2) hb, h.big, h.env,
    ((h.fr.mono (fun _ _ hk => Or.inl hk)).trans (hb.mono (fun _ _ hk => Or.inr hk)) : BelP (fun k => k = g ∨ k = b) we w').mono (fun k hk h => by rcases h with h | h; exact h; omega)⟩
end Go.Proofs.YtbpkkgaaeodimaaGreatDoor
namespace Go.Proofs.YtbpkkgaaeodimaaGreatDoor
open Go.RowKit

set_option maxHeartbeats 2000000 in
set_option maxRecDepth 100000 in
theorem rd_all (g : Nat) (c : UrlC) (r : ByteArray) (w0 w : World) (hs : r.size ≤ 1000000) (HR : Hid (Rd w0 w g c [.string r] w)) (hp : c.path = .slice none 0 0) :
    Calls Tryz.prog 83 #[.pointer (some ⟨g, 0, none⟩)] w fun e w' => ∃ v, e = .returned (.tuple #[v, .int .i64 (whyE (allS (c.flat []) (bl r)))]) ∧ Hid (UrlV w' w.heap.size v (okU (allS (c.flat []) (bl r)))) ∧ ∃ c' a, Hid (Rd w0 w g c' [.string a] w') := by
  have hgw : g < w.heap.size := HR.out.row.1
  have hbw : w0.heap.size ≤ w.heap.size := HR.out.bel.size
  obtain ⟨b, hb⟩ : ∃ b, w.heap.size = b := ⟨_, rfl⟩
  have hgb : b ≠ g := by omega
  have HW1 : Hid (Bel w (w.alloc (.cells noC.cells.toArray 24))) := (Below.refl _ w).alloc (Nat.le_refl _) _
  have HR0 := Lib.hid (HR.out.step HW1.out)
  have RB0 : Hid (RowAt (w.alloc (.cells noC.cells.toArray 24)) w.heap.size (noC.cells ++ [])) := RowAt.new w noC.cells.toArray 24
  rw [hb] at RB0
  rw [no_cells] at HR0 RB0
  obtain ⟨_, _, _, _, _, ⟨c5, f5⟩, _⟩ := HR0.out.cells
  have HR1 := Lib.hid (HR0.out.put 5 (.int .i64 (-1)) (c' := { c with port := -1 }) (ext' := [.string r]) rfl)
  have RB1 : Hid (RowAt ((w.alloc (.cells #[.string ⟨#[]⟩, .string ⟨#[]⟩, .string ⟨#[]⟩, .string ⟨#[]⟩, .bool false, .int .i64 0, .bool false, .slice none 0 0, .string ⟨#[]⟩, .string ⟨#[]⟩, .bool false, .bool false] 24)).setCell ⟨g, 5, none⟩ (.int .i64 (-1))) b (noC.cells ++ [])) := BelP.row (BelP.set (g := g) ⟨g, 5, none⟩ _ rfl) hgb RB0.out
  have HP := Lib.hid hp
  have HGB := Lib.hid hgb
  have HBW : Hid (w0.heap.size ≤ b) := by rw [← hb]; exact hbw
  have HWB : Hid (w.heap.size = b) := hb
  clear hp HW1 HR0 RB0 hgb hbw hgw
  go_enter Tryz.func83, Tryz.ntmps83
  rw [hb]
  clear hb
  go_upto_block 0 with (fail)
  generalize hw1 : (World.setCell _ (⟨g, 5, none⟩ : Addr) (.int .i64 (-1))) = w1 at *
  have hsz1 : Hid (w.heap.size ≤ w1.heap.size) := HR1.out.fr.size
  have HBB : Hid (b < w1.heap.size) := RB1.out.1
  clear hw1 c5 f5 HR
  obtain ⟨⟨k0, _⟩, _⟩ := HR1.out.cells
  obtain ⟨k12, l12⟩ := HR1.out.rest
  have HPT : Hid (∀ l, behindS (({ c with port := -1 } : UrlC).flat []) l = behindS (c.flat []) l) := fun l => behindS_port (c.flat []) (-1) l
  obtain ⟨o, ho⟩ : ∃ o, allS (c.flat []) (bl r) = o := ⟨_, rfl⟩
  have HO := Lib.hid ho
  clear ho
  go_cut [4] (fun v4 wc => ∃ E c' q a, v4 = .int .i64 E ∧ Hid (Res o E (c'.flat q)) ∧ Hid (E = 0 → PathOwn wc w1.heap.size g c'.path q) ∧ Hid (Rd w0 w1 g c' [.string a] wc))
  case first =>
    obtain ⟨sp, hsp⟩ : ∃ sp, specialS (bl c.scheme) = sp := ⟨_, rfl⟩
    have HSP := Lib.hid hsp
    clear hsp
    have hp1 := fun t => hasPrefix_eq r t
    have HPF := Lib.hid hp1
    clear hp1
    cases sp
    · obtain ⟨t2, ht2⟩ : ∃ t2, begins (bl r) [47, 47] = t2 := ⟨_, rfl⟩
      have HT2 := Lib.hid ht2
      have b2 : Hid (begins (bl r) (bl ⟨#[47, 47]⟩) = t2) := ht2
      cases t2
      · clear ht2
        obtain ⟨t1, ht1⟩ : ∃ t1, begins (bl r) [47] = t1 := ⟨_, rfl⟩
        have HT1 := Lib.hid ht1
        have b1 : Hid (begins (bl r) (bl ⟨#[47]⟩) = t1) := ht1
        clear ht1
        cases t1
        · have HA : Hid (o = .ok { (queryS { c.flat [] with port := -1 } (bl r)).1 with opaq := true, path := [percent 1 (aheadQ (bl r))] }) := HO.out.symm.trans (allS_opaq (u0 := c.flat []) HSP.out HT2.out HT1.out)
          have HQ := rd_query g { c with port := -1 } r w0 w1 hs (Lib.hid HR1.out.now)
          go_wp2_with (first | (go_at_call 35; go_must (refine (url_Special _ _).mono ?_); rintro e w' ⟨rfl, rfl⟩; rw [HSP.out]) | (go_at_call 64; go_must (refine (Tryz.strings_HasPrefix _ _ _).mono ?_); rintro e w' ⟨rfl, hw⟩; rw [hw, HPF.out]; clear hw; first | rw [b2.out] | rw [b1.out]))
          refine HQ.mono ?_
          rintro e w2 ⟨a, q, rfl, ha, haz, hq, HR2'⟩
          have HR2 := Lib.hid (HR1.out.now.next HR2'.out)
          obtain ⟨d12, e12⟩ := HR2.out.rest
          go_wp2_with fail
          refine (infra_Percent a 1 _ (by omega)).mono ?_
          rintro e w3 ⟨⟨t, rfl, ht, _⟩, HB3⟩
          have HR3 := Lib.hid (HR2.out.step HB3.out)
          have HO4 := Lib.hid (PathOwn.of (Own.one w3 w1.heap.size t HR3.out.fr.size) HR1.out.row.1)
          have HR4 := Lib.hid (HR3.out.step ((Below.refl _ w3).alloc (Nat.le_refl _) (.cells #[.string t] 9)))
          obtain ⟨_, _, _, _, _, _, ⟨d6, e6⟩, _⟩ := HR4.out.cells
          have HR5 := Lib.hid (HR4.out.put 6 (.bool true) (c' := { c with port := -1, query := q, hasQuery := (segS 63 (bl r)).2.2, opaq := true }) (ext' := [.string a]) rfl)
          obtain ⟨_, _, _, _, _, _, _, ⟨d7, e7⟩, _⟩ := HR5.out.cells
          have HR6 := Lib.hid (HR5.out.path (v := .slice (some ⟨w3.heap.size, 0, none⟩) 1 1))
          go_wp2
          go_meet
          refine ⟨0, _, [bl t], a, rfl, ?_, fun _ => ?_, HR6⟩
          · unfold Hid
            rw [HA.out]
            refine ⟨rfl, ?_⟩
            unfold UrlC.flat queryS
            simp only []
            rw [hq.out, ht.out, ha.out]
            rfl
          · exact (HO4.out.fr (BelP.set _ _ rfl)).fr (BelP.set _ _ rfl)
        · have HA : Hid (o = .ok (rootedS { c.flat [] with port := -1 } (bl r))) := HO.out.symm.trans (allS_one (u0 := c.flat []) HSP.out HT2.out HT1.out)
          have HQ := rd_rooted g { c with port := -1 } r [] w0 w1 hs (Lib.hid HR1.out.now) (fun _ => HP.out)
          go_wp2_with (first | (go_at_call 35; go_must (refine (url_Special _ _).mono ?_); rintro e w' ⟨rfl, rfl⟩; rw [HSP.out]) | (go_at_call 64; go_must (refine (Tryz.strings_HasPrefix _ _ _).mono ?_); rintro e w' ⟨rfl, hw⟩; rw [hw, HPF.out]; clear hw; first | rw [b2.out] | rw [b1.out]))
          refine HQ.mono ?_
          rintro e w3 ⟨a, c3, q, rfl, hf, hpo, HR3'⟩
          have HR3 := Lib.hid (HR1.out.next HR3'.out)
          go_wp2
          go_meet
          exact ⟨0, c3, q, a, rfl, by unfold Hid; rw [HA.out, hf.out]; exact ⟨rfl, rfl⟩, fun _ => hpo.out, HR3'⟩
      · have hsz := begins2_len ht2
        rw [bl_length] at hsz
        clear ht2
        have HA : Hid (o = behindS (c.flat []) ((bl r).drop 2)) := HO.out.symm.trans (allS_two (u0 := c.flat []) HSP.out HT2.out)
        have hz : (r.extract 2 r.size).size ≤ 1000000 := by rw [ByteArray.size_extract]; omega
        have hb2 : Hid (bl (r.extract 2 r.size) = (bl r).drop 2) := bl_suf2 r 2
        have HR2 := Lib.hid (HR1.out.now.put 12 (.string (r.extract 2 r.size)) (c' := { c with port := -1 }) (ext' := [.string (r.extract 2 r.size)]) rfl)
        have HQ := rd_behind g { c with port := -1 } [] (r.extract 2 r.size) w0 _ hz (Lib.hid HR2.out.now) HP.out
        go_wp2_with (first | (go_at_call 35; go_must (refine (url_Special _ _).mono ?_); rintro e w' ⟨rfl, rfl⟩; rw [HSP.out]) | (go_at_call 64; go_must (refine (Tryz.strings_HasPrefix _ _ _).mono ?_); rintro e w' ⟨rfl, hw⟩; rw [hw, HPF.out]; clear hw; first | rw [b2.out] | rw [b1.out]))
        refine HQ.mono ?_
        rintro e w3 ⟨E, c3, q, a, rfl, hf, hpo, HR3'⟩
        have HR3 := Lib.hid (HR2.out.next HR3'.out)
        go_wp2
        go_meet
        refine ⟨E, c3, q, a, rfl, ?_, fun h => (hpo.out h).weak HR2.out.fr.size, HR3⟩
        unfold Hid; rw [HA.out, ← hb2.out, ← HPT.out]; exact hf
    · have HA : Hid (o = behindS (c.flat []) ((slashS (bl r)).dropWhile (· == 47))) := HO.out.symm.trans (allS_special (u0 := c.flat []) HSP.out)
      have HE := Lib.hid HR1.out.envn
      have HQ := fun t (hz : t.size ≤ 1000000) W we (h : Hid (Rd w0 we g { c with port := -1 } [.string t] W)) => rd_behind g { c with port := -1 } [] t w0 W hz (Lib.hid h.out.now) HP.out
      go_wp2_with (first | (go_at_call 35; go_must (refine (url_Special _ _).mono ?_); rintro e w' ⟨rfl, rfl⟩; rw [HSP.out]))
      refine (url_slashes r _ hs HE).mono ?_
      rintro e w2 ⟨⟨t, rfl, ht, htz⟩, HB1⟩
      have HR2 := Lib.hid (HR1.out.now.step HB1.out)
      have htz3 : t.size ≤ 1000000 := by omega
      obtain ⟨d12, e12⟩ := HR2.out.rest
      go_wp2_with (first | (go_at_call 113; go_must (refine (lib_TrimL t _ htz3).mono ?_); rintro e w' ⟨⟨t2, rfl, ht2, htz2⟩, hw⟩; rw [hw]; clear hw; have HR3 := Lib.hid (HR2.out.put 12 (.string t2) (c' := { c with port := -1 }) (ext' := [.string t2]) rfl)))
      refine (HQ t2 (by omega) _ _ HR3).mono ?_
      rintro e w3 ⟨E, c3, q, a, rfl, hf, hpo, HR4'⟩
      have HR4 := Lib.hid (HR3.out.next HR4'.out)
      go_wp2
      go_meet
      refine ⟨E, c3, q, a, rfl, ?_, fun h => (hpo.out h).weak HR3.out.fr.size, HR4⟩
      unfold Hid; rw [HA.out, ← ht.out, ← ht2.out, ← HPT.out]; exact hf
  case rest =>
    obtain ⟨E, c6, q, a, rfl, hres, hpo, HR2⟩ := hcut
    have RB2 := Lib.hid (HR2.out.fr.row HGB.out RB1.out)
    have HR3 := Lib.hid (HR1.out.next HR2.out)
    have hgb : g ≠ b := fun e => HGB.out e.symm
    have HNG := Lib.hid hgb
    clear hgb
    have hwb := HWB.out
    rw [hwb]
    clear hwb
    cases o with
    | error x =>
      have hE : E = x := hres.out
      subst hE
      have hx := all_err HO.out
      have hne1 : (E != 0) = true := by rw [bne_iff_ne]; omega
      have hne2 : (E == 0) = false := by rw [beq_eq_false_iff_ne]; omega
      clear hres hx
      go_wp2_with (first | (refine store_url rfl _ _ (by exact rfl) b (by exact rfl) noC noC [] (by exact rfl) RB2.out rfl ?_; intro w7 HRB HBP))
      refine bodyPost_ret (res_url rfl _ _ b noC [] (by exact rfl) HRB.out) rfl ?_
      exact ⟨_, by rw [HO.out]; rfl, by rw [HO.out]; exact urlV_no _ _, c6, a, HR3.out.stash HBP.out (Nat.le_of_eq HWB.out) HBW.out HNG.out⟩
    | ok v =>
      obtain ⟨hE, hv⟩ : E = 0 ∧ c6.flat q = v := hres.out
      subst hE
      have HPO := Lib.hid (hpo.out rfl)
      have h1c := own_cell HPO.out.1
      have HV := Lib.hid hv
      clear hres hpo hv
      go_wp2_with (first | (refine load_url rfl _ (by exact rfl) g (by exact rfl) c6 [.string a] HR3.out.row ?_) | (refine store_url rfl _ _ (by exact rfl) b (by exact rfl) noC c6 [] (by exact rfl) RB2.out h1c ?_; intro w7 HRB HBP))
      refine bodyPost_ret (res_url rfl _ _ b c6 [] (by exact rfl) HRB.out) rfl ?_
      refine ⟨_, by rw [HO.out]; rfl, ?_, c6, a, HR3.out.stash HBP.out (Nat.le_of_eq HWB.out) HBW.out HNG.out⟩
      rw [HO.out]
      refine ⟨c6, q, rfl, HV.out, ?_⟩
      refine BelP.own HBP.out (fun k hk => ?_) (HPO.out.1.weak (by have := HBB.out; omega))
      have := HPO.out.1.base k hk
      have := HBB.out
      omega
end Go.Proofs.YtbpkkgaaeodimaaGreatDoor
namespace Go.Proofs.YtbpkkgaaeodimaaGreatDoor
open Go.RowKit

/-! The cleaned text, as the program makes it. -/
set_option maxHeartbeats 2000000 in
set_option maxRecDepth 100000 in
theorem url_cleaned (s : ByteArray) (w : World) (hs : s.size ≤ 1000000) :
    Calls Tryz.prog 47 #[.string s] w fun e w' => (∃ t, e = .returned (.string t) ∧ Hid (bl t = cleanS (bl s)) ∧ t.size ≤ s.size) ∧ Hid (Bel w w') := by
  go_enter Tryz.func47, Tryz.ntmps47
  go_wp2
  go_loopg [0] s.size (fun g v0 wr => ∃ t : ByteArray, v0 = .string t ∧ t.size ≤ g ∧ t.size ≤ s.size ∧ Hid ((bl t).dropWhile blankB = (bl s).dropWhile blankB) ∧ w = wr)
  case atStart => exact ⟨s, rfl, Nat.le_refl _, Nat.le_refl _, rfl, rfl⟩
  case round =>
    obtain ⟨t, rfl, ht, hts, HI, rfl⟩ := hrel
    have hgo : 0 < t.size → ∀ h : 0 < t.size, blankB t[0] = true → Hid ((bl (t.extract 1 t.size)).dropWhile blankB = (bl s).dropWhile blankB) := by
      intro _ h hb
      unfold Hid; rw [← HI.out, bl_tail]; conv => rhs; rw [bl_head t h, List.dropWhile_cons, hb, if_pos rfl]
    by_cases hc : ∃ h : 0 < t.size, blankB t[0] = true
    · obtain ⟨h0, hb⟩ := hc
      obtain ⟨g, rfl⟩ : ∃ g, gk = g + 1 := ⟨gk - 1, by omega⟩
      have HF := hgo h0 h0 hb
      have hb2 : (t[0].toNat : Int) ≤ 32 := by
        rcases blank_cases t[0] with ⟨_, h⟩ | ⟨h, _⟩
        · exact h
        · rw [hb] at h; cases h
      have hz : (t.extract 1 t.size).size ≤ g := by rw [ByteArray.size_extract]; omega
      have hz2 : (t.extract 1 t.size).size ≤ s.size := by rw [ByteArray.size_extract]; omega
      clear hb HI hgo
      go_wp2
      go_roundg g
      case measure => omega
      case rel => exact ⟨_, rfl, hz, hz2, HF, rfl⟩
    · have HF : Hid (bl t = (bl s).dropWhile blankB) := by
        unfold Hid; rw [← HI.out]
        by_cases h0 : 0 < t.size
        · have hb : blankB t[0] = false := by
            cases h : blankB t[0]
            · rfl
            · exact absurd ⟨h0, h⟩ hc
          rw [bl_head t h0, List.dropWhile_cons, hb]; rfl
        · rw [List.eq_nil_of_length_eq_zero (l := bl t) (by rw [bl_length]; omega)]; rfl
      have hq : ¬ 0 < (t.size : Int) ∨ (0 < (t.size : Int) ∧ ∃ h : 0 < t.size, ¬ (t[0].toNat : Int) ≤ 32) := by
        by_cases h0 : 0 < t.size
        · refine .inr ⟨by omega, h0, ?_⟩
          rcases blank_cases t[0] with ⟨h, _⟩ | ⟨_, h⟩
          · exact absurd ⟨h0, h⟩ hc
          · exact h
        · exact .inl (by omega)
      clear hc HI hgo
      have HT : Hid (rstrip blankB (bl t) = trimS (bl s)) := by unfold Hid trimS; rw [HF.out]
      clear HF
      rcases hq with hq | ⟨hq, hq0, hq1⟩
      all_goals
        go_wp2
        go_loopg [0] t.size (fun g v0 wr => ∃ r : ByteArray, v0 = .string r ∧ r.size ≤ g ∧ r.size ≤ s.size ∧ Hid (rstrip blankB (bl r) = trimS (bl s)) ∧ w = wr)
        case atStart => exact ⟨t, rfl, Nat.le_refl _, hts, HT, rfl⟩
        case round =>
          obtain ⟨r, rfl, hr, hrs, HI, rfl⟩ := hrel
          clear hq
          by_cases hc : ∃ h : 0 < r.size, blankB (r[r.size - 1]'(by omega)) = true
          · obtain ⟨h0, hb⟩ := hc
            obtain ⟨g, rfl⟩ : ∃ g, gk = g + 1 := ⟨gk - 1, by omega⟩
            have HF : Hid (rstrip blankB (bl (r.extract 0 (r.size - 1))) = trimS (bl s)) := by
              unfold Hid; rw [← HI.out, bl_init]; conv => rhs; rw [bl_lastc r h0, rstrip_cut _ _ _ hb]
            have hb2 : ((r[r.size - 1]'(by omega)).toNat : Int) ≤ 32 := by
              rcases blank_cases (r[r.size - 1]'(by omega)) with ⟨_, h⟩ | ⟨h, _⟩
              · exact h
              · rw [hb] at h; cases h
            have hz : (r.extract 0 (r.size - 1)).size ≤ g := by rw [ByteArray.size_extract]; omega
            have hz2 : (r.extract 0 (r.size - 1)).size ≤ s.size := by rw [ByteArray.size_extract]; omega
            have p0 : (0 : Int) < r.size := by omega
            have e1 : IntKind.i64.wrap ((r.size : Int) - 1) = ((r.size - 1 : Nat) : Int) := by rw [IntWalk.i64_in _ (by omega)]; omega
            have p2 : r.size - 1 < r.size := by omega
            clear hb HI
            go_wp2
            go_roundg g
            case measure => omega
            case rel => exact ⟨_, rfl, hz, hz2, HF, rfl⟩
          · have HF : Hid (bl r = trimS (bl s)) := by
              unfold Hid; rw [← HI.out]
              by_cases h0 : 0 < r.size
              · have hb : blankB (r[r.size - 1]'(by omega)) = false := by
                  cases h : blankB (r[r.size - 1]'(by omega))
                  · rfl
                  · exact absurd ⟨h0, h⟩ hc
                conv => rhs; rw [bl_lastc r h0, rstrip_keep _ _ _ hb, ← bl_lastc r h0]
              · rw [List.eq_nil_of_length_eq_zero (l := bl r) (by rw [bl_length]; omega)]; rfl
            have hq : ¬ 0 < (r.size : Int) ∨ (0 < (r.size : Int) ∧ ∃ h : 0 < r.size, ¬ ((r[r.size - 1]'(by omega)).toNat : Int) ≤ 32) := by
              by_cases h0 : 0 < r.size
              · refine .inr ⟨by omega, h0, ?_⟩
                rcases blank_cases (r[r.size - 1]'(by omega)) with ⟨h, _⟩ | ⟨_, h⟩
                · exact absurd ⟨h0, h⟩ hc
                · exact h
              · exact .inl (by omega)
            clear hc HI
            have e1 : 0 < r.size → IntKind.i64.wrap ((r.size : Int) - 1) = ((r.size - 1 : Nat) : Int) := fun _ => by rw [IntWalk.i64_in _ (by omega)]; omega
            have HLS := fun W h (hc : ∀ j u, rpV[j]? = some u → World.cell? W ⟨h, j, none⟩ = some u) => rp_new h W hc
            rcases hq with hq | ⟨hq, hq0, hq1⟩
            case' inl => clear e1
            case' inr =>
              replace e1 := e1 hq0
              have p2 : r.size - 1 < r.size := by omega
            all_goals
              have hA : Hid (Bel w (w.alloc (.cells #[.string ⟨#[9]⟩, .string ⟨#[]⟩, .string ⟨#[10]⟩, .string ⟨#[]⟩, .string ⟨#[13]⟩, .string ⟨#[]⟩] 9))) := (Below.refl _ w).alloc (Nat.le_refl _) _
              have hC : ∀ j u, rpV[j]? = some u → World.cell? (w.alloc (.cells #[.string ⟨#[9]⟩, .string ⟨#[]⟩, .string ⟨#[10]⟩, .string ⟨#[]⟩, .string ⟨#[13]⟩, .string ⟨#[]⟩] 9)) ⟨w.heap.size, j, none⟩ = some u := fun j u hj => ((RowAt.new w #[.string ⟨#[9]⟩, .string ⟨#[]⟩, .string ⟨#[10]⟩, .string ⟨#[]⟩, .string ⟨#[13]⟩, .string ⟨#[]⟩] 9).2 j u hj).1
              have HNW := Lib.hid (HLS _ _ hC)
              clear hC HLS
              go_wp2_with fail
              refine HNW.out.mono ?_
              rintro e w1 ⟨⟨b, on, rfl, hbb, HRW, HON⟩, HB1⟩
              have HB := Lib.hid (bel_trans hA.out HB1.out)
              go_wp2_with fail
              refine (rp_Replace b r _ on _ (by omega) HRW HON).mono ?_
              rintro e w2 ⟨⟨t2, rfl, ht2, htz2⟩, HF2⟩
              go_wp2
              go_ret
              have hsz := hA.out.size
              exact ⟨⟨t2, rfl, by unfold Hid; rw [ht2.out, HF.out]; rfl, by omega⟩, BelP.bel HB.out (fun k hk => by rw [hk]; omega) HF2.out⟩
end Go.Proofs.YtbpkkgaaeodimaaGreatDoor
