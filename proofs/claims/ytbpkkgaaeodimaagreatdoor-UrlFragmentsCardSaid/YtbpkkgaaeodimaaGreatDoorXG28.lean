import Derived.Test.YtbpkkgaaeodimaaGreatDoorXG27
import Derived.StillTailTactics
namespace Go.Proofs.YtbpkkgaaeodimaaGreatDoor
open Go.RowKit

/-! What is relative to an address. -/
def joinedL (u : UrlS) (l : List UInt8) (base : UrlS) : Except Int UrlS :=
  if begins l [47, 47] = true then allS { noUrl with scheme := base.scheme, frag := u.frag, hasFrag := u.hasFrag } l
  else if begins l [47] = true then .ok (rootedS u l)
  else if l = [] then .ok u
  else if l.head? = some 63 then .ok (queryS u l).1
  else .ok (queryS { u with path := pathS base.path.dropLast (aheadQ l) } l).1
theorem joinedL_is (u : UrlS) (l0 : List UInt8) (base : UrlS) : joinedS u l0 base = joinedL u (if specialS base.scheme = true then slashS l0 else l0) base := rfl
theorem begins_ahead {l : List UInt8} (h : begins l [47] = true) : aheadQ l ≠ [] := by
  have h1 := begins_one.1 h
  match l, h1 with
  | x :: r, h1 =>
    simp at h1
    subst h1
    unfold aheadQ
    simp
theorem query_behind (u : UrlS) (l : List UInt8) : (queryS u l).1 = { u with hasQuery := (segS 63 (behindQ l)).2.2, query := percent (setQ u.scheme) (segS 63 (behindQ l)).2.1 } := by
  have h := (seg_behind l).1
  unfold queryS
  rw [h]
theorem Rd.wide {w0 we w w' : World} {g : Nat} {c c' : UrlC} {ext ext' : List Value} {P : Nat → Prop} (h : Rd w0 we g c ext w) (k : Rd w0 w' g c' ext' w') (hb : BelP (fun j => j = g ∨ P j) w w') (hP : ∀ j, P j → we.heap.size ≤ j) : Rd w0 we g c' ext' w' :=
  ⟨k.row, k.bel, h.big, h.env, ((h.fr.mono (fun _ _ hk => Or.inl hk)).trans hb : BelP (fun j => j = g ∨ P j) we w').mono (fun j hj h => by
    rcases h with h | h
    · exact h
    · have := hP j h; omega)⟩
set_option maxHeartbeats 4000000 in
set_option maxRecDepth 100000 in
theorem rd_joined (g : Nat) (c cb : UrlC) (p : List (List UInt8)) (base : Nat) (r : ByteArray) (w0 w : World) (hs : r.size ≤ 1000000) (hp : p.length ≤ 1000000) (HR : Hid (Rd w0 w g c [.string r] w)) (HO : Hid (PathOwn w base g cb.path p)) :
    Calls Tryz.prog 54 #[.pointer (some ⟨g, 0, none⟩), .agg cb.cells.toArray] w fun e w' => ∃ v, e = .returned (.tuple #[v, .int .i64 (whyE (joinedS (c.flat p) (bl r) (cb.flat p)))]) ∧ Hid (UrlV w' w.heap.size v (okU (joinedS (c.flat p) (bl r) (cb.flat p)))) ∧ ∃ c' a, Hid (Rd w0 w g c' [.string a] w') := by
  have hgw : g < w.heap.size := HR.out.row.1
  have hbw : w0.heap.size ≤ w.heap.size := HR.out.bel.size
  obtain ⟨b, hb⟩ : ∃ b, w.heap.size = b := ⟨_, rfl⟩
  have HWB := Lib.hid hb
  have hgb : b ≠ g := by omega
  have hgb1 : b + 1 ≠ g := by omega
  have HGB := Lib.hid hgb
  have HGB1 := Lib.hid hgb1
  have HGW : Hid (g < b) := by rw [← hb]; exact hgw
  have HBW : Hid (w0.heap.size ≤ b) := by rw [← hb]; exact hbw
  have hone : cb.path.oneCell' = true := own_cell HO.out.1
  have HW2 : Hid (Bel w ((w.alloc (.cells cb.cells.toArray 24)).alloc (.cells noC.cells.toArray 24))) := ((Below.refl _ w).alloc (Nat.le_refl _) _).alloc (by simp) _
  have HR0 := Lib.hid (HR.out.step HW2.out)
  have HO0 := Lib.hid (HO.out.bel HW2.out)
  have RA0 : Hid (RowAt ((w.alloc (.cells cb.cells.toArray 24)).alloc (.cells noC.cells.toArray 24)) w.heap.size (cb.cells ++ [])) := by rw [List.append_nil]; exact (RowAt.new w cb.cells.toArray 24).bel ((Below.refl _ _).alloc (Nat.le_refl _) _)
  have hr0 := RowAt.new (w.alloc (.cells cb.cells.toArray 24)) noC.cells.toArray 24
  rw [show (w.alloc (.cells cb.cells.toArray 24)).heap.size = w.heap.size + 1 by simp] at hr0
  have RB0 : Hid (RowAt ((w.alloc (.cells cb.cells.toArray 24)).alloc (.cells noC.cells.toArray 24)) (w.heap.size + 1) (noC.cells ++ [])) := hr0
  have HS2 : Hid (((w.alloc (.cells cb.cells.toArray 24)).alloc (.cells noC.cells.toArray 24)).heap.size = b + 2) := by unfold Hid; rw [← hb]; simp
  have hcs : cb.cells.toArray = #[.string cb.scheme, .string cb.user, .string cb.pass, .string cb.host, .bool cb.hasHost, .int .i64 cb.port, .bool cb.opaq, cb.path, .string cb.query, .string cb.frag, .bool cb.hasQuery, .bool cb.hasFrag] := rfl
  clear hr0 HW2 hgw hbw hgb hgb1 HR HO
  rw [hcs, no_cells] at HR0 RA0 RB0 HS2 HO0
  rw [hcs]
  clear hcs
  obtain ⟨sp, hsp⟩ : ∃ sp, specialS (bl cb.scheme) = sp := ⟨_, rfl⟩
  have HSP := Lib.hid hsp
  have HJ0 : Hid (joinedS (c.flat p) (bl r) (cb.flat p) = joinedL (c.flat p) (if sp = true then slashS (bl r) else bl r) (cb.flat p)) := by
    unfold Hid; rw [joinedL_is, show specialS (cb.flat p).scheme = sp from hsp]
  clear hsp
  go_enter Tryz.func54, Tryz.ntmps54
  go_upto_if 8 with (first | (go_at_call 35; go_must (refine (url_Special _ _).mono ?_); rintro e w' ⟨rfl, rfl⟩; rw [HSP.out]))
  rw [hb] at RA0 RB0
  try rw [hb]
  clear hb
  generalize (World.alloc (World.alloc w _) _) = w2 at *
  go_cut [] (fun wc => ∃ r1, Hid (bl r1 = if sp = true then slashS (bl r) else bl r) ∧ r1.size ≤ 1000000 ∧ Hid (Rd w0 w2 g c [.string r1] wc))
  case first =>
    cases sp
    · go_wp2
      go_meet
      exact ⟨r, by unfold Hid; simp, hs, Lib.hid HR0.out.now⟩
    · obtain ⟨k12, l12⟩ := HR0.out.rest
      go_wp2_with fail
      refine (url_slashes r _ hs (Lib.hid HR0.out.envn)).mono ?_
      rintro e w3 ⟨⟨t, rfl, ht, htz⟩, HB3⟩
      have HR3 := Lib.hid (HR0.out.now.step HB3.out)
      obtain ⟨m12, n12⟩ := HR3.out.rest
      go_wp2
      go_meet
      exact ⟨t, by unfold Hid; rw [ht.out]; simp, by omega, HR3.out.put 12 (.string t) (c' := c) (ext' := [.string t]) rfl⟩
  case rest =>
    obtain ⟨r1, hr1, hz1, HR2⟩ := hcut
    have HJ1 : Hid (joinedS (c.flat p) (bl r) (cb.flat p) = joinedL (c.flat p) (bl r1) (cb.flat p)) := by unfold Hid; rw [HJ0.out, hr1.out]
    have HG2 : Hid (g < w2.heap.size) := HR0.out.row.1
    have RA2 := Lib.hid (HR2.out.fr.row HGB.out RA0.out)
    have HO2 := Lib.hid (HO0.out.fr HR2.out.fr)
    have k7 := (RA2.out.2 7 cb.path rfl).1
    clear hr1 HJ0
    go_wp2_with fail
    refine (slices_Clone cb.path p base _ hp (Lib.hid HO2.out.1)).mono ?_
    rintro e w4 ⟨⟨v, rfl, HV4⟩, HB4⟩
    obtain ⟨A, cv, rfl⟩ := HV4.out.shapeS
    have HR4 := Lib.hid (HR2.out.step HB4.out)
    obtain ⟨_, _, _, _, _, _, _, ⟨k7g, l7g⟩, _⟩ := HR4.out.cells
    have HR5 := Lib.hid (HR4.out.path (v := .slice A p.length cv))
    have hbig : w2.heap.size ≤ w4.heap.size := HR4.out.fr.size
    have HP5 : Hid (PathOwn (w4.setCell ⟨g, 7, none⟩ (.slice A p.length cv)) w2.heap.size g (.slice A p.length cv) p) := (PathOwn.of (HV4.out.weak HR2.out.fr.size) HG2.out).fr (BelP.set _ _ rfl)
    go_upto_block 0 with (fail)
    generalize (World.setCell w4 (⟨g, 7, none⟩ : Addr) (.slice A p.length cv)) = w5 at *
    clear k7 k7g l7g HR4 HB4 HV4 HR2 hbig HO2 RA2
    have RA5 := Lib.hid (HR5.out.fr.row HGB.out RA0.out)
    have RB5 := Lib.hid (HR5.out.fr.row HGB1.out RB0.out)
    have hp1 := fun t => hasPrefix_eq r1 t
    have HPF := Lib.hid hp1
    obtain ⟨k12, l12⟩ := HR5.out.rest
    clear hp1
    obtain ⟨t2, ht2⟩ : ∃ t2, begins (bl r1) [47, 47] = t2 := ⟨_, rfl⟩
    have HT2 := Lib.hid ht2
    have b2 : Hid (begins (bl r1) (bl ⟨#[47, 47]⟩) = t2) := ht2
    clear ht2
    cases t2
    · obtain ⟨t1, ht1⟩ : ∃ t1, begins (bl r1) [47] = t1 := ⟨_, rfl⟩
      have HT1 := Lib.hid ht1
      have b1 : Hid (begins (bl r1) (bl ⟨#[47]⟩) = t1) := ht1
      clear ht1
      cases t1
      · by_cases he : r1.size = 0
        · have hre : r1 = ⟨#[]⟩ := bl_inj (List.eq_nil_of_length_eq_zero (by rw [bl_length]; exact he))
          have HNIL : Hid (bl r1 = []) := List.eq_nil_of_length_eq_zero (by rw [bl_length]; exact he)
          have htl : r1.toList.isEmpty = true := by rw [toList_bl, HNIL.out]; rfl
          have HF : Hid (joinedS (c.flat p) (bl r) (cb.flat p) = .ok (({ c with path := .slice A p.length cv } : UrlC).flat p)) := by
            unfold Hid; rw [HJ1.out]; unfold joinedL; rw [HT2.out, HT1.out, if_neg Bool.false_ne_true, if_neg Bool.false_ne_true, if_pos HNIL.out]; rfl
          clear hre he
          go_upto_region 14 with (first | (go_at_call 64; go_must (refine (Tryz.strings_HasPrefix _ _ _).mono ?_); rintro e w' ⟨rfl, hw⟩; rw [hw, HPF.out]; clear hw; first | rw [b2.out] | rw [b1.out]))
          have RBN := Lib.hid (HR5.out.fr.row HGB1.out RB0.out)
          have h1c := own_cell HP5.out.1
          go_wp2_with (first | (refine load_url rfl _ (by exact rfl) g (by exact rfl) ({ c with path := .slice A p.length cv }) [.string r1] HR5.out.row ?_) | (refine store_url rfl _ _ (by exact rfl) (b + 1) (by exact rfl) noC ({ c with path := .slice A p.length cv }) [] (by exact rfl) RBN.out h1c ?_; intro w7 HRB HBP))
          refine bodyPost_ret (res_url rfl _ _ (b + 1) ({ c with path := .slice A p.length cv }) [] (by exact rfl) HRB.out) rfl ?_
          have HRN := Lib.hid ((HR0.out.next HR5.out).stash HBP.out (by have := HWB.out; omega) (by have := HBW.out; omega) HGB1.out.symm)
          refine ⟨_, by rw [HF.out]; rfl, ?_, _, _, HRN⟩
          rw [HF.out]
          refine ⟨{ c with path := .slice A p.length cv }, p, rfl, rfl, ?_⟩
          refine BelP.own HBP.out (fun k hk => ?_) (HP5.out.1.weak (by have := HS2.out; have := HWB.out; omega))
          have := HP5.out.1.base k hk
          have := HS2.out
          omega
        · have hpos : 0 < r1.size := by omega
          have HNE : Hid (bl r1 ≠ []) := fun h => by have := congrArg List.length h; rw [bl_length] at this; exact he this
          have htl : r1.toList.isEmpty = false := by rw [toList_bl]; simpa using HNE.out
          have q0 : (0 : Int) < r1.size := by omega
          have HHD : Hid ((bl r1).head? = some r1[0]) := by unfold Hid; have h := bl_drop r1 0 hpos; rw [List.drop_zero] at h; rw [h]; rfl
          have hx63 : ((r1[0].toNat : Int) == 63) = (r1[0] == 63) := u8_is r1[0] 63 (by decide)
          clear he
          by_cases h63 : r1[0] = 63
          · have hq2 : ((r1[0].toNat : Int) == 63) = true := by rw [hx63, h63]; rfl
            have HQS : Hid (joinedS (c.flat p) (bl r) (cb.flat p) = .ok (queryS (c.flat p) (bl r1)).1) := by
              unfold Hid; rw [HJ1.out]; unfold joinedL; rw [HT2.out, HT1.out, if_neg Bool.false_ne_true, if_neg Bool.false_ne_true, if_neg HNE.out, if_pos (by rw [HHD.out, h63])]
            clear hx63 h63
            have HQ := rd_query g { c with path := .slice A p.length cv } r1 w0 w5 hz1 (Lib.hid HR5.out.now)
            go_wp2_with (first | (go_at_call 64; go_must (refine (Tryz.strings_HasPrefix _ _ _).mono ?_); rintro e w' ⟨rfl, hw⟩; rw [hw, HPF.out]; clear hw; first | rw [b2.out] | rw [b1.out]))
            refine HQ.mono ?_
            rintro e w6 ⟨a, q, rfl, ha, haz, hq, HR6'⟩
            have HR6 := Lib.hid (HR5.out.next HR6'.out)
            have HP6 := Lib.hid (HP5.out.fr HR6'.out.fr)
            have HF : Hid (joinedS (c.flat p) (bl r) (cb.flat p) = .ok (({ c with path := .slice A p.length cv, query := q, hasQuery := (segS 63 (bl r1)).2.2 } : UrlC).flat p)) := by
              unfold Hid; rw [HQS.out]; unfold queryS UrlC.flat; simp only []; rw [hq.out]
            clear HR6' HQS HQ
            have RBN := Lib.hid (HR6.out.fr.row HGB1.out RB0.out)
            have h1c := own_cell HP6.out.1
            go_wp2_with (first | (refine load_url rfl _ (by exact rfl) g (by exact rfl) ({ c with path := .slice A p.length cv, query := q, hasQuery := (segS 63 (bl r1)).2.2 }) [.string a] HR6.out.row ?_) | (refine store_url rfl _ _ (by exact rfl) (b + 1) (by exact rfl) noC ({ c with path := .slice A p.length cv, query := q, hasQuery := (segS 63 (bl r1)).2.2 }) [] (by exact rfl) RBN.out h1c ?_; intro w7 HRB HBP))
            refine bodyPost_ret (res_url rfl _ _ (b + 1) ({ c with path := .slice A p.length cv, query := q, hasQuery := (segS 63 (bl r1)).2.2 }) [] (by exact rfl) HRB.out) rfl ?_
            have HRN := Lib.hid ((HR0.out.next HR6.out).stash HBP.out (by have := HWB.out; omega) (by have := HBW.out; omega) HGB1.out.symm)
            refine ⟨_, by rw [HF.out]; rfl, ?_, _, _, HRN⟩
            rw [HF.out]
            refine ⟨{ c with path := .slice A p.length cv, query := q, hasQuery := (segS 63 (bl r1)).2.2 }, p, rfl, rfl, ?_⟩
            refine BelP.own HBP.out (fun k hk => ?_) (HP6.out.1.weak (by have := HS2.out; have := HWB.out; omega))
            have := HP6.out.1.base k hk
            have := HS2.out
            omega
          · have hq2 : ((r1[0].toNat : Int) == 63) = false := by rw [hx63]; simpa using h63
            have HQS : Hid (joinedS (c.flat p) (bl r) (cb.flat p) = .ok (queryS { c.flat p with path := pathS p.dropLast (aheadQ (bl r1)) } (bl r1)).1) := by
              unfold Hid; rw [HJ1.out]; unfold joinedL; rw [HT2.out, HT1.out, if_neg Bool.false_ne_true, if_neg Bool.false_ne_true, if_neg HNE.out, if_neg (by rw [HHD.out]; exact fun h => h63 (Option.some.inj h))]; rfl
            clear hx63 h63
            have HP5i : Hid (PathOwn w5 w2.heap.size g (.slice A (p.length - 1) cv) p.dropLast) := by
              refine ⟨?_, fun k hk => HP5.out.2 k (by rcases A with _ | ⟨b9, o9, i9⟩ <;> exact hk)⟩
              have h := Own.take HP5.out.1 (p.length - 1) (by rw [strs_len]; omega)
              rw [take_init] at h; exact h
            obtain ⟨_, _, _, _, _, _, _, ⟨k7, _⟩, _⟩ := HR5.out.cells
            have c0 : p.length - 1 ≤ cv := by
              by_cases h0 : strs p = []
              · have h9 : p.length = 0 := by rw [← strs_len, h0]; rfl
                omega
              · obtain ⟨g9, c9, e, _, _, hc⟩ := HP5.out.1.row h0
                simp only [Value.slice.injEq] at e
                rw [strs_len] at hc; omega
            have c1 : ((p.length - 1 : Nat) : Int) ≤ cv := by omega
            have wr1 : IntKind.i64.wrap ((p.length : Int) - 1) = (p.length : Int) - 1 := IntWalk.i64_in _ (by omega)
            have c2 : (max ((p.length : Int) - 1) 0) = ((p.length - 1 : Nat) : Int) := by omega
            go_upto_region 4 with (first | (go_at_call 64; go_must (refine (Tryz.strings_HasPrefix _ _ _).mono ?_); rintro e w' ⟨rfl, hw⟩; rw [hw, HPF.out]; clear hw; first | rw [b2.out] | rw [b1.out]))
            go_still_tail 15, (by kernel_rfl)
            change wpList _ _ _ _ _ w5.drew
            have HD : Hid (Bel w5 w5.drew) := bel_drew w5
            have HR6 := Lib.hid (HR5.out.step HD.out)
            have HP6 := Lib.hid (HP5i.out.bel HD.out)
            generalize w5.drew = w6 at *
            go_wp2_with fail
            refine (rd_path g { c with path := .slice A p.length cv } r1 (.slice A (p.length - 1) cv) p.dropLast w2.heap.size w0 w6 hz1 (by rw [List.length_dropLast]; omega) (Lib.hid HR6.out.now) HP6 HR6.out.fr.size (by have := HS2.out; have := HBW.out; omega)).mono ?_
            rintro e w7 ⟨a, v7, rfl, ha, haz, HP7, HR7', HB7⟩
            have HR7 := Lib.hid (HR6.out.wide HR7'.out HB7.out (fun k hk => HP6.out.1.base k hk))
            have HQ := rd_query g { c with path := v7 } a w0 w7 (by omega) (Lib.hid HR7.out.now)
            clear HR7'
            go_wp2_with fail
            refine HQ.mono ?_
            rintro e w8 ⟨a8, q, rfl, ha8, haz8, hq, HR8'⟩
            have HR8 := Lib.hid (HR7.out.next HR8'.out)
            have HP8 := Lib.hid (HP7.out.fr HR8'.out.fr)
            have HF : Hid (joinedS (c.flat p) (bl r) (cb.flat p) = .ok (({ c with path := v7, query := q, hasQuery := (segS 63 (bl a)).2.2 } : UrlC).flat (pathS p.dropLast (aheadQ (bl r1))))) := by
              unfold Hid; rw [HQS.out, query_behind, ← ha.out]; unfold UrlC.flat; simp only []; rw [hq.out]
            clear HR8' HQS HQ HP7 HR7 HP6 HR6
            have RBN := Lib.hid (HR8.out.fr.row HGB1.out RB0.out)
            have h1c := own_cell HP8.out.1
            go_wp2_with (first | (refine load_url rfl _ (by exact rfl) g (by exact rfl) ({ c with path := v7, query := q, hasQuery := (segS 63 (bl a)).2.2 }) [.string a8] HR8.out.row ?_) | (refine store_url rfl _ _ (by exact rfl) (b + 1) (by exact rfl) noC ({ c with path := v7, query := q, hasQuery := (segS 63 (bl a)).2.2 }) [] (by exact rfl) RBN.out h1c ?_; intro w7 HRB HBP))
            refine bodyPost_ret (res_url rfl _ _ (b + 1) ({ c with path := v7, query := q, hasQuery := (segS 63 (bl a)).2.2 }) [] (by exact rfl) HRB.out) rfl ?_
            have HRN := Lib.hid ((HR0.out.next HR8.out).stash HBP.out (by have := HWB.out; omega) (by have := HBW.out; omega) HGB1.out.symm)
            refine ⟨_, by rw [HF.out]; rfl, ?_, _, _, HRN⟩
            rw [HF.out]
            refine ⟨{ c with path := v7, query := q, hasQuery := (segS 63 (bl a)).2.2 }, (pathS p.dropLast (aheadQ (bl r1))), rfl, rfl, ?_⟩
            refine BelP.own HBP.out (fun k hk => ?_) (HP8.out.1.weak (by have := HS2.out; have := HWB.out; omega))
            have := HP8.out.1.base k hk
            have := HS2.out
            omega
      · have HROO : Hid (joinedS (c.flat p) (bl r) (cb.flat p) = .ok (rootedS (c.flat p) (bl r1))) := by
          unfold Hid; rw [HJ1.out]; unfold joinedL; rw [HT2.out, HT1.out, if_neg Bool.false_ne_true, if_pos rfl]
        have HQ := rd_rooted g { c with path := .slice A p.length cv } r1 p w0 w5 hz1 (Lib.hid HR5.out.now) (fun h => absurd h.1 (begins_ahead HT1.out))
        go_wp2_with (first | (go_at_call 64; go_must (refine (Tryz.strings_HasPrefix _ _ _).mono ?_); rintro e w' ⟨rfl, hw⟩; rw [hw, HPF.out]; clear hw; first | rw [b2.out] | rw [b1.out]))
        refine HQ.mono ?_
        rintro e w6 ⟨a, c6, q, rfl, hf, hpo, HR6'⟩
        have HR6 := Lib.hid (HR5.out.next HR6'.out)
        have HP6 : Hid (PathOwn w6 w2.heap.size g c6.path q) := ⟨hpo.out.1.weak HR5.out.fr.size, hpo.out.2⟩
        have HF : Hid (joinedS (c.flat p) (bl r) (cb.flat p) = .ok (c6.flat q)) := by unfold Hid; rw [HROO.out, hf.out]; rfl
        clear HR6' HROO HQ hpo hf
        have RBN := Lib.hid (HR6.out.fr.row HGB1.out RB0.out)
        have h1c := own_cell HP6.out.1
        go_wp2_with (first | (refine load_url rfl _ (by exact rfl) g (by exact rfl) (c6) [.string a] HR6.out.row ?_) | (refine store_url rfl _ _ (by exact rfl) (b + 1) (by exact rfl) noC (c6) [] (by exact rfl) RBN.out h1c ?_; intro w7 HRB HBP))
        refine bodyPost_ret (res_url rfl _ _ (b + 1) (c6) [] (by exact rfl) HRB.out) rfl ?_
        have HRN := Lib.hid ((HR0.out.next HR6.out).stash HBP.out (by have := HWB.out; omega) (by have := HBW.out; omega) HGB1.out.symm)
        refine ⟨_, by rw [HF.out]; rfl, ?_, _, _, HRN⟩
        rw [HF.out]
        refine ⟨c6, q, rfl, rfl, ?_⟩
        refine BelP.own HBP.out (fun k hk => ?_) (HP6.out.1.weak (by have := HS2.out; have := HWB.out; omega))
        have := HP6.out.1.base k hk
        have := HS2.out
        omega
    · have HF : Hid (joinedS (c.flat p) (bl r) (cb.flat p) = allS (({ noC with scheme := cb.scheme, frag := c.frag, hasFrag := c.hasFrag } : UrlC).flat []) (bl r1)) := by
        unfold Hid; rw [HJ1.out]; unfold joinedL; rw [HT2.out, if_pos rfl]; rfl
      have k0 := (RA5.out.2 0 (.string cb.scheme) rfl).1
      obtain ⟨_, _, _, _, _, _, _, _, _, ⟨k9, _⟩, _, ⟨k11, _⟩⟩ := HR5.out.cells
      go_upto_region 7 with (first | (go_at_call 64; go_must (refine (Tryz.strings_HasPrefix _ _ _).mono ?_); rintro e w' ⟨rfl, hw⟩; rw [hw, HPF.out]; clear hw; first | rw [b2.out] | rw [b1.out]))
      go_still_tail 16, (by kernel_rfl)
      change wpList _ _ _ _ _ w5.drew
      have HD : Hid (Bel w5 w5.drew) := bel_drew w5
      have HR6 := Lib.hid (HR5.out.step HD.out)
      generalize w5.drew = w6 at *
      go_wp2_with (first | (refine store_url rfl _ _ (by exact rfl) g (by exact rfl) { c with path := .slice A p.length cv } { noC with scheme := cb.scheme, frag := c.frag, hasFrag := c.hasFrag } [.string r1] (by exact rfl) HR6.out.row rfl ?_; intro w7 HRB HBP))
      have HR7 : Hid (Rd w0 w2 g { noC with scheme := cb.scheme, frag := c.frag, hasFrag := c.hasFrag } [.string r1] w7) := ⟨HRB.out, BelP.bel HR6.out.bel (fun k hk => by rw [hk]; exact HR6.out.big) HBP.out, HR6.out.big, HR6.out.env, HR6.out.fr.trans HBP.out⟩
      refine (rd_all g { noC with scheme := cb.scheme, frag := c.frag, hasFrag := c.hasFrag } r1 w0 w7 hz1 (Lib.hid HR7.out.now) rfl).mono ?_
      rintro e w8 ⟨v8, rfl, HV, c8, a8, HR8'⟩
      have HR8 := Lib.hid (HR7.out.next HR8'.out)
      have RB8 := Lib.hid (HR8.out.fr.row HGB1.out RB0.out)
      obtain ⟨o, ho⟩ : ∃ o, allS (({ noC with scheme := cb.scheme, frag := c.frag, hasFrag := c.hasFrag } : UrlC).flat []) (bl r1) = o := ⟨_, rfl⟩
      rw [ho] at HF HV ⊢
      obtain ⟨c10, q, rfl, hfl, HOW⟩ := HV.out
      have h1c := own_cell HOW
      have HFL := Lib.hid hfl
      replace HOW := Lib.hid HOW
      clear ho HV hfl HR8' HD HR6
      go_wp2_with (first | (refine store_url rfl _ _ (by exact rfl) (b + 1) (by exact rfl) noC c10 [] (by exact rfl) RB8.out h1c ?_; intro w9 HRB2 HBP2))
      refine bodyPost_ret (res_url rfl _ _ (b + 1) c10 [] (by exact rfl) HRB2.out) rfl ?_
      have HRN := Lib.hid ((HR0.out.next HR8.out).stash HBP2.out (by have := HWB.out; omega) (by have := HBW.out; omega) HGB1.out.symm)
      refine ⟨_, by rw [HF.out]; rfl, ?_, _, _, HRN⟩
      rw [HF.out]
      refine ⟨c10, q, rfl, HFL.out, ?_⟩
      refine BelP.own HBP2.out (fun k hk => ?_) (HOW.out.weak (by have := HS2.out; have := HWB.out; have := HR7.out.fr.size; omega))
      have := HOW.out.base k hk
      have := HS2.out
      have := HR7.out.fr.size
      omega
end Go.Proofs.YtbpkkgaaeodimaaGreatDoor
namespace Go.Proofs.YtbpkkgaaeodimaaGreatDoor
open Go.RowKit

/-! The program's Join. -/
theorem schemed_all {s : ByteArray} {e : Ending} (h : Schemed s e) : ∃ (x y : ByteArray) (z : Bool), e = .returned (.tuple #[.string x, .string y, .bool z]) ∧ Hid (schemeS (bl s) = if z = true then some (bl x, bl y) else none) ∧ Hid (z = true → x.size + y.size + 1 = s.size) := by
  rcases h with ⟨a, b, h1, h2, h3⟩ | ⟨h1, h2⟩
  · exact ⟨a, b, true, h1, h2, fun _ => h3⟩
  · exact ⟨_, _, false, h1, h2, fun h => by cases h⟩
theorem join_is {l : List UInt8} {t : List UInt8} {base : UrlS} (hl : ¬ 4096 < l.length) (ht : t = cleanS l) : joinS l base = (match schemeS (segS 35 t).1 with
    | some (s, r) => if specialS s = false ∨ s ≠ base.scheme ∨ twiceB r = true then parseC t else relS (t.drop (s.length + 1)) base
    | none => relS t base) := by
  subst ht
  unfold joinS
  rw [if_neg hl]
  rfl
theorem rel_is (l : List UInt8) (c : UrlC) (p : List (List UInt8)) (r f : ByteArray) (hr : bl r = (segS 35 l).1) (hf : bl f = percent 2 (segS 35 l).2.1) :
    relS l (c.flat p) = if c.opaq = true then (if bl r ≠ [] then .error 12 else .ok (({ c with frag := f, hasFrag := (segS 35 l).2.2 } : UrlC).flat p)) else joinedS (({ c with frag := f, hasFrag := (segS 35 l).2.2 } : UrlC).flat p) (bl r) (c.flat p) := by
  unfold relS
  have h1 : (fragS (c.flat p) l).1 = ({ c with frag := f, hasFrag := (segS 35 l).2.2 } : UrlC).flat p := by
    unfold fragS UrlC.flat
    rw [hf]
  have h2 : (fragS (c.flat p) l).2 = bl r := by rw [hr]; rfl
  simp only [h1, h2]
  rfl
set_option maxHeartbeats 4000000 in
set_option maxRecDepth 100000 in
theorem url_Join (s : ByteArray) (c : UrlC) (p : List (List UInt8)) (base : Nat) (w : World) (hs : s.size ≤ 1000000) (hp : p.length ≤ 1000000) (HE : Hid (Env w)) (HO : Hid (Own w base 9 c.path (strs p))) :
    Calls Tryz.prog 23 #[.string s, .agg c.cells.toArray] w fun e w' => ParsedU w w' (joinS (bl s) (c.flat p)) e ∧ Hid (Bel w w') := by
  have hone : c.path.oneCell' = true := own_cell HO.out
  have HB2 : Hid (Bel w ((w.alloc (.cells c.cells.toArray 24)).alloc (.cells noC.cells.toArray 24))) := ((Below.refl _ w).alloc (Nat.le_refl _) _).alloc (by simp) _
  have HO2 := Lib.hid (HO.out.bel HB2.out)
  have RA2 : Hid (RowAt ((w.alloc (.cells c.cells.toArray 24)).alloc (.cells noC.cells.toArray 24)) w.heap.size (c.cells ++ [])) := by unfold Hid; rw [List.append_nil]; exact (RowAt.new w c.cells.toArray 24).bel ((Below.refl _ _).alloc (Nat.le_refl _) _)
  have hr0 := RowAt.new (w.alloc (.cells c.cells.toArray 24)) noC.cells.toArray 24
  rw [show (w.alloc (.cells c.cells.toArray 24)).heap.size = w.heap.size + 1 by simp] at hr0
  have RB2 : Hid (RowAt ((w.alloc (.cells c.cells.toArray 24)).alloc (.cells noC.cells.toArray 24)) (w.heap.size + 1) (noC.cells ++ [])) := hr0
  obtain ⟨b, hb⟩ : ∃ b, w.heap.size = b := ⟨_, rfl⟩
  have HWB := Lib.hid hb
  have HS2 : Hid (((w.alloc (.cells c.cells.toArray 24)).alloc (.cells noC.cells.toArray 24)).heap.size = b + 2) := by unfold Hid; rw [← hb]; simp
  have hcs : c.cells.toArray = #[.string c.scheme, .string c.user, .string c.pass, .string c.host, .bool c.hasHost, .int .i64 c.port, .bool c.opaq, c.path, .string c.query, .string c.frag, .bool c.hasQuery, .bool c.hasFrag] := rfl
  rw [hcs, no_cells] at HB2 HO2 RA2 RB2 HS2
  rw [hcs]
  clear hr0 hcs
  rw [hb] at RA2 RB2
  by_cases hlong : 4096 < s.size
  · have HU : Hid (joinS (bl s) (c.flat p) = .error 3) := by unfold Hid joinS; rw [if_pos (by rw [bl_length]; exact hlong)]
    have hlong2 : (4096 : Int) < s.size := by omega
    go_enter Tryz.func23, Tryz.ntmps23
    go_upto_if 15 with (fail)
    try rw [hb]
    clear hb
    generalize (World.alloc (World.alloc w _) _) = w2 at *
    go_wp2_with (first | (refine store_url rfl _ _ (by exact rfl) (b + 1) (by exact rfl) noC noC [] (by exact rfl) RB2.out rfl ?_; intro w7 HRB HBP))
    refine bodyPost_ret (res_url rfl _ _ (b + 1) noC [] (by exact rfl) HRB.out) rfl ?_
    exact ⟨⟨_, by rw [HU.out]; rfl, by rw [HU.out]; exact urlV_no _ _⟩, BelP.bel HB2.out (fun k hk => by have := HWB.out; omega) HBP.out⟩
  · have hlong2 : ¬ (4096 : Int) < s.size := by omega
    have HLO : Hid (¬ 4096 < (bl s).length) := by unfold Hid; rw [bl_length]; exact hlong
    clear hlong
    go_enter Tryz.func23, Tryz.ntmps23
    go_upto_if 15 with (fail)
    try rw [hb]
    clear hb
    generalize (World.alloc (World.alloc w _) _) = w2 at *
    go_wp2_with fail
    refine (url_cleaned s _ hs).mono ?_
    rintro e w3 ⟨⟨t, rfl, ht, htz⟩, HB3⟩
    have HW3 := Lib.hid (bel_trans HB2.out HB3.out)
    have HJ := Lib.hid (join_is (base := c.flat p) HLO.out ht.out)
    go_wp2_with fail
    refine (lib_Cut1 t 35 _ (by omega) (Lib.hid (HE.out.bel HW3.out))).mono ?_
    rintro e w4 ⟨⟨a, a2, rfl, ha, ha2, haz, haz2⟩, HB4⟩
    have HW4 := Lib.hid (bel_trans HW3.out HB4.out)
    rw [← ha.out] at HJ
    go_wp2_with fail
    refine (url_schemed a _ (by omega)).mono ?_
    rintro e w5 ⟨hsch, HB5⟩
    have HW5 := Lib.hid (bel_trans HW4.out HB5.out)
    have HN5 := Lib.hid (bel_trans HB3.out (bel_trans HB4.out HB5.out))
    obtain ⟨x, y, z, rfl, hz, hxz⟩ := schemed_all hsch
    have RA5 := Lib.hid (RA2.out.bel HN5.out)
    have RB5 := Lib.hid (RB2.out.bel HN5.out)
    have HE5 := Lib.hid (HE.out.bel HW5.out)
    have HS5 : Hid (b + 2 ≤ w5.heap.size) := by have := HN5.out.size; have := HS2.out; unfold Hid; omega
    clear hsch HB3 HB4 HB5 HW3 HW4 ha2 haz2
    rw [hz.out] at HJ
    have k0 := (RA5.out.2 0 (.string c.scheme) rfl).1
    go_upto_if 31 with (fail)
    go_cut [0] (fun v0 wc => ∃ t2 : ByteArray, v0 = .string t2 ∧ Hid (joinS (bl s) (c.flat p) = relS (bl t2) (c.flat p)) ∧ t2.size ≤ 1000000 ∧ wc = w5)
    case first =>
      cases z
      · go_wp2
        go_meet
        exact ⟨t, rfl, HJ.out, by omega, rfl⟩
      · have hsz := hxz.out rfl
        obtain ⟨sp, hsp⟩ : ∃ sp, specialS (bl x) = sp := ⟨_, rfl⟩
        obtain ⟨tw, htw⟩ : ∃ z, twiceB (bl y) = z := ⟨_, rfl⟩
        have HSP := Lib.hid hsp
        have HTW := Lib.hid htw
        have HNE : Hid (x.toList = c.scheme.toList ↔ bl x = (c.flat p).scheme) := by
          unfold Hid
          rw [toList_bl, toList_bl]; rfl
        have HJ2 : Hid (joinS (bl s) (c.flat p) = if sp = false ∨ bl x ≠ (c.flat p).scheme ∨ tw = true then parseC (bl t) else relS ((bl t).drop ((bl x).length + 1)) (c.flat p)) := by
          unfold Hid
          rw [HJ.out]
          show (if specialS (bl x) = false ∨ bl x ≠ (c.flat p).scheme ∨ twiceB (bl y) = true then parseC (bl t) else relS ((bl t).drop ((bl x).length + 1)) (c.flat p)) = _
          rw [hsp, htw]
        have hpz : y.size ≤ 1000000 := by omega
        clear HJ hz hxz hsp htw
        have hways : (sp = false) ∨ (sp = true ∧ ¬ x.toList = c.scheme.toList) ∨ (sp = true ∧ x.toList = c.scheme.toList ∧ tw = true) ∨ (sp = true ∧ x.toList = c.scheme.toList ∧ tw = false) := by
          by_cases h : x.toList = c.scheme.toList <;> cases sp <;> cases tw <;> simp [h]
        rcases hways with rfl | ⟨rfl, hxe⟩ | ⟨rfl, hxe, rfl⟩ | ⟨rfl, hxe, rfl⟩
        iterate 3
          · have HF : Hid (joinS (bl s) (c.flat p) = parseC (bl t)) := by
              have h := HNE.out
              unfold Hid; rw [HJ2.out]; exact if_pos (by first | exact .inl rfl | exact .inr (.inr rfl) | exact .inr (.inl (fun g => hxe (h.2 g))))
            clear HJ2 HNE
            go_wp2_with (first | (go_at_call 35; go_must (refine (url_Special _ _).mono ?_); rintro e w' ⟨rfl, rfl⟩; rw [HSP.out]) | (go_at_call 50; go_must (refine (url_twice _ _ hpz).mono ?_); rintro e w' ⟨rfl, rfl⟩; rw [HTW.out]))
            refine (url_parse t _ (by omega) HE5).mono ?_
            rintro e w6 ⟨⟨v, rfl, HV⟩, HB6⟩
            have RB6 := Lib.hid (RB5.out.bel HB6.out)
            have HW6 := Lib.hid (bel_trans HW5.out HB6.out)
            obtain ⟨c7, q, rfl, hfl, HOW⟩ := HV.out
            have h1c := own_cell HOW
            have HFL := Lib.hid hfl
            replace HOW := Lib.hid HOW
            clear HV hfl
            go_wp2_with (first | (refine store_url rfl _ _ (by exact rfl) (b + 1) (by exact rfl) noC c7 [] (by exact rfl) RB6.out h1c ?_; intro w7 HRB HBP))
            refine bodyPost_ret (res_url rfl _ _ (b + 1) c7 [] (by exact rfl) HRB.out) rfl ?_
            refine ⟨⟨_, by rw [HF.out]; rfl, ?_⟩, BelP.bel HW6.out (fun k hk => by have := HWB.out; omega) HBP.out⟩
            rw [HF.out]
            refine ⟨c7, q, rfl, HFL.out, ?_⟩
            refine BelP.own HBP.out (fun k hk => ?_) (HOW.out.weak HW5.out.size)
            have := HOW.out.base k hk
            have := HS5.out
            omega
        · have HF : Hid (joinS (bl s) (c.flat p) = relS (bl (t.extract (x.size + 1) t.size)) (c.flat p)) := by
            have h := HNE.out.1 hxe
            unfold Hid; rw [HJ2.out, bl_suf2, bl_length, if_neg (by rintro (g | g | g); cases g; exact g h; cases g)]
          have hw1 : IntKind.i64.wrap ((x.size : Int) + 1) = (x.size : Int) + 1 := IntWalk.i64_in _ (by omega)
          have q1 : 0 ≤ (x.size : Int) + 1 := by omega
          have q2 : (x.size : Int) + 1 ≤ t.size := by omega
          have q3 : ((x.size : Int) + 1).toNat = x.size + 1 := by omega
          clear HJ2 HNE
          go_wp2_with (first | (go_at_call 35; go_must (refine (url_Special _ _).mono ?_); rintro e w' ⟨rfl, rfl⟩; rw [HSP.out]) | (go_at_call 50; go_must (refine (url_twice _ _ hpz).mono ?_); rintro e w' ⟨rfl, rfl⟩; rw [HTW.out]))
          go_meet
          exact ⟨t.extract (x.size + 1) t.size, rfl, HF, by rw [ByteArray.size_extract]; omega, rfl⟩
    case rest =>
      obtain ⟨t2, rfl, HJ3, ht2, hwc⟩ := hcut
      subst hwc
      have hr6 := RowAt.new wc (c.cells ++ [Value.string t2]).toArray 66
      have HB6 : Hid (Bel wc (wc.alloc (.cells (c.cells ++ [Value.string t2]).toArray 66))) := (Below.refl _ wc).alloc (Nat.le_refl _) _
      have HR6 : Hid (Rd w (wc.alloc (.cells (c.cells ++ [Value.string t2]).toArray 66)) wc.heap.size c [.string t2] (wc.alloc (.cells (c.cells ++ [Value.string t2]).toArray 66))) := ⟨hr6, bel_trans HW5.out HB6.out, HW5.out.size, HE.out, .refl _ _⟩
      have RA6 := Lib.hid (RA5.out.bel HB6.out)
      have RB6 := Lib.hid (RB5.out.bel HB6.out)
      have HO6 := Lib.hid ((HO2.out.bel HN5.out).bel HB6.out)
      obtain ⟨g, hg⟩ : ∃ g, wc.heap.size = g := ⟨_, rfl⟩
      have HG : Hid (b + 2 ≤ g) := by rw [← hg]; exact HS5.out
      have HSG : Hid ((wc.alloc (.cells (c.cells ++ [Value.string t2]).toArray 66)).heap.size = g + 1) := by unfold Hid; rw [← hg]; simp
      rw [show (c.cells ++ [Value.string t2]).toArray = #[.string c.scheme, .string c.user, .string c.pass, .string c.host, .bool c.hasHost, .int .i64 c.port, .bool c.opaq, c.path, .string c.query, .string c.frag, .bool c.hasQuery, .bool c.hasFrag, .string t2] by rfl] at HR6 HB6 RA6 RB6 HO6 HSG
      rw [hg] at HR6
      obtain ⟨⟨_, _⟩, ⟨k1, _⟩, ⟨k2, _⟩, ⟨k3, _⟩, ⟨k4, _⟩, ⟨k5, _⟩, ⟨k6, _⟩, ⟨k7, _⟩, ⟨k8, _⟩, ⟨k9, _⟩, ⟨k10, _⟩, ⟨k11, _⟩⟩ := at_row RA5.out
      clear hr6
      go_wp2_with fail
      try rw [hg]
      clear hg
      generalize (World.alloc wc _) = w6 at *
      clear k0 k1 k2 k3 k4 k5 k6 k7 k8 k9 k10 k11
      refine (rd_fragment g c t2 w w6 ht2 (Lib.hid HR6.out.now)).mono ?_
      rintro e w7 ⟨r, f, rfl, hr, hrz, hf, HR7⟩
      have hne : b ≠ g := by have := HG.out; omega
      have hne1 : b + 1 ≠ g := by have := HG.out; omega
      have HNB := Lib.hid hne1
      have RA7 := Lib.hid (HR7.out.fr.row hne RA6.out)
      have RB7 := Lib.hid (HR7.out.fr.row hne1 RB6.out)
      have HBND : Hid (∀ k, c.path.ownBlock = some k → k ≠ g) := fun k hk => by
        have := HO.out.lt k hk; have := HWB.out; have := HG.out; omega
      have HO7 : Hid (PathOwn w7 base g c.path p) := PathOwn.fr ⟨HO6.out, HBND.out⟩ HR7.out.fr
      have HRL := Lib.hid (rel_is (bl t2) c p r f hr.out hf.out)
      have HW7 := Lib.hid HR7.out.bel
      obtain ⟨hf9, hhf⟩ : ∃ z, (segS 35 (bl t2)).2.2 = z := ⟨_, rfl⟩
      rw [hhf] at HR7 HRL
      clear hne hne1 HR6 RA6 RB6 HO6 HBND hr hf hhf
      have k6 := (RA7.out.2 6 (.bool c.opaq) rfl).1
      obtain ⟨k12, _⟩ := HR7.out.rest
      obtain ⟨oo, hoo⟩ : ∃ oo, c.opaq = oo := ⟨_, rfl⟩
      have HOO := Lib.hid hoo
      rw [hoo] at k6
      obtain ⟨c1, hc1⟩ : ∃ c1, ({ c with frag := f, hasFrag := hf9 } : UrlC) = c1 := ⟨_, rfl⟩
      have HC1 := Lib.hid hc1
      rw [hc1] at HR7 HRL
      clear hc1
      have HRL2 : Hid (joinS (bl s) (c.flat p) = if oo = true then (if bl r ≠ [] then .error 12 else .ok (c1.flat p)) else joinedS (c1.flat p) (bl r) (c.flat p)) := by
        unfold Hid; rw [HJ3.out, HRL.out, hoo]
      clear HRL HJ3 hoo
      cases oo
      · have HF : Hid (joinS (bl s) (c.flat p) = joinedS (c1.flat p) (bl r) (c.flat p)) := by unfold Hid; rw [HRL2.out]; exact if_neg Bool.false_ne_true
        have HQ := rd_joined g c1 c p base r w w7 (by omega) hp (Lib.hid HR7.out.now) HO7
        clear HRL2
        obtain ⟨⟨k0, _⟩, ⟨k1, _⟩, ⟨k2, _⟩, ⟨k3, _⟩, ⟨k4, _⟩, ⟨k5, _⟩, ⟨k6', _⟩, ⟨k7, _⟩, ⟨k8, _⟩, ⟨k9, _⟩, ⟨k10, _⟩, ⟨k11, _⟩⟩ := at_row RA7.out
        rw [HOO.out] at k6'
        have hca : c.cells.toArray = #[.string c.scheme, .string c.user, .string c.pass, .string c.host, .bool c.hasHost, .int .i64 c.port, .bool false, c.path, .string c.query, .string c.frag, .bool c.hasQuery, .bool c.hasFrag] := by rw [← HOO.out]; rfl
        rw [hca] at HQ
        clear hca
        go_wp2_with fail
        refine HQ.mono ?_
        rintro e w8 ⟨v, rfl, HV, c8, a8, HR8'⟩
        have HR8 := Lib.hid (HR7.out.next HR8'.out)
        have RB8 := Lib.hid (HR8'.out.fr.row HNB.out RB7.out)
        clear k0 k1 k2 k3 k4 k5 k6' k7 k8 k9 k10 k11 k6 k12
        obtain ⟨o, ho⟩ : ∃ o, joinedS (c1.flat p) (bl r) (c.flat p) = o := ⟨_, rfl⟩
        rw [ho] at HF HV ⊢
        obtain ⟨c9, q, rfl, hfl, HOW⟩ := HV.out
        have h1c := own_cell HOW
        have HFL := Lib.hid hfl
        replace HOW := Lib.hid HOW
        clear ho HV hfl HR8'
        go_wp2_with (first | (refine store_url rfl _ _ (by exact rfl) (b + 1) (by exact rfl) noC c9 [] (by exact rfl) RB8.out h1c ?_; intro w9 HRB HBP))
        refine bodyPost_ret (res_url rfl _ _ (b + 1) c9 [] (by exact rfl) HRB.out) rfl ?_
        refine ⟨⟨_, by rw [HF.out]; rfl, ?_⟩, BelP.bel HR8.out.bel (fun k hk => by have := HWB.out; omega) HBP.out⟩
        rw [HF.out]
        refine ⟨c9, q, rfl, HFL.out, ?_⟩
        refine BelP.own HBP.out (fun k hk => ?_) (HOW.out.weak HW7.out.size)
        have := HOW.out.base k hk
        have := HR7.out.fr.size
        have := HSG.out
        have := HG.out
        omega
      · by_cases hre : bl r = []
        · have HF : Hid (joinS (bl s) (c.flat p) = .ok (c1.flat p)) := by unfold Hid; rw [HRL2.out, if_pos rfl, if_neg (fun h => h hre)]
          have htl : r.toList.isEmpty = true := by rw [toList_bl, hre]; rfl
          clear hre HRL2
          have k7 := (RA7.out.2 7 c.path rfl).1
          go_wp2_with fail
          refine (slices_Clone c.path p base _ hp (Lib.hid HO7.out.1)).mono ?_
          rintro e w8 ⟨⟨v, rfl, HV⟩, HB8⟩
          obtain ⟨A, cv, rfl⟩ := HV.out.shapeS
          have HR8 := Lib.hid (HR7.out.step HB8.out)
          obtain ⟨_, _, _, _, _, _, _, ⟨k7g, l7g⟩, _⟩ := HR8.out.cells
          have HR9 := Lib.hid (HR8.out.path (v := .slice A p.length cv))
          have HP9 : Hid (PathOwn (w8.setCell ⟨g, 7, none⟩ (.slice A p.length cv)) w7.heap.size g (.slice A p.length cv) p) := (PathOwn.of HV.out HR7.out.row.1).fr (BelP.set _ _ rfl)
          have RB9 : Hid (RowAt (w8.setCell ⟨g, 7, none⟩ (.slice A p.length cv)) (b + 1) (noC.cells ++ [])) := BelP.row (BelP.set (g := g) ⟨g, 7, none⟩ _ rfl) HNB.out (RB7.out.bel HB8.out)
          go_wp2_with (first | (refine load_url rfl _ (by exact rfl) g (by exact rfl) ({ c1 with path := .slice A p.length cv }) [.string r] HR9.out.row ?_) | (refine store_url rfl _ _ (by exact rfl) (b + 1) (by exact rfl) noC ({ c1 with path := .slice A p.length cv }) [] (by exact rfl) RB9.out rfl ?_; intro w9 HRB HBP))
          refine bodyPost_ret (res_url rfl _ _ (b + 1) ({ c1 with path := .slice A p.length cv }) [] (by exact rfl) HRB.out) rfl ?_
          refine ⟨⟨_, by rw [HF.out]; rfl, ?_⟩, BelP.bel HR9.out.bel (fun k hk => by have := HWB.out; omega) HBP.out⟩
          rw [HF.out]
          refine ⟨{ c1 with path := .slice A p.length cv }, p, rfl, rfl, ?_⟩
          refine BelP.own HBP.out (fun k hk => ?_) (HP9.out.1.weak HW7.out.size)
          have := HP9.out.1.base k hk
          have := HR7.out.fr.size
          have := HSG.out
          have := HG.out
          omega
        · have HF : Hid (joinS (bl s) (c.flat p) = .error 12) := by unfold Hid; rw [HRL2.out, if_pos rfl, if_pos hre]
          have htl : r.toList.isEmpty = false := by rw [toList_bl]; simpa using hre
          clear hre HRL2
          go_wp2_with (first | (refine store_url rfl _ _ (by exact rfl) (b + 1) (by exact rfl) noC noC [] (by exact rfl) RB7.out rfl ?_; intro w9 HRB HBP))
          refine bodyPost_ret (res_url rfl _ _ (b + 1) noC [] (by exact rfl) HRB.out) rfl ?_
          exact ⟨⟨_, by rw [HF.out]; rfl, by rw [HF.out]; exact urlV_no _ _⟩, BelP.bel HW7.out (fun k hk => by have := HWB.out; omega) HBP.out⟩
end Go.Proofs.YtbpkkgaaeodimaaGreatDoor
