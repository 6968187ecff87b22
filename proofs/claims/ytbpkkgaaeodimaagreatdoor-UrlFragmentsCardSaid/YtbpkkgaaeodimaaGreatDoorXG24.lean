import Derived.Test.YtbpkkgaaeodimaaGreatDoorXG23
import Derived.Test.YtbpkkgaaeodimaaGreatDoorXG20
import Derived.Test.YtbpkkgaaeodimaaGreatDoorXG10
import Derived.Test.YtbpkkgaaeodimaaGreatDoorXG15
import Derived.Deep.WholeRow
import Derived.Lib.AsciiSet
import Derived.Test.YtbpkkgaaeodimaaGreatDoorXG14
namespace Go.Proofs.YtbpkkgaaeodimaaGreatDoor
open Go.RowKit

theorem auth_err {u : UrlS} {a : List UInt8} {x : Int} (h : authS u a = .error x) : x = 10 ∨ x = 11 := by
  unfold authS at h
  simp only [] at h
  split at h
  · simp only [Except.error.injEq] at h; omega
  · split at h
    · simp only [Except.error.injEq] at h; omega
    · split at h
      · simp only [Except.error.injEq] at h; omega
      · cases h
theorem auth_keep {u v : UrlS} {a : List UInt8} (h : authS u a = .ok v) : v.query = u.query ∧ v.hasQuery = u.hasQuery := by
  have hu : (userS u a).1.query = u.query ∧ (userS u a).1.hasQuery = u.hasQuery := by unfold userS; split <;> exact ⟨rfl, rfl⟩
  unfold authS at h
  simp only [] at h
  split at h
  · cases h
  · split at h
    · cases h
    · split at h
      · cases h
      · simp only [Except.ok.injEq] at h
        subst h
        exact hu
theorem behind_err {u : UrlS} {a : List UInt8} {x : Int} (h : behindS u a = .error x) : x = 10 ∨ x = 11 := by
  unfold behindS at h
  split at h
  · rename_i e he
    simp only [Except.error.injEq] at h
    subst h
    exact auth_err he
  · cases h
theorem all_err {u : UrlS} {l : List UInt8} {x : Int} (h : allS u l = .error x) : x = 10 ∨ x = 11 := by
  unfold allS at h
  simp only [] at h
  split at h
  · exact behind_err h
  · split at h
    · exact behind_err h
    · split at h <;> cases h
theorem bl_empty {s : ByteArray} (h : bl s = []) : s = ⟨#[]⟩ := bl_inj (by rw [h]; rfl)
theorem PathOwn.weak {w : World} {b1 b2 g : Nat} {v : Value} {p : List (List UInt8)} (h : PathOwn w b1 g v p) (hb : b2 ≤ b1) : PathOwn w b2 g v p := ⟨h.1.weak hb, h.2⟩
set_option maxHeartbeats 1000000 in
set_option maxRecDepth 100000 in
theorem ref3_far (g : Nat) (c : UrlC) (p : List (List UInt8)) (s : ByteArray) (w0 w : World) (hs : s.size ≤ 1000000) (HR : Hid (Rd w0 w g c [] w)) (h1 : c.hasQuery = false) (h2 : c.query = ⟨#[]⟩) :
    Calls Tryz.prog 71 #[.pointer (some ⟨g, 0, none⟩), .string s] w fun e w' => ∃ E c' q, e = .returned (.int .i64 E) ∧ Hid (Res (behindS (c.flat p) (bl s)) E (c'.flat q)) ∧ Hid (E = 0 → PathOwn w' w.heap.size g c'.path q) ∧ Hid (Rd w0 w g c' [] w') := by
  go_enter Tryz.func71, Tryz.ntmps71
  go_wp2_with fail
  refine (ref3_ahead s 47 63 _ hs).mono ?_
  rintro e w1 ⟨⟨a, b, rfl, ha, hb, haz, hbz⟩, HB1⟩
  rw [(ahead_b _).1] at ha
  rw [(ahead_b _).2] at hb
  have HR1 := Lib.hid (HR.out.step HB1.out)
  go_wp2_with fail
  refine (ref3_authority g c p a w0 _ (by omega) (Lib.hid HR1.out.now)).mono ?_
  rintro e w2 ⟨E, c1, rfl, hres, hp1, HR2'⟩
  have HR2 := Lib.hid (HR1.out.next HR2'.out)
  have HBH : Hid (behindS (c.flat p) (bl s) = match authS (c.flat p) (bl a) with | .error e => .error e | .ok v => .ok (rootedS v (bl b))) := by
    unfold Hid behindS; rw [ha.out, hb.out]; cases authS (c.flat p) ((bl s).takeWhile fun x => !stopB x) <;> rfl
  cases hA : authS (c.flat p) (bl a) with
  | error x =>
    have hE : E = x := by have := hres.out; rw [hA] at this; exact this
    subst hE
    have hx := auth_err hA
    have hne : (E != 0) = true := by rw [bne_iff_ne]; omega
    have hne2 : (E == 0) = false := by rw [beq_eq_false_iff_ne]; omega
    rw [hA] at HBH
    clear hres hA
    go_wp2
    go_ret
    exact ⟨E, c1, p, rfl, by unfold Hid; rw [HBH.out]; rfl, (fun h => by omega), HR2⟩
  | ok v =>
    obtain ⟨hE, hv⟩ : E = 0 ∧ c1.flat p = v := by have := hres.out; rw [hA] at this; exact this
    subst hE
    obtain ⟨k1, k2⟩ := auth_keep hA
    have q1 : c1.hasQuery = false := by rw [← hv] at k2; exact k2.trans h1
    have q2 : c1.query = ⟨#[]⟩ := bl_empty (by rw [← hv] at k1; exact k1.trans (by show bl c.query = []; rw [h2]; rfl))
    rw [hA] at HBH
    have HV := Lib.hid hv
    clear hres hA hv k1 k2 h1 h2
    have HRr := ref3_rest g c1 b w0 w2 (by omega) (Lib.hid HR2.out.now) q1 q2 p
    clear q1 q2 hp1
    go_wp2_with fail
    refine HRr.mono ?_
    rintro e w3 ⟨c3, q, rfl, hf, hpo, HR3'⟩
    have HR3 := Lib.hid (HR2.out.next HR3'.out)
    go_wp2
    go_ret
    exact ⟨0, c3, q, rfl, by unfold Hid; rw [HBH.out, hf.out, HV.out]; exact ⟨rfl, rfl⟩, fun _ => hpo.out.weak HR2.out.fr.size, HR3⟩
theorem begins2_len {l : List UInt8} (h : begins l [47, 47] = true) : 2 ≤ l.length := by
  obtain ⟨r, rfl⟩ := begins_two h
  simp
set_option maxHeartbeats 2000000 in
set_option maxRecDepth 100000 in
theorem ref3_full (g : Nat) (c : UrlC) (p : List (List UInt8)) (s : ByteArray) (w0 w : World) (hs : s.size ≤ 1000000) (HR : Hid (Rd w0 w g c [] w)) (h1 : c.hasQuery = false) (h2 : c.query = ⟨#[]⟩) :
    Calls Tryz.prog 46 #[.pointer (some ⟨g, 0, none⟩), .string s] w fun e w' => ∃ E c' q, e = .returned (.int .i64 E) ∧ Hid (Res (allS (c.flat p) (bl s)) E (c'.flat q)) ∧ Hid (E = 0 → PathOwn w' w.heap.size g c'.path q) ∧ Hid (Rd w0 w g c' [] w') := by
  have hgw : g < w.heap.size := HR.out.row.1
  obtain ⟨_, _, _, _, _, ⟨c5, f5⟩, _⟩ := HR.out.cells
  have HR1 := Lib.hid (HR.out.put 5 (.int .i64 (-1)) (c' := { c with port := -1 }) (ext' := []) rfl)
  obtain ⟨⟨k0, _⟩, _⟩ := HR1.out.cells
  have HPT : Hid (∀ l, behindS (({ c with port := -1 } : UrlC).flat p) l = behindS (c.flat p) l) := fun l => behindS_port (c.flat p) (-1) l
  obtain ⟨sp, hsp⟩ : ∃ sp, specialS (bl c.scheme) = sp := ⟨_, rfl⟩
  have HSP := Lib.hid hsp
  clear hsp
  have b2 : Hid (bl ⟨#[47, 47]⟩ = [47, 47]) := rfl
  have b1 : Hid (bl ⟨#[47]⟩ = [47]) := rfl
  cases sp
  · obtain ⟨t2, ht2⟩ : ∃ t2, begins (bl s) [47, 47] = t2 := ⟨_, rfl⟩
    have HT2 := Lib.hid ht2
    cases t2
    · clear ht2
      obtain ⟨t1, ht1⟩ : ∃ t1, begins (bl s) [47] = t1 := ⟨_, rfl⟩
      have HT1 := Lib.hid ht1
      clear ht1
      cases t1
      · have HA : Hid (allS (c.flat p) (bl s) = .ok { (queryS { c.flat p with port := -1 } (bl s)).1 with opaq := true, path := [percent 1 (aheadQ (bl s))] }) := allS_opaq (u0 := c.flat p) HSP.out HT2.out HT1.out
        go_enter Tryz.func46, Tryz.ntmps46
        go_wp2_with (first | (go_at_call 40; go_must (refine (ref3_Special _ _).mono ?_); rintro e w' ⟨rfl, rfl⟩; rw [HSP.out]) | (go_at_call 74; go_must (refine (ref1_Begins _ _ _).mono ?_); rintro e w' ⟨rfl, rfl⟩; first | rw [b2.out, HT2.out] | rw [b1.out, HT1.out]) | (go_at_call 76; go_must (refine (ref3_ahead s 63 63 _ hs).mono ?_); rintro e w1 ⟨⟨a, b, rfl, ha, _, haz, _⟩, HB1⟩; rw [ahead_q] at ha; have HR2 := Lib.hid (HR1.out.step HB1.out); obtain ⟨_, _, _, _, _, _, ⟨d6, e6⟩, _⟩ := HR2.out.cells; have HR3 := Lib.hid (HR2.out.put 6 (.bool true) (c' := { c with port := -1, opaq := true }) (ext' := []) rfl)))
        refine (ref1_pct a 1 _ (by omega)).mono ?_
        rintro e w2 ⟨⟨t, rfl, ht, _⟩, HB2⟩
        have HR4 := Lib.hid (HR3.out.step HB2.out)
        have HO := Lib.hid (PathOwn.of (Own.one w2 w.heap.size t HR4.out.fr.size) hgw)
        have HR5 := Lib.hid (HR4.out.step ((Below.refl _ w2).alloc (Nat.le_refl _) (.cells #[.string t] 9)))
        obtain ⟨_, _, _, _, _, _, _, ⟨d7, e7⟩, _⟩ := HR5.out.cells
        have HR6 := Lib.hid (HR5.out.path (v := .slice (some ⟨w2.heap.size, 0, none⟩) 1 1))
        have HQ := fun W (h : Hid (Rd w0 w g { c with port := -1, opaq := true, path := .slice (some ⟨w2.heap.size, 0, none⟩) 1 1 } [] W)) => ref3_query g { c with port := -1, opaq := true, path := .slice (some ⟨w2.heap.size, 0, none⟩) 1 1 } s w0 W hs (Lib.hid h.out.now) h1 h2
        go_wp2_with fail
        refine (HQ _ HR6).mono ?_
        rintro e w3 ⟨q, rfl, hq, HR7'⟩
        have HR7 := Lib.hid (HR6.out.next HR7'.out)
        go_wp2
        go_ret
        refine ⟨0, _, [bl t], rfl, ?_, fun _ => ?_, HR7⟩
        · unfold Hid
          rw [HA.out, ← ha.out, ← ht.out]
          refine ⟨rfl, ?_⟩
          unfold UrlC.flat queryS
          rw [hq.out]
        · exact ((HO.out.fr (BelP.set _ _ rfl)).fr HR7'.out.fr)
      · have HA : Hid (allS (c.flat p) (bl s) = .ok (rootedS { c.flat p with port := -1 } (bl s))) := allS_one (u0 := c.flat p) HSP.out HT2.out HT1.out
        have HQ := fun W (h : Hid (Rd w0 w g { c with port := -1 } [] W)) => ref3_rest g { c with port := -1 } s w0 W hs (Lib.hid h.out.now) h1 h2 p
        go_enter Tryz.func46, Tryz.ntmps46
        go_wp2_with (first | (go_at_call 40; go_must (refine (ref3_Special _ _).mono ?_); rintro e w' ⟨rfl, rfl⟩; rw [HSP.out]) | (go_at_call 74; go_must (refine (ref1_Begins _ _ _).mono ?_); rintro e w' ⟨rfl, rfl⟩; first | rw [b2.out, HT2.out] | rw [b1.out, HT1.out]))
        refine (HQ _ HR1).mono ?_
        rintro e w3 ⟨c3, q, rfl, hf, hpo, HR3'⟩
        have HR3 := Lib.hid (HR1.out.next HR3'.out)
        go_wp2
        go_ret
        exact ⟨0, c3, q, rfl, by unfold Hid; rw [HA.out, hf.out]; exact ⟨rfl, rfl⟩, fun _ => hpo.out.weak HR1.out.fr.size, HR3⟩
    · have hsz := begins2_len ht2
      rw [bl_length] at hsz
      clear ht2
      have HA : Hid (allS (c.flat p) (bl s) = behindS (c.flat p) ((bl s).drop 2)) := allS_two (u0 := c.flat p) HSP.out HT2.out
      have hz : (s.extract 2 s.size).size ≤ 1000000 := by rw [ByteArray.size_extract]; omega
      have hb2 : Hid (bl (s.extract 2 s.size) = (bl s).drop 2) := bl_suf2 s 2
      have HQ := fun W (h : Hid (Rd w0 w g { c with port := -1 } [] W)) => ref3_far g { c with port := -1 } p (s.extract 2 s.size) w0 W hz (Lib.hid h.out.now) h1 h2
      go_enter Tryz.func46, Tryz.ntmps46
      go_wp2_with (first | (go_at_call 40; go_must (refine (ref3_Special _ _).mono ?_); rintro e w' ⟨rfl, rfl⟩; rw [HSP.out]) | (go_at_call 74; go_must (refine (ref1_Begins _ _ _).mono ?_); rintro e w' ⟨rfl, rfl⟩; first | rw [b2.out, HT2.out] | rw [b1.out, HT1.out]))
      refine (HQ _ HR1).mono ?_
      rintro e w3 ⟨E, c3, q, rfl, hf, hpo, HR3'⟩
      have HR3 := Lib.hid (HR1.out.next HR3'.out)
      go_wp2
      go_ret
      refine ⟨E, c3, q, rfl, ?_, fun h => (hpo.out h).weak HR1.out.fr.size, HR3⟩
      unfold Hid; rw [HA.out, ← hb2.out, ← HPT.out]; exact hf
  · have HA : Hid (allS (c.flat p) (bl s) = behindS (c.flat p) ((slashS (bl s)).dropWhile (· == 47))) := allS_special (u0 := c.flat p) HSP.out
    have HQ := fun t (hz : t.size ≤ 1000000) W (h : Hid (Rd w0 w g { c with port := -1 } [] W)) => ref3_far g { c with port := -1 } p t w0 W hz (Lib.hid h.out.now) h1 h2
    go_enter Tryz.func46, Tryz.ntmps46
    go_wp2_with (first | (go_at_call 40; go_must (refine (ref3_Special _ _).mono ?_); rintro e w' ⟨rfl, rfl⟩; rw [HSP.out]))
    refine (ref3_slashes s _ hs).mono ?_
    rintro e w1 ⟨⟨t, rfl, ht, htz⟩, HB1⟩
    have HR2 := Lib.hid (HR1.out.step HB1.out)
    go_wp2_with fail
    refine (ref3_over t _ (by omega)).mono ?_
    rintro e w' ⟨⟨t2, rfl, ht2, htz2⟩, hw⟩
    rw [← hw]
    clear hw
    go_wp2_with fail
    refine (HQ t2 (by omega) _ HR2).mono ?_
    rintro e w3 ⟨E, c3, q, rfl, hf, hpo, HR3'⟩
    have HR3 := Lib.hid (HR2.out.next HR3'.out)
    go_wp2
    go_ret
    refine ⟨E, c3, q, rfl, ?_, fun h => (hpo.out h).weak HR2.out.fr.size, HR3⟩
    unfold Hid; rw [HA.out, ← ht.out, ← ht2.out, ← HPT.out]; exact hf
end Go.Proofs.YtbpkkgaaeodimaaGreatDoor
namespace Go.Proofs.YtbpkkgaaeodimaaGreatDoor
open Go.RowKit

/-- An address and a number are answered. -/
def ParsedU (w w' : World) (o : Except Int UrlS) (e : Ending) : Prop := ∃ v, e = .returned (.tuple #[v, .int .i64 (whyE o)]) ∧ Hid (UrlV w' w.heap.size v (okU o))
theorem own_cell {w : World} {base : Nat} {e : TypeId} {v : Value} {xs : List Value} (h : Own w base e v xs) : v.oneCell' = true := by
  obtain ⟨A, c, rfl⟩ := h.shape
  rfl
theorem no_cells : noC.cells.toArray = #[.string ⟨#[]⟩, .string ⟨#[]⟩, .string ⟨#[]⟩, .string ⟨#[]⟩, .bool false, .int .i64 0, .bool false, .slice none 0 0, .string ⟨#[]⟩, .string ⟨#[]⟩, .bool false, .bool false] := rfl
theorem urlV_no (w : World) (base : Nat) : UrlV w base (.agg noC.cells.toArray) noUrl := ⟨noC, [], rfl, rfl, Own.nil _ _ _⟩
set_option maxHeartbeats 2000000 in
set_option maxRecDepth 100000 in
theorem ref3_Parse (s : ByteArray) (w : World) (hs : s.size ≤ 1000000) (HE : Hid (Env w)) :
    Calls Tryz.prog 22 #[.string s] w fun e w' => ParsedU w w' (urlS (bl s)) e ∧ Hid (Bel w w') := by
  by_cases hlong : 4096 < s.size
  · have HU : Hid (urlS (bl s) = .error 3) := by unfold Hid urlS; rw [if_pos (by rw [bl_length]; exact hlong)]
    go_enter Tryz.func22, Tryz.ntmps22
    go_wp2
    refine bodyPost_ret (res_url rfl _ _ w.heap.size noC [] (by exact rfl) (RowAt.new w noC.cells.toArray 24)) rfl ?_
    exact ⟨⟨_, by rw [HU.out]; rfl, by rw [HU.out]; exact urlV_no _ _⟩, (Below.refl _ w).alloc (Nat.le_refl _) _⟩
  · have hok : s.size ≤ 4096 := by omega
    have HU : Hid (urlS (bl s) = parseC (cleanS (bl s))) := by unfold Hid urlS; rw [if_neg (by rw [bl_length]; exact hlong)]
    clear hlong
    have HB2 : Hid (Bel w ((w.alloc (.cells noC.cells.toArray 24)).alloc (.cells noC.cells.toArray 24))) := ((Below.refl _ w).alloc (Nat.le_refl _) _).alloc (by simp) _
    have hr0 := RowAt.new (w.alloc (.cells noC.cells.toArray 24)) noC.cells.toArray 24
    rw [show (w.alloc (.cells noC.cells.toArray 24)).heap.size = w.heap.size + 1 by simp] at hr0
    have HR0 : Hid (Rd w ((w.alloc (.cells noC.cells.toArray 24)).alloc (.cells noC.cells.toArray 24)) (w.heap.size + 1) noC [] ((w.alloc (.cells noC.cells.toArray 24)).alloc (.cells noC.cells.toArray 24))) := ⟨hr0, HB2.out, by omega, HE.out, .refl _ _⟩
    have RB0 : Hid (RowAt ((w.alloc (.cells noC.cells.toArray 24)).alloc (.cells noC.cells.toArray 24)) w.heap.size (noC.cells ++ [])) := (RowAt.new w noC.cells.toArray 24).bel ((Below.refl _ _).alloc (Nat.le_refl _) _)
    rw [no_cells] at HR0 RB0
    clear HB2 hr0
    go_enter Tryz.func22, Tryz.ntmps22
    go_wp2_with fail
    refine (ref3_clean s _ hs).mono ?_
    rintro e w3 ⟨⟨t, rfl, ht, htz⟩, HB3⟩
    have HR1 := Lib.hid (HR0.out.step HB3.out)
    have RB1 := Lib.hid (RB0.out.bel HB3.out)
    clear RB0 HR0
    obtain ⟨g, hg⟩ : ∃ g, w.heap.size + 1 = g := ⟨_, rfl⟩
    rw [hg] at HR1 ⊢
    have hne : w.heap.size ≠ g := by omega
    have HG := Lib.hid hg
    clear hg
    go_wp2_with fail
    refine (ref3_split g noC t w _ (by omega) (Lib.hid HR1.out.now) rfl rfl).mono ?_
    rintro e w4 ⟨r, f, rfl, hr, hrz, hf, HR2'⟩
    have HR2 := Lib.hid (HR1.out.next HR2'.out)
    have RB2 := Lib.hid (HR2'.out.fr.row hne RB1.out)
    go_wp2_with fail
    refine (ref3_scheme r _ (by omega)).mono ?_
    rintro e w5 ⟨hsch, HB5⟩
    have HR3 := Lib.hid (HR2.out.step HB5.out)
    have RB3 := Lib.hid (RB2.out.bel HB5.out)
    have HF : Hid (urlS (bl s) = match schemeS (bl r) with
      | none => .error 12
      | some (s, r) => allS { (fragS noUrl (bl t)).1 with scheme := s } r) := by
      unfold Hid
      rw [HU.out, ← ht.out, hr.out]; rfl
    have HFR : Hid (∀ a : ByteArray, ({ (fragS noUrl (bl t)).1 with scheme := bl a } : UrlS) = ({ noC with frag := f, hasFrag := (segS 35 (bl t)).2.2, scheme := a } : UrlC).flat []) := fun a => by
      unfold fragS UrlC.flat
      rw [hf.out]; rfl
    generalize (segS 35 (bl t)).2.2 = has at *
    clear HU HR1 RB1 HR2 HR2' RB2 hf hr
    rcases hsch with ⟨a, b, rfl, hab, habz⟩ | ⟨rfl, hnone⟩
    · rw [hab.out] at HF
      replace HF : Hid (urlS (bl s) = allS { (fragS noUrl (bl t)).1 with scheme := bl a } (bl b)) := HF
      rw [HFR.out a] at HF
      obtain ⟨⟨k0, l0⟩, _⟩ := HR3.out.cells
      have HR4 := Lib.hid (HR3.out.put 0 (.string a) (c' := { noC with frag := f, hasFrag := has, scheme := a }) (ext' := []) rfl)
      have RB4 : Hid (RowAt (w5.setCell ⟨g, 0, none⟩ (.string a)) w.heap.size (noC.cells ++ [])) := BelP.row (BelP.set (g := g) ⟨g, 0, none⟩ (.string a) rfl) hne RB3.out
      have HQ := fun W we (h : Hid (Rd w we g { noC with frag := f, hasFrag := has, scheme := a } [] W)) => ref3_full g { noC with frag := f, hasFrag := has, scheme := a } [] b w W (by omega) (Lib.hid h.out.now) rfl rfl
      go_wp2_with fail
      refine (HQ _ _ HR4).mono ?_
      rintro e w6 ⟨E, c6, q, rfl, hres, hpo, HR5'⟩
      have HR5 := Lib.hid (HR4.out.next HR5'.out)
      have RB5 := Lib.hid (HR5'.out.fr.row hne RB4.out)
      have hbase : w.heap.size < (w5.setCell ⟨g, 0, none⟩ (.string a)).heap.size := RB4.out.1
      generalize (w5.setCell ⟨g, 0, none⟩ (.string a)) = w5' at *
      clear HR4 RB4 HR3 RB3 HR5'
      obtain ⟨o, ho⟩ : ∃ o, allS (({ noC with frag := f, hasFrag := has, scheme := a } : UrlC).flat []) (bl b) = o := ⟨_, rfl⟩
      rw [ho] at HF hres
      have HO := Lib.hid ho
      clear ho HFR
      cases o with
      | error x =>
        have hE : E = x := hres.out
        subst hE
        have hx := all_err HO.out
        have hne1 : (E != 0) = true := by rw [bne_iff_ne]; omega
        have hne2 : (E == 0) = false := by rw [beq_eq_false_iff_ne]; omega
        clear hres hx
        go_wp2_with (first | (refine store_url rfl _ _ (by exact rfl) w.heap.size (by exact rfl) noC noC [] (by exact rfl) RB5.out rfl ?_; intro w7 HRB HBP))
        refine bodyPost_ret (res_url rfl _ _ w.heap.size noC [] (by exact rfl) HRB.out) rfl ?_
        refine ⟨⟨_, by rw [HF.out]; rfl, by rw [HF.out]; exact urlV_no _ _⟩, ?_⟩
        exact BelP.bel HR5.out.bel (fun k hk => by rw [hk]; exact Nat.le_refl _) HBP.out
      | ok v =>
        obtain ⟨hE, hv⟩ : E = 0 ∧ c6.flat q = v := hres.out
        subst hE
        have HPO := Lib.hid (hpo.out rfl)
        have h1c := own_cell HPO.out.1
        have HV := Lib.hid hv
        clear hres hpo hv
        go_wp2_with (first | (refine load_url rfl _ (by exact rfl) g (by exact rfl) c6 [] HR5.out.row ?_) | (refine store_url rfl _ _ (by exact rfl) w.heap.size (by exact rfl) noC c6 [] (by exact rfl) RB5.out h1c ?_; intro w7 HRB HBP))
        refine bodyPost_ret (res_url rfl _ _ w.heap.size c6 [] (by exact rfl) HRB.out) rfl ?_
        refine ⟨⟨_, by rw [HF.out]; rfl, ?_⟩, BelP.bel HR5.out.bel (fun k hk => by rw [hk]; exact Nat.le_refl _) HBP.out⟩
        rw [HF.out]
        refine ⟨c6, q, rfl, HV.out, ?_⟩
        refine BelP.own HBP.out (fun k hk => ?_) (HPO.out.1.weak (Nat.le_of_lt hbase))
        have := HPO.out.1.base k hk
        omega
    · rw [hnone.out] at HF
      replace HF : Hid (urlS (bl s) = .error 12) := HF
      go_wp2_with (first | (refine store_url rfl _ _ (by exact rfl) w.heap.size (by exact rfl) noC noC [] (by exact rfl) RB3.out rfl ?_; intro w7 HRB HBP))
      refine bodyPost_ret (res_url rfl _ _ w.heap.size noC [] (by exact rfl) HRB.out) rfl ?_
      refine ⟨⟨_, by rw [HF.out]; rfl, by rw [HF.out]; exact urlV_no _ _⟩, ?_⟩
      exact BelP.bel HR3.out.bel (fun k hk => by rw [hk]; exact Nat.le_refl _) HBP.out
end Go.Proofs.YtbpkkgaaeodimaaGreatDoor
namespace Go.Proofs.YtbpkkgaaeodimaaGreatDoor
open Go.RowKit

/-! strings.Trim, of bytes. -/
theorem zeroA (w : World) : (zeroValue 96).run Tryz.prog w = .ok (.agg (Array.replicate 256 (.bool false))) w := (zero_of_info (show (Tryz.prog.info? 96).map (fun i => (i.zero, i.size)) = some (some (.agg (Array.replicate 256 (.bool false))), 256) by kernel_rfl)).1 w
theorem infoA : (Tryz.prog.info? 96).map (·.size) = some 256 := by kernel_rfl
/-- The set of a cutset lies at block b. -/
def SetAt (w : World) (b : Nat) (l : List UInt8) : Prop := b < w.heap.size ∧ ∀ x : UInt8, w.cell? ⟨b, x.toNat, none⟩ = some (.bool (l.contains x))
set_option maxHeartbeats 1000000 in
set_option maxRecDepth 100000 in
theorem lib_trimRight (b : Nat) (l : List UInt8) (s : ByteArray) (w : World) (hs : s.size ≤ 1000000) (HS : Hid (SetAt w b l)) :
    Calls Tryz.prog 101 #[.string s, .pointer (some ⟨b, 0, none⟩)] w fun e w' => (∃ t, e = .returned (.string t) ∧ Hid (bl t = rstrip l.contains (bl s)) ∧ t.size ≤ s.size) ∧ w = w' := by
  go_enter Tryz.func101, Tryz.ntmps101
  go_wp2
  go_loopg [0] s.size (fun g v wr => ∃ r : ByteArray, v = .string r ∧ r.size ≤ s.size ∧ r.size ≤ g ∧ Hid (rstrip l.contains (bl s) = rstrip l.contains (bl r)) ∧ w = wr)
  case atStart => exact ⟨s, rfl, Nat.le_refl _, Nat.le_refl _, rfl, rfl⟩
  case round =>
    obtain ⟨r, rfl, hr, hg, HD, rfl⟩ := hrel
    by_cases h0 : 0 < r.size
    · have h0' : (0 : Int) < r.size := by omega
      have p1 : (0 : Int) ≤ (r.size : Int) - 1 := by omega
      have p2 : (r.size : Int) - 1 < r.size := by omega
      have p3 : ((r.size : Int) - 1).toNat = r.size - 1 := by omega
      have e1 : IntKind.i64.wrap ((r.size : Int) - 1) = (r.size : Int) - 1 := IntWalk.i64_in _ (by omega)
      have p4 : (r.size : Int) - 1 ≤ r.size := by omega
      have hlt : r.size - 1 < r.size := by omega
      have hsn : bl r = (bl r).take (r.size - 1) ++ [r[r.size - 1]] := by
        have := bl_take r (r.size - 1) hlt
        rw [show r.size - 1 + 1 = r.size by omega, List.take_of_length_le (by rw [bl_length]; exact Nat.le_refl _)] at this
        exact this
      have hc := HS.out.2 r[r.size - 1]
      by_cases hp : l.contains r[r.size - 1] = true
      · have HN : Hid (rstrip l.contains (bl s) = rstrip l.contains (bl (r.extract 0 (r.size - 1)))) := by
          unfold Hid
          rw [HD.out, hsn, rstrip_cut _ _ _ hp, bl_extract]; simp
        rw [hp] at hc
        clear hsn
        go_wp2_with (first | (go_at_call 125; go_must (refine (Tryz.asciiSet_contains b _ true _ hc).mono ?_); rintro e w' ⟨rfl, rfl⟩))
        go_roundg (gk - 1)
        case measure => omega
        case rel => exact ⟨_, rfl, by rw [ByteArray.size_extract]; omega, by rw [ByteArray.size_extract]; omega, HN, rfl⟩
      · have hp' : l.contains r[r.size - 1] = false := by simpa using hp
        have HN : Hid (rstrip l.contains (bl s) = bl r) := by
          unfold Hid
          rw [HD.out]
          conv => lhs; rw [hsn]
          rw [rstrip_keep _ _ _ hp', ← hsn]
        rw [hp'] at hc
        clear hsn hp
        go_wp2_with (first | (go_at_call 125; go_must (refine (Tryz.asciiSet_contains b _ false _ hc).mono ?_); rintro e w' ⟨rfl, rfl⟩))
        go_ret
        exact ⟨⟨r, rfl, HN.out.symm, hr⟩, rfl⟩
    · have h0' : ¬ (0 : Int) < r.size := by omega
      have HN : Hid (rstrip l.contains (bl s) = bl r) := by
        unfold Hid
        have : bl r = [] := List.eq_nil_of_length_eq_zero (by rw [bl_length]; omega)
        rw [HD.out, this]; rfl
      go_wp2
      go_ret
      exact ⟨⟨r, rfl, HN.out.symm, hr⟩, rfl⟩
set_option maxHeartbeats 1000000 in
set_option maxRecDepth 100000 in
theorem lib_trimLeft (b : Nat) (l : List UInt8) (s : ByteArray) (w : World) (hs : s.size ≤ 1000000) (HS : Hid (SetAt w b l)) :
    Calls Tryz.prog 100 #[.string s, .pointer (some ⟨b, 0, none⟩)] w fun e w' => (∃ t, e = .returned (.string t) ∧ Hid (bl t = (bl s).dropWhile l.contains) ∧ t.size ≤ s.size) ∧ w = w' := by
  go_enter Tryz.func100, Tryz.ntmps100
  go_wp2
  go_loopg [0] s.size (fun g v wr => ∃ r : ByteArray, v = .string r ∧ r.size ≤ s.size ∧ r.size ≤ g ∧ Hid ((bl s).dropWhile l.contains = (bl r).dropWhile l.contains) ∧ w = wr)
  case atStart => exact ⟨s, rfl, Nat.le_refl _, Nat.le_refl _, rfl, rfl⟩
  case round =>
    obtain ⟨r, rfl, hr, hg, HD, rfl⟩ := hrel
    by_cases h0 : 0 < r.size
    · have h0' : (0 : Int) < r.size := by omega
      have hsn : bl r = r[0] :: bl (r.extract 1 r.size) := by
        have := bl_drop r 0 h0
        rw [bl_suf2]
        simpa using this
      have hc := HS.out.2 r[0]
      by_cases hp : l.contains r[0] = true
      · have HN : Hid ((bl s).dropWhile l.contains = (bl (r.extract 1 r.size)).dropWhile l.contains) := by
          unfold Hid
          rw [HD.out, hsn, List.dropWhile_cons, if_pos hp]
        rw [hp] at hc
        clear hsn
        go_wp2_with (first | (go_at_call 125; go_must (refine (Tryz.asciiSet_contains b _ true _ hc).mono ?_); rintro e w' ⟨rfl, rfl⟩))
        go_roundg (gk - 1)
        case measure => omega
        case rel => exact ⟨_, rfl, by rw [ByteArray.size_extract]; omega, by rw [ByteArray.size_extract]; omega, HN, rfl⟩
      · have hp' : l.contains r[0] = false := by simpa using hp
        have HN : Hid ((bl s).dropWhile l.contains = bl r) := by
          unfold Hid
          rw [HD.out, hsn, List.dropWhile_cons, if_neg hp]
        rw [hp'] at hc
        clear hsn hp
        go_wp2_with (first | (go_at_call 125; go_must (refine (Tryz.asciiSet_contains b _ false _ hc).mono ?_); rintro e w' ⟨rfl, rfl⟩))
        go_ret
        exact ⟨⟨r, rfl, HN.out.symm, hr⟩, rfl⟩
    · have h0' : ¬ (0 : Int) < r.size := by omega
      have HN : Hid ((bl s).dropWhile l.contains = bl r) := by
        unfold Hid
        have : bl r = [] := List.eq_nil_of_length_eq_zero (by rw [bl_length]; omega)
        rw [HD.out, this]; rfl
      go_wp2
      go_ret
      exact ⟨⟨r, rfl, HN.out.symm, hr⟩, rfl⟩
theorem setcells_one (l : List UInt8) : (Lib.setCells l).all (·.oneCell') = true := by
  rw [Array.all_eq_true]
  intro i hi
  rw [Lib.setCells_size] at hi
  have h := Lib.setCells_at l (UInt8.ofNat i)
  rw [show (UInt8.ofNat i).toNat = i by rw [UInt8.toNat_ofNat']; omega] at h
  obtain ⟨_, h2⟩ := Array.getElem?_eq_some_iff.1 h
  rw [h2]; rfl
theorem set_at (w : World) (l : List UInt8) (t : TypeId) : SetAt (w.alloc (.cells (Lib.setCells l) t)) w.heap.size l := by
  refine ⟨by simp, fun x => ?_⟩
  rw [World.cell?_alloc_at _ _ _ _ rfl]
  have := Lib.setCells_at l x
  simpa using this
set_option maxHeartbeats 1000000 in
set_option maxRecDepth 100000 in
theorem lib_Trim (s c : ByteArray) (w : World) (hs : s.size ≤ 1000000) (hc2 : 2 ≤ c.size) (hc : c.size ≤ 1000) (hasc : ∀ (j : Nat) b, c.data.toList[j]? = some b → b.toNat < 128) :
    Calls Tryz.prog 65 #[.string s, .string c] w fun e w' => (∃ t, e = .returned (.string t) ∧ Hid (bl t = (rstrip (bl c).contains (bl s)).dropWhile (bl c).contains)) ∧ Hid (Bel w w') := by
  have hcne : (c.toList == ([] : List UInt8)) = false := by
    rw [toList_bl, beq_eq_false_iff_ne]
    intro e
    have := congrArg List.length e
    rw [bl_length] at this
    have h2 : c.size = 0 := this
    omega
  have hc1 : ((c.size : Int) == 1) = false := by rw [beq_eq_false_iff_ne]; omega
  by_cases h0 : bl s = []
  · have he : (s.toList == ([] : List UInt8)) = true := by rw [toList_bl]; simpa using h0
    have HX : Hid ((rstrip (bl c).contains (bl s)).dropWhile (bl c).contains = bl s) := by unfold Hid; rw [h0]; rfl
    clear h0
    go_enter Tryz.func65, Tryz.ntmps65
    go_wp2
    go_ret
    exact ⟨⟨s, rfl, HX.out.symm⟩, Below.refl _ _⟩
  · have he : (s.toList == ([] : List UInt8)) = false := by rw [toList_bl]; simpa using h0
    clear h0
    have hzz : Tryz.zeroCells96.size = 256 := by kernel_rfl
    have hst := fun W : World => run_storeCells_new (P := Tryz.prog) W 96 Tryz.zeroCells96 (Lib.setCells c.data.toList) (by rw [infoA, Lib.setCells_size]) (by rw [Lib.setCells_size, hzz]) (setcells_one _)
    have HST := Lib.hid hst
    clear hst hzz
    have HSA := fun W : World => set_at W c.data.toList 96
    have hcs := Lib.setCells_size c.data.toList
    go_enter Tryz.func65, Tryz.ntmps65
    go_wp2_with (first | (go_at_call 99; go_must (refine (Tryz.strings_makeASCIISet zeroA c _ (by omega) hasc).mono ?_); rintro e w1 ⟨rfl, hw1⟩; have HB1 : Hid (Bel w w1) := by { rw [hw1]; exact (Below.refl _ _).alloc (Nat.le_refl _) _ }; clear hw1; obtain ⟨cz, hcz⟩ : ∃ cz, cz = Lib.setCells c.data.toList := ⟨_, rfl⟩; rw [← hcz] at HST HSA hcs ⊢; clear hcz; have hst := HST.out w1; have HS2 := Lib.hid (HSA w1); have hbs : Hid (Bel w (w1.alloc (.cells cz 96))) := HB1.out.alloc HB1.out.size _) | (go_at_call 101; go_must (refine (lib_trimRight _ (bl c) s _ hs HS2).mono ?_); rintro e w' ⟨⟨t, rfl, ht, htz⟩, rfl⟩) | (go_at_call 100; go_must (refine (lib_trimLeft _ (bl c) t _ (by omega) HS2).mono ?_); rintro e w' ⟨⟨t2, rfl, ht2, htz2⟩, rfl⟩))
    go_ret
    exact ⟨⟨t2, rfl, by unfold Hid; rw [ht2.out, ht.out]⟩, hbs⟩
end Go.Proofs.YtbpkkgaaeodimaaGreatDoor
namespace Go.Proofs.YtbpkkgaaeodimaaGreatDoor
open Go.RowKit

/-! Kept texts and addresses. -/
set_option maxRecDepth 100000 in
theorem keep_Few (s : ByteArray) (n : Nat) (w : World) (hn : n ≤ 1000000) :
    Calls Tryz.prog 29 #[.string s, .int .i64 n] w fun e w' => (∃ r, e = .returned (.string r) ∧ Hid (bl r = (bl s).take n) ∧ r.size ≤ n ∧ r.size ≤ s.size) ∧ w = w' := by
  by_cases h : n < s.size
  · have h1 : (n : Int) < s.size := by omega
    have h2 : (n : Int) ≤ s.size := by omega
    have h3 : (0 : Int) ≤ n := by omega
    go_enter Tryz.func29, Tryz.ntmps29
    go_wp2
    go_ret
    exact ⟨⟨_, rfl, by unfold Hid; rw [bl_extract]; simp, by rw [ByteArray.size_extract]; omega, by rw [ByteArray.size_extract]; omega⟩, rfl⟩
  · have h1 : ¬ (n : Int) < s.size := by omega
    go_enter Tryz.func29, Tryz.ntmps29
    go_wp2
    go_ret
    exact ⟨⟨s, rfl, by unfold Hid; rw [List.take_of_length_le (by rw [bl_length]; omega)], by omega, Nat.le_refl _⟩, rfl⟩
/-- An address and whether it is one. -/
def KeptU (w w' : World) (o : Except Int UrlS) (e : Ending) : Prop := ∃ v, e = .returned (.tuple #[v, .bool (whyE o == 0)]) ∧ Hid (UrlV w' w.heap.size v (okU o))
set_option maxHeartbeats 1000000 in
set_option maxRecDepth 100000 in
theorem keep_URL (s : ByteArray) (w : World) (HE : Hid (Env w)) :
    Calls Tryz.prog 15 #[.string s] w fun e w' => KeptU w w' (urlS ((bl s).take 300)) e ∧ Hid (Bel w w') := by
  have HB0 : Hid (Bel w (w.alloc (.cells noC.cells.toArray 24))) := (Below.refl _ w).alloc (Nat.le_refl _) _
  have RB0 : Hid (RowAt (w.alloc (.cells noC.cells.toArray 24)) w.heap.size (noC.cells ++ [])) := RowAt.new w noC.cells.toArray 24
  rw [no_cells] at HB0 RB0
  go_enter Tryz.func15, Tryz.ntmps15
  go_wp2_with fail
  refine (keep_Few s 300 _ (by decide)).mono ?_
  rintro e w' ⟨⟨r, rfl, hr, hz, _⟩, hw⟩
  rw [← hw]
  clear hw
  go_wp2_with fail
  refine (ref3_Parse r _ (by omega) (Lib.hid (HE.out.bel HB0.out))).mono ?_
  rintro e w2 ⟨⟨v, rfl, hv⟩, HB2⟩
  have HB3 := Lib.hid (bel_trans HB0.out HB2.out)
  have RB2 := Lib.hid (RB0.out.bel HB2.out)
  rw [hr.out] at hv ⊢
  obtain ⟨c, p, rfl, hc, hp⟩ := hv.out
  have HP := Lib.hid hp
  have HC := Lib.hid hc
  clear hv hp hc
  have h1c := own_cell HP.out
  have hlt : w.heap.size < w2.heap.size := RB2.out.1
  have hr3 : RowAt (w2.alloc (.cells noC.cells.toArray 24)) w2.heap.size (noC.cells ++ []) := RowAt.new w2 noC.cells.toArray 24
  have hb3 : Bel w2 (w2.alloc (.cells noC.cells.toArray 24)) := (Below.refl _ w2).alloc (Nat.le_refl _) _
  rw [no_cells] at hr3 hb3
  have HR3 := Lib.hid hr3
  have HB4 := Lib.hid hb3
  clear hr3 hb3
  obtain ⟨E, hE⟩ : ∃ E, whyE (urlS ((bl s).take 300)) = E := ⟨_, rfl⟩
  rw [hE]
  have HEE := Lib.hid hE
  clear hE
  go_wp2_with (first | (refine store_url rfl _ _ (by exact rfl) w2.heap.size (by exact rfl) noC c [] (by exact rfl) HR3.out h1c ?_; intro w4 HR4 HP4; have HB5 := Lib.hid (BelP.bel HB4.out (fun k hk => by rw [hk]; exact Nat.le_refl _) HP4.out); have RB5 := Lib.hid (RB2.out.bel HB5.out)) | (refine load_url rfl _ (by exact rfl) w2.heap.size (by exact rfl) c [] HR4.out ?_) | (refine store_url rfl _ _ (by exact rfl) w.heap.size (by exact rfl) noC c [] (by exact rfl) RB5.out h1c ?_; intro w6 HR6 HP6))
  refine bodyPost_ret (res_url rfl _ _ w.heap.size c [] (by exact rfl) HR6.out) rfl ?_
  refine ⟨⟨_, by rw [HEE.out]; rfl, c, p, rfl, HC.out, ?_⟩, ?_⟩
  · refine BelP.own HP6.out (fun k hk => ?_) ((HP.out.bel HB5.out).weak HB0.out.size)
    have := HP.out.base k hk
    simp at this
    omega
  · exact BelP.bel (bel_trans HB3.out HB5.out) (fun k hk => by rw [hk]; exact Nat.le_refl _) HP6.out
end Go.Proofs.YtbpkkgaaeodimaaGreatDoor
namespace Go.Proofs.YtbpkkgaaeodimaaGreatDoor
open Go.RowKit

/-! The program's reader, method by method: its block g holds an address and what is left to read. -/
set_option maxHeartbeats 1000000 in
set_option maxRecDepth 100000 in
theorem rd_fragment (g : Nat) (c : UrlC) (r : ByteArray) (w0 w : World) (hs : r.size ≤ 1000000) (HR : Hid (Rd w0 w g c [.string r] w)) :
    Calls Tryz.prog 52 #[.pointer (some ⟨g, 0, none⟩)] w fun e w' => ∃ a f, e = .returned (.tuple #[]) ∧ Hid (bl a = (segS 35 (bl r)).1) ∧ a.size ≤ r.size ∧ Hid (bl f = percent 2 (segS 35 (bl r)).2.1) ∧ Hid (Rd w0 w g { c with frag := f, hasFrag := (segS 35 (bl r)).2.2 } [.string a] w') := by
  have k12 := HR.out.rest.1
  go_enter Tryz.func52, Tryz.ntmps52
  go_wp2_with fail
  refine (lib_Cut1 r 35 _ hs (Lib.hid HR.out.envn)).mono ?_
  rintro e w1 ⟨⟨a, b, rfl, ha, hb, haz, hbz⟩, HB1⟩
  have HR1 := Lib.hid (HR.out.step HB1.out)
  obtain ⟨l12, m12⟩ := HR1.out.rest
  have HR2 := Lib.hid (HR1.out.put 12 (.string a) (c' := c) (ext' := [.string a]) rfl)
  go_wp2_with fail
  refine (infra_Percent b 2 _ (by omega)).mono ?_
  rintro e w2 ⟨⟨t, rfl, ht, _⟩, HB2⟩
  have HR3 := Lib.hid (HR2.out.step HB2.out)
  obtain ⟨_, _, _, _, _, _, _, _, _, ⟨d9, f9⟩, _, ⟨d11, f11⟩⟩ := HR3.out.cells
  go_wp2
  go_end0
  exact ⟨a, t, rfl, ha, haz, by unfold Hid; rw [ht.out, hb.out], (HR3.out.put 11 (.bool (segS 35 (bl r)).2.2) (c' := { c with hasFrag := (segS 35 (bl r)).2.2 }) (ext' := [.string a]) rfl).put 9 (.string t) rfl⟩
set_option maxHeartbeats 1000000 in
set_option maxRecDepth 100000 in
theorem rd_query (g : Nat) (c : UrlC) (r : ByteArray) (w0 w : World) (hs : r.size ≤ 1000000) (HR : Hid (Rd w0 w g c [.string r] w)) :
    Calls Tryz.prog 87 #[.pointer (some ⟨g, 0, none⟩)] w fun e w' => ∃ a q, e = .returned (.tuple #[]) ∧ Hid (bl a = (segS 63 (bl r)).1) ∧ a.size ≤ r.size ∧ Hid (bl q = percent (setQ (bl c.scheme)) (segS 63 (bl r)).2.1) ∧ Hid (Rd w0 w g { c with query := q, hasQuery := (segS 63 (bl r)).2.2 } [.string a] w') := by
  have k12 := HR.out.rest.1
  obtain ⟨⟨k0, _⟩, _⟩ := HR.out.cells
  have HQ : Hid (setQ (bl c.scheme) = if specialS (bl c.scheme) = true then 4 else 3) := rfl
  obtain ⟨sp, hsp⟩ : ∃ sp, specialS (bl c.scheme) = sp := ⟨_, rfl⟩
  have HSP := Lib.hid hsp
  rw [hsp] at HQ
  clear hsp
  cases sp
  all_goals
    go_enter Tryz.func87, Tryz.ntmps87
    go_wp2_with (first | (go_at_call 35; go_must (refine (url_Special _ _).mono ?_); rintro e w' ⟨rfl, rfl⟩; rw [HSP.out]))
    refine (lib_Cut1 r 63 _ hs (Lib.hid HR.out.envn)).mono ?_
    rintro e w1 ⟨⟨a, b, rfl, ha, hb, haz, hbz⟩, HB1⟩
    have HR1 := Lib.hid (HR.out.step HB1.out)
    obtain ⟨l12, m12⟩ := HR1.out.rest
    have HR2 := Lib.hid (HR1.out.put 12 (.string a) (c' := c) (ext' := [.string a]) rfl)
    go_wp2_with fail
    refine (infra_Percent b _ _ (by omega)).mono ?_
    rintro e w2 ⟨⟨t, rfl, ht, _⟩, HB2⟩
    have HR3 := Lib.hid (HR2.out.step HB2.out)
    obtain ⟨_, _, _, _, _, _, _, _, ⟨d8, f8⟩, _, ⟨d10, f10⟩, _⟩ := HR3.out.cells
    go_wp2
    go_end0
    exact ⟨a, t, rfl, ha, haz, by unfold Hid; rw [ht.out, hb.out, HQ.out]; rfl, (HR3.out.put 10 (.bool (segS 63 (bl r)).2.2) (c' := { c with hasQuery := (segS 63 (bl r)).2.2 }) (ext' := [.string a]) rfl).put 8 (.string t) rfl⟩
end Go.Proofs.YtbpkkgaaeodimaaGreatDoor
