import Derived.Test.YtbpkkgaaeodimaaGreatDoorXG29
namespace Go.Proofs.YtbpkkgaaeodimaaGreatDoor
open Go.RowKit

/-! The statement UrlBack. -/
theorem bare_frag (u : UrlS) : textS { u with hasFrag := false, frag := [] } = bareS u := by
  unfold textS
  rw [if_neg (by simp), List.append_nil]
  rfl
theorem bare_fix (c : UrlC) (p : List (List UInt8)) (base : Nat) (w : World) (HO : Hid (Own w base 9 c.path (strs p))) (HE : Hid (Env w)) (HZ : Hid (Small c p)) (l : List UInt8) (hl : bareS (c.flat p) = l) :
    Calls Tryz.prog 34 #[.agg c.cells.toArray] w fun e w' => e = .returned (.string ⟨l.toArray⟩) ∧ Hid (Bel w w') := by
  refine (url_Bare c p base w HO HE HZ).mono ?_
  rintro e w' ⟨⟨t, rfl, ht⟩, hb⟩
  exact ⟨by rw [show t = ⟨l.toArray⟩ from bl_inj (by rw [ht.out, hl, bl_mk])], hb⟩
theorem text_fix (c : UrlC) (p : List (List UInt8)) (base : Nat) (w : World) (HO : Hid (Own w base 9 c.path (strs p))) (HE : Hid (Env w)) (HZ : Hid (Small c p)) (l : List UInt8) (hl : textS (c.flat p) = l) :
    Calls Tryz.prog 27 #[.agg c.cells.toArray] w fun e w' => e = .returned (.string ⟨l.toArray⟩) ∧ Hid (Bel w w') := by
  refine (url_Text c p base w HO HE HZ).mono ?_
  rintro e w' ⟨⟨t, rfl, ht, _⟩, hb⟩
  exact ⟨by rw [show t = ⟨l.toArray⟩ from bl_inj (by rw [ht.out, hl, bl_mk])], hb⟩
/-- What the last region asks of its worlds. -/
abbrev BackS (base g1 g2 : Nat) (c d : UrlC) (p : List (List UInt8)) (w : World) : Prop := Hid (Env w) ∧ Hid (Own w base 9 c.path (strs p)) ∧ w.cell? ⟨g1, 0, none⟩ = some (.string c.scheme) ∧ w.cell? ⟨g1, 1, none⟩ = some (.string c.user) ∧ w.cell? ⟨g1, 2, none⟩ = some (.string c.pass) ∧ w.cell? ⟨g1, 3, none⟩ = some (.string c.host) ∧ w.cell? ⟨g1, 4, none⟩ = some (.bool c.hasHost) ∧ w.cell? ⟨g1, 5, none⟩ = some (.int .i64 c.port) ∧ w.cell? ⟨g1, 6, none⟩ = some (.bool c.opaq) ∧ w.cell? ⟨g1, 7, none⟩ = some (c.path) ∧ w.cell? ⟨g1, 8, none⟩ = some (.string c.query) ∧ w.cell? ⟨g1, 9, none⟩ = some (.string c.frag) ∧ w.cell? ⟨g1, 10, none⟩ = some (.bool c.hasQuery) ∧ w.cell? ⟨g1, 11, none⟩ = some (.bool c.hasFrag) ∧ w.cell? ⟨g2, 0, none⟩ = some (.string d.scheme) ∧ w.cell? ⟨g2, 1, none⟩ = some (.string d.user) ∧ w.cell? ⟨g2, 2, none⟩ = some (.string d.pass) ∧ w.cell? ⟨g2, 3, none⟩ = some (.string d.host) ∧ w.cell? ⟨g2, 4, none⟩ = some (.bool d.hasHost) ∧ w.cell? ⟨g2, 5, none⟩ = some (.int .i64 d.port) ∧ w.cell? ⟨g2, 6, none⟩ = some (.bool d.opaq) ∧ w.cell? ⟨g2, 7, none⟩ = some (d.path) ∧ w.cell? ⟨g2, 8, none⟩ = some (.string d.query) ∧ w.cell? ⟨g2, 9, none⟩ = some (.string d.frag) ∧ w.cell? ⟨g2, 10, none⟩ = some (.bool d.hasQuery) ∧ w.cell? ⟨g2, 11, none⟩ = some (.bool d.hasFrag)
theorem backS_bel {base g1 g2 : Nat} {c d : UrlC} {p : List (List UInt8)} {w w' : World} (h : BackS base g1 g2 c d p w) (hb : Hid (Bel w w')) : BackS base g1 g2 c d p w' := by
  obtain ⟨h1, h2, a0, a1, a2, a3, a4, a5, a6, a7, a8, a9, a10, a11, a12, a13, a14, a15, a16, a17, a18, a19, a20, a21, a22, a23⟩ := h
  exact ⟨Lib.hid (h1.out.bel hb.out), Lib.hid (h2.out.bel hb.out), bel_cell hb.out a0, bel_cell hb.out a1, bel_cell hb.out a2, bel_cell hb.out a3, bel_cell hb.out a4, bel_cell hb.out a5, bel_cell hb.out a6, bel_cell hb.out a7, bel_cell hb.out a8, bel_cell hb.out a9, bel_cell hb.out a10, bel_cell hb.out a11, bel_cell hb.out a12, bel_cell hb.out a13, bel_cell hb.out a14, bel_cell hb.out a15, bel_cell hb.out a16, bel_cell hb.out a17, bel_cell hb.out a18, bel_cell hb.out a19, bel_cell hb.out a20, bel_cell hb.out a21, bel_cell hb.out a22, bel_cell hb.out a23⟩
theorem backS_env {base g1 g2 : Nat} {c d : UrlC} {p : List (List UInt8)} {w : World} (h : BackS base g1 g2 c d p w) : Hid (Env w) := h.1
theorem backS_own {base g1 g2 : Nat} {c d : UrlC} {p : List (List UInt8)} {w : World} (h : BackS base g1 g2 c d p w) : Hid (Own w base 9 c.path (strs p)) := h.2.1
theorem backS_mk {base g1 g2 : Nat} {c d : UrlC} {p : List (List UInt8)} {w : World} (h1 : Hid (Env w)) (h2 : Hid (Own w base 9 c.path (strs p))) (h3 : RowAt w g1 (c.cells ++ [])) (h4 : RowAt w g2 (d.cells ++ [])) : BackS base g1 g2 c d p w := by
  obtain ⟨⟨a0, _⟩, ⟨a1, _⟩, ⟨a2, _⟩, ⟨a3, _⟩, ⟨a4, _⟩, ⟨a5, _⟩, ⟨a6, _⟩, ⟨a7, _⟩, ⟨a8, _⟩, ⟨a9, _⟩, ⟨a10, _⟩, ⟨a11, _⟩⟩ := at_row h3
  obtain ⟨⟨a12, _⟩, ⟨a13, _⟩, ⟨a14, _⟩, ⟨a15, _⟩, ⟨a16, _⟩, ⟨a17, _⟩, ⟨a18, _⟩, ⟨a19, _⟩, ⟨a20, _⟩, ⟨a21, _⟩, ⟨a22, _⟩, ⟨a23, _⟩⟩ := at_row h4
  exact ⟨h1, h2, a0, a1, a2, a3, a4, a5, a6, a7, a8, a9, a10, a11, a12, a13, a14, a15, a16, a17, a18, a19, a20, a21, a22, a23⟩
set_option maxHeartbeats 8000000 in
set_option maxRecDepth 100000 in
theorem law_UBac (s : ByteArray) (w : World) (HE : Hid (Env w)) :
    Calls Tryz.prog 7 #[.string s] w fun e w' => e = .returned (.bool true) ∧ Hid (Bel w w') := by
  have HB0 : Hid (Bel w w) := Below.refl _ _
  go_enter Tryz.func7, Tryz.ntmps7
  go_wp2_with fail
  refine (keep_Few s 500 _ (by decide)).mono ?_
  rintro e w' ⟨⟨r, rfl, hr, hz, _⟩, hw⟩
  rw [← hw]
  clear hw
  go_wp2_with fail
  refine (url_Parse r w (by omega) HE).mono ?_
  rintro e wa1 ⟨⟨v, rfl, HV⟩, HBa⟩
  have HFI := Lib.hid (url_fine (bl r))
  obtain ⟨o1, ho⟩ : ∃ o, urlS (bl r) = o := ⟨_, rfl⟩
  have HO1 := Lib.hid ho
  have HER := Lib.hid (fun x (h : o1 = .error x) => url_err (ho.trans h))
  have HAG := Lib.hid (fun u (h : o1 = .ok u) => url_again (ho.trans h) (by rw [bl_length]; omega))
  rw [ho] at HV HFI ⊢
  obtain ⟨c1, p1, rfl, hc, hp⟩ := HV.out
  have HC1 := Lib.hid hc
  have HP1 := Lib.hid hp
  have h1c := own_cell hp
  clear HV hc hp ho
  have hpl : p1.length ≤ 1000000 := by
    have h1 := HFI.out.1; rw [← HC1.out] at h1; have h2 := plen_ge p1
    unfold slen UrlC.flat at h1; simp only [] at h1; omega
  have HBx1 := Lib.hid (bel_trans HB0.out HBa.out)
  have HEx1 := Lib.hid (HE.out.bel HBx1.out)
  cases o1 with
  | error x =>
    have hx := HER.out x rfl
    have hx1 : (whyE (.error x) != 0) = true := by rw [bne_iff_ne]; show x ≠ 0; omega
    have hx2 : (whyE (.error x) == 0) = false := by rw [beq_eq_false_iff_ne]; show x ≠ 0; omega
    clear hx
    generalize whyE (.error x) = E at *
    have hr3 : RowAt (wa1.alloc (.cells noC.cells.toArray 24)) wa1.heap.size (noC.cells ++ []) := RowAt.new wa1 noC.cells.toArray 24
    have hb3 : Bel wa1 (wa1.alloc (.cells noC.cells.toArray 24)) := (Below.refl _ wa1).alloc (Nat.le_refl _) _
    rw [no_cells] at hr3 hb3
    have HRn := Lib.hid hr3
    have HBn := Lib.hid hb3
    clear hr3 hb3
    go_wp2_with (first | (refine store_url rfl _ _ (by exact rfl) wa1.heap.size (by exact rfl) noC c1 [] (by exact rfl) HRn.out h1c ?_; intro wb1 R1 HPb; obtain ⟨⟨k0, _⟩, ⟨k1, _⟩, ⟨k2, _⟩, ⟨k3, _⟩, ⟨k4, _⟩, ⟨k5, _⟩, ⟨k6, _⟩, ⟨k7, _⟩, ⟨k8, _⟩, ⟨k9, _⟩, ⟨k10, _⟩, ⟨k11, _⟩⟩ := at_row R1.out))
    replace HP1 := Lib.hid (own_fresh HP1.out (Nat.le_refl _) HBn.out HPb.out)
    have HBx2 : Hid (Bel w wb1) := BelP.bel HBx1.out (fun k hk => by rw [hk]; exact HBx1.out.size) ((BelP.of _ HBn.out).trans HPb.out)
    have HEx2 := Lib.hid (HE.out.bel HBx2.out)
    clear HRn HBn HPb
    clear k0 k1 k2 k3 k4 k5 k6 k7 k8 k9 k10 k11
    have HQ := keep_SameURL c1 noC p1 [] wb1 HC1.out hpl (Lib.hid (ReadP.of HP1.out)) (Lib.hid (Or.inl ⟨rfl, rfl⟩))
    rw [no_cells] at HQ
    refine HQ.mono ?_
    rintro e wq ⟨rfl, HBc⟩
    have HBx3 := Lib.hid (bel_trans HBx2.out HBc.out)
    have HEx3 := Lib.hid (HE.out.bel HBx3.out)
    replace R1 := Lib.hid (R1.out.bel HBc.out)
    replace HP1 := Lib.hid (HP1.out.bel HBc.out)
    go_wp2_with fail
    refine (law3_known wq HEx3).mono ?_
    rintro e wz ⟨rfl, HBc⟩
    have HBx4 := Lib.hid (bel_trans HBx3.out HBc.out)
    have HEx4 := Lib.hid (HE.out.bel HBx4.out)
    replace R1 := Lib.hid (R1.out.bel HBc.out)
    replace HP1 := Lib.hid (HP1.out.bel HBc.out)
    go_wp2
    go_ret
    exact ⟨rfl, HBx4⟩
  | ok u =>
    rw [show whyE (.ok u) = 0 from rfl]
    have HU := Lib.hid (show c1.flat p1 = u from HC1.out)
    have HAG2 := Lib.hid (HAG.out u rfl)
    have HZ1 : Hid (Small c1 p1) := Fine.small (n := 12334) (by rw [HC1.out]; exact HFI.out) (by decide)
    have hr3 : RowAt (wa1.alloc (.cells noC.cells.toArray 24)) wa1.heap.size (noC.cells ++ []) := RowAt.new wa1 noC.cells.toArray 24
    have hb3 : Bel wa1 (wa1.alloc (.cells noC.cells.toArray 24)) := (Below.refl _ wa1).alloc (Nat.le_refl _) _
    rw [no_cells] at hr3 hb3
    have HRn := Lib.hid hr3
    have HBn := Lib.hid hb3
    clear hr3 hb3
    go_wp2_with (first | (refine store_url rfl _ _ (by exact rfl) wa1.heap.size (by exact rfl) noC c1 [] (by exact rfl) HRn.out h1c ?_; intro wb1 R1 HPb; obtain ⟨⟨k0, _⟩, ⟨k1, _⟩, ⟨k2, _⟩, ⟨k3, _⟩, ⟨k4, _⟩, ⟨k5, _⟩, ⟨k6, _⟩, ⟨k7, _⟩, ⟨k8, _⟩, ⟨k9, _⟩, ⟨k10, _⟩, ⟨k11, _⟩⟩ := at_row R1.out))
    replace HP1 := Lib.hid (own_fresh HP1.out (Nat.le_refl _) HBn.out HPb.out)
    have HBx2 : Hid (Bel w wb1) := BelP.bel HBx1.out (fun k hk => by rw [hk]; exact HBx1.out.size) ((BelP.of _ HBn.out).trans HPb.out)
    have HEx2 := Lib.hid (HE.out.bel HBx2.out)
    clear HRn HBn HPb
    clear k0 k1 k2 k3 k4 k5 k6 k7 k8 k9 k10 k11
    refine (url_Text c1 p1 _ wb1 HP1 HEx2 HZ1).mono ?_
    rintro e wt ⟨⟨t, rfl, ht, htz⟩, HBc⟩
    have HTT : Hid (bl t = textS u) := by unfold Hid; rw [ht.out, HU.out]
    have htl : t.size ≤ 1000000 := by
      have h1 := text_len u; have h2 := HFI.out.1; have h3 := itoa_port HFI.out.2; rw [← HTT.out, bl_length] at h1
      change slen u ≤ _ at h2; change (Lib.itoa u.port).length ≤ _ at h3; omega
    clear ht htz
    have HBx3 := Lib.hid (bel_trans HBx2.out HBc.out)
    have HEx3 := Lib.hid (HE.out.bel HBx3.out)
    replace R1 := Lib.hid (R1.out.bel HBc.out)
    replace HP1 := Lib.hid (HP1.out.bel HBc.out)
    go_wp2_with fail
    refine (url_Parse t wt htl HEx3).mono ?_
    rintro e wa2 ⟨⟨v, rfl, HV⟩, HBa⟩
    rw [HTT.out, HAG2.out] at HV ⊢
    obtain ⟨c2, p2, rfl, hc, hp⟩ := HV.out
    have HC2 : Hid (c2.flat p2 = u) := hc
    have HP2 := Lib.hid hp
    have h1c2 := own_cell hp
    clear HV hc hp
    rw [show whyE (.ok u) = 0 from rfl]
    have HBx4 := Lib.hid (bel_trans HBx3.out HBa.out)
    have HEx4 := Lib.hid (HE.out.bel HBx4.out)
    replace R1 := Lib.hid (R1.out.bel HBa.out)
    replace HP1 := Lib.hid (HP1.out.bel HBa.out)
    have hr3 : RowAt (wa2.alloc (.cells noC.cells.toArray 24)) wa2.heap.size (noC.cells ++ []) := RowAt.new wa2 noC.cells.toArray 24
    have hb3 : Bel wa2 (wa2.alloc (.cells noC.cells.toArray 24)) := (Below.refl _ wa2).alloc (Nat.le_refl _) _
    rw [no_cells] at hr3 hb3
    have HRn := Lib.hid hr3
    have HBn := Lib.hid hb3
    clear hr3 hb3
    go_wp2_with (first | (refine store_url rfl _ _ (by exact rfl) wa2.heap.size (by exact rfl) noC c2 [] (by exact rfl) HRn.out h1c2 ?_; intro wb2 R2 HPb; obtain ⟨⟨k0, _⟩, ⟨k1, _⟩, ⟨k2, _⟩, ⟨k3, _⟩, ⟨k4, _⟩, ⟨k5, _⟩, ⟨k6, _⟩, ⟨k7, _⟩, ⟨k8, _⟩, ⟨k9, _⟩, ⟨k10, _⟩, ⟨k11, _⟩⟩ := at_row (BelP.row HPb.out (Nat.ne_of_lt R1.out.1) (R1.out.bel HBn.out)); obtain ⟨⟨l0, _⟩, ⟨l1, _⟩, ⟨l2, _⟩, ⟨l3, _⟩, ⟨l4, _⟩, ⟨l5, _⟩, ⟨l6, _⟩, ⟨l7, _⟩, ⟨l8, _⟩, ⟨l9, _⟩, ⟨l10, _⟩, ⟨l11, _⟩⟩ := at_row R2.out))
    replace R1 := Lib.hid (BelP.row HPb.out (Nat.ne_of_lt R1.out.1) (R1.out.bel HBn.out))
    replace HP1 := Lib.hid (own_fresh HP1.out (Nat.le_refl _) HBn.out HPb.out)
    replace HP2 := Lib.hid (own_fresh HP2.out (Nat.le_refl _) HBn.out HPb.out)
    have HBx5 : Hid (Bel w wb2) := BelP.bel HBx4.out (fun k hk => by rw [hk]; exact HBx4.out.size) ((BelP.of _ HBn.out).trans HPb.out)
    have HEx5 := Lib.hid (HE.out.bel HBx5.out)
    clear HRn HBn HPb
    clear k0 k1 k2 k3 k4 k5 k6 k7 k8 k9 k10 k11
    clear l0 l1 l2 l3 l4 l5 l6 l7 l8 l9 l10 l11
    refine (keep_SameURL c1 c2 p1 p2 wb2 (HU.out.trans HC2.out.symm) hpl (Lib.hid (ReadP.of HP1.out)) (Lib.hid (ReadP.of HP2.out))).mono ?_
    rintro e wq ⟨rfl, HBc⟩
    have HBx6 := Lib.hid (bel_trans HBx5.out HBc.out)
    have HEx6 := Lib.hid (HE.out.bel HBx6.out)
    replace R1 := Lib.hid (R1.out.bel HBc.out)
    replace R2 := Lib.hid (R2.out.bel HBc.out)
    replace HP1 := Lib.hid (HP1.out.bel HBc.out)
    replace HP2 := Lib.hid (HP2.out.bel HBc.out)
    have HLT0 : Hid (wa1.heap.size < wq.heap.size) := R1.out.1
    have HLT1 : Hid (∀ k, c1.path.ownBlock = some k → k < wq.heap.size) := fun k hk => HP1.out.lt k hk
    obtain ⟨⟨k0, _⟩, ⟨k1, _⟩, ⟨k2, _⟩, ⟨k3, _⟩, ⟨k4, _⟩, ⟨k5, _⟩, ⟨k6, _⟩, ⟨k7, _⟩, ⟨k8, _⟩, ⟨k9, _⟩, ⟨k10, _⟩, ⟨k11, _⟩⟩ := at_row R1.out
    have hr3 : RowAt (wq.alloc (.cells noC.cells.toArray 24)) wq.heap.size (noC.cells ++ []) := RowAt.new wq noC.cells.toArray 24
    have hb3 : Bel wq (wq.alloc (.cells noC.cells.toArray 24)) := (Below.refl _ wq).alloc (Nat.le_refl _) _
    rw [no_cells] at hr3 hb3
    have HRn := Lib.hid hr3
    have HBn := Lib.hid hb3
    clear hr3 hb3
    go_upto_region 8 with (first | (refine store_url rfl _ _ (by exact rfl) wq.heap.size (by exact rfl) noC c1 [] (by exact rfl) HRn.out h1c ?_; intro wb3 R3 HPb))
    clear k0 k1 k2 k3 k4 k5 k6 k7 k8 k9 k10 k11
    replace R1 := Lib.hid (BelP.row HPb.out (Nat.ne_of_lt R1.out.1) (R1.out.bel HBn.out))
    replace R2 := Lib.hid (BelP.row HPb.out (Nat.ne_of_lt R2.out.1) (R2.out.bel HBn.out))
    replace HP1 := Lib.hid (own_fresh HP1.out (Nat.le_refl _) HBn.out HPb.out)
    replace HP2 := Lib.hid (own_fresh HP2.out (Nat.le_refl _) HBn.out HPb.out)
    have HBx7 : Hid (Bel w wb3) := BelP.bel HBx6.out (fun k hk => by rw [hk]; exact HBx6.out.size) ((BelP.of _ HBn.out).trans HPb.out)
    have HEx7 := Lib.hid (HE.out.bel HBx7.out)
    clear HRn HBn HPb
    obtain ⟨g3, hg3⟩ : ∃ g, wq.heap.size = g := ⟨_, rfl⟩
    rw [hg3] at R3 HLT0 HLT1
    try rw [hg3]
    have HBG : Hid (w.heap.size ≤ g3) := by unfold Hid; rw [← hg3]; exact HBx6.out.size
    clear hg3
    obtain ⟨d, hd⟩ : ∃ d : UrlC, ({ c1 with hasFrag := false, frag := ⟨#[]⟩ } : UrlC) = d := ⟨_, rfl⟩
    have HDT : Hid (textS (d.flat p1) = bareS u) := by unfold Hid; rw [← hd, ← HU.out]; exact bare_frag (c1.flat p1)
    have HZD : Hid (Small d p1) := by rw [← hd]; exact ⟨HZ1.out.s, HZ1.out.u, HZ1.out.a, HZ1.out.h, HZ1.out.q, by show (⟨#[]⟩ : ByteArray).size ≤ _; exact Nat.zero_le _, HZ1.out.p, HZ1.out.n1, HZ1.out.n2, HZ1.out.n3⟩
    have hdp : d.path = c1.path := by rw [← hd]
    have k11 := R3.out.2 11 (.bool c1.hasFrag) rfl
    obtain ⟨k11, l11⟩ := k11
    have k9 := (R3.out.set 11 (.bool false)).2 9 (.string c1.frag) rfl
    obtain ⟨k9, l9⟩ := k9
    have R4 : Hid (RowAt ((wb3.setCell ⟨g3, 11, none⟩ (.bool false)).setCell ⟨g3, 9, none⟩ (.string ⟨#[]⟩)) g3 (d.cells ++ [])) := by rw [← hd]; exact (R3.out.set 11 (.bool false)).set 9 (.string ⟨#[]⟩)
    have HST : Hid (BelP (fun k => k = g3) wb3 ((wb3.setCell ⟨g3, 11, none⟩ (.bool false)).setCell ⟨g3, 9, none⟩ (.string ⟨#[]⟩))) := (BelP.set ⟨g3, 11, none⟩ _ rfl).trans (BelP.set ⟨g3, 9, none⟩ _ rfl)
    clear hd
    go_upto_region 10 with (fail)
    clear k11 l11 k9 l9
    generalize (World.setCell (World.setCell wb3 _ _) _ _) = w8 at *
    replace R1 := Lib.hid (BelP.row HST.out (Nat.ne_of_lt HLT0.out) R1.out)
    replace HP1 := Lib.hid (BelP.own HST.out (fun k hk => Nat.ne_of_lt (HLT1.out k hk)) HP1.out)
    have HB8 : Hid (Bel w w8) := BelP.bel HBx7.out (fun k hk => by rw [hk]; exact HBG.out) HST.out
    have hw := backS_mk (Lib.hid (HE.out.bel HB8.out)) HP1 R1.out R4.out
    have HQB := fun W h1 h2 => bare_fix c1 p1 w.heap.size W h1 h2 HZ1 (bareS u) (by rw [HU.out])
    have HQT := fun W h1 h2 => text_fix d p1 w.heap.size W h1 h2 HZD (bareS u) HDT.out
    rw [hdp] at HQT
    clear hdp
    obtain ⟨TT, hTT⟩ : ∃ TT : ByteArray, (⟨(bareS u).toArray⟩ : ByteArray) = TT := ⟨_, rfl⟩
    rw [hTT] at HQB HQT
    clear hTT
    go_region_held3 (fun w' => Hid (Env w') ∧ Hid (Own w' w.heap.size 9 c1.path (strs p1)) ∧ w'.cell? ⟨wa1.heap.size, 0, none⟩ = some (.string c1.scheme) ∧ w'.cell? ⟨wa1.heap.size, 1, none⟩ = some (.string c1.user) ∧ w'.cell? ⟨wa1.heap.size, 2, none⟩ = some (.string c1.pass) ∧ w'.cell? ⟨wa1.heap.size, 3, none⟩ = some (.string c1.host) ∧ w'.cell? ⟨wa1.heap.size, 4, none⟩ = some (.bool c1.hasHost) ∧ w'.cell? ⟨wa1.heap.size, 5, none⟩ = some (.int .i64 c1.port) ∧ w'.cell? ⟨wa1.heap.size, 6, none⟩ = some (.bool c1.opaq) ∧ w'.cell? ⟨wa1.heap.size, 7, none⟩ = some (c1.path) ∧ w'.cell? ⟨wa1.heap.size, 8, none⟩ = some (.string c1.query) ∧ w'.cell? ⟨wa1.heap.size, 9, none⟩ = some (.string c1.frag) ∧ w'.cell? ⟨wa1.heap.size, 10, none⟩ = some (.bool c1.hasQuery) ∧ w'.cell? ⟨wa1.heap.size, 11, none⟩ = some (.bool c1.hasFrag) ∧ w'.cell? ⟨g3, 0, none⟩ = some (.string d.scheme) ∧ w'.cell? ⟨g3, 1, none⟩ = some (.string d.user) ∧ w'.cell? ⟨g3, 2, none⟩ = some (.string d.pass) ∧ w'.cell? ⟨g3, 3, none⟩ = some (.string d.host) ∧ w'.cell? ⟨g3, 4, none⟩ = some (.bool d.hasHost) ∧ w'.cell? ⟨g3, 5, none⟩ = some (.int .i64 d.port) ∧ w'.cell? ⟨g3, 6, none⟩ = some (.bool d.opaq) ∧ w'.cell? ⟨g3, 7, none⟩ = some (d.path) ∧ w'.cell? ⟨g3, 8, none⟩ = some (.string d.query) ∧ w'.cell? ⟨g3, 9, none⟩ = some (.string d.frag) ∧ w'.cell? ⟨g3, 10, none⟩ = some (.bool d.hasQuery) ∧ w'.cell? ⟨g3, 11, none⟩ = some (.bool d.hasFrag)) ((first | exact backS_bel hw (bel_drew _) | assumption | exact backS_bel (by assumption) (by assumption)))
      (first | ((go_at_call 34; go_must (refine (HQB _ (backS_own (base := w.heap.size) (g1 := wa1.heap.size) (g2 := g3) (c := c1) (d := d) (p := p1) (by assumption)) (backS_env (base := w.heap.size) (g1 := wa1.heap.size) (g2 := g3) (c := c1) (d := d) (p := p1) (by assumption))).mono ?_); rintro e w6 ⟨rfl, HB6⟩)) | ((go_at_call 27; go_must (refine (HQT _ (backS_own (base := w.heap.size) (g1 := wa1.heap.size) (g2 := g3) (c := c1) (d := d) (p := p1) (by assumption)) (backS_env (base := w.heap.size) (g1 := wa1.heap.size) (g2 := g3) (c := c1) (d := d) (p := p1) (by assumption))).mono ?_); rintro e w7 ⟨rfl, HB7⟩)) | ((go_at_call 28; go_must (refine (law3_known _ (backS_env (base := w.heap.size) (g1 := wa1.heap.size) (g2 := g3) (c := c1) (d := d) (p := p1) (by assumption))).mono ?_); rintro e w5 ⟨rfl, HB9⟩)))
    all_goals (go_wp2; go_ret; refine ⟨rfl, ?_⟩; first | exact bel_trans HB8.out (bel_trans (bel_drew w8) (bel_trans HB6.out (bel_trans HB7.out HB9.out))) | exact bel_trans HB8.out (bel_trans (bel_drew w8) (bel_trans HB7.out (bel_trans HB6.out HB9.out))))
end Go.Proofs.YtbpkkgaaeodimaaGreatDoor
