import Derived.Test.YtbpkkgaaeodimaaGreatDoorXAXLUBac
import Derived.Test.YtbpkkgaaeodimaaGreatDoorXG19
namespace Go.Proofs.YtbpkkgaaeodimaaGreatDoor
open Go.RowKit

/-! The statement UrlFragments. -/
/-- What the last region asks of its worlds. -/
abbrev FragS (w0 : World) (b1 b2 b3 g1 g2 g3 : Nat) (c1 c2 c3 : UrlC) (p1 p2 p3 : List (List UInt8)) (w : World) : Prop := Hid (Bel w0 w) ∧ Hid (Env w) ∧ Hid (Own w b1 9 c1.path (strs p1)) ∧ Hid (Own w b2 9 c2.path (strs p2)) ∧ Hid (Own w b3 9 c3.path (strs p3)) ∧ w.cell? ⟨g1, 0, none⟩ = some (.string c1.scheme) ∧ w.cell? ⟨g1, 1, none⟩ = some (.string c1.user) ∧ w.cell? ⟨g1, 2, none⟩ = some (.string c1.pass) ∧ w.cell? ⟨g1, 3, none⟩ = some (.string c1.host) ∧ w.cell? ⟨g1, 4, none⟩ = some (.bool c1.hasHost) ∧ w.cell? ⟨g1, 5, none⟩ = some (.int .i64 c1.port) ∧ w.cell? ⟨g1, 6, none⟩ = some (.bool c1.opaq) ∧ w.cell? ⟨g1, 7, none⟩ = some (c1.path) ∧ w.cell? ⟨g1, 8, none⟩ = some (.string c1.query) ∧ w.cell? ⟨g1, 9, none⟩ = some (.string c1.frag) ∧ w.cell? ⟨g1, 10, none⟩ = some (.bool c1.hasQuery) ∧ w.cell? ⟨g1, 11, none⟩ = some (.bool c1.hasFrag) ∧ w.cell? ⟨g2, 0, none⟩ = some (.string c2.scheme) ∧ w.cell? ⟨g2, 1, none⟩ = some (.string c2.user) ∧ w.cell? ⟨g2, 2, none⟩ = some (.string c2.pass) ∧ w.cell? ⟨g2, 3, none⟩ = some (.string c2.host) ∧ w.cell? ⟨g2, 4, none⟩ = some (.bool c2.hasHost) ∧ w.cell? ⟨g2, 5, none⟩ = some (.int .i64 c2.port) ∧ w.cell? ⟨g2, 6, none⟩ = some (.bool c2.opaq) ∧ w.cell? ⟨g2, 7, none⟩ = some (c2.path) ∧ w.cell? ⟨g2, 8, none⟩ = some (.string c2.query) ∧ w.cell? ⟨g2, 9, none⟩ = some (.string c2.frag) ∧ w.cell? ⟨g2, 10, none⟩ = some (.bool c2.hasQuery) ∧ w.cell? ⟨g2, 11, none⟩ = some (.bool c2.hasFrag) ∧ w.cell? ⟨g3, 0, none⟩ = some (.string c3.scheme) ∧ w.cell? ⟨g3, 1, none⟩ = some (.string c3.user) ∧ w.cell? ⟨g3, 2, none⟩ = some (.string c3.pass) ∧ w.cell? ⟨g3, 3, none⟩ = some (.string c3.host) ∧ w.cell? ⟨g3, 4, none⟩ = some (.bool c3.hasHost) ∧ w.cell? ⟨g3, 5, none⟩ = some (.int .i64 c3.port) ∧ w.cell? ⟨g3, 6, none⟩ = some (.bool c3.opaq) ∧ w.cell? ⟨g3, 7, none⟩ = some (c3.path) ∧ w.cell? ⟨g3, 8, none⟩ = some (.string c3.query) ∧ w.cell? ⟨g3, 9, none⟩ = some (.string c3.frag) ∧ w.cell? ⟨g3, 10, none⟩ = some (.bool c3.hasQuery) ∧ w.cell? ⟨g3, 11, none⟩ = some (.bool c3.hasFrag)
section
variable {w0 : World} {b1 b2 b3 g1 g2 g3 : Nat} {c1 c2 c3 : UrlC} {p1 p2 p3 : List (List UInt8)} {w w' : World}
theorem fragS_bel (h : FragS w0 b1 b2 b3 g1 g2 g3 c1 c2 c3 p1 p2 p3 w) (hb : Hid (Bel w w')) : FragS w0 b1 b2 b3 g1 g2 g3 c1 c2 c3 p1 p2 p3 w' := by
  obtain ⟨h0, h1, h2, h3, h4, a0, a1, a2, a3, a4, a5, a6, a7, a8, a9, a10, a11, a12, a13, a14, a15, a16, a17, a18, a19, a20, a21, a22, a23, a24, a25, a26, a27, a28, a29, a30, a31, a32, a33, a34, a35⟩ := h
  exact ⟨Lib.hid (bel_trans h0.out hb.out), Lib.hid (h1.out.bel hb.out), Lib.hid (h2.out.bel hb.out), Lib.hid (h3.out.bel hb.out), Lib.hid (h4.out.bel hb.out), bel_cell hb.out a0, bel_cell hb.out a1, bel_cell hb.out a2, bel_cell hb.out a3, bel_cell hb.out a4, bel_cell hb.out a5, bel_cell hb.out a6, bel_cell hb.out a7, bel_cell hb.out a8, bel_cell hb.out a9, bel_cell hb.out a10, bel_cell hb.out a11, bel_cell hb.out a12, bel_cell hb.out a13, bel_cell hb.out a14, bel_cell hb.out a15, bel_cell hb.out a16, bel_cell hb.out a17, bel_cell hb.out a18, bel_cell hb.out a19, bel_cell hb.out a20, bel_cell hb.out a21, bel_cell hb.out a22, bel_cell hb.out a23, bel_cell hb.out a24, bel_cell hb.out a25, bel_cell hb.out a26, bel_cell hb.out a27, bel_cell hb.out a28, bel_cell hb.out a29, bel_cell hb.out a30, bel_cell hb.out a31, bel_cell hb.out a32, bel_cell hb.out a33, bel_cell hb.out a34, bel_cell hb.out a35⟩
theorem fragS_env (h : FragS w0 b1 b2 b3 g1 g2 g3 c1 c2 c3 p1 p2 p3 w) : Hid (Env w) := h.2.1
theorem fragS_bw (h : FragS w0 b1 b2 b3 g1 g2 g3 c1 c2 c3 p1 p2 p3 w) : Hid (Bel w0 w) := h.1
theorem fragS_o1 (h : FragS w0 b1 b2 b3 g1 g2 g3 c1 c2 c3 p1 p2 p3 w) : Hid (Own w b1 9 c1.path (strs p1)) := h.2.2.1
theorem fragS_o2 (h : FragS w0 b1 b2 b3 g1 g2 g3 c1 c2 c3 p1 p2 p3 w) : Hid (Own w b2 9 c2.path (strs p2)) := h.2.2.2.1
theorem fragS_o3 (h : FragS w0 b1 b2 b3 g1 g2 g3 c1 c2 c3 p1 p2 p3 w) : Hid (Own w b3 9 c3.path (strs p3)) := h.2.2.2.2.1
theorem fragS_mk (h0 : Hid (Bel w0 w)) (h1 : Hid (Env w)) (h2 : Hid (Own w b1 9 c1.path (strs p1))) (h3 : Hid (Own w b2 9 c2.path (strs p2))) (h4 : Hid (Own w b3 9 c3.path (strs p3))) (r1 : RowAt w g1 (c1.cells ++ [])) (r2 : RowAt w g2 (c2.cells ++ [])) (r3 : RowAt w g3 (c3.cells ++ [])) : FragS w0 b1 b2 b3 g1 g2 g3 c1 c2 c3 p1 p2 p3 w := by
  obtain ⟨⟨a0, _⟩, ⟨a1, _⟩, ⟨a2, _⟩, ⟨a3, _⟩, ⟨a4, _⟩, ⟨a5, _⟩, ⟨a6, _⟩, ⟨a7, _⟩, ⟨a8, _⟩, ⟨a9, _⟩, ⟨a10, _⟩, ⟨a11, _⟩⟩ := at_row r1
  obtain ⟨⟨a12, _⟩, ⟨a13, _⟩, ⟨a14, _⟩, ⟨a15, _⟩, ⟨a16, _⟩, ⟨a17, _⟩, ⟨a18, _⟩, ⟨a19, _⟩, ⟨a20, _⟩, ⟨a21, _⟩, ⟨a22, _⟩, ⟨a23, _⟩⟩ := at_row r2
  obtain ⟨⟨a24, _⟩, ⟨a25, _⟩, ⟨a26, _⟩, ⟨a27, _⟩, ⟨a28, _⟩, ⟨a29, _⟩, ⟨a30, _⟩, ⟨a31, _⟩, ⟨a32, _⟩, ⟨a33, _⟩, ⟨a34, _⟩, ⟨a35, _⟩⟩ := at_row r3
  exact ⟨h0, h1, h2, h3, h4, a0, a1, a2, a3, a4, a5, a6, a7, a8, a9, a10, a11, a12, a13, a14, a15, a16, a17, a18, a19, a20, a21, a22, a23, a24, a25, a26, a27, a28, a29, a30, a31, a32, a33, a34, a35⟩
end
theorem true_frag {c : UrlC} (h : c.hasFrag = true) : c = { c with hasFrag := true } := by
  obtain ⟨x1, x2, x3, x4, x5, x6, x7, y1, x8, x9, x10, x11⟩ := c
  dsimp only at h
  subst h
  rfl
/-- The two ways of frag_law, hidden. -/
inductive FragR (s f : List UInt8) : Prop
  | bad (x : Int) (h1 : Hid (urlS (s ++ 35 :: f) = .error x)) (h2 : Hid (urlS (s ++ [35]) = .error x))
  | good (u v : UrlS) (h1 : Hid (urlS (s ++ 35 :: f) = .ok u)) (h2 : Hid (urlS (s ++ [35]) = .ok v)) (h3 : Hid (bareS u = bareS v)) (h4 : Hid (joinS (35 :: f) v = .ok u)) (h5 : Hid (u.hasFrag = true)) (h6 : Hid (v.hasFrag = true)) (h7 : Hid (v.frag = []))
theorem frag_r (s f : List UInt8) (hs : ∀ x ∈ s, x ≠ 35) (hl : s.length + f.length ≤ 1000) : FragR s f :=
  (frag_law s f hs hl).elim (fun h => h.elim fun x h => .bad x h.1 h.2) (fun h => h.elim fun u h => h.elim fun v h => .good u v h.1 h.2.1 h.2.2.1 h.2.2.2.1 h.2.2.2.2.1 h.2.2.2.2.2.1 h.2.2.2.2.2.2)
set_option maxHeartbeats 8000000 in
set_option maxRecDepth 100000 in
theorem law_UFra (s f : ByteArray) (w : World) (HE : Hid (Env w)) :
    Calls Tryz.prog 12 #[.string s, .string f] w fun e w' => e = .returned (.bool true) ∧ Hid (Bel w w') := by
  have HB0 : Hid (Bel w w) := Below.refl _ _
  go_enter Tryz.func12, Tryz.ntmps12
  go_wp2_with fail
  refine (keep_Few s 200 _ (by decide)).mono ?_
  rintro e w' ⟨⟨r, rfl, hr, hz, _⟩, hw⟩
  rw [← hw]
  clear hw
  go_wp2_with fail
  refine (keep_Few f 50 _ (by decide)).mono ?_
  rintro e w' ⟨⟨f1, rfl, hf, hfz, _⟩, hw⟩
  rw [← hw]
  clear hw
  go_upto_block 0 with (fail)
  go_cut [0] (fun v0 wc => ∃ t : ByteArray, v0 = .string t ∧ Hid (∀ x ∈ bl t, x ≠ 35) ∧ t.size ≤ 200 ∧ wc = w)
  case first =>
    go_wp2
    go_loopg [0, 5] r.size (fun g v0 v5 wr => ∃ k : Nat, v0 = .string r ∧ v5 = .int .i64 k ∧ k + g = r.size ∧ Hid (∀ x ∈ (bl r).take k, x ≠ 35) ∧ w = wr)
    case atStart => exact ⟨0, rfl, rfl, by omega, by unfold Hid; simp, rfl⟩
    case round =>
      obtain ⟨k, rfl, rfl, hk, HN, rfl⟩ := hrel
      by_cases hlt : k < r.size
      · have q1 : (k : Int) < r.size := by omega
        have q0 : (0 : Int) ≤ k := by omega
        have hx : ((r[k].toNat : Int) == 35) = (r[k] == 35) := u8_is r[k] 35 (by decide)
        by_cases h35 : r[k] = 35
        · have hq : ((r[k].toNat : Int) == 35) = true := by rw [hx, h35]; rfl
          have HT : Hid (∀ x ∈ bl (r.extract 0 k), x ≠ 35) := by unfold Hid; rw [bl_extract, List.drop_zero, Nat.sub_zero]; exact HN.out
          have q2 : (k : Int) ≤ r.size := by omega
          clear hx h35
          go_wp2
          go_meet
          exact ⟨r.extract 0 k, rfl, HT, by rw [ByteArray.size_extract]; omega, rfl⟩
        · have hq : ((r[k].toNat : Int) == 35) = false := by rw [hx]; simpa using h35
          have HN2 : Hid (∀ x ∈ (bl r).take (k + 1), x ≠ 35) := by
            intro x hx
            have hd : (bl r)[k]? = some r[k] := by have := bl_drop r k hlt; rw [← List.head?_drop, this]; rfl
            rw [List.take_add_one, hd, List.mem_append] at hx
            rcases hx with hx | hx
            · exact HN.out x hx
            · simp at hx; rw [hx]; exact h35
          clear hx h35
          go_wp2
          go_roundg (gk - 1)
          case measure => omega
          case rel => exact ⟨k + 1, rfl, by go_num, by omega, HN2, rfl⟩
      · have q1 : ¬ (k : Int) < r.size := by omega
        go_wp2
        go_meet
        exact ⟨r, rfl, by have h := HN.out; rw [List.take_of_length_le (by rw [bl_length]; omega)] at h; exact h, hz, rfl⟩
  case rest =>
    obtain ⟨t, rfl, HT, htz, hwc⟩ := hcut
    subst hwc
    have HFL := frag_r (bl t) (bl f1) HT.out (by rw [bl_length, bl_length]; omega)
    have hzA : (t ++ ⟨#[35]⟩ ++ f1).size ≤ 1000000 := by rw [ByteArray.size_append, ByteArray.size_append, size_one]; omega
    have hzB : (t ++ ⟨#[35]⟩).size ≤ 1000000 := by rw [ByteArray.size_append, size_one]; omega
    have HZA := Lib.hid hzA
    have HZB := Lib.hid hzB
    clear hzA hzB
    have EA : Hid (bl (t ++ ⟨#[35]⟩ ++ f1) = bl t ++ 35 :: bl f1) := by unfold Hid; rw [bl_append, bl_append, bl_one]; simp
    have EB : Hid (bl (t ++ ⟨#[35]⟩) = bl t ++ [35]) := by unfold Hid; rw [bl_append, bl_one]
    have FA := Lib.hid (url_fine (bl t ++ 35 :: bl f1))
    have FB := Lib.hid (url_fine (bl t ++ [35]))
    cases HFL with
    | bad x E1 E2 =>
      have hx : x = 3 ∨ x = 10 ∨ x = 11 ∨ x = 12 := url_err E1.out
      have hx1 : (x != 0) = true := by rw [bne_iff_ne]; omega
      have hx2 : (x == 0) = false := by rw [beq_eq_false_iff_ne]; omega
      clear hx
      have F6 : Hid (urlS (bl (t ++ ⟨#[35]⟩ ++ f1)) = .error x) := by unfold Hid; rw [EA.out]; exact E1.out
      have F8 : Hid (urlS (bl (t ++ ⟨#[35]⟩)) = .error x) := by unfold Hid; rw [EB.out]; exact E2.out
      go_wp2_with fail
      have hq := url_Parse (t ++ ⟨#[35]⟩ ++ f1) wc HZA.out HE
      refine hq.mono ?_
      clear hq
      rintro e wa6 ⟨⟨y, rfl, HV⟩, HBa⟩
      rw [F6.out] at HV ⊢
      obtain ⟨c6, p6, rfl, hc, hp⟩ := HV.out
      have HC6 : Hid (c6.flat p6 = noUrl) := hc
      have HP6 := Lib.hid hp
      have h1c6 := own_cell hp
      clear HV hc hp
      rw [show whyE (.error x) = x from rfl]
      have HBx1 := Lib.hid (bel_trans HB0.out HBa.out)
      have HEx1 := Lib.hid (HE.out.bel HBx1.out)
      have hr3 : RowAt (wa6.alloc (.cells noC.cells.toArray 24)) wa6.heap.size (noC.cells ++ []) := RowAt.new wa6 noC.cells.toArray 24
      have hb3 : Bel wa6 (wa6.alloc (.cells noC.cells.toArray 24)) := (Below.refl _ wa6).alloc (Nat.le_refl _) _
      rw [no_cells] at hr3 hb3
      have HRn := Lib.hid hr3
      have HBn := Lib.hid hb3
      clear hr3 hb3
      go_wp2_with (first | (refine store_url rfl _ _ (by exact rfl) wa6.heap.size (by exact rfl) noC c6 [] (by exact rfl) HRn.out h1c6 ?_; intro wb6 R6 HPb))
      replace HP6 := Lib.hid (own_fresh HP6.out (Nat.le_refl _) HBn.out HPb.out)
      have HBx2 : Hid (Bel wc wb6) := BelP.bel HBx1.out (fun k hk => by rw [hk]; exact HBx1.out.size) ((BelP.of _ HBn.out).trans HPb.out)
      have HEx2 := Lib.hid (HE.out.bel HBx2.out)
      clear HRn HBn HPb
      have hq := url_Parse (t ++ ⟨#[35]⟩) wb6 HZB.out HEx2
      refine hq.mono ?_
      clear hq
      rintro e wa8 ⟨⟨y, rfl, HV⟩, HBa⟩
      rw [F8.out] at HV ⊢
      obtain ⟨c8, p8, rfl, hc, hp⟩ := HV.out
      have HC8 : Hid (c8.flat p8 = noUrl) := hc
      have HP8 := Lib.hid hp
      have h1c8 := own_cell hp
      clear HV hc hp
      rw [show whyE (.error x) = x from rfl]
      have HBx3 := Lib.hid (bel_trans HBx2.out HBa.out)
      have HEx3 := Lib.hid (HE.out.bel HBx3.out)
      replace R6 := Lib.hid (R6.out.bel HBa.out)
      replace HP6 := Lib.hid (HP6.out.bel HBa.out)
      have hr3 : RowAt (wa8.alloc (.cells noC.cells.toArray 24)) wa8.heap.size (noC.cells ++ []) := RowAt.new wa8 noC.cells.toArray 24
      have hb3 : Bel wa8 (wa8.alloc (.cells noC.cells.toArray 24)) := (Below.refl _ wa8).alloc (Nat.le_refl _) _
      rw [no_cells] at hr3 hb3
      have HRn := Lib.hid hr3
      have HBn := Lib.hid hb3
      clear hr3 hb3
      go_wp2_with (first | (refine store_url rfl _ _ (by exact rfl) wa8.heap.size (by exact rfl) noC c8 [] (by exact rfl) HRn.out h1c8 ?_; intro wb8 R8 HPb))
      replace R6 := Lib.hid (BelP.row HPb.out (Nat.ne_of_lt R6.out.1) (R6.out.bel HBn.out))
      replace HP6 := Lib.hid (own_fresh HP6.out (Nat.le_refl _) HBn.out HPb.out)
      replace HP8 := Lib.hid (own_fresh HP8.out (Nat.le_refl _) HBn.out HPb.out)
      have HBx4 : Hid (Bel wc wb8) := BelP.bel HBx3.out (fun k hk => by rw [hk]; exact HBx3.out.size) ((BelP.of _ HBn.out).trans HPb.out)
      have HEx4 := Lib.hid (HE.out.bel HBx4.out)
      clear HRn HBn HPb
      refine (law3_known wb8 HEx4).mono ?_
      rintro e wz ⟨rfl, HBc⟩
      have HBx5 := Lib.hid (bel_trans HBx4.out HBc.out)
      have HEx5 := Lib.hid (HE.out.bel HBx5.out)
      replace R6 := Lib.hid (R6.out.bel HBc.out)
      replace R8 := Lib.hid (R8.out.bel HBc.out)
      replace HP6 := Lib.hid (HP6.out.bel HBc.out)
      replace HP8 := Lib.hid (HP8.out.bel HBc.out)
      go_wp2
      go_ret
      exact ⟨rfl, HBx5⟩
    | good u v E1 E2 HBA HJO HHU HHV HVF =>
      have F6 : Hid (urlS (bl (t ++ ⟨#[35]⟩ ++ f1)) = .ok u) := by unfold Hid; rw [EA.out]; exact E1.out
      have F8 : Hid (urlS (bl (t ++ ⟨#[35]⟩)) = .ok v) := by unfold Hid; rw [EB.out]; exact E2.out
      go_wp2_with fail
      have hq := url_Parse (t ++ ⟨#[35]⟩ ++ f1) wc HZA.out HE
      refine hq.mono ?_
      clear hq
      rintro e wa6 ⟨⟨y, rfl, HV⟩, HBa⟩
      rw [F6.out] at HV ⊢
      obtain ⟨c6, p6, rfl, hc, hp⟩ := HV.out
      have HC6 : Hid (c6.flat p6 = u) := hc
      have HP6 := Lib.hid hp
      have h1c6 := own_cell hp
      clear HV hc hp
      rw [show whyE (.ok u) = 0 from rfl]
      have HBx1 := Lib.hid (bel_trans HB0.out HBa.out)
      have HEx1 := Lib.hid (HE.out.bel HBx1.out)
      have hr3 : RowAt (wa6.alloc (.cells noC.cells.toArray 24)) wa6.heap.size (noC.cells ++ []) := RowAt.new wa6 noC.cells.toArray 24
      have hb3 : Bel wa6 (wa6.alloc (.cells noC.cells.toArray 24)) := (Below.refl _ wa6).alloc (Nat.le_refl _) _
      rw [no_cells] at hr3 hb3
      have HRn := Lib.hid hr3
      have HBn := Lib.hid hb3
      clear hr3 hb3
      go_wp2_with (first | (refine store_url rfl _ _ (by exact rfl) wa6.heap.size (by exact rfl) noC c6 [] (by exact rfl) HRn.out h1c6 ?_; intro wb6 R6 HPb))
      replace HP6 := Lib.hid (own_fresh HP6.out (Nat.le_refl _) HBn.out HPb.out)
      have HBx2 : Hid (Bel wc wb6) := BelP.bel HBx1.out (fun k hk => by rw [hk]; exact HBx1.out.size) ((BelP.of _ HBn.out).trans HPb.out)
      have HEx2 := Lib.hid (HE.out.bel HBx2.out)
      clear HRn HBn HPb
      have hq := url_Parse (t ++ ⟨#[35]⟩) wb6 HZB.out HEx2
      refine hq.mono ?_
      clear hq
      rintro e wa8 ⟨⟨y, rfl, HV⟩, HBa⟩
      rw [F8.out] at HV ⊢
      obtain ⟨c8, p8, rfl, hc, hp⟩ := HV.out
      have HC8 : Hid (c8.flat p8 = v) := hc
      have HP8 := Lib.hid hp
      have h1c8 := own_cell hp
      clear HV hc hp
      rw [show whyE (.ok v) = 0 from rfl]
      have HBx3 := Lib.hid (bel_trans HBx2.out HBa.out)
      have HEx3 := Lib.hid (HE.out.bel HBx3.out)
      replace R6 := Lib.hid (R6.out.bel HBa.out)
      replace HP6 := Lib.hid (HP6.out.bel HBa.out)
      have hr3 : RowAt (wa8.alloc (.cells noC.cells.toArray 24)) wa8.heap.size (noC.cells ++ []) := RowAt.new wa8 noC.cells.toArray 24
      have hb3 : Bel wa8 (wa8.alloc (.cells noC.cells.toArray 24)) := (Below.refl _ wa8).alloc (Nat.le_refl _) _
      rw [no_cells] at hr3 hb3
      have HRn := Lib.hid hr3
      have HBn := Lib.hid hb3
      clear hr3 hb3
      go_wp2_with (first | (refine store_url rfl _ _ (by exact rfl) wa8.heap.size (by exact rfl) noC c8 [] (by exact rfl) HRn.out h1c8 ?_; intro wb8 R8 HPb; obtain ⟨⟨k0, _⟩, ⟨k1, _⟩, ⟨k2, _⟩, ⟨k3, _⟩, ⟨k4, _⟩, ⟨k5, _⟩, ⟨k6, _⟩, ⟨k7, _⟩, ⟨k8, _⟩, ⟨k9, _⟩, ⟨k10, _⟩, ⟨k11, _⟩⟩ := at_row R8.out))
      replace R6 := Lib.hid (BelP.row HPb.out (Nat.ne_of_lt R6.out.1) (R6.out.bel HBn.out))
      replace HP6 := Lib.hid (own_fresh HP6.out (Nat.le_refl _) HBn.out HPb.out)
      replace HP8 := Lib.hid (own_fresh HP8.out (Nat.le_refl _) HBn.out HPb.out)
      have HBx4 : Hid (Bel wc wb8) := BelP.bel HBx3.out (fun k hk => by rw [hk]; exact HBx3.out.size) ((BelP.of _ HBn.out).trans HPb.out)
      have HEx4 := Lib.hid (HE.out.bel HBx4.out)
      clear HRn HBn HPb
      clear k0 k1 k2 k3 k4 k5 k6 k7 k8 k9 k10 k11
      rw [E1.out] at FA
      rw [E2.out] at FB
      have hpl8 : p8.length ≤ 1000000 := by
        have h1 := FB.out.1; have h2 := plen_ge p8; have h3 : okU (.ok v) = c8.flat p8 := HC8.out.symm
        rw [h3] at h1
        unfold slen UrlC.flat at h1; simp only [] at h1; omega
      have hzJ : ((⟨#[35]⟩ : ByteArray) ++ f1).size ≤ 1000000 := by rw [ByteArray.size_append, size_one]; omega
      have EJ : Hid (joinS (bl ((⟨#[35]⟩ : ByteArray) ++ f1)) (c8.flat p8) = .ok u) := by unfold Hid; rw [bl_append, bl_one, HC8.out]; exact HJO.out
      have hq := url_Join ((⟨#[35]⟩ : ByteArray) ++ f1) c8 p8 _ wb8 hzJ hpl8 HEx4 HP8
      refine hq.mono ?_
      clear hq
      rintro e wa10 ⟨⟨y, rfl, HV⟩, HBa⟩
      rw [EJ.out] at HV ⊢
      obtain ⟨c10, p10, rfl, hc, hp⟩ := HV.out
      have HC10 : Hid (c10.flat p10 = u) := hc
      have HP10 := Lib.hid hp
      have h1c10 := own_cell hp
      clear HV hc hp hzJ
      rw [show whyE (.ok u) = 0 from rfl]
      have HBx5 := Lib.hid (bel_trans HBx4.out HBa.out)
      have HEx5 := Lib.hid (HE.out.bel HBx5.out)
      replace R6 := Lib.hid (R6.out.bel HBa.out)
      replace R8 := Lib.hid (R8.out.bel HBa.out)
      replace HP6 := Lib.hid (HP6.out.bel HBa.out)
      replace HP8 := Lib.hid (HP8.out.bel HBa.out)
      have hr3 : RowAt (wa10.alloc (.cells noC.cells.toArray 24)) wa10.heap.size (noC.cells ++ []) := RowAt.new wa10 noC.cells.toArray 24
      have hb3 : Bel wa10 (wa10.alloc (.cells noC.cells.toArray 24)) := (Below.refl _ wa10).alloc (Nat.le_refl _) _
      rw [no_cells] at hr3 hb3
      have HRn := Lib.hid hr3
      have HBn := Lib.hid hb3
      clear hr3 hb3
      go_upto_region 13 with (first | (refine store_url rfl _ _ (by exact rfl) wa10.heap.size (by exact rfl) noC c10 [] (by exact rfl) HRn.out h1c10 ?_; intro wb10 R10 HPb))
      replace R6 := Lib.hid (BelP.row HPb.out (Nat.ne_of_lt R6.out.1) (R6.out.bel HBn.out))
      replace R8 := Lib.hid (BelP.row HPb.out (Nat.ne_of_lt R8.out.1) (R8.out.bel HBn.out))
      replace HP6 := Lib.hid (own_fresh HP6.out (Nat.le_refl _) HBn.out HPb.out)
      replace HP8 := Lib.hid (own_fresh HP8.out (Nat.le_refl _) HBn.out HPb.out)
      replace HP10 := Lib.hid (own_fresh HP10.out (Nat.le_refl _) HBn.out HPb.out)
      have HBx6 : Hid (Bel wc wb10) := BelP.bel HBx5.out (fun k hk => by rw [hk]; exact HBx5.out.size) ((BelP.of _ HBn.out).trans HPb.out)
      have HEx6 := Lib.hid (HE.out.bel HBx6.out)
      clear HRn HBn HPb
      have h6 : c6.hasFrag = true := (congrArg UrlS.hasFrag HC6.out).trans HHU.out
      have h8 : c8.hasFrag = true := (congrArg UrlS.hasFrag HC8.out).trans HHV.out
      have T6 := true_frag h6
      have T8 := true_frag h8
      have R6b : RowAt wb10 wa6.heap.size (({ c6 with hasFrag := true } : UrlC).cells ++ []) := by rw [← T6]; exact R6.out
      have R8b : RowAt wb10 wa8.heap.size (({ c8 with hasFrag := true } : UrlC).cells ++ []) := by rw [← T8]; exact R8.out
      have HC6b : Hid (({ c6 with hasFrag := true } : UrlC).flat p6 = u) := by unfold Hid; rw [← T6]; exact HC6.out
      have HC8b : Hid (({ c8 with hasFrag := true } : UrlC).flat p8 = v) := by unfold Hid; rw [← T8]; exact HC8.out
      clear h6 h8 T6 T8
      have htl : c8.frag.toList.isEmpty = true := by rw [toList_bl, show bl c8.frag = v.frag from congrArg UrlS.frag HC8.out, HVF.out]; rfl
      have hpl10 : p10.length ≤ 1000000 := by
        have h1 := FA.out.1; have h2 := plen_ge p10; have h3 : okU (.ok u) = c10.flat p10 := HC10.out.symm
        rw [h3] at h1
        unfold slen UrlC.flat at h1; simp only [] at h1; omega
      have HZ6 : Hid (Small ({ c6 with hasFrag := true } : UrlC) p6) := Fine.small (n := 12334) (by rw [HC6b.out]; exact FA.out) (by decide)
      have HZ8 : Hid (Small ({ c8 with hasFrag := true } : UrlC) p8) := Fine.small (n := 12334) (by rw [HC8b.out]; exact FB.out) (by decide)
      have hw := fragS_mk (c1 := ({ c6 with hasFrag := true } : UrlC)) (c2 := ({ c8 with hasFrag := true } : UrlC)) (c3 := c10) HBx6 HEx6 HP6 HP8 HP10 R6b R8b R10.out
      clear R6b R8b
      obtain ⟨TT, hTT⟩ : ∃ TT : ByteArray, (⟨(bareS u).toArray⟩ : ByteArray) = TT := ⟨_, rfl⟩
      have HQB : Hid (∀ (W : World) (X : Array Value), FragS wc wc.heap.size wb6.heap.size wb8.heap.size wa6.heap.size wa8.heap.size wa10.heap.size ({ c6 with hasFrag := true } : UrlC) ({ c8 with hasFrag := true } : UrlC) c10 p6 p8 p10 W → (X = #[.string c6.scheme, .string c6.user, .string c6.pass, .string c6.host, .bool c6.hasHost, .int .i64 c6.port, .bool c6.opaq, c6.path, .string c6.query, .string c6.frag, .bool c6.hasQuery, .bool true] ∨ X = #[.string c8.scheme, .string c8.user, .string c8.pass, .string c8.host, .bool c8.hasHost, .int .i64 c8.port, .bool c8.opaq, c8.path, .string c8.query, .string c8.frag, .bool c8.hasQuery, .bool true]) → Calls Tryz.prog 34 #[.agg X] W fun e w9 => e = .returned (.string TT) ∧ Hid (Bel W w9)) := by
        intro W X hS hX
        rw [← hTT]
        rcases hX with rfl | rfl
        · exact bare_fix ({ c6 with hasFrag := true } : UrlC) p6 wc.heap.size W (fragS_o1 hS) (fragS_env hS) HZ6 (bareS u) (by rw [HC6b.out])
        · exact bare_fix ({ c8 with hasFrag := true } : UrlC) p8 wb6.heap.size W (fragS_o2 hS) (fragS_env hS) HZ8 (bareS u) (by rw [HC8b.out, HBA.out])
      have HQS : Hid (∀ (W : World) (X Y : Array Value), FragS wc wc.heap.size wb6.heap.size wb8.heap.size wa6.heap.size wa8.heap.size wa10.heap.size ({ c6 with hasFrag := true } : UrlC) ({ c8 with hasFrag := true } : UrlC) c10 p6 p8 p10 W → X = #[.string c10.scheme, .string c10.user, .string c10.pass, .string c10.host, .bool c10.hasHost, .int .i64 c10.port, .bool c10.opaq, c10.path, .string c10.query, .string c10.frag, .bool c10.hasQuery, .bool c10.hasFrag] → Y = #[.string c6.scheme, .string c6.user, .string c6.pass, .string c6.host, .bool c6.hasHost, .int .i64 c6.port, .bool c6.opaq, c6.path, .string c6.query, .string c6.frag, .bool c6.hasQuery, .bool true] → Calls Tryz.prog 32 #[.agg X, .agg Y] W fun e w9 => e = .returned (.bool true) ∧ Hid (Bel W w9)) := by
        intro W X Y hS hX hY
        subst hX hY
        exact keep_SameURL c10 ({ c6 with hasFrag := true } : UrlC) p10 p6 W (HC10.out.trans HC6b.out.symm) hpl10 (Lib.hid (ReadP.of (fragS_o3 hS).out)) (Lib.hid (ReadP.of (fragS_o1 hS).out))
      clear hTT hpl8 hpl10
      go_region_held3 (fun w' => Hid (Bel wc w') ∧ Hid (Env w') ∧ Hid (Own w' wc.heap.size 9 c6.path (strs p6)) ∧ Hid (Own w' wb6.heap.size 9 c8.path (strs p8)) ∧ Hid (Own w' wb8.heap.size 9 c10.path (strs p10)) ∧ w'.cell? ⟨wa6.heap.size, 0, none⟩ = some (.string c6.scheme) ∧ w'.cell? ⟨wa6.heap.size, 1, none⟩ = some (.string c6.user) ∧ w'.cell? ⟨wa6.heap.size, 2, none⟩ = some (.string c6.pass) ∧ w'.cell? ⟨wa6.heap.size, 3, none⟩ = some (.string c6.host) ∧ w'.cell? ⟨wa6.heap.size, 4, none⟩ = some (.bool c6.hasHost) ∧ w'.cell? ⟨wa6.heap.size, 5, none⟩ = some (.int .i64 c6.port) ∧ w'.cell? ⟨wa6.heap.size, 6, none⟩ = some (.bool c6.opaq) ∧ w'.cell? ⟨wa6.heap.size, 7, none⟩ = some (c6.path) ∧ w'.cell? ⟨wa6.heap.size, 8, none⟩ = some (.string c6.query) ∧ w'.cell? ⟨wa6.heap.size, 9, none⟩ = some (.string c6.frag) ∧ w'.cell? ⟨wa6.heap.size, 10, none⟩ = some (.bool c6.hasQuery) ∧ w'.cell? ⟨wa6.heap.size, 11, none⟩ = some (.bool true) ∧ w'.cell? ⟨wa8.heap.size, 0, none⟩ = some (.string c8.scheme) ∧ w'.cell? ⟨wa8.heap.size, 1, none⟩ = some (.string c8.user) ∧ w'.cell? ⟨wa8.heap.size, 2, none⟩ = some (.string c8.pass) ∧ w'.cell? ⟨wa8.heap.size, 3, none⟩ = some (.string c8.host) ∧ w'.cell? ⟨wa8.heap.size, 4, none⟩ = some (.bool c8.hasHost) ∧ w'.cell? ⟨wa8.heap.size, 5, none⟩ = some (.int .i64 c8.port) ∧ w'.cell? ⟨wa8.heap.size, 6, none⟩ = some (.bool c8.opaq) ∧ w'.cell? ⟨wa8.heap.size, 7, none⟩ = some (c8.path) ∧ w'.cell? ⟨wa8.heap.size, 8, none⟩ = some (.string c8.query) ∧ w'.cell? ⟨wa8.heap.size, 9, none⟩ = some (.string c8.frag) ∧ w'.cell? ⟨wa8.heap.size, 10, none⟩ = some (.bool c8.hasQuery) ∧ w'.cell? ⟨wa8.heap.size, 11, none⟩ = some (.bool true) ∧ w'.cell? ⟨wa10.heap.size, 0, none⟩ = some (.string c10.scheme) ∧ w'.cell? ⟨wa10.heap.size, 1, none⟩ = some (.string c10.user) ∧ w'.cell? ⟨wa10.heap.size, 2, none⟩ = some (.string c10.pass) ∧ w'.cell? ⟨wa10.heap.size, 3, none⟩ = some (.string c10.host) ∧ w'.cell? ⟨wa10.heap.size, 4, none⟩ = some (.bool c10.hasHost) ∧ w'.cell? ⟨wa10.heap.size, 5, none⟩ = some (.int .i64 c10.port) ∧ w'.cell? ⟨wa10.heap.size, 6, none⟩ = some (.bool c10.opaq) ∧ w'.cell? ⟨wa10.heap.size, 7, none⟩ = some (c10.path) ∧ w'.cell? ⟨wa10.heap.size, 8, none⟩ = some (.string c10.query) ∧ w'.cell? ⟨wa10.heap.size, 9, none⟩ = some (.string c10.frag) ∧ w'.cell? ⟨wa10.heap.size, 10, none⟩ = some (.bool c10.hasQuery) ∧ w'.cell? ⟨wa10.heap.size, 11, none⟩ = some (.bool c10.hasFrag)) ((first | exact fragS_bel hw (bel_drew _) | assumption | exact fragS_bel (c1 := ({ c6 with hasFrag := true } : UrlC)) (c2 := ({ c8 with hasFrag := true } : UrlC)) (c3 := c10) (by assumption) (by assumption)))
        (first | ((go_at_call 34; go_must (refine (HQB.out _ _ (by assumption) (by first | (left; with_reducible rfl) | (right; with_reducible rfl))).mono ?_); rintro e w6 ⟨rfl, HB6⟩)) | ((go_at_call 32; go_must (refine (HQS.out _ _ _ (by assumption) (by with_reducible rfl) (by with_reducible rfl)).mono ?_); rintro e w8 ⟨rfl, HB8⟩)) | ((go_at_call 28; go_must (refine (law3_known _ (show Hid (Env _) from And.left (And.right (by assumption : FragS wc wc.heap.size wb6.heap.size wb8.heap.size wa6.heap.size wa8.heap.size wa10.heap.size ({ c6 with hasFrag := true } : UrlC) ({ c8 with hasFrag := true } : UrlC) c10 p6 p8 p10 _)))).mono ?_); rintro e w5 ⟨rfl, HB9⟩)))
      all_goals (go_wp2; go_ret; exact ⟨rfl, fragS_bw (b1 := wc.heap.size) (b2 := wb6.heap.size) (b3 := wb8.heap.size) (g1 := wa6.heap.size) (g2 := wa8.heap.size) (g3 := wa10.heap.size) (c1 := ({ c6 with hasFrag := true } : UrlC)) (c2 := ({ c8 with hasFrag := true } : UrlC)) (c3 := c10) (p1 := p6) (p2 := p8) (p3 := p10) (by assumption)⟩)
end Go.Proofs.YtbpkkgaaeodimaaGreatDoor
