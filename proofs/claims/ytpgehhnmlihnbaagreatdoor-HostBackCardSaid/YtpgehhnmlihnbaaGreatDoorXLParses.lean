import Derived.Test.YtpgehhnmlihnbaaGreatDoorXEq8
namespace Go.Proofs.YtpgehhnmlihnbaaGreatDoor
open Go.RowKit

theorem u16_row {w : World} {g : Nat} {l : List Nat} {t : TypeId} (h : w.heap[g]? = some (.cells (u16s l).toArray t (0, 0))) {k x : Nat} (hx : l[k]? = some x) : w.cell? ⟨g, k, none⟩ = some (.int .u16 x) := by
  rw [cell_of_row w g k _ _ _ h]
  simp [u16s, hx]
theorem heap_bel {w w1 : World} {g : Nat} {o : Obj} (hb : Hid (Bel w w1)) (h : Hid (w.heap[g]? = some o)) : Hid (w1.heap[g]? = some o) := by
  obtain ⟨_, _, _, _, hk⟩ := hb.out
  exact (hk g (Array.getElem?_eq_some_iff.1 h.out).1).trans h.out
set_option maxHeartbeats 4000000 in
set_option maxRecDepth 100000 in
theorem law_Parses (s0 : ByteArray) (sp : Bool) (w : World) (HE : Hid (Env w)) :
    Calls Tryz.prog 4 #[.string s0, .bool sp] w fun e w' => e = .returned (.bool true) ∧ Hid (Bel w w') := by
  go_enter Tryz.func4, Tryz.ntmps4
  go_wp2_with fail
  refine (keep_Few s0 500 _ (by omega)).mono ?_
  rintro e w1 ⟨⟨s, rfl, _, hs⟩, rfl⟩
  have hs6 : s.size ≤ 1000000 := by omega
  go_wp2_with fail
  refine (host_Parse s sp _ hs6 HE).mono ?_
  rintro e w1 ⟨⟨t, rfl, ht⟩, HB1⟩
  have HE1 := Lib.hid (HE.out.bel HB1.out)
  go_wp2_with fail
  refine (ref2_Parse s sp _ hs6 HE1).mono ?_
  rintro e w2 ⟨⟨u, rfl, hu⟩, HB2⟩
  have HE2 := Lib.hid (HE1.out.bel HB2.out)
  have HB3 := Lib.hid (bel_trans HB1.out HB2.out)
  have hq := same_text ht hu
  go_wp2_with fail
  refine (host_Four s _ hs6 HE2).mono ?_
  rintro e w3 ⟨rfl, HB4⟩
  have HE3 := Lib.hid (HE2.out.bel HB4.out)
  have HB5 := Lib.hid (bel_trans HB3.out HB4.out)
  go_wp2_with fail
  refine (ref2_Four s _ hs6 HE3).mono ?_
  rintro e w4 ⟨rfl, HB6⟩
  have HE4 := Lib.hid (HE3.out.bel HB6.out)
  have HB7 := Lib.hid (bel_trans HB5.out HB6.out)
  go_wp2_with fail
  refine (host_Six s _ hs6 HE4).mono ?_
  rintro e w5 ⟨rfl, HB8⟩
  have HE5 := Lib.hid (HE4.out.bel HB8.out)
  have HB9 := Lib.hid (bel_trans HB7.out HB8.out)
  obtain ⟨xs, hxs⟩ : ∃ xs, (sixS (bl s)).getD zeros8 = xs := ⟨_, rfl⟩
  have H8 : Hid (xs.length = 8) := by
    unfold Hid; rw [← hxs]
    cases h : sixS (bl s) with
    | none => rfl
    | some y => exact (six_shape h).1
  have hV : sixV (sixS (bl s)) = .agg (u16s xs).toArray := by unfold sixV; rw [hxs]
  have HZ : Hid (sixS (bl s) = none → xs = zeros8) := fun h => by rw [← hxs, h]; rfl
  rw [hV]
  clear hxs
  have HB10 : Hid (Bel w5 (w5.alloc zeroCells)) := (Below.refl _ w5).alloc (Nat.le_refl _) _
  go_wp2_with (first | (refine store8 (w0 := w5) w5.heap.size rfl _ _ (by exact rfl) w5.heap.size (by exact rfl) xs zeros8 H8.out rfl (by exact rfl) (alloc_at w5 zeroCells) HB10 (Nat.le_refl _) ?_; intro w6 HK1 HB11))
  have HB12 := Lib.hid (bel_trans HB9.out HB11.out)
  have HE6 := Lib.hid (HE5.out.bel HB11.out)
  refine (ref2_Six s _ hs6).mono ?_
  rintro e w7 ⟨rfl, HB13⟩
  rw [hV]
  have HE7 := Lib.hid (HE6.out.bel HB13.out)
  have HB14 := Lib.hid (bel_trans HB12.out HB13.out)
  obtain ⟨g1, hg1⟩ : ∃ g1, w5.heap.size = g1 := ⟨_, rfl⟩
  rw [hg1] at HK1
  have HK2 : Hid (w7.heap[g1]? = some (Obj.cells (u16s xs).toArray 27)) := heap_bel HB13 HK1
  have HB15 : Hid (Bel w7 (w7.alloc zeroCells)) := (Below.refl _ w7).alloc (Nat.le_refl _) _
  rw [hg1]
  clear hg1 hV
  cases hf : fourS (bl s) with
  | none =>
    have HF := Lib.hid hf
    clear hf
    rw [show fourV none = 0 from rfl, show errn none 10 = 10 from rfl, show (none : Option Int).isSome = false from rfl]
    cases h6 : sixS (bl s) with
    | none =>
      rw [show errSix none = 10 from rfl, show (none : Option (List Nat)).isSome = false from rfl]
      have HZ2 := Lib.hid (HZ.out h6)
      clear h6 HZ
      go_wp2_with (first | (refine store8 (w0 := w7) w7.heap.size rfl _ _ (by exact rfl) w7.heap.size (by exact rfl) xs zeros8 H8.out rfl (by exact rfl) (alloc_at w7 zeroCells) HB15 (Nat.le_refl _) ?_; intro w8 HK3 HB16) | (refine build8 rfl (by exact rfl) ?_) | (refine store8 (w0 := w7) w7.heap.size rfl _ _ (by exact rfl) w7.heap.size (by exact rfl) zeros8 xs rfl H8.out (by exact rfl) HK3.out HB16 (Nat.le_refl _) ?_; intro w80 HK30 HB160))
      rw [← HZ2.out] at HK30
      clear HK3 HB16 HZ2
      have HK3 := HK30
      have HB16 := HB160
      clear HK30 HB160 w8
      obtain ⟨w8, hw8⟩ : ∃ x, x = w80 := ⟨_, rfl⟩
      rw [← hw8] at HK3 HB16 ⊢
      clear hw8
      have HE8 := Lib.hid (HE7.out.bel HB16.out)
      have HK4 : Hid (w8.heap[g1]? = some (Obj.cells (u16s xs).toArray 27)) := heap_bel HB16 HK2
      obtain ⟨g2, hg2⟩ : ∃ g2, w7.heap.size = g2 := ⟨_, rfl⟩
      rw [hg2] at HK3 ⊢
      clear hg2
      refine (law2_told _ _ _ (errO_is _)).mono ?_
      rintro e w9 ⟨rfl, rfl⟩
      obtain ⟨x0, x1, x2, x3, x4, x5, x6, x7, rfl⟩ := eight H8.out
      have cg0 := u16_row HK4.out (k := 0) rfl
      have cg1 := u16_row HK4.out (k := 1) rfl
      have cg2 := u16_row HK4.out (k := 2) rfl
      have cg3 := u16_row HK4.out (k := 3) rfl
      have cg4 := u16_row HK4.out (k := 4) rfl
      have cg5 := u16_row HK4.out (k := 5) rfl
      have cg6 := u16_row HK4.out (k := 6) rfl
      have cg7 := u16_row HK4.out (k := 7) rfl
      have ch0 := u16_row HK3.out (k := 0) rfl
      have ch1 := u16_row HK3.out (k := 1) rfl
      have ch2 := u16_row HK3.out (k := 2) rfl
      have ch3 := u16_row HK3.out (k := 3) rfl
      have ch4 := u16_row HK3.out (k := 4) rfl
      have ch5 := u16_row HK3.out (k := 5) rfl
      have ch6 := u16_row HK3.out (k := 6) rfl
      have ch7 := u16_row HK3.out (k := 7) rfl
      have he8 := eq8 x0 x1 x2 x3 x4 x5 x6 x7 w8
      go_wp2_with (first | (go_at_call 22; go_must (refine (law2_told _ _ _ (by rfl)).mono ?_); rintro e w' ⟨rfl, rfl⟩) | (go_at_call 15; go_must (refine (host_Numbered s _ hs6 HE8).mono ?_); rintro e w9 ⟨rfl, HB17⟩; have HE9 := Lib.hid (HE8.out.bel HB17.out)) | (go_at_call 23; go_must (refine (ref2_Numbered s _ hs6 HE9).mono ?_); rintro e w10 ⟨rfl, HB18⟩; have HE10 := Lib.hid (HE9.out.bel HB18.out)) | (go_at_call 16; go_must (refine (law2_known _ HE10).mono ?_); rintro e w11 ⟨rfl, HB19⟩))
      go_ret
      exact ⟨rfl, bel_trans HB14.out (bel_trans HB16.out (bel_trans HB17.out (bel_trans HB18.out HB19.out)))⟩
    | some ys =>
      rw [show errSix (some ys) = 0 from rfl, show (some ys).isSome = true from rfl]
      clear h6 HZ
      go_wp2_with (first | (refine store8 (w0 := w7) w7.heap.size rfl _ _ (by exact rfl) w7.heap.size (by exact rfl) xs zeros8 H8.out rfl (by exact rfl) (alloc_at w7 zeroCells) HB15 (Nat.le_refl _) ?_; intro w8 HK3 HB16))
      have HE8 := Lib.hid (HE7.out.bel HB16.out)
      have HK4 : Hid (w8.heap[g1]? = some (Obj.cells (u16s xs).toArray 27)) := heap_bel HB16 HK2
      obtain ⟨g2, hg2⟩ : ∃ g2, w7.heap.size = g2 := ⟨_, rfl⟩
      rw [hg2] at HK3 ⊢
      clear hg2
      refine (law2_told _ _ _ (errO_is _)).mono ?_
      rintro e w9 ⟨rfl, rfl⟩
      obtain ⟨x0, x1, x2, x3, x4, x5, x6, x7, rfl⟩ := eight H8.out
      have cg0 := u16_row HK4.out (k := 0) rfl
      have cg1 := u16_row HK4.out (k := 1) rfl
      have cg2 := u16_row HK4.out (k := 2) rfl
      have cg3 := u16_row HK4.out (k := 3) rfl
      have cg4 := u16_row HK4.out (k := 4) rfl
      have cg5 := u16_row HK4.out (k := 5) rfl
      have cg6 := u16_row HK4.out (k := 6) rfl
      have cg7 := u16_row HK4.out (k := 7) rfl
      have ch0 := u16_row HK3.out (k := 0) rfl
      have ch1 := u16_row HK3.out (k := 1) rfl
      have ch2 := u16_row HK3.out (k := 2) rfl
      have ch3 := u16_row HK3.out (k := 3) rfl
      have ch4 := u16_row HK3.out (k := 4) rfl
      have ch5 := u16_row HK3.out (k := 5) rfl
      have ch6 := u16_row HK3.out (k := 6) rfl
      have ch7 := u16_row HK3.out (k := 7) rfl
      have he8 := eq8 x0 x1 x2 x3 x4 x5 x6 x7 w8
      go_wp2_with (first | (go_at_call 22; go_must (refine (law2_told _ _ _ (by rfl)).mono ?_); rintro e w' ⟨rfl, rfl⟩) | (go_at_call 15; go_must (refine (host_Numbered s _ hs6 HE8).mono ?_); rintro e w9 ⟨rfl, HB17⟩; have HE9 := Lib.hid (HE8.out.bel HB17.out)) | (go_at_call 23; go_must (refine (ref2_Numbered s _ hs6 HE9).mono ?_); rintro e w10 ⟨rfl, HB18⟩; have HE10 := Lib.hid (HE9.out.bel HB18.out)) | (go_at_call 16; go_must (refine (law2_known _ HE10).mono ?_); rintro e w11 ⟨rfl, HB19⟩))
      go_ret
      exact ⟨rfl, bel_trans HB14.out (bel_trans HB16.out (bel_trans HB17.out (bel_trans HB18.out HB19.out)))⟩
  | some n =>
    have HF := Lib.hid hf
    clear hf
    rw [show fourV (some n) = n from rfl, show errn (some n) 10 = 0 from rfl, show (some n).isSome = true from rfl]
    cases h6 : sixS (bl s) with
    | none =>
      rw [show errSix none = 10 from rfl, show (none : Option (List Nat)).isSome = false from rfl]
      have HZ2 := Lib.hid (HZ.out h6)
      clear h6 HZ
      go_wp2_with (first | (refine store8 (w0 := w7) w7.heap.size rfl _ _ (by exact rfl) w7.heap.size (by exact rfl) xs zeros8 H8.out rfl (by exact rfl) (alloc_at w7 zeroCells) HB15 (Nat.le_refl _) ?_; intro w8 HK3 HB16) | (refine build8 rfl (by exact rfl) ?_) | (refine store8 (w0 := w7) w7.heap.size rfl _ _ (by exact rfl) w7.heap.size (by exact rfl) zeros8 xs rfl H8.out (by exact rfl) HK3.out HB16 (Nat.le_refl _) ?_; intro w80 HK30 HB160))
      rw [← HZ2.out] at HK30
      clear HK3 HB16 HZ2
      have HK3 := HK30
      have HB16 := HB160
      clear HK30 HB160 w8
      obtain ⟨w8, hw8⟩ : ∃ x, x = w80 := ⟨_, rfl⟩
      rw [← hw8] at HK3 HB16 ⊢
      clear hw8
      have HE8 := Lib.hid (HE7.out.bel HB16.out)
      have HK4 : Hid (w8.heap[g1]? = some (Obj.cells (u16s xs).toArray 27)) := heap_bel HB16 HK2
      obtain ⟨g2, hg2⟩ : ∃ g2, w7.heap.size = g2 := ⟨_, rfl⟩
      rw [hg2] at HK3 ⊢
      clear hg2
      refine (law2_told _ _ _ (errO_is _)).mono ?_
      rintro e w9 ⟨rfl, rfl⟩
      obtain ⟨x0, x1, x2, x3, x4, x5, x6, x7, rfl⟩ := eight H8.out
      have cg0 := u16_row HK4.out (k := 0) rfl
      have cg1 := u16_row HK4.out (k := 1) rfl
      have cg2 := u16_row HK4.out (k := 2) rfl
      have cg3 := u16_row HK4.out (k := 3) rfl
      have cg4 := u16_row HK4.out (k := 4) rfl
      have cg5 := u16_row HK4.out (k := 5) rfl
      have cg6 := u16_row HK4.out (k := 6) rfl
      have cg7 := u16_row HK4.out (k := 7) rfl
      have ch0 := u16_row HK3.out (k := 0) rfl
      have ch1 := u16_row HK3.out (k := 1) rfl
      have ch2 := u16_row HK3.out (k := 2) rfl
      have ch3 := u16_row HK3.out (k := 3) rfl
      have ch4 := u16_row HK3.out (k := 4) rfl
      have ch5 := u16_row HK3.out (k := 5) rfl
      have ch6 := u16_row HK3.out (k := 6) rfl
      have ch7 := u16_row HK3.out (k := 7) rfl
      have he8 := eq8 x0 x1 x2 x3 x4 x5 x6 x7 w8
      go_wp2_with (first | (go_at_call 22; go_must (refine (law2_told _ _ _ (by rfl)).mono ?_); rintro e w' ⟨rfl, rfl⟩) | (go_at_call 15; go_must (refine (host_Numbered s _ hs6 HE8).mono ?_); rintro e w9 ⟨rfl, HB17⟩; have HE9 := Lib.hid (HE8.out.bel HB17.out)) | (go_at_call 23; go_must (refine (ref2_Numbered s _ hs6 HE9).mono ?_); rintro e w10 ⟨rfl, HB18⟩; have HE10 := Lib.hid (HE9.out.bel HB18.out)) | (go_at_call 16; go_must (refine (law2_known _ HE10).mono ?_); rintro e w11 ⟨rfl, HB19⟩))
      go_ret
      exact ⟨rfl, bel_trans HB14.out (bel_trans HB16.out (bel_trans HB17.out (bel_trans HB18.out HB19.out)))⟩
    | some ys =>
      rw [show errSix (some ys) = 0 from rfl, show (some ys).isSome = true from rfl]
      clear h6 HZ
      go_wp2_with (first | (refine store8 (w0 := w7) w7.heap.size rfl _ _ (by exact rfl) w7.heap.size (by exact rfl) xs zeros8 H8.out rfl (by exact rfl) (alloc_at w7 zeroCells) HB15 (Nat.le_refl _) ?_; intro w8 HK3 HB16))
      have HE8 := Lib.hid (HE7.out.bel HB16.out)
      have HK4 : Hid (w8.heap[g1]? = some (Obj.cells (u16s xs).toArray 27)) := heap_bel HB16 HK2
      obtain ⟨g2, hg2⟩ : ∃ g2, w7.heap.size = g2 := ⟨_, rfl⟩
      rw [hg2] at HK3 ⊢
      clear hg2
      refine (law2_told _ _ _ (errO_is _)).mono ?_
      rintro e w9 ⟨rfl, rfl⟩
      obtain ⟨x0, x1, x2, x3, x4, x5, x6, x7, rfl⟩ := eight H8.out
      have cg0 := u16_row HK4.out (k := 0) rfl
      have cg1 := u16_row HK4.out (k := 1) rfl
      have cg2 := u16_row HK4.out (k := 2) rfl
      have cg3 := u16_row HK4.out (k := 3) rfl
      have cg4 := u16_row HK4.out (k := 4) rfl
      have cg5 := u16_row HK4.out (k := 5) rfl
      have cg6 := u16_row HK4.out (k := 6) rfl
      have cg7 := u16_row HK4.out (k := 7) rfl
      have ch0 := u16_row HK3.out (k := 0) rfl
      have ch1 := u16_row HK3.out (k := 1) rfl
      have ch2 := u16_row HK3.out (k := 2) rfl
      have ch3 := u16_row HK3.out (k := 3) rfl
      have ch4 := u16_row HK3.out (k := 4) rfl
      have ch5 := u16_row HK3.out (k := 5) rfl
      have ch6 := u16_row HK3.out (k := 6) rfl
      have ch7 := u16_row HK3.out (k := 7) rfl
      have he8 := eq8 x0 x1 x2 x3 x4 x5 x6 x7 w8
      go_wp2_with (first | (go_at_call 22; go_must (refine (law2_told _ _ _ (by rfl)).mono ?_); rintro e w' ⟨rfl, rfl⟩) | (go_at_call 15; go_must (refine (host_Numbered s _ hs6 HE8).mono ?_); rintro e w9 ⟨rfl, HB17⟩; have HE9 := Lib.hid (HE8.out.bel HB17.out)) | (go_at_call 23; go_must (refine (ref2_Numbered s _ hs6 HE9).mono ?_); rintro e w10 ⟨rfl, HB18⟩; have HE10 := Lib.hid (HE9.out.bel HB18.out)) | (go_at_call 16; go_must (refine (law2_known _ HE10).mono ?_); rintro e w11 ⟨rfl, HB19⟩))
      go_ret
      exact ⟨rfl, bel_trans HB14.out (bel_trans HB16.out (bel_trans HB17.out (bel_trans HB18.out HB19.out)))⟩
end Go.Proofs.YtpgehhnmlihnbaaGreatDoor
