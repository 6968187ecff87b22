import Derived.Test.YtbpkkgaaeodimaaGreatDoorXG23
import Derived.Test.YtbpkkgaaeodimaaGreatDoorXG09
import Derived.Test.YtbpkkgaaeodimaaGreatDoorXG13
import Derived.Test.YtbpkkgaaeodimaaGreatDoorXG05
namespace Go.Proofs.YtbpkkgaaeodimaaGreatDoor
open Go.RowKit

theorem judge_b (a b : UrlS) (tr : Bool) (dest : Int) : judgeS a b tr dest = if (!(a.scheme == httpsS) || tr || (!(b.scheme == httpS) && !(b.scheme == wsS))) = true then 1 else if ((dest == 4) && (b.scheme == httpS) && !(begins b.host [91]) && !(numsB b.host)) = true then 2 else 3 := by
  unfold judgeS
  have e1 : (a.scheme ≠ httpsS ∨ tr = true ∨ (b.scheme ≠ httpS ∧ b.scheme ≠ wsS)) ↔ (!(a.scheme == httpsS) || tr || (!(b.scheme == httpS) && !(b.scheme == wsS))) = true := by
    simp [Bool.or_eq_true, or_assoc]
  have e2 : (dest = 4 ∧ b.scheme = httpS ∧ begins b.host [91] = false ∧ numsB b.host = false) ↔ ((dest == 4) && (b.scheme == httpS) && !(begins b.host [91]) && !(numsB b.host)) = true := by
    simp [and_assoc]
  simp only [e1, e2]
set_option maxHeartbeats 4000000 in
set_option maxRecDepth 100000 in
theorem mixed_Judge (c1 c2 : UrlC) (p1 p2 : List (List UInt8)) (dest : Int) (w : World) (hz : c2.host.size ≤ 1000000) (hn : bl c2.scheme ≠ blobS) :
    Calls Tryz.prog 42 #[.agg c1.cells.toArray, .agg c2.cells.toArray, .int .i64 dest] w fun e w' => e = .returned (.int .i64 (judgeS (c1.flat p1) (c2.flat p2) (trustB (c2.flat p2)) dest)) ∧ Hid (Bel w w') := by
  have HJ := Lib.hid (judge_b (c1.flat p1) (c2.flat p2) (trustB (c2.flat p2)) dest)
  have d1 : (c1.scheme.toList == ([104, 116, 116, 112, 115] : List UInt8)) = ((c1.flat p1).scheme == httpsS) := by rw [toList_bl]; rfl
  have d2 : (c2.scheme.toList == ([104, 116, 116, 112] : List UInt8)) = ((c2.flat p2).scheme == httpS) := by rw [toList_bl]; rfl
  have d3 : (c2.scheme.toList == ([119, 115] : List UInt8)) = ((c2.flat p2).scheme == wsS) := by rw [toList_bl]; rfl
  have d4 : Hid (Lib.hasPrefix c2.host.data.toList [91] = begins (c2.flat p2).host [91]) := hasPre c2.host ⟨#[91]⟩
  have d5 : Hid (numsB (bl c2.host) = numsB (c2.flat p2).host) := rfl
  have HTR : Hid (trustB (c2.flat p2) = trustB (c2.flat p2)) := rfl
  have HW : Hid (Bel w ((w.alloc (.cells c1.cells.toArray 24)).alloc (.cells c2.cells.toArray 24))) := ((Below.refl _ w).alloc (Nat.le_refl _) _).alloc (by simp) _
  have hr0 := RowAt.new (w.alloc (.cells c1.cells.toArray 24)) c2.cells.toArray 24
  rw [show (w.alloc (.cells c1.cells.toArray 24)).heap.size = w.heap.size + 1 by simp] at hr0
  have HR0 : Hid (RowAt ((w.alloc (.cells c1.cells.toArray 24)).alloc (.cells c2.cells.toArray 24)) (w.heap.size + 1) (c2.cells ++ [])) := by unfold Hid; rw [List.append_nil]; exact hr0
  clear hr0
  have HT := fun W => origin_Trusted c2 p2 W hz hn
  rw [noC_val, noC_val] at HW HR0 ⊢
  rw [noC_val] at HT
  generalize ((c1.flat p1).scheme == httpsS) = q at *
  generalize ((c2.flat p2).scheme == httpS) = h1 at *
  generalize ((c2.flat p2).scheme == wsS) = h2 at *
  obtain ⟨tr, htr⟩ : ∃ tr, trustB (c2.flat p2) = tr := ⟨_, rfl⟩
  have HTT := Lib.hid htr
  rw [htr] at HJ HT
  clear htr
  generalize begins (c2.flat p2).host [91] = b9 at *
  generalize numsB (c2.flat p2).host = nu at *
  obtain ⟨dd, hdd⟩ : ∃ dd, (dest == 4) = dd := ⟨_, rfl⟩
  rw [hdd] at HJ
  have hw0 : w.heap.size < (w.alloc (.cells #[.string c1.scheme, .string c1.user, .string c1.pass, .string c1.host, .bool c1.hasHost, .int .i64 c1.port, .bool c1.opaq, c1.path, .string c1.query, .string c1.frag, .bool c1.hasQuery, .bool c1.hasFrag] 24)).heap.size := by simp
  clear hw0
  cases q
  · go_enter Tryz.func42, Tryz.ntmps42
    go_wp2
    go_ret
    exact ⟨by rw [HTT.out, HJ.out]; rfl, HW⟩
  · cases tr
    · cases h1
      · cases h2
        · go_enter Tryz.func42, Tryz.ntmps42
          go_wp2_with (first | (go_at_call 63; go_must (refine (HT _).mono ?_); rintro e w1 ⟨rfl, HB1⟩; have HR1 := Lib.hid (HR0.out.bel HB1.out); have k0 := (HR1.out.2 0 _ rfl).1; have k3 := (HR1.out.2 3 _ rfl).1))
          go_ret
          exact ⟨by rw [HTT.out, HJ.out]; rfl, bel_trans HW.out HB1.out⟩
        · cases dd
          all_goals
            go_enter Tryz.func42, Tryz.ntmps42
            go_wp2_with (first | (go_at_call 63; go_must (refine (HT _).mono ?_); rintro e w1 ⟨rfl, HB1⟩; have HR1 := Lib.hid (HR0.out.bel HB1.out); have k0 := (HR1.out.2 0 _ rfl).1; have k3 := (HR1.out.2 3 _ rfl).1))
            go_ret
            exact ⟨by rw [HTT.out, HJ.out]; rfl, bel_trans HW.out HB1.out⟩
      · cases dd
        · go_enter Tryz.func42, Tryz.ntmps42
          go_wp2_with (first | (go_at_call 63; go_must (refine (HT _).mono ?_); rintro e w1 ⟨rfl, HB1⟩; have HR1 := Lib.hid (HR0.out.bel HB1.out); have k0 := (HR1.out.2 0 _ rfl).1; have k3 := (HR1.out.2 3 _ rfl).1))
          go_ret
          exact ⟨by rw [HTT.out, HJ.out]; rfl, bel_trans HW.out HB1.out⟩
        · cases b9
          · cases nu
            all_goals
              go_enter Tryz.func42, Tryz.ntmps42
              go_wp2_with (first | (go_at_call 63; go_must (refine (HT _).mono ?_); rintro e w1 ⟨rfl, HB1⟩; have HR1 := Lib.hid (HR0.out.bel HB1.out); have k0 := (HR1.out.2 0 _ rfl).1; have k3 := (HR1.out.2 3 _ rfl).1) | (go_at_call 64; go_must (refine (Tryz.strings_HasPrefix _ _ _).mono ?_); rintro e w' ⟨rfl, hw⟩; rw [hw, d4.out]) | (go_at_call 65; go_must (refine (lib_Trim c2.host cutB _ hz (by decide) (by decide) cutB_asc).mono ?_); rintro e w2 ⟨⟨t, rfl, ht⟩, HB2⟩; have hx : (t.toList == ([] : List UInt8)) = numsB (bl c2.host) := by { rw [toList_bl, ht.out, Bool.eq_iff_iff, beq_iff_eq]; exact trim_nil (bl c2.host) }; rw [d5.out] at hx))
              go_ret
              exact ⟨by rw [HTT.out, HJ.out]; rfl, bel_trans (bel_trans HW.out HB1.out) HB2.out⟩
          · go_enter Tryz.func42, Tryz.ntmps42
            go_wp2_with (first | (go_at_call 63; go_must (refine (HT _).mono ?_); rintro e w1 ⟨rfl, HB1⟩; have HR1 := Lib.hid (HR0.out.bel HB1.out); have k0 := (HR1.out.2 0 _ rfl).1; have k3 := (HR1.out.2 3 _ rfl).1) | (go_at_call 64; go_must (refine (Tryz.strings_HasPrefix _ _ _).mono ?_); rintro e w' ⟨rfl, hw⟩; rw [hw, d4.out]))
            go_ret
            exact ⟨by rw [HTT.out, HJ.out]; rfl, bel_trans HW.out HB1.out⟩
    · go_enter Tryz.func42, Tryz.ntmps42
      go_wp2_with (first | (go_at_call 63; go_must (refine (HT _).mono ?_); rintro e w1 ⟨rfl, HB1⟩; have HR1 := Lib.hid (HR0.out.bel HB1.out); have k0 := (HR1.out.2 0 _ rfl).1; have k3 := (HR1.out.2 3 _ rfl).1))
      go_ret
      exact ⟨by rw [HTT.out, HJ.out]; rfl, bel_trans HW.out HB1.out⟩
end Go.Proofs.YtbpkkgaaeodimaaGreatDoor
namespace Go.Proofs.YtbpkkgaaeodimaaGreatDoor
open Go.RowKit

theorem box_bel (w : World) (c : UrlC) : Bel w (w.alloc (.cells c.cells.toArray 24)) := (Below.refl _ w).alloc (Nat.le_refl _) _
set_option maxHeartbeats 1000000 in
set_option maxRecDepth 100000 in
theorem bad_none (c : UrlC) (w : World) (h : specialS (bl c.scheme) = false ∨ c.port = -1) :
    Calls Tryz.prog 16 #[.agg c.cells.toArray] w fun e w' => e = .returned (.bool false) ∧ Hid (Bel w w') := by
  have HB := Lib.hid (box_bel w c)
  rw [noC_val] at HB ⊢
  obtain ⟨sp, hsp⟩ : ∃ sp, specialS (bl c.scheme) = sp := ⟨_, rfl⟩
  have HSP := Lib.hid hsp
  rw [hsp] at h
  clear hsp
  cases sp
  · go_enter Tryz.func16, Tryz.ntmps16
    go_wp2_with (first | (go_at_call 35; go_must (refine (url_Special _ _).mono ?_); rintro e w' ⟨rfl, rfl⟩; rw [HSP.out]))
    go_ret
    exact ⟨rfl, HB⟩
  · have hp : c.port = -1 := by rcases h with h | h; cases h; exact h
    have hq : (c.port == -1) = true := by rw [hp]; rfl
    clear h hp
    go_enter Tryz.func16, Tryz.ntmps16
    go_wp2_with (first | (go_at_call 35; go_must (refine (url_Special _ _).mono ?_); rintro e w' ⟨rfl, rfl⟩; rw [HSP.out]))
    go_ret
    exact ⟨rfl, HB⟩
set_option maxHeartbeats 4000000 in
set_option maxRecDepth 100000 in
theorem bad_6667 (c : UrlC) (w : World) (h : specialS (bl c.scheme) = true) (hp : c.port = 6667) :
    Calls Tryz.prog 16 #[.agg c.cells.toArray] w fun e w' => e = .returned (.bool true) ∧ Hid (Bel w w') := by
  have HB := Lib.hid (box_bel w c)
  rw [noC_val, hp] at HB ⊢
  have HSP := Lib.hid h
  clear h
  go_enter Tryz.func16, Tryz.ntmps16
  go_wp2_with (first | (go_at_call 35; go_must (refine (url_Special _ _).mono ?_); rintro e w' ⟨rfl, rfl⟩; rw [HSP.out]))
  go_ret
  exact ⟨rfl, HB⟩
end Go.Proofs.YtbpkkgaaeodimaaGreatDoor
namespace Go.Proofs.YtbpkkgaaeodimaaGreatDoor
open Go.RowKit

/-! The laws' own words. -/
set_option maxHeartbeats 2000000 in
set_option maxRecDepth 100000 in
theorem law14_digits (n : Nat) (w : World) (hn : n ≤ 4294967295) :
    Calls Tryz.prog 21 #[.int .u32 n] w fun e w' => (∃ t, e = .returned (.string t) ∧ Hid (bl t = digs 10 n)) ∧ w = w' := by
  go_enter Tryz.func21, Tryz.ntmps21
  go_wp2
  go_loop [0, 3] (fun i t => ∃ (k : Nat) (s : ByteArray), i = .int .u32 k ∧ t = .string s ∧ k ≤ n ∧ Hid (DigInv 10 n k (bl s))) (fun i t => match t with | .string s => (intOf i).toNat + (if (bl s).isEmpty then 1 else 0) | _ => 0)
  case atStart => exact ⟨n, ⟨#[]⟩, rfl, rfl, Nat.le_refl _, DigInv.start 10 n⟩
  case round =>
    obtain ⟨k, s, rfl, rfl, hk, HI⟩ := hrel
    have hsz : s.size ≤ 30 := by have h1 := HI.out.len (by omega); have h2 := digs_len 10 (by omega) 11 n (by omega) (by omega); rw [bl_length] at h1; omega
    by_cases hz : k = 0
    · subst hz
      by_cases he : bl s = []
      · have HS := Lib.hid (HI.out.step (by omega) (.inr he))
        have he' : s.toList.isEmpty = true := (str_empty s).2 he
        clear HI he
        go_wp2
        refine ⟨⟨0, _, rfl, rfl, by omega, ?_⟩, ?_⟩
        · unfold Hid; rw [bl_append]; exact HS.out
        · have h1 : bl s = [] := (str_empty s).1 he'
          have h2 : (bl ((⟨#[48, 49, 50, 51, 52, 53, 54, 55, 56, 57]⟩ : ByteArray).extract 0 1 ++ s)).isEmpty = false := by rw [bl_append]; rfl
          simp only [intOf, h2, h1]
          simp
      · have HS := Lib.hid (HI.out.done (by simp [he]))
        have he' : s.toList.isEmpty = false := by rw [Bool.eq_false_iff, ne_eq, str_empty]; exact he
        clear HI he
        go_wp2
        go_ret
        exact ⟨⟨_, rfl, HS⟩, rfl⟩
    · have HS := Lib.hid (HI.out.step (by omega) (.inl (by omega)))
      clear HI
      go_wp2
      refine ⟨⟨k / 10, _, by go_num, rfl, by omega, ?_⟩, ?_⟩
      · unfold Hid; rw [bl_append]; have := dig_piece10 ⟨k % 10, by omega⟩; dsimp only at this; rw [this]; exact HS.out
      · have h2 : (bl ((⟨#[48, 49, 50, 51, 52, 53, 54, 55, 56, 57]⟩ : ByteArray).extract (k % 10) (k % 10 + 1) ++ s)).isEmpty = false := by
          rw [bl_append]; have := dig_piece10 ⟨k % 10, by omega⟩; dsimp only at this; rw [this]; rfl
        simp only [intOf, h2]
        simp
        split <;> omega
/-- An address of a law's text. -/
def atS (l : List UInt8) : UrlS := okU (urlS (l.take 300))
theorem atS_host (l : List UInt8) : (atS l).host.length ≤ 1000 := by
  unfold atS
  cases h : urlS (l.take 300) with
  | error e => simp [okU, noUrl]
  | ok u =>
    have h1 := url_len h
    rw [List.length_take] at h1
    show u.host.length ≤ 1000
    unfold slen at h1
    omega
def judgeO (a b : List UInt8) (dest : Int) : Int := judgeS (atS a) (atS b) (trustB (atS b)) dest
set_option maxHeartbeats 1000000 in
set_option maxRecDepth 100000 in
theorem law14_judge (s t : ByteArray) (dest : Int) (w : World) (HE : Hid (Env w)) (hn : (atS (bl t)).scheme ≠ blobS) :
    Calls Tryz.prog 19 #[.string s, .string t, .int .i64 dest] w fun e w' => e = .returned (.int .i64 (judgeO (bl s) (bl t) dest)) ∧ Hid (Bel w w') := by
  go_enter Tryz.func19, Tryz.ntmps19
  go_wp2_with fail
  refine (keep_URL s _ HE).mono ?_
  rintro e w1 ⟨⟨v, rfl, hv⟩, HB1⟩
  obtain ⟨c1, p1, rfl, hc1, hp1⟩ := hv.out
  have HC1 := Lib.hid hc1
  have h1c := own_cell hp1
  have hr3 : RowAt (w1.alloc (.cells noC.cells.toArray 24)) w1.heap.size (noC.cells ++ []) := RowAt.new w1 noC.cells.toArray 24
  have hb3 : Bel w1 (w1.alloc (.cells noC.cells.toArray 24)) := (Below.refl _ w1).alloc (Nat.le_refl _) _
  rw [no_cells] at hr3 hb3
  have HR3 := Lib.hid hr3
  have HB3 := Lib.hid hb3
  clear hr3 hb3 hc1 hv hp1
  go_wp2_with (first | (refine store_url rfl _ _ (by exact rfl) w1.heap.size (by exact rfl) noC c1 [] (by exact rfl) HR3.out h1c ?_; intro w4 HR4 HP4; have HB4 := Lib.hid (BelP.bel HB3.out (fun k hk => by rw [hk]; exact Nat.le_refl _) HP4.out)))
  refine (keep_URL t _ (Lib.hid ((HE.out.bel HB1.out).bel HB4.out))).mono ?_
  rintro e w5 ⟨⟨v2, rfl, hv2⟩, HB5⟩
  obtain ⟨c2, p2, rfl, hc2, hp2⟩ := hv2.out
  have HC2 := Lib.hid hc2
  have h2c := own_cell hp2
  have HR5 := Lib.hid (HR4.out.bel HB5.out)
  have hr6 : RowAt (w5.alloc (.cells noC.cells.toArray 24)) w5.heap.size (noC.cells ++ []) := RowAt.new w5 noC.cells.toArray 24
  have hb6 : Bel w5 (w5.alloc (.cells noC.cells.toArray 24)) := (Below.refl _ w5).alloc (Nat.le_refl _) _
  rw [no_cells] at hr6 hb6
  have HR6 := Lib.hid hr6
  have HB6 := Lib.hid hb6
  have hz2 : c2.host.size ≤ 1000000 := by
    have h := atS_host (bl t)
    have h2 : (c2.flat p2).host = (atS (bl t)).host := by rw [hc2]; rfl
    rw [← h2] at h
    have h3 : (bl c2.host).length ≤ 1000 := h
    rw [bl_length] at h3
    omega
  have hn2 : bl c2.scheme ≠ blobS := by
    have h2 : (c2.flat p2).scheme = (atS (bl t)).scheme := by rw [hc2]; rfl
    rw [← h2] at hn
    exact hn
  clear hr6 hb6 hc2 hv2 hp2 hn
  go_wp2_with (first | (refine store_url rfl _ _ (by exact rfl) w5.heap.size (by exact rfl) noC c2 [] (by exact rfl) HR6.out h2c ?_; intro w7 HR7 HP7; have HB7 := Lib.hid (BelP.bel HB6.out (fun k hk => by rw [hk]; exact Nat.le_refl _) HP7.out); have HR8 := Lib.hid (HR5.out.bel HB7.out)) | (refine load_url rfl _ (by exact rfl) w1.heap.size (by exact rfl) c1 [] HR8.out ?_) | (refine load_url rfl _ (by exact rfl) w5.heap.size (by exact rfl) c2 [] HR7.out ?_))
  refine (mixed_Judge c1 c2 p1 p2 dest _ hz2 hn2).mono ?_
  rintro e w9 ⟨rfl, HB9⟩
  go_wp2
  go_ret
  refine ⟨?_, bel_trans (bel_trans (bel_trans (bel_trans HB1.out HB4.out) HB5.out) HB7.out) HB9.out⟩
  unfold judgeO
  rw [HC1.out, HC2.out]; rfl
end Go.Proofs.YtbpkkgaaeodimaaGreatDoor
namespace Go.Proofs.YtbpkkgaaeodimaaGreatDoor
open Go.RowKit

theorem row12 {w : World} {g : Nat} {c : UrlC} {ext : List Value} (h : RowAt w g (c.cells ++ ext)) : At12 w g c :=
  ⟨h.2 0 _ rfl, h.2 1 _ rfl, h.2 2 _ rfl, h.2 3 _ rfl, h.2 4 _ rfl, h.2 5 _ rfl, h.2 6 _ rfl, h.2 7 _ rfl, h.2 8 _ rfl, h.2 9 _ rfl, h.2 10 _ rfl, h.2 11 _ rfl⟩
def okB (s : List UInt8) : Bool := whyE (urlS (s.take 300)) == 0
set_option maxHeartbeats 1000000 in
set_option maxRecDepth 100000 in
theorem law14_bad (s : ByteArray) (b : Bool) (w : World) (HE : Hid (Env w))
    (hb : ∀ (c : UrlC) (p : List (List UInt8)), c.flat p = atS (bl s) → ∀ W, Calls Tryz.prog 16 #[.agg c.cells.toArray] W fun e w' => e = .returned (.bool b) ∧ Hid (Bel W w')) (ho : okB (bl s) = false → b = false) :
    Calls Tryz.prog 18 #[.string s] w fun e w' => e = .returned (.bool b) ∧ Hid (Bel w w') := by
  go_enter Tryz.func18, Tryz.ntmps18
  go_wp2_with fail
  refine (keep_URL s _ HE).mono ?_
  rintro e w1 ⟨⟨v, rfl, hv⟩, HB1⟩
  obtain ⟨c1, p1, rfl, hc1, hp1⟩ := hv.out
  have HQ := Lib.hid (hb c1 p1 hc1)
  have h1c := own_cell hp1
  have hr3 : RowAt (w1.alloc (.cells noC.cells.toArray 24)) w1.heap.size (noC.cells ++ []) := RowAt.new w1 noC.cells.toArray 24
  have hb3 : Bel w1 (w1.alloc (.cells noC.cells.toArray 24)) := (Below.refl _ w1).alloc (Nat.le_refl _) _
  rw [no_cells] at hr3 hb3
  have HR3 := Lib.hid hr3
  have HB3 := Lib.hid hb3
  clear hr3 hb3 hc1 hv hp1 hb
  obtain ⟨ok, hok⟩ : ∃ ok, (whyE (urlS ((bl s).take 300)) == 0) = ok := ⟨_, rfl⟩
  have hok2 : okB (bl s) = ok := hok
  rw [hok2] at ho
  rw [hok]
  clear hok hok2
  cases ok
  · have hbf := ho rfl
    subst hbf
    go_wp2_with (first | (refine store_url rfl _ _ (by exact rfl) w1.heap.size (by exact rfl) noC c1 [] (by exact rfl) HR3.out h1c ?_; intro w4 HR4 HP4; have HB4 := Lib.hid (BelP.bel HB3.out (fun k hk => by rw [hk]; exact Nat.le_refl _) HP4.out)))
    go_ret
    exact ⟨rfl, bel_trans HB1.out HB4.out⟩
  · clear ho
    go_wp2_with (first | (refine store_url rfl _ _ (by exact rfl) w1.heap.size (by exact rfl) noC c1 [] (by exact rfl) HR3.out h1c ?_; intro w4 HR4 HP4; have HB4 := Lib.hid (BelP.bel HB3.out (fun k hk => by rw [hk]; exact Nat.le_refl _) HP4.out); have h12 := row12 HR4.out; obtain ⟨⟨k0, _⟩, ⟨k1, _⟩, ⟨k2, _⟩, ⟨k3, _⟩, ⟨k4, _⟩, ⟨k5, _⟩, ⟨k6, _⟩, ⟨k7, _⟩, ⟨k8, _⟩, ⟨k9, _⟩, ⟨k10, _⟩, ⟨k11, _⟩⟩ := h12) | (go_at_call 16; go_must (refine (HQ.out _).mono ?_); rintro e w5 ⟨rfl, HB5⟩))
    go_ret
    exact ⟨rfl, bel_trans (bel_trans HB1.out HB4.out) HB5.out⟩
theorem bad_spec (s : ByteArray) (h : specialS (atS (bl s)).scheme = false ∨ (atS (bl s)).port = -1) (c : UrlC) (p : List (List UInt8)) (hc : c.flat p = atS (bl s)) (W : World) :
    Calls Tryz.prog 16 #[.agg c.cells.toArray] W fun e w' => e = .returned (.bool false) ∧ Hid (Bel W w') :=
  bad_none c W (by rw [← hc] at h; exact h)
theorem bad_spec2 (s : ByteArray) (h : specialS (atS (bl s)).scheme = true) (h2 : (atS (bl s)).port = 6667) (c : UrlC) (p : List (List UInt8)) (hc : c.flat p = atS (bl s)) (W : World) :
    Calls Tryz.prog 16 #[.agg c.cells.toArray] W fun e w' => e = .returned (.bool true) ∧ Hid (Bel W w') :=
  bad_6667 c W (by rw [← hc] at h; exact h) (by rw [← hc] at h2; exact h2)
def ha : ByteArray := ⟨#[104, 116, 116, 112, 115, 58, 47, 47, 97, 47]⟩
end Go.Proofs.YtbpkkgaaeodimaaGreatDoor
namespace Go.Proofs.YtbpkkgaaeodimaaGreatDoor
open Go.RowKit

/-! Chapter 14's runs. -/
theorem mk_j0 : judgeO (bl ⟨#[104, 116, 116, 112, 115, 58, 47, 47, 97, 47]⟩) (bl ⟨#[104, 116, 116, 112, 58, 47, 47, 98, 47]⟩) 2 = 3 := by decide +kernel
theorem mk_j1 : judgeO (bl ⟨#[104, 116, 116, 112, 115, 58, 47, 47, 97, 47]⟩) (bl ⟨#[104, 116, 116, 112, 58, 47, 47, 98, 47]⟩) 4 = 2 := by decide +kernel
theorem mk_j2 : judgeO (bl ⟨#[104, 116, 116, 112, 58, 47, 47, 97, 47]⟩) (bl ⟨#[104, 116, 116, 112, 58, 47, 47, 98, 47]⟩) 2 = 1 := by decide +kernel
theorem mk_b : (atS (bl ⟨#[104, 116, 116, 112, 58, 47, 47, 98, 47]⟩)).scheme ≠ blobS := by decide +kernel
theorem mk_6 : specialS (atS (bl ⟨#[104, 116, 116, 112, 58, 47, 47, 104, 58, 54, 54, 54, 55, 47]⟩)).scheme = true ∧ (atS (bl ⟨#[104, 116, 116, 112, 58, 47, 47, 104, 58, 54, 54, 54, 55, 47]⟩)).port = 6667 ∧ okB (bl ⟨#[104, 116, 116, 112, 58, 47, 47, 104, 58, 54, 54, 54, 55, 47]⟩) = true := by decide +kernel
theorem mk_h : (atS (bl ⟨#[104, 116, 116, 112, 58, 47, 47, 104, 47]⟩)).port = -1 := by decide +kernel
set_option maxHeartbeats 2000000 in
set_option maxRecDepth 100000 in
theorem law14_known (w : World) (HE : Hid (Env w)) : Calls Tryz.prog 20 #[] w fun e w' => e = .returned (.bool true) ∧ Hid (Bel w w') := by
  go_enter Tryz.func20, Tryz.ntmps20
  go_wp2_with fail
  refine (law14_judge ⟨#[104, 116, 116, 112, 115, 58, 47, 47, 97, 47]⟩ ⟨#[104, 116, 116, 112, 58, 47, 47, 98, 47]⟩ 2 _ HE mk_b).mono ?_
  rintro e w1 ⟨rfl, HB1⟩
  rw [mk_j0]
  have HE1 := Lib.hid (HE.out.bel HB1.out)
  go_wp2_with fail
  refine (law14_judge ⟨#[104, 116, 116, 112, 115, 58, 47, 47, 97, 47]⟩ ⟨#[104, 116, 116, 112, 58, 47, 47, 98, 47]⟩ 4 _ HE1 mk_b).mono ?_
  rintro e w2 ⟨rfl, HB2⟩
  rw [mk_j1]
  have HE2 := Lib.hid (HE1.out.bel HB2.out)
  go_wp2_with fail
  refine (law14_judge ⟨#[104, 116, 116, 112, 58, 47, 47, 97, 47]⟩ ⟨#[104, 116, 116, 112, 58, 47, 47, 98, 47]⟩ 2 _ HE2 mk_b).mono ?_
  rintro e w3 ⟨rfl, HB3⟩
  rw [mk_j2]
  have HE3 := Lib.hid (HE2.out.bel HB3.out)
  go_wp2_with fail
  refine (law14_bad ⟨#[104, 116, 116, 112, 58, 47, 47, 104, 58, 54, 54, 54, 55, 47]⟩ true _ HE3 (bad_spec2 _ mk_6.1 mk_6.2.1) (fun h => by rw [mk_6.2.2] at h; cases h)).mono ?_
  rintro e w4 ⟨rfl, HB4⟩
  have HE4 := Lib.hid (HE3.out.bel HB4.out)
  go_wp2_with fail
  refine (law14_bad ⟨#[104, 116, 116, 112, 58, 47, 47, 104, 47]⟩ false _ HE4 (bad_spec _ (.inr mk_h)) (fun _ => rfl)).mono ?_
  rintro e w5 ⟨rfl, HB5⟩
  go_wp2
  go_ret
  exact ⟨rfl, bel_trans (bel_trans (bel_trans (bel_trans HB1.out HB2.out) HB3.out) HB4.out) HB5.out⟩
end Go.Proofs.YtbpkkgaaeodimaaGreatDoor
namespace Go.Proofs.YtbpkkgaaeodimaaGreatDoor
open Go.RowKit

/-! What the pages of chapter 14 ask for. -/
def hP : List UInt8 := [104, 116, 116, 112, 58, 47, 47, 112, 47]
def sP : List UInt8 := [104, 116, 116, 112, 115, 58, 47, 47, 112, 47]
theorem hP_is : (atS hP).scheme = httpS := by decide +kernel
theorem sP_is : (atS sP).scheme = httpsS := by decide +kernel
/-- The address of a law's host. -/
theorem at_host {s H h : List UInt8} (hs : s ∈ specials) (hp : parseS H true = some h) (hb : ∀ x ∈ H, x ≠ 58 ∧ x ≠ 91 ∧ x ≠ 64 ∧ 33 ≤ x.toNat ∧ x ≠ 35 ∧ x ≠ 47 ∧ x ≠ 63 ∧ x ≠ 92) (hl : H.length ≤ 250) :
    atS (s ++ [58, 47, 47] ++ H ++ [47]) = hostUrl s h := by
  unfold atS
  have h5 := (special_scheme hs).2.2.2.2
  rw [List.take_of_length_le (by simp; omega), url_host hs hp hb (by omega)]; rfl
theorem small_host {a : List UInt8} (h : ∀ x ∈ a, smallB x = true) : ∀ x ∈ a, x ≠ 58 ∧ x ≠ 91 ∧ x ≠ 64 ∧ 33 ≤ x.toNat ∧ x ≠ 35 ∧ x ≠ 47 ∧ x ≠ 63 ∧ x ≠ 92 := fun x hx => name_bytes x (small_name x (h x hx)).1
theorem http_blob : httpS ≠ blobS := by decide
theorem https_blob : httpsS ≠ blobS := by decide
theorem http_in : httpS ∈ specials := by decide
theorem https_in : httpsS ∈ specials := by decide
theorem pg_1 {q : List UInt8} (hq : ∀ x ∈ q, smallB x = true) (h0 : q.head? = some 113) (hl : q.length ≤ 13) (dest : Int) : judgeO hP (httpS ++ [58, 47, 47] ++ q ++ [47]) dest = 1 ∧ (atS (httpS ++ [58, 47, 47] ++ q ++ [47])).scheme ≠ blobS := by
  have hn : q ≠ [] := by intro e; rw [e] at h0; cases h0
  have e := at_host http_in (one_label hq hn) (small_host hq) (by omega)
  refine ⟨?_, by rw [e]; exact http_blob⟩
  unfold judgeO judgeS
  rw [hP_is, if_pos (.inl (by decide))]
theorem pg_2 {q : List UInt8} (hq : ∀ x ∈ q, smallB x = true) (h0 : q.head? = some 113) (hl : q.length ≤ 13) (dest : Int) : judgeO sP (httpsS ++ [58, 47, 47] ++ q ++ [47]) dest = 1 ∧ (atS (httpsS ++ [58, 47, 47] ++ q ++ [47])).scheme ≠ blobS := by
  have hn : q ≠ [] := by intro e; rw [e] at h0; cases h0
  have e := at_host https_in (one_label hq hn) (small_host hq) (by omega)
  refine ⟨?_, by rw [e]; exact https_blob⟩
  unfold judgeO judgeS
  rw [e, if_pos (.inr (.inl (by unfold trustB; rw [show safeSch (hostUrl httpsS q).scheme = true from rfl]; rfl)))]
theorem dots_host {q : List UInt8} (hq : ∀ x ∈ q, smallB x = true) {b : List UInt8} (hb : ∀ x ∈ b, smallB x = true) : ∀ x ∈ q ++ 46 :: b, x ≠ 58 ∧ x ≠ 91 ∧ x ≠ 64 ∧ 33 ≤ x.toNat ∧ x ≠ 35 ∧ x ≠ 47 ∧ x ≠ 63 ∧ x ≠ 92 := by
  intro x hx
  rw [List.mem_append, List.mem_cons] at hx
  rcases hx with hx | rfl | hx
  · exact small_host hq x hx
  · decide
  · exact small_host hb x hx
theorem pg_3 {q : List UInt8} (hq : ∀ x ∈ q, smallB x = true) (h0 : q.head? = some 113) (hl : q.length ≤ 13) (dest : Int) : judgeO sP (httpS ++ [58, 47, 47] ++ (q ++ 46 :: comS) ++ [47]) dest = (if dest = 4 then 2 else 3) ∧ (atS (httpS ++ [58, 47, 47] ++ (q ++ 46 :: comS) ++ [47])).scheme ≠ blobS := by
  have hc : ∀ x ∈ comS, smallB x = true := by decide
  have e := at_host http_in (two_labels hq hc (by decide)) (dots_host hq hc) (by simp [comS]; omega)
  obtain ⟨k1, k2, k3⟩ := home_com h0 hq
  refine ⟨?_, by rw [e]; exact http_blob⟩
  unfold judgeO judgeS
  rw [e, sP_is, if_neg]
  · have e1 : (hostUrl httpS (q ++ 46 :: comS)).host = q ++ 46 :: comS := rfl
    by_cases hd : dest = 4
    · rw [if_pos ⟨hd, rfl, by rw [e1]; exact k3, by rw [e1]; exact k2⟩, if_pos hd]
    · rw [if_neg (fun h => hd h.1), if_neg hd]
  · rintro (h | h | h)
    · exact h rfl
    · have : trustB (hostUrl httpS (q ++ 46 :: comS)) = homeB (q ++ 46 :: comS) := by unfold trustB; rw [show safeSch (hostUrl httpS (q ++ 46 :: comS)).scheme = false from rfl, Bool.false_or]; rfl
      rw [this, k1] at h; cases h
    · exact h.1 rfl
theorem pg_5 {q : List UInt8} (hq : ∀ x ∈ q, smallB x = true) (h0 : q.head? = some 113) (hl : q.length ≤ 13) (dest : Int) : judgeO sP (httpS ++ [58, 47, 47] ++ (q ++ 46 :: localS) ++ [47]) dest = 1 ∧ (atS (httpS ++ [58, 47, 47] ++ (q ++ 46 :: localS) ++ [47])).scheme ≠ blobS := by
  have hc : ∀ x ∈ localS, smallB x = true := by decide
  have e := at_host http_in (two_labels hq hc (by decide)) (dots_host hq hc) (by simp [localS]; omega)
  refine ⟨?_, by rw [e]; exact http_blob⟩
  unfold judgeO judgeS
  rw [e, if_pos (.inr (.inl (by unfold trustB; rw [show homeB (hostUrl httpS (q ++ 46 :: localS)).host = true from home_local q]; simp)))]
theorem text4_host (n : Nat) : ∀ x ∈ text4S (n : Int), x ≠ 58 ∧ x ≠ 91 ∧ x ≠ 64 ∧ 33 ≤ x.toNat ∧ x ≠ 35 ∧ x ≠ 47 ∧ x ≠ 63 ∧ x ≠ 92 := by
  intro x hx
  rcases text4_bytes n x hx with h | rfl
  · exact ⟨u8_ne (by simp; omega), u8_ne (by simp; omega), u8_ne (by simp; omega), by omega, u8_ne (by simp; omega), u8_ne (by simp; omega), u8_ne (by simp; omega), u8_ne (by simp; omega)⟩
  · decide
theorem pg_n (n : Nat) (h : n < 4294967296) : judgeO sP (httpS ++ [58, 47, 47] ++ text4S (n : Int) ++ [47]) 4 = (if n / 16777216 = 127 then 1 else 3) ∧ (atS (httpS ++ [58, 47, 47] ++ text4S (n : Int) ++ [47])).scheme ≠ blobS := by
  have hl := text4_len (n : Int) (by omega) (by omega)
  have e := at_host http_in (form_0 n h) (text4_host n) (by omega)
  have hh := text4_home n h
  have hnu := text4_nums n
  have ht : trustB (hostUrl httpS (text4S (n : Int))) = decide (n / 16777216 = 127) := by unfold trustB; rw [show safeSch (hostUrl httpS (text4S (n : Int))).scheme = false from rfl, Bool.false_or]; exact hh
  refine ⟨?_, by rw [e]; exact http_blob⟩
  unfold judgeO judgeS
  rw [e, sP_is, ht]
  by_cases h7 : n / 16777216 = 127
  · rw [if_pos (.inr (.inl (by simpa using h7))), if_pos h7]
  · rw [if_neg, if_neg h7, if_neg]
    · intro q
      have := q.2.2.2
      rw [show (hostUrl httpS (text4S (n : Int))).host = text4S (n : Int) from rfl, hnu] at this
      cases this
    · rintro (q | q | q)
      · exact q rfl
      · simp at q; exact h7 q
      · exact q.1 rfl
theorem judge_at (a b : ByteArray) (A B : List UInt8) (dest v : Int) (ha : bl a = A) (hb : bl b = B) (h : judgeO A B dest = v ∧ (atS B).scheme ≠ blobS) (w : World) (HE : Hid (Env w)) :
    Calls Tryz.prog 19 #[.string a, .string b, .int .i64 dest] w fun e w' => e = .returned (.int .i64 v) ∧ Hid (Bel w w') := by
  refine (law14_judge a b dest w HE (by rw [hb]; exact h.2)).mono ?_
  rintro e w' ⟨rfl, hbel⟩
  exact ⟨by rw [ha, hb, h.1], hbel⟩
theorem bl3 (a b c : ByteArray) : bl (a ++ b ++ c) = bl a ++ bl b ++ bl c := by rw [bl_append, bl_append]
end Go.Proofs.YtbpkkgaaeodimaaGreatDoor
