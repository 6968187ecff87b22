import Derived.Test.YtbpkkgaaeodimaaGreatDoorXG28
import Derived.Test.YtbpkkgaaeodimaaGreatDoorXG19
import Derived.Test.YtbpkkgaaeodimaaGreatDoorXG20
import Derived.Test.YtbpkkgaaeodimaaGreatDoorXG24
import Derived.Test.YtbpkkgaaeodimaaGreatDoorXG09
import Derived.Test.YtbpkkgaaeodimaaGreatDoorXG13
namespace Go.Proofs.YtbpkkgaaeodimaaGreatDoor
open Go.RowKit

/-! What is parsed or joined is small. -/
def pOk (n : Int) : Prop := -1 ≤ n ∧ n ≤ 65535
theorem auth_port {u v : UrlS} {a : List UInt8} (h : authS u a = .ok v) : pOk v.port := by
  unfold authS at h
  simp only [] at h
  split at h
  · cases h
  · rename_i port hport
    split at h
    · cases h
    · split at h
      · cases h
      · simp only [Except.ok.injEq] at h
        rw [← h]
        rcases (port_good hport).1 with e | ⟨k, e, hk, _⟩
        · exact ⟨by show (-1 : Int) ≤ port; omega, by show port ≤ 65535; omega⟩
        · exact ⟨by show (-1 : Int) ≤ port; omega, by show port ≤ 65535; omega⟩
theorem query_port (u : UrlS) (l : List UInt8) : (queryS u l).1.port = u.port := rfl
theorem rooted_port (u : UrlS) (l : List UInt8) : (rootedS u l).port = u.port := by
  unfold rootedS
  rw [query_port]
  split <;> rfl
theorem behind_port {u v : UrlS} {l : List UInt8} (h : behindS u l = .ok v) : pOk v.port := by
  unfold behindS at h
  split at h
  · cases h
  · rename_i ha
    simp only [Except.ok.injEq] at h
    rw [← h, rooted_port]
    exact auth_port ha
theorem all_port {u v : UrlS} {l : List UInt8} (h : allS u l = .ok v) : pOk v.port := by
  unfold allS at h
  simp only [] at h
  split at h
  · exact behind_port h
  · split at h
    · exact behind_port h
    · split at h
      · simp only [Except.ok.injEq] at h
        rw [← h, rooted_port]; show pOk (-1); exact ⟨by decide, by decide⟩
      · simp only [Except.ok.injEq] at h
        rw [← h]; show pOk (-1); exact ⟨by decide, by decide⟩
theorem parseC_port {v : UrlS} {l : List UInt8} (h : parseC l = .ok v) : pOk v.port := by
  unfold parseC at h
  split at h
  · cases h
  · exact all_port h
theorem joined_port {u base v : UrlS} {l : List UInt8} (hu : pOk u.port) (h : joinedS u l base = .ok v) : pOk v.port := by
  rw [joinedL_is] at h
  unfold joinedL at h
  generalize (if specialS base.scheme = true then slashS l else l) = l' at h
  split at h
  · exact all_port h
  · split at h
    · simp only [Except.ok.injEq] at h
      rw [← h, rooted_port]; exact hu
    · split at h
      · simp only [Except.ok.injEq] at h
        rw [← h]; exact hu
      · split at h
        · simp only [Except.ok.injEq] at h
          rw [← h]; exact hu
        · simp only [Except.ok.injEq] at h
          rw [← h]; exact hu
theorem rel_port {base v : UrlS} {l : List UInt8} (hb : pOk base.port) (h : relS l base = .ok v) : pOk v.port := by
  unfold relS at h
  simp only [] at h
  split at h
  · split at h
    · cases h
    · simp only [Except.ok.injEq] at h
      rw [← h]; exact hb
  · exact joined_port (show pOk (fragS base l).1.port from hb) h
theorem join_port {base v : UrlS} {l : List UInt8} (hb : pOk base.port) (h : joinS l base = .ok v) : pOk v.port := by
  unfold joinS at h
  split at h
  · cases h
  · simp only [] at h
    split at h
    · split at h
      · exact parseC_port h
      · exact rel_port hb h
    · exact rel_port hb h
theorem url_short {l : List UInt8} {u : UrlS} (h : urlS l = .ok u) : l.length ≤ 4096 := by
  unfold urlS at h
  split at h
  · cases h
  · omega
theorem join_short {l : List UInt8} {base u : UrlS} (h : joinS l base = .ok u) : l.length ≤ 4096 := by
  unfold joinS at h
  split at h
  · cases h
  · omega
/-- An address that is small and has a port. -/
def Fine (n : Nat) (u : UrlS) : Prop := slen u ≤ n ∧ pOk u.port
theorem Fine.mono {n m : Nat} {u : UrlS} (h : Fine n u) (hm : n ≤ m) : Fine m u := ⟨Nat.le_trans h.1 hm, h.2⟩
theorem no_fine (n : Nat) : Fine n noUrl := ⟨by unfold slen noUrl plen; simp, by decide, by decide⟩
theorem url_fine (l : List UInt8) : Fine 12334 (okU (urlS l)) := by
  cases h : urlS l with
  | error e => exact no_fine _
  | ok u =>
    have h1 := url_len h
    have h2 := url_short h
    refine ⟨by show slen u ≤ _; omega, ?_⟩
    show pOk u.port
    unfold urlS at h
    rw [if_neg (by omega)] at h
    exact parseC_port h
theorem join_fine {n : Nat} (l : List UInt8) {base : UrlS} (hb : Fine n base) : Fine (n + 12334) (okU (joinS l base)) := by
  cases h : joinS l base with
  | error e => exact no_fine _
  | ok u =>
    have h1 := join_len h
    have h2 := join_short h
    have h3 := hb.1
    exact ⟨by show slen u ≤ _; omega, join_port hb.2 h⟩
theorem itoa_port {n : Int} (h : pOk n) : (Lib.itoa n).length ≤ 5 := by
  by_cases e : n = -1
  · rw [e]; decide +kernel
  · obtain ⟨k, hk⟩ : ∃ k : Nat, n = (k : Int) := ⟨n.toNat, by have := h.1; omega⟩
    rw [hk]
    exact itoa_len k (by have := h.2; omega)
theorem Fine.small {n : Nat} {c : UrlC} {p : List (List UInt8)} (h : Fine n (c.flat p)) (hn : n ≤ 1000000) : Small c p := by
  obtain ⟨h1, h2⟩ := h
  have h3 : bl c.scheme = (c.flat p).scheme := rfl
  unfold slen UrlC.flat at h1
  simp only [bl_length] at h1
  have h4 := itoa_port h2
  exact ⟨by omega, by omega, by omega, by omega, by omega, by omega, by omega, by have := h2.1; exact Int.le_trans (by decide) this, by have := h2.2; exact Int.le_trans this (by decide), Nat.le_trans h4 (by decide)⟩
theorem parseC_err {l : List UInt8} {x : Int} (h : parseC l = .error x) : x = 10 ∨ x = 11 ∨ x = 12 := by
  unfold parseC at h
  split at h
  · simp only [Except.error.injEq] at h
    omega
  · have := all_err h; omega
theorem url_err {l : List UInt8} {x : Int} (h : urlS l = .error x) : x = 3 ∨ x = 10 ∨ x = 11 ∨ x = 12 := by
  unfold urlS at h
  split at h
  · simp only [Except.error.injEq] at h
    omega
  · have := parseC_err h; omega
theorem joined_err {u base : UrlS} {l : List UInt8} {x : Int} (h : joinedS u l base = .error x) : x = 10 ∨ x = 11 := by
  rw [joinedL_is] at h
  unfold joinedL at h
  generalize (if specialS base.scheme = true then slashS l else l) = l' at h
  split at h
  · exact all_err h
  · split at h
    · cases h
    · split at h
      · cases h
      · split at h <;> cases h
theorem rel_err {base : UrlS} {l : List UInt8} {x : Int} (h : relS l base = .error x) : x = 10 ∨ x = 11 ∨ x = 12 := by
  unfold relS at h
  simp only [] at h
  split at h
  · split at h
    · simp only [Except.error.injEq] at h
      omega
    · cases h
  · have := joined_err h; omega
theorem join_err {base : UrlS} {l : List UInt8} {x : Int} (h : joinS l base = .error x) : x = 3 ∨ x = 10 ∨ x = 11 ∨ x = 12 := by
  unfold joinS at h
  split at h
  · simp only [Except.error.injEq] at h
    omega
  · simp only [] at h
    split at h
    · split at h
      · have := parseC_err h; omega
      · have := rel_err h; omega
    · have := rel_err h; omega
end Go.Proofs.YtbpkkgaaeodimaaGreatDoor
namespace Go.Proofs.YtbpkkgaaeodimaaGreatDoor
open Go.RowKit

/-! The statements' own words: a text of what is parsed, of what is joined. -/
def textR (o : Except Int UrlS) : List UInt8 := match o with | .ok u => textS u | .error _ => []
theorem textO_is (l : List UInt8) : textO l = textR (urlS l) := rfl
theorem joinO_is (s b : List UInt8) : joinO s b = textR (joinS s (okU (urlS b))) := rfl
theorem own_fresh {w w' : World} {base g : Nat} {v : Value} {xs : List Value} (h : Own w base 9 v xs) (hg : w.heap.size ≤ g) (hb : Bel w w') {w2 : World} (hs : BelP (fun k => k = g) w' w2) : Own w2 base 9 v xs :=
  BelP.own hs (fun k hk => by have := h.lt k hk; omega) (h.bel hb)
set_option maxHeartbeats 1000000 in
set_option maxRecDepth 100000 in
theorem law3_text (s : ByteArray) (w : World) (hs : s.size ≤ 1000000) (HE : Hid (Env w)) :
    Calls Tryz.prog 24 #[.string s] w fun e w' => (∃ t, e = .returned (.string t) ∧ Hid (bl t = textO (bl s)) ∧ t.size ≤ 16000000) ∧ Hid (Bel w w') := by
  go_enter Tryz.func24, Tryz.ntmps24
  go_wp2_with fail
  refine (url_Parse s w hs HE).mono ?_
  rintro e w2 ⟨⟨v, rfl, HV⟩, HB2⟩
  have HFI := Lib.hid (url_fine (bl s))
  obtain ⟨o, ho⟩ : ∃ o, urlS (bl s) = o := ⟨_, rfl⟩
  have HTO : Hid (textO (bl s) = textR o) := by unfold Hid; rw [textO_is, ho]
  have HER := Lib.hid (fun x (h : o = .error x) => url_err (ho.trans h))
  rw [ho] at HV HFI ⊢
  obtain ⟨c, p, rfl, hc, hp⟩ := HV.out
  have HP := Lib.hid hp
  have HC := Lib.hid hc
  clear HV hp hc ho
  have h1c := own_cell HP.out
  have hr3 : RowAt (w2.alloc (.cells noC.cells.toArray 24)) w2.heap.size (noC.cells ++ []) := RowAt.new w2 noC.cells.toArray 24
  have hb3 : Bel w2 (w2.alloc (.cells noC.cells.toArray 24)) := (Below.refl _ w2).alloc (Nat.le_refl _) _
  rw [no_cells] at hr3 hb3
  have HR3 := Lib.hid hr3
  have HB3 := Lib.hid hb3
  clear hr3 hb3
  cases o with
  | error x =>
    have hx := HER.out x rfl
    have hx1 : (whyE (.error x) != 0) = true := by rw [bne_iff_ne]; show x ≠ 0; omega
    have hx2 : (whyE (.error x) == 0) = false := by rw [beq_eq_false_iff_ne]; show x ≠ 0; omega
    clear hx
    generalize whyE (.error x) = E at *
    go_wp2_with (first | (refine store_url rfl _ _ (by exact rfl) w2.heap.size (by exact rfl) noC c [] (by exact rfl) HR3.out h1c ?_; intro w4 HR4 HP4))
    go_ret
    exact ⟨⟨_, rfl, by unfold Hid; rw [HTO.out]; rfl, by decide⟩, BelP.bel HB2.out (fun k hk => by rw [hk]; exact HB2.out.size) ((BelP.of _ HB3.out).trans HP4.out)⟩
  | ok u =>
    rw [show whyE (.ok u) = 0 from rfl]
    go_wp2_with (first | (refine store_url rfl _ _ (by exact rfl) w2.heap.size (by exact rfl) noC c [] (by exact rfl) HR3.out h1c ?_; intro w4 HR4 HP4) | (refine load_url rfl _ (by exact rfl) w2.heap.size (by exact rfl) c [] HR4.out ?_))
    have HB4 : Hid (Bel w w4) := BelP.bel HB2.out (fun k hk => by rw [hk]; exact HB2.out.size) ((BelP.of _ HB3.out).trans HP4.out)
    have HO4 := Lib.hid (own_fresh HP.out (Nat.le_refl _) HB3.out HP4.out)
    have HZ : Hid (Small c p) := Fine.small (n := 12334) (by rw [HC.out]; exact HFI.out) (by decide)
    refine (url_Text c p w.heap.size w4 HO4 (Lib.hid (HE.out.bel HB4.out)) HZ).mono ?_
    rintro e w5 ⟨⟨t, rfl, ht, htz⟩, HB5⟩
    go_wp2
    go_ret
    exact ⟨⟨t, rfl, by unfold Hid; rw [HTO.out, ht.out, HC.out]; rfl, htz⟩, bel_trans HB4.out HB5.out⟩
set_option maxHeartbeats 1000000 in
set_option maxRecDepth 100000 in
theorem law3_why (s : ByteArray) (w : World) (hs : s.size ≤ 1000000) (HE : Hid (Env w)) :
    Calls Tryz.prog 25 #[.string s] w fun e w' => e = .returned (.int .i64 (whyE (urlS (bl s)))) ∧ Hid (Bel w w') := by
  go_enter Tryz.func25, Tryz.ntmps25
  go_wp2_with fail
  refine (url_Parse s w hs HE).mono ?_
  rintro e w2 ⟨⟨v, rfl, HV⟩, HB2⟩
  obtain ⟨c, p, rfl, hc, hp⟩ := HV.out
  have HP := Lib.hid hp
  clear HV hp hc
  have h1c := own_cell HP.out
  have hr3 : RowAt (w2.alloc (.cells noC.cells.toArray 24)) w2.heap.size (noC.cells ++ []) := RowAt.new w2 noC.cells.toArray 24
  have hb3 : Bel w2 (w2.alloc (.cells noC.cells.toArray 24)) := (Below.refl _ w2).alloc (Nat.le_refl _) _
  rw [no_cells] at hr3 hb3
  have HR3 := Lib.hid hr3
  have HB3 := Lib.hid hb3
  clear hr3 hb3
  obtain ⟨E, hE⟩ : ∃ E, whyE (urlS (bl s)) = E := ⟨_, rfl⟩
  rw [hE]
  have HEE := Lib.hid hE
  clear hE
  go_wp2_with (first | (refine store_url rfl _ _ (by exact rfl) w2.heap.size (by exact rfl) noC c [] (by exact rfl) HR3.out h1c ?_; intro w4 HR4 HP4))
  go_ret
  exact ⟨by rw [HEE.out]; rfl, BelP.bel HB2.out (fun k hk => by rw [hk]; exact HB2.out.size) ((BelP.of _ HB3.out).trans HP4.out)⟩
set_option maxHeartbeats 2000000 in
set_option maxRecDepth 100000 in
theorem law3_joined (s b : ByteArray) (w : World) (hs : s.size ≤ 1000000) (hbs : b.size ≤ 1000000) (HE : Hid (Env w)) :
    Calls Tryz.prog 26 #[.string s, .string b] w fun e w' => (∃ t, e = .returned (.string t) ∧ Hid (bl t = joinO (bl s) (bl b)) ∧ t.size ≤ 16000000) ∧ Hid (Bel w w') := by
  go_enter Tryz.func26, Tryz.ntmps26
  go_wp2_with fail
  refine (ref3_Parse b w hbs HE).mono ?_
  rintro e w2 ⟨⟨v, rfl, HV⟩, HB2⟩
  have HFI := Lib.hid (url_fine (bl b))
  obtain ⟨c, p, rfl, hc, hp⟩ := HV.out
  have HP := Lib.hid hp
  have HC := Lib.hid hc
  clear HV hp hc
  have h1c := own_cell HP.out
  have hr3 : RowAt (w2.alloc (.cells noC.cells.toArray 24)) w2.heap.size (noC.cells ++ []) := RowAt.new w2 noC.cells.toArray 24
  have hb3 : Bel w2 (w2.alloc (.cells noC.cells.toArray 24)) := (Below.refl _ w2).alloc (Nat.le_refl _) _
  rw [no_cells] at hr3 hb3
  have HR3 := Lib.hid hr3
  have HB3 := Lib.hid hb3
  clear hr3 hb3
  have hpl : p.length ≤ 1000000 := by
    have h1 := HFI.out.1; rw [← HC.out] at h1; have h2 := plen_ge p
    unfold slen UrlC.flat at h1; simp only [] at h1; omega
  generalize whyE (urlS (bl b)) = E0 at *
  go_wp2_with (first | (refine store_url rfl _ _ (by exact rfl) w2.heap.size (by exact rfl) noC c [] (by exact rfl) HR3.out h1c ?_; intro w4 HR4 HP4) | (refine load_url rfl _ (by exact rfl) w2.heap.size (by exact rfl) c [] HR4.out ?_))
  have HB4 : Hid (Bel w w4) := BelP.bel HB2.out (fun k hk => by rw [hk]; exact HB2.out.size) ((BelP.of _ HB3.out).trans HP4.out)
  have HO4 := Lib.hid (own_fresh HP.out (Nat.le_refl _) HB3.out HP4.out)
  refine (url_Join s c p w.heap.size w4 hs hpl (Lib.hid (HE.out.bel HB4.out)) HO4).mono ?_
  rintro e w5 ⟨⟨v, rfl, HV⟩, HB5⟩
  have HB5' := Lib.hid (bel_trans HB4.out HB5.out)
  have HFJ := Lib.hid (join_fine (bl s) HFI.out)
  rw [HC.out] at HV ⊢
  have HJO := Lib.hid (joinO_is (bl s) (bl b))
  obtain ⟨o, ho⟩ : ∃ o, joinS (bl s) (okU (urlS (bl b))) = o := ⟨_, rfl⟩
  have HER := Lib.hid (fun x (h : o = .error x) => join_err (ho.trans h))
  rw [ho] at HV HFJ HJO ⊢
  obtain ⟨c2, q, rfl, hc2, hp2⟩ := HV.out
  have HP2 := Lib.hid hp2
  have HC2 := Lib.hid hc2
  clear HV hp2 hc2 ho HP HR3 HB3 HR4 HP4 HO4
  have h1c2 := own_cell HP2.out
  have hr3 : RowAt (w5.alloc (.cells noC.cells.toArray 24)) w5.heap.size (noC.cells ++ []) := RowAt.new w5 noC.cells.toArray 24
  have hb3 : Bel w5 (w5.alloc (.cells noC.cells.toArray 24)) := (Below.refl _ w5).alloc (Nat.le_refl _) _
  rw [no_cells] at hr3 hb3
  have HR6 := Lib.hid hr3
  have HB6 := Lib.hid hb3
  clear hr3 hb3
  cases o with
  | error x =>
    have hx := HER.out x rfl
    have hx1 : (whyE (.error x) != 0) = true := by rw [bne_iff_ne]; show x ≠ 0; omega
    have hx2 : (whyE (.error x) == 0) = false := by rw [beq_eq_false_iff_ne]; show x ≠ 0; omega
    clear hx
    generalize whyE (.error x) = E at *
    go_wp2_with (first | (refine store_url rfl _ _ (by exact rfl) w5.heap.size (by exact rfl) noC c2 [] (by exact rfl) HR6.out h1c2 ?_; intro w7 HR7 HP7))
    go_ret
    exact ⟨⟨_, rfl, by unfold Hid; rw [HJO.out]; rfl, by decide⟩, BelP.bel HB5'.out (fun k hk => by rw [hk]; exact HB5'.out.size) ((BelP.of _ HB6.out).trans HP7.out)⟩
  | ok u =>
    rw [show whyE (.ok u) = 0 from rfl]
    go_wp2_with (first | (refine store_url rfl _ _ (by exact rfl) w5.heap.size (by exact rfl) noC c2 [] (by exact rfl) HR6.out h1c2 ?_; intro w7 HR7 HP7) | (refine load_url rfl _ (by exact rfl) w5.heap.size (by exact rfl) c2 [] HR7.out ?_))
    have HB7 : Hid (Bel w w7) := BelP.bel HB5'.out (fun k hk => by rw [hk]; exact HB5'.out.size) ((BelP.of _ HB6.out).trans HP7.out)
    have HO7 := Lib.hid (own_fresh HP2.out (Nat.le_refl _) HB6.out HP7.out)
    have HZ : Hid (Small c2 q) := Fine.small (n := 12334 + 12334) (by rw [HC2.out]; exact HFJ.out) (by decide)
    refine (url_Text c2 q w4.heap.size w7 HO7 (Lib.hid (HE.out.bel HB7.out)) HZ).mono ?_
    rintro e w8 ⟨⟨t, rfl, ht, htz⟩, HB8⟩
    go_wp2
    go_ret
    exact ⟨⟨t, rfl, by unfold Hid; rw [HJO.out, ht.out, HC2.out]; rfl, htz⟩, bel_trans HB7.out HB8.out⟩
set_option maxHeartbeats 1000000 in
set_option maxRecDepth 100000 in
/-- Chapter 3's runs that every statement asks for. -/
theorem law3_known (w : World) (HE : Hid (Env w)) :
    Calls Tryz.prog 28 #[] w fun e w' => e = .returned (.bool true) ∧ Hid (Bel w w') := by
  have H0 : Hid (∀ t : ByteArray, bl t = textO (bl ⟨#[72, 84, 84, 80, 58, 47, 47, 117, 58, 112, 64, 69, 88, 46, 99, 111, 109, 58, 56, 48, 47, 97, 47, 46, 46, 47, 98, 32, 99, 63, 113, 39, 35, 102]⟩) → t = ⟨#[104, 116, 116, 112, 58, 47, 47, 117, 58, 112, 64, 101, 120, 46, 99, 111, 109, 47, 98, 37, 50, 48, 99, 63, 113, 37, 50, 55, 35, 102]⟩) := fun t h => bl_inj (h.trans un_t0)
  have H1 : Hid (∀ t : ByteArray, bl t = joinO (bl ⟨#[46, 46, 47, 120]⟩) (bl ⟨#[104, 116, 116, 112, 58, 47, 47, 104, 47, 97, 47, 98, 47, 99]⟩) → t = ⟨#[104, 116, 116, 112, 58, 47, 47, 104, 47, 97, 47, 120]⟩) := fun t h => bl_inj (h.trans un_j0)
  have H2 := Lib.hid (show ownS (bl ⟨#[119, 115, 115]⟩) = 443 by decide +kernel)
  have H3 := Lib.hid (show specialS (bl ⟨#[100, 97, 116, 97]⟩) = false by decide +kernel)
  go_enter Tryz.func28, Tryz.ntmps28
  go_wp2_with fail
  refine (law3_text _ w (by decide) HE).mono ?_
  rintro e w1 ⟨⟨t, rfl, ht, _⟩, HB1⟩
  obtain rfl := H0.out t ht.out
  go_wp2_with fail
  refine (law3_joined _ _ w1 (by decide) (by decide) (Lib.hid (HE.out.bel HB1.out))).mono ?_
  rintro e w2 ⟨⟨t, rfl, ht2, _⟩, HB2⟩
  obtain rfl := H1.out t ht2.out
  go_wp2_with (first | (go_at_call 36; go_must (refine (url_Own _ _).mono ?_); rintro e w' ⟨rfl, rfl⟩; rw [H2.out]) | (go_at_call 35; go_must (refine (url_Special _ _).mono ?_); rintro e w' ⟨rfl, rfl⟩; rw [H3.out]))
  go_ret
  exact ⟨rfl, bel_trans HB1.out HB2.out⟩
end Go.Proofs.YtbpkkgaaeodimaaGreatDoor
namespace Go.Proofs.YtbpkkgaaeodimaaGreatDoor
open Go.RowKit

/-! The statements' own texts: letters, numerals, a number up to another. -/
/-- Small letters, one at least. -/
def LetH (t : ByteArray) : Prop := (∀ x ∈ bl t, smallB x = true) ∧ bl t ≠ []
theorem let_next {t : ByteArray} (h : LetH t) (u : ByteArray) (x : UInt8) (hu : bl u = [x]) (hx : smallB x = true) : LetH (t ++ u) := by
  refine ⟨fun y hy => ?_, ?_⟩
  · rw [bl_append, hu, List.mem_append, List.mem_singleton] at hy
    rcases hy with hy | rfl
    · exact h.1 y hy
    · exact hx
  · rw [bl_append, hu]
    simp
theorem small_iff3 (x : UInt8) : smallB x = true ↔ 97 ≤ (x.toNat : Int) ∧ (x.toNat : Int) ≤ 122 := by
  unfold smallB
  rw [Bool.and_eq_true, decide_eq_true_eq, decide_eq_true_eq]
  omega
set_option maxHeartbeats 4000000 in
set_option maxRecDepth 100000 in
theorem law3_letters (host : ByteArray) (w : World) (hs : host.size ≤ 140737488351232) :
    Calls Tryz.prog 37 #[.string host] w fun e w' => (∃ t, e = .returned (.string t) ∧ Hid (LetH t) ∧ t.size ≤ 20) ∧ w = w' := by
  have hs2 : ¬ 9223372036854775807 < host.size := by omega
  go_enter Tryz.func37, Tryz.ntmps37
  go_wp2
  go_loopg [3, 4] host.size (fun g v3 v4 wr => ∃ (k : Nat) (t : ByteArray), v4 = .int .i64 k ∧ k + g = host.size ∧ v3 = .string t ∧ t.size ≤ 20 ∧ Hid (LetH t) ∧ w = wr)
  case atStart => exact ⟨0, ⟨#[113]⟩, rfl, by omega, rfl, by decide, by exact (show LetH ⟨#[113]⟩ from ⟨by decide, by decide⟩), rfl⟩
  case round =>
    obtain ⟨k, t, rfl, hk, rfl, ht, HP, rfl⟩ := hrel
    by_cases hgo : k < host.size ∧ t.size < 20
    · obtain ⟨hlt, ht12⟩ := hgo
      have hc : (t.size : Int) < 20 := by omega
      have hsm := small_iff3 host[k]
      by_cases hx : smallB host[k] = true
      · obtain ⟨x1, x2⟩ := hsm.1 hx
        have p1 : (k : Int) + 1 ≤ host.size := by omega
        have p2 : (0 : Int) ≤ k := by omega
        have p3 : ((k : Int) + 1).toNat = k + 1 := by omega
        have p4 : (k : Int) ≤ (k : Int) + 1 := by omega
        have e1 : IntKind.i64.wrap ((k : Int) + 1) = (k : Int) + 1 := IntWalk.i64_in _ (by omega)
        have hz1 : (host.extract k (k + 1)).size = 1 := by rw [ByteArray.size_extract]; omega
        have HU : Hid (bl (host.extract k (k + 1)) = [host[k]]) := by
          unfold Hid
          rw [bl_extract, bl_drop host k hlt, show k + 1 - k = 1 by omega]; rfl
        have hcat : ¬ 9223372036854775807 < t.size + (min (k + 1) host.size - k) := by omega
        have HPN := Lib.hid (let_next HP.out _ _ HU.out hx)
        clear hsm
        go_wp2
        go_roundg (gk - 1)
        case measure => omega
        case rel => exact ⟨k + 1, _, by go_num, by omega, rfl, by rw [ByteArray.size_append, hz1]; omega, HPN, rfl⟩
      · have hx2 : (host[k].toNat : Int) < 97 ∨ (97 ≤ (host[k].toNat : Int) ∧ 122 < (host[k].toNat : Int)) := by
          by_cases h : 97 ≤ (host[k].toNat : Int)
          · right; refine ⟨h, ?_⟩
            rcases Int.lt_or_le 122 (host[k].toNat : Int) with q | q
            · exact q
            · exact absurd (hsm.2 ⟨h, q⟩) hx
          · left; omega
        clear hsm hx
        rcases hx2 with hx2 | ⟨hx2, hx3⟩
        all_goals
          go_wp2
          go_roundg (gk - 1)
          case measure => omega
          case rel => exact ⟨k + 1, t, by go_num, by omega, rfl, ht, HP, rfl⟩
    · have hexit : (¬ (k : Int) < host.size) ∨ ((k : Int) < host.size ∧ ¬ (t.size : Int) < 20) := by
        by_cases h : k < host.size
        · right; exact ⟨by omega, fun q => hgo ⟨h, by omega⟩⟩
        · left; omega
      clear hgo
      rcases hexit with h1 | ⟨h1, h2⟩
      all_goals
        go_wp2
        go_ret
        exact ⟨⟨t, rfl, HP, ht⟩, rfl⟩
set_option maxHeartbeats 1000000 in
set_option maxRecDepth 100000 in
theorem law3_upto (n : Int) (hi : Nat) (w : World) (h1 : -9223372036854775808 ≤ n) (h2 : n ≤ 9223372036854775807) (hh : hi ≤ 65535) :
    Calls Tryz.prog 38 #[.int .i64 n, .int .i64 hi] w fun e w' => (∃ k : Nat, e = .returned (.int .i64 k) ∧ k ≤ hi) ∧ w = w' := by
  have e1 : IntKind.i64.wrap ((hi : Int) + 1) = (hi : Int) + 1 := IntWalk.i64_in _ (by omega)
  have z1 : ¬ ((hi : Int) + 1 = 0) := by omega
  have hmod : ∀ m : Nat, (m : Int).tmod ((hi : Int) + 1) = ((m % (hi + 1) : Nat) : Int) := fun m => by
    rw [show ((hi : Int) + 1) = ((hi + 1 : Nat) : Int) by omega]; rfl
  have hle : ∀ m : Nat, m % (hi + 1) ≤ hi := fun m => by have := Nat.mod_lt m (show 0 < hi + 1 by omega); omega
  have HM := Lib.hid hmod
  have HL := Lib.hid hle
  clear hmod hle
  by_cases hneg : n < 0
  · obtain ⟨m, hm⟩ : ∃ m : Nat, -(n + 1) = (m : Int) := ⟨(-(n + 1)).toNat, by omega⟩
    have e2 : IntKind.i64.wrap (n + 1) = n + 1 := IntWalk.i64_in _ (by omega)
    have e3 : IntKind.i64.wrap (-(n + 1)) = (m : Int) := by rw [hm]; exact IntWalk.i64_in _ (by omega)
    have e4 := HM.out m
    have e5 : IntKind.i64.wrap (((m % (hi + 1) : Nat) : Int)) = ((m % (hi + 1) : Nat) : Int) := IntWalk.i64_in _ (by have := HL.out m; omega)
    go_enter Tryz.func38, Tryz.ntmps38
    go_wp2
    go_ret
    exact ⟨⟨m % (hi + 1), by first | rfl | (simp_all) , HL.out m⟩, rfl⟩
  · obtain ⟨m, rfl⟩ : ∃ m : Nat, n = (m : Int) := ⟨n.toNat, by omega⟩
    have e4 := HM.out m
    have e5 : IntKind.i64.wrap (((m % (hi + 1) : Nat) : Int)) = ((m % (hi + 1) : Nat) : Int) := IntWalk.i64_in _ (by have := HL.out m; omega)
    go_enter Tryz.func38, Tryz.ntmps38
    go_wp2
    go_ret
    exact ⟨⟨m % (hi + 1), by first | rfl | (simp_all), HL.out m⟩, rfl⟩
set_option maxHeartbeats 2000000 in
set_option maxRecDepth 100000 in
theorem law3_digits (n : Nat) (w : World) (hn : n ≤ 4294967295) :
    Calls Tryz.prog 39 #[.int .i64 n] w fun e w' => (∃ t, e = .returned (.string t) ∧ Hid (bl t = digs 10 n) ∧ t.size ≤ 30) ∧ w = w' := by
  go_enter Tryz.func39, Tryz.ntmps39
  go_wp2
  go_loop [0, 3] (fun i t => ∃ (k : Nat) (s : ByteArray), i = .int .i64 k ∧ t = .string s ∧ k ≤ n ∧ Hid (DigInv 10 n k (bl s))) (fun i t => match t with | .string s => (intOf i).toNat + (if (bl s).isEmpty then 1 else 0) | _ => 0)
  case atStart => exact ⟨n, ⟨#[]⟩, rfl, rfl, Nat.le_refl _, DigInv.start 10 n⟩
  case round =>
    obtain ⟨k, s, rfl, rfl, hk, HI⟩ := hrel
    have hsz : s.size ≤ 30 := by have h1 := HI.out.len (by omega); have h2 := digs_len 10 (by omega) 11 n (by omega) (by omega); rw [bl_length] at h1; omega
    by_cases hz : k = 0
    · subst hz
      by_cases he : bl s = []
      · have HS := Lib.hid (HI.out.step (by omega) (.inr he))
        have he' : s.toList.isEmpty = true := (str_empty s).2 he
        clear HI he
        go_wp2
        refine ⟨⟨0, _, rfl, rfl, by omega, ?_⟩, ?_⟩
        · unfold Hid; rw [bl_append]; exact HS.out
        · have h1 : bl s = [] := (str_empty s).1 he'
          have h2 : (bl ((⟨#[48, 49, 50, 51, 52, 53, 54, 55, 56, 57]⟩ : ByteArray).extract 0 1 ++ s)).isEmpty = false := by rw [bl_append]; rfl
          simp only [intOf, h2, h1]
          simp
      · have HS := Lib.hid (HI.out.done (by simp [he]))
        have he' : s.toList.isEmpty = false := by rw [Bool.eq_false_iff, ne_eq, str_empty]; exact he
        clear HI he
        go_wp2
        go_ret
        exact ⟨⟨_, rfl, HS, hsz⟩, rfl⟩
    · have HS := Lib.hid (HI.out.step (by omega) (.inl (by omega)))
      have m1 : (k : Int).tmod 10 = ((k % 10 : Nat) : Int) := rfl
      have m2 : (k : Int).tdiv 10 = ((k / 10 : Nat) : Int) := rfl
      have m3 : ((k % 10 : Nat) : Int) ≤ 9 := by omega
      clear HI
      go_wp2
      refine ⟨⟨k / 10, _, by go_num, rfl, by omega, ?_⟩, ?_⟩
      · unfold Hid; rw [bl_append]; have := dig_piece10 ⟨k % 10, by omega⟩; dsimp only at this; rw [this]; exact HS.out
      · have h2 : (bl ((⟨#[48, 49, 50, 51, 52, 53, 54, 55, 56, 57]⟩ : ByteArray).extract (k % 10) (k % 10 + 1) ++ s)).isEmpty = false := by
          rw [bl_append]; have := dig_piece10 ⟨k % 10, by omega⟩; dsimp only at this; rw [this]; rfl
        simp only [intOf, h2]
        simp
        split <;> omega
end Go.Proofs.YtbpkkgaaeodimaaGreatDoor
namespace Go.Proofs.YtbpkkgaaeodimaaGreatDoor
open Go.RowKit

/-! Two addresses that are the same. -/
theorem ReadP.shape {w : World} {v : Value} {p : List (List UInt8)} (h : ReadP w v p) : ∃ A n, v = .slice A p.length n ∧ ∀ (k : Nat) (t : ByteArray), p[k]? = some (bl t) → ∃ g, A = some ⟨g, 0, none⟩ ∧ w.cell? ⟨g, k, none⟩ = some (.string t) := by
  rcases h with ⟨h1, h2⟩ | ⟨g, c, h1, h2, h3⟩
  · subst h2
    exact ⟨none, 0, h1, fun k t hk => by simp at hk⟩
  · exact ⟨_, c, h1, fun k t hk => ⟨g, rfl, strs_cell h3 hk⟩⟩
set_option maxHeartbeats 2000000 in
set_option maxRecDepth 100000 in
theorem book_Same (v1 v2 : Value) (p : List (List UInt8)) (w : World) (hp : p.length ≤ 1000000) (H1 : Hid (ReadP w v1 p)) (H2 : Hid (ReadP w v2 p)) :
    Calls Tryz.prog 57 #[v1, v2] w fun e w' => e = .returned (.bool true) ∧ Hid (Bel w w') := by
  obtain ⟨A1, n1, rfl, hc1⟩ := H1.out.shape
  obtain ⟨A2, n2, rfl, hc2⟩ := H2.out.shape
  have HC1 := Lib.hid hc1
  have HC2 := Lib.hid hc2
  have HPL := Lib.hid hp
  clear hc1 hc2
  go_enter Tryz.func57, Tryz.ntmps57
  go_wp2
  go_loopg [5] p.length (fun g v5 wr => ∃ k : Nat, v5 = .int .i64 k ∧ k + g = p.length ∧ Hid (Bel w wr))
  case atStart => exact ⟨0, rfl, by omega, Below.refl _ _⟩
  case round =>
    obtain ⟨k, rfl, hk, HB⟩ := hrel
    have hpn := HPL.out
    by_cases hlt : k < p.length
    · obtain ⟨t, ht⟩ : ∃ t, p[k]? = some (bl t) := ⟨⟨p[k].toArray⟩, by rw [bl_mk, List.getElem?_eq_getElem hlt]⟩
      obtain ⟨g1, rfl, k1⟩ := HC1.out k t ht
      obtain ⟨g2, rfl, k2⟩ := HC2.out k t ht
      have q1 : (k : Int) < p.length := by omega
      have q0 : (0 : Int) ≤ k := by omega
      replace k1 := bel_cell HB.out k1
      replace k2 := bel_cell HB.out k2
      clear ht
      go_upto_region 6 with (fail)
      go_region_held3 (fun w' => w'.cell? ⟨g1, k, none⟩ = some (.string t) ∧ w'.cell? ⟨g2, k, none⟩ = some (.string t)) (exact ⟨k1, k2⟩) (fail)
      clear k1 k2
      go_wp2
      go_roundg (gk - 1)
      case measure => omega
      case rel => exact ⟨k + 1, by go_num, by omega, bel_trans HB.out (bel_drew wr)⟩
    · have q1 : ¬ (k : Int) < p.length := by omega
      go_wp2
      go_ret
      exact ⟨rfl, HB⟩
set_option maxHeartbeats 4000000 in
set_option maxRecDepth 100000 in
theorem keep_SameURL (c1 c2 : UrlC) (p1 p2 : List (List UInt8)) (w : World) (h : c1.flat p1 = c2.flat p2) (hp : p1.length ≤ 1000000) (H1 : Hid (ReadP w c1.path p1)) (H2 : Hid (ReadP w c2.path p2)) :
    Calls Tryz.prog 32 #[.agg c1.cells.toArray, .agg c2.cells.toArray] w fun e w' => e = .returned (.bool true) ∧ Hid (Bel w w') := by
  have e1 : c1.scheme = c2.scheme := bl_inj (congrArg UrlS.scheme h)
  have e2 : c1.user = c2.user := bl_inj (congrArg UrlS.user h)
  have e3 : c1.pass = c2.pass := bl_inj (congrArg UrlS.pass h)
  have e4 : c1.host = c2.host := bl_inj (congrArg UrlS.host h)
  have e5 : c1.hasHost = c2.hasHost := congrArg UrlS.hasHost h
  have e6 : c1.port = c2.port := congrArg UrlS.port h
  have e7 : c1.opaq = c2.opaq := congrArg UrlS.opaq h
  have e8 : p1 = p2 := congrArg UrlS.path h
  have e9 : c1.query = c2.query := bl_inj (congrArg UrlS.query h)
  have e10 : c1.frag = c2.frag := bl_inj (congrArg UrlS.frag h)
  have e11 : c1.hasQuery = c2.hasQuery := congrArg UrlS.hasQuery h
  have e12 : c1.hasFrag = c2.hasFrag := congrArg UrlS.hasFrag h
  subst e8
  clear h
  have o1 : c1.path.oneCell' = true := by obtain ⟨A, n, e, _⟩ := H1.out.shape; rw [e]; rfl
  have o2 : c2.path.oneCell' = true := by obtain ⟨A, n, e, _⟩ := H2.out.shape; rw [e]; rfl
  obtain ⟨x1, x2, x3, x4, x5, x6, x7, y1, x8, x9, x10, x11⟩ := c1
  obtain ⟨z1, z2, z3, z4, z5, z6, z7, y2, z8, z9, z10, z11⟩ := c2
  dsimp only at *
  subst e1 e2 e3 e4 e5 e6 e7 e9 e10 e11 e12
  have HB0 : Hid (Bel w ((w.alloc (.cells (UrlC.mk x1 x2 x3 x4 x5 x6 x7 y1 x8 x9 x10 x11).cells.toArray 24)).alloc (.cells (UrlC.mk x1 x2 x3 x4 x5 x6 x7 y2 x8 x9 x10 x11).cells.toArray 24))) := ((Below.refl _ w).alloc (Nat.le_refl _) _).alloc (by simp) _
  have RA : Hid (RowAt ((w.alloc (.cells (UrlC.mk x1 x2 x3 x4 x5 x6 x7 y1 x8 x9 x10 x11).cells.toArray 24)).alloc (.cells (UrlC.mk x1 x2 x3 x4 x5 x6 x7 y2 x8 x9 x10 x11).cells.toArray 24)) w.heap.size ((UrlC.mk x1 x2 x3 x4 x5 x6 x7 y1 x8 x9 x10 x11).cells ++ [])) := by unfold Hid; rw [List.append_nil]; exact (RowAt.new w _ _).bel ((Below.refl _ _).alloc (Nat.le_refl _) _)
  have hrb := RowAt.new (w.alloc (.cells (UrlC.mk x1 x2 x3 x4 x5 x6 x7 y1 x8 x9 x10 x11).cells.toArray 24)) (UrlC.mk x1 x2 x3 x4 x5 x6 x7 y2 x8 x9 x10 x11).cells.toArray 24
  rw [show (w.alloc (.cells (UrlC.mk x1 x2 x3 x4 x5 x6 x7 y1 x8 x9 x10 x11).cells.toArray 24)).heap.size = w.heap.size + 1 by simp] at hrb
  have RB : Hid (RowAt ((w.alloc (.cells (UrlC.mk x1 x2 x3 x4 x5 x6 x7 y1 x8 x9 x10 x11).cells.toArray 24)).alloc (.cells (UrlC.mk x1 x2 x3 x4 x5 x6 x7 y2 x8 x9 x10 x11).cells.toArray 24)) (w.heap.size + 1) ((UrlC.mk x1 x2 x3 x4 x5 x6 x7 y2 x8 x9 x10 x11).cells ++ [])) := by unfold Hid; rw [List.append_nil]; exact hrb
  clear hrb
  have HQ := fun W (hW : Hid (Bel w W)) => book_Same y1 y2 p1 W hp (Lib.hid (H1.out.bel hW.out)) (Lib.hid (H2.out.bel hW.out))
  rw [show (UrlC.mk x1 x2 x3 x4 x5 x6 x7 y1 x8 x9 x10 x11).cells.toArray = #[.string x1, .string x2, .string x3, .string x4, .bool x5, .int .i64 x6, .bool x7, y1, .string x8, .string x9, .bool x10, .bool x11] from rfl, show (UrlC.mk x1 x2 x3 x4 x5 x6 x7 y2 x8 x9 x10 x11).cells.toArray = #[.string x1, .string x2, .string x3, .string x4, .bool x5, .int .i64 x6, .bool x7, y2, .string x8, .string x9, .bool x10, .bool x11] from rfl] at *
  go_enter Tryz.func32, Tryz.ntmps32
  go_wp2_with fail
  refine (HQ _ HB0).mono ?_
  rintro e w2 ⟨rfl, HB2⟩
  have HB3 := Lib.hid (bel_trans HB0.out HB2.out)
  have HRA := Lib.hid ((RowAt.bel RA.out HB2.out))
  have HRB := Lib.hid ((RowAt.bel RB.out HB2.out))
  obtain ⟨⟨_, _⟩, ⟨_, _⟩, ⟨_, _⟩, ⟨_, _⟩, ⟨_, _⟩, ⟨_, _⟩, ⟨_, _⟩, ⟨_, _⟩, ⟨k8, _⟩, ⟨k9, _⟩, ⟨k10, _⟩, ⟨k11, _⟩⟩ := at_row HRA.out
  obtain ⟨⟨_, _⟩, ⟨_, _⟩, ⟨_, _⟩, ⟨_, _⟩, ⟨_, _⟩, ⟨_, _⟩, ⟨_, _⟩, ⟨_, _⟩, ⟨l8, _⟩, ⟨l9, _⟩, ⟨l10, _⟩, ⟨l11, _⟩⟩ := at_row HRB.out
  go_wp2
  go_ret
  exact ⟨rfl, HB3⟩
end Go.Proofs.YtbpkkgaaeodimaaGreatDoor
