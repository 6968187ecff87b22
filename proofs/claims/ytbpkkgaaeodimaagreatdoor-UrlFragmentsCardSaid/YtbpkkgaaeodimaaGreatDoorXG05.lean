import Derived.Test.YtbpkkgaaeodimaaGreatDoorXG04
import Derived.WalkMore
import Derived.Laws.BitsAllLaws
namespace Go.Proofs.YtbpkkgaaeodimaaGreatDoor
open Go.RowKit

theorem okDig_of {b : Nat} {x : UInt8} (h : 0 ≤ hexV x.toNat) (h2 : hexV x.toNat < b) : okDig b x = true := by simp [okDig, h, h2]
theorem okDig_no {b : Nat} {x : UInt8} (h : hexV x.toNat < 0 ∨ b ≤ hexV x.toNat) : okDig b x = false := by
  simp only [okDig, decide_eq_false_iff_not]; omega
theorem valF_mono (b : Nat) : ∀ (l : List UInt8) (m n : Nat), m ≤ n → valF b m l ≤ valF b n l
  | [], _, _, h => h
  | x :: r, m, n, h => by
    unfold valF
    exact valF_mono b r _ _ (Nat.add_le_add_right (Nat.mul_le_mul_right b h) _)
/-- the loop's number, cut off at the cap -/
theorem cap_min {m n cap : Nat} (h : n = min m cap) (b d : Nat) (hb : 1 ≤ b) : min (n * b + d) cap = min (m * b + d) cap := by
  subst h
  by_cases hm : m ≤ cap
  · rw [Nat.min_eq_left hm]
  · rw [Nat.min_eq_right (by omega : cap ≤ m)]
    have h1 : cap ≤ cap * b := Nat.le_mul_of_pos_right _ hb
    have h2 : cap * b ≤ m * b := Nat.mul_le_mul_right b (by omega)
    omega
set_option maxHeartbeats 400000 in
set_option maxRecDepth 100000 in
theorem ref2_number (s : ByteArray) (w : World) (hs : s.size ≤ 1000000) :
    Calls Tryz.prog 183 #[.string s] w fun e w' => e = .returned (.tuple #[.int .u64 (optC 1099511627776 (numberS (bl s))), .bool (numberS (bl s)).isSome]) ∧ w = w' := by
  have h1 : bl ⟨#[48, 120]⟩ = [48, 120] := rfl
  have h2 : bl ⟨#[48, 88]⟩ = [48, 88] := rfl
  obtain ⟨h, hh⟩ : ∃ h, hexS (bl s) = h := ⟨_, rfl⟩
  have HH := Lib.hid hh
  have hS : (begins (bl s) [48, 120] || begins (bl s) [48, 88]) = h := hh
  have hsz : h = true → 2 ≤ s.size := by
    intro e
    rw [e] at hh
    unfold hexS begins at hh
    simp only [Bool.or_eq_true, Bool.and_eq_true, decide_eq_true_eq, List.length_cons, List.length_nil, bl_length] at hh
    omega
  have HZ := Lib.hid hsz
  clear hh hsz
  cases ha : begins (bl s) [48, 120] <;> cases hb : begins (bl s) [48, 88]
  all_goals
    rw [ha, hb] at hS
    simp only [Bool.or_true, Bool.or_false] at hS
    subst hS
    go_enter Tryz.func183, Tryz.ntmps183
    go_upto_if 13 with (go_at_call 74; refine (ref1_Begins _ _ _).mono ?_; rintro e w' ⟨rfl, rfl⟩)
    clear h1 h2 ha hb
    go_cut [0, 4] (fun v0 v4 wc => (∃ (q : ByteArray) (b : Nat), v0 = .string q ∧ v4 = .int .u64 b ∧ q.size ≤ s.size ∧ Hid (NumBy s q b)) ∧ w = wc)
    case first =>
      first
        | (have hz2 : 2 ≤ s.size := HZ.out trivial
           by_cases h0 : s.size = 2
           · have h0' : (s.extract 2 s.size).toList.isEmpty = true := (str_empty _).2 (by rw [bl_extract]; exact List.length_eq_zero_iff.1 (by rw [List.length_take, List.length_drop, bl_length]; omega))
             have HN : Hid (numberS (bl s) = some 0) := num_hex0 HH.out (List.length_eq_zero_iff.1 (by rw [List.length_drop, bl_length]; omega))
             clear HZ h0
             go_wp2
             go_ret2
             exact ⟨by rw [HN.out]; rfl, rfl⟩
           · have h0' : (s.extract 2 s.size).toList.isEmpty = false := by
               rw [Bool.eq_false_iff, ne_eq, str_empty, bl_extract]
               intro h
               have := congrArg List.length h
               rw [List.length_take, List.length_drop, bl_length, List.length_nil] at this
               omega
             have H0 := Lib.hid h0
             clear HZ h0
             go_wp2
             go_meet
             exact ⟨⟨_, 16, rfl, rfl, by rw [ByteArray.size_extract]; omega, by_hex HH.out (by rw [bl_extract, List.take_of_length_le (by rw [List.length_drop, bl_length]; omega)]) (by
               intro h
               have := congrArg List.length h
               rw [bl_extract, List.length_take, List.length_drop, bl_length, List.length_nil] at this
               have := H0.out; omega)⟩, rfl⟩)
        | (clear HZ
           by_cases h1 : 1 < s.size
           · by_cases hz : ((s[0]'(by omega)).toNat : Int) = 48
             · have HZ := Lib.hid hz
               go_wp2
               go_meet
               exact ⟨⟨_, 8, rfl, rfl, by rw [ByteArray.size_extract]; omega, by_oct HH.out h1 (by have := HZ.out; omega) (by rw [bl_extract, List.take_of_length_le (by rw [List.length_drop, bl_length]; omega)])⟩, rfl⟩
             · have HZ := Lib.hid hz
               have hz' : ((s[0]'(by omega)).toNat : Int) < 48 ∨ 48 < ((s[0]'(by omega)).toNat : Int) := by omega
               clear hz
               rcases hz' with hz' | hz'
               all_goals
                 go_wp2
                 go_meet
                 exact ⟨⟨_, 10, rfl, rfl, Nat.le_refl _, by_dec HH.out (fun _ h => HZ.out (by omega))⟩, rfl⟩
           · go_wp2
             go_meet
             exact ⟨⟨_, 10, rfl, rfl, Nat.le_refl _, by_dec HH.out (fun h => absurd h h1)⟩, rfl⟩)
    case rest =>
      obtain ⟨⟨q, b, rfl, rfl, hq, HN⟩, rfl⟩ := hcut
      clear HZ HH
      have hb1 : 8 ≤ (b : Int) := by have := HN.out.bb; omega
      have hb2 : (b : Int) ≤ 16 := by have := HN.out.bb; omega
      obtain ⟨B, hB⟩ : ∃ B : Int, (b : Int) = B := ⟨_, rfl⟩
      rw [hB] at hb1 hb2 ⊢
      have HB := Lib.hid hB
      clear hB
      go_wp2
      go_loopg [5, 6] q.size (fun g v5 v6 wr => ∃ (n k m : Nat), v5 = .int .u64 n ∧ v6 = .int .i64 k ∧ k + g = q.size ∧ n ≤ 1099511627776 ∧ Hid (n = min m 1099511627776) ∧ Hid (valS b (bl q) = valF b m ((bl q).drop k)) ∧ Hid ((bl q).all (okDig b) = ((bl q).drop k).all (okDig b)) ∧ w = wr)
      case atStart => exact ⟨0, 0, 0, rfl, rfl, by omega, by omega, rfl, rfl, rfl, rfl⟩
      case round =>
        obtain ⟨n, k, m, rfl, rfl, hk, hn, HC, HV, HA, rfl⟩ := hrel
        cases gk with
        | zero =>
          have HA1 : Hid ((bl q).all (okDig b) = true) := by have := HA.out; rw [bl_drop_end q k (by omega)] at this; exact this
          have HV1 : Hid (valS b (bl q) = m) := by have := HV.out; rw [bl_drop_end q k (by omega)] at this; exact this
          clear HA HV
          by_cases h0 : q.size = 0
          · have HF := Lib.hid (HN.out.none_e (List.length_eq_zero_iff.1 (by rw [bl_length]; exact h0)))
            go_wp2
            go_ret2
            have hn0 : n = 0 := by
              have h1 := HV1.out
              rw [List.length_eq_zero_iff.1 (by rw [bl_length]; exact h0 : (bl q).length = 0)] at h1
              have : m = 0 := h1.symm
              rw [HC.out, this]; rfl
            exact ⟨by rw [HF.out, hn0]; simp [optC], rfl⟩
          · have HF := Lib.hid (HN.out.some (fun h => h0 (by rw [← bl_length, h]; rfl)) HA1.out)
            clear HA1
            go_wp2
            go_ret2
            exact ⟨by rw [HF.out, opt_some, HV1.out, HC.out]; simp; omega, rfl⟩
        | succ g =>
          have hlt : k < q.size := by omega
          have hA := HA.out
          have hV := HV.out
          rw [bl_drop q k hlt, List.all_cons] at hA
          rw [bl_drop q k hlt] at hV
          have hr := hexV_range q[k].toNat
          have c1 : (q[k].toNat : Int) ≤ 255 := by have := q[k].toNat_lt; omega
          clear HA HV
          by_cases hx : 0 ≤ hexV q[k].toNat
          · by_cases hx2 : hexV q[k].toNat < B
            · obtain ⟨d, hd⟩ : ∃ d : Nat, hexV q[k].toNat = d := ⟨(hexV q[k].toNat).toNat, by omega⟩
              rw [okDig_of hx (by rw [HB.out]; exact hx2), Bool.true_and] at hA
              rw [valF, hd, Int.toNat_natCast] at hV
              have hd15 : d ≤ 15 := by omega
              have hb16 : b ≤ 16 := by have := HB.out; omega
              have HC2 : Hid (min (n * b + d) 1099511627776 = min (m * b + d) 1099511627776) := cap_min HC.out b d (by have := HB.out; omega)
              have hnb : n * b ≤ 1099511627776 * 16 := Nat.mul_le_mul hn hb16
              obtain ⟨p, hp⟩ : ∃ p, n * b = p := ⟨_, rfl⟩
              have hwm : IntKind.u64.wrap ((n : Int) * B) = (p : Int) := by rw [← HB.out, ← hp, ← Int.natCast_mul]; exact u64_of _ (by omega)
              rw [hp] at HC2 hnb
              have HA2 := Lib.hid hA
              have HV2 := Lib.hid hV
              have hx3 : (d : Int) < B := by omega
              have hH := ref1_Hex q[k].toNat w (by omega) (by omega)
              rw [hd] at hH
              have HH := Lib.hid hH
              clear hA hV hp hx hx2 hd hr HC hH
              go_wp2_with (go_at_call 181; go_must (refine HH.out.mono ?_); rintro e w' ⟨rfl, rfl⟩)
              all_goals
                go_roundg g
                case measure => omega
                case rel => exact ⟨min (p + d) 1099511627776, k + 1, m * b + d, by congr 1; omega, rfl, by omega, by omega, HC2, HV2, HA2, rfl⟩
            · have HF := Lib.hid (HN.out.none_a (hA.trans (by rw [okDig_no (.inr (by rw [HB.out]; omega)), Bool.false_and])))
              clear hA hV
              go_wp2_with (go_at_call 181; go_must (refine (ref1_Hex _ _ (by omega) (by omega)).mono ?_); rintro e w' ⟨rfl, rfl⟩)
              go_ret2
              exact ⟨by rw [HF.out]; rfl, rfl⟩
          · have HF := Lib.hid (HN.out.none_a (hA.trans (by rw [okDig_no (.inl (by omega)), Bool.false_and])))
            clear hA hV
            go_wp2_with (go_at_call 181; go_must (refine (ref1_Hex _ _ (by omega) (by omega)).mono ?_); rintro e w' ⟨rfl, rfl⟩)
            go_ret2
            exact ⟨by rw [HF.out]; rfl, rfl⟩
end Go.Proofs.YtbpkkgaaeodimaaGreatDoor
namespace Go.Proofs.YtbpkkgaaeodimaaGreatDoor
open Go.RowKit

def fourA (a : Int) (i : Nat) (v : Nat) : Int := Go.bits .or .u64 a (IntKind.u64.wrap ((v : Int) * 2 ^ (24 - 8 * i)))
def fourF (n : Nat) : Nat → Int → List (List UInt8) → Option Int
  | _, a, [] => some (IntKind.u32.wrap a)
  | i, a, x :: r => match numberS x with
    | none => none
    | some v => if i + 1 < n then (if 255 < v then none else fourF n (i + 1) (fourA a i v) r) else (if 2 ^ (8 * (5 - n)) ≤ v then none else fourF n (i + 1) (Go.bits .or .u64 a v) r)
theorem fourF_none {n i : Nat} {a : Int} {x : List UInt8} {r : List (List UInt8)} (h : numberS x = none) : fourF n i a (x :: r) = none := by unfold fourF; rw [h]
theorem fourF_mid {n i v : Nat} {a : Int} {x : List UInt8} {r : List (List UInt8)} (h : numberS x = some v) (h1 : i + 1 < n) : fourF n i a (x :: r) = if 255 < v then none else fourF n (i + 1) (fourA a i v) r := by
  rw [fourF, h]; exact if_pos h1
theorem fourF_end {n i v : Nat} {a : Int} {x : List UInt8} {r : List (List UInt8)} (h : numberS x = some v) (h1 : ¬ i + 1 < n) : fourF n i a (x :: r) = if 2 ^ (8 * (5 - n)) ≤ v then none else fourF n (i + 1) (Go.bits .or .u64 a v) r := by
  rw [fourF, h]; exact if_neg h1
/-- The address of four bytes that a host spells. -/
def fourS (l : List UInt8) : Option Int := if 4 < (labelsS l).length then none else fourF (labelsS l).length 0 0 (labelsS l)
def fourV (o : Option Int) : Int := o.getD 0
def errn (o : Option Int) (n : Int) : Int := if o.isSome then 0 else n
theorem drop_get {α : Type} {l : List α} {k : Nat} {x : α} (h : l[k]? = some x) : l.drop k = x :: l.drop (k + 1) := by
  obtain ⟨hlt, rfl⟩ := List.getElem?_eq_some_iff.1 h
  exact List.drop_eq_getElem_cons hlt
theorem strs_cell {w : World} {g : Nat} {l : List (List UInt8)} {k : Nat} {t : ByteArray} (h : RdAt w g (strs l)) (hx : l[k]? = some (bl t)) : w.cell? ⟨g, k, none⟩ = some (.string t) := by
  have := h.2 k _ (strs_get l k _ hx)
  rw [mk_bl] at this; exact this
set_option maxHeartbeats 4000000 in
set_option maxRecDepth 100000 in
theorem host_Four (s : ByteArray) (w : World) (hs : s.size ≤ 1000000) (HE : Hid (Env w)) :
    Calls Tryz.prog 215 #[.string s] w fun e w' => e = .returned (.tuple #[.int .u32 (fourV (fourS (bl s))), .int .i64 (errn (fourS (bl s)) 10)]) ∧ Hid (Bel w w') := by
  go_enter Tryz.func215, Tryz.ntmps215
  go_wp2
  go_step3
  go_wp2_with fail
  refine (host_labels s _ hs HE).mono ?_
  rintro e w1 ⟨⟨g, c, rfl, hc, hR⟩, HB1⟩
  have HL : Hid (∀ x, x ∈ labelsS (bl s) → x.length ≤ s.size) := fun x hx => by have := labels_mem_len hx; rw [bl_length] at this; exact this
  have HS : Hid (fourS (bl s) = if 4 < (labelsS (bl s)).length then none else fourF (labelsS (bl s)).length 0 0 (labelsS (bl s))) := rfl
  have HN0 : 1 ≤ (labelsS (bl s)).length := List.length_pos_iff.2 (labelsS_ne _)
  generalize labelsS (bl s) = ls at *
  obtain ⟨n, hn⟩ : ∃ n, ls.length = n := ⟨_, rfl⟩
  rw [hn] at HS HN0 hc ⊢
  have HN := Lib.hid hn
  clear hn
  by_cases h4 : n ≤ 4
  · have HF : Hid (fourS (bl s) = fourF n 0 0 ls) := HS.out.trans (if_neg (by omega))
    clear HS
    have hn4 : n = 1 ∨ n = 2 ∨ n = 3 ∨ n = 4 := by omega
    clear h4 HN0
    rcases hn4 with rfl | rfl | rfl | rfl
    all_goals
      go_wp2
      go_step3
      go_wp2
      go_loopg [5, 17] (List.length ls) (fun r v5 v17 wr => ∃ (a : Int) (k : Nat), v5 = .int .u64 a ∧ v17 = .int .i64 k ∧ Hid (k + r = ls.length) ∧ Hid (fourS (bl s) = fourF ls.length k a (ls.drop k)) ∧ Hid (Bel w1 wr))
      case atStart => exact ⟨0, 0, rfl, rfl, Nat.zero_add _, by rw [HN.out]; exact HF, by unfold Hid; exact Below.refl _ _⟩
      case round =>
        obtain ⟨a, k, rfl, rfl, HK, HI, HB⟩ := hrel
        have hk := HK.out
        rw [HN.out] at hk HI
        cases gk with
        | zero =>
          have HF2 : Hid (fourS (bl s) = some (IntKind.u32.wrap a)) := by have := HI.out; rw [List.drop_eq_nil_of_le (by rw [HN.out]; omega)] at this; exact this
          clear HF HI
          go_wp2
          rw [Exit.noGoto_ret]
          go_ret2
          exact ⟨by rw [HF2.out, ← IntKind.wrap_u32]; rfl, bel_trans HB1.out HB.out⟩
        | succ g' =>
          obtain ⟨u, hu⟩ : ∃ u, ls[k]? = some (bl u) := ⟨⟨(ls[k]'(by rw [HN.out]; omega)).toArray⟩, by rw [bl_mk]; exact List.getElem?_eq_getElem _⟩
          have hus := HL.out _ (List.mem_of_getElem? hu)
          rw [bl_length] at hus
          have hI := HI.out
          rw [drop_get hu] at hI
          have hcell := strs_cell (hR.out.bel HB.out) hu
          have HE1 := Lib.hid ((HE.out.bel HB1.out).bel HB.out)
          have HX := Lib.hid hI
          clear hI HI hu
          go_wp2_with fail
          refine (host_number u _ (by omega) HE1).mono ?_
          rintro e w2 ⟨rfl, HB2⟩
          have HB3 := Lib.hid (bel_trans HB.out HB2.out)
          have HB4 := Lib.hid (bel_trans HB1.out HB3.out)
          cases hv : numberS (bl u) with
          | none =>
            have HX := Lib.hid (HX.out.trans (fourF_none hv))
            clear HF hv
            go_wp2
            try rw [Exit.noGoto_ret]
            go_ret2
            exact ⟨by rw [HX.out]; rfl, HB4⟩
          | some v =>
            clear HF
            rw [opt_some]
            by_cases hl : k + 1 < ls.length
            · rw [HN.out] at hl
              have hl9 := hl
              first | (exfalso; omega) | skip
              all_goals
                have HX := HX.out.trans (fourF_mid hv hl)
                clear hv
                by_cases h255 : 255 < v
                · rw [if_pos h255] at HX
                  have HX := Lib.hid HX
                  obtain ⟨vv, hvv⟩ : ∃ vv, min v 18446744073709551615 = vv := ⟨_, rfl⟩
                  have hv2 : 255 < (vv : Int) := by omega
                  rw [hvv]
                  clear hvv
                  go_wp2
                  try rw [Exit.noGoto_ret]
                  go_ret2
                  exact ⟨by rw [HX.out]; rfl, HB4⟩
                · rw [if_neg h255] at HX
                  have HX := Lib.hid HX
                  rw [Nat.min_eq_left (by omega)]
                  have hv2 : (v : Int) ≤ 255 := by omega
                  clear h255
                  go_wp2
                  go_roundg g'
                  case measure => omega
                  case rel => exact ⟨_, k + 1, rfl, rfl, by unfold Hid; rw [HN.out]; omega, by rw [HN.out]; exact HX, HB3⟩
            · rw [HN.out] at hl
              have HX := HX.out.trans (fourF_end hv hl)
              clear hv
              by_cases h255 : 2 ^ (8 * (5 - ls.length)) ≤ v
              · rw [HN.out] at h255
                rw [if_pos h255] at HX
                have HX := Lib.hid HX
                obtain ⟨vv, hvv⟩ : ∃ vv, min v 18446744073709551615 = vv := ⟨_, rfl⟩
                have hv2 : 2 ^ (8 * (5 - ls.length)) ≤ (vv : Int) := by rw [HN.out]; omega
                rw [HN.out] at hv2
                simp only [Nat.reduceSub, Nat.reduceMul, Int.reducePow] at hv2
                rw [hvv]
                clear hvv h255
                go_wp2
                try rw [Exit.noGoto_ret]
                go_ret2
                exact ⟨by rw [HX.out]; rfl, HB4⟩
              · rw [HN.out] at h255
                rw [if_neg h255] at HX
                have HX := Lib.hid HX
                rw [Nat.min_eq_left (by omega)]
                have hv2 : (!decide ((2 : Int) ^ (8 * (5 - ls.length)) ≤ v)) = true := by rw [HN.out]; simp only [Nat.reduceSub, Nat.reduceMul, Int.reducePow, Bool.not_eq_true', decide_eq_false_iff_not]; omega
                rw [HN.out] at hv2
                simp only [Nat.reduceSub, Nat.reduceMul, Int.reducePow, Bool.not_eq_true'] at hv2
                clear h255
                go_wp2
                go_roundg g'
                case measure => omega
                case rel => exact ⟨_, k + 1, rfl, rfl, by unfold Hid; rw [HN.out]; omega, by rw [HN.out]; exact HX, HB3⟩
  · have HF : Hid (fourS (bl s) = none) := HS.out.trans (if_pos (by omega))
    clear HS
    go_wp2
    rw [Exit.noGoto_ret]
    go_ret2
    exact ⟨by rw [HF.out]; rfl, HB1⟩
end Go.Proofs.YtbpkkgaaeodimaaGreatDoor
namespace Go.Proofs.YtbpkkgaaeodimaaGreatDoor
open Go.RowKit

theorem info50 : (Tryz.prog.info? 143).map (fun i => (i.zero, i.size, i.bytes)) = some (some (.int .u64 0), 1, 8) := by kernel_rfl
section
variable {ops : Array Oper} {Q : Exit → Act → World → Prop} {a : Act} {rest : List Oper} {o : Oper}
theorem app_u64 {w0 W : World} (base : Nat) (hgd : o.guard = none) (s x : Operand)
    (ho : o.op = .call { callee := .builtin .append, args := #[s, x], argTypes := #[193, 193] })
    (v : Value) (xs : List Value) (n : Int) (hs : a.eval s = v) (hx : a.eval x = .slice (some ⟨W.heap.size, 0, none⟩) 1 1)
    (HO : Hid (Own W base 143 v xs)) (HB : Hid (Below base w0 W)) (hbase : base ≤ W.heap.size) (hl : xs.length ≤ 1000000000)
    (h : ∀ v1 w1, Hid (Own w1 base 143 v1 (xs ++ [.int .u64 n])) → Hid (Below base w0 w1) → W.heap.size ≤ w1.heap.size → wpList Tryz.prog ops Q rest (a.put o.dst v1) w1) :
    wpList Tryz.prog ops Q (o :: rest) a (W.alloc (.cells #[.int .u64 n] 143)) :=
  own_append base hgd s x _ _ _ 8 ho Tryz.underlying193 info50 rfl v xs (.int .u64 n) hs hx rfl HO HB hbase (by omega) (by omega) h
end
theorem fourF_has {n : Nat} : ∀ (ls : List (List UInt8)) (i : Nat) (a : Int), (∃ x ∈ ls, numberS x = none) → i + ls.length = n → fourF n i a ls = none
  | [], _, _, h, _ => by obtain ⟨x, hx, _⟩ := h; cases hx
  | x :: r, i, a, h, hn => by
    cases hv : numberS x with
    | none => exact fourF_none hv
    | some v =>
      have hr : ∃ y ∈ r, numberS y = none := by
        obtain ⟨y, hy, hy2⟩ := h
        rcases List.mem_cons.1 hy with rfl | hy
        · rw [hv] at hy2; cases hy2
        · exact ⟨y, hy, hy2⟩
      have hpos : 0 < r.length := List.length_pos_of_mem hr.choose_spec.1
      rw [List.length_cons] at hn
      rw [fourF_mid hv (by omega)]
      split
      · rfl
      · exact fourF_has r (i + 1) _ hr (by omega)
def capd (v : Nat) : Value := .int .u64 (min v 1099511627776 : Nat)
def rowed (ls : List (List UInt8)) : List Value := ls.map fun x => .int .u64 (optC 1099511627776 (numberS x))
def four2S (l : List UInt8) (v : Value) : Prop := v = .tuple #[.int .u32 (fourV (fourS l)), .bool (fourS l).isSome]
set_option maxHeartbeats 4000000 in
set_option maxRecDepth 100000 in
theorem ref2_Four (s : ByteArray) (w : World) (hs : s.size ≤ 1000000) (HE : Hid (Env w)) :
    Calls Tryz.prog 155 #[.string s] w fun e w' => e = .returned (.tuple #[.int .u32 (fourV (fourS (bl s))), .bool (fourS (bl s)).isSome]) ∧ Hid (Bel w w') := by
  go_enter Tryz.func155, Tryz.ntmps155
  go_wp2_with fail
  refine (ref2_labels s _ hs HE).mono ?_
  rintro e w1 ⟨⟨g, c, rfl, hc, hR⟩, HB1⟩
  have HL : Hid (∀ x, x ∈ labelsS (bl s) → x.length ≤ s.size) := fun x hx => by have := labels_mem_len hx; rw [bl_length] at this; exact this
  have HS : Hid (fourS (bl s) = if 4 < (labelsS (bl s)).length then none else fourF (labelsS (bl s)).length 0 0 (labelsS (bl s))) := rfl
  have HN0 : 1 ≤ (labelsS (bl s)).length := List.length_pos_iff.2 (labelsS_ne _)
  generalize labelsS (bl s) = ls at *
  obtain ⟨n, hn⟩ : ∃ n, ls.length = n := ⟨_, rfl⟩
  rw [hn] at HS HN0 hc ⊢
  have HN := Lib.hid hn
  clear hn
  by_cases h4 : n ≤ 4
  · have HF : Hid (fourS (bl s) = fourF n 0 0 ls) := HS.out.trans (if_neg (by omega))
    clear HS
    go_upto_block 0 with (fail)
    go_cut [5] (fun v5 wc => (Hid (Own wc w1.heap.size 143 v5 (rowed ls)) ∧ Hid (∀ x ∈ ls, numberS x ≠ none)) ∧ Hid (Bel w1 wc))
    case first =>
      go_wp2_with fail
      go_loopg [5, 6] n (fun r v5 v6 wr => ∃ (k : Nat), v6 = .int .i64 k ∧ k + r = n ∧ Hid (Own wr w1.heap.size 143 v5 (rowed (ls.take k))) ∧ Hid (∀ x ∈ ls.take k, numberS x ≠ none) ∧ Hid (Bel w1 wr))
      case atStart => exact ⟨0, rfl, by omega, Own.nil _ _ _, (by intro x hx; cases hx), by unfold Hid; exact Below.refl _ _⟩
      case round =>
        obtain ⟨k, rfl, hk, HO, HA, HB⟩ := hrel
        cases gk with
        | zero =>
          have HX : Hid (ls.take k = ls) := List.take_of_length_le (by rw [HN.out]; omega)
          rw [HX.out] at HO HA
          go_wp2
          go_meet
          exact ⟨⟨HO, HA⟩, HB⟩
        | succ g' =>
          obtain ⟨u, hu⟩ : ∃ u, ls[k]? = some (bl u) := ⟨⟨(ls[k]'(by rw [HN.out]; omega)).toArray⟩, by rw [bl_mk]; exact List.getElem?_eq_getElem _⟩
          have hus := HL.out _ (List.mem_of_getElem? hu)
          rw [bl_length] at hus
          have hcell := strs_cell (hR.out.bel HB.out) hu
          have HU := Lib.hid hu
          clear hu
          go_wp2_with fail
          refine (ref2_number u _ (by omega)).mono ?_
          rintro e w2 ⟨rfl, rfl⟩
          cases hv : numberS (bl u) with
          | none =>
            have HX : Hid (fourS (bl s) = none) := HF.out.trans (fourF_has ls 0 0 ⟨_, List.mem_of_getElem? HU.out, hv⟩ (by rw [HN.out]; omega))
            clear HF hv
            go_wp2
            go_ret2
            exact ⟨by rw [HX.out]; rfl, bel_trans HB1.out HB.out⟩
          | some v =>
            have HV := Lib.hid hv
            clear hv
            rw [opt_some]
            have hsz := HB.out.size
            obtain ⟨vv, hvv⟩ : ∃ vv, min v 1099511627776 = vv := ⟨_, rfl⟩
            have HVV := Lib.hid hvv
            rw [hvv]
            clear hvv
            go_wp2_with (at_builtin; go_must (refine app_u64 (w0 := w1) w1.heap.size rfl _ _ (by exact rfl) _ _ vv (by exact rfl) (by exact rfl) HO HB hsz (by unfold rowed; simp; omega) ?_); intro v1 w3 HO1 HB1 hs1)
            go_roundg g'
            case measure => omega
            case rel =>
              have ht : ls.take (k + 1) = ls.take k ++ [bl u] := by rw [List.take_add_one, HU.out]; rfl
              refine ⟨k + 1, rfl, by omega, ?_, ?_, HB1⟩
              · have hr : rowed (ls.take (k + 1)) = rowed (ls.take k) ++ [Value.int IntKind.u64 vv] := by rw [ht]; unfold rowed; rw [List.map_append, List.map_cons, HV.out, opt_some, HVV.out]; rfl
                rw [hr]; exact HO1
              · rw [ht]; intro x hx
                rcases List.mem_append.1 hx with h | h
                · exact HA.out x h
                · rw [List.mem_singleton.1 h, HV.out]; simp
    case rest =>
      obtain ⟨⟨HO, HA⟩, HB⟩ := hcut
      obtain ⟨g5, c5, rfl, hg5, hr5, hc5⟩ := HO.out.row (by intro h; have := congrArg List.length h; unfold rowed at this; rw [List.length_map, HN.out, List.length_nil] at this; omega)
      have hl5 : (rowed ls).length = n := by unfold rowed; rw [List.length_map, HN.out]
      rw [hl5] at hc5 ⊢
      have HR5 : Hid (∀ k x v, ls[k]? = some x → numberS x = some v → wc.cell? ⟨g5, k, none⟩ = some (.int .u64 (min v 1099511627776 : Nat))) := by
        intro k x v hx hv
        refine (hr5.2 k _ ?_).1
        unfold rowed; rw [List.getElem?_map, hx]; show some (Value.int IntKind.u64 (optC 1099511627776 (numberS x))) = _; rw [hv]; rfl
      have HB2 := Lib.hid (bel_trans HB1.out HB.out)
      clear hl5 hr5 HO HB hR hc hg5
      have hn4 : n = 1 ∨ n = 2 ∨ n = 3 ∨ n = 4 := by omega
      clear h4 HN0
      rcases hn4 with rfl | rfl | rfl | rfl
      all_goals
        go_wp2
        go_loopg [9, 10] (List.length ls - 1) (fun r v9 v10 wr => ∃ (a : Int) (k : Nat), v9 = .int .u64 a ∧ v10 = .int .i64 k ∧ Hid (k + r + 1 = ls.length) ∧ Hid (fourS (bl s) = fourF ls.length k a (ls.drop k)) ∧ wc = wr)
        case atStart => exact ⟨0, 0, rfl, rfl, by unfold Hid; rw [HN.out], by rw [HN.out]; exact HF, rfl⟩
        case round =>
          obtain ⟨a, k, rfl, rfl, HK, HI, rfl⟩ := hrel
          have hk := HK.out
          rw [HN.out] at hk HI
          obtain ⟨x, hx⟩ : ∃ x, ls[k]? = some x := ⟨_, List.getElem?_eq_getElem (by rw [HN.out]; omega)⟩
          obtain ⟨v, hv⟩ : ∃ v, numberS x = some v := by
            have := HA.out x (List.mem_of_getElem? hx)
            cases h : numberS x with
            | none => exact absurd h this
            | some v => exact ⟨v, rfl⟩
          have hcell := HR5.out k x v hx hv
          have hI := HI.out
          rw [drop_get hx] at hI
          clear HI HF hx
          cases gk with
          | zero =>
            have hX := hI.trans (fourF_end hv (by omega))
            have hkn : k = ls.length - 1 := by rw [HN.out]; omega
            rw [HN.out] at hkn
            simp only [Nat.reduceSub] at hkn
            subst hkn
            clear hI hv hk HA HR5
            by_cases h255 : 2 ^ (8 * (5 - ls.length)) ≤ v
            · rw [HN.out] at h255
              rw [if_pos h255] at hX
              have HX := Lib.hid hX
              obtain ⟨vv, hvv⟩ : ∃ vv, min v 1099511627776 = vv := ⟨_, rfl⟩
              have hv2 : 2 ^ (8 * (5 - ls.length)) ≤ (vv : Int) := by rw [HN.out]; omega
              rw [HN.out] at hv2
              simp only [Nat.reduceSub, Nat.reduceMul, Int.reducePow] at hv2
              rw [hvv] at hcell
              clear hvv h255 hX
              go_wp2
              go_ret2
              exact ⟨by rw [HX.out]; rfl, HB2⟩
            · rw [HN.out] at h255
              rw [if_neg h255] at hX
              rw [List.drop_eq_nil_of_le (by rw [HN.out]; omega)] at hX
              have HX := Lib.hid hX
              rw [Nat.min_eq_left (by omega)] at hcell
              have hv2 : (!decide ((2 : Int) ^ (8 * (5 - ls.length)) ≤ v)) = true := by rw [HN.out]; simp only [Nat.reduceSub, Nat.reduceMul, Int.reducePow, Bool.not_eq_true', decide_eq_false_iff_not]; omega
              rw [HN.out] at hv2
              simp only [Nat.reduceSub, Nat.reduceMul, Int.reducePow, Bool.not_eq_true'] at hv2
              clear h255 hX
              go_wp2
              go_ret2
              exact ⟨by rw [HX.out, fourF, ← IntKind.wrap_u32]; rfl, HB2⟩
          | succ g' =>
            first | (exfalso; omega) | skip
            all_goals
              have hX := hI.trans (fourF_mid hv (by omega))
              clear hI hv
              by_cases h255 : 255 < v
              · rw [if_pos h255] at hX
                have HX := Lib.hid hX
                obtain ⟨vv, hvv⟩ : ∃ vv, min v 1099511627776 = vv := ⟨_, rfl⟩
                have hv2 : 255 < (vv : Int) := by omega
                rw [hvv] at hcell
                clear hvv hX h255
                go_wp2
                go_ret2
                exact ⟨by rw [HX.out]; rfl, HB2⟩
              · rw [if_neg h255] at hX
                have HX := Lib.hid hX
                rw [Nat.min_eq_left (by omega)] at hcell
                have hv2 : (v : Int) ≤ 255 := by omega
                clear h255 hX
                go_wp2
                go_roundg g'
                case measure => omega
                case rel => exact ⟨_, k + 1, rfl, rfl, by unfold Hid; rw [HN.out]; omega, by rw [HN.out]; exact HX, rfl⟩
  · have HF : Hid (fourS (bl s) = none) := HS.out.trans (if_pos (by omega))
    clear HS
    go_wp2
    go_ret2
    exact ⟨by rw [HF.out]; rfl, HB1⟩
end Go.Proofs.YtbpkkgaaeodimaaGreatDoor
namespace Go.Proofs.YtbpkkgaaeodimaaGreatDoor
open Go.RowKit

theorem bel_grow (w : World) (k : Nat) (os : Array Obj) : Bel w (Sort.grow (w.drewN k) os) := ⟨rfl, rfl, rfl, by rw [Sort.size_grow]; exact Nat.le_add_right _ _, fun i hi => by
  show (w.heap ++ os)[i]? = _
  rw [Array.getElem?_append, if_pos hi]⟩
def octS (v : Int) (k : Nat) : Nat := (Go.bits .and .u32 (v / 2 ^ (24 - 8 * k)) 255).toNat
theorem oct_is (v : Int) (k : Nat) (h0 : 0 ≤ v) (h1 : v ≤ 4294967295) : Go.bits .and .u32 (v / 2 ^ (24 - 8 * k)) 255 = (octS v k : Nat) ∧ octS v k ≤ 255 := by
  have hp : (0 : Int) < 2 ^ (24 - 8 * k) := Int.pow_pos (by omega)
  have ha : 0 ≤ v / 2 ^ (24 - 8 * k) := Int.ediv_nonneg h0 (by omega)
  have hb : v / 2 ^ (24 - 8 * k) ≤ v := Int.ediv_le_self _ h0
  unfold octS
  rw [u32_and _ _ ha (by omega) (by omega) (by omega)]
  refine ⟨by simp, ?_⟩
  rw [Int.toNat_natCast]
  exact Nat.and_le_right
def piecesS (v : Int) : List (List UInt8) := [digs 10 (octS v 0), digs 10 (octS v 1), digs 10 (octS v 2), digs 10 (octS v 3)]
theorem piece_at (v : Int) (k : Nat) (h : k < 4) : (piecesS v)[k]? = some (digs 10 (octS v k)) := by
  rcases k with _ | _ | _ | _ | k <;> first | rfl | omega
def dotF : List (List UInt8) → List UInt8
  | [] => []
  | x :: r => (46 :: x) ++ dotF r
/-- The text of an address of four bytes. -/
def text4S (v : Int) : List UInt8 := digs 10 (octS v 0) ++ dotF [digs 10 (octS v 1), digs 10 (octS v 2), digs 10 (octS v 3)]
theorem join_text4 (v : Int) : Lib.join (piecesS v) [46] = text4S v := by
  unfold piecesS text4S
  simp [Lib.join, dotF]
theorem digs_ne (b u : Nat) : digs b u ≠ [] := by
  unfold digs; split <;> simp
theorem digs_short (u : Nat) (h : u ≤ 255) : (digs 10 u).length ≤ 3 := digs_len 10 (by omega) 3 u (by omega) (by omega)
theorem text4_len (v : Int) (h0 : 0 ≤ v) (h1 : v ≤ 4294967295) : (text4S v).length ≤ 15 := by
  have e0 := digs_short _ (oct_is v 0 h0 h1).2
  have e1 := digs_short _ (oct_is v 1 h0 h1).2
  have e2 := digs_short _ (oct_is v 2 h0 h1).2
  have e3 := digs_short _ (oct_is v 3 h0 h1).2
  unfold text4S
  simp [dotF]
  omega
set_option maxHeartbeats 2000000 in
set_option maxRecDepth 100000 in
theorem host_Text4 (v : Int) (w : World) (h0 : 0 ≤ v) (h1 : v ≤ 4294967295) (HE : Hid (Env w)) :
    Calls Tryz.prog 216 #[.int .u32 v] w fun e w' => (∃ t, e = .returned (.string t) ∧ Hid (bl t = text4S v)) ∧ Hid (Bel w w') := by
  have HLN := Lib.hid (text4_len v h0 h1)
  go_enter Tryz.func216, Tryz.ntmps216
  go_wp2
  go_loopg [3, 4] 4 (fun r v3 v4 wr => ∃ (k : Nat), v4 = .int .i64 (24 - 8 * k) ∧ k + r = 4 ∧ Hid (Own wr w.heap.size 9 v3 (strs ((piecesS v).take k))) ∧ Hid (Bel w wr))
  case atStart => exact ⟨0, rfl, by omega, Own.nil _ _ _, by unfold Hid; exact Below.refl _ _⟩
  case round =>
    obtain ⟨k, rfl, hk, HO, HB⟩ := hrel
    cases gk with
    | zero =>
      obtain rfl : k = 4 := by omega
      obtain ⟨g, c, rfl, hg, hr, hc⟩ := HO.out.row (by simp [strs, piecesS])
      rw [strs_len] at *
      have hR := Lib.hid hr
      have hgw := hr.1
      have hc4 : 4 ≤ c := hc
      rw [show (List.take 4 (piecesS v)).length = 4 from rfl] at *
      clear hr hc
      go_wp2_with fail
      refine (Tryz.strings_Join g 0 c ((piecesS v).map fun x => ⟨x.toArray⟩) _ _ ?_ hgw (by rw [List.length_map]; show 4 ≤ _; omega) hc4 ?_).mono ?_
      · intro j x hx
        rw [List.getElem?_map] at hx
        obtain ⟨y, hy, rfl⟩ := Option.map_eq_some_iff.1 hx
        rw [Nat.zero_add]
        exact (hR.out.2 j _ (strs_get _ j y hy)).1
      · rw [List.map_map]
        have : (piecesS v).map ((fun x : ByteArray => x.data.toList) ∘ fun x => ⟨x.toArray⟩) = piecesS v := by simp [piecesS]
        rw [this]
        have h2 := join_text4 v
        have := HLN.out
        rw [← h2] at this
        exact Nat.le_trans this (by omega)
      · rintro e w2 ⟨rfl, HB2⟩
        have HB3 := Lib.hid (bel_trans HB.out HB2)
        clear HB2
        go_wp2
        go_ret
        refine ⟨⟨_, rfl, ?_⟩, HB3⟩
        unfold Hid
        rw [bl_mk]
        try rw [List.map_map]
        have : (piecesS v).map ((fun x : ByteArray => x.data.toList) ∘ fun x => ⟨x.toArray⟩) = piecesS v := by simp [piecesS]
        rw [this]
        exact join_text4 v
    | succ g' =>
      have hk0 : (k : Int) ≤ 3 := by omega
      obtain ⟨ho, hle⟩ := oct_is v k h0 h1
      have hP := Lib.hid (piece_at v k (by omega))
      obtain ⟨d, hd⟩ : ∃ d, octS v k = d := ⟨_, rfl⟩
      rw [hd] at ho hle hP
      clear hd
      have hsz := HB.out.size
      have HE1 := Lib.hid (HE.out.bel HB.out)
      go_wp2_with (first | (go_at_call 60; go_must (refine (Tryz.strconv_Itoa (d : Int) (by omega) (by omega) _ HE1.out.pow).mono ?_); rintro e w2 ⟨rfl, kk, os, hw2⟩; have HB2 := Lib.hid (show Bel _ w2 by rw [hw2]; exact bel_grow _ kk os); clear hw2) | (at_builtin; go_must (refine app_str (w0 := w) w.heap.size rfl _ _ (by exact rfl) _ ((piecesS v).take k) ⟨(Lib.itoa d).toArray⟩ (by exact rfl) (by exact rfl) (Lib.hid (HO.out.bel HB2.out)) (Lib.hid (bel_trans HB.out HB2.out)) (by have := HB2.out.size; omega) (by simp; omega) ?_); intro v1 w1 HO1 HB1 hs1))
      go_roundg g'
      case measure => omega
      case rel =>
        have hit : Lib.itoa (d : Int) = digs 10 d := by rw [digs10]; unfold Lib.itoa; rw [if_neg (by omega), Int.toNat_natCast]
        refine ⟨k + 1, by congr 1; omega, by omega, ?_, HB1⟩
        rw [List.take_add_one, hP.out, ← hit, ← bl_mk (Lib.itoa d)]
        exact HO1
def partS (v : Int) : Nat → List UInt8
  | 0 => []
  | k + 1 => (if k = 0 then [] else partS v k ++ [46]) ++ digs 10 (octS v k)
theorem part4 (v : Int) : partS v 4 = text4S v := by simp [partS, text4S, dotF]
theorem part_ne (v : Int) (k : Nat) (h : k ≠ 0) : partS v k ≠ [] := by
  cases k with
  | zero => exact absurd rfl h
  | succ k => unfold partS; simp [digs_ne]
theorem part_len (v : Int) (h0 : 0 ≤ v) (h1 : v ≤ 4294967295) : ∀ k, (partS v k).length ≤ 4 * k
  | 0 => Nat.le_refl _
  | k + 1 => by
    have := part_len v h0 h1 k
    have := digs_short _ (oct_is v k h0 h1).2
    unfold partS
    split <;> simp <;> omega
set_option maxHeartbeats 2000000 in
set_option maxRecDepth 100000 in
theorem ref2_Text4 (v : Int) (w : World) (h0 : 0 ≤ v) (h1 : v ≤ 4294967295) :
    Calls Tryz.prog 156 #[.int .u32 v] w fun e w' => (∃ t, e = .returned (.string t) ∧ Hid (bl t = text4S v)) ∧ Hid (Bel w w') := by
  go_enter Tryz.func156, Tryz.ntmps156
  go_wp2
  go_loopg [3, 4] 4 (fun r v3 v4 wr => ∃ (k : Nat) (t : ByteArray), v3 = .string t ∧ v4 = .int .i64 (24 - 8 * k) ∧ k + r = 4 ∧ t.size ≤ 16 ∧ Hid (bl t = partS v k) ∧ Hid (Bel w wr))
  case atStart => exact ⟨0, _, rfl, rfl, by omega, by decide, rfl, by unfold Hid; exact Below.refl _ _⟩
  case round =>
    obtain ⟨k, t, rfl, rfl, hk, ht, HT, HB⟩ := hrel
    cases gk with
    | zero =>
      obtain rfl : k = 4 := by omega
      go_wp2
      go_ret
      exact ⟨⟨_, rfl, HT.out.trans (part4 v)⟩, HB⟩
    | succ g' =>
      have hk0 : (k : Int) ≤ 3 := by omega
      have hk3 : (24 : Int) - 8 * k ≤ 31 := by omega
      obtain ⟨ho, hle⟩ := oct_is v k h0 h1
      have HP : Hid (partS v (k + 1) = (if k = 0 then [] else partS v k ++ [46]) ++ digs 10 (octS v k)) := rfl
      have HLL := Lib.hid (part_len v h0 h1 (k + 1))
      have HNE := Lib.hid (part_ne v k)
      obtain ⟨d, hd⟩ : ∃ d, octS v k = d := ⟨_, rfl⟩
      rw [hd] at ho hle HP
      have HDL := Lib.hid (digs_short d hle)
      clear hd
      by_cases hz : k = 0
      · have hemp : t.toList.isEmpty = true := by rw [str_empty, HT.out, hz]; rfl
        have HZ := Lib.hid hz
        clear hz
        go_wp2_with (go_at_call 89; go_must (refine (ref1_Numeral d _ (by omega)).mono ?_); rintro e w2 ⟨⟨q, rfl, hq⟩, rfl⟩; have hqs : q.size ≤ 3 := by rw [← bl_length, hq.out]; exact HDL.out)
        go_roundg g'
        case measure => omega
        case rel =>
          have HF : Hid (bl (t ++ q) = partS v (k + 1)) := by unfold Hid; rw [bl_append, hq.out, HP.out, if_pos HZ.out, HT.out, HZ.out]; rfl
          exact ⟨k + 1, _, rfl, by congr 1; omega, by omega, by have := HLL.out; rw [← HF.out, bl_length] at this; omega, HF, HB⟩
      · have hemp : t.toList.isEmpty = false := by rw [Bool.eq_false_iff, ne_eq, str_empty, HT.out]; exact HNE.out hz
        have HZ := Lib.hid hz
        clear hz
        go_wp2_with (go_at_call 89; go_must (refine (ref1_Numeral d _ (by omega)).mono ?_); rintro e w2 ⟨⟨q, rfl, hq⟩, rfl⟩; have hqs : q.size ≤ 3 := by rw [← bl_length, hq.out]; exact HDL.out)
        go_roundg g'
        case measure => omega
        case rel =>
          have HF : Hid (bl (t ++ ⟨#[46]⟩ ++ q) = partS v (k + 1)) := by unfold Hid; rw [bl_append, bl_append, hq.out, HP.out, if_neg HZ.out, HT.out]; rfl
          exact ⟨k + 1, _, rfl, by congr 1; omega, by omega, by have := HLL.out; rw [← HF.out, bl_length] at this; omega, HF, HB⟩
end Go.Proofs.YtbpkkgaaeodimaaGreatDoor
