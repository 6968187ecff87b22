import Derived.Test.YtpgehhnmlihnbaaGreatDoorXNum2
import Derived.WalkMore
namespace Go.Proofs.YtpgehhnmlihnbaaGreatDoor
open Go.RowKit

def fourA (a : Int) (i : Nat) (v : Nat) : Int := Go.bits .or .u64 a (IntKind.u64.wrap ((v : Int) * 2 ^ (24 - 8 * i)))
def fourF (n : Nat) : Nat → Int → List (List UInt8) → Option Int
  | _, a, [] => some (IntKind.u32.wrap a)
  | i, a, x :: r => match numberS x with
    | none => none
    | some v => if i + 1 < n then (if 255 < v then none else fourF n (i + 1) (fourA a i v) r) else (if 2 ^ (8 * (5 - n)) ≤ v then none else fourF n (i + 1) (Go.bits .or .u64 a v) r)
theorem fourF_none {n i : Nat} {a : Int} {x : List UInt8} {r : List (List UInt8)} (h : numberS x = none) : fourF n i a (x :: r) = none := by unfold fourF; rw [h]
theorem fourF_mid {n i v : Nat} {a : Int} {x : List UInt8} {r : List (List UInt8)} (h : numberS x = some v) (h1 : i + 1 < n) : fourF n i a (x :: r) = if 255 < v then none else fourF n (i + 1) (fourA a i v) r := by
  rw [fourF, h]; exact if_pos h1
theorem fourF_end {n i v : Nat} {a : Int} {x : List UInt8} {r : List (List UInt8)} (h : numberS x = some v) (h1 : ¬ i + 1 < n) : fourF n i a (x :: r) = if 2 ^ (8 * (5 - n)) ≤ v then none else fourF n (i + 1) (Go.bits .or .u64 a v) r := by
  rw [fourF, h]; exact if_neg h1
/-- The address of four bytes that a host spells. -/
def fourS (l : List UInt8) : Option Int := if 4 < (labelsS l).length then none else fourF (labelsS l).length 0 0 (labelsS l)
def fourV (o : Option Int) : Int := o.getD 0
def errn (o : Option Int) (n : Int) : Int := if o.isSome then 0 else n
theorem drop_get {α : Type} {l : List α} {k : Nat} {x : α} (h : l[k]? = some x) : l.drop k = x :: l.drop (k + 1) := by
  obtain ⟨hlt, rfl⟩ := List.getElem?_eq_some_iff.1 h
  exact List.drop_eq_getElem_cons hlt
theorem strs_cell {w : World} {g : Nat} {l : List (List UInt8)} {k : Nat} {t : ByteArray} (h : RdAt w g (strs l)) (hx : l[k]? = some (bl t)) : w.cell? ⟨g, k, none⟩ = some (.string t) := by
  have := h.2 k _ (strs_get l k _ hx)
  rw [mk_bl] at this; exact this
set_option maxHeartbeats 4000000 in
set_option maxRecDepth 100000 in
theorem host_Four (s : ByteArray) (w : World) (hs : s.size ≤ 1000000) (HE : Hid (Env w)) :
    Calls Tryz.prog 10 #[.string s] w fun e w' => e = .returned (.tuple #[.int .u32 (fourV (fourS (bl s))), .int .i64 (errn (fourS (bl s)) 10)]) ∧ Hid (Bel w w') := by
  go_enter Tryz.func10, Tryz.ntmps10
  go_wp2
  go_step3
  go_wp2_with fail
  refine (host_labels s _ hs HE).mono ?_
  rintro e w1 ⟨⟨g, c, rfl, hc, hR⟩, HB1⟩
  have HL : Hid (∀ x, x ∈ labelsS (bl s) → x.length ≤ s.size) := fun x hx => by have := labels_mem_len hx; rw [bl_length] at this; exact this
  have HS : Hid (fourS (bl s) = if 4 < (labelsS (bl s)).length then none else fourF (labelsS (bl s)).length 0 0 (labelsS (bl s))) := rfl
  have HN0 : 1 ≤ (labelsS (bl s)).length := List.length_pos_iff.2 (labelsS_ne _)
  generalize labelsS (bl s) = ls at *
  obtain ⟨n, hn⟩ : ∃ n, ls.length = n := ⟨_, rfl⟩
  rw [hn] at HS HN0 hc ⊢
  have HN := Lib.hid hn
  clear hn
  by_cases h4 : n ≤ 4
  · have HF : Hid (fourS (bl s) = fourF n 0 0 ls) := HS.out.trans (if_neg (by omega))
    clear HS
    have hn4 : n = 1 ∨ n = 2 ∨ n = 3 ∨ n = 4 := by omega
    clear h4 HN0
    rcases hn4 with rfl | rfl | rfl | rfl
    all_goals
      go_wp2
      go_step3
      go_wp2
      go_loopg [5, 17] (List.length ls) (fun r v5 v17 wr => ∃ (a : Int) (k : Nat), v5 = .int .u64 a ∧ v17 = .int .i64 k ∧ Hid (k + r = ls.length) ∧ Hid (fourS (bl s) = fourF ls.length k a (ls.drop k)) ∧ Hid (Bel w1 wr))
      case atStart => exact ⟨0, 0, rfl, rfl, Nat.zero_add _, by rw [HN.out]; exact HF, by unfold Hid; exact Below.refl _ _⟩
      case round =>
        obtain ⟨a, k, rfl, rfl, HK, HI, HB⟩ := hrel
        have hk := HK.out
        rw [HN.out] at hk HI
        cases gk with
        | zero =>
          have HF2 : Hid (fourS (bl s) = some (IntKind.u32.wrap a)) := by have := HI.out; rw [List.drop_eq_nil_of_le (by rw [HN.out]; omega)] at this; exact this
          clear HF HI
          go_wp2
          rw [Exit.noGoto_ret]
          go_ret2
          exact ⟨by rw [HF2.out, ← IntKind.wrap_u32]; rfl, bel_trans HB1.out HB.out⟩
        | succ g' =>
          obtain ⟨u, hu⟩ : ∃ u, ls[k]? = some (bl u) := ⟨⟨(ls[k]'(by rw [HN.out]; omega)).toArray⟩, by rw [bl_mk]; exact List.getElem?_eq_getElem _⟩
          have hus := HL.out _ (List.mem_of_getElem? hu)
          rw [bl_length] at hus
          have hI := HI.out
          rw [drop_get hu] at hI
          have hcell := strs_cell (hR.out.bel HB.out) hu
          have HE1 := Lib.hid ((HE.out.bel HB1.out).bel HB.out)
          have HX := Lib.hid hI
          clear hI HI hu
          go_wp2_with fail
          refine (host_number u _ (by omega) HE1).mono ?_
          rintro e w2 ⟨rfl, HB2⟩
          have HB3 := Lib.hid (bel_trans HB.out HB2.out)
          have HB4 := Lib.hid (bel_trans HB1.out HB3.out)
          cases hv : numberS (bl u) with
          | none =>
            have HX := Lib.hid (HX.out.trans (fourF_none hv))
            clear HF hv
            go_wp2
            try rw [Exit.noGoto_ret]
            go_ret2
            exact ⟨by rw [HX.out]; rfl, HB4⟩
          | some v =>
            clear HF
            rw [opt_some]
            by_cases hl : k + 1 < ls.length
            · rw [HN.out] at hl
              have hl9 := hl
              first | (exfalso; omega) | skip
              all_goals
                have HX := HX.out.trans (fourF_mid hv hl)
                clear hv
                by_cases h255 : 255 < v
                · rw [if_pos h255] at HX
                  have HX := Lib.hid HX
                  obtain ⟨vv, hvv⟩ : ∃ vv, min v 18446744073709551615 = vv := ⟨_, rfl⟩
                  have hv2 : 255 < (vv : Int) := by omega
                  rw [hvv]
                  clear hvv
                  go_wp2
                  try rw [Exit.noGoto_ret]
                  go_ret2
                  exact ⟨by rw [HX.out]; rfl, HB4⟩
                · rw [if_neg h255] at HX
                  have HX := Lib.hid HX
                  rw [Nat.min_eq_left (by omega)]
                  have hv2 : (v : Int) ≤ 255 := by omega
                  clear h255
                  go_wp2
                  go_roundg g'
                  case measure => omega
                  case rel => exact ⟨_, k + 1, rfl, rfl, by unfold Hid; rw [HN.out]; omega, by rw [HN.out]; exact HX, HB3⟩
            · rw [HN.out] at hl
              have HX := HX.out.trans (fourF_end hv hl)
              clear hv
              by_cases h255 : 2 ^ (8 * (5 - ls.length)) ≤ v
              · rw [HN.out] at h255
                rw [if_pos h255] at HX
                have HX := Lib.hid HX
                obtain ⟨vv, hvv⟩ : ∃ vv, min v 18446744073709551615 = vv := ⟨_, rfl⟩
                have hv2 : 2 ^ (8 * (5 - ls.length)) ≤ (vv : Int) := by rw [HN.out]; omega
                rw [HN.out] at hv2
                simp only [Nat.reduceSub, Nat.reduceMul, Int.reducePow] at hv2
                rw [hvv]
                clear hvv h255
                go_wp2
                try rw [Exit.noGoto_ret]
                go_ret2
                exact ⟨by rw [HX.out]; rfl, HB4⟩
              · rw [HN.out] at h255
                rw [if_neg h255] at HX
                have HX := Lib.hid HX
                rw [Nat.min_eq_left (by omega)]
                have hv2 : (!decide ((2 : Int) ^ (8 * (5 - ls.length)) ≤ v)) = true := by rw [HN.out]; simp only [Nat.reduceSub, Nat.reduceMul, Int.reducePow, Bool.not_eq_true', decide_eq_false_iff_not]; omega
                rw [HN.out] at hv2
                simp only [Nat.reduceSub, Nat.reduceMul, Int.reducePow, Bool.not_eq_true'] at hv2
                clear h255
                go_wp2
                go_roundg g'
                case measure => omega
                case rel => exact ⟨_, k + 1, rfl, rfl, by unfold Hid; rw [HN.out]; omega, by rw [HN.out]; exact HX, HB3⟩
  · have HF : Hid (fourS (bl s) = none) := HS.out.trans (if_pos (by omega))
    clear HS
    go_wp2
    rw [Exit.noGoto_ret]
    go_ret2
    exact ⟨by rw [HF.out]; rfl, HB1⟩
end Go.Proofs.YtpgehhnmlihnbaaGreatDoor
