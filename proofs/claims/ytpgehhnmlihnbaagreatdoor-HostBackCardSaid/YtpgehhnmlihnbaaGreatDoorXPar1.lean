import Derived.Test.YtpgehhnmlihnbaaGreatDoorXT6R
import Derived.Test.YtpgehhnmlihnbaaGreatDoorXBad
import Derived.WalkMore
namespace Go.Proofs.YtpgehhnmlihnbaaGreatDoor
open Go.RowKit

def fineB (x : UInt8) : Bool := decide (33 ≤ x.toNat) && decide (x.toNat ≤ 126) && !(x == 37) && !badS x
def xnS : List UInt8 := [120, 110, 45, 45]
def xnB (x : List UInt8) : Bool := begins x xnS
def namedS (t : List UInt8) : Option (List UInt8) :=
  if t.all fineB = true ∧ (cutS 46 [] t).any xnB = false ∧ t ≠ [] then
    if numberedS t = true then (fourS t).map text4S else some t
  else none
def errO (o : Option (List UInt8)) : Int := if o.isSome then 0 else 10
def parsed (o : Option (List UInt8)) (e : Ending) : Prop := ∃ t, e = .returned (.tuple #[.string t, .int .i64 (errO o)]) ∧ Hid (bl t = o.getD [])
def parsed2 (o : Option (List UInt8)) (e : Ending) : Prop := ∃ t, e = .returned (.tuple #[.string t, .bool o.isSome]) ∧ Hid (bl t = o.getD [])
theorem parsed_none {o : Option (List UInt8)} (h : o = none) : parsed o (.returned (.tuple #[.string ⟨#[]⟩, .int .i64 10])) := ⟨_, by rw [h]; rfl, by rw [h]; rfl⟩
theorem parsed_some {o : Option (List UInt8)} {t : ByteArray} (h : o = some (bl t)) : parsed o (.returned (.tuple #[.string t, .int .i64 0])) := ⟨_, by rw [h]; rfl, by rw [h]; rfl⟩
theorem parsed2_none {o : Option (List UInt8)} (h : o = none) : parsed2 o (.returned (.tuple #[.string ⟨#[]⟩, .bool false])) := ⟨_, by rw [h]; rfl, by rw [h]; rfl⟩
theorem parsed2_some {o : Option (List UInt8)} {t : ByteArray} (h : o = some (bl t)) : parsed2 o (.returned (.tuple #[.string t, .bool true])) := ⟨_, by rw [h]; rfl, by rw [h]; rfl⟩
theorem named_bad {t : List UInt8} (h : t.all fineB = false) : namedS t = none := by unfold namedS; rw [h]; simp
theorem named_xn {t : List UInt8} (h : (cutS 46 [] t).any xnB = true) : namedS t = none := by unfold namedS; rw [h]; simp
theorem named_nil {t : List UInt8} (h : t = []) : namedS t = none := by unfold namedS; rw [h]; simp
theorem named_name {t : List UInt8} (h1 : t.all fineB = true) (h2 : (cutS 46 [] t).any xnB = false) (h3 : t ≠ []) (h4 : numberedS t = false) : namedS t = some t := by
  unfold namedS; rw [if_pos ⟨h1, h2, h3⟩, h4, if_neg Bool.false_ne_true]
theorem named_num {t : List UInt8} (h1 : t.all fineB = true) (h2 : (cutS 46 [] t).any xnB = false) (h3 : t ≠ []) (h4 : numberedS t = true) : namedS t = (fourS t).map text4S := by
  unfold namedS; rw [if_pos ⟨h1, h2, h3⟩, h4, if_pos rfl]
theorem not_fine {x : UInt8} (h : fineB x = false) : (126 < (x.toNat : Int)) ∨ ((x.toNat : Int) ≤ 126 ∧ (x.toNat : Int) < 33) ∨ ((x.toNat : Int) ≤ 126 ∧ 33 ≤ (x.toNat : Int) ∧ ((x.toNat : Int) == 37) = true) ∨ ((x.toNat : Int) ≤ 126 ∧ 33 ≤ (x.toNat : Int) ∧ ((x.toNat : Int) == 37) = false ∧ badS x = true) := by
  have h37 : (x == 37) = ((x.toNat : Int) == 37) := by
    rw [Bool.eq_iff_iff, beq_iff_eq, beq_iff_eq]
    exact ⟨fun e => by rw [e]; rfl, fun e => UInt8.toNat_inj.1 (by simpa using (by omega : x.toNat = 37))⟩
  unfold fineB at h
  rw [h37] at h
  by_cases a : 126 < (x.toNat : Int)
  · exact .inl a
  by_cases b : (x.toNat : Int) < 33
  · exact .inr (.inl ⟨by omega, b⟩)
  cases c : ((x.toNat : Int) == 37)
  · refine .inr (.inr (.inr ⟨by omega, by omega, rfl, ?_⟩))
    rw [c, decide_eq_true (by omega : 33 ≤ x.toNat), decide_eq_true (by omega : x.toNat ≤ 126)] at h
    simpa using h
  · exact .inr (.inr (.inl ⟨by omega, by omega, rfl⟩))
theorem is_fine {x : UInt8} (h : fineB x = true) : (x.toNat : Int) ≤ 126 ∧ 33 ≤ (x.toNat : Int) ∧ ((x.toNat : Int) == 37) = false ∧ badS x = false := by
  have h37 : (x == 37) = ((x.toNat : Int) == 37) := by
    rw [Bool.eq_iff_iff, beq_iff_eq, beq_iff_eq]
    exact ⟨fun e => by rw [e]; rfl, fun e => UInt8.toNat_inj.1 (by simpa using (by omega : x.toNat = 37))⟩
  unfold fineB at h
  rw [h37] at h
  simp only [Bool.and_eq_true, decide_eq_true_eq, Bool.not_eq_true'] at h
  obtain ⟨⟨⟨a, b⟩, c⟩, d⟩ := h
  exact ⟨by omega, by omega, c, d⟩
theorem all_not {p : UInt8 → Bool} {s : ByteArray} {k : Nat} {x : UInt8} (h : k < s.size) (e : s[k] = x) (hp : p x = false) : (bl s).all p = false := by
  rw [Bool.eq_false_iff]
  intro ha
  have : s[k] ∈ bl s := List.mem_of_getElem? (bl_get s k h)
  rw [e] at this
  have := List.all_eq_true.1 ha _ this
  rw [hp] at this; cases this
theorem fourF_range {n : Nat} : ∀ (ls : List (List UInt8)) (i : Nat) (a v : Int), fourF n i a ls = some v → 0 ≤ v ∧ v ≤ 4294967295
  | [], i, a, v, h => by
    have h : some (IntKind.u32.wrap a) = some v := h
    injection h with h
    rw [IntKind.wrap_u32] at h
    omega
  | x :: r, i, a, v, h => by
    rw [fourF] at h
    split at h
    · cases h
    · split at h
      · split at h
        · cases h
        · exact fourF_range r _ _ _ h
      · split at h
        · cases h
        · exact fourF_range r _ _ _ h
theorem four_range {l : List UInt8} {v : Int} (h : fourS l = some v) : 0 ≤ v ∧ v ≤ 4294967295 := by
  unfold fourS at h
  split at h
  · cases h
  · exact fourF_range _ _ _ _ h
set_option maxHeartbeats 4000000 in
set_option maxRecDepth 100000 in
theorem host_named (s : ByteArray) (w : World) (hs : s.size ≤ 1000000) (HE : Hid (Env w)) :
    Calls Tryz.prog 44 #[.string s] w fun e w' => parsed (namedS (bl s)) e ∧ Hid (Bel w w') := by
  go_enter Tryz.func44, Tryz.ntmps44
  go_wp2_with fail
  go_loopg [12] s.size (fun g v12 wr => ∃ k : Nat, v12 = .int .i64 k ∧ k + g = s.size ∧ Hid (((bl s).take k).all fineB = true) ∧ w = wr)
  case atStart => exact ⟨0, rfl, by omega, rfl, rfl⟩
  case round =>
    obtain ⟨k, rfl, hk, HA, rfl⟩ := hrel
    cases gk with
    | succ g =>
      have hlt : k < s.size := by omega
      obtain ⟨c, hc⟩ : ∃ c, s[k] = c := ⟨_, rfl⟩
      have hb := back_u8 c
      cases hf : fineB c
      · have HN : Hid (namedS (bl s) = none) := named_bad (all_not hlt hc hf)
        rcases not_fine hf with h1 | ⟨h1, h2⟩ | ⟨h1, h2, h3⟩ | ⟨h1, h2, h3, h4⟩
        case inr.inr.inr =>
          have h5 : 0 ≤ Lib.indexByte [0, 9, 10, 13, 32, 35, 47, 58, 60, 62, 63, 64, 91, 92, 93, 94, 124] c := idx_ge.2 h4
          clear hf h4
          go_wp2_with (go_at_call 76; go_must (refine (Tryz.strings_IndexByte _ _ _).mono ?_); rintro e w' ⟨rfl, hw⟩; rw [hw, hb])
          go_ret2
          exact ⟨parsed_none HN.out, by unfold Hid; exact Below.refl _ _⟩
        all_goals
          clear hf
          go_wp2_with fail
          go_ret2
          exact ⟨parsed_none HN.out, by unfold Hid; exact Below.refl _ _⟩
      · obtain ⟨h1, h2, h3, h4⟩ := is_fine hf
        have HA2 : Hid (((bl s).take (k + 1)).all fineB = true) := by unfold Hid; rw [all_take s k hlt, HA.out, hc, hf]; rfl
        have h5 : Lib.indexByte [0, 9, 10, 13, 32, 35, 47, 58, 60, 62, 63, 64, 91, 92, 93, 94, 124] c < 0 := idx_lt.2 h4
        clear hf h4
        go_wp2_with (go_at_call 76; go_must (refine (Tryz.strings_IndexByte _ _ _).mono ?_); rintro e w' ⟨rfl, hw⟩; rw [hw, hb])
        go_roundg g
        case measure => omega
        case rel => exact ⟨k + 1, rfl, by omega, HA2, rfl⟩
    | zero =>
      obtain rfl : k = s.size := by omega
      have HA2 : Hid ((bl s).all fineB = true) := by have := HA.out; rw [List.take_of_length_le (by rw [bl_length]; exact Nat.le_refl _)] at this; exact this
      clear HA hk
      go_wp2_with fail
      refine (host_Split 46 s _ hs HE).mono ?_
      rintro e w1 ⟨⟨g, c, rfl, hc, hR⟩, HB1⟩
      have c46 : (((46 : UInt8).toNat : Nat) : Int) = 46 := rfl
      rw [c46] at hc hR ⊢
      clear c46
      have HC : Hid ((cutS 46 [] (bl s)).length ≤ s.size + 1) := by have := cutS_len 46 (bl s) []; rw [bl_length] at this; exact this
      have HCS : Hid ((cutS 46 [] (bl s)).any xnB = (cutS 46 [] (bl s)).any xnB) := rfl
      have hml : ∀ x ∈ cutS 46 [] (bl s), x.length ≤ s.size := fun x hx => by have := cut_mem_len hx; rw [bl_length] at this; exact this
      have HNX : Hid ((cutS 46 [] (bl s)).any xnB = true → namedS (bl s) = none) := named_xn
      have HNN : Hid ((cutS 46 [] (bl s)).any xnB = false → bl s ≠ [] → namedS (bl s) = if numberedS (bl s) = true then (fourS (bl s)).map text4S else some (bl s)) := by
        intro h1 h2
        cases h4 : numberedS (bl s)
        · rw [named_name HA2.out h1 h2 h4, if_neg Bool.false_ne_true]
        · rw [named_num HA2.out h1 h2 h4, if_pos rfl]
      have HML := Lib.hid hml
      have hcb := HC.out
      have HE1 := Lib.hid (HE.out.bel HB1.out)
      clear hml HCS
      generalize cutS 46 [] (bl s) = ls at *
      go_wp2_with fail
      go_loopg [37] ls.length (fun g v wr => ∃ k : Nat, v = .int .i64 k ∧ k + g = ls.length ∧ Hid ((ls.take k).any xnB = false) ∧ w1 = wr)
      case atStart => exact ⟨0, rfl, by omega, rfl, rfl⟩
      case round =>
        obtain ⟨k, rfl, hk, HA, rfl⟩ := hrel
        cases gk with
        | succ g' =>
          have hlt : k < ls.length := by omega
          obtain ⟨u, hu⟩ : ∃ u, ls[k]? = some (bl u) := ⟨⟨(ls[k]'hlt).toArray⟩, by rw [bl_mk]; exact List.getElem?_eq_getElem _⟩
          have hcell := strs_cell hR.out hu
          have HA2 : Hid ((ls.take (k + 1)).any xnB = xnB (bl u)) := by
            unfold Hid
            rw [List.take_add_one, hu, List.any_append, HA.out]; simp
          have hpx : Lib.hasPrefix u.data.toList [120, 110, 45, 45] = xnB (bl u) := hasPrefix_eq u ⟨#[120, 110, 45, 45]⟩
          have HU := Lib.hid hu
          clear hu
          generalize xnB (bl u) = b at *
          cases b
          · go_wp2_with (go_at_call 40; go_must (refine (Tryz.strings_HasPrefix _ _ _).mono ?_); rintro e w' ⟨rfl, hw⟩; rw [hw, hpx])
            go_roundg g'
            case measure => omega
            case rel => exact ⟨k + 1, by go_num, by omega, HA2, rfl⟩
          · have HN : Hid (namedS (bl s) = none) := HNX.out (by
              have h2 := HA2.out
              rw [List.any_eq_true] at h2 ⊢
              obtain ⟨x, hx, hp⟩ := h2
              exact ⟨x, (List.take_sublist _ _).subset hx, hp⟩)
            go_wp2_with (go_at_call 40; go_must (refine (Tryz.strings_HasPrefix _ _ _).mono ?_); rintro e w' ⟨rfl, hw⟩; rw [hw, hpx])
            go_ret2
            exact ⟨parsed_none HN.out, HB1⟩
        | zero =>
          obtain rfl : k = ls.length := by omega
          have HX : Hid (ls.any xnB = false) := by have := HA.out; rw [List.take_of_length_le (Nat.le_refl _)] at this; exact this
          by_cases h0 : bl s = []
          · have h0' : s.toList.isEmpty = true := (str_empty s).2 h0
            have HF : Hid (namedS (bl s) = none) := named_nil h0
            clear h0
            go_wp2
            go_ret2
            exact ⟨parsed_none HF.out, HB1⟩
          · have h0' : s.toList.isEmpty = false := by rw [Bool.eq_false_iff, ne_eq, str_empty]; exact h0
            have HF := Lib.hid (HNN.out HX.out h0)
            clear h0
            go_wp2_with fail
            refine (host_Numbered s _ hs HE1).mono ?_
            rintro e w2 ⟨rfl, HB2⟩
            have HB3 := Lib.hid (bel_trans HB1.out HB2.out)
            have HE2 := Lib.hid (HE1.out.bel HB2.out)
            cases hn : numberedS (bl s)
            · have HF2 := Lib.hid (HF.out.trans (by rw [hn, if_neg Bool.false_ne_true]) : namedS (bl s) = some (bl s))
              clear hn
              go_wp2
              go_ret2
              exact ⟨parsed_some HF2.out, HB3⟩
            · have HF2 := Lib.hid (HF.out.trans (by rw [hn, if_pos rfl]) : namedS (bl s) = (fourS (bl s)).map text4S)
              clear hn
              go_wp2_with fail
              refine (host_Four s _ hs HE2).mono ?_
              rintro e w3 ⟨rfl, HB4⟩
              have HB5 := Lib.hid (bel_trans HB3.out HB4.out)
              have HE3 := Lib.hid (HE2.out.bel HB4.out)
              cases hv : fourS (bl s) with
              | none =>
                have HF3 : Hid (namedS (bl s) = none) := by rw [hv] at HF2; exact HF2
                clear hv
                go_wp2
                go_ret2
                exact ⟨parsed_none HF3.out, HB5⟩
              | some v =>
                have HF3 : Hid (namedS (bl s) = some (text4S v)) := by rw [hv] at HF2; exact HF2
                have hr := four_range hv
                clear hv
                go_wp2_with fail
                refine (host_Text4 v _ (by omega) (by omega) HE3).mono ?_
                rintro e w4 ⟨⟨t, rfl, ht⟩, HB6⟩
                go_wp2
                go_ret2
                exact ⟨parsed_some (by rw [HF3.out, ht.out]), bel_trans HB5.out HB6.out⟩
end Go.Proofs.YtpgehhnmlihnbaaGreatDoor
