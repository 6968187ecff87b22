import Derived.Test.YtbpkkgaaeodimaaGreatDoorXG10
import Derived.WalkMore
namespace Go.Proofs.YtbpkkgaaeodimaaGreatDoor
open Go.RowKit

def fineB (x : UInt8) : Bool := decide (33 ≤ x.toNat) && decide (x.toNat ≤ 126) && !(x == 37) && !badS x
def xnS : List UInt8 := [120, 110, 45, 45]
def xnB (x : List UInt8) : Bool := begins x xnS
def namedS (t : List UInt8) : Option (List UInt8) :=
  if t.all fineB = true ∧ (cutS 46 [] t).any xnB = false ∧ t ≠ [] then
    if numberedS t = true then (fourS t).map text4S else some t
  else none
def errO (o : Option (List UInt8)) : Int := if o.isSome then 0 else 10
def parsed (o : Option (List UInt8)) (e : Ending) : Prop := ∃ t, e = .returned (.tuple #[.string t, .int .i64 (errO o)]) ∧ Hid (bl t = o.getD [])
def parsed2 (o : Option (List UInt8)) (e : Ending) : Prop := ∃ t, e = .returned (.tuple #[.string t, .bool o.isSome]) ∧ Hid (bl t = o.getD [])
theorem parsed_none {o : Option (List UInt8)} (h : o = none) : parsed o (.returned (.tuple #[.string ⟨#[]⟩, .int .i64 10])) := ⟨_, by rw [h]; rfl, by rw [h]; rfl⟩
theorem parsed_some {o : Option (List UInt8)} {t : ByteArray} (h : o = some (bl t)) : parsed o (.returned (.tuple #[.string t, .int .i64 0])) := ⟨_, by rw [h]; rfl, by rw [h]; rfl⟩
theorem parsed2_none {o : Option (List UInt8)} (h : o = none) : parsed2 o (.returned (.tuple #[.string ⟨#[]⟩, .bool false])) := ⟨_, by rw [h]; rfl, by rw [h]; rfl⟩
theorem parsed2_some {o : Option (List UInt8)} {t : ByteArray} (h : o = some (bl t)) : parsed2 o (.returned (.tuple #[.string t, .bool true])) := ⟨_, by rw [h]; rfl, by rw [h]; rfl⟩
theorem named_bad {t : List UInt8} (h : t.all fineB = false) : namedS t = none := by unfold namedS; rw [h]; simp
theorem named_xn {t : List UInt8} (h : (cutS 46 [] t).any xnB = true) : namedS t = none := by unfold namedS; rw [h]; simp
theorem named_nil {t : List UInt8} (h : t = []) : namedS t = none := by unfold namedS; rw [h]; simp
theorem named_name {t : List UInt8} (h1 : t.all fineB = true) (h2 : (cutS 46 [] t).any xnB = false) (h3 : t ≠ []) (h4 : numberedS t = false) : namedS t = some t := by
  unfold namedS; rw [if_pos ⟨h1, h2, h3⟩, h4, if_neg Bool.false_ne_true]
theorem named_num {t : List UInt8} (h1 : t.all fineB = true) (h2 : (cutS 46 [] t).any xnB = false) (h3 : t ≠ []) (h4 : numberedS t = true) : namedS t = (fourS t).map text4S := by
  unfold namedS; rw [if_pos ⟨h1, h2, h3⟩, h4, if_pos rfl]
theorem not_fine {x : UInt8} (h : fineB x = false) : (126 < (x.toNat : Int)) ∨ ((x.toNat : Int) ≤ 126 ∧ (x.toNat : Int) < 33) ∨ ((x.toNat : Int) ≤ 126 ∧ 33 ≤ (x.toNat : Int) ∧ ((x.toNat : Int) == 37) = true) ∨ ((x.toNat : Int) ≤ 126 ∧ 33 ≤ (x.toNat : Int) ∧ ((x.toNat : Int) == 37) = false ∧ badS x = true) := by
  have h37 : (x == 37) = ((x.toNat : Int) == 37) := by
    rw [Bool.eq_iff_iff, beq_iff_eq, beq_iff_eq]
    exact ⟨fun e => by rw [e]; rfl, fun e => UInt8.toNat_inj.1 (by simpa using (by omega : x.toNat = 37))⟩
  unfold fineB at h
  rw [h37] at h
  by_cases a : 126 < (x.toNat : Int)
  · exact .inl a
  by_cases b : (x.toNat : Int) < 33
  · exact .inr (.inl ⟨by omega, b⟩)
  cases c : ((x.toNat : Int) == 37)
  · refine .inr (.inr (.inr ⟨by omega, by omega, rfl, ?_⟩))
    rw [c, decide_eq_true (by omega : 33 ≤ x.toNat), decide_eq_true (by omega : x.toNat ≤ 126)] at h
    simpa using h
  · exact .inr (.inr (.inl ⟨by omega, by omega, rfl⟩))
theorem is_fine {x : UInt8} (h : fineB x = true) : (x.toNat : Int) ≤ 126 ∧ 33 ≤ (x.toNat : Int) ∧ ((x.toNat : Int) == 37) = false ∧ badS x = false := by
  have h37 : (x == 37) = ((x.toNat : Int) == 37) := by
    rw [Bool.eq_iff_iff, beq_iff_eq, beq_iff_eq]
    exact ⟨fun e => by rw [e]; rfl, fun e => UInt8.toNat_inj.1 (by simpa using (by omega : x.toNat = 37))⟩
  unfold fineB at h
  rw [h37] at h
  simp only [Bool.and_eq_true, decide_eq_true_eq, Bool.not_eq_true'] at h
  obtain ⟨⟨⟨a, b⟩, c⟩, d⟩ := h
  exact ⟨by omega, by omega, c, d⟩
theorem all_not {p : UInt8 → Bool} {s : ByteArray} {k : Nat} {x : UInt8} (h : k < s.size) (e : s[k] = x) (hp : p x = false) : (bl s).all p = false := by
  rw [Bool.eq_false_iff]
  intro ha
  have : s[k] ∈ bl s := List.mem_of_getElem? (bl_get s k h)
  rw [e] at this
  have := List.all_eq_true.1 ha _ this
  rw [hp] at this; cases this
theorem fourF_range {n : Nat} : ∀ (ls : List (List UInt8)) (i : Nat) (a v : Int), fourF n i a ls = some v → 0 ≤ v ∧ v ≤ 4294967295
  | [], i, a, v, h => by
    have h : some (IntKind.u32.wrap a) = some v := h
    injection h with h
    rw [IntKind.wrap_u32] at h
    omega
  | x :: r, i, a, v, h => by
    rw [fourF] at h
    split at h
    · cases h
    · split at h
      · split at h
        · cases h
        · exact fourF_range r _ _ _ h
      · split at h
        · cases h
        · exact fourF_range r _ _ _ h
theorem four_range {l : List UInt8} {v : Int} (h : fourS l = some v) : 0 ≤ v ∧ v ≤ 4294967295 := by
  unfold fourS at h
  split at h
  · cases h
  · exact fourF_range _ _ _ _ h
set_option maxHeartbeats 4000000 in
set_option maxRecDepth 100000 in
theorem host_named (s : ByteArray) (w : World) (hs : s.size ≤ 1000000) (HE : Hid (Env w)) :
    Calls Tryz.prog 195 #[.string s] w fun e w' => parsed (namedS (bl s)) e ∧ Hid (Bel w w') := by
  go_enter Tryz.func195, Tryz.ntmps195
  go_wp2_with fail
  go_loopg [12] s.size (fun g v12 wr => ∃ k : Nat, v12 = .int .i64 k ∧ k + g = s.size ∧ Hid (((bl s).take k).all fineB = true) ∧ w = wr)
  case atStart => exact ⟨0, rfl, by omega, rfl, rfl⟩
  case round =>
    obtain ⟨k, rfl, hk, HA, rfl⟩ := hrel
    cases gk with
    | succ g =>
      have hlt : k < s.size := by omega
      obtain ⟨c, hc⟩ : ∃ c, s[k] = c := ⟨_, rfl⟩
      have hb := back_u8 c
      cases hf : fineB c
      · have HN : Hid (namedS (bl s) = none) := named_bad (all_not hlt hc hf)
        rcases not_fine hf with h1 | ⟨h1, h2⟩ | ⟨h1, h2, h3⟩ | ⟨h1, h2, h3, h4⟩
        case inr.inr.inr =>
          have h5 : 0 ≤ Lib.indexByte [0, 9, 10, 13, 32, 35, 47, 58, 60, 62, 63, 64, 91, 92, 93, 94, 124] c := idx_ge.2 h4
          clear hf h4
          go_wp2_with (go_at_call 82; go_must (refine (Tryz.strings_IndexByte _ _ _).mono ?_); rintro e w' ⟨rfl, hw⟩; rw [hw, hb])
          go_ret2
          exact ⟨parsed_none HN.out, by unfold Hid; exact Below.refl _ _⟩
        all_goals
          clear hf
          go_wp2_with fail
          go_ret2
          exact ⟨parsed_none HN.out, by unfold Hid; exact Below.refl _ _⟩
      · obtain ⟨h1, h2, h3, h4⟩ := is_fine hf
        have HA2 : Hid (((bl s).take (k + 1)).all fineB = true) := by unfold Hid; rw [all_take s k hlt, HA.out, hc, hf]; rfl
        have h5 : Lib.indexByte [0, 9, 10, 13, 32, 35, 47, 58, 60, 62, 63, 64, 91, 92, 93, 94, 124] c < 0 := idx_lt.2 h4
        clear hf h4
        go_wp2_with (go_at_call 82; go_must (refine (Tryz.strings_IndexByte _ _ _).mono ?_); rintro e w' ⟨rfl, hw⟩; rw [hw, hb])
        go_roundg g
        case measure => omega
        case rel => exact ⟨k + 1, rfl, by omega, HA2, rfl⟩
    | zero =>
      obtain rfl : k = s.size := by omega
      have HA2 : Hid ((bl s).all fineB = true) := by have := HA.out; rw [List.take_of_length_le (by rw [bl_length]; exact Nat.le_refl _)] at this; exact this
      clear HA hk
      go_wp2_with fail
      refine (host_Split 46 s _ hs HE).mono ?_
      rintro e w1 ⟨⟨g, c, rfl, hc, hR⟩, HB1⟩
      have c46 : (((46 : UInt8).toNat : Nat) : Int) = 46 := rfl
      rw [c46] at hc hR ⊢
      clear c46
      have HC : Hid ((cutS 46 [] (bl s)).length ≤ s.size + 1) := by have := cutS_len 46 (bl s) []; rw [bl_length] at this; exact this
      have HCS : Hid ((cutS 46 [] (bl s)).any xnB = (cutS 46 [] (bl s)).any xnB) := rfl
      have hml : ∀ x ∈ cutS 46 [] (bl s), x.length ≤ s.size := fun x hx => by have := cut_mem_len hx; rw [bl_length] at this; exact this
      have HNX : Hid ((cutS 46 [] (bl s)).any xnB = true → namedS (bl s) = none) := named_xn
      have HNN : Hid ((cutS 46 [] (bl s)).any xnB = false → bl s ≠ [] → namedS (bl s) = if numberedS (bl s) = true then (fourS (bl s)).map text4S else some (bl s)) := by
        intro h1 h2
        cases h4 : numberedS (bl s)
        · rw [named_name HA2.out h1 h2 h4, if_neg Bool.false_ne_true]
        · rw [named_num HA2.out h1 h2 h4, if_pos rfl]
      have HML := Lib.hid hml
      have hcb := HC.out
      have HE1 := Lib.hid (HE.out.bel HB1.out)
      clear hml HCS
      generalize cutS 46 [] (bl s) = ls at *
      go_wp2_with fail
      go_loopg [37] ls.length (fun g v wr => ∃ k : Nat, v = .int .i64 k ∧ k + g = ls.length ∧ Hid ((ls.take k).any xnB = false) ∧ w1 = wr)
      case atStart => exact ⟨0, rfl, by omega, rfl, rfl⟩
      case round =>
        obtain ⟨k, rfl, hk, HA, rfl⟩ := hrel
        cases gk with
        | succ g' =>
          have hlt : k < ls.length := by omega
          obtain ⟨u, hu⟩ : ∃ u, ls[k]? = some (bl u) := ⟨⟨(ls[k]'hlt).toArray⟩, by rw [bl_mk]; exact List.getElem?_eq_getElem _⟩
          have hcell := strs_cell hR.out hu
          have HA2 : Hid ((ls.take (k + 1)).any xnB = xnB (bl u)) := by
            unfold Hid
            rw [List.take_add_one, hu, List.any_append, HA.out]; simp
          have hpx : Lib.hasPrefix u.data.toList [120, 110, 45, 45] = xnB (bl u) := hasPrefix_eq u ⟨#[120, 110, 45, 45]⟩
          have HU := Lib.hid hu
          clear hu
          generalize xnB (bl u) = b at *
          cases b
          · go_wp2_with (go_at_call 64; go_must (refine (Tryz.strings_HasPrefix _ _ _).mono ?_); rintro e w' ⟨rfl, hw⟩; rw [hw, hpx])
            go_roundg g'
            case measure => omega
            case rel => exact ⟨k + 1, by go_num, by omega, HA2, rfl⟩
          · have HN : Hid (namedS (bl s) = none) := HNX.out (by
              have h2 := HA2.out
              rw [List.any_eq_true] at h2 ⊢
              obtain ⟨x, hx, hp⟩ := h2
              exact ⟨x, (List.take_sublist _ _).subset hx, hp⟩)
            go_wp2_with (go_at_call 64; go_must (refine (Tryz.strings_HasPrefix _ _ _).mono ?_); rintro e w' ⟨rfl, hw⟩; rw [hw, hpx])
            go_ret2
            exact ⟨parsed_none HN.out, HB1⟩
        | zero =>
          obtain rfl : k = ls.length := by omega
          have HX : Hid (ls.any xnB = false) := by have := HA.out; rw [List.take_of_length_le (Nat.le_refl _)] at this; exact this
          by_cases h0 : bl s = []
          · have h0' : s.toList.isEmpty = true := (str_empty s).2 h0
            have HF : Hid (namedS (bl s) = none) := named_nil h0
            clear h0
            go_wp2
            go_ret2
            exact ⟨parsed_none HF.out, HB1⟩
          · have h0' : s.toList.isEmpty = false := by rw [Bool.eq_false_iff, ne_eq, str_empty]; exact h0
            have HF := Lib.hid (HNN.out HX.out h0)
            clear h0
            go_wp2_with fail
            refine (host_Numbered s _ hs HE1).mono ?_
            rintro e w2 ⟨rfl, HB2⟩
            have HB3 := Lib.hid (bel_trans HB1.out HB2.out)
            have HE2 := Lib.hid (HE1.out.bel HB2.out)
            cases hn : numberedS (bl s)
            · have HF2 := Lib.hid (HF.out.trans (by rw [hn, if_neg Bool.false_ne_true]) : namedS (bl s) = some (bl s))
              clear hn
              go_wp2
              go_ret2
              exact ⟨parsed_some HF2.out, HB3⟩
            · have HF2 := Lib.hid (HF.out.trans (by rw [hn, if_pos rfl]) : namedS (bl s) = (fourS (bl s)).map text4S)
              clear hn
              go_wp2_with fail
              refine (host_Four s _ hs HE2).mono ?_
              rintro e w3 ⟨rfl, HB4⟩
              have HB5 := Lib.hid (bel_trans HB3.out HB4.out)
              have HE3 := Lib.hid (HE2.out.bel HB4.out)
              cases hv : fourS (bl s) with
              | none =>
                have HF3 : Hid (namedS (bl s) = none) := by rw [hv] at HF2; exact HF2
                clear hv
                go_wp2
                go_ret2
                exact ⟨parsed_none HF3.out, HB5⟩
              | some v =>
                have HF3 : Hid (namedS (bl s) = some (text4S v)) := by rw [hv] at HF2; exact HF2
                have hr := four_range hv
                clear hv
                go_wp2_with fail
                refine (host_Text4 v _ (by omega) (by omega) HE3).mono ?_
                rintro e w4 ⟨⟨t, rfl, ht⟩, HB6⟩
                go_wp2
                go_ret2
                exact ⟨parsed_some (by rw [HF3.out, ht.out]), bel_trans HB5.out HB6.out⟩
end Go.Proofs.YtbpkkgaaeodimaaGreatDoor
namespace Go.Proofs.YtbpkkgaaeodimaaGreatDoor
open Go.RowKit

theorem dot4_lt : ∀ (ls : List (List UInt8)) (n m : Nat), dot4F n ls = some m → m < (n + 1) * 256 ^ ls.length
  | [], n, m, h => by
    have h : some n = some m := h
    injection h with h
    simp; omega
  | x :: r, n, m, h => by
    rw [dot4F] at h
    split at h
    · cases h
    · rename_i d hd
      have h1 := byte_le hd
      have h2 := dot4_lt r _ _ h
      rw [List.length_cons, Nat.pow_succ]
      have h3 : (n * 256 + d + 1) * 256 ^ r.length ≤ ((n + 1) * 256) * 256 ^ r.length := Nat.mul_le_mul_right _ (by omega)
      have h4 : (n + 1) * 256 * 256 ^ r.length = (n + 1) * (256 ^ r.length * 256) := by rw [Nat.mul_assoc, Nat.mul_comm 256]
      omega
theorem dotted_le {x : List UInt8} {l : List Nat} (h : dottedS x = some l) : ∀ v ∈ l, v ≤ 65535 := by
  unfold dottedS at h
  split at h
  · rename_i h4
    obtain ⟨n, hn, rfl⟩ := Option.map_eq_some_iff.1 h
    have := dot4_lt _ _ _ hn
    rw [h4] at this
    intro v hv
    rcases List.mem_cons.1 hv with rfl | hv
    · omega
    · rcases List.mem_cons.1 hv with rfl | hv
      · omega
      · cases hv
  · cases h
theorem pf_le {last : Bool} : ∀ {ls : List (List UInt8)} {l : List Nat}, piecesF last ls = some l → ∀ v ∈ l, v ≤ 65535
  | [], l, h => by cases h; intro v hv; cases hv
  | x :: r, l, h => by
    unfold piecesF at h
    split at h
    · exact dotted_le h
    · split at h
      · cases h
      · rename_i u hu
        obtain ⟨m, hm, rfl⟩ := Option.map_eq_some_iff.1 h
        have h1 := hexPiece_lt hu
        intro v hv
        rcases List.mem_cons.1 hv with rfl | hv
        · omega
        · exact pf_le hm v hv
theorem pieces6_le {last : Bool} {l : List UInt8} {x : List Nat} (h : pieces6S last l = some x) : ∀ v ∈ x, v ≤ 65535 := by
  unfold pieces6S at h
  split at h
  · cases h; intro v hv; cases hv
  · exact pf_le h
theorem six_shape {l : List UInt8} {xs : List Nat} (h : sixS l = some xs) : xs.length = 8 ∧ ∀ v ∈ xs, v ≤ 65535 := by
  unfold sixS at h
  have hq := cut_none l [58, 58]
  have hl : ∀ {p q : Option (List Nat)} {gap : Bool}, (gap = false → q = some []) → (∀ x, p = some x → ∀ v ∈ x, v ≤ 65535) → (∀ x, q = some x → ∀ v ∈ x, v ≤ 65535) → sixJ gap p q = some xs → xs.length = 8 ∧ ∀ v ∈ xs, v ≤ 65535 := by
    intro p q gap hg hp hq hj
    unfold sixJ at hj
    split at hj
    · rename_i x y
      split at hj
      · cases hj
      · rename_i hc
        injection hj with hj
        subst hj
        refine ⟨?_, ?_⟩
        · cases gap
          · have hy := Option.some.inj (hg rfl)
            subst hy
            simp at hc
            simp [hc]
          · simp at hc
            simp; omega
        · intro v hv
          rcases List.mem_append.1 hv with h1 | h1
          · exact hp _ rfl v h1
          · rcases List.mem_append.1 h1 with h2 | h2
            · have := (List.mem_replicate.1 h2).2; omega
            · exact hq _ rfl v h2
    · cases hj
  exact hl (fun e => by rw [hq e]; rfl) (fun x hx => pieces6_le hx) (fun x hx => pieces6_le hx) h
theorem getD_le {xs : List Nat} (hv : ∀ x ∈ xs, x ≤ 65535) (i : Nat) : xs.getD i 0 ≤ 65535 := by
  rw [List.getD_eq_getElem?_getD]
  cases h : xs[i]? with
  | none => simp
  | some v => exact hv v (List.mem_of_getElem? h)
theorem rest_len {xs : List Nat} (hv : ∀ x ∈ xs, x ≤ 65535) (f : Int) (m : Nat) : ∀ (n i : Nat), 8 - i ≤ n → (restF xs f m i).length ≤ 5 * (8 - i)
  | 0, i, h => by rw [rest_end xs f m i (by omega)]; simp
  | n + 1, i, h => by
    rw [restF]
    split
    · split
      · have := rest_len hv f m n (i + (m - 1) + 1) (by omega)
        rw [List.length_append]
        simp only [List.length_cons, List.length_nil]
        omega
      · have h1 := rest_len hv f m n (i + 1) (by omega)
        have h2 := digs16_len _ (getD_le hv i)
        rw [List.length_append, List.length_append]
        split <;> simp only [List.length_cons, List.length_nil] <;> omega
    · simp
theorem text6_len {xs : List Nat} (hv : ∀ x ∈ xs, x ≤ 65535) : (text6S xs).length ≤ 40 := rest_len hv _ _ 8 0 (by omega)
def parseS (l : List UInt8) (special : Bool) : Option (List UInt8) :=
  if begins l [91] = true then if ends l [93] = true then (sixS ((l.drop 1).take (l.length - 2))).map (fun xs => 91 :: (text6S xs ++ [93])) else none
  else if special = true then namedS (lower (unpercent l)) else if l.any badS = true then none else some (percent 1 l)
theorem both_ends {l : List UInt8} (h1 : begins l [91] = true) (h2 : ends l [93] = true) : 2 ≤ l.length := by
  unfold begins at h1
  unfold ends at h2
  match l with
  | [] => simp at h1
  | [x] => simp at h1 h2; rw [h1] at h2; cases h2
  | _ :: _ :: _ => simp
theorem hasSuffix_eq (s t : ByteArray) : Lib.hasSuffix s.data.toList t.data.toList = ends (bl s) (bl t) := by
  unfold Lib.hasSuffix ends
  change _ = (decide ((bl t).length ≤ (bl s).length) && List.drop ((bl s).length - (bl t).length) (bl s) == bl t)
  rw [Bool.eq_iff_iff]
  simp only [Bool.and_eq_true, decide_eq_true_eq, beq_iff_eq]
  rw [List.isSuffixOf_iff_suffix, List.suffix_iff_eq_drop]
  change bl t = List.drop ((bl s).length - (bl t).length) (bl s) ↔ _
  constructor
  · intro h; exact ⟨by have := congrArg List.length h; rw [List.length_drop] at this; omega, h.symm⟩
  · exact fun h => h.2.symm
theorem lower_len (l : List UInt8) : (lower l).length = l.length := by unfold lower; simp
theorem badB_eq : bl badB = badL := rfl
theorem badB_asc : Hid (Asc (bl badB)) := asc_of (by decide)
set_option maxHeartbeats 4000000 in
set_option maxRecDepth 100000 in
theorem host_Parse (s : ByteArray) (special : Bool) (w : World) (hs : s.size ≤ 1000000) (HE : Hid (Env w)) :
    Calls Tryz.prog 168 #[.string s, .bool special] w fun e w' => parsed (parseS (bl s) special) e ∧ Hid (Bel w w') := by
  have h1 : Lib.hasPrefix s.data.toList [91] = begins (bl s) [91] := hasPrefix_eq s ⟨#[91]⟩
  have h2 : Lib.hasSuffix s.data.toList [93] = ends (bl s) [93] := hasSuffix_eq s ⟨#[93]⟩
  have HP : Hid (parseS (bl s) special = if begins (bl s) [91] = true then if ends (bl s) [93] = true then (sixS (((bl s).drop 1).take ((bl s).length - 2))).map (fun xs => 91 :: (text6S xs ++ [93])) else none
    else if special = true then namedS (lower (unpercent (bl s))) else if (bl s).any badS = true then none else some (percent 1 (bl s))) := rfl
  have H2 : Hid (begins (bl s) [91] = true → ends (bl s) [93] = true → 2 ≤ s.size) := fun a b => by have := both_ends a b; rw [bl_length] at this; exact this
  generalize begins (bl s) [91] = a at *
  generalize ends (bl s) [93] = b at *
  cases a
  · cases special
    · have HP2 : Hid (parseS (bl s) false = if (bl s).any badS = true then none else some (percent 1 (bl s))) := HP.out
      have HP2 : Hid (parseS (bl s) false = if (bl s).any (bl badB).contains = true then none else some (percent 1 (bl s))) := HP2
      clear HP H2
      obtain ⟨x, hx0⟩ : ∃ x, (bl s).any (bl badB).contains = x := ⟨_, rfl⟩
      rw [hx0] at HP2
      have HX := Lib.hid hx0
      clear hx0
      cases x
      all_goals
        go_enter Tryz.func168, Tryz.ntmps168
        go_wp2_with (first | (go_at_call 64; go_must (refine (Tryz.strings_HasPrefix _ _ _).mono ?_); rintro e w' ⟨rfl, hw⟩; rw [hw, h1]) | (go_at_call 194; go_must (refine (lib_ContainsAny s badB _ hs badB_asc (by decide) (by decide)).mono ?_); rintro e w1 ⟨rfl, HB1⟩; rw [HX.out]))
      · have HF : Hid (parseS (bl s) false = some (percent 1 (bl s))) := HP2.out
        clear HP2
        refine (infra_Percent s 1 _ (by omega)).mono ?_
        rintro e w2 ⟨⟨t, rfl, ht, _⟩, HB2⟩
        go_wp2
        go_ret2
        exact ⟨parsed_some (by rw [HF.out, ht.out]), bel_trans HB1.out HB2.out⟩
      · go_ret2
        exact ⟨parsed_none HP2.out, HB1⟩
    · have HP2 : Hid (parseS (bl s) true = namedS (lower (unpercent (bl s)))) := HP.out
      clear HP H2
      go_enter Tryz.func168, Tryz.ntmps168
      go_wp2_with (first | (go_at_call 64; go_must (refine (Tryz.strings_HasPrefix _ _ _).mono ?_); rintro e w' ⟨rfl, hw⟩; rw [hw, h1]))
      refine (infra_Unpercent s _ (by omega)).mono ?_
      rintro e w1 ⟨⟨t, rfl, ht, htz⟩, HB1⟩
      have HE1 := Lib.hid (HE.out.bel HB1.out)
      go_wp2_with fail
      refine (infra_Lower t _ (by omega)).mono ?_
      rintro e w2 ⟨⟨u, rfl, hu⟩, HB2⟩
      have hlu : u.size = t.size := by have := congrArg List.length hu.out; rw [lower_len, bl_length, bl_length] at this; exact this
      have HE2 := Lib.hid (HE1.out.bel HB2.out)
      have HB3 := Lib.hid (bel_trans HB1.out HB2.out)
      have HF : Hid (parseS (bl s) true = namedS (bl u)) := by unfold Hid; rw [HP2.out, hu.out, ht.out]
      clear HP2
      go_wp2_with fail
      refine (host_named u _ (by omega) HE2).mono ?_
      rintro e w3 ⟨⟨v, rfl, hv⟩, HB4⟩
      go_wp2
      go_ret2
      exact ⟨⟨v, by rw [HF.out]; rfl, by rw [HF.out]; exact hv⟩, bel_trans HB3.out HB4.out⟩
  · cases b
    · have HP2 : Hid (parseS (bl s) special = none) := HP.out
      clear HP H2
      go_enter Tryz.func168, Tryz.ntmps168
      go_wp2_with (first | (go_at_call 64; go_must (refine (Tryz.strings_HasPrefix _ _ _).mono ?_); rintro e w' ⟨rfl, hw⟩; rw [hw, h1]) | (go_at_call 94; go_must (refine (Tryz.strings_HasSuffix _ _ _ (by omega)).mono ?_); rintro e w' ⟨rfl, hw⟩; rw [hw, h2]))
      go_ret2
      exact ⟨parsed_none HP2.out, by unfold Hid; exact Below.refl _ _⟩
    · have hz := H2.out rfl rfl
      have HP2 : Hid (parseS (bl s) special = (sixS (bl (s.extract 1 (s.size - 1)))).map (fun xs => 91 :: (text6S xs ++ [93]))) := by
        unfold Hid; rw [HP.out, bl_extract, bl_length, if_pos rfl, if_pos rfl]; rfl
      have hez : (s.extract 1 (s.size - 1)).size ≤ 1000000 := by rw [ByteArray.size_extract]; omega
      clear HP H2
      go_enter Tryz.func168, Tryz.ntmps168
      go_wp2_with (first | (go_at_call 64; go_must (refine (Tryz.strings_HasPrefix _ _ _).mono ?_); rintro e w' ⟨rfl, hw⟩; rw [hw, h1]) | (go_at_call 94; go_must (refine (Tryz.strings_HasSuffix _ _ _ (by omega)).mono ?_); rintro e w' ⟨rfl, hw⟩; rw [hw, h2]))
      refine (host_Six _ _ hez HE).mono ?_
      rintro e w1 ⟨rfl, HB1⟩
      generalize bl (s.extract 1 (s.size - 1)) = L at *
      have HB2 : Hid (Below w.heap.size w (w1.alloc zeroCells)) := HB1.out.alloc HB1.out.size _
      cases hv : sixS L with
      | none =>
        have HF : Hid (parseS (bl s) special = none) := HP2.out.trans (by rw [hv]; rfl)
        clear hv HP2
        obtain ⟨xs, hxs⟩ : ∃ xs, xs = zeros8 := ⟨_, rfl⟩
        have H8 : Hid (xs.length = 8) := by rw [hxs]; rfl
        have HZ : sixV none = .agg (u16s xs).toArray := by rw [hxs]; rfl
        rw [HZ, show errSix none = 10 from rfl]
        clear hxs HZ
        go_wp2_with (first | (refine store8 (w0 := w) w.heap.size rfl _ _ (by exact rfl) w1.heap.size (by exact rfl) xs zeros8 H8.out rfl (by exact rfl) (alloc_at w1 zeroCells) HB2 HB1.out.size ?_; intro w2 HK2 HB3) | (refine load8 rfl _ (by exact rfl) w1.heap.size (by exact rfl) xs H8.out HK2.out ?_))
        go_ret2
        exact ⟨parsed_none HF.out, HB3⟩
      | some xs =>
        have HF : Hid (parseS (bl s) special = some (91 :: (text6S xs ++ [93]))) := HP2.out.trans (by rw [hv]; rfl)
        have h8 := six_shape hv
        have H8 := Lib.hid h8.1
        have H65 := Lib.hid h8.2
        clear hv HP2 h8
        rw [show sixV (some xs) = .agg (u16s xs).toArray from rfl, show errSix (some xs) = 0 from rfl]
        go_wp2_with (first | (refine store8 (w0 := w) w.heap.size rfl _ _ (by exact rfl) w1.heap.size (by exact rfl) xs zeros8 H8.out rfl (by exact rfl) (alloc_at w1 zeroCells) HB2 HB1.out.size ?_; intro w2 HK2 HB3) | (refine load8 rfl _ (by exact rfl) w1.heap.size (by exact rfl) xs H8.out HK2.out ?_))
        have HE2 := Lib.hid (HE.out.bel HB3.out)
        refine (host_Text6 xs _ H8.out H65.out HE2).mono ?_
        rintro e w3 ⟨⟨t, rfl, ht⟩, HB4⟩
        have htl := text6_len H65.out
        rw [← ht.out, bl_length] at htl
        go_wp2
        go_ret2
        refine ⟨parsed_some ?_, bel_trans HB3.out HB4.out⟩
        rw [HF.out, bl_append, bl_append, ht.out]
        rfl
end Go.Proofs.YtbpkkgaaeodimaaGreatDoor
namespace Go.Proofs.YtbpkkgaaeodimaaGreatDoor
open Go.RowKit

theorem any_hit {p : UInt8 → Bool} {s : ByteArray} {k : Nat} (h : k < s.size) (hp : p s[k] = true) : (bl s).any p = true := List.any_eq_true.2 ⟨_, List.mem_of_getElem? (bl_get s k h), hp⟩
set_option maxHeartbeats 4000000 in
set_option maxRecDepth 100000 in
theorem ref2_Parse (s : ByteArray) (special : Bool) (w : World) (hs : s.size ≤ 1000000) (HE : Hid (Env w)) :
    Calls Tryz.prog 130 #[.string s, .bool special] w fun e w' => parsed2 (parseS (bl s) special) e ∧ Hid (Bel w w') := by
  have HP : Hid (parseS (bl s) special = if begins (bl s) [91] = true then if ends (bl s) [93] = true then (sixS (((bl s).drop 1).take ((bl s).length - 2))).map (fun xs => 91 :: (text6S xs ++ [93])) else none
    else if special = true then namedS (lower (unpercent (bl s))) else if (bl s).any badS = true then none else some (percent 1 (bl s))) := rfl
  have H2 : Hid (begins (bl s) [91] = true → ends (bl s) [93] = true → 2 ≤ s.size) := fun a b => by have := both_ends a b; rw [bl_length] at this; exact this
  have e1 : bl ⟨#[91]⟩ = [91] := rfl
  have e2 : bl ⟨#[93]⟩ = [93] := rfl
  generalize hA : begins (bl s) [91] = a at *
  generalize hB : ends (bl s) [93] = b at *
  have HA := Lib.hid hA
  have HB := Lib.hid hB
  clear hA hB
  cases a
  · cases special
    · have HP2 : Hid (parseS (bl s) false = if (bl s).any badS = true then none else some (percent 1 (bl s))) := HP.out
      clear HP H2
      go_enter Tryz.func130, Tryz.ntmps130
      go_wp2_with (go_at_call 74; go_must (refine (ref1_Begins _ _ _).mono ?_); rintro e w' ⟨rfl, rfl⟩; rw [e1, HA.out])
      go_loopg [8] s.size (fun g v8 wr => ∃ k : Nat, v8 = .int .i64 k ∧ k + g = s.size ∧ Hid (((bl s).take k).any badS = false) ∧ w = wr)
      case atStart => exact ⟨0, rfl, by omega, rfl, rfl⟩
      case round =>
        obtain ⟨k, rfl, hk, HI, rfl⟩ := hrel
        cases gk with
        | zero =>
          have HF : Hid (parseS (bl s) false = some (percent 1 (bl s))) := by
            have := HI.out
            rw [List.take_of_length_le (by rw [bl_length]; omega)] at this
            unfold Hid; rw [HP2.out, this]; rfl
          clear HP2
          go_wp2_with fail
          refine (ref1_Percent s 1 _ (by omega)).mono ?_
          rintro e w2 ⟨⟨t, rfl, ht⟩, n, rfl⟩
          go_wp2
          go_ret2
          exact ⟨parsed2_some (by rw [HF.out, ht.out]), bel_drewN _ _⟩
        | succ g =>
          have hlt : k < s.size := by omega
          cases hb : badS s[k]
          · have HI2 : Hid (((bl s).take (k + 1)).any badS = false) := by unfold Hid; rw [any_take s k hlt, HI.out, hb]; rfl
            have HBB := Lib.hid hb
            clear hb
            go_wp2_with (go_at_call 152; go_must (refine (ref2_bad _ _).mono ?_); rintro e w' ⟨rfl, rfl⟩; rw [HBB.out])
            go_roundg g
            case measure => omega
            case rel => exact ⟨k + 1, by go_num, by omega, HI2, rfl⟩
          · have HF : Hid (parseS (bl s) false = none) := by
              unfold Hid; rw [HP2.out, any_hit hlt hb]; rfl
            have HBB := Lib.hid hb
            clear hb
            go_wp2_with (go_at_call 152; go_must (refine (ref2_bad _ _).mono ?_); rintro e w' ⟨rfl, rfl⟩; rw [HBB.out])
            go_ret2
            exact ⟨parsed2_none HF.out, by unfold Hid; exact Below.refl _ _⟩
    · have HP2 : Hid (parseS (bl s) true = namedS (lower (unpercent (bl s)))) := HP.out
      clear HP H2
      go_enter Tryz.func130, Tryz.ntmps130
      go_wp2_with (go_at_call 74; go_must (refine (ref1_Begins _ _ _).mono ?_); rintro e w' ⟨rfl, rfl⟩; rw [e1, HA.out])
      refine (ref1_Unpercent s _ (by omega)).mono ?_
      rintro e w1 ⟨⟨t, rfl, ht, htz⟩, HB1⟩
      have HE1 := Lib.hid (HE.out.bel HB1.out)
      go_wp2_with fail
      refine (ref1_Lower t _ (by omega)).mono ?_
      rintro e w2 ⟨⟨u, rfl, hu⟩, HB2⟩
      have hlu : u.size = t.size := by have := congrArg List.length hu.out; rw [lower_len, bl_length, bl_length] at this; exact this
      have HE2 := Lib.hid (HE1.out.bel HB2.out)
      have HB3 := Lib.hid (bel_trans HB1.out HB2.out)
      have HF : Hid (parseS (bl s) true = namedS (bl u)) := by unfold Hid; rw [HP2.out, hu.out, ht.out]
      have hus : u.size ≤ 1000000 := by omega
      clear HP2 hlu htz HB1 HB2 HE1 hu ht
      go_wp2_with fail
      go_loopg [9] u.size (fun g v9 wr => ∃ k : Nat, v9 = .int .i64 k ∧ k + g = u.size ∧ Hid (((bl u).take k).all fineB = true) ∧ w2 = wr)
      case atStart => exact ⟨0, rfl, by omega, rfl, rfl⟩
      case round =>
        obtain ⟨k, rfl, hk, HI, rfl⟩ := hrel
        cases gk with
        | succ g =>
          have hlt : k < u.size := by omega
          obtain ⟨c, hc⟩ : ∃ c, u[k] = c := ⟨_, rfl⟩
          cases hf : fineB c
          · have HN : Hid (parseS (bl s) true = none) := HF.out.trans (named_bad (all_not hlt hc hf))
            rcases not_fine hf with h1 | ⟨h1, h2⟩ | ⟨h1, h2, h3⟩ | ⟨h1, h2, h3, h4⟩
            all_goals
              clear hf
              go_wp2_with (go_at_call 152; go_must (refine (ref2_bad _ _).mono ?_); rintro e w' ⟨rfl, rfl⟩; rw [h4])
              go_ret2
              exact ⟨parsed2_none HN.out, HB3⟩
          · obtain ⟨h1, h2, h3, h4⟩ := is_fine hf
            have HI2 : Hid (((bl u).take (k + 1)).all fineB = true) := by unfold Hid; rw [all_take u k hlt, HI.out, hc, hf]; rfl
            clear hf
            go_wp2_with (go_at_call 152; go_must (refine (ref2_bad _ _).mono ?_); rintro e w' ⟨rfl, rfl⟩; rw [h4])
            go_roundg g
            case measure => omega
            case rel => exact ⟨k + 1, by go_num, by omega, HI2, rfl⟩
        | zero =>
          obtain rfl : k = u.size := by omega
          have HA2 : Hid ((bl u).all fineB = true) := by have := HI.out; rw [List.take_of_length_le (by rw [bl_length]; exact Nat.le_refl _)] at this; exact this
          clear HI hk
          go_wp2_with fail
          refine (ref1_CutS 46 u _ hus).mono ?_
          rintro e w3 ⟨⟨g, c, rfl, hc, hR⟩, HB4⟩
          have HC : Hid ((cutS 46 [] (bl u)).length ≤ u.size + 1) := by have := cutS_len 46 (bl u) []; rw [bl_length] at this; exact this
          have hml : ∀ x ∈ cutS 46 [] (bl u), x.length ≤ u.size := fun x hx => by have := cut_mem_len hx; rw [bl_length] at this; exact this
          have HNX : Hid ((cutS 46 [] (bl u)).any xnB = true → namedS (bl u) = none) := named_xn
          have HNN : Hid ((cutS 46 [] (bl u)).any xnB = false → bl u ≠ [] → namedS (bl u) = if numberedS (bl u) = true then (fourS (bl u)).map text4S else some (bl u)) := by
            intro h1 h2
            cases h4 : numberedS (bl u)
            · rw [named_name HA2.out h1 h2 h4, if_neg Bool.false_ne_true]
            · rw [named_num HA2.out h1 h2 h4, if_pos rfl]
          have HML := Lib.hid hml
          have hcb := HC.out
          have HE3 := Lib.hid (HE2.out.bel HB4.out)
          have HB5 := Lib.hid (bel_trans HB3.out HB4.out)
          clear hml
          generalize cutS 46 [] (bl u) = ls at *
          go_wp2_with fail
          go_loopg [11] ls.length (fun g v wr => ∃ k : Nat, v = .int .i64 k ∧ k + g = ls.length ∧ Hid ((ls.take k).any xnB = false) ∧ w3 = wr)
          case atStart => exact ⟨0, rfl, by omega, rfl, rfl⟩
          case round =>
            obtain ⟨k, rfl, hk, HA, rfl⟩ := hrel
            cases gk with
            | succ g' =>
              have hlt : k < ls.length := by omega
              obtain ⟨y, hy⟩ : ∃ y, ls[k]? = some (bl y) := ⟨⟨(ls[k]'hlt).toArray⟩, by rw [bl_mk]; exact List.getElem?_eq_getElem _⟩
              have hcell := strs_cell hR.out hy
              have HA2 : Hid ((ls.take (k + 1)).any xnB = xnB (bl y)) := by
                unfold Hid
                rw [List.take_add_one, hy, List.any_append, HA.out]; simp
              have HPX : Hid (begins (bl y) (bl ⟨#[120, 110, 45, 45]⟩) = xnB (bl y)) := rfl
              have HU := Lib.hid hy
              clear hy
              generalize xnB (bl y) = b at *
              cases b
              · go_wp2_with (go_at_call 74; go_must (refine (ref1_Begins _ _ _).mono ?_); rintro e w' ⟨rfl, rfl⟩; rw [HPX.out])
                go_roundg g'
                case measure => omega
                case rel => exact ⟨k + 1, by go_num, by omega, HA2, rfl⟩
              · have HN : Hid (parseS (bl s) true = none) := HF.out.trans (HNX.out (by
                  have h2 := HA2.out
                  rw [List.any_eq_true] at h2 ⊢
                  obtain ⟨x, hx, hp⟩ := h2
                  exact ⟨x, (List.take_sublist _ _).subset hx, hp⟩))
                go_wp2_with (go_at_call 74; go_must (refine (ref1_Begins _ _ _).mono ?_); rintro e w' ⟨rfl, rfl⟩; rw [HPX.out])
                go_ret2
                exact ⟨parsed2_none HN.out, HB5⟩
            | zero =>
              obtain rfl : k = ls.length := by omega
              have HX : Hid (ls.any xnB = false) := by have := HA.out; rw [List.take_of_length_le (Nat.le_refl _)] at this; exact this
              by_cases h0 : bl u = []
              · have h0' : u.toList.isEmpty = true := (str_empty u).2 h0
                have HF : Hid (parseS (bl s) true = none) := HF.out.trans (named_nil h0)
                clear h0
                go_wp2
                go_ret2
                exact ⟨parsed2_none HF.out, HB5⟩
              · have h0' : u.toList.isEmpty = false := by rw [Bool.eq_false_iff, ne_eq, str_empty]; exact h0
                have HF := Lib.hid (HF.out.trans (HNN.out HX.out h0))
                clear h0
                go_wp2_with fail
                refine (ref2_Numbered u _ hus HE3).mono ?_
                rintro e w4 ⟨rfl, HB6⟩
                have HB7 := Lib.hid (bel_trans HB5.out HB6.out)
                have HE4 := Lib.hid (HE3.out.bel HB6.out)
                cases hn : numberedS (bl u)
                · have HF2 := Lib.hid (HF.out.trans (by rw [hn, if_neg Bool.false_ne_true]) : parseS (bl s) true = some (bl u))
                  clear hn
                  go_wp2
                  go_ret2
                  exact ⟨parsed2_some HF2.out, HB7⟩
                · have HF2 := Lib.hid (HF.out.trans (by rw [hn, if_pos rfl]) : parseS (bl s) true = (fourS (bl u)).map text4S)
                  clear hn
                  go_wp2_with fail
                  refine (ref2_Four u _ hus HE4).mono ?_
                  rintro e w5 ⟨rfl, HB8⟩
                  have HB9 := Lib.hid (bel_trans HB7.out HB8.out)
                  cases hv : fourS (bl u) with
                  | none =>
                    have HF3 : Hid (parseS (bl s) true = none) := by rw [hv] at HF2; exact HF2
                    rw [show fourV none = 0 from rfl, show (none : Option Int).isSome = false from rfl]
                    clear hv
                    go_wp2
                    go_ret2
                    exact ⟨parsed2_none HF3.out, HB9⟩
                  | some n =>
                    have HF3 : Hid (parseS (bl s) true = some (text4S n)) := by rw [hv] at HF2; exact HF2
                    rw [show fourV (some n) = n from rfl, show (some n).isSome = true from rfl]
                    have hr := four_range hv
                    clear hv
                    go_wp2_with fail
                    refine (ref2_Text4 n _ (by omega) (by omega)).mono ?_
                    rintro e w6 ⟨⟨t, rfl, ht⟩, HB10⟩
                    go_wp2
                    go_ret2
                    exact ⟨parsed2_some (by rw [HF3.out, ht.out]), bel_trans HB9.out HB10.out⟩
  · cases b
    · have HP2 : Hid (parseS (bl s) special = none) := HP.out
      clear HP H2
      go_enter Tryz.func130, Tryz.ntmps130
      go_wp2_with (first | (go_at_call 74; go_must (refine (ref1_Begins _ _ _).mono ?_); rintro e w' ⟨rfl, rfl⟩; rw [e1, HA.out]) | (go_at_call 149; go_must (refine (ref1_Ends _ _ _ (by omega)).mono ?_); rintro e w' ⟨rfl, rfl⟩; rw [e2, HB.out]))
      go_ret2
      exact ⟨parsed2_none HP2.out, by unfold Hid; exact Below.refl _ _⟩
    · have hz := H2.out rfl rfl
      have HP2 : Hid (parseS (bl s) special = (sixS (bl (s.extract 1 (s.size - 1)))).map (fun xs => 91 :: (text6S xs ++ [93]))) := by
        unfold Hid; rw [HP.out, bl_extract, bl_length, if_pos rfl, if_pos rfl]; rfl
      have hez : (s.extract 1 (s.size - 1)).size ≤ 1000000 := by rw [ByteArray.size_extract]; omega
      clear HP H2
      go_enter Tryz.func130, Tryz.ntmps130
      go_wp2_with (first | (go_at_call 74; go_must (refine (ref1_Begins _ _ _).mono ?_); rintro e w' ⟨rfl, rfl⟩; rw [e1, HA.out]) | (go_at_call 149; go_must (refine (ref1_Ends _ _ _ (by omega)).mono ?_); rintro e w' ⟨rfl, rfl⟩; rw [e2, HB.out]))
      refine (ref2_Six _ _ hez).mono ?_
      rintro e w1 ⟨rfl, HB1⟩
      generalize bl (s.extract 1 (s.size - 1)) = L at *
      have HB2 : Hid (Below w.heap.size w (w1.alloc zeroCells)) := HB1.out.alloc HB1.out.size _
      cases hv : sixS L with
      | none =>
        have HF : Hid (parseS (bl s) special = none) := HP2.out.trans (by rw [hv]; rfl)
        clear hv HP2
        obtain ⟨xs, hxs⟩ : ∃ xs, xs = zeros8 := ⟨_, rfl⟩
        have H8 : Hid (xs.length = 8) := by rw [hxs]; rfl
        have HZ : sixV none = .agg (u16s xs).toArray := by rw [hxs]; rfl
        rw [HZ, show (none : Option (List Nat)).isSome = false from rfl]
        clear hxs HZ
        go_wp2_with (first | (refine store8 (w0 := w) w.heap.size rfl _ _ (by exact rfl) w1.heap.size (by exact rfl) xs zeros8 H8.out rfl (by exact rfl) (alloc_at w1 zeroCells) HB2 HB1.out.size ?_; intro w2 HK2 HB3) | (refine load8 rfl _ (by exact rfl) w1.heap.size (by exact rfl) xs H8.out HK2.out ?_))
        go_ret2
        exact ⟨parsed2_none HF.out, HB3⟩
      | some xs =>
        have HF : Hid (parseS (bl s) special = some (91 :: (text6S xs ++ [93]))) := HP2.out.trans (by rw [hv]; rfl)
        have h8 := six_shape hv
        have H8 := Lib.hid h8.1
        have H65 := Lib.hid h8.2
        clear hv HP2 h8
        rw [show sixV (some xs) = .agg (u16s xs).toArray from rfl, show (some xs).isSome = true from rfl]
        go_wp2_with (first | (refine store8 (w0 := w) w.heap.size rfl _ _ (by exact rfl) w1.heap.size (by exact rfl) xs zeros8 H8.out rfl (by exact rfl) (alloc_at w1 zeroCells) HB2 HB1.out.size ?_; intro w2 HK2 HB3) | (refine load8 rfl _ (by exact rfl) w1.heap.size (by exact rfl) xs H8.out HK2.out ?_))
        refine (ref2_Text6 xs _ H8.out H65.out).mono ?_
        rintro e w3 ⟨⟨t, rfl, ht⟩, HB4⟩
        have htl := text6_len H65.out
        rw [← ht.out, bl_length] at htl
        go_wp2
        go_ret2
        refine ⟨parsed2_some ?_, bel_trans HB3.out HB4.out⟩
        rw [HF.out, bl_append, bl_append, ht.out]
        rfl
end Go.Proofs.YtbpkkgaaeodimaaGreatDoor
