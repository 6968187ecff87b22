import Derived.Test.YtpgehhnmlihnbaaGreatDoorXPar1
import Derived.Test.YtpgehhnmlihnbaaGreatDoorXIdx
namespace Go.Proofs.YtpgehhnmlihnbaaGreatDoor
open Go.RowKit

theorem dot4_lt : ∀ (ls : List (List UInt8)) (n m : Nat), dot4F n ls = some m → m < (n + 1) * 256 ^ ls.length
  | [], n, m, h => by
    have h : some n = some m := h
    injection h with h
    simp; omega
  | x :: r, n, m, h => by
    rw [dot4F] at h
    split at h
    · cases h
    · rename_i d hd
      have h1 := byte_le hd
      have h2 := dot4_lt r _ _ h
      rw [List.length_cons, Nat.pow_succ]
      have h3 : (n * 256 + d + 1) * 256 ^ r.length ≤ ((n + 1) * 256) * 256 ^ r.length := Nat.mul_le_mul_right _ (by omega)
      have h4 : (n + 1) * 256 * 256 ^ r.length = (n + 1) * (256 ^ r.length * 256) := by rw [Nat.mul_assoc, Nat.mul_comm 256]
      omega
theorem dotted_le {x : List UInt8} {l : List Nat} (h : dottedS x = some l) : ∀ v ∈ l, v ≤ 65535 := by
  unfold dottedS at h
  split at h
  · rename_i h4
    obtain ⟨n, hn, rfl⟩ := Option.map_eq_some_iff.1 h
    have := dot4_lt _ _ _ hn
    rw [h4] at this
    intro v hv
    rcases List.mem_cons.1 hv with rfl | hv
    · omega
    · rcases List.mem_cons.1 hv with rfl | hv
      · omega
      · cases hv
  · cases h
theorem pf_le {last : Bool} : ∀ {ls : List (List UInt8)} {l : List Nat}, piecesF last ls = some l → ∀ v ∈ l, v ≤ 65535
  | [], l, h => by cases h; intro v hv; cases hv
  | x :: r, l, h => by
    unfold piecesF at h
    split at h
    · exact dotted_le h
    · split at h
      · cases h
      · rename_i u hu
        obtain ⟨m, hm, rfl⟩ := Option.map_eq_some_iff.1 h
        have h1 := hexPiece_lt hu
        intro v hv
        rcases List.mem_cons.1 hv with rfl | hv
        · omega
        · exact pf_le hm v hv
theorem pieces6_le {last : Bool} {l : List UInt8} {x : List Nat} (h : pieces6S last l = some x) : ∀ v ∈ x, v ≤ 65535 := by
  unfold pieces6S at h
  split at h
  · cases h; intro v hv; cases hv
  · exact pf_le h
theorem six_shape {l : List UInt8} {xs : List Nat} (h : sixS l = some xs) : xs.length = 8 ∧ ∀ v ∈ xs, v ≤ 65535 := by
  unfold sixS at h
  have hq := cut_none l [58, 58]
  have hl : ∀ {p q : Option (List Nat)} {gap : Bool}, (gap = false → q = some []) → (∀ x, p = some x → ∀ v ∈ x, v ≤ 65535) → (∀ x, q = some x → ∀ v ∈ x, v ≤ 65535) → sixJ gap p q = some xs → xs.length = 8 ∧ ∀ v ∈ xs, v ≤ 65535 := by
    intro p q gap hg hp hq hj
    unfold sixJ at hj
    split at hj
    · rename_i x y
      split at hj
      · cases hj
      · rename_i hc
        injection hj with hj
        subst hj
        refine ⟨?_, ?_⟩
        · cases gap
          · have hy := Option.some.inj (hg rfl)
            subst hy
            simp at hc
            simp [hc]
          · simp at hc
            simp; omega
        · intro v hv
          rcases List.mem_append.1 hv with h1 | h1
          · exact hp _ rfl v h1
          · rcases List.mem_append.1 h1 with h2 | h2
            · have := (List.mem_replicate.1 h2).2; omega
            · exact hq _ rfl v h2
    · cases hj
  exact hl (fun e => by rw [hq e]; rfl) (fun x hx => pieces6_le hx) (fun x hx => pieces6_le hx) h
theorem getD_le {xs : List Nat} (hv : ∀ x ∈ xs, x ≤ 65535) (i : Nat) : xs.getD i 0 ≤ 65535 := by
  rw [List.getD_eq_getElem?_getD]
  cases h : xs[i]? with
  | none => simp
  | some v => exact hv v (List.mem_of_getElem? h)
theorem rest_len {xs : List Nat} (hv : ∀ x ∈ xs, x ≤ 65535) (f : Int) (m : Nat) : ∀ (n i : Nat), 8 - i ≤ n → (restF xs f m i).length ≤ 5 * (8 - i)
  | 0, i, h => by rw [rest_end xs f m i (by omega)]; simp
  | n + 1, i, h => by
    rw [restF]
    split
    · split
      · have := rest_len hv f m n (i + (m - 1) + 1) (by omega)
        rw [List.length_append]
        simp only [List.length_cons, List.length_nil]
        omega
      · have h1 := rest_len hv f m n (i + 1) (by omega)
        have h2 := digs16_len _ (getD_le hv i)
        rw [List.length_append, List.length_append]
        split <;> simp only [List.length_cons, List.length_nil] <;> omega
    · simp
theorem text6_len {xs : List Nat} (hv : ∀ x ∈ xs, x ≤ 65535) : (text6S xs).length ≤ 40 := rest_len hv _ _ 8 0 (by omega)
def parseS (l : List UInt8) (special : Bool) : Option (List UInt8) :=
  if begins l [91] = true then if ends l [93] = true then (sixS ((l.drop 1).take (l.length - 2))).map (fun xs => 91 :: (text6S xs ++ [93])) else none
  else if special = true then namedS (lower (unpercent l)) else if l.any badS = true then none else some (percent 1 l)
theorem both_ends {l : List UInt8} (h1 : begins l [91] = true) (h2 : ends l [93] = true) : 2 ≤ l.length := by
  unfold begins at h1
  unfold ends at h2
  match l with
  | [] => simp at h1
  | [x] => simp at h1 h2; rw [h1] at h2; cases h2
  | _ :: _ :: _ => simp
theorem hasSuffix_eq (s t : ByteArray) : Lib.hasSuffix s.data.toList t.data.toList = ends (bl s) (bl t) := by
  unfold Lib.hasSuffix ends
  change _ = (decide ((bl t).length ≤ (bl s).length) && List.drop ((bl s).length - (bl t).length) (bl s) == bl t)
  rw [Bool.eq_iff_iff]
  simp only [Bool.and_eq_true, decide_eq_true_eq, beq_iff_eq]
  rw [List.isSuffixOf_iff_suffix, List.suffix_iff_eq_drop]
  change bl t = List.drop ((bl s).length - (bl t).length) (bl s) ↔ _
  constructor
  · intro h; exact ⟨by have := congrArg List.length h; rw [List.length_drop] at this; omega, h.symm⟩
  · exact fun h => h.2.symm
theorem lower_len (l : List UInt8) : (lower l).length = l.length := by unfold lower; simp
theorem badB_eq : bl badB = badL := rfl
theorem badB_asc : Hid (Asc (bl badB)) := asc_of (by decide)
set_option maxHeartbeats 4000000 in
set_option maxRecDepth 100000 in
theorem host_Parse (s : ByteArray) (special : Bool) (w : World) (hs : s.size ≤ 1000000) (HE : Hid (Env w)) :
    Calls Tryz.prog 18 #[.string s, .bool special] w fun e w' => parsed (parseS (bl s) special) e ∧ Hid (Bel w w') := by
  have h1 : Lib.hasPrefix s.data.toList [91] = begins (bl s) [91] := hasPrefix_eq s ⟨#[91]⟩
  have h2 : Lib.hasSuffix s.data.toList [93] = ends (bl s) [93] := hasSuffix_eq s ⟨#[93]⟩
  have HP : Hid (parseS (bl s) special = if begins (bl s) [91] = true then if ends (bl s) [93] = true then (sixS (((bl s).drop 1).take ((bl s).length - 2))).map (fun xs => 91 :: (text6S xs ++ [93])) else none
    else if special = true then namedS (lower (unpercent (bl s))) else if (bl s).any badS = true then none else some (percent 1 (bl s))) := rfl
  have H2 : Hid (begins (bl s) [91] = true → ends (bl s) [93] = true → 2 ≤ s.size) := fun a b => by have := both_ends a b; rw [bl_length] at this; exact this
  generalize begins (bl s) [91] = a at *
  generalize ends (bl s) [93] = b at *
  cases a
  · cases special
    · have HP2 : Hid (parseS (bl s) false = if (bl s).any badS = true then none else some (percent 1 (bl s))) := HP.out
      have HP2 : Hid (parseS (bl s) false = if (bl s).any (bl badB).contains = true then none else some (percent 1 (bl s))) := HP2
      clear HP H2
      obtain ⟨x, hx0⟩ : ∃ x, (bl s).any (bl badB).contains = x := ⟨_, rfl⟩
      rw [hx0] at HP2
      have HX := Lib.hid hx0
      clear hx0
      cases x
      all_goals
        go_enter Tryz.func18, Tryz.ntmps18
        go_wp2_with (first | (go_at_call 40; go_must (refine (Tryz.strings_HasPrefix _ _ _).mono ?_); rintro e w' ⟨rfl, hw⟩; rw [hw, h1]) | (go_at_call 42; go_must (refine (lib_ContainsAny s badB _ hs badB_asc (by decide) (by decide)).mono ?_); rintro e w1 ⟨rfl, HB1⟩; rw [HX.out]))
      · have HF : Hid (parseS (bl s) false = some (percent 1 (bl s))) := HP2.out
        clear HP2
        refine (infra_Percent s 1 _ (by omega)).mono ?_
        rintro e w2 ⟨⟨t, rfl, ht, _⟩, HB2⟩
        go_wp2
        go_ret2
        exact ⟨parsed_some (by rw [HF.out, ht.out]), bel_trans HB1.out HB2.out⟩
      · go_ret2
        exact ⟨parsed_none HP2.out, HB1⟩
    · have HP2 : Hid (parseS (bl s) true = namedS (lower (unpercent (bl s)))) := HP.out
      clear HP H2
      go_enter Tryz.func18, Tryz.ntmps18
      go_wp2_with (first | (go_at_call 40; go_must (refine (Tryz.strings_HasPrefix _ _ _).mono ?_); rintro e w' ⟨rfl, hw⟩; rw [hw, h1]))
      refine (infra_Unpercent s _ (by omega)).mono ?_
      rintro e w1 ⟨⟨t, rfl, ht, htz⟩, HB1⟩
      have HE1 := Lib.hid (HE.out.bel HB1.out)
      go_wp2_with fail
      refine (infra_Lower t _ (by omega)).mono ?_
      rintro e w2 ⟨⟨u, rfl, hu⟩, HB2⟩
      have hlu : u.size = t.size := by have := congrArg List.length hu.out; rw [lower_len, bl_length, bl_length] at this; exact this
      have HE2 := Lib.hid (HE1.out.bel HB2.out)
      have HB3 := Lib.hid (bel_trans HB1.out HB2.out)
      have HF : Hid (parseS (bl s) true = namedS (bl u)) := by unfold Hid; rw [HP2.out, hu.out, ht.out]
      clear HP2
      go_wp2_with fail
      refine (host_named u _ (by omega) HE2).mono ?_
      rintro e w3 ⟨⟨v, rfl, hv⟩, HB4⟩
      go_wp2
      go_ret2
      exact ⟨⟨v, by rw [HF.out]; rfl, by rw [HF.out]; exact hv⟩, bel_trans HB3.out HB4.out⟩
  · cases b
    · have HP2 : Hid (parseS (bl s) special = none) := HP.out
      clear HP H2
      go_enter Tryz.func18, Tryz.ntmps18
      go_wp2_with (first | (go_at_call 40; go_must (refine (Tryz.strings_HasPrefix _ _ _).mono ?_); rintro e w' ⟨rfl, hw⟩; rw [hw, h1]) | (go_at_call 41; go_must (refine (Tryz.strings_HasSuffix _ _ _ (by omega)).mono ?_); rintro e w' ⟨rfl, hw⟩; rw [hw, h2]))
      go_ret2
      exact ⟨parsed_none HP2.out, by unfold Hid; exact Below.refl _ _⟩
    · have hz := H2.out rfl rfl
      have HP2 : Hid (parseS (bl s) special = (sixS (bl (s.extract 1 (s.size - 1)))).map (fun xs => 91 :: (text6S xs ++ [93]))) := by
        unfold Hid; rw [HP.out, bl_extract, bl_length, if_pos rfl, if_pos rfl]; rfl
      have hez : (s.extract 1 (s.size - 1)).size ≤ 1000000 := by rw [ByteArray.size_extract]; omega
      clear HP H2
      go_enter Tryz.func18, Tryz.ntmps18
      go_wp2_with (first | (go_at_call 40; go_must (refine (Tryz.strings_HasPrefix _ _ _).mono ?_); rintro e w' ⟨rfl, hw⟩; rw [hw, h1]) | (go_at_call 41; go_must (refine (Tryz.strings_HasSuffix _ _ _ (by omega)).mono ?_); rintro e w' ⟨rfl, hw⟩; rw [hw, h2]))
      refine (host_Six _ _ hez HE).mono ?_
      rintro e w1 ⟨rfl, HB1⟩
      generalize bl (s.extract 1 (s.size - 1)) = L at *
      have HB2 : Hid (Below w.heap.size w (w1.alloc zeroCells)) := HB1.out.alloc HB1.out.size _
      cases hv : sixS L with
      | none =>
        have HF : Hid (parseS (bl s) special = none) := HP2.out.trans (by rw [hv]; rfl)
        clear hv HP2
        obtain ⟨xs, hxs⟩ : ∃ xs, xs = zeros8 := ⟨_, rfl⟩
        have H8 : Hid (xs.length = 8) := by rw [hxs]; rfl
        have HZ : sixV none = .agg (u16s xs).toArray := by rw [hxs]; rfl
        rw [HZ, show errSix none = 10 from rfl]
        clear hxs HZ
        go_wp2_with (first | (refine store8 (w0 := w) w.heap.size rfl _ _ (by exact rfl) w1.heap.size (by exact rfl) xs zeros8 H8.out rfl (by exact rfl) (alloc_at w1 zeroCells) HB2 HB1.out.size ?_; intro w2 HK2 HB3) | (refine load8 rfl _ (by exact rfl) w1.heap.size (by exact rfl) xs H8.out HK2.out ?_))
        go_ret2
        exact ⟨parsed_none HF.out, HB3⟩
      | some xs =>
        have HF : Hid (parseS (bl s) special = some (91 :: (text6S xs ++ [93]))) := HP2.out.trans (by rw [hv]; rfl)
        have h8 := six_shape hv
        have H8 := Lib.hid h8.1
        have H65 := Lib.hid h8.2
        clear hv HP2 h8
        rw [show sixV (some xs) = .agg (u16s xs).toArray from rfl, show errSix (some xs) = 0 from rfl]
        go_wp2_with (first | (refine store8 (w0 := w) w.heap.size rfl _ _ (by exact rfl) w1.heap.size (by exact rfl) xs zeros8 H8.out rfl (by exact rfl) (alloc_at w1 zeroCells) HB2 HB1.out.size ?_; intro w2 HK2 HB3) | (refine load8 rfl _ (by exact rfl) w1.heap.size (by exact rfl) xs H8.out HK2.out ?_))
        have HE2 := Lib.hid (HE.out.bel HB3.out)
        refine (host_Text6 xs _ H8.out H65.out HE2).mono ?_
        rintro e w3 ⟨⟨t, rfl, ht⟩, HB4⟩
        have htl := text6_len H65.out
        rw [← ht.out, bl_length] at htl
        go_wp2
        go_ret2
        refine ⟨parsed_some ?_, bel_trans HB3.out HB4.out⟩
        rw [HF.out, bl_append, bl_append, ht.out]
        rfl
end Go.Proofs.YtpgehhnmlihnbaaGreatDoor
