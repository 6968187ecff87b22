import Derived.Test.YtpgehhnmlihnbaaGreatDoorXFour
namespace Go.Proofs.YtpgehhnmlihnbaaGreatDoor
open Go.RowKit

theorem info50 : (Tryz.prog.info? 50).map (fun i => (i.zero, i.size, i.bytes)) = some (some (.int .u64 0), 1, 8) := by kernel_rfl
section
variable {ops : Array Oper} {Q : Exit → Act → World → Prop} {a : Act} {rest : List Oper} {o : Oper}
theorem app_u64 {w0 W : World} (base : Nat) (hgd : o.guard = none) (s x : Operand)
    (ho : o.op = .call { callee := .builtin .append, args := #[s, x], argTypes := #[83, 83] })
    (v : Value) (xs : List Value) (n : Int) (hs : a.eval s = v) (hx : a.eval x = .slice (some ⟨W.heap.size, 0, none⟩) 1 1)
    (HO : Hid (Own W base 50 v xs)) (HB : Hid (Below base w0 W)) (hbase : base ≤ W.heap.size) (hl : xs.length ≤ 1000000000)
    (h : ∀ v1 w1, Hid (Own w1 base 50 v1 (xs ++ [.int .u64 n])) → Hid (Below base w0 w1) → W.heap.size ≤ w1.heap.size → wpList Tryz.prog ops Q rest (a.put o.dst v1) w1) :
    wpList Tryz.prog ops Q (o :: rest) a (W.alloc (.cells #[.int .u64 n] 50)) :=
  own_append base hgd s x _ _ _ 8 ho Tryz.underlying83 info50 rfl v xs (.int .u64 n) hs hx rfl HO HB hbase (by omega) (by omega) h
end
theorem fourF_has {n : Nat} : ∀ (ls : List (List UInt8)) (i : Nat) (a : Int), (∃ x ∈ ls, numberS x = none) → i + ls.length = n → fourF n i a ls = none
  | [], _, _, h, _ => by obtain ⟨x, hx, _⟩ := h; cases hx
  | x :: r, i, a, h, hn => by
    cases hv : numberS x with
    | none => exact fourF_none hv
    | some v =>
      have hr : ∃ y ∈ r, numberS y = none := by
        obtain ⟨y, hy, hy2⟩ := h
        rcases List.mem_cons.1 hy with rfl | hy
        · rw [hv] at hy2; cases hy2
        · exact ⟨y, hy, hy2⟩
      have hpos : 0 < r.length := List.length_pos_of_mem hr.choose_spec.1
      rw [List.length_cons] at hn
      rw [fourF_mid hv (by omega)]
      split
      · rfl
      · exact fourF_has r (i + 1) _ hr (by omega)
def capd (v : Nat) : Value := .int .u64 (min v 1099511627776 : Nat)
def rowed (ls : List (List UInt8)) : List Value := ls.map fun x => .int .u64 (optC 1099511627776 (numberS x))
def four2S (l : List UInt8) (v : Value) : Prop := v = .tuple #[.int .u32 (fourV (fourS l)), .bool (fourS l).isSome]
set_option maxHeartbeats 4000000 in
set_option maxRecDepth 100000 in
theorem ref2_Four (s : ByteArray) (w : World) (hs : s.size ≤ 1000000) (HE : Hid (Env w)) :
    Calls Tryz.prog 20 #[.string s] w fun e w' => e = .returned (.tuple #[.int .u32 (fourV (fourS (bl s))), .bool (fourS (bl s)).isSome]) ∧ Hid (Bel w w') := by
  go_enter Tryz.func20, Tryz.ntmps20
  go_wp2_with fail
  refine (ref2_labels s _ hs HE).mono ?_
  rintro e w1 ⟨⟨g, c, rfl, hc, hR⟩, HB1⟩
  have HL : Hid (∀ x, x ∈ labelsS (bl s) → x.length ≤ s.size) := fun x hx => by have := labels_mem_len hx; rw [bl_length] at this; exact this
  have HS : Hid (fourS (bl s) = if 4 < (labelsS (bl s)).length then none else fourF (labelsS (bl s)).length 0 0 (labelsS (bl s))) := rfl
  have HN0 : 1 ≤ (labelsS (bl s)).length := List.length_pos_iff.2 (labelsS_ne _)
  generalize labelsS (bl s) = ls at *
  obtain ⟨n, hn⟩ : ∃ n, ls.length = n := ⟨_, rfl⟩
  rw [hn] at HS HN0 hc ⊢
  have HN := Lib.hid hn
  clear hn
  by_cases h4 : n ≤ 4
  · have HF : Hid (fourS (bl s) = fourF n 0 0 ls) := HS.out.trans (if_neg (by omega))
    clear HS
    go_upto_block 0 with (fail)
    go_cut [5] (fun v5 wc => (Hid (Own wc w1.heap.size 50 v5 (rowed ls)) ∧ Hid (∀ x ∈ ls, numberS x ≠ none)) ∧ Hid (Bel w1 wc))
    case first =>
      go_wp2_with fail
      go_loopg [5, 6] n (fun r v5 v6 wr => ∃ (k : Nat), v6 = .int .i64 k ∧ k + r = n ∧ Hid (Own wr w1.heap.size 50 v5 (rowed (ls.take k))) ∧ Hid (∀ x ∈ ls.take k, numberS x ≠ none) ∧ Hid (Bel w1 wr))
      case atStart => exact ⟨0, rfl, by omega, Own.nil _ _ _, (by intro x hx; cases hx), by unfold Hid; exact Below.refl _ _⟩
      case round =>
        obtain ⟨k, rfl, hk, HO, HA, HB⟩ := hrel
        cases gk with
        | zero =>
          have HX : Hid (ls.take k = ls) := List.take_of_length_le (by rw [HN.out]; omega)
          rw [HX.out] at HO HA
          go_wp2
          go_meet
          exact ⟨⟨HO, HA⟩, HB⟩
        | succ g' =>
          obtain ⟨u, hu⟩ : ∃ u, ls[k]? = some (bl u) := ⟨⟨(ls[k]'(by rw [HN.out]; omega)).toArray⟩, by rw [bl_mk]; exact List.getElem?_eq_getElem _⟩
          have hus := HL.out _ (List.mem_of_getElem? hu)
          rw [bl_length] at hus
          have hcell := strs_cell (hR.out.bel HB.out) hu
          have HU := Lib.hid hu
          clear hu
          go_wp2_with fail
          refine (ref2_number u _ (by omega)).mono ?_
          rintro e w2 ⟨rfl, rfl⟩
          cases hv : numberS (bl u) with
          | none =>
            have HX : Hid (fourS (bl s) = none) := HF.out.trans (fourF_has ls 0 0 ⟨_, List.mem_of_getElem? HU.out, hv⟩ (by rw [HN.out]; omega))
            clear HF hv
            go_wp2
            go_ret2
            exact ⟨by rw [HX.out]; rfl, bel_trans HB1.out HB.out⟩
          | some v =>
            have HV := Lib.hid hv
            clear hv
            rw [opt_some]
            have hsz := HB.out.size
            obtain ⟨vv, hvv⟩ : ∃ vv, min v 1099511627776 = vv := ⟨_, rfl⟩
            have HVV := Lib.hid hvv
            rw [hvv]
            clear hvv
            go_wp2_with (at_builtin; go_must (refine app_u64 (w0 := w1) w1.heap.size rfl _ _ (by exact rfl) _ _ vv (by exact rfl) (by exact rfl) HO HB hsz (by unfold rowed; simp; omega) ?_); intro v1 w3 HO1 HB1 hs1)
            go_roundg g'
            case measure => omega
            case rel =>
              have ht : ls.take (k + 1) = ls.take k ++ [bl u] := by rw [List.take_add_one, HU.out]; rfl
              refine ⟨k + 1, rfl, by omega, ?_, ?_, HB1⟩
              · have hr : rowed (ls.take (k + 1)) = rowed (ls.take k) ++ [Value.int IntKind.u64 vv] := by rw [ht]; unfold rowed; rw [List.map_append, List.map_cons, HV.out, opt_some, HVV.out]; rfl
                rw [hr]; exact HO1
              · rw [ht]; intro x hx
                rcases List.mem_append.1 hx with h | h
                · exact HA.out x h
                · rw [List.mem_singleton.1 h, HV.out]; simp
    case rest =>
      obtain ⟨⟨HO, HA⟩, HB⟩ := hcut
      obtain ⟨g5, c5, rfl, hg5, hr5, hc5⟩ := HO.out.row (by intro h; have := congrArg List.length h; unfold rowed at this; rw [List.length_map, HN.out, List.length_nil] at this; omega)
      have hl5 : (rowed ls).length = n := by unfold rowed; rw [List.length_map, HN.out]
      rw [hl5] at hc5 ⊢
      have HR5 : Hid (∀ k x v, ls[k]? = some x → numberS x = some v → wc.cell? ⟨g5, k, none⟩ = some (.int .u64 (min v 1099511627776 : Nat))) := by
        intro k x v hx hv
        refine (hr5.2 k _ ?_).1
        unfold rowed; rw [List.getElem?_map, hx]; show some (Value.int IntKind.u64 (optC 1099511627776 (numberS x))) = _; rw [hv]; rfl
      have HB2 := Lib.hid (bel_trans HB1.out HB.out)
      clear hl5 hr5 HO HB hR hc hg5
      have hn4 : n = 1 ∨ n = 2 ∨ n = 3 ∨ n = 4 := by omega
      clear h4 HN0
      rcases hn4 with rfl | rfl | rfl | rfl
      all_goals
        go_wp2
        go_loopg [9, 10] (List.length ls - 1) (fun r v9 v10 wr => ∃ (a : Int) (k : Nat), v9 = .int .u64 a ∧ v10 = .int .i64 k ∧ Hid (k + r + 1 = ls.length) ∧ Hid (fourS (bl s) = fourF ls.length k a (ls.drop k)) ∧ wc = wr)
        case atStart => exact ⟨0, 0, rfl, rfl, by unfold Hid; rw [HN.out], by rw [HN.out]; exact HF, rfl⟩
        case round =>
          obtain ⟨a, k, rfl, rfl, HK, HI, rfl⟩ := hrel
          have hk := HK.out
          rw [HN.out] at hk HI
          obtain ⟨x, hx⟩ : ∃ x, ls[k]? = some x := ⟨_, List.getElem?_eq_getElem (by rw [HN.out]; omega)⟩
          obtain ⟨v, hv⟩ : ∃ v, numberS x = some v := by
            have := HA.out x (List.mem_of_getElem? hx)
            cases h : numberS x with
            | none => exact absurd h this
            | some v => exact ⟨v, rfl⟩
          have hcell := HR5.out k x v hx hv
          have hI := HI.out
          rw [drop_get hx] at hI
          clear HI HF hx
          cases gk with
          | zero =>
            have hX := hI.trans (fourF_end hv (by omega))
            have hkn : k = ls.length - 1 := by rw [HN.out]; omega
            rw [HN.out] at hkn
            simp only [Nat.reduceSub] at hkn
            subst hkn
            clear hI hv hk HA HR5
            by_cases h255 : 2 ^ (8 * (5 - ls.length)) ≤ v
            · rw [HN.out] at h255
              rw [if_pos h255] at hX
              have HX := Lib.hid hX
              obtain ⟨vv, hvv⟩ : ∃ vv, min v 1099511627776 = vv := ⟨_, rfl⟩
              have hv2 : 2 ^ (8 * (5 - ls.length)) ≤ (vv : Int) := by rw [HN.out]; omega
              rw [HN.out] at hv2
              simp only [Nat.reduceSub, Nat.reduceMul, Int.reducePow] at hv2
              rw [hvv] at hcell
              clear hvv h255 hX
              go_wp2
              go_ret2
              exact ⟨by rw [HX.out]; rfl, HB2⟩
            · rw [HN.out] at h255
              rw [if_neg h255] at hX
              rw [List.drop_eq_nil_of_le (by rw [HN.out]; omega)] at hX
              have HX := Lib.hid hX
              rw [Nat.min_eq_left (by omega)] at hcell
              have hv2 : (!decide ((2 : Int) ^ (8 * (5 - ls.length)) ≤ v)) = true := by rw [HN.out]; simp only [Nat.reduceSub, Nat.reduceMul, Int.reducePow, Bool.not_eq_true', decide_eq_false_iff_not]; omega
              rw [HN.out] at hv2
              simp only [Nat.reduceSub, Nat.reduceMul, Int.reducePow, Bool.not_eq_true'] at hv2
              clear h255 hX
              go_wp2
              go_ret2
              exact ⟨by rw [HX.out, fourF, ← IntKind.wrap_u32]; rfl, HB2⟩
          | succ g' =>
            first | (exfalso; omega) | skip
            all_goals
              have hX := hI.trans (fourF_mid hv (by omega))
              clear hI hv
              by_cases h255 : 255 < v
              · rw [if_pos h255] at hX
                have HX := Lib.hid hX
                obtain ⟨vv, hvv⟩ : ∃ vv, min v 1099511627776 = vv := ⟨_, rfl⟩
                have hv2 : 255 < (vv : Int) := by omega
                rw [hvv] at hcell
                clear hvv hX h255
                go_wp2
                go_ret2
                exact ⟨by rw [HX.out]; rfl, HB2⟩
              · rw [if_neg h255] at hX
                have HX := Lib.hid hX
                rw [Nat.min_eq_left (by omega)] at hcell
                have hv2 : (v : Int) ≤ 255 := by omega
                clear h255 hX
                go_wp2
                go_roundg g'
                case measure => omega
                case rel => exact ⟨_, k + 1, rfl, rfl, by unfold Hid; rw [HN.out]; omega, by rw [HN.out]; exact HX, rfl⟩
  · have HF : Hid (fourS (bl s) = none) := HS.out.trans (if_pos (by omega))
    clear HS
    go_wp2
    go_ret2
    exact ⟨by rw [HF.out]; rfl, HB1⟩
end Go.Proofs.YtpgehhnmlihnbaaGreatDoor
