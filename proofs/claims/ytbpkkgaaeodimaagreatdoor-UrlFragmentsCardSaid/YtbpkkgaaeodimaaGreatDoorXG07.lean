import Derived.Test.YtbpkkgaaeodimaaGreatDoorXG06
namespace Go.Proofs.YtbpkkgaaeodimaaGreatDoor
open Go.RowKit

/-- One piece in hexadecimal. -/
def hexPieceS (x : List UInt8) : Option Nat := if x ≠ [] ∧ x.length ≤ 4 ∧ x.all isHex = true then some (valS 16 x) else none
def piecesF (last : Bool) : List (List UInt8) → Option (List Nat)
  | [] => some []
  | x :: r => if (last && r.isEmpty && x.contains 46) = true then dottedS x else match hexPieceS x with
    | none => none
    | some v => (piecesF last r).map (v :: ·)
/-- The pieces of a text that colons part. -/
def pieces6S (last : Bool) (l : List UInt8) : Option (List Nat) := if l = [] then some [] else piecesF last (cutS 58 [] l)
theorem pf_dot {last : Bool} {x : List UInt8} {r : List (List UInt8)} (h : (last && r.isEmpty && x.contains 46) = true) : piecesF last (x :: r) = dottedS x := by rw [piecesF, if_pos h]
theorem pf_none {last : Bool} {x : List UInt8} {r : List (List UInt8)} (h : (last && r.isEmpty && x.contains 46) = false) (hp : hexPieceS x = none) : piecesF last (x :: r) = none := by rw [piecesF, if_neg (by rw [h]; simp), hp]
theorem pf_some {last : Bool} {x : List UInt8} {r : List (List UInt8)} {v : Nat} (h : (last && r.isEmpty && x.contains 46) = false) (hp : hexPieceS x = some v) : piecesF last (x :: r) = (piecesF last r).map (v :: ·) := by rw [piecesF, if_neg (by rw [h]; simp), hp]
theorem all16 (l : List UInt8) : l.all (okDig 16) = l.all isHex := by congr 1; funext x; exact ok16 x
theorem hexPiece_lt {x : List UInt8} {v : Nat} (h : hexPieceS x = some v) : v < 65536 := by
  unfold hexPieceS at h
  split at h
  · rename_i hh
    have := valS_lt 16 (by omega) x (by rw [all16]; exact hh.2.2)
    have h2 : 16 ^ x.length ≤ 16 ^ 4 := Nat.pow_le_pow_right (by omega) hh.2.1
    have := Option.some.inj h
    omega
  · cases h
theorem dotted_len {x : List UInt8} {l : List Nat} (h : dottedS x = some l) : l.length = 2 := by
  unfold dottedS at h
  split at h
  · obtain ⟨n, _, rfl⟩ := Option.map_eq_some_iff.1 h; rfl
  · cases h
theorem pf_len {last : Bool} : ∀ {ls : List (List UInt8)} {l : List Nat}, piecesF last ls = some l → l.length ≤ ls.length + 1
  | [], l, h => by cases h; simp
  | x :: r, l, h => by
    unfold piecesF at h
    split at h
    · have := dotted_len h; simp; omega
    · split at h
      · cases h
      · obtain ⟨m, hm, rfl⟩ := Option.map_eq_some_iff.1 h
        have := pf_len hm
        simp; omega
def pieces_post (w w' : World) (e : Ending) (o : Option (List Nat)) : Prop := ∃ v, e = .returned (.tuple #[v, .bool o.isSome]) ∧ (∃ A n c, v = .slice A n c) ∧ ∀ l, o = some l → Own w' w.heap.size 149 v (u16s l)
theorem pieces_no {w w' : World} {o : Option (List Nat)} {A : Option Addr} {n c : Nat} (h : o = none) : pieces_post w w' (.returned (.tuple #[.slice A n c, .bool false])) o := by
  subst h; exact ⟨_, rfl, ⟨A, n, c, rfl⟩, fun l h => by cases h⟩
theorem Own.low {w : World} {b b' : Nat} {e : TypeId} {v : Value} {xs : List Value} (h : Own w b e v xs) (hb : b' ≤ b) : Own w b' e v xs := by
  refine ⟨h.1, ?_⟩
  rcases h.2 with h2 | ⟨g, cap, cur, h1, h2, h3⟩
  · exact .inl h2
  · exact .inr ⟨g, cap, cur, h1, by omega, h3⟩
theorem pieces_yes {w w' : World} {o : Option (List Nat)} {v : Value} {l : List Nat} (h : o = some l) (ho : Own w' w.heap.size 149 v (u16s l)) : pieces_post w w' (.returned (.tuple #[v, .bool true])) o := by
  subst h
  obtain ⟨A, c, rfl⟩ := ho.shape
  exact ⟨_, rfl, ⟨A, _, c, rfl⟩, fun l2 h => by cases h; exact ho⟩
theorem contains_one (l : List UInt8) (c : UInt8) : Lib.contains l [c] = l.contains c := by
  unfold Lib.contains; rw [Lib.index_one, ← Lib.contains_iff_indexByte]
theorem pieces_no2 {w w' W : World} {b : Nat} {o : Option (List Nat)} {v : Value} {xs : List Value} (h : o = none) (ho : Own W b 149 v xs) : pieces_post w w' (.returned (.tuple #[v, .bool false])) o := by
  obtain ⟨A, c, rfl⟩ := ho.shape
  exact pieces_no h
section
variable {ops : Array Oper} {Q : Exit → Act → World → Prop} {a : Act} {rest : List Oper} {o : Oper}
theorem app_u16s {w0 W : World} (base : Nat) (hgd : o.guard = none) (s x : Operand)
    (ho : o.op = .call { callee := .builtin .append, args := #[s, x], argTypes := #[187, 187] })
    (v : Value) (xs ys : List Nat) (g c m : Nat) (hm : ys.length = m) (hs : a.eval s = v) (hx : a.eval x = .slice (some ⟨g, 0, none⟩) m c)
    (hg : RdAt W g (u16s ys))
    (HO : Hid (Own W base 149 v (u16s xs))) (HB : Hid (Below base w0 W)) (hbase : base ≤ W.heap.size) (hl : xs.length + ys.length ≤ 1000000000)
    (h : ∀ v1 w1, Hid (Own w1 base 149 v1 (u16s (xs ++ ys))) → Hid (Below base w0 w1) → W.heap.size ≤ w1.heap.size → wpList Tryz.prog ops Q rest (a.put o.dst v1) w1) :
    wpList Tryz.prog ops Q (o :: rest) a W := by
  subst hm
  have hl2 : (u16s xs).length = xs.length := by simp [u16s]
  have hl3 : (u16s ys).length = ys.length := by simp [u16s]
  refine wpList_plain hgd fun _ hK => append_many base s x _ _ _ 2 ho Tryz.underlying187 info26 rfl v (u16s xs) (u16s ys) ⟨g, 0, none⟩ c hs (by rw [hl3]; exact hx) (fun j u hj => by
    have := hg.2 j u hj
    rcases j with _ | j
    · exact this
    · unfold Addr.add; simpa using this) (fun y hy => by
      unfold u16s at hy
      obtain ⟨n, _, rfl⟩ := List.mem_map.1 hy
      rfl) HO.out HB.out hbase (by omega) (by omega) fun v1 w1 h1 h2 h3 _ _ => hK _ _ (h v1 w1 (by unfold Hid u16s; rw [List.map_append]; exact h1) h2 h3)
theorem app_nil16 {W : World} (base : Nat) (hgd : o.guard = none) (s x : Operand)
    (ho : o.op = .call { callee := .builtin .append, args := #[s, x], argTypes := #[187, 187] })
    (v : Value) (xs : List Nat) (c : Nat) (hs : a.eval s = v) (hx : a.eval x = .slice none 0 c)
    (HO : Hid (Own W base 149 v (u16s xs)))
    (h : wpList Tryz.prog ops Q rest (a.put o.dst v) W) :
    wpList Tryz.prog ops Q (o :: rest) a W := by
  obtain ⟨i0, hi, _⟩ := Option.map_eq_some_iff.1 info26
  have hr : (Builtin.append_ #[187, 187] o.type #[v, .slice none 0 c]).run Tryz.prog W = .ok v W := by
    rcases HO.out.2 with ⟨rfl, hh⟩ | ⟨g, cap, cur, rfl, _, _, hnc, _⟩
    · simp [Builtin.append_, run_underlying Tryz.underlying187, sizeOf, typeInfo, hi, Builtin.lenOf, Builtin.firstCells]
    · simp [Builtin.append_, run_underlying Tryz.underlying187, sizeOf, typeInfo, hi, Builtin.lenOf, Builtin.firstCells, hnc, storeCells]
  refine wpList_plain hgd fun _ hK => ?_
  unfold Oper.wp execOp
  simp only [ho, resolve, invoke, builtin, Sem.run_bind, Sem.run_pure, Result.andThen_ok, List.map_toArray, List.map_cons, List.map_nil, hs, hx, hr]
  exact hK _ _ h
end
set_option maxHeartbeats 4000000 in
set_option maxRecDepth 100000 in
theorem host_pieces (s : ByteArray) (last : Bool) (w : World) (hs : s.size ≤ 1000000) (HE : Hid (Env w)) :
    Calls Tryz.prog 212 #[.string s, .bool last] w fun e w' => pieces_post w w' e (pieces6S last (bl s)) ∧ Hid (Bel w w') := by
  by_cases h0 : bl s = []
  · have h0' : s.toList.isEmpty = true := (str_empty s).2 h0
    have HF : Hid (pieces6S last (bl s) = some []) := if_pos h0
    clear h0
    go_enter Tryz.func212, Tryz.ntmps212
    go_wp2
    go_ret2
    exact ⟨pieces_yes HF.out (Own.nil _ _ _), by unfold Hid; exact Below.refl _ _⟩
  have h0' : s.toList.isEmpty = false := by rw [Bool.eq_false_iff, ne_eq, str_empty]; exact h0
  have HF0 : Hid (pieces6S last (bl s) = piecesF last (cutS 58 [] (bl s))) := if_neg h0
  have hcl := cutS_len 58 (bl s) []
  rw [bl_length] at hcl
  clear h0
  go_enter Tryz.func212, Tryz.ntmps212
  go_wp2_with fail
  refine (host_Split 58 s _ hs HE).mono ?_
  rintro e w1 ⟨⟨g, c, rfl, hc, hR⟩, HB1⟩
  try rw [show ((58 : UInt8).toNat : Int) = 58 from rfl] at *
  have HL : Hid (∀ x, x ∈ cutS 58 [] (bl s) → x.length ≤ s.size) := fun x hx => by have := cut_mem_len hx; rw [bl_length] at this; exact this
  generalize cutS 58 [] (bl s) = ls at *
  obtain ⟨n, hn⟩ : ∃ n, ls.length = n := ⟨_, rfl⟩
  rw [hn] at hc hcl ⊢
  have HN := Lib.hid hn
  clear hn
  go_wp2
  go_loopg [6, 20] n (fun r v6 v20 wr => ∃ (xs : List Nat) (k : Nat), v20 = .int .i64 k ∧ k + r = n ∧ Hid (xs.length = k) ∧ Hid (Own wr w1.heap.size 149 v6 (u16s xs)) ∧ Hid (pieces6S last (bl s) = (piecesF last (ls.drop k)).map (xs ++ ·)) ∧ Hid (Bel w1 wr))
  case atStart => exact ⟨[], 0, rfl, by omega, rfl, Own.nil _ _ _, by unfold Hid; rw [HF0.out]; simp, by unfold Hid; exact Below.refl _ _⟩
  case round =>
    obtain ⟨xs, k, rfl, hk, HD, HO, HI, HB⟩ := hrel
    have HB4 := Lib.hid (bel_trans HB1.out HB.out)
    cases gk with
    | zero =>
      have hX := HI.out
      rw [List.drop_eq_nil_of_le (by rw [HN.out]; omega)] at hX
      have HX : Hid (pieces6S last (bl s) = some xs) := by unfold Hid; rw [hX]; simp [piecesF]
      clear HI HF0 hX
      go_wp2
      go_ret2
      exact ⟨pieces_yes HX.out (HO.out.low HB1.out.size), HB4⟩
    | succ g' =>
      obtain ⟨u, hu⟩ : ∃ u, ls[k]? = some (bl u) := ⟨⟨(ls[k]'(by rw [HN.out]; omega)).toArray⟩, by rw [bl_mk]; exact List.getElem?_eq_getElem _⟩
      have hus := HL.out _ (List.mem_of_getElem? hu)
      rw [bl_length] at hus
      have hI := HI.out
      rw [drop_get hu] at hI
      have hcell := strs_cell (hR.out.bel HB.out) hu
      have HE1 := Lib.hid ((HE.out.bel HB1.out).bel HB.out)
      have HX := Lib.hid hI
      have HT : Hid ((ls.drop (k + 1)).isEmpty = decide (k + 1 = n)) := by
        unfold Hid
        have hl : (ls.drop (k + 1)).length = n - (k + 1) := by rw [List.length_drop, HN.out]
        by_cases h : k + 1 = n
        · rw [List.eq_nil_of_length_eq_zero (hl.trans (by omega))]; simp [h]
        · rw [decide_eq_false h, Bool.eq_false_iff, ne_eq, List.isEmpty_iff]
          intro h2; rw [h2] at hl; simp at hl; omega
      clear hI HI hu HF0
      obtain ⟨m, hm⟩ := HE1.out.maxLen
      have HM := Lib.hid hm
      clear hm
      go_upto_region 8 with (fail)
      go_cut [36] (fun v36 wx => v36 = .bool (last && decide (k + 1 = n) && (bl u).contains 46) ∧ wr = wx)
      case first =>
        cases last
        · go_wp2
          go_meet
          exact ⟨rfl, rfl⟩
        · by_cases hkn : k + 1 = n
          · have hb : ((k : Int) == (n : Int) - 1) = true := by rw [beq_iff_eq]; omega
            have HKN : Hid (decide (k + 1 = n) = true) := by unfold Hid; simp [hkn]
            clear hkn
            go_wp2_with (go_at_call 226; go_must (refine (Tryz.strings_Contains u _ m _ (by omega) HM.out).mono ?_); rintro e w' ⟨rfl, hw⟩; rw [hw])
            go_meet
            exact ⟨by rw [HKN.out, ← contains_one]; rfl, rfl⟩
          · have hb : ((k : Int) == (n : Int) - 1) = false := by rw [beq_eq_false_iff_ne]; omega
            have HKN : Hid (decide (k + 1 = n) = false) := by unfold Hid; simp [hkn]
            clear hkn
            go_wp2
            go_meet
            exact ⟨by rw [HKN.out]; rfl, rfl⟩
      case rest =>
        obtain ⟨rfl, rfl⟩ := hcut
        obtain ⟨T, hT⟩ : ∃ T, (last && decide (k + 1 = n) && (bl u).contains 46) = T := ⟨_, rfl⟩
        rw [hT]
        have HT2 : Hid ((last && (ls.drop (k + 1)).isEmpty && (bl u).contains 46) = T) := by unfold Hid; rw [HT.out]; exact hT
        clear hT HT
        have hsz := HB.out.size
        have hlen : xs.length ≤ 1000002 := by have := HD.out; omega
        cases T
        · have hhex : hexPieceS (bl u) = if bl u ≠ [] ∧ u.size ≤ 4 ∧ (bl u).all isHex = true then some (valS 16 (bl u)) else none := by unfold hexPieceS; rw [bl_length]
          have HNO : Hid (hexPieceS (bl u) = none → pieces6S last (bl s) = none) := by
            intro h; rw [HX.out, pf_none HT2.out h]; rfl
          by_cases hu0 : bl u = []
          · have hu0' : u.toList.isEmpty = true := (str_empty u).2 hu0
            have HY := Lib.hid (HNO.out (hhex.trans (if_neg (fun h => h.1 hu0))))
            clear hhex hu0
            go_wp2
            go_ret2
            exact ⟨pieces_no HY.out, HB4⟩
          · have hu0' : u.toList.isEmpty = false := by rw [Bool.eq_false_iff, ne_eq, str_empty]; exact hu0
            by_cases h4 : u.size ≤ 4
            · have HA : Hid ((bl u).all (bl ⟨#[48, 49, 50, 51, 52, 53, 54, 55, 56, 57, 97, 98, 99, 100, 101, 102, 65, 66, 67, 68, 69, 70]⟩).contains = (bl u).all isHex) := by unfold Hid; congr 1; funext x; exact hex_eq x
              have HH := Lib.hid hhex
              have HU0 := Lib.hid hu0
              clear hhex hu0
              go_wp2_with fail
              refine (host_all u _ _ (by omega) (by decide) (asc_of (by decide)) HE1).mono ?_
              rintro e w2 ⟨rfl, HB2⟩
              rw [HA.out]
              cases ha : (bl u).all isHex
              · have HY := Lib.hid (HNO.out (HH.out.trans (if_neg (fun h => by rw [ha] at h; cases h.2.2))))
                clear ha
                go_wp2
                go_ret2
                exact ⟨pieces_no HY.out, bel_trans HB4.out HB2.out⟩
              · have HP : Hid (hexPieceS (bl u) = some (valS 16 (bl u))) := HH.out.trans (if_pos ⟨HU0.out, h4, ha⟩)
                have HA2 : Hid ((bl u).all (okDig 16) = true) := by unfold Hid; rw [all16]; exact ha
                have HE2 := Lib.hid (HE1.out.bel HB2.out)
                clear ha
                go_wp2_with fail
                refine (lib_ParseUintP u 16 16 _ (by omega) HU0.out (by omega) HA2 HE2).mono ?_
                rintro e w3 ⟨⟨v, rfl, hv⟩, HB3⟩
                have hlt := hexPiece_lt HP.out
                rcases hv with ⟨hlt2, rfl⟩ | ⟨hge, N, rfl⟩
                · have HY : Hid (pieces6S last (bl s) = (piecesF last (ls.drop (k + 1))).map ((xs ++ [valS 16 (bl u)]) ++ ·)) := by
                    unfold Hid
                    rw [HX.out, pf_some HT2.out HP.out, Option.map_map]
                    congr 1; funext l; simp
                  obtain ⟨v, hv⟩ : ∃ v, valS 16 (bl u) = v := ⟨_, rfl⟩
                  rw [hv] at hlt HY ⊢
                  have hv2 : (v : Int) ≤ 65535 := by omega
                  have HB5 := Lib.hid (bel_trans HB2.out HB3.out)
                  have HB6 := Lib.hid (bel_trans HB.out HB5.out)
                  have HO2 := Lib.hid (HO.out.bel HB5.out)
                  have hsz6 := HB6.out.size
                  clear hv hlt hlt2
                  go_wp2_with (at_builtin; go_must (refine app_u16 (w0 := w1) w1.heap.size rfl _ _ (by exact rfl) _ (u16s xs) v (by exact rfl) (by exact rfl) HO2 HB6 hsz6 (by simp [u16s]; omega) ?_); intro v1 w4 HO4 HB7 hs4)
                  go_roundg g'
                  case measure => omega
                  case rel => exact ⟨xs ++ [v], k + 1, rfl, by omega, by unfold Hid; rw [List.length_append, HD.out]; rfl, by unfold u16s; rw [List.map_append]; exact HO4, HY, HB7⟩
                · omega
            · have HY := Lib.hid (HNO.out (hhex.trans (if_neg (fun h => h4 h.2.1))))
              clear hhex hu0
              go_wp2
              go_ret2
              exact ⟨pieces_no HY.out, HB4⟩
        · have HY : Hid (pieces6S last (bl s) = (dottedS (bl u)).map (xs ++ ·)) := by unfold Hid; rw [HX.out, pf_dot HT2.out]
          go_wp2_with fail
          refine (host_dotted u _ (by omega) HE1).mono ?_
          rintro e w2 ⟨⟨v, rfl, hv⟩, HB2⟩
          have HB6 := Lib.hid (bel_trans HB.out HB2.out)
          have HB5 := Lib.hid (bel_trans HB4.out HB2.out)
          have HO2 := Lib.hid (HO.out.bel HB2.out)
          have hsz6 := HB6.out.size
          cases hd : dottedS (bl u) with
          | none =>
            rw [hd] at hv HY
            have hv : v = .slice none 0 0 := hv
            subst hv
            clear hd
            go_wp2_with (at_builtin; go_must (refine app_nil16 w1.heap.size rfl _ _ (by exact rfl) _ xs 0 (by exact rfl) (by exact rfl) HO2 ?_))
            go_ret2
            exact ⟨pieces_no2 HY.out HO2.out, HB5⟩
          | some l =>
            rw [hd] at hv HY
            obtain ⟨g2, c2, rfl, hc2, hg2, hR2⟩ := hv
            have hl2 := dotted_len hd
            have hl2' := hl2
            rw [hl2'] at hc2 ⊢
            have HR2 := Lib.hid hR2
            have HL2 := Lib.hid hl2
            clear hd hl2 hl2' hR2
            go_wp2_with (at_builtin; go_must (refine app_u16s (w0 := w1) w1.heap.size rfl _ _ (by exact rfl) _ xs l g2 c2 2 HL2.out (by exact rfl) (by exact rfl) HR2.out HO2 HB6 hsz6 (by have := HL2.out; omega) ?_); intro v1 w4 HO4 HB7 hs4)
            go_ret2
            exact ⟨pieces_yes HY.out (HO4.out.low HB1.out.size), bel_next HB1.out HB1.out.size HB7.out⟩
end Go.Proofs.YtbpkkgaaeodimaaGreatDoor
namespace Go.Proofs.YtbpkkgaaeodimaaGreatDoor
open Go.RowKit

theorem cutS_count (c : UInt8) : ∀ (l acc : List UInt8), l.contains c = false → (cutS c.toNat acc l).length = 1
  | [], acc, _ => rfl
  | x :: r, acc, h => by
    rw [List.contains_cons, Bool.or_eq_false_iff] at h
    unfold cutS
    rw [if_neg]
    · exact cutS_count c r _ h.2
    · intro e
      have : x = c := UInt8.toNat_inj.1 (by omega)
      rw [this] at h
      simp at h
theorem hex_no_dot {x : List UInt8} (h : x.contains 46 = true) : x.all isHex = false := by
  rw [Bool.eq_false_iff]
  intro ha
  have := List.all_eq_true.1 ha 46 (by simpa using h)
  revert this; decide
theorem hexPiece_dot {x : List UInt8} (h : x.contains 46 = true) : hexPieceS x = none := by
  unfold hexPieceS; rw [if_neg]; rintro ⟨_, _, h3⟩; rw [hex_no_dot h] at h3; cases h3
theorem pf2_dot {last : Bool} {x : List UInt8} {r : List (List UInt8)} (h : (last && r.isEmpty && decide ((cutS 46 [] x).length = 4)) = true) : piecesF last (x :: r) = dottedS x := by
  simp only [Bool.and_eq_true, decide_eq_true_eq] at h
  refine pf_dot ?_
  rw [h.1.1, h.1.2]
  cases hc : x.contains 46
  · have := cutS_count 46 x [] hc
    rw [show (((46 : UInt8).toNat : Nat) : Int) = 46 from rfl, h.2] at this
    omega
  · rfl
theorem pf2_none {last : Bool} {x : List UInt8} {r : List (List UInt8)} (h : (last && r.isEmpty && decide ((cutS 46 [] x).length = 4)) = false) (hp : hexPieceS x = none) : piecesF last (x :: r) = none := by
  cases hT : (last && r.isEmpty && x.contains 46)
  · exact pf_none hT hp
  · rw [pf_dot hT]
    simp only [Bool.and_eq_true] at hT
    rw [hT.1.1, hT.1.2] at h
    unfold dottedS
    exact if_neg (by simpa using h)
theorem pf2_some {last : Bool} {x : List UInt8} {r : List (List UInt8)} {v : Nat} (hp : hexPieceS x = some v) : piecesF last (x :: r) = (piecesF last r).map (v :: ·) := by
  refine pf_some ?_ hp
  cases hc : x.contains 46
  · simp
  · rw [hexPiece_dot hc] at hp; cases hp
set_option maxHeartbeats 4000000 in
set_option maxRecDepth 100000 in
theorem ref2_pieces (s : ByteArray) (last : Bool) (w : World) (hs : s.size ≤ 1000000) :
    Calls Tryz.prog 179 #[.string s, .bool last] w fun e w' => pieces_post w w' e (pieces6S last (bl s)) ∧ Hid (Bel w w') := by
  by_cases h0 : bl s = []
  · have h0' : s.toList.isEmpty = true := (str_empty s).2 h0
    have HF : Hid (pieces6S last (bl s) = some []) := if_pos h0
    clear h0
    go_enter Tryz.func179, Tryz.ntmps179
    go_wp2
    go_ret2
    exact ⟨pieces_yes HF.out (Own.nil _ _ _), by unfold Hid; exact Below.refl _ _⟩
  have h0' : s.toList.isEmpty = false := by rw [Bool.eq_false_iff, ne_eq, str_empty]; exact h0
  have HF0 : Hid (pieces6S last (bl s) = piecesF last (cutS 58 [] (bl s))) := if_neg h0
  have hcl := cutS_len 58 (bl s) []
  rw [bl_length] at hcl
  clear h0
  go_enter Tryz.func179, Tryz.ntmps179
  go_wp2_with fail
  refine (ref1_CutS 58 s _ hs).mono ?_
  rintro e w1 ⟨⟨g, c, rfl, hc, hR⟩, HB1⟩
  try rw [show ((58 : UInt8).toNat : Int) = 58 from rfl] at *
  have HL : Hid (∀ x, x ∈ cutS 58 [] (bl s) → x.length ≤ s.size) := fun x hx => by have := cut_mem_len hx; rw [bl_length] at this; exact this
  generalize cutS 58 [] (bl s) = ls at *
  obtain ⟨n, hn⟩ : ∃ n, ls.length = n := ⟨_, rfl⟩
  rw [hn] at hc hcl ⊢
  have HN := Lib.hid hn
  clear hn
  go_wp2
  go_loopg [6, 8] n (fun r v6 v8 wr => ∃ (xs : List Nat) (k : Nat), v8 = .int .i64 k ∧ k + r = n ∧ Hid (xs.length = k) ∧ Hid (Own wr w1.heap.size 149 v6 (u16s xs)) ∧ Hid (pieces6S last (bl s) = (piecesF last (ls.drop k)).map (xs ++ ·)) ∧ Hid (Bel w1 wr))
  case atStart => exact ⟨[], 0, rfl, by omega, rfl, Own.nil _ _ _, by unfold Hid; rw [HF0.out]; simp, by unfold Hid; exact Below.refl _ _⟩
  case round =>
    obtain ⟨xs, k, rfl, hk, HD, HO, HI, HB⟩ := hrel
    have HB4 := Lib.hid (bel_trans HB1.out HB.out)
    cases gk with
    | zero =>
      have hX := HI.out
      rw [List.drop_eq_nil_of_le (by rw [HN.out]; omega)] at hX
      have HX : Hid (pieces6S last (bl s) = some xs) := by unfold Hid; rw [hX]; simp [piecesF]
      clear HI HF0 hX
      go_wp2
      go_ret2
      exact ⟨pieces_yes HX.out (HO.out.low HB1.out.size), HB4⟩
    | succ g' =>
      obtain ⟨u, hu⟩ : ∃ u, ls[k]? = some (bl u) := ⟨⟨(ls[k]'(by rw [HN.out]; omega)).toArray⟩, by rw [bl_mk]; exact List.getElem?_eq_getElem _⟩
      have hus := HL.out _ (List.mem_of_getElem? hu)
      rw [bl_length] at hus
      have hI := HI.out
      rw [drop_get hu] at hI
      have hcell := strs_cell (hR.out.bel HB.out) hu
      have HU := Lib.hid hu
      have HX := Lib.hid hI
      have HT : Hid ((ls.drop (k + 1)).isEmpty = decide (k + 1 = n)) := by
        unfold Hid
        have hl : (ls.drop (k + 1)).length = n - (k + 1) := by rw [List.length_drop, HN.out]
        by_cases h : k + 1 = n
        · rw [List.eq_nil_of_length_eq_zero (hl.trans (by omega))]; simp [h]
        · rw [decide_eq_false h, Bool.eq_false_iff, ne_eq, List.isEmpty_iff]
          intro h2; rw [h2] at hl; simp at hl; omega
      clear hI HI hu HF0
      go_upto_region 8 with (fail)
      go_cut [40] (fun v40 wx => v40 = .bool (last && decide (k + 1 = n) && decide ((cutS 46 [] (bl u)).length = 4)) ∧ Hid (Bel wr wx))
      case first =>
        cases last
        · go_wp2
          go_meet
          exact ⟨rfl, by unfold Hid; exact Below.refl _ _⟩
        · by_cases hkn : k + 1 = n
          · have hb : ((k : Int) == (n : Int) - 1) = true := by rw [beq_iff_eq]; omega
            have HKN : Hid (decide (k + 1 = n) = true) := by unfold Hid; simp [hkn]
            clear hkn
            go_wp2_with (go_at_call 120; go_must (refine (ref1_CutS 46 u _ (by omega)).mono ?_); rintro e w2 ⟨⟨g2, c2, rfl, hc2, hR2⟩, HB2⟩)
            go_meet
            exact ⟨by rw [HKN.out]; congr 1; simp only [Bool.true_and]; exact (bdec (by rw [beq_iff_eq]; omega)), HB2⟩
          · have hb : ((k : Int) == (n : Int) - 1) = false := by rw [beq_eq_false_iff_ne]; omega
            have HKN : Hid (decide (k + 1 = n) = false) := by unfold Hid; simp [hkn]
            clear hkn
            go_wp2
            go_meet
            exact ⟨by rw [HKN.out]; rfl, by unfold Hid; exact Below.refl _ _⟩
      case rest =>
        obtain ⟨rfl, HBx⟩ := hcut
        have hcell2 := strs_cell ((hR.out.bel HB.out).bel HBx.out) HU.out
        have HO2 := Lib.hid (HO.out.bel HBx.out)
        have HB6 := Lib.hid (bel_trans HB.out HBx.out)
        have HB5 := Lib.hid (bel_trans HB4.out HBx.out)
        obtain ⟨T, hT⟩ : ∃ T, (last && decide (k + 1 = n) && decide ((cutS 46 [] (bl u)).length = 4)) = T := ⟨_, rfl⟩
        rw [hT]
        have HT2 : Hid ((last && (ls.drop (k + 1)).isEmpty && decide ((cutS 46 [] (bl u)).length = 4)) = T) := by unfold Hid; rw [HT.out]; exact hT
        clear hT HT hcell HO HB4 HBx
        have hsz6 := HB6.out.size
        have hlen : xs.length ≤ 1000002 := by have := HD.out; omega
        generalize wc = wy at *
        cases T
        · have hhex : hexPieceS (bl u) = if bl u ≠ [] ∧ u.size ≤ 4 ∧ (bl u).all isHex = true then some (valS 16 (bl u)) else none := by unfold hexPieceS; rw [bl_length]
          have HNO : Hid (hexPieceS (bl u) = none → pieces6S last (bl s) = none) := by
            intro h; rw [HX.out, pf2_none HT2.out h]; rfl
          by_cases hu0 : 1 ≤ u.size
          · have hu1 : bl u ≠ [] := fun h => absurd ((bl_length u).symm.trans (congrArg List.length h)) (by show ¬ u.size = 0; omega)
            by_cases h4 : u.size ≤ 4
            · have HH := Lib.hid hhex
              have HU1 := Lib.hid hu1
              clear hhex hu1
              have HALL : Hid ((bl u).all isHex = ((bl u).drop 0).all isHex) := rfl
              have HVAL : Hid (valS 16 (bl u) = valF 16 0 ((bl u).drop 0)) := rfl
              go_wp2
              go_loopg [11, 12] u.size (fun q v11 v12 wq => ∃ (n j : Nat), v11 = .int .i64 n ∧ v12 = .int .i64 j ∧ j + q = u.size ∧ Hid (n < 16 ^ j) ∧ Hid ((bl u).all isHex = ((bl u).drop j).all isHex) ∧ Hid (valS 16 (bl u) = valF 16 n ((bl u).drop j)) ∧ wy = wq)
              case atStart => exact ⟨0, 0, rfl, rfl, by omega, by unfold Hid; omega, HALL, HVAL, rfl⟩
              case round =>
                obtain ⟨m, j, rfl, rfl, hj, HM, HA, HV, rfl⟩ := hrel
                cases gk with
                | zero =>
                  have hm4 : (m : Int) ≤ 65535 := by
                    have := HM.out
                    have h3 : 16 ^ j ≤ 16 ^ 4 := Nat.pow_le_pow_right (by omega) (by omega)
                    omega
                  have HA1 : Hid ((bl u).all isHex = true) := by have := HA.out; rw [bl_drop_end u j (by omega)] at this; exact this
                  have HV1 : Hid (valS 16 (bl u) = m) := by have := HV.out; rw [bl_drop_end u j (by omega)] at this; exact this
                  have HP : Hid (hexPieceS (bl u) = some m) := by unfold Hid; rw [HH.out, if_pos ⟨HU1.out, h4, HA1.out⟩, HV1.out]
                  have HY : Hid (pieces6S last (bl s) = (piecesF last (ls.drop (k + 1))).map ((xs ++ [m]) ++ ·)) := by
                    unfold Hid
                    rw [HX.out, pf2_some HP.out, Option.map_map]
                    congr 1; funext l; simp
                  clear HA HV HALL HVAL
                  go_wp2_with (at_builtin; go_must (refine app_u16 (w0 := w1) w1.heap.size rfl _ _ (by exact rfl) _ (u16s xs) m (by exact rfl) (by exact rfl) HO2 HB6 hsz6 (by simp [u16s]; omega) ?_); intro v1 w4 HO4 HB7 hs4)
                  go_roundg g'
                  case measure => omega
                  case rel => exact ⟨xs ++ [m], k + 1, rfl, by omega, by unfold Hid; rw [List.length_append, HD.out]; rfl, by unfold u16s; rw [List.map_append]; exact HO4, HY, HB7⟩
                | succ q =>
                  have hlt : j < u.size := by omega
                  have hr := hexV_range u[j].toNat
                  have c1 : (u[j].toNat : Int) ≤ 255 := by have := u[j].toNat_lt; omega
                  have hA := HA.out
                  have hV := HV.out
                  rw [bl_drop u j hlt, List.all_cons] at hA
                  rw [bl_drop u j hlt, valF] at hV
                  have hm3 : m < 4096 := by
                    have := HM.out
                    have h3 : 16 ^ j ≤ 16 ^ 3 := Nat.pow_le_pow_right (by omega) (by omega)
                    omega
                  clear HA HV HALL HVAL
                  by_cases hx : 0 ≤ hexV u[j].toNat
                  · obtain ⟨d, hd⟩ : ∃ d : Nat, hexV u[j].toNat = d := ⟨(hexV u[j].toNat).toNat, by omega⟩
                    have hd15 : d ≤ 15 := by omega
                    rw [show isHex u[j] = true from by simp [isHex, hx], Bool.true_and] at hA
                    rw [hd, Int.toNat_natCast] at hV
                    have hH := ref1_Hex u[j].toNat wy (by omega) (by omega)
                    rw [hd] at hH
                    have HH2 := Lib.hid hH
                    have HA2 := Lib.hid hA
                    have HV2 := Lib.hid hV
                    clear hH hA hV hx hd hr
                    go_wp2_with (go_at_call 181; go_must (refine HH2.out.mono ?_); rintro e w' ⟨rfl, rfl⟩)
                    go_roundg q
                    case measure => omega
                    case rel => exact ⟨m * 16 + d, j + 1, rfl, rfl, by omega, by have := HM.out; unfold Hid; rw [Nat.pow_succ]; omega, HA2, HV2, rfl⟩
                  · have HF : Hid ((bl u).all isHex = false) := by unfold Hid; rw [hA, show isHex u[j] = false from by simp [isHex]; omega, Bool.false_and]
                    have HY := Lib.hid (HNO.out (HH.out.trans (if_neg (fun h => by rw [HF.out] at h; cases h.2.2))))
                    clear hA hV
                    go_wp2_with (go_at_call 181; go_must (refine (ref1_Hex _ _ (by omega) (by omega)).mono ?_); rintro e w' ⟨rfl, rfl⟩)
                    go_ret2
                    exact ⟨pieces_no HY.out, HB5⟩
            · have HY := Lib.hid (HNO.out (hhex.trans (if_neg (fun h => h4 h.2.1))))
              clear hhex hu1
              go_wp2
              go_ret2
              exact ⟨pieces_no HY.out, HB5⟩
          · have HY := Lib.hid (HNO.out (hhex.trans (if_neg (fun h => h.1 (List.eq_nil_of_length_eq_zero (by rw [bl_length]; omega))))))
            clear hhex
            go_wp2
            go_ret2
            exact ⟨pieces_no HY.out, HB5⟩
        · have HY : Hid (pieces6S last (bl s) = (dottedS (bl u)).map (xs ++ ·)) := by unfold Hid; rw [HX.out, pf2_dot HT2.out]
          have HC4 : Hid ((cutS 46 [] (bl u)).length = 4) := by
            have := HT2.out
            simp only [Bool.and_eq_true, decide_eq_true_eq] at this
            exact this.2
          go_wp2_with fail
          refine (ref2_decimals u _ (by omega) HC4.out).mono ?_
          rintro e w2 ⟨⟨v, rfl, hv⟩, HB2⟩
          have HB7 := Lib.hid (bel_trans HB6.out HB2.out)
          have HB8 := Lib.hid (bel_trans HB5.out HB2.out)
          have HO3 := Lib.hid (HO2.out.bel HB2.out)
          have hsz7 := HB7.out.size
          cases hd : dottedS (bl u) with
          | none =>
            rw [hd] at hv HY
            have hv : v = .slice none 0 0 := hv
            subst hv
            clear hd
            go_wp2
            go_ret2
            exact ⟨pieces_no HY.out, HB8⟩
          | some l =>
            rw [hd] at hv HY
            obtain ⟨g2, c2, rfl, hc2, hg2, hR2⟩ := hv
            have hl2 := dotted_len hd
            have hl2' := hl2
            rw [hl2'] at hc2 ⊢
            have HR2 := Lib.hid hR2
            have HL2 := Lib.hid hl2
            clear hd hl2 hl2' hR2
            go_wp2_with (at_builtin; go_must (refine app_u16s (w0 := w1) w1.heap.size rfl _ _ (by exact rfl) _ xs l g2 c2 2 HL2.out (by exact rfl) (by exact rfl) HR2.out HO3 HB7 hsz7 (by have := HL2.out; omega) ?_); intro v1 w4 HO4 HB9 hs4)
            go_ret2
            exact ⟨pieces_yes HY.out (HO4.out.low HB1.out.size), bel_next HB1.out HB1.out.size HB9.out⟩
end Go.Proofs.YtbpkkgaaeodimaaGreatDoor
