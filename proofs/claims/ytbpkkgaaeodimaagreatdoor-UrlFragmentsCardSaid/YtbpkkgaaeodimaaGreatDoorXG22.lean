import Derived.Test.YtbpkkgaaeodimaaGreatDoorXG20
import Derived.Test.YtbpkkgaaeodimaaGreatDoorXG14
import Derived.Test.YtbpkkgaaeodimaaGreatDoorXG21
import Derived.Laws.OwnMore
namespace Go.Proofs.YtbpkkgaaeodimaaGreatDoor
open Go.RowKit

/-- A row of texts that may be read; nil is let in. -/
def ReadP (w : World) (x : Value) (hv : List (List UInt8)) : Prop := (x = .slice none 0 0 ∧ hv = []) ∨ ∃ g c, x = .slice (some ⟨g, 0, none⟩) hv.length c ∧ hv.length ≤ c ∧ RdAt w g (strs hv)
theorem ReadP.bel {w w' : World} {x : Value} {hv : List (List UInt8)} (h : ReadP w x hv) (hb : Bel w w') : ReadP w' x hv := by
  rcases h with h | ⟨g, c, h1, h2, h3⟩
  · exact .inl h
  · exact .inr ⟨g, c, h1, h2, h3.bel hb⟩
theorem ReadP.of {w : World} {base : Nat} {v : Value} {p : List (List UInt8)} (h : Own w base 9 v (strs p)) : ReadP w v p := by
  by_cases h0 : strs p = []
  · have hp : p = [] := by simpa [strs] using h0
    rcases h.2 with ⟨hv, hn⟩ | ⟨g, cap, cur, hv, hb, hh, hn, _⟩
    · exact .inl ⟨hv, hp⟩
    · rw [h0] at hv hn
      subst hp
      refine .inr ⟨g, cap, hv, by simp, (Array.getElem?_eq_some_iff.1 hh).1, fun k u hu => by simp [strs] at hu⟩
  · obtain ⟨g, c, hv, _, hr, hc⟩ := h.row h0
    rw [strs_len] at hv hc
    exact .inr ⟨g, c, hv, hc, hr.rd⟩
theorem strs_one (p : List (List UInt8)) : ∀ y ∈ strs p, y.oneCell' = true := by
  intro y hy
  unfold strs at hy
  obtain ⟨x, _, rfl⟩ := List.mem_map.1 hy
  rfl
theorem strs_app (a b : List (List UInt8)) : strs (a ++ b) = strs a ++ strs b := by simp [strs]
theorem Own.zero (w : World) (base : Nat) (hb : base ≤ w.heap.size) : Own (w.alloc (.cells #[] 9)) base 9 (.slice (some ⟨w.heap.size, 0, none⟩) 0 0) (strs []) :=
  World.ownsRow_lit w #[] 0 hb (by decide) rfl
theorem Own.shapeS {w : World} {base : Nat} {e : TypeId} {v : Value} {xs : List (List UInt8)} (h : Own w base e v (strs xs)) : ∃ A c, v = .slice A xs.length c := by
  obtain ⟨A, c, e⟩ := h.shape
  exact ⟨A, c, by rw [e, strs_len]⟩
theorem Own.lt {w : World} {base : Nat} {e : TypeId} {v : Value} {xs : List Value} (h : Own w base e v xs) (k : Nat) (hk : v.ownBlock = some k) : k < w.heap.size := by
  rcases h.2 with ⟨rfl, _⟩ | ⟨g, cap, cur, rfl, _, hh, _⟩
  · simp [Value.ownBlock] at hk
  · have : g = k := by simpa [Value.ownBlock] using hk
    have := (Array.getElem?_eq_some_iff.1 hh).1
    omega
section
variable {ops : Array Oper} {Q : Exit → Act → World → Prop} {a : Act} {rest : List Oper} {o : Oper}
/-- append(own row, a row that is read...). -/
theorem app_read {w0 W : World} (base : Nat) (hgd : o.guard = none) (s x : Operand)
    (ho : o.op = .call { callee := .builtin .append, args := #[s, x], argTypes := #[22, 22] })
    (v xv : Value) (xs ys : List (List UInt8)) (hs : a.eval s = v) (hx : a.eval x = xv)
    (HX : Hid (ReadP W xv ys)) (HO : Hid (Own W base 9 v (strs xs))) (HB : Hid (Below base w0 W)) (hbase : base ≤ W.heap.size) (hl : xs.length + ys.length ≤ 4398046511104)
    (h : ∀ v1 w1, Hid (Own w1 base 9 v1 (strs (xs ++ ys))) → Hid (Below base w0 w1) → W.heap.size ≤ w1.heap.size → wpList Tryz.prog ops Q rest (a.put o.dst v1) w1) :
    wpList Tryz.prog ops Q (o :: rest) a W := by
  rcases HX.out with ⟨rfl, rfl⟩ | ⟨g, c, rfl, hc, hr⟩
  · refine wpList_plain hgd fun _ hK => ?_
    obtain ⟨i, hi, hz⟩ := Option.map_eq_some_iff.1 info9
    simp only [Prod.mk.injEq] at hz
    have hrun := run_append_owned_none (P := Tryz.prog) W base 22 o.type 9 i 1 Tryz.underlying22 hi v (strs xs).length (strs xs) HO.out
    unfold Oper.wp execOp
    simp only [ho, resolve, invoke, builtin, Sem.run_bind, Sem.run_pure, Result.andThen_ok, List.map_toArray, List.map_cons, List.map_nil, hs, hx, hrun]
    exact hK _ _ (h v W (by rw [List.append_nil]; exact HO) HB (Nat.le_refl _))
  · refine app_strs base hgd s x ho v (strs xs) (strs ys) ⟨g, 0, none⟩ ys.length c (strs_len ys).symm hs hx (fun j u hj => ?_) (strs_one ys) HO HB hbase (by rw [strs_len, strs_len]; exact hl) (fun v1 w1 h1 h2 h3 => h v1 w1 (by rw [strs_app]; exact h1) h2 h3)
    rw [show (⟨g, 0, none⟩ : Addr).add j = ⟨g, j, none⟩ by unfold Addr.add; split <;> simp_all]
    exact hr.2 j u hj
end
theorem cut_mem_le (c : Int) {x : List UInt8} : ∀ (l acc : List UInt8), x ∈ cutS c acc l → x.length ≤ acc.length + l.length
  | [], acc, h => by simp [cutS] at h; rw [h]; simp
  | y :: r, acc, h => by
    rw [cutS] at h
    split at h
    · rcases List.mem_cons.1 h with h | h
      · rw [h]; simp
      · have := cut_mem_le c r [] h
        simp at this ⊢; omega
    · have := cut_mem_le c r _ h
      simp at this ⊢; omega
theorem dots_d {x : List UInt8} {d : Nat} (h : (dotN x).getD 0 = d) : (d = 1 → dotsS x = 1) ∧ (d = 2 → dotsS x = 2) ∧ (d ≠ 1 → d ≠ 2 → dotsS x = 0) := by
  unfold dotsS
  cases hn : dotN x with
  | none =>
    rw [hn] at h
    simp at h
    exact ⟨fun e => by omega, fun e => by omega, fun _ _ => rfl⟩
  | some n =>
    rw [hn] at h
    simp at h
    subst h
    refine ⟨fun e => by subst e; rfl, fun e => by subst e; rfl, fun h1 h2 => ?_⟩
    match n, h1, h2 with
    | 0, _, _ => rfl
    | 1, h1, _ => exact absurd rfl h1
    | 2, _, h2 => exact absurd rfl h2
    | n + 3, _, _ => rfl
theorem path_step {xs : List (List UInt8)} {x : List UInt8} {r : List (List UInt8)} : pathF xs (x :: r) = pathF (if dotsS x = 0 then xs ++ [percent 5 x] else if r = [] then (if dotsS x = 2 then xs.dropLast else xs) ++ [[]] else (if dotsS x = 2 then xs.dropLast else xs)) r := by rw [pathF]
theorem drop_next {l : List (List UInt8)} {k : Nat} {x : List UInt8} (h : l[k]? = some x) : l.drop k = x :: l.drop (k + 1) := by
  obtain ⟨hk, e⟩ := List.getElem?_eq_some_iff.1 h
  rw [List.drop_eq_getElem_cons hk, e]
theorem take_init {xs : List (List UInt8)} : (strs xs).take (xs.length - 1) = strs xs.dropLast := by
  unfold strs
  rw [List.dropLast_eq_take, List.map_take]
set_option maxHeartbeats 4000000 in
set_option maxRecDepth 100000 in
theorem ref3_path (xv : Value) (hv : List (List UInt8)) (s : ByteArray) (w : World) (hs : s.size ≤ 1000000) (hh : hv.length ≤ 1000000) (HX : Hid (ReadP w xv hv)) :
    Calls Tryz.prog 90 #[xv, .string s] w fun e w' => (∃ v, e = .returned v ∧ Hid (Own w' w.heap.size 9 v (strs (pathF hv (cutS 47 [] (bl s)))))) ∧ Hid (Bel w w') := by
  have HX0 := Lib.hid (HX.out.bel ((Below.refl _ w).alloc (Nat.le_refl _) (.cells #[] 9)))
  have HO0 := Lib.hid (Own.zero w w.heap.size (Nat.le_refl _))
  have HB0 : Hid (Below w.heap.size w (w.alloc (.cells #[] 9))) := (Below.refl _ w).alloc (Nat.le_refl _) _
  have hsz : w.heap.size ≤ (w.alloc (.cells #[] 9)).heap.size := by simp
  go_enter Tryz.func90, Tryz.ntmps90
  go_wp2_with (first | (at_builtin; go_must (refine app_read (w0 := w) w.heap.size rfl _ _ (by exact rfl) _ xv [] hv (by exact rfl) (by exact rfl) HX0 HO0 HB0 hsz (by simp; omega) ?_); intro v1 w1 HO1 HB1 hs1; obtain ⟨A1, c1, rfl⟩ := HO1.out.shapeS) | (go_at_call 120; go_must (refine (ref1_Cut s 47 _ (by omega)).mono ?_); rintro e w2 ⟨⟨v2, rfl, HO2⟩, HB2⟩; obtain ⟨g2, c2, rfl, hg2, hr2, hc2⟩ := HO2.out.row (by simp [strs]; exact cutS_ne 47 _ _)))
  rw [strs_len] at hc2
  have HO3 := Lib.hid (HO1.out.bel HB2.out)
  have HS3 : Hid (∀ b, Value.ownBlock (.slice A1 ([] ++ hv).length c1) = some b → (b ≠ g2 ∧ w.heap.size ≤ b) ∨ w2.heap.size ≤ b) := fun b hb => by
    have h1 := HO1.out.lt b hb
    exact .inl ⟨by omega, HO1.out.base b hb⟩
  have HBw := Lib.hid (bel_next HB1.out (Nat.le_trans hsz hs1) HB2.out)
  have hlen := cutS_len 47 (bl s) []
  rw [bl_length] at hlen
  have hml := fun x (h : x ∈ cutS 47 [] (bl s)) => cut_mem_le 47 (bl s) [] h
  have HR2 := Lib.hid hr2.rd
  clear hr2 HO2
  generalize hls : cutS 47 [] (bl s) = ls at *
  have HLS := Lib.hid hls
  have HML := Lib.hid hml
  clear hml hls
  rw [strs_len] at *
  rw [List.nil_append] at *
  go_loopg [5, 7] ls.length (fun g v5 v7 wr => ∃ (k : Nat) (xs : List (List UInt8)), v7 = .int .i64 k ∧ k + g = ls.length ∧ Hid (Own wr w.heap.size 9 v5 (strs xs)) ∧ Hid (pathF xs (ls.drop k) = pathF hv ls) ∧ xs.length ≤ hv.length + k ∧ Hid (BelP (fun b => b ≠ g2 ∧ w.heap.size ≤ b) w2 wr) ∧ Hid (∀ b, v5.ownBlock = some b → (b ≠ g2 ∧ w.heap.size ≤ b) ∨ w2.heap.size ≤ b))
  case atStart => exact ⟨0, hv, rfl, by omega, HO3, by unfold Hid; rw [List.drop_zero], by omega, BelP.refl _ _, HS3⟩
  case round =>
    obtain ⟨k, xs, rfl, hk, HO, HF, hxl, HP, HS⟩ := hrel
    have HB : Hid (Bel w wr) := BelP.bel HBw.out (fun b hb => hb.2) HP.out
    obtain ⟨A, c, rfl⟩ := HO.out.shapeS
    by_cases hlt : k < ls.length
    · obtain ⟨t, ht⟩ : ∃ t, ls[k]? = some (bl t) := ⟨⟨ls[k].toArray⟩, by rw [bl_mk, List.getElem?_eq_getElem hlt]⟩
      have htz : t.size ≤ 1000000 := by
        have := HML.out _ (List.mem_of_getElem? ht)
        rw [bl_length, bl_length, List.length_nil] at this
        omega
      have hcell : wr.cell? ⟨g2, k, none⟩ = some (.string t) := HP.out.cell (fun h => h.1 rfl) (strs_cell HR2.out ht)
      have HF2 : Hid (pathF (if dotsS (bl t) = 0 then xs ++ [percent 5 (bl t)] else if ls.drop (k + 1) = [] then (if dotsS (bl t) = 2 then xs.dropLast else xs) ++ [[]] else (if dotsS (bl t) = 2 then xs.dropLast else xs)) (ls.drop (k + 1)) = pathF hv ls) := by
        have := HF.out
        rw [drop_next ht, path_step] at this
        exact this
      have hlast : (k + 1 = ls.length ∧ ls.drop (k + 1) = []) ∨ (k + 1 < ls.length ∧ ls.drop (k + 1) ≠ []) := by
        rcases Nat.lt_or_ge (k + 1) ls.length with h | h
        · exact .inr ⟨h, fun e => by have := List.drop_eq_nil_iff.1 e; omega⟩
        · exact .inl ⟨by omega, List.drop_eq_nil_of_le h⟩
      clear HF
      obtain ⟨d, hd⟩ : ∃ d, (dotN (bl t)).getD 0 = d := ⟨_, rfl⟩
      obtain ⟨q1, q2, q3⟩ := dots_d hd
      have HD : Hid (((((dotN (bl t)).getD 0 : Nat) : Int)) = (d : Int)) := by unfold Hid; rw [hd]
      clear hd
      by_cases d1 : d = 1
      · subst d1
        have hz := q1 rfl
        rw [hz] at HF2
        clear q1 q2 q3
        replace HD : Hid (((((dotN (bl t)).getD 0 : Nat) : Int)) = 1) := HD
        rcases hlast with ⟨hl, hn⟩ | ⟨hl, hn⟩
        · rw [if_neg (by decide), if_pos hn, if_neg (by decide)] at HF2
          have he : ((k : Int) == (ls.length : Int) - 1) = true := by rw [beq_iff_eq]; omega
          go_wp2_with (first | (go_at_call 121; go_must (refine (ref3_dots t _ htz).mono ?_); rintro e w4 ⟨rfl, HB4⟩; rw [HD.out]; have HOa := Lib.hid (HO.out.bel HB4.out); have HPa := Lib.hid (HP.out.trans (BelP.of _ HB4.out)); have hba : w.heap.size ≤ w4.heap.size := Nat.le_trans HB.out.size HB4.out.size; have hcell4 := bel_cell HB4.out hcell) | (at_builtin; go_must (refine app_str_p (S := fun b => b ≠ g2 ∧ w.heap.size ≤ b) (w0 := w2) w.heap.size rfl _ _ (by exact rfl) _ (xs) ⟨#[]⟩ (by exact rfl) (by exact rfl) HOa HPa HS hba (by omega) ?_); intro v3 w5 HO3 HP3 HS3 hs3))
          go_roundg (gk - 1)
          case measure => omega
          case rel => exact ⟨k + 1, xs ++ [[]], by go_num, by omega, HO3, HF2, by simp; omega, HP3, HS3⟩
        · rw [if_neg (by decide), if_neg hn, if_neg (by decide)] at HF2
          have he : ((k : Int) == (ls.length : Int) - 1) = false := by rw [beq_eq_false_iff_ne]; omega
          go_wp2_with (first | (go_at_call 121; go_must (refine (ref3_dots t _ htz).mono ?_); rintro e w4 ⟨rfl, HB4⟩; rw [HD.out]; have HOa := Lib.hid (HO.out.bel HB4.out); have HPa := Lib.hid (HP.out.trans (BelP.of _ HB4.out)); have hba : w.heap.size ≤ w4.heap.size := Nat.le_trans HB.out.size HB4.out.size; have hcell4 := bel_cell HB4.out hcell))
          go_roundg (gk - 1)
          case measure => omega
          case rel => exact ⟨k + 1, xs, by go_num, by omega, HOa, HF2, by omega, HPa, HS⟩
      · by_cases d2 : d = 2
        · subst d2
          have hz := q2 rfl
          rw [hz] at HF2
          clear q1 q2 q3
          replace HD : Hid (((((dotN (bl t)).getD 0 : Nat) : Int)) = 2) := HD
          by_cases hx0 : xs = []
          · subst hx0
            rcases hlast with ⟨hl, hn⟩ | ⟨hl, hn⟩
            · rw [if_neg (by decide), if_pos hn, if_pos rfl] at HF2
              have he : ((k : Int) == (ls.length : Int) - 1) = true := by rw [beq_iff_eq]; omega
              go_wp2_with (first | (go_at_call 121; go_must (refine (ref3_dots t _ htz).mono ?_); rintro e w4 ⟨rfl, HB4⟩; rw [HD.out]; have HOa := Lib.hid (HO.out.bel HB4.out); have HPa := Lib.hid (HP.out.trans (BelP.of _ HB4.out)); have hba : w.heap.size ≤ w4.heap.size := Nat.le_trans HB.out.size HB4.out.size; have hcell4 := bel_cell HB4.out hcell) | (at_builtin; go_must (refine app_str_p (S := fun b => b ≠ g2 ∧ w.heap.size ≤ b) (w0 := w2) w.heap.size rfl _ _ (by exact rfl) _ ([]) ⟨#[]⟩ (by exact rfl) (by exact rfl) HOa HPa HS hba (by simp) ?_); intro v3 w5 HO3 HP3 HS3 hs3))
              go_roundg (gk - 1)
              case measure => omega
              case rel => exact ⟨k + 1, [] ++ [[]], by go_num, by omega, HO3, HF2, by simp; omega, HP3, HS3⟩
            · rw [if_neg (by decide), if_neg hn, if_pos rfl] at HF2
              have he : ((k : Int) == (ls.length : Int) - 1) = false := by rw [beq_eq_false_iff_ne]; omega
              go_wp2_with (first | (go_at_call 121; go_must (refine (ref3_dots t _ htz).mono ?_); rintro e w4 ⟨rfl, HB4⟩; rw [HD.out]; have HOa := Lib.hid (HO.out.bel HB4.out); have HPa := Lib.hid (HP.out.trans (BelP.of _ HB4.out)); have hba : w.heap.size ≤ w4.heap.size := Nat.le_trans HB.out.size HB4.out.size; have hcell4 := bel_cell HB4.out hcell))
              go_roundg (gk - 1)
              case measure => omega
              case rel => exact ⟨k + 1, [], by go_num, by omega, HOa, HF2, by simp, HPa, HS⟩
          · have hpos : 0 < xs.length := List.length_pos_iff.2 hx0
            obtain ⟨g5, c5, hv5, hg5, _, hc5⟩ := HO.out.row (by simpa [strs] using hx0)
            rw [strs_len] at hv5 hc5
            simp only [Value.slice.injEq] at hv5
            obtain ⟨rfl, _, rfl⟩ := hv5
            have HT := Lib.hid (HO.out.take (xs.length - 1) (by rw [strs_len]; omega))
            rw [take_init] at HT
            have hdl : xs.dropLast.length = xs.length - 1 := List.length_dropLast
            have HST : Hid (∀ b, Value.ownBlock (.slice (some ⟨g5, 0, none⟩) (xs.length - 1) c) = some b → (b ≠ g2 ∧ w.heap.size ≤ b) ∨ w2.heap.size ≤ b) := HS
            rcases hlast with ⟨hl, hn⟩ | ⟨hl, hn⟩
            · rw [if_neg (by decide), if_pos hn, if_pos rfl] at HF2
              have he : ((k : Int) == (ls.length : Int) - 1) = true := by rw [beq_iff_eq]; omega
              go_wp2_with (first | (go_at_call 121; go_must (refine (ref3_dots t _ htz).mono ?_); rintro e w4 ⟨rfl, HB4⟩; rw [HD.out]; have HOa := Lib.hid (HO.out.bel HB4.out); have HPa := Lib.hid (HP.out.trans (BelP.of _ HB4.out)); have hba : w.heap.size ≤ w4.heap.size := Nat.le_trans HB.out.size HB4.out.size; have hcell4 := bel_cell HB4.out hcell; have HTa := Lib.hid (HT.out.bel HB4.out)) | (at_builtin; go_must (refine app_str_p (S := fun b => b ≠ g2 ∧ w.heap.size ≤ b) (w0 := w2) w.heap.size rfl _ _ (by exact rfl) _ (xs.dropLast) ⟨#[]⟩ (by exact rfl) (by exact rfl) HTa HPa HST hba (by simp; omega) ?_); intro v3 w5 HO3 HP3 HS3 hs3))
              go_roundg (gk - 1)
              case measure => omega
              case rel => exact ⟨k + 1, xs.dropLast ++ [[]], by go_num, by omega, HO3, HF2, by simp; omega, HP3, HS3⟩
            · rw [if_neg (by decide), if_neg hn, if_pos rfl] at HF2
              have he : ((k : Int) == (ls.length : Int) - 1) = false := by rw [beq_eq_false_iff_ne]; omega
              go_wp2_with (first | (go_at_call 121; go_must (refine (ref3_dots t _ htz).mono ?_); rintro e w4 ⟨rfl, HB4⟩; rw [HD.out]; have HOa := Lib.hid (HO.out.bel HB4.out); have HPa := Lib.hid (HP.out.trans (BelP.of _ HB4.out)); have hba : w.heap.size ≤ w4.heap.size := Nat.le_trans HB.out.size HB4.out.size; have hcell4 := bel_cell HB4.out hcell; have HTa := Lib.hid (HT.out.bel HB4.out)))
              go_roundg (gk - 1)
              case measure => omega
              case rel => exact ⟨k + 1, xs.dropLast, by go_num, by omega, HTa, HF2, by omega, HPa, HST⟩
        · have hz := q3 d1 d2
          rw [hz, if_pos rfl] at HF2
          clear q1 q2 q3
          have e1 : ((d : Int) == 1) = false := by rw [beq_eq_false_iff_ne]; omega
          have e2 : ((d : Int) == 2) = false := by rw [beq_eq_false_iff_ne]; omega
          go_wp2_with (first | (go_at_call 121; go_must (refine (ref3_dots t _ htz).mono ?_); rintro e w4 ⟨rfl, HB4⟩; rw [HD.out]; have HOa := Lib.hid (HO.out.bel HB4.out); have HPa := Lib.hid (HP.out.trans (BelP.of _ HB4.out)); have hba : w.heap.size ≤ w4.heap.size := Nat.le_trans HB.out.size HB4.out.size; have hcell4 := bel_cell HB4.out hcell) | (go_at_call 67; go_must (refine (ref1_pct t 5 _ htz).mono ?_); rintro e w6 ⟨⟨q, rfl, hq, _⟩, HB6⟩; have HOb := Lib.hid (HOa.out.bel HB6.out); have HPb := Lib.hid (HPa.out.trans (BelP.of _ HB6.out)); have hbb : w.heap.size ≤ w6.heap.size := Nat.le_trans hba HB6.out.size) | (at_builtin; go_must (refine app_str_p (S := fun b => b ≠ g2 ∧ w.heap.size ≤ b) (w0 := w2) w.heap.size rfl _ _ (by exact rfl) _ (xs) q (by exact rfl) (by exact rfl) HOb HPb HS hbb (by omega) ?_); intro v3 w5 HO3 HP3 HS3 hs3))
          go_roundg (gk - 1)
          case measure => omega
          case rel => exact ⟨k + 1, xs ++ [bl q], by go_num, by omega, HO3, by unfold Hid; rw [hq.out]; exact HF2.out, by simp; omega, HP3, HS3⟩
    · have hge : ¬ (k : Int) < ls.length := by omega
      have HX9 : Hid (xs = pathF hv ls) := by
        have := HF.out
        rw [List.drop_eq_nil_of_le (by omega), pathF] at this
        exact this
      go_wp2
      go_ret
      exact ⟨⟨_, rfl, by rw [HLS.out, ← HX9.out]; exact HO⟩, HB⟩
end Go.Proofs.YtbpkkgaaeodimaaGreatDoor
