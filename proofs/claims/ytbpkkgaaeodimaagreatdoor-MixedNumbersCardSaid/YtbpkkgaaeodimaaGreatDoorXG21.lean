import Derived.Test.YtbpkkgaaeodimaaGreatDoorXG20
import Derived.Test.YtbpkkgaaeodimaaGreatDoorXG15
import Derived.Test.YtbpkkgaaeodimaaGreatDoorXG11
import Derived.Test.YtbpkkgaaeodimaaGreatDoorXG12
import Derived.Test.YtbpkkgaaeodimaaGreatDoorXG02
import Derived.Test.YtbpkkgaaeodimaaGreatDoorXG14
import Derived.Laws.OwnMore
namespace Go.Proofs.YtbpkkgaaeodimaaGreatDoor
open Go.RowKit

/-! The document's reader, method by method. -/
theorem ref1_pct (s : ByteArray) (k : Int) (w : World) (hs : s.size ≤ 1000000) :
    Calls Tryz.prog 67 #[.string s, .int .i64 k] w fun e w' => (∃ t, e = .returned (.string t) ∧ Hid (bl t = percent k (bl s)) ∧ t.size ≤ 3 * s.size) ∧ Hid (Bel w w') := by
  refine (ref1_Percent s k w (by omega)).mono ?_
  rintro e w' ⟨⟨t, rfl, ht⟩, n, rfl⟩
  refine ⟨⟨t, rfl, ht, ?_⟩, bel_drewN _ n⟩
  have := percent_len k (bl s)
  rw [← ht.out, bl_length, bl_length] at this
  exact this
set_option maxHeartbeats 1000000 in
set_option maxRecDepth 100000 in
theorem ref3_split (g : Nat) (c : UrlC) (s : ByteArray) (w0 w : World) (hs : s.size ≤ 1000000) (HR : Hid (Rd w0 w g c [] w)) (h1 : c.hasFrag = false) (h2 : c.frag = ⟨#[]⟩) :
    Calls Tryz.prog 43 #[.pointer (some ⟨g, 0, none⟩), .string s] w fun e w' => ∃ r f, e = .returned (.string r) ∧ Hid (bl r = (segS 35 (bl s)).1) ∧ r.size ≤ s.size ∧ Hid (bl f = percent 2 (segS 35 (bl s)).2.1) ∧ Hid (Rd w0 w g { c with frag := f, hasFrag := (segS 35 (bl s)).2.2 } [] w') := by
  have HG : Hid ((segS 35 (bl s)).2.2 = false → percent 2 (segS 35 (bl s)).2.1 = []) := fun h => by
    have h : (bl s).contains 35 = false := h
    have : (segS 35 (bl s)).2.1 = [] := by
      unfold segS
      simp only []
      rw [(tw_all 35 (bl s) h).2]; rfl
    rw [this]; rfl
  go_enter Tryz.func43, Tryz.ntmps43
  go_wp2_with fail
  refine (ref1_Part s 35 _ hs).mono ?_
  rintro e w1 ⟨⟨a, b, rfl, ha, hb, haz, hbz⟩, HB1⟩
  have HR1 := Lib.hid (HR.out.step HB1.out)
  obtain ⟨_, _, _, _, _, _, _, _, _, ⟨c9, f9⟩, _, ⟨c11, f11⟩⟩ := HR1.out.cells
  obtain ⟨has, hhas⟩ : ∃ x, (segS 35 (bl s)).2.2 = x := ⟨_, rfl⟩
  have HH := Lib.hid hhas
  rw [hhas] at HG ⊢
  clear hhas
  cases has
  · go_wp2
    go_ret
    rw [HH.out]
    refine ⟨a, ⟨#[]⟩, rfl, ha, haz, ?_, ?_⟩
    · unfold Hid; rw [HG.out trivial]; rfl
    · have e : ({ c with frag := ⟨#[]⟩, hasFrag := false } : UrlC) = c := by cases c; simp only [] at h1 h2; rw [h1, h2]
      rw [e]; exact HR1
  · have HR2 := Lib.hid (HR1.out.put 11 (.bool true) (c' := { c with hasFrag := true }) (ext' := []) rfl)
    go_wp2_with fail
    refine (ref1_pct b 2 _ (by omega)).mono ?_
    rintro e w2 ⟨⟨t, rfl, ht, htz⟩, HB2⟩
    have HR3 := Lib.hid (HR2.out.step HB2.out)
    obtain ⟨_, _, _, _, _, _, _, _, _, ⟨d9, g9⟩, _, _⟩ := HR3.out.cells
    go_wp2
    go_ret
    rw [HH.out]
    exact ⟨a, t, rfl, ha, haz, by unfold Hid; rw [ht.out, hb.out], HR3.out.put 9 (.string t) rfl⟩
set_option maxHeartbeats 1000000 in
set_option maxRecDepth 100000 in
theorem ref3_query (g : Nat) (c : UrlC) (s : ByteArray) (w0 w : World) (hs : s.size ≤ 1000000) (HR : Hid (Rd w0 w g c [] w)) (h1 : c.hasQuery = false) (h2 : c.query = ⟨#[]⟩) :
    Calls Tryz.prog 77 #[.pointer (some ⟨g, 0, none⟩), .string s] w fun e w' => ∃ q, e = .returned (.tuple #[]) ∧ Hid (bl q = percent (setQ (bl c.scheme)) (segS 63 (bl s)).2.1) ∧ Hid (Rd w0 w g { c with query := q, hasQuery := (segS 63 (bl s)).2.2 } [] w') := by
  have HG : Hid ((segS 63 (bl s)).2.2 = false → percent (setQ (bl c.scheme)) (segS 63 (bl s)).2.1 = []) := fun h => (query_good (bl c.scheme) (bl s)).2 h
  have HQ : Hid (setQ (bl c.scheme) = if specialS (bl c.scheme) = true then 4 else 3) := rfl
  generalize hsp : specialS (bl c.scheme) = sp at *
  have HSP := Lib.hid hsp
  clear hsp
  go_enter Tryz.func77, Tryz.ntmps77
  go_wp2_with fail
  refine (ref1_Part s 63 _ hs).mono ?_
  rintro e w1 ⟨⟨a, b, rfl, ha, hb, haz, hbz⟩, HB1⟩
  have HR1 := Lib.hid (HR.out.step HB1.out)
  obtain ⟨_, _, _, _, _, _, _, _, _, _, ⟨c10, f10⟩, _⟩ := HR1.out.cells
  obtain ⟨has, hhas⟩ : ∃ x, (segS 63 (bl s)).2.2 = x := ⟨_, rfl⟩
  have HH := Lib.hid hhas
  rw [hhas] at HG ⊢
  clear hhas
  cases has
  · go_wp2
    first | go_end0 | refine bodyPost_ret (results_none rfl _ _ _) rfl ?_ | (simp only [Exit.inBlock, Exit.then]; refine bodyPost_ret (results_none rfl _ _ _) rfl ?_)
    rw [HH.out]
    refine ⟨⟨#[]⟩, rfl, ?_, ?_⟩
    · unfold Hid; rw [HG.out trivial]; rfl
    · have e : ({ c with query := ⟨#[]⟩, hasQuery := false } : UrlC) = c := by cases c; simp only [] at h1 h2; rw [h1, h2]
      rw [e]; exact HR1
  · have HR2 := Lib.hid (HR1.out.put 10 (.bool true) (c' := { c with hasQuery := true }) (ext' := []) rfl)
    obtain ⟨⟨d0, _⟩, _⟩ := HR2.out.cells
    cases sp
    all_goals
      go_wp2_with (first | (go_at_call 40; go_must (refine (ref3_Special _ _).mono ?_); rintro e w' ⟨rfl, rfl⟩; rw [HSP.out]))
      refine (ref1_pct b _ _ (by omega)).mono ?_
      rintro e w2 ⟨⟨t, rfl, ht, htz⟩, HB2⟩
      have HR3 := Lib.hid (HR2.out.step HB2.out)
      obtain ⟨_, _, _, _, _, _, _, _, ⟨d8, g8⟩, _, _, _⟩ := HR3.out.cells
      go_wp2
      go_end0
      rw [HH.out]
      exact ⟨t, rfl, by unfold Hid; rw [ht.out, hb.out, HQ.out]; rfl, HR3.out.put 8 (.string t) rfl⟩
end Go.Proofs.YtbpkkgaaeodimaaGreatDoor
namespace Go.Proofs.YtbpkkgaaeodimaaGreatDoor
open Go.RowKit

/-- The document's slashes, in place. -/
theorem slash_take (l : List UInt8) (x : UInt8) : ∀ a : List UInt8, (∀ y ∈ a, y ≠ 63) → slashS (a ++ x :: l) = slashS a ++ slashS (x :: l)
  | [], _ => rfl
  | y :: a, h => by
    have hy : ¬ y = 63 := h y List.mem_cons_self
    rw [List.cons_append, slashS, if_neg hy, slashS, if_neg hy, slash_take l x a (fun z hz => h z (List.mem_cons_of_mem _ hz))]; rfl
theorem slash_len1 : ∀ l, (slashS l).length = l.length
  | [] => rfl
  | x :: r => by
    rw [slashS]
    split
    · rfl
    · rw [List.length_cons, List.length_cons, slash_len1 r]
theorem slash_end : ∀ a : List UInt8, (∀ y ∈ a, y ≠ 63) → ∀ r, (r = [] ∨ r.head? = some 63) → slashS (a ++ r) = slashS a ++ r
  | [], _, r, h => by
    cases r with
    | nil => rfl
    | cons x t =>
      rcases h with h | h
      · cases h
      · have : x = 63 := by simpa using h
        rw [List.nil_append]; show slashS (x :: t) = x :: t; rw [slashS, if_pos this]
  | y :: a, h, r, hr => by
    have hy : ¬ y = 63 := h y List.mem_cons_self
    rw [List.cons_append, slashS, if_neg hy, slashS, if_neg hy, slash_end a (fun z hz => h z (List.mem_cons_of_mem _ hz)) r hr]; rfl
theorem slash_snoc (a : List UInt8) (h : ∀ y ∈ a, y ≠ 63) (x : UInt8) (hx : x ≠ 63) : slashS (a ++ [x]) = slashS a ++ [if x = 92 then 47 else x] := by
  rw [slash_take [] x a h, slashS, if_neg hx]; rfl
theorem u8_is (x : UInt8) (c : Nat) (hc : c < 256) : ((x.toNat : Int) == (c : Int)) = (x == UInt8.ofNat c) := by
  rw [Bool.eq_iff_iff, beq_iff_eq, beq_iff_eq]
  exact u8_eq x c hc
set_option maxHeartbeats 1000000 in
set_option maxRecDepth 100000 in
theorem ref3_slashes (s : ByteArray) (w : World) (hs : s.size ≤ 1000000) :
    Calls Tryz.prog 73 #[.string s] w fun e w' => (∃ t, e = .returned (.string t) ∧ Hid (bl t = slashS (bl s)) ∧ t.size = s.size) ∧ Hid (Bel w w') := by
  have kb := fun W => Lib.run_convert_string_bytes W 9 43 5 s Tryz.underlying9 Tryz.underlying43 Tryz.underlying5
  go_enter Tryz.func73, Tryz.ntmps73
  go_wp2
  have hb := bel_bytes w 5 s
  have hr := RowAt.bytes w 5 s
  go_loopg [4] s.size (fun g v4 wr => ∃ k : Nat, v4 = .int .i64 k ∧ k + g = s.size ∧ Hid (∀ y ∈ (bl s).take k, y ≠ 63) ∧ Hid (RowAt wr w.heap.size ((slashS ((bl s).take k) ++ (bl s).drop k).map u8v)) ∧ Hid (Bel w wr))
  case atStart => exact ⟨0, rfl, by omega, fun y hy => by simp at hy, hr, hb⟩
  case round =>
    obtain ⟨k, rfl, hk, HN, HR, HB⟩ := hrel
    clear hr hb
    have hkk : k ≤ s.size := by omega
    have hcv : (k = s.size ∨ ∃ h : k < s.size, s[k] = 63) → ∀ c, (convert 43 9 (.slice (some ⟨w.heap.size, 0, none⟩) s.size c)).run Tryz.prog wr = .ok (.string ⟨(slashS (bl s)).toArray⟩) wr := fun hd c => by
      have hl : (bl s) = (bl s).take k ++ (bl s).drop k := (List.take_append_drop k (bl s)).symm
      have he : slashS ((bl s).take k) ++ (bl s).drop k = slashS (bl s) := by
        conv => rhs; rw [hl]
        refine (slash_end _ HN.out _ ?_).symm
        rcases hd with hd | ⟨h, hd⟩
        · left; exact bl_drop_end s k (by omega)
        · right; rw [bl_drop s k h, hd]; rfl
      have := HR.out
      rw [he] at this
      exact row_string Tryz.underlying43 Tryz.underlying5 Tryz.underlying9 this _ (by rw [slash_len1, bl_length])
    have HCV := Lib.hid hcv
    clear hcv
    by_cases hlt : k < s.size
    · have hg : ((slashS ((bl s).take k) ++ (bl s).drop k).map u8v)[k]? = some (.int .u8 s[k].toNat) := by
        rw [List.getElem?_map, List.getElem?_append_right (by rw [slash_len1, List.length_take]; omega), slash_len1, List.length_take, bl_length, Nat.min_eq_left hkk, Nat.sub_self, bl_drop s k hlt]; rfl
      have hc := (HR.out.2 k _ hg).1
      have hf := (HR.out.2 k _ hg).2
      have hS : ∀ v : UInt8, ((slashS ((bl s).take k) ++ (bl s).drop k).map u8v).set k (u8v v) = (slashS ((bl s).take k) ++ [v] ++ (bl s).drop (k + 1)).map u8v := by
        intro v
        rw [← List.map_set, List.set_append_right _ _ (by rw [slash_len1, List.length_take]; omega)]
        rw [slash_len1, List.length_take, bl_length, Nat.min_eq_left hkk, Nat.sub_self]
        rw [bl_drop s k hlt, List.set_cons_zero]
        simp
      have HS := Lib.hid hS
      have HG := Lib.hid hg
      clear hg hS
      by_cases h63 : s[k] = 63
      · have hq : ((s[k].toNat : Int) != 63) = false := by rw [h63]; rfl
        have hcv := HCV.out (.inr ⟨hlt, h63⟩)
        go_wp2
        go_ret
        exact ⟨⟨_, rfl, by unfold Hid; rw [bl_mk], by rw [← bl_length, bl_mk, slash_len1, bl_length]⟩, HB⟩
      · have hq : ((s[k].toNat : Int) != 63) = true := by
          have := u8_is s[k] 63 (by decide)
          have h2 : (s[k] == UInt8.ofNat 63) = false := by simpa using h63
          rw [h2] at this
          unfold bne; rw [show ((s[k].toNat : Int) == 63) = false from this]; rfl
        have hN2 : Hid (∀ y ∈ (bl s).take (k + 1), y ≠ 63) := by
          intro y hy
          rw [bl_take s k hlt, List.mem_append, List.mem_singleton] at hy
          rcases hy with hy | hy
          · exact HN.out y hy
          · rw [hy]; exact h63
        have hT := Lib.hid (slash_snoc ((bl s).take k) HN.out s[k] h63)
        by_cases h92 : s[k] = 92
        · have h92' : (s[k].toNat : Int) = 92 := by rw [h92]; rfl
          have hq2 : ((s[k].toNat : Int) == 92) = true := by rw [h92]; rfl
          go_wp2
          go_roundg (gk - 1)
          case measure => omega
          case rel =>
            refine ⟨k + 1, by go_num, by omega, hN2, ?_, HB.out.setCell (Nat.le_refl _) _⟩
            have := HR.out.set k (u8v 47)
            rw [HS.out] at this
            unfold Hid
            rw [bl_take s k hlt, hT.out, if_pos h92]
            exact this
        · have hq2 : ((s[k].toNat : Int) == 92) = false := by
            have := u8_is s[k] 92 (by decide)
            have h2 : (s[k] == UInt8.ofNat 92) = false := by simpa using h92
            rw [h2] at this
            exact this
          go_wp2
          go_roundg (gk - 1)
          case measure => omega
          case rel =>
            refine ⟨k + 1, by go_num, by omega, hN2, ?_, HB⟩
            unfold Hid
            rw [bl_take s k hlt, hT.out, if_neg h92, ← HS.out, show u8v s[k] = .int .u8 s[k].toNat from rfl, list_set_same HG.out]
            exact HR
    · have hcv := HCV.out (.inl (by omega))
      have hge : ¬ (k : Int) < s.size := by omega
      go_wp2
      go_ret
      exact ⟨⟨_, rfl, by unfold Hid; rw [bl_mk], by rw [← bl_length, bl_mk, slash_len1, bl_length]⟩, HB⟩
end Go.Proofs.YtbpkkgaaeodimaaGreatDoor
namespace Go.Proofs.YtbpkkgaaeodimaaGreatDoor
open Go.RowKit

/-- A row of texts that may be read; nil is let in. -/
def ReadP (w : World) (x : Value) (hv : List (List UInt8)) : Prop := (x = .slice none 0 0 ∧ hv = []) ∨ ∃ g c, x = .slice (some ⟨g, 0, none⟩) hv.length c ∧ hv.length ≤ c ∧ RdAt w g (strs hv)
theorem ReadP.bel {w w' : World} {x : Value} {hv : List (List UInt8)} (h : ReadP w x hv) (hb : Bel w w') : ReadP w' x hv := by
  rcases h with h | ⟨g, c, h1, h2, h3⟩
  · exact .inl h
  · exact .inr ⟨g, c, h1, h2, h3.bel hb⟩
theorem ReadP.of {w : World} {base : Nat} {v : Value} {p : List (List UInt8)} (h : Own w base 9 v (strs p)) : ReadP w v p := by
  by_cases h0 : strs p = []
  · have hp : p = [] := by simpa [strs] using h0
    rcases h.2 with ⟨hv, hn⟩ | ⟨g, cap, cur, hv, hb, hh, hn, _⟩
    · exact .inl ⟨hv, hp⟩
    · rw [h0] at hv hn
      subst hp
      refine .inr ⟨g, cap, hv, by simp, (Array.getElem?_eq_some_iff.1 hh).1, fun k u hu => by simp [strs] at hu⟩
  · obtain ⟨g, c, hv, _, hr, hc⟩ := h.row h0
    rw [strs_len] at hv hc
    exact .inr ⟨g, c, hv, hc, hr.rd⟩
theorem strs_one (p : List (List UInt8)) : ∀ y ∈ strs p, y.oneCell' = true := by
  intro y hy
  unfold strs at hy
  obtain ⟨x, _, rfl⟩ := List.mem_map.1 hy
  rfl
theorem strs_app (a b : List (List UInt8)) : strs (a ++ b) = strs a ++ strs b := by simp [strs]
theorem Own.zero (w : World) (base : Nat) (hb : base ≤ w.heap.size) : Own (w.alloc (.cells #[] 9)) base 9 (.slice (some ⟨w.heap.size, 0, none⟩) 0 0) (strs []) :=
  World.ownsRow_lit w #[] 0 hb (by decide) rfl
theorem Own.shapeS {w : World} {base : Nat} {e : TypeId} {v : Value} {xs : List (List UInt8)} (h : Own w base e v (strs xs)) : ∃ A c, v = .slice A xs.length c := by
  obtain ⟨A, c, e⟩ := h.shape
  exact ⟨A, c, by rw [e, strs_len]⟩
theorem Own.lt {w : World} {base : Nat} {e : TypeId} {v : Value} {xs : List Value} (h : Own w base e v xs) (k : Nat) (hk : v.ownBlock = some k) : k < w.heap.size := by
  rcases h.2 with ⟨rfl, _⟩ | ⟨g, cap, cur, rfl, _, hh, _⟩
  · simp [Value.ownBlock] at hk
  · have : g = k := by simpa [Value.ownBlock] using hk
    have := (Array.getElem?_eq_some_iff.1 hh).1
    omega
section
variable {ops : Array Oper} {Q : Exit → Act → World → Prop} {a : Act} {rest : List Oper} {o : Oper}
/-- append(own row, a row that is read...). -/
theorem app_read {w0 W : World} (base : Nat) (hgd : o.guard = none) (s x : Operand)
    (ho : o.op = .call { callee := .builtin .append, args := #[s, x], argTypes := #[22, 22] })
    (v xv : Value) (xs ys : List (List UInt8)) (hs : a.eval s = v) (hx : a.eval x = xv)
    (HX : Hid (ReadP W xv ys)) (HO : Hid (Own W base 9 v (strs xs))) (HB : Hid (Below base w0 W)) (hbase : base ≤ W.heap.size) (hl : xs.length + ys.length ≤ 4398046511104)
    (h : ∀ v1 w1, Hid (Own w1 base 9 v1 (strs (xs ++ ys))) → Hid (Below base w0 w1) → W.heap.size ≤ w1.heap.size → wpList Tryz.prog ops Q rest (a.put o.dst v1) w1) :
    wpList Tryz.prog ops Q (o :: rest) a W := by
  rcases HX.out with ⟨rfl, rfl⟩ | ⟨g, c, rfl, hc, hr⟩
  · refine wpList_plain hgd fun _ hK => ?_
    obtain ⟨i, hi, hz⟩ := Option.map_eq_some_iff.1 info9
    simp only [Prod.mk.injEq] at hz
    have hrun := run_append_owned_none (P := Tryz.prog) W base 22 o.type 9 i 1 Tryz.underlying22 hi v (strs xs).length (strs xs) HO.out
    unfold Oper.wp execOp
    simp only [ho, resolve, invoke, builtin, Sem.run_bind, Sem.run_pure, Result.andThen_ok, List.map_toArray, List.map_cons, List.map_nil, hs, hx, hrun]
    exact hK _ _ (h v W (by rw [List.append_nil]; exact HO) HB (Nat.le_refl _))
  · refine app_strs base hgd s x ho v (strs xs) (strs ys) ⟨g, 0, none⟩ ys.length c (strs_len ys).symm hs hx (fun j u hj => ?_) (strs_one ys) HO HB hbase (by rw [strs_len, strs_len]; exact hl) (fun v1 w1 h1 h2 h3 => h v1 w1 (by rw [strs_app]; exact h1) h2 h3)
    rw [show (⟨g, 0, none⟩ : Addr).add j = ⟨g, j, none⟩ by unfold Addr.add; split <;> simp_all]
    exact hr.2 j u hj
end
theorem cut_mem_le (c : Int) {x : List UInt8} : ∀ (l acc : List UInt8), x ∈ cutS c acc l → x.length ≤ acc.length + l.length
  | [], acc, h => by simp [cutS] at h; rw [h]; simp
  | y :: r, acc, h => by
    rw [cutS] at h
    split at h
    · rcases List.mem_cons.1 h with h | h
      · rw [h]; simp
      · have := cut_mem_le c r [] h
        simp at this ⊢; omega
    · have := cut_mem_le c r _ h
      simp at this ⊢; omega
theorem dots_d {x : List UInt8} {d : Nat} (h : (dotN x).getD 0 = d) : (d = 1 → dotsS x = 1) ∧ (d = 2 → dotsS x = 2) ∧ (d ≠ 1 → d ≠ 2 → dotsS x = 0) := by
  unfold dotsS
  cases hn : dotN x with
  | none =>
    rw [hn] at h
    simp at h
    exact ⟨fun e => by omega, fun e => by omega, fun _ _ => rfl⟩
  | some n =>
    rw [hn] at h
    simp at h
    subst h
    refine ⟨fun e => by subst e; rfl, fun e => by subst e; rfl, fun h1 h2 => ?_⟩
    match n, h1, h2 with
    | 0, _, _ => rfl
    | 1, h1, _ => exact absurd rfl h1
    | 2, _, h2 => exact absurd rfl h2
    | n + 3, _, _ => rfl
theorem path_step {xs : List (List UInt8)} {x : List UInt8} {r : List (List UInt8)} : pathF xs (x :: r) = pathF (if dotsS x = 0 then xs ++ [percent 5 x] else if r = [] then (if dotsS x = 2 then xs.dropLast else xs) ++ [[]] else (if dotsS x = 2 then xs.dropLast else xs)) r := by rw [pathF]
theorem drop_next {l : List (List UInt8)} {k : Nat} {x : List UInt8} (h : l[k]? = some x) : l.drop k = x :: l.drop (k + 1) := by
  obtain ⟨hk, e⟩ := List.getElem?_eq_some_iff.1 h
  rw [List.drop_eq_getElem_cons hk, e]
theorem take_init {xs : List (List UInt8)} : (strs xs).take (xs.length - 1) = strs xs.dropLast := by
  unfold strs
  rw [List.dropLast_eq_take, List.map_take]
set_option maxHeartbeats 4000000 in
set_option maxRecDepth 100000 in
theorem ref3_path (xv : Value) (hv : List (List UInt8)) (s : ByteArray) (w : World) (hs : s.size ≤ 1000000) (hh : hv.length ≤ 1000000) (HX : Hid (ReadP w xv hv)) :
    Calls Tryz.prog 90 #[xv, .string s] w fun e w' => (∃ v, e = .returned v ∧ Hid (Own w' w.heap.size 9 v (strs (pathF hv (cutS 47 [] (bl s)))))) ∧ Hid (Bel w w') := by
  have HX0 := Lib.hid (HX.out.bel ((Below.refl _ w).alloc (Nat.le_refl _) (.cells #[] 9)))
  have HO0 := Lib.hid (Own.zero w w.heap.size (Nat.le_refl _))
  have HB0 : Hid (Below w.heap.size w (w.alloc (.cells #[] 9))) := (Below.refl _ w).alloc (Nat.le_refl _) _
  have hsz : w.heap.size ≤ (w.alloc (.cells #[] 9)).heap.size := by simp
  go_enter Tryz.func90, Tryz.ntmps90
  go_wp2_with (first | (at_builtin; go_must (refine app_read (w0 := w) w.heap.size rfl _ _ (by exact rfl) _ xv [] hv (by exact rfl) (by exact rfl) HX0 HO0 HB0 hsz (by simp; omega) ?_); intro v1 w1 HO1 HB1 hs1; obtain ⟨A1, c1, rfl⟩ := HO1.out.shapeS) | (go_at_call 120; go_must (refine (ref1_Cut s 47 _ (by omega)).mono ?_); rintro e w2 ⟨⟨v2, rfl, HO2⟩, HB2⟩; obtain ⟨g2, c2, rfl, hg2, hr2, hc2⟩ := HO2.out.row (by simp [strs]; exact cutS_ne 47 _ _)))
  rw [strs_len] at hc2
  have HO3 := Lib.hid (HO1.out.bel HB2.out)
  have HS3 : Hid (∀ b, Value.ownBlock (.slice A1 ([] ++ hv).length c1) = some b → (b ≠ g2 ∧ w.heap.size ≤ b) ∨ w2.heap.size ≤ b) := fun b hb => by
    have h1 := HO1.out.lt b hb
    exact .inl ⟨by omega, HO1.out.base b hb⟩
  have HBw := Lib.hid (bel_next HB1.out (Nat.le_trans hsz hs1) HB2.out)
  have hlen := cutS_len 47 (bl s) []
  rw [bl_length] at hlen
  have hml := fun x (h : x ∈ cutS 47 [] (bl s)) => cut_mem_le 47 (bl s) [] h
  have HR2 := Lib.hid hr2.rd
  clear hr2 HO2
  generalize hls : cutS 47 [] (bl s) = ls at *
  have HLS := Lib.hid hls
  have HML := Lib.hid hml
  clear hml hls
  rw [strs_len] at *
  rw [List.nil_append] at *
  go_loopg [5, 7] ls.length (fun g v5 v7 wr => ∃ (k : Nat) (xs : List (List UInt8)), v7 = .int .i64 k ∧ k + g = ls.length ∧ Hid (Own wr w.heap.size 9 v5 (strs xs)) ∧ Hid (pathF xs (ls.drop k) = pathF hv ls) ∧ xs.length ≤ hv.length + k ∧ Hid (BelP (fun b => b ≠ g2 ∧ w.heap.size ≤ b) w2 wr) ∧ Hid (∀ b, v5.ownBlock = some b → (b ≠ g2 ∧ w.heap.size ≤ b) ∨ w2.heap.size ≤ b))
  case atStart => exact ⟨0, hv, rfl, by omega, HO3, by unfold Hid; rw [List.drop_zero], by omega, BelP.refl _ _, HS3⟩
  case round =>
    obtain ⟨k, xs, rfl, hk, HO, HF, hxl, HP, HS⟩ := hrel
    have HB : Hid (Bel w wr) := BelP.bel HBw.out (fun b hb => hb.2) HP.out
    obtain ⟨A, c, rfl⟩ := HO.out.shapeS
    by_cases hlt : k < ls.length
    · obtain ⟨t, ht⟩ : ∃ t, ls[k]? = some (bl t) := ⟨⟨ls[k].toArray⟩, by rw [bl_mk, List.getElem?_eq_getElem hlt]⟩
      have htz : t.size ≤ 1000000 := by
        have := HML.out _ (List.mem_of_getElem? ht)
        rw [bl_length, bl_length, List.length_nil] at this
        omega
      have hcell : wr.cell? ⟨g2, k, none⟩ = some (.string t) := HP.out.cell (fun h => h.1 rfl) (strs_cell HR2.out ht)
      have HF2 : Hid (pathF (if dotsS (bl t) = 0 then xs ++ [percent 5 (bl t)] else if ls.drop (k + 1) = [] then (if dotsS (bl t) = 2 then xs.dropLast else xs) ++ [[]] else (if dotsS (bl t) = 2 then xs.dropLast else xs)) (ls.drop (k + 1)) = pathF hv ls) := by
        have := HF.out
        rw [drop_next ht, path_step] at this
        exact this
      have hlast : (k + 1 = ls.length ∧ ls.drop (k + 1) = []) ∨ (k + 1 < ls.length ∧ ls.drop (k + 1) ≠ []) := by
        rcases Nat.lt_or_ge (k + 1) ls.length with h | h
        · exact .inr ⟨h, fun e => by have := List.drop_eq_nil_iff.1 e; omega⟩
        · exact .inl ⟨by omega, List.drop_eq_nil_of_le h⟩
      clear HF
      obtain ⟨d, hd⟩ : ∃ d, (dotN (bl t)).getD 0 = d := ⟨_, rfl⟩
      obtain ⟨q1, q2, q3⟩ := dots_d hd
      have HD : Hid (((((dotN (bl t)).getD 0 : Nat) : Int)) = (d : Int)) := by unfold Hid; rw [hd]
      clear hd
      by_cases d1 : d = 1
      · subst d1
        have hz := q1 rfl
        rw [hz] at HF2
        clear q1 q2 q3
        replace HD : Hid (((((dotN (bl t)).getD 0 : Nat) : Int)) = 1) := HD
        rcases hlast with ⟨hl, hn⟩ | ⟨hl, hn⟩
        · rw [if_neg (by decide), if_pos hn, if_neg (by decide)] at HF2
          have he : ((k : Int) == (ls.length : Int) - 1) = true := by rw [beq_iff_eq]; omega
          go_wp2_with (first | (go_at_call 121; go_must (refine (ref3_dots t _ htz).mono ?_); rintro e w4 ⟨rfl, HB4⟩; rw [HD.out]; have HOa := Lib.hid (HO.out.bel HB4.out); have HPa := Lib.hid (HP.out.trans (BelP.of _ HB4.out)); have hba : w.heap.size ≤ w4.heap.size := Nat.le_trans HB.out.size HB4.out.size; have hcell4 := bel_cell HB4.out hcell) | (at_builtin; go_must (refine app_str_p (S := fun b => b ≠ g2 ∧ w.heap.size ≤ b) (w0 := w2) w.heap.size rfl _ _ (by exact rfl) _ (xs) ⟨#[]⟩ (by exact rfl) (by exact rfl) HOa HPa HS hba (by omega) ?_); intro v3 w5 HO3 HP3 HS3 hs3))
          go_roundg (gk - 1)
          case measure => omega
          case rel => exact ⟨k + 1, xs ++ [[]], by go_num, by omega, HO3, HF2, by simp; omega, HP3, HS3⟩
        · rw [if_neg (by decide), if_neg hn, if_neg (by decide)] at HF2
          have he : ((k : Int) == (ls.length : Int) - 1) = false := by rw [beq_eq_false_iff_ne]; omega
          go_wp2_with (first | (go_at_call 121; go_must (refine (ref3_dots t _ htz).mono ?_); rintro e w4 ⟨rfl, HB4⟩; rw [HD.out]; have HOa := Lib.hid (HO.out.bel HB4.out); have HPa := Lib.hid (HP.out.trans (BelP.of _ HB4.out)); have hba : w.heap.size ≤ w4.heap.size := Nat.le_trans HB.out.size HB4.out.size; have hcell4 := bel_cell HB4.out hcell))
          go_roundg (gk - 1)
          case measure => omega
          case rel => exact ⟨k + 1, xs, by go_num, by omega, HOa, HF2, by omega, HPa, HS⟩
      · by_cases d2 : d = 2
        · subst d2
          have hz := q2 rfl
          rw [hz] at HF2
          clear q1 q2 q3
          replace HD : Hid (((((dotN (bl t)).getD 0 : Nat) : Int)) = 2) := HD
          by_cases hx0 : xs = []
          · subst hx0
            rcases hlast with ⟨hl, hn⟩ | ⟨hl, hn⟩
            · rw [if_neg (by decide), if_pos hn, if_pos rfl] at HF2
              have he : ((k : Int) == (ls.length : Int) - 1) = true := by rw [beq_iff_eq]; omega
              go_wp2_with (first | (go_at_call 121; go_must (refine (ref3_dots t _ htz).mono ?_); rintro e w4 ⟨rfl, HB4⟩; rw [HD.out]; have HOa := Lib.hid (HO.out.bel HB4.out); have HPa := Lib.hid (HP.out.trans (BelP.of _ HB4.out)); have hba : w.heap.size ≤ w4.heap.size := Nat.le_trans HB.out.size HB4.out.size; have hcell4 := bel_cell HB4.out hcell) | (at_builtin; go_must (refine app_str_p (S := fun b => b ≠ g2 ∧ w.heap.size ≤ b) (w0 := w2) w.heap.size rfl _ _ (by exact rfl) _ ([]) ⟨#[]⟩ (by exact rfl) (by exact rfl) HOa HPa HS hba (by simp) ?_); intro v3 w5 HO3 HP3 HS3 hs3))
              go_roundg (gk - 1)
              case measure => omega
              case rel => exact ⟨k + 1, [] ++ [[]], by go_num, by omega, HO3, HF2, by simp; omega, HP3, HS3⟩
            · rw [if_neg (by decide), if_neg hn, if_pos rfl] at HF2
              have he : ((k : Int) == (ls.length : Int) - 1) = false := by rw [beq_eq_false_iff_ne]; omega
              go_wp2_with (first | (go_at_call 121; go_must (refine (ref3_dots t _ htz).mono ?_); rintro e w4 ⟨rfl, HB4⟩; rw [HD.out]; have HOa := Lib.hid (HO.out.bel HB4.out); have HPa := Lib.hid (HP.out.trans (BelP.of _ HB4.out)); have hba : w.heap.size ≤ w4.heap.size := Nat.le_trans HB.out.size HB4.out.size; have hcell4 := bel_cell HB4.out hcell))
              go_roundg (gk - 1)
              case measure => omega
              case rel => exact ⟨k + 1, [], by go_num, by omega, HOa, HF2, by simp, HPa, HS⟩
          · have hpos : 0 < xs.length := List.length_pos_iff.2 hx0
            obtain ⟨g5, c5, hv5, hg5, _, hc5⟩ := HO.out.row (by simpa [strs] using hx0)
            rw [strs_len] at hv5 hc5
            simp only [Value.slice.injEq] at hv5
            obtain ⟨rfl, _, rfl⟩ := hv5
            have HT := Lib.hid (HO.out.take (xs.length - 1) (by rw [strs_len]; omega))
            rw [take_init] at HT
            have hdl : xs.dropLast.length = xs.length - 1 := List.length_dropLast
            have HST : Hid (∀ b, Value.ownBlock (.slice (some ⟨g5, 0, none⟩) (xs.length - 1) c) = some b → (b ≠ g2 ∧ w.heap.size ≤ b) ∨ w2.heap.size ≤ b) := HS
            rcases hlast with ⟨hl, hn⟩ | ⟨hl, hn⟩
            · rw [if_neg (by decide), if_pos hn, if_pos rfl] at HF2
              have he : ((k : Int) == (ls.length : Int) - 1) = true := by rw [beq_iff_eq]; omega
              go_wp2_with (first | (go_at_call 121; go_must (refine (ref3_dots t _ htz).mono ?_); rintro e w4 ⟨rfl, HB4⟩; rw [HD.out]; have HOa := Lib.hid (HO.out.bel HB4.out); have HPa := Lib.hid (HP.out.trans (BelP.of _ HB4.out)); have hba : w.heap.size ≤ w4.heap.size := Nat.le_trans HB.out.size HB4.out.size; have hcell4 := bel_cell HB4.out hcell; have HTa := Lib.hid (HT.out.bel HB4.out)) | (at_builtin; go_must (refine app_str_p (S := fun b => b ≠ g2 ∧ w.heap.size ≤ b) (w0 := w2) w.heap.size rfl _ _ (by exact rfl) _ (xs.dropLast) ⟨#[]⟩ (by exact rfl) (by exact rfl) HTa HPa HST hba (by simp; omega) ?_); intro v3 w5 HO3 HP3 HS3 hs3))
              go_roundg (gk - 1)
              case measure => omega
              case rel => exact ⟨k + 1, xs.dropLast ++ [[]], by go_num, by omega, HO3, HF2, by simp; omega, HP3, HS3⟩
            · rw [if_neg (by decide), if_neg hn, if_pos rfl] at HF2
              have he : ((k : Int) == (ls.length : Int) - 1) = false := by rw [beq_eq_false_iff_ne]; omega
              go_wp2_with (first | (go_at_call 121; go_must (refine (ref3_dots t _ htz).mono ?_); rintro e w4 ⟨rfl, HB4⟩; rw [HD.out]; have HOa := Lib.hid (HO.out.bel HB4.out); have HPa := Lib.hid (HP.out.trans (BelP.of _ HB4.out)); have hba : w.heap.size ≤ w4.heap.size := Nat.le_trans HB.out.size HB4.out.size; have hcell4 := bel_cell HB4.out hcell; have HTa := Lib.hid (HT.out.bel HB4.out)))
              go_roundg (gk - 1)
              case measure => omega
              case rel => exact ⟨k + 1, xs.dropLast, by go_num, by omega, HTa, HF2, by omega, HPa, HST⟩
        · have hz := q3 d1 d2
          rw [hz, if_pos rfl] at HF2
          clear q1 q2 q3
          have e1 : ((d : Int) == 1) = false := by rw [beq_eq_false_iff_ne]; omega
          have e2 : ((d : Int) == 2) = false := by rw [beq_eq_false_iff_ne]; omega
          go_wp2_with (first | (go_at_call 121; go_must (refine (ref3_dots t _ htz).mono ?_); rintro e w4 ⟨rfl, HB4⟩; rw [HD.out]; have HOa := Lib.hid (HO.out.bel HB4.out); have HPa := Lib.hid (HP.out.trans (BelP.of _ HB4.out)); have hba : w.heap.size ≤ w4.heap.size := Nat.le_trans HB.out.size HB4.out.size; have hcell4 := bel_cell HB4.out hcell) | (go_at_call 67; go_must (refine (ref1_pct t 5 _ htz).mono ?_); rintro e w6 ⟨⟨q, rfl, hq, _⟩, HB6⟩; have HOb := Lib.hid (HOa.out.bel HB6.out); have HPb := Lib.hid (HPa.out.trans (BelP.of _ HB6.out)); have hbb : w.heap.size ≤ w6.heap.size := Nat.le_trans hba HB6.out.size) | (at_builtin; go_must (refine app_str_p (S := fun b => b ≠ g2 ∧ w.heap.size ≤ b) (w0 := w2) w.heap.size rfl _ _ (by exact rfl) _ (xs) q (by exact rfl) (by exact rfl) HOb HPb HS hbb (by omega) ?_); intro v3 w5 HO3 HP3 HS3 hs3))
          go_roundg (gk - 1)
          case measure => omega
          case rel => exact ⟨k + 1, xs ++ [bl q], by go_num, by omega, HO3, by unfold Hid; rw [hq.out]; exact HF2.out, by simp; omega, HP3, HS3⟩
    · have hge : ¬ (k : Int) < ls.length := by omega
      have HX9 : Hid (xs = pathF hv ls) := by
        have := HF.out
        rw [List.drop_eq_nil_of_le (by omega), pathF] at this
        exact this
      go_wp2
      go_ret
      exact ⟨⟨_, rfl, by rw [HLS.out, ← HX9.out]; exact HO⟩, HB⟩
end Go.Proofs.YtbpkkgaaeodimaaGreatDoor
