import Derived.Test.YtpgehhnmlihnbaaGreatDoorXByte
namespace Go.Proofs.YtpgehhnmlihnbaaGreatDoor
open Go.RowKit

theorem wrap_small (n : Nat) (h : n < 9223372036854775808) : IntKind.i64.wrap (n : Int) = (n : Int) := by
  have e : (n : Int) % 2 ^ 64 = n := Int.emod_eq_of_lt (by omega) (by omega)
  simp only [IntKind.wrap, IntKind.bits, IntKind.signed, e]
  rw [if_neg]
  simp
  omega
theorem or_i64 (a d : Nat) (ha : a < 1099511627776) (hd : d ≤ 255) : Go.bits .or .i64 ((a * 256 : Nat) : Int) (d : Int) = ((a * 256 + d : Nat) : Int) := by
  show IntKind.i64.wrap ((BitVec.ofInt 64 ((a * 256 : Nat) : Int) ||| BitVec.ofInt 64 (d : Int)).toNat : Int) = _
  have h1 : (BitVec.ofInt 64 ((a * 256 : Nat) : Int)).toNat = a * 256 := by
    rw [BitVec.ofInt_natCast, BitVec.toNat_ofNat]; exact Nat.mod_eq_of_lt (by omega)
  have h2 : (BitVec.ofInt 64 (d : Int)).toNat = d := by
    rw [BitVec.ofInt_natCast, BitVec.toNat_ofNat]; exact Nat.mod_eq_of_lt (by omega)
  have h3 : a * 256 ||| d = a * 256 + d := by
    have := Nat.shiftLeft_add_eq_or_of_lt (i := 8) (b := d) (by omega) a
    rw [Nat.shiftLeft_eq] at this
    exact this.symm
  rw [BitVec.toNat_or, h1, h2, h3]
  exact wrap_small _ (by omega)
theorem mul_i64 (a : Nat) (ha : a < 1099511627776) : IntKind.i64.wrap ((a : Int) * 256) = ((a * 256 : Nat) : Int) := by
  rw [show ((a : Int) * 256) = ((a * 256 : Nat) : Int) from (Int.natCast_mul a 256).symm]
  exact wrap_small _ (by omega)
/-- A row of 16-bit numbers. -/
def u16s (l : List Nat) : List Value := l.map fun (n : Nat) => Value.int .u16 (n : Int)
/-- A row that can be read: from nil on. -/
def IsRow (w : World) (base : Nat) (v : Value) (l : List Nat) : Prop := Hid (Own w base 26 v (u16s l))
def dotted_post (w w' : World) (e : Ending) (o : Option (List Nat)) : Prop := ∃ v, e = .returned (.tuple #[v, .bool o.isSome]) ∧ match o with
  | none => v = .slice none 0 0
  | some l => ∃ g c, v = .slice (some ⟨g, 0, none⟩) l.length c ∧ l.length ≤ c ∧ w.heap.size ≤ g ∧ RdAt w' g (u16s l)
theorem cut_mem_len {c : Int} {l x : List UInt8} (h : x ∈ cutS c [] l) : x.length ≤ l.length := by
  have key : ∀ (m acc : List UInt8), x ∈ cutS c acc m → x.length ≤ acc.length + m.length := by
    intro m
    induction m with
    | nil => intro acc h; simp [cutS] at h; subst h; simp
    | cons a r ih =>
      intro acc h
      unfold cutS at h
      split at h
      · rcases List.mem_cons.1 h with h | h
        · subst h; simp
        · have := ih [] h; simp at this ⊢; omega
      · have := ih _ h; simp at this ⊢; omega
  simpa using key l [] h
theorem dotted_no {w w' : World} {o : Option (List Nat)} (h : o = none) : dotted_post w w' (.returned (.tuple #[.slice none 0 0, .bool false])) o := by
  subst h; exact ⟨_, rfl, rfl⟩
theorem dotted_yes {w W : World} {o : Option (List Nat)} {n : Nat} {x y : Int} (h : o = some [n / 65536, n % 65536]) (hx : x = (n : Int) / 65536) (hy : y = IntKind.u16.wrap n) (hb : w.heap.size ≤ W.heap.size) :
    dotted_post w (W.alloc (.cells #[.int .u16 x, .int .u16 y] 26)) (.returned (.tuple #[.slice (some ⟨W.heap.size, 0, none⟩) 2 2, .bool true])) o := by
  subst h hx hy
  refine ⟨_, rfl, W.heap.size, 2, rfl, Nat.le_refl _, hb, ?_⟩
  have := RdAt.alloc W (u16s [n / 65536, n % 65536]) 26
  rw [IntKind.wrap_u16]
  simpa [u16s] using this
set_option maxHeartbeats 4000000 in
set_option maxRecDepth 100000 in
theorem host_dotted (s : ByteArray) (w : World) (hs : s.size ≤ 1000000) (HE : Hid (Env w)) :
    Calls Tryz.prog 65 #[.string s] w fun e w' => dotted_post w w' e (dottedS (bl s)) ∧ Hid (Bel w w') := by
  go_enter Tryz.func65, Tryz.ntmps65
  go_wp2_with fail
  refine (host_Split 46 s _ hs HE).mono ?_
  rintro e w1 ⟨⟨g, c, rfl, hc, hR⟩, HB1⟩
  try rw [show ((46 : UInt8).toNat : Int) = 46 from rfl] at *
  have HL : Hid (∀ x, x ∈ cutS 46 [] (bl s) → x.length ≤ s.size) := fun x hx => by have := cut_mem_len hx; rw [bl_length] at this; exact this
  have HS : Hid (dottedS (bl s) = if (cutS 46 [] (bl s)).length = 4 then (dot4F 0 (cutS 46 [] (bl s))).map fun n => [n / 65536, n % 65536] else none) := rfl
  generalize cutS 46 [] (bl s) = ls at *
  by_cases h4 : ls.length = 4
  · have HF : Hid (dottedS (bl s) = (dot4F 0 ls).map fun n => [n / 65536, n % 65536]) := HS.out.trans (if_pos h4)
    rw [h4] at hc ⊢
    have HN := Lib.hid h4
    clear HS h4
    go_wp2
    go_loopg [5, 17] 4 (fun r v5 v17 wr => ∃ (n k : Nat), v5 = .int .i64 n ∧ v17 = .int .i64 k ∧ k + r = 4 ∧ Hid (n < 256 ^ k) ∧ Hid (dottedS (bl s) = (dot4F n (ls.drop k)).map fun n => [n / 65536, n % 65536]) ∧ Hid (Bel w1 wr))
    case atStart => exact ⟨0, 0, rfl, rfl, by omega, by unfold Hid; omega, HF, by unfold Hid; exact Below.refl _ _⟩
    case round =>
      obtain ⟨n, k, rfl, rfl, hk, HM, HI, HB⟩ := hrel
      have HB4 := Lib.hid (bel_trans HB1.out HB.out)
      cases gk with
      | zero =>
        obtain rfl : k = 4 := by omega
        have hn : n < 4294967296 := HM.out
        have hX := HI.out
        rw [List.drop_eq_nil_of_le (by rw [HN.out]; omega)] at hX
        have HX := Lib.hid hX
        clear HI HF hX HM
        go_wp2
        go_ret2
        have hsz := HB4.out.size
        exact ⟨dotted_yes HX.out (by first | rfl | (rw [IntKind.wrap_u16]; omega)) rfl hsz, HB4.out.alloc (by omega) _⟩
      | succ g' =>
        obtain ⟨u, hu⟩ : ∃ u, ls[k]? = some (bl u) := ⟨⟨(ls[k]'(by rw [HN.out]; omega)).toArray⟩, by rw [bl_mk]; exact List.getElem?_eq_getElem _⟩
        have hus := HL.out _ (List.mem_of_getElem? hu)
        rw [bl_length] at hus
        have hI := HI.out
        rw [drop_get hu] at hI
        have hcell := strs_cell (hR.out.bel HB.out) hu
        have HE1 := Lib.hid ((HE.out.bel HB1.out).bel HB.out)
        have HX := Lib.hid hI
        have hm : n < 1099511627776 := by
          have := HM.out
          have h3 : 256 ^ k ≤ 256 ^ 3 := Nat.pow_le_pow_right (by omega) (by omega)
          omega
        clear hI HI hu HF
        by_cases hA : (bl u).all isDec = true ∧ bl u ≠ []
        · have hat := atoi_dec (bl u) hA.1 hA.2
          have HA := Lib.hid hA
          clear hA
          by_cases hv : valS 10 (bl u) < 9223372036854775808
          · rw [if_pos hv] at hat
            have HAt := Lib.hid hat
            have HVV := Lib.hid hv
            clear hat
            go_wp2_with fail
            refine (Tryz.strconv_Atoi_ok u (by omega) _ HAt.out _).mono ?_
            rintro e w2 ⟨rfl, hw2⟩
            have HB5 : Hid (Bel wr w2) := by
              rcases hw2 with rfl | ⟨t, rfl⟩
              · exact Below.refl _ _
              · exact bel_bytes _ _ _
            clear hw2
            have HE2 := Lib.hid (HE1.out.bel HB5.out)
            have hB : byteS (bl u) = if valS 10 (bl u) ≤ 255 ∧ digs 10 (valS 10 (bl u)) = bl u then some (valS 10 (bl u)) else none := by
              unfold byteS; simp only [HA.out.1, HA.out.2, ne_eq, not_false_eq_true, true_and]
            obtain ⟨d, hd⟩ : ∃ d, valS 10 (bl u) = d := ⟨_, rfl⟩
            rw [hd] at hB hv ⊢
            have HBy := Lib.hid hB
            clear hB hd HVV HAt
            go_wp2_with fail
            refine (host_all u _ _ (by omega) (by decide) (asc_of (by decide)) HE2).mono ?_
            rintro e w3 ⟨rfl, HB6⟩
            have HF6 : Hid ((bl u).all (bl ⟨#[48, 49, 50, 51, 52, 53, 54, 55, 56, 57]⟩).contains = true) := by unfold Hid; rw [← HA.out.1]; congr 1; funext y; exact dec_eq y
            rw [HF6.out]
            have HB7 := Lib.hid (bel_trans HB5.out HB6.out)
            have HE3 := Lib.hid (HE1.out.bel HB7.out)
            have hd63 : (d : Int) ≤ 9223372036854775807 := by omega
            clear hv
            by_cases h255 : d ≤ 255
            · have h255' : (d : Int) ≤ 255 := by omega
              by_cases he : digs 10 d = bl u
              · have HY : Hid (dottedS (bl s) = (dot4F (n * 256 + d) (ls.drop (k + 1))).map fun n => [n / 65536, n % 65536]) := HX.out.trans (congrArg _ (dot4_some (HBy.out.trans (if_pos ⟨h255, he⟩))))
                have hou := or_i64 n d hm h255
                have hmu := mul_i64 n hm
                have hit : (⟨(Lib.itoa (d : Int)).toArray⟩ : ByteArray) = u := by
                  have : Lib.itoa (d : Int) = digs 10 d := by rw [digs10]; unfold Lib.itoa; rw [if_neg (by omega), Int.toNat_natCast]
                  rw [this, he, mk_bl]
                clear h255 he
                go_wp2_with fail
                refine (Tryz.strconv_Itoa (d : Int) (by omega) (by omega) _ HE3.out.pow).mono ?_
                rintro e w4 ⟨rfl, kk, os, hw4⟩
                rw [hit]
                have HB8 := Lib.hid (show Bel w3 w4 by rw [hw4]; exact bel_grow _ kk os)
                clear hw4 hit
                go_wp2
                go_roundg g'
                case measure => omega
                case rel =>
                  refine ⟨n * 256 + d, k + 1, ?_, rfl, by omega, ?_, HY, bel_trans HB.out (bel_trans HB7.out HB8.out)⟩
                  · rw [← hou, Int.natCast_mul]; rfl
                  · have := HM.out
                    unfold Hid
                    rw [Nat.pow_succ]
                    omega
              · have HY : Hid (dottedS (bl s) = none) := HX.out.trans (by rw [dot4_none (HBy.out.trans (if_neg fun h => he h.2))]; rfl)
                obtain ⟨t, ht⟩ : ∃ t : ByteArray, (⟨(Lib.itoa (d : Int)).toArray⟩ : ByteArray) = t := ⟨_, rfl⟩
                have hne : (t.toList == u.toList) = false := by
                  rw [beq_eq_false_iff_ne, toList_bl, toList_bl]; intro h; have h := bl_inj h; subst h
                  have : Lib.itoa (d : Int) = digs 10 d := by rw [digs10]; unfold Lib.itoa; rw [if_neg (by omega), Int.toNat_natCast]
                  rw [this] at ht
                  exact he (by rw [← ht, bl_mk])
                clear he h255
                go_wp2_with fail
                refine (Tryz.strconv_Itoa (d : Int) (by omega) (by omega) _ HE3.out.pow).mono ?_
                rintro e w4 ⟨rfl, kk, os, hw4⟩
                rw [ht]
                have HB8 := Lib.hid (show Bel w3 w4 by rw [hw4]; exact bel_grow _ kk os)
                clear hw4 ht
                go_wp2
                go_ret2
                exact ⟨dotted_no HY.out, bel_trans HB4.out (bel_trans HB7.out HB8.out)⟩
            · have HY : Hid (dottedS (bl s) = none) := HX.out.trans (by rw [dot4_none (HBy.out.trans (if_neg fun h => h255 h.1))]; rfl)
              have h255' : 255 < (d : Int) := by omega
              clear h255
              go_wp2
              go_ret2
              exact ⟨dotted_no HY.out, bel_trans HB4.out HB7.out⟩
          · rw [if_neg hv] at hat
            have HX2 : Hid (dottedS (bl s) = none) := by unfold Hid; rw [HX.out, dot4_none (by unfold byteS; rw [if_neg]; rintro ⟨_, _, h3, _⟩; omega)]; rfl
            have HAt := Lib.hid hat
            clear hv hat
            obtain ⟨ev, hv, hv2⟩ := HE1.out.rang
            go_wp2_with fail
            refine (Tryz.strconv_Atoi_range u (by omega) HAt.out ev _ hv hv2).mono ?_
            rintro e w2 ⟨N, rfl, hN⟩
            have HB5 := Lib.hid hN.2.2
            clear hN hv hv2
            go_wp2
            go_ret2
            exact ⟨dotted_no HX2.out, bel_trans HB4.out HB5.out⟩
        · have HX2 : Hid (dottedS (bl s) = none) := by unfold Hid; rw [HX.out, dot4_none (by unfold byteS; rw [if_neg]; rintro ⟨h1, h2, _⟩; exact hA ⟨h2, h1⟩)]; rfl
          clear HX
          have HA := Lib.hid hA
          cases ha : Lib.atoiAll (bl u) with
          | ok v =>
            have h0 : bl u ≠ [] := by intro h; rw [h] at ha; cases ha
            have hall : Hid ((bl u).all isDec = false) := by unfold Hid; rw [Bool.eq_false_iff]; intro h; exact hA ⟨h, h0⟩
            have HAt := Lib.hid ha
            clear hA ha h0
            go_wp2_with fail
            refine (Tryz.strconv_Atoi_ok u (by omega) v HAt.out _).mono ?_
            rintro e w2 ⟨rfl, hw2⟩
            have HB5 : Hid (Bel wr w2) := by
              rcases hw2 with rfl | ⟨t, rfl⟩
              · exact Below.refl _ _
              · exact bel_bytes _ _ _
            clear hw2
            have HE2 := Lib.hid (HE1.out.bel HB5.out)
            go_wp2_with fail
            refine (host_all u _ _ (by omega) (by decide) (asc_of (by decide)) HE2).mono ?_
            rintro e w3 ⟨rfl, HB6⟩
            have HF6 : Hid ((bl u).all (bl ⟨#[48, 49, 50, 51, 52, 53, 54, 55, 56, 57]⟩).contains = false) := by unfold Hid; rw [← hall.out]; congr 1; funext y; exact dec_eq y
            rw [HF6.out]
            go_wp2
            go_ret2
            exact ⟨dotted_no HX2.out, bel_trans (bel_trans HB4.out HB5.out) HB6.out⟩
          | range =>
            have HAt := Lib.hid ha
            clear hA ha
            obtain ⟨ev, hv, hv2⟩ := HE1.out.rang
            go_wp2_with fail
            refine (Tryz.strconv_Atoi_range u (by omega) HAt.out ev _ hv hv2).mono ?_
            rintro e w2 ⟨N, rfl, hN⟩
            have HB5 := Lib.hid hN.2.2
            clear hN hv hv2
            go_wp2
            go_ret2
            exact ⟨dotted_no HX2.out, bel_trans HB4.out HB5.out⟩
          | _ =>
            have HAt := Lib.hid ha
            clear hA ha
            obtain ⟨ev, hv, hv2⟩ := HE1.out.synt
            go_wp2_with fail
            refine (Tryz.strconv_Atoi_syntax u (by omega) HAt.out ev _ hv hv2).mono ?_
            rintro e w2 ⟨N, rfl, hN⟩
            have HB5 := Lib.hid hN.2.2
            clear hN hv hv2
            go_wp2
            go_ret2
            exact ⟨dotted_no HX2.out, bel_trans HB4.out HB5.out⟩
  · have HF : Hid (dottedS (bl s) = none) := HS.out.trans (if_neg h4)
    have h4' : ¬ (ls.length : Int) = 4 := by omega
    have hb4 : ((ls.length : Int) == 4) = false := by simpa using h4'
    clear HS h4 h4'
    go_wp2
    go_ret2
    exact ⟨dotted_no HF.out, HB1⟩
end Go.Proofs.YtpgehhnmlihnbaaGreatDoor
