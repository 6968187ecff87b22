import Derived.Test.YtpgehhnmlihnbaaGreatDoorXHost2
namespace Go.Proofs.YtpgehhnmlihnbaaGreatDoor
open Go.RowKit

def isDec (x : UInt8) : Bool := isDigit x.toNat
def isHex (x : UInt8) : Bool := decide (0 ≤ hexV x.toNat)
def isOct (x : UInt8) : Bool := decide (48 ≤ x.toNat ∧ x.toNat ≤ 55)
theorem u8_all {p q : UInt8 → Bool} (h : ∀ n : Fin 256, p (UInt8.ofNat n.val) = q (UInt8.ofNat n.val)) (x : UInt8) : p x = q x := by
  have := h ⟨x.toNat, x.toNat_lt⟩
  simpa using this
theorem dec_eq (x : UInt8) : ([48, 49, 50, 51, 52, 53, 54, 55, 56, 57] : List UInt8).contains x = isDec x := u8_all (by decide +kernel) x
theorem oct_eq (x : UInt8) : ([48, 49, 50, 51, 52, 53, 54, 55] : List UInt8).contains x = isOct x := u8_all (by decide +kernel) x
theorem hex_eq (x : UInt8) : ([48, 49, 50, 51, 52, 53, 54, 55, 56, 57, 97, 98, 99, 100, 101, 102, 65, 66, 67, 68, 69, 70] : List UInt8).contains x = isHex x := u8_all (by decide +kernel) x
theorem asc_of {l : List UInt8} (h : l.all (fun x => decide (x.toNat < 128)) = true) : Hid (Asc l) := fun x hx => by simpa using List.all_eq_true.1 h x hx
def lastS (l : List UInt8) : List UInt8 := (labelsS l).getLastD []
theorem last_get (l : List UInt8) : ∃ n x, (labelsS l).length = n + 1 ∧ (labelsS l)[n]? = some x ∧ lastS l = x := by
  obtain ⟨n, hn⟩ : ∃ n, (labelsS l).length = n + 1 := ⟨(labelsS l).length - 1, by have := List.length_pos_iff.2 (labelsS_ne l); omega⟩
  obtain ⟨x, hx⟩ : ∃ x, (labelsS l)[n]? = some x := ⟨_, List.getElem?_eq_getElem (by omega)⟩
  refine ⟨n, x, hn, hx, ?_⟩
  unfold lastS
  rw [List.getLastD_eq_getLast?, List.getLast?_eq_getElem?, hn, show n + 1 - 1 = n by omega, hx]; rfl
/-- Is a host to be numbers? -/
def numberedS (l : List UInt8) : Bool := if hexS (lastS l) then ((lastS l).drop 2).all isHex else !(lastS l).isEmpty && (lastS l).all isDec

theorem labels_mem_len {l x : List UInt8} (h : x ∈ labelsS l) : x.length ≤ l.length := by
  have key : ∀ (m acc : List UInt8), x ∈ cutS 46 acc m → x.length ≤ acc.length + m.length := by
    intro m
    induction m with
    | nil => intro acc h; simp [cutS] at h; subst h; simp
    | cons a r ih =>
      intro acc h
      unfold cutS at h
      split at h
      · rcases List.mem_cons.1 h with h | h
        · subst h; simp
        · have := ih [] h; simp at this ⊢; omega
      · have := ih _ h; simp at this ⊢; omega
  have h2 : x ∈ cutS 46 [] l := by
    unfold labelsS at h
    split at h
    · exact (List.dropLast_sublist _).subset h
    · exact h
  simpa using key l [] h2
set_option maxHeartbeats 2000000 in
set_option maxRecDepth 100000 in
theorem host_Numbered (s : ByteArray) (w : World) (hs : s.size ≤ 1000000) (HE : Hid (Env w)) :
    Calls Tryz.prog 15 #[.string s] w fun e w' => e = .returned (.bool (numberedS (bl s))) ∧ Hid (Bel w w') := by
  obtain ⟨n, x, hn, hx, hl⟩ := last_get (bl s)
  have hxl := labels_mem_len (List.mem_of_getElem? hx)
  rw [bl_length] at hxl
  have hnl := labelsS_len (bl s)
  rw [bl_length] at hnl
  have hnn : n ≤ s.size := by omega
  obtain ⟨u, hu⟩ : ∃ u : ByteArray, bl u = x := ⟨⟨x.toArray⟩, bl_mk x⟩
  subst hu
  rw [bl_length] at hxl
  have HN := Lib.hid hn
  have HX := Lib.hid hx
  have HV : Hid (numberedS (bl s) = if hexS (bl u) then ((bl u).drop 2).all isHex else !(bl u).isEmpty && (bl u).all isDec) := by unfold Hid numberedS; rw [hl]
  clear hn hx hl hnl
  go_enter Tryz.func15, Tryz.ntmps15
  go_wp2_with fail
  refine (host_labels s _ hs HE).mono ?_
  rintro e w1 ⟨⟨g, c, rfl, hc, hR⟩, HB1⟩
  have hcell := hR.out.2 n _ (strs_get _ n _ HX.out)
  rw [mk_bl] at hcell
  rw [HN.out] at hc ⊢
  have HE1 := Lib.hid (HE.out.bel HB1.out)
  go_wp2_with fail
  refine (host_hexed u _).mono ?_
  rintro e w2 ⟨⟨r, rfl, hr, hrz⟩, rfl⟩
  cases hh : hexS (bl u)
  · rw [hh] at HV hr
    by_cases h0 : bl u = []
    · have h0' : u.toList.isEmpty = true := (str_empty u).2 h0
      have HF : Hid (numberedS (bl s) = false) := by rw [h0] at HV; exact HV
      clear HV h0 hh
      go_wp2
      go_ret
      exact ⟨ret_bool HF.out.symm, HB1⟩
    · have h0' : u.toList.isEmpty = false := by rw [Bool.eq_false_iff, ne_eq, str_empty]; exact h0
      have HF : Hid (numberedS (bl s) = (bl u).all isDec) := by
        have : (bl u).isEmpty = false := by cases hb : bl u; exact absurd hb h0; rfl
        rw [this] at HV; exact HV
      clear HV h0 hh
      go_wp2_with fail
      refine (host_all u _ _ (by omega) (by decide) (asc_of (by decide)) HE1).mono ?_
      rintro e w3 ⟨rfl, HB3⟩
      go_wp2
      go_ret
      exact ⟨ret_bool (by rw [HF.out]; congr 1; funext y; exact dec_eq y), bel_trans HB1.out HB3.out⟩
  · rw [hh] at HV hr
    have hr' : Hid (bl r = (bl u).drop 2) := hr
    have HF : Hid (numberedS (bl s) = (bl r).all isHex) := by unfold Hid; rw [hr'.out]; exact HV
    clear HV hh
    go_wp2_with fail
    refine (host_all r _ _ (by omega) (by decide) (asc_of (by decide)) HE1).mono ?_
    rintro e w3 ⟨rfl, HB3⟩
    go_wp2
    go_ret
    exact ⟨ret_bool (by rw [HF.out]; congr 1; funext y; exact hex_eq y), bel_trans HB1.out HB3.out⟩


theorem all_take {p : UInt8 → Bool} (s : ByteArray) (k : Nat) (h : k < s.size) : ((bl s).take (k + 1)).all p = (((bl s).take k).all p && p s[k]) := by
  rw [bl_take s k h]; simp
theorem hexS_not_dec (l : List UInt8) (h : hexS l = true) : l.all isDec = false := by
  unfold hexS begins at h
  rw [Bool.eq_false_iff]
  intro ha
  simp only [Bool.or_eq_true, Bool.and_eq_true, decide_eq_true_eq, beq_iff_eq] at h
  have key : ∀ c : UInt8, isDec c = false → l.take 2 = [48, c] → False := by
    intro c hc ht
    have : c ∈ l := (List.take_sublist 2 l).subset (by rw [ht]; simp)
    rw [List.all_eq_true.1 ha c this] at hc; cases hc
  rcases h with ⟨_, h⟩ | ⟨_, h⟩
  · exact key 120 (by decide) h
  · exact key 88 (by decide) h
set_option maxHeartbeats 2000000 in
set_option maxRecDepth 100000 in
theorem ref2_Numbered (s : ByteArray) (w : World) (hs : s.size ≤ 1000000) (HE : Hid (Env w)) :
    Calls Tryz.prog 23 #[.string s] w fun e w' => e = .returned (.bool (numberedS (bl s))) ∧ Hid (Bel w w') := by
  obtain ⟨n, x, hn, hx, hl⟩ := last_get (bl s)
  have hxl := labels_mem_len (List.mem_of_getElem? hx)
  rw [bl_length] at hxl
  have hnl := labelsS_len (bl s)
  rw [bl_length] at hnl
  have hnn : n ≤ s.size := by omega
  obtain ⟨u, hu⟩ : ∃ u : ByteArray, bl u = x := ⟨⟨x.toArray⟩, bl_mk x⟩
  subst hu
  rw [bl_length] at hxl
  have HN := Lib.hid hn
  have HX := Lib.hid hx
  have HV : Hid (numberedS (bl s) = if hexS (bl u) then ((bl u).drop 2).all isHex else !(bl u).isEmpty && (bl u).all isDec) := by unfold Hid numberedS; rw [hl]
  clear hn hx hl hnl
  go_enter Tryz.func23, Tryz.ntmps23
  go_wp2_with fail
  refine (ref2_labels s _ hs HE).mono ?_
  rintro e w1 ⟨⟨g, c, rfl, hc, hR⟩, HB1⟩
  have hcell := hR.out.2 n _ (strs_get _ n _ HX.out)
  rw [mk_bl] at hcell
  rw [HN.out] at hc ⊢
  go_wp2
  go_loop [5, 6] (fun b i => ∃ j : Nat, j ≤ u.size ∧ i = .int .i64 j ∧ b = .bool (decide (0 < u.size) && ((bl u).take j).all isDec)) (fun _ i => u.size - (intOf i).toNat)
  case atStart => exact ⟨0, Nat.zero_le _, rfl, by simp⟩
  case round =>
    obtain ⟨j, hj, rfl, rfl⟩ := hrel
    by_cases hlt : j < u.size
    · have hT : Hid ((decide (0 < u.size) && ((bl u).take (j + 1)).all isDec) = ((decide (0 < u.size) && ((bl u).take j).all isDec) && isDigit u[j].toNat)) := by unfold Hid; rw [all_take u j hlt, Bool.and_assoc]; rfl
      generalize (decide (0 < u.size) && ((bl u).take j).all isDec) = b at *
      cases b
      all_goals
        go_wp2_with (go_at_call 57; refine (ref1_Digit _ _).mono ?_; rintro e w' ⟨rfl, rfl⟩)
        exact ⟨⟨j + 1, by omega, by go_num, by rw [hT.out]; rfl⟩, by simp [intOf]; omega⟩
    · obtain rfl : j = u.size := by omega
      have hP : (decide (0 < u.size) && ((bl u).take u.size).all isDec) = (!(bl u).isEmpty && (bl u).all isDec) := by
        rw [List.take_of_length_le (by rw [bl_length]; exact Nat.le_refl _)]
        congr 1
        rw [← bl_length]; cases bl u <;> simp
      rw [hP]
      clear hP
      have hnd := hexS_not_dec (bl u)
      cases hb : (!(bl u).isEmpty && (bl u).all isDec)
      · have h1 : bl ⟨#[48, 120]⟩ = [48, 120] := rfl
        have h2 : bl ⟨#[48, 88]⟩ = [48, 88] := rfl
        have hS : hexS (bl u) = (begins (bl u) [48, 120] || begins (bl u) [48, 88]) := rfl
        rw [hb] at HV
        clear hnd hb
        cases hh : hexS (bl u)
        · rw [hh] at HV hS
          have ha : begins (bl u) [48, 120] = false := by cases h : begins (bl u) [48, 120]; rfl; rw [h] at hS; cases hS
          have hb : begins (bl u) [48, 88] = false := by cases h : begins (bl u) [48, 88]; rfl; rw [h, ha] at hS; cases hS
          have HF : Hid (numberedS (bl s) = false) := HV
          clear HV hS hh
          go_wp2_with (go_at_call 47; refine (ref1_Begins _ _ _).mono ?_; rintro e w' ⟨rfl, rfl⟩)
          go_ret
          exact ⟨ret_bool HF.out.symm, HB1⟩
        · rw [hh] at HV hS
          have HF : Hid (numberedS (bl s) = ((bl u).drop 2).all isHex) := HV
          have h2u : 2 ≤ u.size := by
            have := hh
            unfold hexS begins at this
            simp only [Bool.or_eq_true, Bool.and_eq_true, decide_eq_true_eq, List.length_cons, List.length_nil, bl_length] at this
            omega
          clear HV hh
          have hab : begins (bl u) [48, 120] = true ∨ begins (bl u) [48, 120] = false ∧ begins (bl u) [48, 88] = true := by
            cases h : begins (bl u) [48, 120]
            · right; refine ⟨rfl, ?_⟩; rw [h] at hS; simpa using hS.symm
            · left; rfl
          clear hS
          rcases hab with ha | ⟨ha, hb⟩
          all_goals
            go_wp2_with (go_at_call 47; refine (ref1_Begins _ _ _).mono ?_; rintro e w' ⟨rfl, rfl⟩)
            go_loop [7] (fun i => ∃ j : Nat, 2 ≤ j ∧ j ≤ u.size ∧ i = .int .i64 j ∧ Hid (numberedS (bl s) = ((bl u).drop j).all isHex)) (fun i => u.size - (intOf i).toNat)
            case atStart => exact ⟨2, by omega, h2u, rfl, HF⟩
            case round =>
              obtain ⟨j, hj2, hj, rfl, HI⟩ := hrel
              by_cases hlt : j < u.size
              · have hI := HI.out
                rw [bl_drop u j hlt, List.all_cons] at hI
                have hr := hexV_range u[j].toNat
                have c1 : (u[j].toNat : Int) ≤ 255 := by have := u[j].toNat_lt; omega
                by_cases hx : 0 ≤ hexV u[j].toNat
                · have HI2 : Hid (numberedS (bl s) = ((bl u).drop (j + 1)).all isHex) := by unfold Hid; rw [hI]; simp [isHex, hx]
                  clear HI hI HF
                  go_wp2_with (go_at_call 58; go_must (refine (ref1_Hex _ _ (by omega) (by omega)).mono ?_); rintro e w' ⟨rfl, rfl⟩)
                  exact ⟨⟨j + 1, by omega, by omega, by go_num, HI2⟩, by simp [intOf]; omega⟩
                · have HI2 : Hid (numberedS (bl s) = false) := by unfold Hid; rw [hI]; simp [isHex, hx]
                  clear HI hI HF
                  go_wp2_with (go_at_call 58; go_must (refine (ref1_Hex _ _ (by omega) (by omega)).mono ?_); rintro e w' ⟨rfl, rfl⟩)
                  go_ret
                  exact ⟨ret_bool HI2.out.symm, HB1⟩
              · have HI2 : Hid (numberedS (bl s) = true) := by have := HI.out; rw [bl_drop_end u j (by omega)] at this; exact this
                clear HI HF
                go_wp2
                go_ret
                exact ⟨ret_bool HI2.out.symm, HB1⟩
      · have HF : Hid (numberedS (bl s) = true) := by
          have h3 : hexS (bl u) = false := by
            rw [Bool.eq_false_iff]; intro h; rw [hnd h] at hb; simp at hb
          rw [h3] at HV; unfold Hid; rw [HV.out]; exact hb
        clear hnd hb HV
        go_wp2
        go_ret
        exact ⟨ret_bool HF.out.symm, HB1⟩

end Go.Proofs.YtpgehhnmlihnbaaGreatDoor
