import Derived.Test.YtbpkkgaaeodimaaGreatDoorXG03
import Derived.Laws.Bits64
namespace Go.Proofs.YtbpkkgaaeodimaaGreatDoor
open Go.RowKit

/-- A row that is read. -/
def RdAt (w : World) (g : Nat) (xs : List Value) : Prop := g < w.heap.size ∧ ∀ k u, xs[k]? = some u → w.cell? ⟨g, k, none⟩ = some u
theorem RdAt.bel {w w1 : World} {g : Nat} {xs : List Value} (h : RdAt w g xs) (hb : Bel w w1) : RdAt w1 g xs := ⟨Nat.lt_of_lt_of_le h.1 hb.size, fun k u hu => bel_cell hb (h.2 k u hu)⟩
theorem RowAt.rd {w : World} {g : Nat} {xs : List Value} (h : RowAt w g xs) : RdAt w g xs := ⟨h.1, fun k u hu => (h.2 k u hu).1⟩
theorem RdAt.take {w : World} {g : Nat} {xs : List Value} (h : RdAt w g xs) (n : Nat) : RdAt w g (xs.take n) := ⟨h.1, fun k u hu => h.2 k u (by rw [List.getElem?_take] at hu; split at hu; exact hu; cases hu)⟩
theorem RdAt.alloc (w : World) (l : List Value) (e : TypeId) : RdAt (w.alloc (.cells l.toArray e)) w.heap.size l := by
  refine ⟨by simp, fun k u hu => ?_⟩
  rw [World.cell?_alloc_at _ _ _ _ rfl]
  simpa using hu
theorem strs_get (l : List (List UInt8)) (k : Nat) (x : List UInt8) (h : l[k]? = some x) : (strs l)[k]? = some (.string ⟨x.toArray⟩) := by simp [strs, h]

/-- What a list of labels comes back as. -/
def IsStrs (w' : World) (e : Ending) (l : List (List UInt8)) : Prop := ∃ g c, e = .returned (.slice (some ⟨g, 0, none⟩) l.length c) ∧ l.length ≤ c ∧ Hid (RdAt w' g (strs l))

set_option maxHeartbeats 1000000 in
theorem host_Split (c : UInt8) (s : ByteArray) (w : World) (hs : s.size ≤ 1000000) (HE : Hid (Env w)) :
    Calls Tryz.prog 117 #[.string s, .string ⟨#[c]⟩] w fun e w' => IsStrs w' e (cutS c.toNat [] (bl s)) ∧ Hid (Bel w w') := by
  obtain ⟨m, hm⟩ := HE.out.maxLen
  refine (Tryz.strings_Split s ⟨#[c]⟩ m w (by omega) hm (Nat.le_refl 1)).mono ?_
  rintro e w' ⟨rfl, rfl⟩
  refine ⟨⟨w.heap.size, (cutS c.toNat [] (bl s)).length, ?_, Nat.le_refl _, ?_⟩, (Below.refl _ _).alloc (Nat.le_refl _) _⟩
  · rw [split_len]
  · unfold Hid
    rw [split_cut]
    exact RdAt.alloc w _ _

theorem getLast_cut (l : List (List UInt8)) (n : Nat) (h : l.length = n + 1) (x : List UInt8) (hx : l[n]? = some x) : l.getLast? = some x := by
  rw [List.getLast?_eq_getElem?, h]; exact hx
set_option maxHeartbeats 2000000 in
set_option maxRecDepth 100000 in
theorem host_labels (s : ByteArray) (w : World) (hs : s.size ≤ 1000000) (HE : Hid (Env w)) :
    Calls Tryz.prog 231 #[.string s] w fun e w' => IsStrs w' e (labelsS (bl s)) ∧ Hid (Bel w w') := by
  have hlen := cutS_len 46 (bl s) []
  rw [bl_length] at hlen
  obtain ⟨n, hn⟩ : ∃ n, (cutS 46 [] (bl s)).length = n + 1 := ⟨(cutS 46 [] (bl s)).length - 1, by have := List.length_pos_iff.2 (cutS_ne 46 (bl s) []); omega⟩
  obtain ⟨x, hx⟩ : ∃ x, (cutS 46 [] (bl s))[n]? = some x := ⟨_, List.getElem?_eq_getElem (by omega)⟩
  have HX := Lib.hid (getLast_cut _ n hn x hx)
  have hx2 := Lib.hid hx
  have hn2 := Lib.hid hn
  have hnn : n ≤ s.size := by omega
  clear hlen hn hx
  go_enter Tryz.func231, Tryz.ntmps231
  go_wp2_with fail
  refine (host_Split 46 s _ hs HE).mono ?_
  rintro e w1 ⟨⟨g, c, rfl, hc, hR⟩, HB1⟩
  try rw [show ((46 : UInt8).toNat : Int) = 46 from rfl] at *
  have hcell := hR.out.2 n _ (strs_get _ n x hx2.out)
  have hLS : Hid (labelsS (bl s) = if 1 < (cutS 46 [] (bl s)).length ∧ (cutS 46 [] (bl s)).getLast? = some [] then (cutS 46 [] (bl s)).dropLast else cutS 46 [] (bl s)) := rfl
  generalize cutS 46 [] (bl s) = l at *
  rw [hn2.out] at hLS hc ⊢
  by_cases h1 : 0 < n
  · by_cases he : x = []
    · subst he
      have HF : Hid (labelsS (bl s) = l.dropLast) := hLS.out.trans (if_pos ⟨by omega, HX.out⟩)
      have hl := Lib.hid (show l.dropLast.length = n by rw [List.length_dropLast, hn2.out]; rfl)
      clear hLS
      go_wp2
      go_ret
      refine ⟨⟨g, c, ?_, ?_, ?_⟩, HB1⟩
      · rw [HF.out, hl.out]; rfl
      · rw [HF.out, hl.out]; omega
      · rw [HF.out, List.dropLast_eq_take, hn2.out, strs, List.map_take]; exact hR.out.take _
    · have he' : x.isEmpty = false := by cases x; exact absurd rfl he; rfl
      have HF : Hid (labelsS (bl s) = l) := hLS.out.trans (if_neg (by rw [HX.out]; simp [he]))
      clear hLS he
      go_wp2
      go_ret
      exact ⟨⟨g, c, by rw [HF.out, hn2.out]; rfl, by rw [HF.out, hn2.out]; exact hc, by rw [HF.out]; exact hR⟩, HB1⟩
  · have HF : Hid (labelsS (bl s) = l) := hLS.out.trans (if_neg (by omega))
    clear hLS
    go_wp2
    go_ret
    exact ⟨⟨g, c, by rw [HF.out, hn2.out]; rfl, by rw [HF.out, hn2.out]; exact hc, by rw [HF.out]; exact hR⟩, HB1⟩

theorem ref1_CutS (c : Int) (s : ByteArray) (w : World) (hs : s.size ≤ 1000000) :
    Calls Tryz.prog 120 #[.string s, .int .u8 c] w fun e w' => IsStrs w' e (cutS c [] (bl s)) ∧ Hid (Bel w w') := by
  refine (ref1_Cut s c w (by omega)).mono ?_
  rintro e w' ⟨⟨v, rfl, HO⟩, HB⟩
  obtain ⟨g, k, rfl, _, hr, hk⟩ := HO.out.row (by simp [strs]; exact cutS_ne c _ _)
  rw [strs_len] at *
  exact ⟨⟨g, k, rfl, hk, hr.rd⟩, HB⟩
set_option maxHeartbeats 2000000 in
set_option maxRecDepth 100000 in
theorem ref2_labels (s : ByteArray) (w : World) (hs : s.size ≤ 1000000) (_HE : Hid (Env w)) :
    Calls Tryz.prog 182 #[.string s] w fun e w' => IsStrs w' e (labelsS (bl s)) ∧ Hid (Bel w w') := by
  have hlen := cutS_len 46 (bl s) []
  rw [bl_length] at hlen
  obtain ⟨n, hn⟩ : ∃ n, (cutS 46 [] (bl s)).length = n + 1 := ⟨(cutS 46 [] (bl s)).length - 1, by have := List.length_pos_iff.2 (cutS_ne 46 (bl s) []); omega⟩
  obtain ⟨x, hx⟩ : ∃ x, (cutS 46 [] (bl s))[n]? = some x := ⟨_, List.getElem?_eq_getElem (by omega)⟩
  have HX := Lib.hid (getLast_cut _ n hn x hx)
  have hx2 := Lib.hid hx
  have hn2 := Lib.hid hn
  have hnn : n ≤ s.size := by omega
  clear hlen hn hx
  go_enter Tryz.func182, Tryz.ntmps182
  go_wp2_with fail
  refine (ref1_CutS 46 s _ hs).mono ?_
  rintro e w1 ⟨⟨g, c, rfl, hc, hR⟩, HB1⟩
  try rw [show ((46 : UInt8).toNat : Int) = 46 from rfl] at *
  have hcell := hR.out.2 n _ (strs_get _ n x hx2.out)
  have hLS : Hid (labelsS (bl s) = if 1 < (cutS 46 [] (bl s)).length ∧ (cutS 46 [] (bl s)).getLast? = some [] then (cutS 46 [] (bl s)).dropLast else cutS 46 [] (bl s)) := rfl
  generalize cutS 46 [] (bl s) = l at *
  rw [hn2.out] at hLS hc ⊢
  by_cases h1 : 0 < n
  · by_cases he : x = []
    · subst he
      have HF : Hid (labelsS (bl s) = l.dropLast) := hLS.out.trans (if_pos ⟨by omega, HX.out⟩)
      have hl := Lib.hid (show l.dropLast.length = n by rw [List.length_dropLast, hn2.out]; rfl)
      clear hLS
      go_wp2
      go_ret
      refine ⟨⟨g, c, ?_, ?_, ?_⟩, HB1⟩
      · rw [HF.out, hl.out]; rfl
      · rw [HF.out, hl.out]; omega
      · rw [HF.out, List.dropLast_eq_take, hn2.out, strs, List.map_take]; exact hR.out.take _
    · have he' : x.isEmpty = false := by cases x; exact absurd rfl he; rfl
      have HF : Hid (labelsS (bl s) = l) := hLS.out.trans (if_neg (by rw [HX.out]; simp [he]))
      clear hLS he
      go_wp2
      go_ret
      exact ⟨⟨g, c, by rw [HF.out, hn2.out]; rfl, by rw [HF.out, hn2.out]; exact hc, by rw [HF.out]; exact hR⟩, HB1⟩
  · have HF : Hid (labelsS (bl s) = l) := hLS.out.trans (if_neg (by omega))
    clear hLS
    go_wp2
    go_ret
    exact ⟨⟨g, c, by rw [HF.out, hn2.out]; rfl, by rw [HF.out, hn2.out]; exact hc, by rw [HF.out]; exact hR⟩, HB1⟩

end Go.Proofs.YtbpkkgaaeodimaaGreatDoor
namespace Go.Proofs.YtbpkkgaaeodimaaGreatDoor
open Go.RowKit

def isDec (x : UInt8) : Bool := isDigit x.toNat
def isHex (x : UInt8) : Bool := decide (0 ≤ hexV x.toNat)
def isOct (x : UInt8) : Bool := decide (48 ≤ x.toNat ∧ x.toNat ≤ 55)
theorem u8_all {p q : UInt8 → Bool} (h : ∀ n : Fin 256, p (UInt8.ofNat n.val) = q (UInt8.ofNat n.val)) (x : UInt8) : p x = q x := by
  have := h ⟨x.toNat, x.toNat_lt⟩
  simpa using this
theorem dec_eq (x : UInt8) : ([48, 49, 50, 51, 52, 53, 54, 55, 56, 57] : List UInt8).contains x = isDec x := u8_all (by decide +kernel) x
theorem oct_eq (x : UInt8) : ([48, 49, 50, 51, 52, 53, 54, 55] : List UInt8).contains x = isOct x := u8_all (by decide +kernel) x
theorem hex_eq (x : UInt8) : ([48, 49, 50, 51, 52, 53, 54, 55, 56, 57, 97, 98, 99, 100, 101, 102, 65, 66, 67, 68, 69, 70] : List UInt8).contains x = isHex x := u8_all (by decide +kernel) x
theorem asc_of {l : List UInt8} (h : l.all (fun x => decide (x.toNat < 128)) = true) : Hid (Asc l) := fun x hx => by simpa using List.all_eq_true.1 h x hx
def lastS (l : List UInt8) : List UInt8 := (labelsS l).getLastD []
theorem last_get (l : List UInt8) : ∃ n x, (labelsS l).length = n + 1 ∧ (labelsS l)[n]? = some x ∧ lastS l = x := by
  obtain ⟨n, hn⟩ : ∃ n, (labelsS l).length = n + 1 := ⟨(labelsS l).length - 1, by have := List.length_pos_iff.2 (labelsS_ne l); omega⟩
  obtain ⟨x, hx⟩ : ∃ x, (labelsS l)[n]? = some x := ⟨_, List.getElem?_eq_getElem (by omega)⟩
  refine ⟨n, x, hn, hx, ?_⟩
  unfold lastS
  rw [List.getLastD_eq_getLast?, List.getLast?_eq_getElem?, hn, show n + 1 - 1 = n by omega, hx]; rfl
/-- Is a host to be numbers? -/
def numberedS (l : List UInt8) : Bool := if hexS (lastS l) then ((lastS l).drop 2).all isHex else !(lastS l).isEmpty && (lastS l).all isDec

theorem labels_mem_len {l x : List UInt8} (h : x ∈ labelsS l) : x.length ≤ l.length := by
  have key : ∀ (m acc : List UInt8), x ∈ cutS 46 acc m → x.length ≤ acc.length + m.length := by
    intro m
    induction m with
    | nil => intro acc h; simp [cutS] at h; subst h; simp
    | cons a r ih =>
      intro acc h
      unfold cutS at h
      split at h
      · rcases List.mem_cons.1 h with h | h
        · subst h; simp
        · have := ih [] h; simp at this ⊢; omega
      · have := ih _ h; simp at this ⊢; omega
  have h2 : x ∈ cutS 46 [] l := by
    unfold labelsS at h
    split at h
    · exact (List.dropLast_sublist _).subset h
    · exact h
  simpa using key l [] h2
set_option maxHeartbeats 2000000 in
set_option maxRecDepth 100000 in
theorem host_Numbered (s : ByteArray) (w : World) (hs : s.size ≤ 1000000) (HE : Hid (Env w)) :
    Calls Tryz.prog 214 #[.string s] w fun e w' => e = .returned (.bool (numberedS (bl s))) ∧ Hid (Bel w w') := by
  obtain ⟨n, x, hn, hx, hl⟩ := last_get (bl s)
  have hxl := labels_mem_len (List.mem_of_getElem? hx)
  rw [bl_length] at hxl
  have hnl := labelsS_len (bl s)
  rw [bl_length] at hnl
  have hnn : n ≤ s.size := by omega
  obtain ⟨u, hu⟩ : ∃ u : ByteArray, bl u = x := ⟨⟨x.toArray⟩, bl_mk x⟩
  subst hu
  rw [bl_length] at hxl
  have HN := Lib.hid hn
  have HX := Lib.hid hx
  have HV : Hid (numberedS (bl s) = if hexS (bl u) then ((bl u).drop 2).all isHex else !(bl u).isEmpty && (bl u).all isDec) := by unfold Hid numberedS; rw [hl]
  clear hn hx hl hnl
  go_enter Tryz.func214, Tryz.ntmps214
  go_wp2_with fail
  refine (host_labels s _ hs HE).mono ?_
  rintro e w1 ⟨⟨g, c, rfl, hc, hR⟩, HB1⟩
  have hcell := hR.out.2 n _ (strs_get _ n _ HX.out)
  rw [mk_bl] at hcell
  rw [HN.out] at hc ⊢
  have HE1 := Lib.hid (HE.out.bel HB1.out)
  go_wp2_with fail
  refine (host_hexed u _).mono ?_
  rintro e w2 ⟨⟨r, rfl, hr, hrz⟩, rfl⟩
  cases hh : hexS (bl u)
  · rw [hh] at HV hr
    by_cases h0 : bl u = []
    · have h0' : u.toList.isEmpty = true := (str_empty u).2 h0
      have HF : Hid (numberedS (bl s) = false) := by rw [h0] at HV; exact HV
      clear HV h0 hh
      go_wp2
      go_ret
      exact ⟨ret_bool HF.out.symm, HB1⟩
    · have h0' : u.toList.isEmpty = false := by rw [Bool.eq_false_iff, ne_eq, str_empty]; exact h0
      have HF : Hid (numberedS (bl s) = (bl u).all isDec) := by
        have : (bl u).isEmpty = false := by cases hb : bl u; exact absurd hb h0; rfl
        rw [this] at HV; exact HV
      clear HV h0 hh
      go_wp2_with fail
      refine (host_all u _ _ (by omega) (by decide) (asc_of (by decide)) HE1).mono ?_
      rintro e w3 ⟨rfl, HB3⟩
      go_wp2
      go_ret
      exact ⟨ret_bool (by rw [HF.out]; congr 1; funext y; exact dec_eq y), bel_trans HB1.out HB3.out⟩
  · rw [hh] at HV hr
    have hr' : Hid (bl r = (bl u).drop 2) := hr
    have HF : Hid (numberedS (bl s) = (bl r).all isHex) := by unfold Hid; rw [hr'.out]; exact HV
    clear HV hh
    go_wp2_with fail
    refine (host_all r _ _ (by omega) (by decide) (asc_of (by decide)) HE1).mono ?_
    rintro e w3 ⟨rfl, HB3⟩
    go_wp2
    go_ret
    exact ⟨ret_bool (by rw [HF.out]; congr 1; funext y; exact hex_eq y), bel_trans HB1.out HB3.out⟩


theorem all_take {p : UInt8 → Bool} (s : ByteArray) (k : Nat) (h : k < s.size) : ((bl s).take (k + 1)).all p = (((bl s).take k).all p && p s[k]) := by
  rw [bl_take s k h]; simp
theorem hexS_not_dec (l : List UInt8) (h : hexS l = true) : l.all isDec = false := by
  unfold hexS begins at h
  rw [Bool.eq_false_iff]
  intro ha
  simp only [Bool.or_eq_true, Bool.and_eq_true, decide_eq_true_eq, beq_iff_eq] at h
  have key : ∀ c : UInt8, isDec c = false → l.take 2 = [48, c] → False := by
    intro c hc ht
    have : c ∈ l := (List.take_sublist 2 l).subset (by rw [ht]; simp)
    rw [List.all_eq_true.1 ha c this] at hc; cases hc
  rcases h with ⟨_, h⟩ | ⟨_, h⟩
  · exact key 120 (by decide) h
  · exact key 88 (by decide) h
set_option maxHeartbeats 2000000 in
set_option maxRecDepth 100000 in
theorem ref2_Numbered (s : ByteArray) (w : World) (hs : s.size ≤ 1000000) (HE : Hid (Env w)) :
    Calls Tryz.prog 154 #[.string s] w fun e w' => e = .returned (.bool (numberedS (bl s))) ∧ Hid (Bel w w') := by
  obtain ⟨n, x, hn, hx, hl⟩ := last_get (bl s)
  have hxl := labels_mem_len (List.mem_of_getElem? hx)
  rw [bl_length] at hxl
  have hnl := labelsS_len (bl s)
  rw [bl_length] at hnl
  have hnn : n ≤ s.size := by omega
  obtain ⟨u, hu⟩ : ∃ u : ByteArray, bl u = x := ⟨⟨x.toArray⟩, bl_mk x⟩
  subst hu
  rw [bl_length] at hxl
  have HN := Lib.hid hn
  have HX := Lib.hid hx
  have HV : Hid (numberedS (bl s) = if hexS (bl u) then ((bl u).drop 2).all isHex else !(bl u).isEmpty && (bl u).all isDec) := by unfold Hid numberedS; rw [hl]
  clear hn hx hl hnl
  go_enter Tryz.func154, Tryz.ntmps154
  go_wp2_with fail
  refine (ref2_labels s _ hs HE).mono ?_
  rintro e w1 ⟨⟨g, c, rfl, hc, hR⟩, HB1⟩
  have hcell := hR.out.2 n _ (strs_get _ n _ HX.out)
  rw [mk_bl] at hcell
  rw [HN.out] at hc ⊢
  go_wp2
  go_loop [5, 6] (fun b i => ∃ j : Nat, j ≤ u.size ∧ i = .int .i64 j ∧ b = .bool (decide (0 < u.size) && ((bl u).take j).all isDec)) (fun _ i => u.size - (intOf i).toNat)
  case atStart => exact ⟨0, Nat.zero_le _, rfl, by simp⟩
  case round =>
    obtain ⟨j, hj, rfl, rfl⟩ := hrel
    by_cases hlt : j < u.size
    · have hT : Hid ((decide (0 < u.size) && ((bl u).take (j + 1)).all isDec) = ((decide (0 < u.size) && ((bl u).take j).all isDec) && isDigit u[j].toNat)) := by unfold Hid; rw [all_take u j hlt, Bool.and_assoc]; rfl
      generalize (decide (0 < u.size) && ((bl u).take j).all isDec) = b at *
      cases b
      all_goals
        go_wp2_with (go_at_call 70; refine (ref1_Digit _ _).mono ?_; rintro e w' ⟨rfl, rfl⟩)
        exact ⟨⟨j + 1, by omega, by go_num, by rw [hT.out]; rfl⟩, by simp [intOf]; omega⟩
    · obtain rfl : j = u.size := by omega
      have hP : (decide (0 < u.size) && ((bl u).take u.size).all isDec) = (!(bl u).isEmpty && (bl u).all isDec) := by
        rw [List.take_of_length_le (by rw [bl_length]; exact Nat.le_refl _)]
        congr 1
        rw [← bl_length]; cases bl u <;> simp
      rw [hP]
      clear hP
      have hnd := hexS_not_dec (bl u)
      cases hb : (!(bl u).isEmpty && (bl u).all isDec)
      · have h1 : bl ⟨#[48, 120]⟩ = [48, 120] := rfl
        have h2 : bl ⟨#[48, 88]⟩ = [48, 88] := rfl
        have hS : hexS (bl u) = (begins (bl u) [48, 120] || begins (bl u) [48, 88]) := rfl
        rw [hb] at HV
        clear hnd hb
        cases hh : hexS (bl u)
        · rw [hh] at HV hS
          have ha : begins (bl u) [48, 120] = false := by cases h : begins (bl u) [48, 120]; rfl; rw [h] at hS; cases hS
          have hb : begins (bl u) [48, 88] = false := by cases h : begins (bl u) [48, 88]; rfl; rw [h, ha] at hS; cases hS
          have HF : Hid (numberedS (bl s) = false) := HV
          clear HV hS hh
          go_wp2_with (go_at_call 74; refine (ref1_Begins _ _ _).mono ?_; rintro e w' ⟨rfl, rfl⟩)
          go_ret
          exact ⟨ret_bool HF.out.symm, HB1⟩
        · rw [hh] at HV hS
          have HF : Hid (numberedS (bl s) = ((bl u).drop 2).all isHex) := HV
          have h2u : 2 ≤ u.size := by
            have := hh
            unfold hexS begins at this
            simp only [Bool.or_eq_true, Bool.and_eq_true, decide_eq_true_eq, List.length_cons, List.length_nil, bl_length] at this
            omega
          clear HV hh
          have hab : begins (bl u) [48, 120] = true ∨ begins (bl u) [48, 120] = false ∧ begins (bl u) [48, 88] = true := by
            cases h : begins (bl u) [48, 120]
            · right; refine ⟨rfl, ?_⟩; rw [h] at hS; simpa using hS.symm
            · left; rfl
          clear hS
          rcases hab with ha | ⟨ha, hb⟩
          all_goals
            go_wp2_with (go_at_call 74; refine (ref1_Begins _ _ _).mono ?_; rintro e w' ⟨rfl, rfl⟩)
            go_loop [7] (fun i => ∃ j : Nat, 2 ≤ j ∧ j ≤ u.size ∧ i = .int .i64 j ∧ Hid (numberedS (bl s) = ((bl u).drop j).all isHex)) (fun i => u.size - (intOf i).toNat)
            case atStart => exact ⟨2, by omega, h2u, rfl, HF⟩
            case round =>
              obtain ⟨j, hj2, hj, rfl, HI⟩ := hrel
              by_cases hlt : j < u.size
              · have hI := HI.out
                rw [bl_drop u j hlt, List.all_cons] at hI
                have hr := hexV_range u[j].toNat
                have c1 : (u[j].toNat : Int) ≤ 255 := by have := u[j].toNat_lt; omega
                by_cases hx : 0 ≤ hexV u[j].toNat
                · have HI2 : Hid (numberedS (bl s) = ((bl u).drop (j + 1)).all isHex) := by unfold Hid; rw [hI]; simp [isHex, hx]
                  clear HI hI HF
                  go_wp2_with (go_at_call 181; go_must (refine (ref1_Hex _ _ (by omega) (by omega)).mono ?_); rintro e w' ⟨rfl, rfl⟩)
                  exact ⟨⟨j + 1, by omega, by omega, by go_num, HI2⟩, by simp [intOf]; omega⟩
                · have HI2 : Hid (numberedS (bl s) = false) := by unfold Hid; rw [hI]; simp [isHex, hx]
                  clear HI hI HF
                  go_wp2_with (go_at_call 181; go_must (refine (ref1_Hex _ _ (by omega) (by omega)).mono ?_); rintro e w' ⟨rfl, rfl⟩)
                  go_ret
                  exact ⟨ret_bool HI2.out.symm, HB1⟩
              · have HI2 : Hid (numberedS (bl s) = true) := by have := HI.out; rw [bl_drop_end u j (by omega)] at this; exact this
                clear HI HF
                go_wp2
                go_ret
                exact ⟨ret_bool HI2.out.symm, HB1⟩
      · have HF : Hid (numberedS (bl s) = true) := by
          have h3 : hexS (bl u) = false := by
            rw [Bool.eq_false_iff]; intro h; rw [hnd h] at hb; simp at hb
          rw [h3] at HV; unfold Hid; rw [HV.out]; exact hb
        clear hnd hb HV
        go_wp2
        go_ret
        exact ⟨ret_bool HF.out.symm, HB1⟩

end Go.Proofs.YtbpkkgaaeodimaaGreatDoor
namespace Go.Proofs.YtbpkkgaaeodimaaGreatDoor
open Go.RowKit

/-- The value that digits spell by a base. -/
def valF (b : Nat) (acc : Nat) : List UInt8 → Nat
  | [] => acc
  | x :: r => valF b (acc * b + (hexV x.toNat).toNat) r
def valS (b : Nat) (l : List UInt8) : Nat := valF b 0 l
def okDig (b : Nat) (x : UInt8) : Bool := decide (0 ≤ hexV x.toNat ∧ hexV x.toNat < b)
theorem valF_ge (b : Nat) (hb : 1 ≤ b) : ∀ (l : List UInt8) (acc : Nat), acc ≤ valF b acc l
  | [], _ => Nat.le_refl _
  | x :: r, acc => by
    unfold valF
    have := valF_ge b hb r (acc * b + (hexV x.toNat).toNat)
    have h2 : acc ≤ acc * b := Nat.le_mul_of_pos_right _ hb
    omega
theorem lowB (x : UInt8) : (isHex x && !decide (48 ≤ x.toNat ∧ x.toNat ≤ 57)) = true → Go.bits .or .u8 x.toNat 32 = hexV x.toNat + 87 := by
  have := u8_all (p := fun x => !(isHex x && !decide (48 ≤ x.toNat ∧ x.toNat ≤ 57)) || decide (Go.bits .or .u8 x.toNat 32 = hexV x.toNat + 87)) (q := fun _ => true) (by decide +kernel) x
  intro h
  simp only [h] at this
  simpa using this
theorem hexV_dec (x : UInt8) (h : 48 ≤ (x.toNat : Int)) (h2 : (x.toNat : Int) ≤ 57) : hexV x.toNat = x.toNat - 48 := by unfold hexV; rw [if_pos ⟨h, h2⟩]
def capF (bits : Nat) (n : Nat) : Nat := if n < 2 ^ bits then n else 2 ^ bits - 1
/-- What the loop goes by: base, cutoff, the greatest. -/
structure ParseBy (b bits : Nat) (B C M : Int) : Prop where
  hB : B = b
  lo : 2 ≤ b
  hi : b ≤ 16
  hM : M = (2 ^ bits - 1 : Nat)
  m64 : 2 ^ bits ≤ 18446744073709551616
  cut : ∀ n : Nat, C ≤ n → 18446744073709551616 ≤ n * b
  low : ∀ n : Nat, (n : Int) < C → n * b < 18446744073709551616
theorem u64_of (n : Nat) (h : n < 18446744073709551616) : IntKind.u64.wrap (n : Int) = n := by rw [IntKind.wrap_u64]; omega
theorem u64_over (n : Nat) (h : 18446744073709551616 ≤ n) (h2 : n < 2 * 18446744073709551616) : IntKind.u64.wrap (n : Int) = (n : Int) - 18446744073709551616 := by rw [IntKind.wrap_u64]; omega
theorem cap_over {bits n : Nat} (h : 2 ^ bits ≤ n) : capF bits n = 2 ^ bits - 1 := by unfold capF; rw [if_neg (by omega)]
theorem cap_in {bits n : Nat} (h : n < 2 ^ bits) : capF bits n = n := by unfold capF; rw [if_pos h]
theorem valF_over (b : Nat) (hb : 1 ≤ b) (x : UInt8) (r : List UInt8) (n T : Nat) (h : T ≤ n * b) : T ≤ valF b n (x :: r) := by
  unfold valF
  have := valF_ge b hb r (n * b + (hexV x.toNat).toNat)
  omega
def PuEnd (b bits : Nat) (l : List UInt8) (v : Value) : Prop := v = .tuple #[.int .u64 (capF bits (valS b l) : Nat), if valS b l < 2 ^ bits then .nilIface else .iface 239 (.int .i64 1)]
theorem pu_over {b bits : Nat} {l : List UInt8} {M : Int} (hM : M = (2 ^ bits - 1 : Nat)) (h : 2 ^ bits ≤ valS b l) : PuEnd b bits l (Value.tuple #[.int .u64 M, .iface 239 (.int .i64 1)]) := by
  subst hM; unfold PuEnd; rw [cap_over h, if_neg (by omega)]
theorem pu_in {b bits : Nat} {l : List UInt8} (n : Nat) (e : n = valS b l) (h : n < 2 ^ bits) : PuEnd b bits l (Value.tuple #[.int .u64 (n : Int), .nilIface]) := by
  subst e; unfold PuEnd; rw [cap_in h, if_pos h]
theorem sum_cases {m d : Nat} (h : m < 18446744073709551616) (hd : d ≤ 15) : (IntKind.u64.wrap ((m : Int) + d) = ((m + d : Nat) : Int) ∧ m + d < 18446744073709551616) ∨ (IntKind.u64.wrap ((m : Int) + d) = (m : Int) + d - 18446744073709551616 ∧ 18446744073709551616 ≤ m + d) := by
  rw [IntKind.wrap_u64]; omega
theorem sum_over {bits m d : Nat} {M : Int} (hM : M = (2 ^ bits - 1 : Nat)) (h64 : 2 ^ bits ≤ 18446744073709551616) (h : m < 18446744073709551616) (hd : d ≤ 15) (hw : IntKind.u64.wrap ((m : Int) + d) < m ∨ M < IntKind.u64.wrap ((m : Int) + d)) : 2 ^ bits ≤ m + d := by
  rcases sum_cases h hd with ⟨e, h2⟩ | ⟨e, h2⟩
  · rw [e, hM] at hw; omega
  · omega
theorem sum_in {bits m d : Nat} {M : Int} (_hM : M = (2 ^ bits - 1 : Nat)) (_h64 : 2 ^ bits ≤ 18446744073709551616) (h : m < 18446744073709551616) (hd : d ≤ 15) (hw : (m : Int) ≤ IntKind.u64.wrap ((m : Int) + d)) (_hm : IntKind.u64.wrap ((m : Int) + d) ≤ M) : IntKind.u64.wrap ((m : Int) + d) = ((m + d : Nat) : Int) := by
  rcases sum_cases h hd with ⟨e, h2⟩ | ⟨e, h2⟩
  · exact e
  · omega
theorem sum_le {bits m d : Nat} {M : Int} (hM : M = (2 ^ bits - 1 : Nat)) (h64 : 2 ^ bits ≤ 18446744073709551616) (h : m < 18446744073709551616) (hd : d ≤ 15) (hw : (m : Int) ≤ IntKind.u64.wrap ((m : Int) + d)) (hm : IntKind.u64.wrap ((m : Int) + d) ≤ M) : ((m + d : Nat) : Int) ≤ M := by
  rw [sum_in hM h64 h hd hw hm] at hm; exact hm
def CutBy (b : Nat) (C : Int) : Prop := (b = 8 ∧ C = 2305843009213693952) ∨ (b = 10 ∧ C = 1844674407370955162) ∨ (b = 16 ∧ C = 1152921504606846976)
theorem parse_by {b bits b' bits' : Nat} {B C M : Int} (hbb : (b = 8 ∧ bits = 64) ∨ (b = 10 ∧ bits = 64) ∨ (b = 16 ∧ bits = 64) ∨ (b = 16 ∧ bits = 16)) (HC : CutBy b C)
    (Hb : b' = b) (Hk : bits' = bits) (hB : B = b) (hM : M = IntKind.u64.wrap (IntKind.u64.wrap (2 ^ bits) - 1)) : ParseBy b' bits' B C M := by
  subst Hb Hk hB hM
  unfold CutBy at HC
  rcases hbb with ⟨rfl, rfl⟩ | ⟨rfl, rfl⟩ | ⟨rfl, rfl⟩ | ⟨rfl, rfl⟩
  all_goals exact ⟨rfl, by omega, by omega, by decide +kernel, by decide +kernel, fun n h => by omega, fun n h => by omega⟩
set_option maxHeartbeats 8000000 in
set_option maxRecDepth 100000 in
theorem lib_ParseUint1 (s : ByteArray) (b bits b' bits' : Nat) (Hb : Hid (b' = b)) (Hk : Hid (bits' = bits)) (w : World) (hs : s.size ≤ 1000000) (h0 : bl s ≠ []) (hbb : (b = 8 ∧ bits = 64) ∨ (b = 10 ∧ bits = 64) ∨ (b = 16 ∧ bits = 64) ∨ (b = 16 ∧ bits = 16)) (hall : Hid ((bl s).all (okDig b') = true)) :
    Calls Tryz.prog 238 #[.string s, .int .i64 b, .int .i64 bits] w fun e w' => (∃ v, e = .returned v ∧ PuEnd b' bits' (bl s) v) ∧ Hid (Bel w w') := by
  have hemp : s.toList.isEmpty = false := by rw [Bool.eq_false_iff, ne_eq, str_empty]; exact h0
  have kb := fun W => Lib.run_convert_string_bytes W 9 43 5 s Tryz.underlying9 Tryz.underlying43 Tryz.underlying5
  have hbel := bel_bytes w 5 s
  have hrow := RowAt.bytes w 5 s
  have hb1 := Lib.hid hbel
  have hr1 := Lib.hid hrow
  clear h0 hbel hrow
  have b2 : 2 ≤ (b : Int) := by omega
  have b16 : (b : Int) ≤ 16 := by omega
  have b0 : ((b : Int) == 0) = false := by simp; omega
  have k0 : ((bits : Int) == 0) = false := by simp; omega
  have k1 : 1 ≤ (bits : Int) := by omega
  have k64 : (bits : Int) ≤ 64 := by omega
  have HBB := Lib.hid hbb
  clear hbb
  all_goals
    go_enter Tryz.func238, Tryz.ntmps238
    go_upto_block 2 with (fail)
    go_cut [10] (fun v10 wc => (∃ (C : Int), v10 = .int .u64 C ∧ Hid (CutBy b C)) ∧ w = wc)
    case first =>
      have hbb := HBB.out
      clear kb
      have hbb' : b = 8 ∨ b = 10 ∨ b = 16 := by omega
      rcases hbb' with rfl | rfl | rfl
      all_goals
        go_wp2
        go_meet
        refine ⟨⟨_, rfl, ?_⟩, rfl⟩
        unfold Hid CutBy
        decide +kernel
    case rest =>
    obtain ⟨⟨C, rfl, HC⟩, rfl⟩ := hcut
    go_upto_region 32 with (fail)
    go_cut [11] (fun v11 wc => (∃ (M : Int), v11 = .int .u64 M ∧ Hid (ParseBy b' bits' b C M)) ∧ w = wc)
    case first =>
      have hbb := HBB.out
      clear kb
      rcases hbb with ⟨rfl, rfl⟩ | ⟨rfl, rfl⟩ | ⟨rfl, rfl⟩ | ⟨rfl, rfl⟩
      all_goals
        go_wp2
        go_meet
        exact ⟨⟨_, rfl, parse_by (by simp) HC.out Hb.out Hk.out rfl (by first | rfl | decide +kernel)⟩, rfl⟩
    case rest =>
      obtain ⟨⟨M, rfl, HP⟩, rfl⟩ := hcut
      clear HBB b2 b16 b0 k0 k1 k64
      generalize (b : Int) = B at HP ⊢
      go_wp2
      clear kb hemp
      have hlo := HP.out.lo
      have hhi := HP.out.hi
      have hBe := HP.out.hB
      have hB2 : 2 ≤ B := by omega
      have hB3 : B ≤ 16 := by omega
      clear hBe
      go_loopg [12, 13, 101] s.size (fun g v12 v13 v101 wr => v12 = .bool false ∧ ∃ (n k : Nat), v13 = .int .u64 n ∧ v101 = .int .i64 k ∧ k + g = s.size ∧ Hid (valS b' (bl s) = valF b' n ((bl s).drop k)) ∧ Hid ((n : Int) ≤ M) ∧ Hid (RowAt wr w.heap.size ((bl s).map u8v)) ∧ Hid (Bel w wr))
      case atStart => exact ⟨rfl, 0, 0, rfl, rfl, by omega, rfl, by unfold Hid; rw [HP.out.hM]; omega, hr1, hb1⟩
      case round =>
        obtain ⟨rfl, n, k, rfl, rfl, hk, HV, HM, HR, HBl⟩ := hrel
        cases gk with
        | zero =>
          have HF : Hid (n = valS b' (bl s)) := by have := HV.out; rw [bl_drop_end s k (by omega)] at this; exact this.symm
          go_wp2
          go_ret2
          exact ⟨⟨_, rfl, pu_in n HF.out (by have := HM.out; rw [HP.out.hM] at this; have := Nat.two_pow_pos bits'; omega)⟩, HBl⟩
        | succ g =>
          have hlt : k < s.size := by omega
          have hg : ((bl s).map u8v)[k]? = some (.int .u8 s[k].toNat) := by rw [List.getElem?_map, bl_get s k hlt]; rfl
          have hc := (HR.out.2 k _ hg).1
          have hg' := Lib.hid hg
          have hok : okDig b' s[k] = true := List.all_eq_true.1 hall.out _ (List.mem_of_getElem? (bl_get s k hlt))
          have hr := hexV_range s[k].toNat
          have hd : 0 ≤ hexV s[k].toNat ∧ hexV s[k].toNat < b' := by simpa [okDig] using hok
          have hx255 : (s[k].toNat : Int) ≤ 255 := by have := s[k].toNat_lt; omega
          have hV1 := HV.out
          rw [bl_drop s k hlt] at hV1
          have hlowB := lowB s[k]
          have hdd := hexV_dec s[k]
          have hisx : isHex s[k] = true := by simp [isHex, hd.1]
          have h95 : ((s[k].toNat : Int) == 95) = false := by
            rw [beq_eq_false_iff_ne]; intro h; have := hd.1; unfold hexV at this; rw [h] at this; simp at this
          -- the digit, as the walk comes to it
          have hdig : (48 ≤ (s[k].toNat : Int) ∧ (s[k].toNat : Int) ≤ 57 ∧ (s[k].toNat : Int) - 48 = hexV s[k].toNat) ∨ (¬ (48 ≤ (s[k].toNat : Int) ∧ (s[k].toNat : Int) ≤ 57) ∧ Go.bits .or .u8 s[k].toNat 32 = hexV s[k].toNat + 87 ∧ 10 ≤ hexV s[k].toNat) := by
            by_cases h : 48 ≤ (s[k].toNat : Int) ∧ (s[k].toNat : Int) ≤ 57
            · left; exact ⟨h.1, h.2, by rw [hdd h.1 h.2]⟩
            · right; exact ⟨h, hlowB (by rw [hisx]; simp; omega), by have hx := hd.1; clear hd; unfold hexV at hx ⊢; rw [if_neg h] at hx ⊢; split; omega; split; omega; exfalso; rw [if_neg (by assumption), if_neg (by assumption)] at hx; omega⟩
          obtain ⟨d, hdN⟩ : ∃ d : Nat, hexV s[k].toNat = d := ⟨(hexV s[k].toNat).toNat, by omega⟩
          have hstep : valF b' n (s[k] :: (bl s).drop (k + 1)) = valF b' (n * b' + d) ((bl s).drop (k + 1)) := by rw [valF, hdN]; rfl
          have hov : ∀ T, T ≤ n * b' → T ≤ valS b' (bl s) := fun T hT => by rw [hV1]; exact valF_over b' (by omega) _ _ n T hT
          have hgt : ∀ T, T ≤ n * b' + d → T ≤ valS b' (bl s) := fun T hT => by rw [hV1, hstep]; exact Nat.le_trans hT (valF_ge b' (by omega) _ _)
          rw [hstep] at hV1
          rw [hdN] at hdig
          have hd15 : d ≤ 15 := by omega
          have hdb : d < b' := by omega
          have HVn := Lib.hid hV1
          have HG := Lib.hid hgt
          have HO := Lib.hid hov
          have HB := Lib.hid HP.out.hB
          have hdB : (d : Int) < B := by rw [HB.out]; omega
          have hwB : IntKind.u8.wrap B = B := IntWalk.u8_in _ (by omega)
          clear hV1 hgt hov hstep hdd hlowB hok hd hr hisx hg HV
          have HDIG := Lib.hid hdig
          have hdN' := Lib.hid hdN
          clear hdig hdN
          have hsplit : (48 ≤ (s[k].toNat : Int) ∧ (s[k].toNat : Int) ≤ 57) ∨ 57 < (s[k].toNat : Int) ∨ (s[k].toNat : Int) < 48 := by omega
          by_cases hC : C ≤ (n : Int)
          · have HX : Hid (2 ^ bits' ≤ valS b' (bl s)) := Nat.le_trans HP.out.m64 (HO.out _ (HP.out.cut n hC))
            clear hsplit
            rcases HDIG.out with ⟨d1, d2, d3⟩ | ⟨d1, d2, d4⟩
            · go_wp2_with (go_at_call 241; go_must (refine (Tryz.internal_strconv_lower _ _).mono ?_); rintro e w' ⟨rfl, hw⟩; rw [hw])
              go_ret2
              exact ⟨⟨_, rfl, pu_over HP.out.hM HX.out⟩, HBl⟩
            · have d5 : ¬ (s[k].toNat : Int) ≤ 57 ∨ ¬ 48 ≤ (s[k].toNat : Int) := by omega
              rcases d5 with d5 | d5
              all_goals
                clear d1
                go_wp2_with (go_at_call 241; go_must (refine (Tryz.internal_strconv_lower _ _).mono ?_); rintro e w' ⟨rfl, hw⟩; rw [hw])
                all_goals (try go_ret2)
                all_goals exact ⟨⟨_, rfl, pu_over HP.out.hM HX.out⟩, HBl⟩
          · obtain ⟨m, hm⟩ : ∃ m : Nat, m = n * b' := ⟨_, rfl⟩
            have hmlt : m < 18446744073709551616 := by rw [hm]; exact HP.out.low n (by omega)
            have hwm : IntKind.u64.wrap ((n : Int) * B) = (m : Int) := by rw [HB.out, hm, ← Int.natCast_mul]; exact u64_of _ (by omega)
            rw [← hm] at HG HVn
            clear HO hm hsplit
            rcases HDIG.out with ⟨d1, d2, d3⟩ | ⟨d1, d2, d4⟩
            · go_wp2_with (go_at_call 241; go_must (refine (Tryz.internal_strconv_lower _ _).mono ?_); rintro e w' ⟨rfl, hw⟩; rw [hw])
              all_goals (first | (go_ret2; exact ⟨⟨_, rfl, pu_over HP.out.hM (HG.out _ (sum_over HP.out.hM HP.out.m64 hmlt hd15 (by omega)))⟩, HBl⟩) | (go_roundg g; (case measure => omega); (case rel => exact ⟨rfl, m + d, k + 1, by rw [sum_in HP.out.hM HP.out.m64 hmlt hd15 (by omega) (by omega)], rfl, by omega, HVn, sum_le HP.out.hM HP.out.m64 hmlt hd15 (by omega) (by omega), HR, HBl⟩)))
            · have d5 : ¬ (s[k].toNat : Int) ≤ 57 ∨ ¬ 48 ≤ (s[k].toNat : Int) := by omega
              have hq : (d : Int) + 87 - 97 + 10 = d := by omega
              rcases d5 with d5 | d5
              all_goals
                clear d1
                go_wp2_with (go_at_call 241; go_must (refine (Tryz.internal_strconv_lower _ _).mono ?_); rintro e w' ⟨rfl, hw⟩; rw [hw])
                all_goals (first | (go_ret2; exact ⟨⟨_, rfl, pu_over HP.out.hM (HG.out _ (sum_over HP.out.hM HP.out.m64 hmlt hd15 (by omega)))⟩, HBl⟩) | (go_roundg g; (case measure => omega); (case rel => exact ⟨rfl, m + d, k + 1, by rw [sum_in HP.out.hM HP.out.m64 hmlt hd15 (by omega) (by omega)], rfl, by omega, HVn, sum_le HP.out.hM HP.out.m64 hmlt hd15 (by omega) (by omega), HR, HBl⟩)))
theorem lib_ParseUint (s : ByteArray) (b bits : Nat) (w : World) (hs : s.size ≤ 1000000) (h0 : bl s ≠ []) (hbb : (b = 8 ∧ bits = 64) ∨ (b = 10 ∧ bits = 64) ∨ (b = 16 ∧ bits = 64) ∨ (b = 16 ∧ bits = 16)) (hall : Hid ((bl s).all (okDig b) = true)) :
    Calls Tryz.prog 238 #[.string s, .int .i64 b, .int .i64 bits] w fun e w' => (∃ v, e = .returned v ∧ PuEnd b bits (bl s) v) ∧ Hid (Bel w w') :=
  lib_ParseUint1 s b bits b bits rfl rfl w hs h0 hbb hall
end Go.Proofs.YtbpkkgaaeodimaaGreatDoor
namespace Go.Proofs.YtbpkkgaaeodimaaGreatDoor
open Go.RowKit

/-- What strconv.ParseUint hands back for digits of the base. -/
def PuE (b bits : Nat) (l : List UInt8) (v : Value) : Prop :=
  (valS b l < 2 ^ bits ∧ v = .tuple #[.int .u64 (valS b l : Nat), .nilIface]) ∨
  (2 ^ bits ≤ valS b l ∧ ∃ N, v = .tuple #[.int .u64 (2 ^ bits - 1 : Nat), .iface 240 (.pointer (some ⟨N, 0, none⟩))])
set_option maxHeartbeats 2000000 in
set_option maxRecDepth 100000 in
theorem lib_ParseUintP (s : ByteArray) (b bits : Nat) (w : World) (hs : s.size ≤ 1000000) (h0 : bl s ≠ []) (hbb : (b = 8 ∧ bits = 64) ∨ (b = 10 ∧ bits = 64) ∨ (b = 16 ∧ bits = 64) ∨ (b = 16 ∧ bits = 16)) (hall : Hid ((bl s).all (okDig b) = true)) (HE : Hid (Env w)) :
    Calls Tryz.prog 229 #[.string s, .int .i64 b, .int .i64 bits] w fun e w' => (∃ v, e = .returned v ∧ PuE b bits (bl s) v) ∧ Hid (Bel w w') := by
  have H0 := Lib.hid h0
  have HBB := Lib.hid hbb
  clear h0 hbb
  go_enter Tryz.func229, Tryz.ntmps229
  go_wp2_with fail
  refine (lib_ParseUint s b bits _ hs H0.out HBB.out hall).mono ?_
  rintro e w1 ⟨⟨v, rfl, hv⟩, HB1⟩
  unfold PuEnd at hv
  subst hv
  obtain ⟨er, hr, hr2⟩ := (HE.out.bel HB1.out).rang
  have HR := Lib.hid hr
  have HR2 := Lib.hid hr2
  clear hr hr2
  by_cases hlt : valS b (bl s) < 2 ^ bits
  · rw [if_pos hlt, cap_in hlt]
    have HL := Lib.hid hlt
    clear hlt
    go_wp2
    go_ret2
    exact ⟨⟨_, rfl, .inl ⟨HL.out, rfl⟩⟩, HB1⟩
  · rw [if_neg hlt, cap_over (by omega)]
    have HL := Lib.hid hlt
    clear hlt
    go_wp2_with fail
    refine (Tryz.strconv_toError_range _ s _ _ er _ (by omega) HR.out HR2.out).mono ?_
    rintro e w2 ⟨N, rfl, hN⟩
    have HB2 := Lib.hid hN.2.2
    clear hN
    go_wp2
    go_ret2
    exact ⟨⟨_, rfl, .inr ⟨Nat.le_of_not_lt HL.out, N, rfl⟩⟩, bel_trans HB1.out HB2.out⟩

def numB (l : List UInt8) : Nat := if hexS l then 16 else if 1 < l.length ∧ l.head? = some 48 then 8 else 10
def numR (l : List UInt8) : List UInt8 := if hexS l then l.drop 2 else if 1 < l.length ∧ l.head? = some 48 then l.drop 1 else l
/-- The number that a label spells. -/
def numberS (l : List UInt8) : Option Nat := if (numR l).all (okDig (numB l)) = true ∧ (hexS l = true ∨ numR l ≠ []) then some (valS (numB l) (numR l)) else none
def optC (cap : Nat) (o : Option Nat) : Int := match o with | none => 0 | some v => (min v cap : Nat)
theorem ok10 (x : UInt8) : okDig 10 x = isDec x := u8_all (by decide +kernel) x
theorem ok8 (x : UInt8) : okDig 8 x = isOct x := u8_all (by decide +kernel) x
theorem ok16 (x : UInt8) : okDig 16 x = isHex x := u8_all (by decide +kernel) x
/-- What a label's number is read by. -/
structure NumBy (s r : ByteArray) (b : Nat) : Prop where
  hr : bl r = numR (bl s)
  hb : numB (bl s) = b
  ne : hexS (bl s) = true → bl r ≠ []
  bb : b = 8 ∨ b = 10 ∨ b = 16
theorem NumBy.none_e {s r : ByteArray} {b : Nat} (h : NumBy s r b) (he : bl r = []) : numberS (bl s) = none := by
  unfold numberS
  rw [if_neg]
  rintro ⟨_, h2 | h2⟩
  · exact h.ne h2 he
  · exact h2 (by rw [← h.hr, he])
theorem NumBy.none_a {s r : ByteArray} {b : Nat} (h : NumBy s r b) (he : (bl r).all (okDig b) = false) : numberS (bl s) = none := by
  unfold numberS
  rw [if_neg]
  rw [← h.hr, h.hb, he]; simp
theorem NumBy.some {s r : ByteArray} {b : Nat} (h : NumBy s r b) (he : bl r ≠ []) (ha : (bl r).all (okDig b) = true) : numberS (bl s) = some (valS b (bl r)) := by
  unfold numberS
  rw [← h.hr, h.hb, if_pos ⟨ha, .inr he⟩]
theorem num_hex0 {s : ByteArray} (h : hexS (bl s) = true) (h2 : (bl s).drop 2 = []) : numberS (bl s) = some 0 := by
  unfold numberS
  have : numR (bl s) = [] := by unfold numR; rw [if_pos h, h2]
  rw [this, if_pos ⟨rfl, .inl h⟩]; rfl
theorem by_hex {s r : ByteArray} (h : hexS (bl s) = true) (hr : bl r = (bl s).drop 2) (h2 : bl r ≠ []) : NumBy s r 16 :=
  ⟨by unfold numR; rw [if_pos h, hr], by unfold numB; rw [if_pos h], fun _ => h2, by omega⟩
theorem by_oct {s r : ByteArray} (h : hexS (bl s) = false) (h1 : 1 < s.size) (hz : (s[0]'(by omega)).toNat = 48) (hr : bl r = (bl s).drop 1) : NumBy s r 8 := by
  have hh : 1 < (bl s).length ∧ (bl s).head? = some 48 := by
    rw [bl_length]; refine ⟨h1, ?_⟩
    rw [List.head?_eq_getElem?, bl_get s 0 (by omega)]; congr 1; exact UInt8.toNat_inj.1 hz
  exact ⟨by unfold numR; rw [if_neg (by rw [h]; simp), if_pos hh, hr], by unfold numB; rw [if_neg (by rw [h]; simp), if_pos hh], by rw [h]; simp, by omega⟩
theorem by_dec {s : ByteArray} (h : hexS (bl s) = false) (h1 : ∀ hlt : 1 < s.size, (s[0]'(by omega)).toNat ≠ 48) : NumBy s s 10 := by
  have hh : ¬ (1 < (bl s).length ∧ (bl s).head? = some 48) := by
    rw [bl_length]; rintro ⟨h2, h3⟩
    rw [List.head?_eq_getElem?, bl_get s 0 (by omega)] at h3
    exact h1 h2 (by rw [Option.some.inj h3]; rfl)
  exact ⟨by unfold numR; rw [if_neg (by rw [h]; simp), if_neg hh], by unfold numB; rw [if_neg (by rw [h]; simp), if_neg hh], by rw [h]; simp, by omega⟩
theorem opt_some (cap v : Nat) : optC cap (some v) = (min v cap : Nat) := rfl

set_option maxHeartbeats 2000000 in
set_option maxRecDepth 100000 in
theorem host_number (s : ByteArray) (w : World) (hs : s.size ≤ 1000000) (HE : Hid (Env w)) :
    Calls Tryz.prog 233 #[.string s] w fun e w' => e = .returned (.tuple #[.int .u64 (optC 18446744073709551615 (numberS (bl s))), .bool (numberS (bl s)).isSome]) ∧ Hid (Bel w w') := by
  go_enter Tryz.func233, Tryz.ntmps233
  go_wp2_with fail
  refine (host_hexed s _).mono ?_
  rintro e w2 ⟨⟨r, rfl, hr, hrz⟩, rfl⟩
  obtain ⟨h, hh⟩ : ∃ h, hexS (bl s) = h := ⟨_, rfl⟩
  rw [hh] at hr ⊢
  have HH := Lib.hid hh
  clear hh
  go_upto_if 15 with (fail)
  go_cut [0, 4, 5] (fun v0 v4 v5 wc => (∃ (q : ByteArray) (b : Nat) (t : ByteArray), v0 = .string q ∧ v4 = .int .i64 b ∧ v5 = .string t ∧ q.size ≤ s.size ∧ t.size ≤ 1000 ∧ Hid (NumBy s q b) ∧ Hid (Asc (bl t) ∧ ∀ x, (bl t).contains x = okDig b x)) ∧ w = wc)
  case first =>
    cases h
    · clear hr
      by_cases h1 : 1 < s.size
      · by_cases hz : ((s[0]'(by omega)).toNat : Int) = 48
        · have HZ := Lib.hid hz
          go_wp2
          go_meet
          exact ⟨⟨_, 8, _, rfl, rfl, rfl, by rw [ByteArray.size_extract]; omega, by decide, by_oct HH.out h1 (by have := HZ.out; omega) (by rw [bl_extract, List.take_of_length_le (by rw [List.length_drop, bl_length]; omega)]), (asc_of (by decide)).out, fun x => by rw [ok8]; exact oct_eq x⟩, rfl⟩
        · have HZ := Lib.hid hz
          have hz' : ((s[0]'(by omega)).toNat : Int) < 48 ∨ 48 < ((s[0]'(by omega)).toNat : Int) := by omega
          clear hz
          rcases hz' with hz' | hz'
          all_goals
            go_wp2
            go_meet
            exact ⟨⟨_, 10, _, rfl, rfl, rfl, Nat.le_refl _, by decide, by_dec HH.out (fun _ h => HZ.out (by omega)), (asc_of (by decide)).out, fun x => by rw [ok10]; exact dec_eq x⟩, rfl⟩
      · go_wp2
        go_meet
        exact ⟨⟨_, 10, _, rfl, rfl, rfl, Nat.le_refl _, by decide, by_dec HH.out (fun h => absurd h h1), (asc_of (by decide)).out, fun x => by rw [ok10]; exact dec_eq x⟩, rfl⟩
    · have hr' : Hid (bl r = (bl s).drop 2) := hr
      clear hr
      by_cases h0 : bl r = []
      · have h0' : r.toList.isEmpty = true := (str_empty r).2 h0
        have HN : Hid (numberS (bl s) = some 0) := num_hex0 HH.out (by rw [← hr'.out, h0])
        clear h0
        go_wp2
        go_ret2
        exact ⟨by rw [HN.out]; rfl, by apply Lib.hid; exact Below.refl _ _⟩
      · have h0' : r.toList.isEmpty = false := by rw [Bool.eq_false_iff, ne_eq, str_empty]; exact h0
        have H0 := Lib.hid h0
        clear h0
        go_wp2
        go_meet
        exact ⟨⟨_, 16, _, rfl, rfl, rfl, hrz, by decide, by_hex HH.out hr'.out H0.out, (asc_of (by decide)).out, fun x => by rw [ok16]; exact hex_eq x⟩, rfl⟩
  case rest =>
    obtain ⟨⟨q, b, t, rfl, rfl, rfl, hq, ht, HN, HT⟩, rfl⟩ := hcut
    clear hr hrz
    by_cases h0 : bl q = []
    · have h0' : q.toList.isEmpty = true := (str_empty q).2 h0
      have HF := Lib.hid (HN.out.none_e h0)
      clear h0
      go_wp2
      go_ret2
      exact ⟨by rw [HF.out]; rfl, by apply Lib.hid; exact Below.refl _ _⟩
    · have h0' : q.toList.isEmpty = false := by rw [Bool.eq_false_iff, ne_eq, str_empty]; exact h0
      have H0 := Lib.hid h0
      have HA : Hid ((bl q).all (bl t).contains = (bl q).all (okDig b)) := by unfold Hid; congr 1; funext x; exact HT.out.2 x
      clear h0
      go_wp2_with fail
      refine (host_all q t _ (by omega) ht HT.out.1 HE).mono ?_
      rintro e w1 ⟨rfl, HB1⟩
      rw [HA.out]
      cases ha : (bl q).all (okDig b)
      · have HF := Lib.hid (HN.out.none_a ha)
        clear ha
        go_wp2
        go_ret2
        exact ⟨by rw [HF.out]; rfl, HB1⟩
      · have HF := Lib.hid (HN.out.some H0.out ha)
        have HA2 := Lib.hid ha
        have HE1 := Lib.hid (HE.out.bel HB1.out)
        clear ha
        go_wp2_with fail
        refine (lib_ParseUintP q b 64 _ (by omega) H0.out (by have := HN.out.bb; omega) HA2 HE1).mono ?_
        rintro e w2 ⟨⟨v, rfl, hv⟩, HB2⟩
        have HB3 := Lib.hid (bel_trans HB1.out HB2.out)
        rcases hv with ⟨hlt, rfl⟩ | ⟨hge, N, rfl⟩
        · go_wp2
          go_ret2
          exact ⟨by rw [HF.out, opt_some, Nat.min_eq_left (by omega)]; rfl, HB3⟩
        · go_wp2
          go_ret2
          exact ⟨by rw [HF.out, opt_some, Nat.min_eq_right (by omega)]; rfl, HB3⟩
end Go.Proofs.YtbpkkgaaeodimaaGreatDoor
