import Derived.Test.YtpgehhnmlihnbaaGreatDoorXInfra
import Derived.Lib.OthersKept
import Derived.Laws.RangeAny
import Derived.Lib.SpaceU
import Derived.Lib.TrimU
import Derived.Lib.TrimUEq
import Derived.Lib.TrimAscii
namespace Go.Proofs.YtpgehhnmlihnbaaGreatDoor
open Go.RowKit

/-- A set of ASCII bytes. -/
def Asc (l : List UInt8) : Prop := ∀ x ∈ l, x.toNat < 128
theorem any_high {l : List UInt8} (h : Asc l) (c : Nat) (hc : 128 ≤ c) : (l.any fun y => (c : Int) == (y.toNat : Int)) = false := by
  rw [Bool.eq_false_iff]
  intro he
  obtain ⟨y, hy, e⟩ := List.any_eq_true.1 he
  have := h y hy
  have := beq_iff_eq.1 e
  omega
theorem mem_any' (l : List UInt8) (x : UInt8) : (l.any fun y => (x.toNat : Int) == (y.toNat : Int)) = l.contains x := by
  rw [← mem_any]; congr 1; funext y; exact BEq.comm
theorem bl_asc {t : ByteArray} (h : Asc (bl t)) (j : Nat) (hj : j < t.size) : t[j].toNat < 128 := h _ (List.mem_of_getElem? (bl_get t j hj))

set_option maxHeartbeats 2000000 in
set_option maxRecDepth 100000 in
theorem host_cutLeft (s t : ByteArray) (w : World) (hs : s.size ≤ 1099511627776) (_hts : t.size ≤ 1000) (ht : Hid (Asc (bl t))) :
    Calls Tryz.prog 71 #[.string s, .string t] w fun e w' => (∃ r, e = .returned (.string r) ∧ Hid (bl r = (bl s).dropWhile (bl t).contains) ∧ r.size ≤ s.size) ∧ Hid (Bel w w') := by
  go_enter Tryz.func71, Tryz.ntmps71
  go_wp2
  go_loopg [5] s.size (fun g _ wr => ∃ i : Nat, i + g = s.size ∧ Hid (wr.heap[w.heap.size]? = some (.stringIter s i)) ∧ Hid ((bl s).dropWhile (bl t).contains = ((bl s).drop i).dropWhile (bl t).contains) ∧ Hid (Bel w wr))
  case atStart => exact ⟨0, by omega, World.iter_heap w s 0, rfl, (Below.refl _ _).alloc (Nat.le_refl _) _⟩
  case round =>
    obtain ⟨i, hig, HW, HD, HB⟩ := hrel
    cases gk with
    | zero =>
      have hnx := fun ty => Lib.run_next_end_at (P := Tryz.prog) wr w.heap.size s i ty HW.out (by omega)
      go_wp2
      go_ret
      exact ⟨⟨_, rfl, by unfold Hid; rw [HD.out, bl_drop_end s i (by omega)]; rfl, Nat.zero_le _⟩, HB⟩
    | succ g =>
      have hi : i < s.size := by omega
      have hnx := fun ty => Lib.run_next_any_at (P := Tryz.prog) wr w.heap.size s i ty HW.out hi
      go_wp2
      clear hnx
      have HW1 := Lib.hid (Lib.iterAt_heap wr w.heap.size s i (i + (Utf8.decode s i).2) HW.out)
      have HB1 := Lib.hid (Lib.below_iterAt HB.out (Nat.le_refl _) s (i + (Utf8.decode s i).2))
      have hi2 : i < s.size := hi
      clear HW HB
      generalize wr.iterAt w.heap.size s (i + (Utf8.decode s i).2) = W1 at *
      have hlt := (Array.getElem?_eq_some_iff.1 HW1.out).1
      go_loopg [7] t.size (fun g' v wx => ∃ j : Nat, j + g' = t.size ∧ v = .bool (((bl t).take j).any fun y => (((Utf8.decode s i).1 : Nat) : Int) == (y.toNat : Int)) ∧ Hid (wx.heap[W1.heap.size]? = some (.stringIter t j)) ∧ Hid (wx.heap[w.heap.size]? = some (.stringIter s (i + (Utf8.decode s i).2))) ∧ Hid (Bel w wx))
      case atStart => exact ⟨0, by omega, rfl, World.iter_heap W1 t 0, by unfold Hid; rw [← HW1.out]; exact Below.heap_alloc _ _ _ hlt, HB1.out.alloc HB1.out.size _⟩
      case round =>
        obtain ⟨j, hj, rfl, HT, HS, HBx⟩ := hrel
        cases gk with
        | zero =>
          have hnx := fun ty => Lib.run_next_end_at (P := Tryz.prog) wr W1.heap.size t j ty HT.out (by omega)
          rw [List.take_of_length_le (by rw [bl_length]; omega)]
          by_cases hx : s[i].toNat < 128
          · have hd1 := Lib.hid (decode_ascii s i hi hx)
            have hb : ((bl t).any fun y => (((Utf8.decode s i).1 : Nat) : Int) == (y.toNat : Int)) = (bl t).contains s[i] := by rw [hd1.out]; exact mem_any' _ _
            rw [hb]
            clear hb
            cases hc : (bl t).contains s[i]
            · have HX : Hid ((bl s).dropWhile (bl t).contains = bl (s.extract i s.size)) := by
                unfold Hid; rw [HD.out, bl_extract, List.take_of_length_le (by rw [List.length_drop, bl_length]; omega), bl_drop s i hi, List.dropWhile_cons_of_neg (by rw [hc]; simp)]
              have hz : (s.extract i s.size).size ≤ s.size := by rw [ByteArray.size_extract]; omega
              clear HD
              go_wp2
              go_ret
              exact ⟨⟨_, rfl, HX.out.symm, hz⟩, HBx⟩
            · have HD1 : Hid ((bl s).dropWhile (bl t).contains = ((bl s).drop (i + 1)).dropWhile (bl t).contains) := by
                unfold Hid; rw [HD.out, bl_drop s i hi, List.dropWhile_cons_of_pos hc]
              clear HD
              go_wp2
              go_roundg g
              case measure => omega
              case rel => exact ⟨i + 1, by omega, by have := HS.out; rw [hd1.out] at this; exact this, HD1, HBx⟩
          · have hb : ((bl t).any fun y => (((Utf8.decode s i).1 : Nat) : Int) == (y.toNat : Int)) = false := any_high ht.out _ (decode_high s i hi (by omega)).1
            rw [hb]
            have hc : (bl t).contains s[i] = false := by
              rw [Bool.eq_false_iff]; intro h; exact hx (ht.out _ (List.contains_iff_mem.1 h))
            have HX : Hid ((bl s).dropWhile (bl t).contains = bl (s.extract i s.size)) := by
              unfold Hid; rw [HD.out, bl_extract, List.take_of_length_le (by rw [List.length_drop, bl_length]; omega), bl_drop s i hi, List.dropWhile_cons_of_neg (by rw [hc]; simp)]
            have hz : (s.extract i s.size).size ≤ s.size := by rw [ByteArray.size_extract]; omega
            clear HD hb hc
            go_wp2
            go_ret
            exact ⟨⟨_, rfl, HX.out.symm, hz⟩, HBx⟩
        | succ g' =>
          have hjl : j < t.size := by omega
          have hta := bl_asc ht.out j hjl
          have hnx := fun ty => Lib.run_next_ascii_at (P := Tryz.prog) wr W1.heap.size t j ty HT.out hjl hta
          have hT : Hid ((((bl t).take (j + 1)).any fun y => (((Utf8.decode s i).1 : Nat) : Int) == (y.toNat : Int)) = ((((bl t).take j).any fun y => (((Utf8.decode s i).1 : Nat) : Int) == (y.toNat : Int)) || ((((Utf8.decode s i).1 : Nat) : Int) == (t[j].toNat : Int)))) := any_take t j hjl
          have HTn := Lib.hid (Lib.iterAt_heap wr W1.heap.size t j (j + 1) HT.out)
          have HSn : Hid ((wr.iterAt W1.heap.size t (j + 1)).heap[w.heap.size]? = some (.stringIter s (i + (Utf8.decode s i).2))) := (Lib.iterAt_other wr W1.heap.size w.heap.size t (j + 1) (by omega)).trans HS.out
          have HBn := Lib.hid (Lib.below_iterAt HBx.out HB1.out.size t (j + 1))
          generalize (((bl t).take j).any fun y => (((Utf8.decode s i).1 : Nat) : Int) == (y.toNat : Int)) = b at *
          cases b
          all_goals
            go_wp2
            go_roundg g'
            case measure => omega
            case rel => exact ⟨j + 1, by omega, by rw [hT.out]; rfl, HTn, HSn, HBn⟩


theorem decodeLast_high (l : List UInt8) (x : UInt8) (hx : 128 ≤ x.toNat) : 128 ≤ (Lib.decodeLastL (l ++ [x])).1 := by
  unfold Lib.decodeLastL
  have h1 : (l ++ [x]).getD ((l ++ [x]).length - 1) 0 = x := by simp [List.getD]
  rw [if_neg (by simp), h1, if_neg (by omega)]
  simp only []
  split
  · rename_i hl
    have e := Lib.decodeL_drop ⟨(l ++ [x]).toArray⟩ (Lib.lastStart (l ++ [x]))
    dsimp only at e
    rw [e] at hl ⊢
    have hw := Lib.width_pos ⟨(l ++ [x]).toArray⟩ (Lib.lastStart (l ++ [x]))
    have hp : Lib.lastStart (l ++ [x]) < (⟨(l ++ [x]).toArray⟩ : ByteArray).size := by
      have : (⟨(l ++ [x]).toArray⟩ : ByteArray).size = (l ++ [x]).length := by rw [← bl_length, bl_mk]
      omega
    by_cases hb : ((⟨(l ++ [x]).toArray⟩ : ByteArray)[Lib.lastStart (l ++ [x])]'hp).toNat < 128
    · rw [decode_ascii _ _ hp hb] at hl
      simp only at hl
      exfalso
      have hg := bl_get ⟨(l ++ [x]).toArray⟩ _ hp
      rw [bl_mk] at hg
      have hq : (l ++ [x])[Lib.lastStart (l ++ [x])]? = some x := by
        have : Lib.lastStart (l ++ [x]) = l.length := by simp at hl; omega
        rw [this]; simp
      rw [hq] at hg
      rw [← Option.some.inj hg] at hb
      omega
    · exact (decode_high _ _ hp (by omega)).1
  · simp [Utf8.runeError]

def rstrip (p : UInt8 → Bool) (l : List UInt8) : List UInt8 := (l.reverse.dropWhile p).reverse
theorem rstrip_snoc (p : UInt8 → Bool) (l : List UInt8) (x : UInt8) : rstrip p (l ++ [x]) = if p x then rstrip p l else l ++ [x] := by
  unfold rstrip; rw [List.reverse_append]; simp only [List.reverse_cons, List.reverse_nil, List.nil_append, List.singleton_append, List.dropWhile_cons]
  split <;> simp
set_option maxHeartbeats 2000000 in
set_option maxRecDepth 100000 in
theorem host_cutRight (s t : ByteArray) (w : World) (hs : s.size ≤ 1099511627776) (_hts : t.size ≤ 1000) (ht : Hid (Asc (bl t))) (HE : Hid (Env w)) :
    Calls Tryz.prog 70 #[.string s, .string t] w fun e w' => (∃ r, e = .returned (.string r) ∧ Hid (bl r = rstrip (bl t).contains (bl s)) ∧ r.size ≤ s.size) ∧ Hid (Bel w w') := by
  go_enter Tryz.func70, Tryz.ntmps70
  go_wp2
  go_loopg [0] s.size (fun g v wr => ∃ r : ByteArray, v = .string r ∧ r.size ≤ s.size ∧ r.size ≤ g ∧ Hid (rstrip (bl t).contains (bl s) = rstrip (bl t).contains (bl r)) ∧ Hid (Bel w wr))
  case atStart => exact ⟨s, rfl, Nat.le_refl _, Nat.le_refl _, rfl, Below.refl _ _⟩
  case round =>
    obtain ⟨r, rfl, hr, hg, HD, HB⟩ := hrel
    by_cases h0 : 0 < r.size
    · obtain ⟨g, rfl⟩ : ∃ g, gk = g + 1 := ⟨gk - 1, by omega⟩
      obtain ⟨l, x, HL⟩ : ∃ l x, Hid (bl r = l ++ [x]) := by
        rcases List.eq_nil_or_concat (bl r) with h | ⟨l, x, h⟩
        · have := bl_length r; rw [h] at this; simp at this; omega
        · exact ⟨l, x, by rw [List.concat_eq_append] at h; exact h⟩
      have HDL : Hid ((Lib.decodeLastL r.data.toList).1 = x.toNat ∧ (Lib.decodeLastL r.data.toList).2 = 1 ∧ x.toNat < 128 ∨ 128 ≤ (Lib.decodeLastL r.data.toList).1 ∧ 128 ≤ x.toNat) := by
        show (Lib.decodeLastL (bl r)).1 = _ ∧ (Lib.decodeLastL (bl r)).2 = 1 ∧ _ ∨ 128 ≤ (Lib.decodeLastL (bl r)).1 ∧ _
        rw [HL.out]
        by_cases hx : x.toNat < 128
        · left; rw [Lib.decodeLastL_ascii _ _ hx]; exact ⟨rfl, rfl, hx⟩
        · right; exact ⟨decodeLast_high _ _ (by omega), by omega⟩
      have hm := Lib.hid (HE.out.bel HB.out).utf
      go_wp2_with (go_at_call 96; go_must (refine (Tryz.utf8_DecodeLastRuneInString _ _ (by omega) hm.out).mono ?_); rintro e W1 ⟨rfl, hb1⟩; have HB1 := Lib.hid hb1; clear hb1)
      generalize (Lib.decodeLastL r.data.toList).1 = c at *
      generalize (Lib.decodeLastL r.data.toList).2 = n at *
      have HB2 := Lib.hid (bel_trans HB.out HB1.out)
      clear HB HB1
      go_loopg [7] t.size (fun g' v wx => ∃ j : Nat, j + g' = t.size ∧ v = .bool (((bl t).take j).any fun y => (c : Int) == (y.toNat : Int)) ∧ Hid (wx.heap[W1.heap.size]? = some (.stringIter t j)) ∧ Hid (Bel w wx))
      case atStart => exact ⟨0, by omega, rfl, World.iter_heap W1 t 0, HB2.out.alloc HB2.out.size _⟩
      case round =>
        obtain ⟨j, hj, rfl, HT, HBx⟩ := hrel
        cases gk with
        | zero =>
          have hnx := fun ty => Lib.run_next_end_at (P := Tryz.prog) wr W1.heap.size t j ty HT.out (by omega)
          rw [List.take_of_length_le (by rw [bl_length]; omega)]
          have hr1 : r.size = l.length + 1 := by rw [← bl_length, HL.out]; simp
          rcases HDL.out with ⟨e1, e2, hx⟩ | ⟨hc, hx⟩
          · subst e1 e2
            rw [mem_any']
            have hS := rstrip_snoc (bl t).contains l x
            cases hc : (bl t).contains x
            · rw [hc] at hS
              have HX : Hid (rstrip (bl t).contains (bl s) = bl r) := by unfold Hid; rw [HD.out, HL.out, hS]; rfl
              clear HD hS hr1
              go_wp2
              go_ret
              exact ⟨⟨_, rfl, HX.out.symm, hr⟩, HBx⟩
            · rw [hc] at hS
              have HX : Hid (rstrip (bl t).contains (bl s) = rstrip (bl t).contains (bl (r.extract 0 l.length))) := by
                unfold Hid; rw [HD.out, HL.out, hS, bl_extract, HL.out]; simp
              have h2 : (r.size : Int) - 1 = l.length := by omega
              have hz : (r.extract 0 l.length).size = l.length := by rw [ByteArray.size_extract]; omega
              have h3 := Lib.hid hr1
              have h4 := Lib.hid hz
              have h5 := Lib.hid h2
              have h6 : l.length ≤ r.size := by omega
              clear HD hS hr1 hz h2
              go_wp2
              go_roundg g
              case measure => omega
              case rel => exact ⟨_, rfl, by rw [ByteArray.size_extract]; omega, by rw [ByteArray.size_extract]; have := h3.out; omega, by unfold Hid; rw [HX.out, show r.size - 1 = l.length by have := h3.out; omega], HBx⟩
          · rw [any_high ht.out c hc]
            have hn : (bl t).contains x = false := by
              rw [Bool.eq_false_iff]; intro h; have := ht.out _ (List.contains_iff_mem.1 h); omega
            have hS := rstrip_snoc (bl t).contains l x
            rw [hn] at hS
            have HX : Hid (rstrip (bl t).contains (bl s) = bl r) := by unfold Hid; rw [HD.out, HL.out, hS]; rfl
            clear HD hS hr1 hn
            go_wp2
            go_ret
            exact ⟨⟨_, rfl, HX.out.symm, hr⟩, HBx⟩
        | succ g' =>
          have hjl : j < t.size := by omega
          have hta := bl_asc ht.out j hjl
          have hnx := fun ty => Lib.run_next_ascii_at (P := Tryz.prog) wr W1.heap.size t j ty HT.out hjl hta
          have hT : Hid ((((bl t).take (j + 1)).any fun y => (c : Int) == (y.toNat : Int)) = ((((bl t).take j).any fun y => (c : Int) == (y.toNat : Int)) || ((c : Int) == (t[j].toNat : Int)))) := any_take t j hjl
          have HTn := Lib.hid (Lib.iterAt_heap wr W1.heap.size t j (j + 1) HT.out)
          have HBn := Lib.hid (Lib.below_iterAt HBx.out HB2.out.size t (j + 1))
          generalize (((bl t).take j).any fun y => (c : Int) == (y.toNat : Int)) = b at *
          cases b
          all_goals
            go_wp2
            go_roundg g'
            case measure => omega
            case rel => exact ⟨j + 1, by omega, by rw [hT.out]; rfl, HTn, HBn⟩
    · obtain rfl : r = ByteArray.empty := bl_inj (by rw [List.eq_nil_of_length_eq_zero (l := bl r) (by rw [bl_length]; omega)]; rfl)
      go_wp2
      go_ret
      exact ⟨⟨_, rfl, by unfold Hid; rw [HD.out]; rfl, Nat.zero_le _⟩, HB⟩


theorem dropWhile_nil {p : UInt8 → Bool} : ∀ {l : List UInt8}, l.dropWhile p = [] ↔ l.all p = true
  | [] => by simp
  | x :: l => by
    rw [List.dropWhile_cons]
    cases h : p x
    · simp [h]
    · simp [h, dropWhile_nil (l := l)]
theorem strip_all (p : UInt8 → Bool) (l : List UInt8) : (rstrip p (l.dropWhile p)).isEmpty = l.all p := by
  rw [Bool.eq_iff_iff, List.isEmpty_iff, rstrip, List.reverse_eq_nil_iff, dropWhile_nil, List.all_reverse]
  cases h : l.all p
  · simp only [Bool.false_eq_true, iff_false]
    intro h2
    have hne : l.dropWhile p ≠ [] := fun e => by rw [dropWhile_nil.1 e] at h; cases h
    have := List.head_dropWhile_not (p := p) (l := l) hne
    rw [List.all_eq_true.1 h2 _ (List.head_mem hne)] at this
    cases this
  · rw [dropWhile_nil.2 h]; simp
theorem empty_of (t : ByteArray) (b : Bool) (h : (bl t).isEmpty = b) : (t.toList == ([] : List UInt8)) = b := by rw [toList_bl, ← h]; cases bl t <;> rfl
set_option maxHeartbeats 1000000 in
theorem host_all (s t : ByteArray) (w : World) (hs : s.size ≤ 1099511627776) (hts : t.size ≤ 1000) (ht : Hid (Asc (bl t))) (HE : Hid (Env w)) :
    Calls Tryz.prog 39 #[.string s, .string t] w fun e w' => e = .returned (.bool ((bl s).all (bl t).contains)) ∧ Hid (Bel w w') := by
  go_enter Tryz.func39, Tryz.ntmps39
  go_wp2_with fail
  refine (host_cutLeft s t _ hs hts ht).mono ?_
  rintro e w1 ⟨⟨r, rfl, hr, hz⟩, HB1⟩
  go_wp2_with fail
  have HE1 := Lib.hid (HE.out.bel HB1.out)
  refine (host_cutRight r t _ (by omega) hts ht HE1).mono ?_
  rintro e w2 ⟨⟨u, rfl, hu, hz2⟩, HB2⟩
  have hX : Hid (u.toList.isEmpty = (bl s).all (bl t).contains) := by unfold Hid; rw [toList_bl, hu.out, hr.out, strip_all]
  go_wp2
  go_ret
  refine ⟨ret_bool ?_, bel_trans HB1.out HB2.out⟩
  first | exact hX.out | (rw [← hX.out]; rfl)

theorem hasPrefix_eq (s t : ByteArray) : Lib.hasPrefix s.data.toList t.data.toList = begins (bl s) (bl t) := by
  show (bl t).isPrefixOf (bl s) = begins (bl s) (bl t)
  unfold begins
  rw [Bool.eq_iff_iff, List.isPrefixOf_iff_prefix, List.prefix_iff_eq_take]
  simp only [Bool.and_eq_true, decide_eq_true_eq, beq_iff_eq]
  constructor
  · intro h; exact ⟨by have := congrArg List.length h; rw [List.length_take] at this; omega, h.symm⟩
  · exact fun h => h.2.symm
def hexS (l : List UInt8) : Bool := begins l [48, 120] || begins l [48, 88]
set_option maxHeartbeats 2000000 in
theorem host_hexed (s : ByteArray) (w : World) : Calls Tryz.prog 38 #[.string s] w fun e w' => (∃ r, e = .returned (.tuple #[.string r, .bool (hexS (bl s))]) ∧ Hid (bl r = if hexS (bl s) then (bl s).drop 2 else []) ∧ r.size ≤ s.size) ∧ w = w' := by
  have h1 := hasPrefix_eq s ⟨#[48, 120]⟩
  have h2 := hasPrefix_eq s ⟨#[48, 88]⟩
  have hsz : hexS (bl s) = true → 2 ≤ s.size := by
    intro h
    unfold hexS begins at h
    simp only [Bool.or_eq_true, Bool.and_eq_true, decide_eq_true_eq, List.length_cons, List.length_nil, bl_length] at h
    omega
  have e1 : bl ⟨#[48, 120]⟩ = [48, 120] := rfl
  have e2 : bl ⟨#[48, 88]⟩ = [48, 88] := rfl
  rw [e1] at h1
  rw [e2] at h2
  have hS := Lib.hid (show hexS (bl s) = (begins (bl s) [48, 120] || begins (bl s) [48, 88]) from rfl)
  have HZ := Lib.hid hsz
  clear hsz e1 e2
  generalize begins (bl s) [48, 120] = a at *
  generalize begins (bl s) [48, 88] = b at *
  cases a <;> cases b
  all_goals
    go_enter Tryz.func38, Tryz.ntmps38
    have hX : hexS (bl s) = _ := hS.out
    simp only [Bool.or_true, Bool.or_false] at hX
    rw [hX]
    have hz := HZ.out
    rw [hX] at hz
    clear hX
    simp only [forall_const, Bool.false_eq_true, false_implies] at hz
    go_wp2_with (go_at_call 40; go_must (refine (Tryz.strings_HasPrefix _ _ _).mono ?_); rintro e w' ⟨rfl, hw⟩; rw [hw])
    go_ret2
    first
      | exact ⟨⟨_, rfl, by unfold Hid; (try rw [if_pos rfl]); rw [bl_extract, List.take_of_length_le (by rw [List.length_drop, bl_length]; omega)], by rw [ByteArray.size_extract]; omega⟩, rfl⟩
      | exact ⟨⟨_, rfl, by unfold Hid; (try rw [if_neg (by simp)]); rfl, Nat.zero_le _⟩, rfl⟩

end Go.Proofs.YtpgehhnmlihnbaaGreatDoor
