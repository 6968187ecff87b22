import Derived.Test.YtbpkkgaaeodimaaGreatDoorXG08
import Derived.Shelf.Strings.Builder1
namespace Go.Proofs.YtbpkkgaaeodimaaGreatDoor
open Go.RowKit

def shiftI (k : Nat) (r : Int) : Int := if r = -1 then -1 else r + k
theorem idx_hit (r : List UInt8) : Lib.index (58 :: 58 :: r) [58, 58] = 0 := by unfold Lib.index; simp
theorem index_ge : ∀ (l sub : List UInt8), -1 ≤ Lib.index l sub := fun l sub => by
  rcases Lib.index_spec l sub with ⟨h, _⟩ | ⟨i, h, _⟩ <;> omega
theorem idx_step (x : UInt8) (r : List UInt8) (h : ¬ (x = 58 ∧ r.head? = some 58)) : Lib.index (x :: r) [58, 58] = shiftI 1 (Lib.index r [58, 58]) := by
  have hp : ([58, 58] : List UInt8).isPrefixOf (x :: r) = false := by
    rw [Bool.eq_false_iff]; intro hh
    cases r with
    | nil => simp [List.isPrefixOf] at hh
    | cons y r => simp [List.isPrefixOf] at hh; exact h ⟨hh.1.symm, by simp [hh.2.symm]⟩
  conv => lhs; unfold Lib.index
  rw [hp]
  unfold shiftI
  by_cases h1 : Lib.index r [58, 58] = -1
  · simp [h1]
  · simp [h1]
theorem idx_short (l : List UInt8) (h : l.length ≤ 1) : Lib.index l [58, 58] = -1 := by
  match l, h with
  | [], _ => rfl
  | [x], _ => rw [idx_step x [] (by simp)]; rfl
theorem shift_shift (k : Nat) (r : Int) (h : -1 ≤ r) : shiftI k (shiftI 1 r) = shiftI (k + 1) r := by
  unfold shiftI
  split <;> (try split) <;> (try split) <;> omega
theorem built0 : (Tryz.prog.built 150 []).getD #[] = (u16s zeros8).toArray := by kernel_rfl
theorem built1 : (Tryz.prog.built 150 []).isSome = true := by kernel_rfl
theorem build8 {ops : Array Oper} {Q : Exit → Act → World → Prop} {a : Act} {rest : List Oper} {o : Oper} {W : World} (hgd : o.guard = none) (ho : o.op = .build 150 #[])
    (h : wpList Tryz.prog ops Q rest (a.put o.dst (.agg (u16s zeros8).toArray)) W) : wpList Tryz.prog ops Q (o :: rest) a W := by
  have e : ∀ f : Nat × Operand → Nat × Value, (Array.map f #[]).toList = [] := fun f => by simp
  refine wpList_build hgd _ _ ho ?_ ?_
  · rw [e]; exact built1
  · rw [e, built0]; exact h
set_option maxHeartbeats 4000000 in
set_option maxRecDepth 100000 in
theorem ref2_Six (s : ByteArray) (w : World) (hs : s.size ≤ 1000000) :
    Calls Tryz.prog 150 #[.string s] w fun e w' => e = .returned (.tuple #[sixV (sixS (bl s)), .bool (sixS (bl s)).isSome]) ∧ Hid (Bel w w') := by
  go_enter Tryz.func150, Tryz.ntmps150
  go_upto_block 0 with (fail)
  have hg1 : ((w.alloc zeroCells).alloc zeroCells).heap[w.heap.size]? = some zeroCells := (alloc_old _ _ _ (by simp)).trans (alloc_at _ _)
  have hg2 : ((w.alloc zeroCells).alloc zeroCells).heap[w.heap.size + 1]? = some zeroCells := by
    have e : (w.alloc zeroCells).heap.size = w.heap.size + 1 := by simp
    rw [← e]; exact alloc_at _ _
  have HB0 : Hid (Bel w ((w.alloc zeroCells).alloc zeroCells)) := ((Below.refl _ w).alloc (Nat.le_refl _) _).alloc (by simp) _
  have hsz0 : ((w.alloc zeroCells).alloc zeroCells).heap.size = w.heap.size + 2 := by simp
  change Code.wp _ _ _ _ ((w.alloc zeroCells).alloc zeroCells)
  generalize (w.alloc zeroCells).alloc zeroCells = w0 at *
  have HG1 := Lib.hid hg1
  have HG2 := Lib.hid hg2
  have HSZ := Lib.hid hsz0
  clear hg1 hg2 hsz0
  go_cut [5] (fun v5 wc => v5 = .int .i64 (Lib.index (bl s) [58, 58]) ∧ w0 = wc)
  case first =>
    go_wp2_with fail
    go_loopg [5, 6] s.size (fun r v5 v6 wr => ∃ (k : Nat), v5 = .int .i64 (-1) ∧ v6 = .int .i64 k ∧ k + r = s.size ∧ Hid (Lib.index (bl s) [58, 58] = shiftI k (Lib.index ((bl s).drop k) [58, 58])) ∧ w0 = wr)
    case atStart => exact ⟨0, rfl, rfl, by omega, by unfold Hid shiftI; rw [List.drop_zero]; split <;> omega, rfl⟩
    case round =>
      obtain ⟨k, rfl, rfl, hk, HI, rfl⟩ := hrel
      by_cases hlt : k + 1 < s.size
      · have hI := HI.out
        rw [bl_drop s k (by omega)] at hI
        clear HI
        have h0 : k < s.size := by omega
        by_cases h58 : s[k] = 58 ∧ s[k + 1] = 58
        · rw [bl_drop s (k + 1) hlt, h58.1, h58.2, idx_hit] at hI
          have HX : Hid (Lib.index (bl s) [58, 58] = k) := by unfold Hid; rw [hI]; unfold shiftI; rw [if_neg (by omega)]; omega
          have c1 : (s[k].toNat : Int) = 58 := by rw [h58.1]; rfl
          have c2 : (s[k + 1].toNat : Int) = 58 := by rw [h58.2]; rfl
          clear h58 hI
          go_wp2
          go_meet
          exact ⟨by rw [HX.out], rfl⟩
        · have HX : Hid (Lib.index (bl s) [58, 58] = shiftI (k + 1) (Lib.index ((bl s).drop (k + 1)) [58, 58])) := by
            unfold Hid
            rw [hI, idx_step _ _ (by rw [bl_drop s (k + 1) hlt]; simpa using h58), shift_shift _ _ (index_ge _ _)]
          clear hI
          cases gk with
          | zero => omega
          | succ q =>
            by_cases c1 : (s[k].toNat : Int) = 58
            · have c2 : ((s[k + 1].toNat : Int) == 58) = false := by
                rw [beq_eq_false_iff_ne]; intro h
                exact h58 ⟨UInt8.toNat_inj.1 (by have : (58 : UInt8).toNat = 58 := rfl; omega), UInt8.toNat_inj.1 (by have : (58 : UInt8).toNat = 58 := rfl; omega)⟩
              clear h58
              go_wp2
              go_roundg q
              case measure => omega
              case rel => exact ⟨k + 1, rfl, rfl, by omega, HX, rfl⟩
            · have c2 : ((s[k].toNat : Int) == 58) = false := by rw [beq_eq_false_iff_ne]; exact c1
              clear h58 c1
              go_wp2
              go_roundg q
              case measure => omega
              case rel => exact ⟨k + 1, rfl, rfl, by omega, HX, rfl⟩
      · have HX : Hid (Lib.index (bl s) [58, 58] = -1) := by unfold Hid; rw [HI.out, idx_short _ (by rw [List.length_drop, bl_length]; omega)]; rfl
        go_wp2
        go_meet
        exact ⟨by rw [HX.out], rfl⟩
  case rest =>
  obtain ⟨rfl, rfl⟩ := hcut
  have HS : Hid (sixS (bl s) = sixJ (Lib.cut (bl s) [58, 58]).2.2 (pieces6S (!(Lib.cut (bl s) [58, 58]).2.2) (Lib.cut (bl s) [58, 58]).1) (pieces6S true (Lib.cut (bl s) [58, 58]).2.1)) := rfl
  by_cases hneg : Lib.index (bl s) [58, 58] < 0
  · have hc : Lib.cut (bl s) [58, 58] = (bl s, [], false) := by unfold Lib.cut; rw [if_neg (by omega)]
    rw [hc] at HS
    have HS : Hid (sixS (bl s) = sixJ false (pieces6S true (bl s)) (some [])) := HS.out
    clear hc
    go_wp2_with fail
    refine (ref2_pieces s true _ hs).mono ?_
    rintro e w3 ⟨⟨v1, rfl, ⟨A1, l1, c1, rfl⟩, hv1⟩, HB4⟩
    have HV1 := Lib.hid hv1
    clear hv1
    have HPL : Hid (∀ x, pieces6S true (bl s) = some x → x.length ≤ 1000002) := fun x h => by have := pieces6_len h; rw [bl_length] at this; omega
    generalize pieces6S true (bl s) = P at *
    have HB5 := Lib.hid (bel_trans HB0.out HB4.out)
    have hk1 : w3.heap[w.heap.size]? = some zeroCells := (HB4.out.block _ (by rw [HSZ.out]; omega)).trans HG1.out
    have hk2 : w3.heap[w.heap.size + 1]? = some zeroCells := (HB4.out.block _ (by rw [HSZ.out]; omega)).trans HG2.out
    have HK1 := Lib.hid hk1
    have HK2 := Lib.hid hk2
    clear hk1 hk2
    cases P with
    | none =>
      have HF : Hid (sixS (bl s) = none) := HS.out
      go_wp2_with (first | (refine load8 rfl _ (by exact rfl) (w.heap.size + 1) (by exact rfl) zeros8 rfl HK2.out ?_) | (refine store8 (w0 := w) w.heap.size rfl _ _ (by exact rfl) w.heap.size (by exact rfl) zeros8 zeros8 rfl rfl (by exact rfl) HK1.out HB5 (Nat.le_refl _) ?_; intro w4 HK4 HB6))
      exact bodyPost_ret (results_row_tmp rfl _ _ w.heap.size _ _ _ _ (by exact rfl) HK4.out Tryz.underlying150 rfl (by rw [info27]; rfl)) rfl ⟨by rw [HF.out]; rfl, HB6⟩
    | some x =>
      obtain ⟨_, _, hx⟩ := (HV1.out x rfl).shape
      have hl1 : l1 = x.length := by injection hx with _ h _; rw [h]; simp [u16s]
      clear hx
      subst hl1
      have HX2 := Lib.hid (HV1.out x rfl)
      clear HV1
      have hxl := HPL.out x rfl
      have HJ : Hid (sixS (bl s) = if (!false && x.length != 8 || false && decide (8 ≤ x.length + ([] : List Nat).length)) = true then none else some (x ++ (List.replicate (8 - x.length - ([] : List Nat).length) 0 ++ ([] : List Nat)))) := HS.out
      have HXP : Hid (0 < x.length → ∃ g2, A1 = some ⟨g2, 0, none⟩ ∧ g2 ≠ w.heap.size + 1 ∧ RdAt w3 g2 (u16s x)) := by
        intro h
        obtain ⟨g2, c, he, hb, hr, _⟩ := HX2.out.row (by intro h2; have := congrArg List.length h2; simp [u16s] at this; rw [this] at h; simp at h)
        injection he with h1
        have hs2 := HSZ.out
        exact ⟨g2, h1, by omega, hr.rd⟩
      by_cases h8 : x.length = 8
      · have hb : ((x.length : Int) == 8) = true := by rw [beq_iff_eq]; omega
        have hb3 : (x.length : Int) = 8 := by omega
        have HF : Hid (sixS (bl s) = some x) := HJ.out.trans (by rw [if_neg (by simp [h8])]; simp [h8])
        have hx8 : x.length ≤ 8 := by omega
        have H8 := Lib.hid h8
        clear h8
        go_upto_region 12 with (fail)
        clear hb hb3
        have HSP : Hid (splice zeros8 0 x = x) := by unfold Hid splice; have := H8.out; simp [zeros8, this]
        go_wp2_with (first | (refine copy16 (w0 := w) w.heap.size rfl _ _ (by exact rfl) _ A1 8 8 x.length c1 (by exact rfl) (by exact rfl) (w.heap.size + 1) 0 zeros8 HK2.out x (by show x.length = min x.length 8; omega) (fun h => ⟨rfl, by obtain ⟨g2, h1, _, h3⟩ := HXP.out h; exact ⟨g2, h1, h3⟩⟩) (by show 0 + x.length ≤ 8; omega) HB5 (by omega) ?_; intro w5 HK5 HB7 HO5; rw [HSP.out] at HK5) | (refine load8 rfl _ (by exact rfl) (w.heap.size + 1) (by exact rfl) _ H8.out HK5.out ?_) | (refine store8 (w0 := w) w.heap.size rfl _ _ (by exact rfl) w.heap.size (by exact rfl) _ zeros8 H8.out rfl (by exact rfl) ((HO5.out _ (by omega)).trans HK1.out) HB7 (Nat.le_refl _) ?_; intro w6 HK6 HB8))
        exact bodyPost_ret (results_row_tmp rfl _ _ w.heap.size _ _ _ _ (by exact rfl) HK6.out Tryz.underlying150 rfl (by rw [info27]; congr 1; have := H8.out; simp [u16s] at this ⊢; omega)) rfl ⟨by rw [HF.out]; rfl, HB8⟩
      · have HF : Hid (sixS (bl s) = none) := HJ.out.trans (if_pos (by simp [h8]))
        have hb : ((x.length : Int) == 8) = false := by rw [beq_eq_false_iff_ne]; omega
        have hb2 : ((x.length : Int) != 8) = true := by simp; omega
        have hb3 : ¬ (x.length : Int) = 8 := by omega
        clear h8
        go_wp2_with (first | (refine load8 rfl _ (by exact rfl) (w.heap.size + 1) (by exact rfl) zeros8 rfl HK2.out ?_) | (refine store8 (w0 := w) w.heap.size rfl _ _ (by exact rfl) w.heap.size (by exact rfl) zeros8 zeros8 rfl rfl (by exact rfl) HK1.out HB5 (Nat.le_refl _) ?_; intro w4 HK4 HB6))
        exact bodyPost_ret (results_row_tmp rfl _ _ w.heap.size _ _ _ _ (by exact rfl) HK4.out Tryz.underlying150 rfl (by rw [info27]; rfl)) rfl ⟨by rw [HF.out]; rfl, HB6⟩
  · obtain ⟨i, hi⟩ : ∃ i : Nat, Lib.index (bl s) [58, 58] = i := ⟨(Lib.index (bl s) [58, 58]).toNat, by omega⟩
    have hroom := Lib.index_room (bl s) [58, 58] (by omega)
    rw [hi, bl_length] at hroom
    have hroom2 : i + 2 ≤ s.size := by have : ([58, 58] : List UInt8).length = 2 := rfl; omega
    have hc : Lib.cut (bl s) [58, 58] = (bl (s.extract 0 i), bl (s.extract (i + 2) s.size), true) := by
      unfold Lib.cut
      rw [if_pos (by omega), hi, bl_extract, bl_extract]
      simp only [Int.toNat_natCast, List.drop_zero, Nat.sub_zero, List.length_cons, List.length_nil]
      rw [List.take_of_length_le (i := s.size - (i + 2)) (by rw [List.length_drop, bl_length]; omega)]
    rw [hc] at HS
    rw [hi]
    have HS : Hid (sixS (bl s) = sixJ true (pieces6S false (bl (s.extract 0 i))) (pieces6S true (bl (s.extract (i + 2) s.size)))) := HS.out
    have hza : (s.extract 0 i).size ≤ s.size := by rw [ByteArray.size_extract]; omega
    have hzb : (s.extract (i + 2) s.size).size ≤ s.size := by rw [ByteArray.size_extract]; omega
    clear hc hi hneg hroom
    go_wp2_with fail
    refine (ref2_pieces (s.extract 0 i) false _ (by omega)).mono ?_
    rintro e w2 ⟨⟨v1, rfl, ⟨A1, l1, c1, rfl⟩, hv1⟩, HB2⟩
    have HV1 := Lib.hid hv1
    clear hv1
    go_wp2_with fail
    refine (ref2_pieces (s.extract (i + 2) s.size) true _ (by omega)).mono ?_
    rintro e w3 ⟨⟨v2, rfl, ⟨A2, l2, c2, rfl⟩, hv2⟩, HB3⟩
    have HV2 := Lib.hid hv2
    clear hv2
    have HPL : Hid (∀ x, pieces6S false (bl (s.extract 0 i)) = some x → x.length ≤ 1000002) := fun x h => by have := pieces6_len h; rw [bl_length] at this; omega
    have HQL : Hid (∀ x, pieces6S true (bl (s.extract (i + 2) s.size)) = some x → x.length ≤ 1000002) := fun x h => by have := pieces6_len h; rw [bl_length] at this; omega
    generalize pieces6S false (bl (s.extract 0 i)) = P at *
    generalize pieces6S true (bl (s.extract (i + 2) s.size)) = Q at *
    have HB4 := Lib.hid (bel_trans HB2.out HB3.out)
    have HB5 := Lib.hid (bel_trans HB0.out HB4.out)
    have hk1 : w3.heap[w.heap.size]? = some zeroCells := (HB4.out.block _ (by rw [HSZ.out]; omega)).trans HG1.out
    have hk2 : w3.heap[w.heap.size + 1]? = some zeroCells := (HB4.out.block _ (by rw [HSZ.out]; omega)).trans HG2.out
    have HK1 := Lib.hid hk1
    have HK2 := Lib.hid hk2
    clear hk1 hk2
    cases P with
    | none =>
      have HF : Hid (sixS (bl s) = none) := HS.out
      go_wp2_with (first | (refine build8 rfl (by exact rfl) ?_) | (refine load8 rfl _ (by exact rfl) (w.heap.size + 1) (by exact rfl) zeros8 rfl HK2.out ?_) | (refine store8 (w0 := w) w.heap.size rfl _ _ (by exact rfl) w.heap.size (by exact rfl) zeros8 zeros8 rfl rfl (by exact rfl) HK1.out HB5 (Nat.le_refl _) ?_; intro w4 HK4 HB6))
      exact bodyPost_ret (results_row_tmp rfl _ _ w.heap.size _ _ _ _ (by exact rfl) HK4.out Tryz.underlying150 rfl (by rw [info27]; rfl)) rfl ⟨by rw [HF.out]; rfl, HB6⟩
    | some x =>
      cases Q with
      | none =>
        have HF : Hid (sixS (bl s) = none) := HS.out
        go_wp2_with (first | (refine build8 rfl (by exact rfl) ?_) | (refine load8 rfl _ (by exact rfl) (w.heap.size + 1) (by exact rfl) zeros8 rfl HK2.out ?_) | (refine store8 (w0 := w) w.heap.size rfl _ _ (by exact rfl) w.heap.size (by exact rfl) zeros8 zeros8 rfl rfl (by exact rfl) HK1.out HB5 (Nat.le_refl _) ?_; intro w4 HK4 HB6))
        exact bodyPost_ret (results_row_tmp rfl _ _ w.heap.size _ _ _ _ (by exact rfl) HK4.out Tryz.underlying150 rfl (by rw [info27]; rfl)) rfl ⟨by rw [HF.out]; rfl, HB6⟩
      | some y =>
        obtain ⟨_, _, hx⟩ := (HV1.out x rfl).shape
        obtain ⟨_, _, hy⟩ := (HV2.out y rfl).shape
        have hl1 : l1 = x.length := by injection hx with _ h _; rw [h]; simp [u16s]
        have hl2 : l2 = y.length := by injection hy with _ h _; rw [h]; simp [u16s]
        clear hx hy
        subst hl1 hl2
        have HX2 := Lib.hid ((HV1.out x rfl).bel HB3.out)
        have HY2 := Lib.hid (HV2.out y rfl)
        clear HV1 HV2
        have hxl := HPL.out x rfl
        have hyl := HQL.out y rfl
        have HJ : Hid (sixS (bl s) = if (!true && x.length != 8 || true && decide (8 ≤ x.length + y.length)) = true then none else some (x ++ (List.replicate (8 - x.length - y.length) 0 ++ y))) := HS.out
        have HXP : Hid (0 < x.length → ∃ g2, A1 = some ⟨g2, 0, none⟩ ∧ g2 ≠ w.heap.size + 1 ∧ RdAt w3 g2 (u16s x)) := by
          intro h
          obtain ⟨g2, c, he, hb, hr, _⟩ := HX2.out.row (by intro h2; have := congrArg List.length h2; simp [u16s] at this; rw [this] at h; simp at h)
          injection he with h1
          have hs2 := HSZ.out
          exact ⟨g2, h1, by omega, hr.rd⟩
        have HYP : Hid (0 < y.length → ∃ g2, A2 = some ⟨g2, 0, none⟩ ∧ g2 ≠ w.heap.size + 1 ∧ RdAt w3 g2 (u16s y)) := by
          intro h
          obtain ⟨g2, c, he, hb, hr, _⟩ := HY2.out.row (by intro h2; have := congrArg List.length h2; simp [u16s] at this; rw [this] at h; simp at h)
          injection he with h1
          have hs2 := HSZ.out
          have h3 := HB2.out.size
          exact ⟨g2, h1, by omega, hr.rd⟩
        by_cases h8 : 8 ≤ x.length + y.length
        · have HF : Hid (sixS (bl s) = none) := HJ.out.trans (if_pos (by simp [h8]))
          have h8' : 8 ≤ (x.length : Int) + (y.length : Int) := by omega
          clear h8
          go_wp2_with (first | (refine build8 rfl (by exact rfl) ?_) | (refine load8 rfl _ (by exact rfl) (w.heap.size + 1) (by exact rfl) zeros8 rfl HK2.out ?_) | (refine store8 (w0 := w) w.heap.size rfl _ _ (by exact rfl) w.heap.size (by exact rfl) zeros8 zeros8 rfl rfl (by exact rfl) HK1.out HB5 (Nat.le_refl _) ?_; intro w4 HK4 HB6))
          exact bodyPost_ret (results_row_tmp rfl _ _ w.heap.size _ _ _ _ (by exact rfl) HK4.out Tryz.underlying150 rfl (by rw [info27]; rfl)) rfl ⟨by rw [HF.out]; rfl, HB6⟩
        · have HF : Hid (sixS (bl s) = some (x ++ (List.replicate (8 - x.length - y.length) 0 ++ y))) := HJ.out.trans (if_neg (by simp [h8]))
          have h8' : (x.length : Int) + (y.length : Int) ≤ 7 := by omega
          have hx8 : x.length ≤ 7 := by omega
          have hy8 : (y.length : Int) ≤ 7 := by omega
          clear h8
          go_upto_region 19 with (refine copy16 (w0 := w) w.heap.size rfl _ _ (by exact rfl) _ A1 8 8 x.length c1 (by exact rfl) (by exact rfl) (w.heap.size + 1) 0 zeros8 HK2.out x (by show x.length = min x.length 8; omega) (fun h => ⟨rfl, by obtain ⟨g2, h1, _, h3⟩ := HXP.out h; exact ⟨g2, h1, h3⟩⟩) (by show 0 + x.length ≤ 8; omega) HB5 (by omega) ?_; intro w4 HK3 HB6 HO4)
          have HK4 : Hid (w4.heap[w.heap.size]? = some zeroCells) := (HO4.out _ (by omega)).trans HK1.out
          have hsl : (splice zeros8 0 x).length = 8 := length_splice _ _ _ (by show 0 + x.length ≤ 8; omega)
          have HSL := Lib.hid hsl
          clear hsl
          have HSP : Hid (splice (splice zeros8 0 x) (8 - y.length) y = x ++ (List.replicate (8 - x.length - y.length) 0 ++ y)) := splice_six x y (by omega)
          have hl9 : (splice (splice zeros8 0 x) (8 - y.length) y).length = 8 := by
            rw [length_splice _ _ _ (by rw [HSL.out]; omega)]; exact HSL.out
          have HL9 := Lib.hid hl9
          have HYP4 : Hid (0 < y.length → ∃ g2, A2 = some ⟨g2, 0, none⟩ ∧ RdAt w4 g2 (u16s y)) := fun h => by
            obtain ⟨g2, h1, h2, h3⟩ := HYP.out h
            exact ⟨g2, h1, h3.other h2 HO4.out⟩
          clear hl9
          by_cases hy0 : 0 < y.length
          · have hoff : (8 : Int) - y.length = ((8 - y.length : Nat) : Int) := by omega
            have HOF := Lib.hid hoff
            clear hoff
            go_wp2_with (first | (refine slice_arr rfl _ _ (by exact rfl) (w.heap.size + 1) _ (8 - y.length) (by exact rfl) (by exact rfl) HOF.out (by omega) ?_) | (refine copy16 (w0 := w) w.heap.size rfl _ _ (by exact rfl) _ A2 _ _ y.length c2 (by exact rfl) (by exact rfl) (w.heap.size + 1) (8 - y.length) (splice zeros8 0 x) HK3.out y (by show y.length = min y.length _; omega) (fun h => ⟨rfl, HYP4.out h⟩) (by rw [HSL.out]; omega) HB6 (by omega) ?_; intro w5 HK5 HB7 HO5) | (refine load8 rfl _ (by exact rfl) (w.heap.size + 1) (by exact rfl) _ HL9.out HK5.out ?_) | (refine store8 (w0 := w) w.heap.size rfl _ _ (by exact rfl) w.heap.size (by exact rfl) _ zeros8 HL9.out rfl (by exact rfl) ((HO5.out _ (by omega)).trans HK4.out) HB7 (Nat.le_refl _) ?_; intro w6 HK6 HB8))
            exact bodyPost_ret (results_row_tmp rfl _ _ w.heap.size _ _ _ _ (by exact rfl) HK6.out Tryz.underlying150 rfl (by rw [info27]; congr 1; have := HL9.out; simp [u16s] at this ⊢; omega)) rfl ⟨by rw [HF.out, ← HSP.out]; rfl, HB8⟩
          · obtain rfl : y = [] := List.eq_nil_of_length_eq_zero (by omega)
            go_wp2_with (first | (refine slice_end rfl _ _ (by exact rfl) (w.heap.size + 1) _ (by exact rfl) (by exact rfl) (by first | rfl | simp) ?_) | (refine copy16 (w0 := w) w.heap.size rfl _ _ (by exact rfl) _ A2 _ _ 0 c2 (by exact rfl) (by exact rfl) (w.heap.size + 1) 8 (splice zeros8 0 x) HK3.out [] (by show 0 = min 0 _; omega) (fun h => absurd h (by simp)) (by rw [HSL.out]; omega) HB6 (by omega) ?_; intro w5 HK5 HB7 HO5) | (refine load8 rfl _ (by exact rfl) (w.heap.size + 1) (by exact rfl) _ HL9.out HK5.out ?_) | (refine store8 (w0 := w) w.heap.size rfl _ _ (by exact rfl) w.heap.size (by exact rfl) _ zeros8 HL9.out rfl (by exact rfl) ((HO5.out _ (by omega)).trans HK4.out) HB7 (Nat.le_refl _) ?_; intro w6 HK6 HB8))
            exact bodyPost_ret (results_row_tmp rfl _ _ w.heap.size _ _ _ _ (by exact rfl) HK6.out Tryz.underlying150 rfl (by rw [info27]; congr 1; have := HL9.out; simp [u16s] at this ⊢; omega)) rfl ⟨by rw [HF.out, ← HSP.out]; rfl, HB8⟩
end Go.Proofs.YtbpkkgaaeodimaaGreatDoor
namespace Go.Proofs.YtbpkkgaaeodimaaGreatDoor
open Go.RowKit

theorem dig_piece16 : ∀ d : Fin 16, bl ((⟨#[48, 49, 50, 51, 52, 53, 54, 55, 56, 57, 97, 98, 99, 100, 101, 102]⟩ : ByteArray).extract d.val (d.val + 1)) = [dgc d.val] := by decide +kernel
set_option maxHeartbeats 1000000 in
set_option maxRecDepth 100000 in
theorem ref2_digits (n : Nat) (w : World) (hn : n ≤ 65535) :
    Calls Tryz.prog 180 #[.int .u16 n] w fun e w' => (∃ t, e = .returned (.string t) ∧ Hid (bl t = digs 16 n)) ∧ w = w' := by
  go_enter Tryz.func180, Tryz.ntmps180
  go_wp2
  go_loop [0, 3] (fun i t => ∃ (k : Nat) (s : ByteArray), i = .int .u16 k ∧ t = .string s ∧ k ≤ n ∧ Hid (DigInv 16 n k (bl s))) (fun i t => match t with | .string s => (intOf i).toNat + (if (bl s).isEmpty then 1 else 0) | _ => 0)
  case atStart => exact ⟨n, ⟨#[]⟩, rfl, rfl, Nat.le_refl _, DigInv.start 16 n⟩
  case round =>
    obtain ⟨k, s, rfl, rfl, hk, HI⟩ := hrel
    have hsz : s.size ≤ 30 := by have h1 := HI.out.len (by omega); have h2 := digs_len 16 (by omega) 4 n (by omega) (by omega); rw [bl_length] at h1; omega
    by_cases hz : k = 0
    · subst hz
      by_cases he : bl s = []
      · have HS := Lib.hid (HI.out.step (by omega) (.inr he))
        have he' : s.toList.isEmpty = true := (str_empty s).2 he
        clear HI he
        go_wp2
        refine ⟨⟨0, _, rfl, rfl, by omega, ?_⟩, ?_⟩
        · unfold Hid; rw [bl_append]; exact HS.out
        · have h1 : bl s = [] := (str_empty s).1 he'
          have h2 : (bl ((⟨#[48, 49, 50, 51, 52, 53, 54, 55, 56, 57, 97, 98, 99, 100, 101, 102]⟩ : ByteArray).extract 0 1 ++ s)).isEmpty = false := by rw [bl_append]; rfl
          simp only [intOf, h2, h1]
          simp
      · have HS := Lib.hid (HI.out.done (by simp [he]))
        have he' : s.toList.isEmpty = false := by rw [Bool.eq_false_iff, ne_eq, str_empty]; exact he
        clear HI he
        go_wp2
        go_ret
        exact ⟨⟨_, rfl, HS⟩, rfl⟩
    · have HS := Lib.hid (HI.out.step (by omega) (.inl (by omega)))
      clear HI
      go_wp2
      refine ⟨⟨k / 16, _, by go_num, rfl, by omega, ?_⟩, ?_⟩
      · unfold Hid; rw [bl_append]; have := dig_piece16 ⟨k % 16, by omega⟩; dsimp only at this; rw [this]; exact HS.out
      · have h2 : (bl ((⟨#[48, 49, 50, 51, 52, 53, 54, 55, 56, 57, 97, 98, 99, 100, 101, 102]⟩ : ByteArray).extract (k % 16) (k % 16 + 1) ++ s)).isEmpty = false := by
          rw [bl_append]; have := dig_piece16 ⟨k % 16, by omega⟩; dsimp only at this; rw [this]; rfl
        simp only [intOf, h2]
        simp
        split <;> omega
end Go.Proofs.YtbpkkgaaeodimaaGreatDoor
namespace Go.Proofs.YtbpkkgaaeodimaaGreatDoor
open Go.RowKit

/-- How many pieces from place i on are 0. -/
def runAt (xs : List Nat) (i : Nat) : Nat := ((xs.drop i).takeWhile (· == 0)).length
theorem run_end {xs : List Nat} {i : Nat} (h : xs.length ≤ i) : runAt xs i = 0 := by unfold runAt; rw [List.drop_eq_nil_of_le h]; rfl
theorem run_hit {xs : List Nat} {i : Nat} (h : xs[i]? = some 0) : runAt xs i = runAt xs (i + 1) + 1 := by
  unfold runAt; rw [drop_get h, List.takeWhile_cons]; simp
theorem run_miss {xs : List Nat} {i v : Nat} (h : xs[i]? = some v) (hv : v ≠ 0) : runAt xs i = 0 := by
  unfold runAt; rw [drop_get h, List.takeWhile_cons, if_neg (by simp [hv])]; rfl
theorem run_le (xs : List Nat) (i : Nat) : runAt xs i ≤ xs.length - i := by
  unfold runAt
  refine Nat.le_trans (List.takeWhile_sublist _).length_le ?_
  rw [List.length_drop]; exact Nat.le_refl _
theorem run_shift (xs : List Nat) : ∀ (j i : Nat), j ≤ runAt xs i → runAt xs (i + j) = runAt xs i - j
  | 0, i, _ => by simp
  | j + 1, i, h => by
    have h1 := run_le xs i
    have hi : i < xs.length := by omega
    have hx : xs[i]? = some xs[i] := List.getElem?_eq_getElem hi
    by_cases h0 : xs[i] = 0
    · rw [h0] at hx
      have h2 := run_hit hx
      have := run_shift xs j (i + 1) (by omega)
      rw [show i + (j + 1) = i + 1 + j by omega, this]
      omega
    · have := run_miss hx h0
      omega
/-- The greatest run of zeros ahead of place k: where it begins, its length. -/
def bestF (xs : List Nat) : Nat → Int × Nat
  | 0 => (-1, 1)
  | k + 1 => if (bestF xs k).2 < runAt xs k then ((k : Int), runAt xs k) else bestF xs k
theorem best_ge (xs : List Nat) (k : Nat) : runAt xs k ≤ (bestF xs (k + 1)).2 := by
  rw [bestF]; split
  · exact Nat.le_refl _
  · omega
theorem best_jump (xs : List Nat) (i : Nat) : ∀ j, j ≤ runAt xs i → bestF xs (i + 1 + j) = bestF xs (i + 1)
  | 0, _ => rfl
  | j + 1, h => by
    have ih := best_jump xs i j (by omega)
    have h2 := run_shift xs (j + 1) i h
    have h3 := best_ge xs i
    rw [show i + 1 + (j + 1) = (i + 1 + j) + 1 by omega, bestF, ih, show i + 1 + j = i + (j + 1) by omega, h2, if_neg (by omega)]
theorem best_facts (xs : List Nat) : ∀ k, ((bestF xs k).1 = -1 ∧ (bestF xs k).2 = 1) ∨ (∃ f : Nat, (bestF xs k).1 = f ∧ 2 ≤ (bestF xs k).2 ∧ f + (bestF xs k).2 ≤ xs.length)
  | 0 => .inl ⟨rfl, rfl⟩
  | k + 1 => by
    have ih := best_facts xs k
    rw [bestF]
    split
    · rename_i h
      have h1 := run_le xs k
      refine .inr ⟨k, rfl, ?_, ?_⟩
      · show 2 ≤ runAt xs k
        rcases ih with ⟨_, h2⟩ | ⟨f, _, h2, _⟩ <;> omega
      · show k + runAt xs k ≤ _
        omega
    · exact ih
theorem best_end {xs : List Nat} (h : xs.length = 8) : ∀ i, 8 ≤ i → bestF xs i = bestF xs 8
  | 0, hi => by omega
  | i + 1, hi => by
    by_cases h8 : i + 1 = 8
    · rw [h8]
    · rw [bestF, run_end (by omega), if_neg (by omega)]
      exact best_end h i (by omega)
/-- The text of the pieces from place i on. -/
def restF (xs : List Nat) (f : Int) (m : Nat) (i : Nat) : List UInt8 :=
  if h : i < 8 then
    if (i : Int) = f then [58, 58] ++ restF xs f m (i + (m - 1) + 1)
    else (if 0 < i ∧ (i : Int) ≠ f + m then [58] else []) ++ (digs 16 (xs.getD i 0) ++ restF xs f m (i + 1))
  else []
termination_by 8 - i
decreasing_by all_goals omega
theorem rest_end (xs : List Nat) (f : Int) (m i : Nat) (h : 8 ≤ i) : restF xs f m i = [] := by rw [restF, dif_neg (by omega)]
theorem rest_gap {xs : List Nat} {f : Int} {m i : Nat} (h : i < 8) (hf : (i : Int) = f) : restF xs f m i = [58, 58] ++ restF xs f m (i + (m - 1) + 1) := by
  rw [restF, dif_pos h, if_pos hf]
theorem rest_one {xs : List Nat} {f : Int} {m i v : Nat} (h : i < 8) (hf : (i : Int) ≠ f) (hv : xs[i]? = some v) : restF xs f m i = (if 0 < i ∧ (i : Int) ≠ f + m then [58] else []) ++ (digs 16 v ++ restF xs f m (i + 1)) := by
  rw [restF, dif_pos h, if_neg hf, List.getD_eq_getElem?_getD, hv]; rfl
/-- The text of eight pieces. -/
def text6S (xs : List Nat) : List UInt8 := restF xs (bestF xs 8).1 (bestF xs 8).2 0
theorem dgc_not (d : Nat) (h : d < 16) : dgc d ≠ 58 := by
  have : ∀ d : Fin 16, dgc d.val ≠ 58 := by decide +kernel
  exact this ⟨d, h⟩
theorem digs_last (u : Nat) : ∃ t c, digs 16 u = t ++ [c] ∧ c ≠ 58 := by
  by_cases h : u < 16
  · exact ⟨[], _, by rw [digs_small h]; rfl, dgc_not u h⟩
  · exact ⟨_, _, digs_step (by omega) (by omega), dgc_not _ (Nat.mod_lt _ (by omega))⟩
theorem digs16_len (u : Nat) (h : u ≤ 65535) : (digs 16 u).length ≤ 4 := digs_len 16 (by omega) 4 u (by omega) (by omega)
end Go.Proofs.YtbpkkgaaeodimaaGreatDoor
namespace Go.Proofs.YtbpkkgaaeodimaaGreatDoor
open Go.RowKit

theorem lib_pow2 (w : World) : Calls Tryz.prog 176 #[.int .i64 16] w fun e w' => e = .returned (.bool true) ∧ w = w' := by
  go_enter Tryz.func176, Tryz.ntmps176
  go_wp2
  go_ret
  exact ⟨ret_bool (by decide +kernel), rfl⟩
set_option maxRecDepth 100000 in
theorem lib_tz64 (w : World) (HE : Hid (Env w)) : Calls Tryz.prog 201 #[.int .u64 16] w fun e w' => e = .returned (.int .i64 4) ∧ w = w' := by
  have htz := HE.out.tz
  have he : Go.bits .and .u64 16 (IntKind.u64.wrap (-16)) = 16 := by decide +kernel
  go_enter Tryz.func201, Tryz.ntmps201
  go_wp2
  go_ret
  exact ⟨rfl, rfl⟩
theorem lib_tz (w : World) (HE : Hid (Env w)) : Calls Tryz.prog 177 #[.int .u64 16] w fun e w' => e = .returned (.int .i64 4) ∧ w = w' := by
  go_enter Tryz.func177, Tryz.ntmps177
  go_wp2_with fail
  refine (lib_tz64 _ HE).mono ?_
  rintro e w1 ⟨rfl, rfl⟩
  go_wp2
  go_ret
  exact ⟨rfl, rfl⟩
theorem thaw {w : World} {g : Nat} {cs : Array Value} {t : TypeId} (h : w.heap[g]? = some (.cells cs t (0, 0))) (k : Nat) : w.frozen? ⟨g, k, none⟩ = false := by
  unfold World.frozen?; simp [h]
theorem dgc_arr : ∀ d : Fin 16, ((⟨#[48, 49, 50, 51, 52, 53, 54, 55, 56, 57, 97, 98, 99, 100, 101, 102, 103, 104, 105, 106, 107, 108, 109, 110, 111, 112, 113, 114, 115, 116, 117, 118, 119, 120, 121, 122]⟩ : ByteArray)[d.val]'(Nat.lt_of_lt_of_le d.isLt (by decide))) = dgc d.val := by decide +kernel
theorem dgc_at (d : Nat) (hd : d < 16) (i : Nat) (hi : i = d) (h : i < (⟨#[48, 49, 50, 51, 52, 53, 54, 55, 56, 57, 97, 98, 99, 100, 101, 102, 103, 104, 105, 106, 107, 108, 109, 110, 111, 112, 113, 114, 115, 116, 117, 118, 119, 120, 121, 122]⟩ : ByteArray).size) : (⟨#[48, 49, 50, 51, 52, 53, 54, 55, 56, 57, 97, 98, 99, 100, 101, 102, 103, 104, 105, 106, 107, 108, 109, 110, 111, 112, 113, 114, 115, 116, 117, 118, 119, 120, 121, 122]⟩ : ByteArray)[i] = dgc d := by
  subst hi
  exact dgc_arr ⟨i, hd⟩
theorem and15 (k : Nat) (h : k ≤ 65535) : Go.bits .and .u64 (k : Int) 15 = ((k % 16 : Nat) : Int) := by
  have := bits_and_u64_nat k 15 (by omega) (by omega)
  rw [show ((15 : Nat) : Int) = 15 from rfl] at this
  rw [this, show (15 : Nat) = 2 ^ 4 - 1 from rfl, Nat.and_two_pow_sub_one_eq_mod]
theorem row_put {L : List Value} {t : List UInt8} {j : Nat} {x : UInt8} {n : Int} (hl : L.length = 65) (hj : j + 1 + t.length = 65) (hd : L.drop (65 - t.length) = t.map u8v) (hx : n = x.toNat) :
    (L.set j (.int .u8 n)).drop (65 - (x :: t).length) = (x :: t).map u8v := by
  subst hx
  have e : 65 - (x :: t).length = j := by simp; omega
  have e2 : 65 - t.length = j + 1 := by omega
  rw [e2] at hd
  rw [e]
  have hg : (L.set j (.int .u8 (x.toNat : Int)))[j]? = some (.int .u8 (x.toNat : Int)) := by rw [List.getElem?_set_self (by omega)]
  rw [drop_get hg, List.drop_set_of_lt (by omega), hd]; rfl
theorem arr65 : Tryz.prog.arrayLen 180 = 65 := by kernel_rfl
theorem size5 : (Tryz.prog.info? 5).map (fun i => i.size) = some 1 := by kernel_rfl
set_option maxRecDepth 100000 in
theorem slice65 {ops : Array Oper} {Q : Exit → Act → World → Prop} {a : Act} {rest : List Oper} {o : Oper} {W : World} (hgd : o.guard = none) (x lo : Operand) (ho : o.op = .slice 180 x (some lo) none none) (g : Nat) (l : Int) (n : Nat) (hx : a.eval x = .pointer (some ⟨g, 0, none⟩)) (hl : a.eval lo = .int .i64 l) (hn : l = (n : Int)) (h1 : n < 65)
    (h : wpList Tryz.prog ops Q rest (a.put o.dst (.slice (some ⟨g, n, none⟩) (65 - n) (65 - n))) W) : wpList Tryz.prog ops Q (o :: rest) a W := by
  refine wpList_plain hgd fun _ hK => ?_
  have ht : Tryz.prog.underlying 180 = some (.array (Tryz.prog.arrayLen 180) (Tryz.prog.elem 180)) := by kernel_rfl
  have he : Tryz.prog.elem 180 = 5 := by kernel_rfl
  have hr := run_sliceAt_array_l (P := Tryz.prog) W 180 ⟨g, 0, none⟩ ht .i64 l (by omega) (by rw [arr65]; omega)
  obtain ⟨i0, hi, hz⟩ := Option.map_eq_some_iff.1 size5
  have hs : (sizeOf 5).run Tryz.prog W = .ok 1 W := by simp [sizeOf, typeInfo, hi, hz]
  rw [he, hs, arr65] at hr
  unfold Oper.wp execOp
  simp only [ho, hx, hl, Option.map_some, Option.map_none, hr, Sem.run_bind, Result.andThen_ok, Sem.run_pure]
  subst hn
  have e : slicedAt ⟨g, 0, none⟩ (n : Int).toNat 65 65 1 = .slice (some ⟨g, n, none⟩) (65 - n) (65 - n) := by
    unfold slicedAt
    rw [Int.toNat_natCast, if_neg (by omega), Nat.mul_one]
    congr 2
    unfold Addr.add
    rcases n with _ | n <;> simp
  rw [e]
  exact hK _ _ h
theorem row_tail {W : World} {g j n : Nat} {L : List Value} {l : List UInt8} (h : RowAt W g L) (hd : L.drop j = l.map u8v) (hn : n = l.length) :
    (convert 43 9 (.slice (some ⟨g, j, none⟩) n n)).run Tryz.prog W = .ok (.string ⟨l.toArray⟩) W := by
  subst hn
  rw [← nums_u8]
  refine run_convert_bytes_arg W _ 5 Tryz.underlying43 Tryz.underlying5 g j l.length l.length _ (by simp) (fun i hi => ?_) _ Tryz.underlying9
  have h1 : (L.drop j)[i]? = some (u8v l[i]) := by rw [hd]; simp [hi]
  rw [List.getElem?_drop] at h1
  rw [(h.2 _ _ h1).1]
  simp [u8v, hi]
theorem dig_bound {b n k : Nat} {t : List UInt8} (hb : 2 ≤ b) (h : digs b k ++ t = digs b n) (hn : n < b ^ 4) : t.length ≤ 3 := by
  have h1 := digs_len b hb 4 n hn (by omega)
  have h2 := congrArg List.length h
  rw [List.length_append] at h2
  have h3 := List.length_pos_iff.2 (digs_ne b k)
  omega
set_option maxHeartbeats 2000000 in
set_option maxRecDepth 100000 in
theorem lib_formatBits (v : Nat) (w : World) (hv : v ≤ 65535) (HE : Hid (Env w)) :
    Calls Tryz.prog 145 #[.slice none 0 0, .int .u64 v, .int .i64 16, .bool false, .bool false] w fun e w' => (∃ t, e = .returned (.tuple #[.slice none 0 0, .string t]) ∧ Hid (bl t = digs 16 v)) ∧ Hid (Bel w w') := by
  go_enter Tryz.func145, Tryz.ntmps145
  have hz : Tryz.zeroCells180 = (List.replicate 65 (Value.int .u8 0)).toArray := by kernel_rfl
  have hg0 := alloc_at w (.cells Tryz.zeroCells180 180)
  have HB0 : Hid (Bel w (w.alloc (.cells Tryz.zeroCells180 180))) := (Below.refl _ w).alloc (Nat.le_refl _) _
  have HR0 : Hid (RowAt (w.alloc (.cells Tryz.zeroCells180 180)) w.heap.size (List.replicate 65 (Value.int .u8 0))) := by
    refine ⟨by simp, fun k u hk => ⟨?_, thaw hg0 k⟩⟩
    rw [cell_of_row _ _ _ _ _ _ hg0, hz]
    simpa using hk
  have HE0 := Lib.hid (HE.out.bel HB0.out)
  clear hz hg0
  go_wp2_with fail
  generalize w.alloc (.cells Tryz.zeroCells180 180) = w0 at *
  refine (lib_pow2 _).mono ?_
  rintro e w1 ⟨rfl, rfl⟩
  go_wp2_with fail
  refine (lib_tz _ HE0).mono ?_
  rintro e w1 ⟨rfl, rfl⟩
  go_wp2
  go_loopg [1, 13] v (fun r v1 v13 wr => ∃ (k : Nat) (t : List UInt8) (L : List Value), v1 = .int .u64 k ∧ v13 = .int .i64 (65 - t.length : Int) ∧ k ≤ r ∧ k ≤ 65535 ∧ Hid (L.length = 65) ∧ Hid (L.drop (65 - t.length) = t.map u8v) ∧ Hid (RowAt wr w.heap.size L) ∧ Hid (digs 16 k ++ t = digs 16 v) ∧ Hid (Bel w wr))
  case atStart => exact ⟨v, [], List.replicate 65 (Value.int .u8 0), rfl, rfl, Nat.le_refl _, hv, by unfold Hid; simp, by unfold Hid; simp, HR0, by simp [Hid], HB0⟩
  case round =>
    obtain ⟨k, t, L, rfl, rfl, hk, hk5, HL, HD, HR, HG, HB⟩ := hrel
    have ht := dig_bound (by omega) HG.out (by omega)
    obtain ⟨u, hu⟩ : ∃ u, L[65 - t.length - 1]? = some u := ⟨_, List.getElem?_eq_getElem (by rw [HL.out]; omega)⟩
    obtain ⟨hc, hf⟩ := HR.out.2 _ u hu
    have hand := and15 k hk5
    clear hu
    by_cases h16 : 16 ≤ k
    · cases gk with
      | zero => omega
      | succ q =>
        have hk16 : k % 16 < 16 := Nat.mod_lt _ (by omega)
        go_wp2
        go_roundg q
        case measure => omega
        case rel => 
          refine ⟨k / 16, dgc (k % 16) :: t, _, by congr 1, by congr 1; simp; omega, by omega, by omega, ?_, row_put HL.out (j := 65 - t.length - 1) (by omega) HD.out (by rw [dgc_at (k % 16) hk16 _ rfl]), HR.out.set _ _, ?_, HB.out.setCell (p := ⟨w.heap.size, _, none⟩) (Nat.le_refl _) _⟩
          · unfold Hid; rw [List.length_set]; exact HL.out
          · have := HG.out
            rw [digs_step (by omega) h16, List.append_assoc] at this
            exact this
    · go_upto_region 30 with (fail)
      have hk16 : k < 16 := by omega
      have hr2 := HR.out.set (65 - t.length - 1) (Value.int .u8 (dgc k).toNat)
      have hd2 := row_put HL.out (j := 65 - t.length - 1) (by omega) HD.out (n := ((dgc k).toNat : Int)) rfl
      have HF : Hid (dgc k :: t = digs 16 v) := by have := HG.out; rw [digs_small hk16] at this; exact this
      have HB2 : Hid (Bel w (wr.setCell ⟨w.heap.size, 65 - t.length - 1, none⟩ (Value.int .u8 (dgc k).toNat))) := HB.out.setCell (p := ⟨w.heap.size, _, none⟩) (Nat.le_refl _) _
      rw [dgc_at k hk16 k rfl]
      generalize wr.setCell ⟨w.heap.size, 65 - t.length - 1, none⟩ (Value.int .u8 (dgc k).toNat) = W at *
      have hconv := row_tail hr2 (j := 65 - t.length - 1) (n := 65 - (65 - t.length - 1)) (l := dgc k :: t) (by rw [← hd2]; congr 1) (by simp; omega)
      clear hr2 hd2 hc hf HR HL HD
      go_wp2_with (refine slice65 rfl _ _ (by exact rfl) w.heap.size _ (65 - t.length - 1) (by exact rfl) (by exact rfl) (by omega) (by omega) ?_)
      go_ret2
      exact ⟨⟨_, rfl, by unfold Hid; rw [bl_mk]; exact HF.out⟩, HB2⟩
set_option maxHeartbeats 2000000 in
set_option maxRecDepth 100000 in
theorem lib_FormatUint (v : Nat) (w : World) (hv : v ≤ 65535) (HE : Hid (Env w)) :
    Calls Tryz.prog 213 #[.int .u64 v, .int .i64 16] w fun e w' => (∃ t, e = .returned (.string t) ∧ Hid (bl t = digs 16 v)) ∧ Hid (Bel w w') := by
  have hi : Calls Tryz.prog 230 #[.int .u64 v, .int .i64 16] w fun e w' => (∃ t, e = .returned (.string t) ∧ Hid (bl t = digs 16 v)) ∧ Hid (Bel w w') := by
    go_enter Tryz.func230, Tryz.ntmps230
    go_wp2_with fail
    refine (lib_formatBits v _ hv HE).mono ?_
    rintro e w1 ⟨⟨t, rfl, ht⟩, HB⟩
    go_wp2
    go_ret
    exact ⟨⟨_, rfl, ht⟩, HB⟩
  have HI := Lib.hid hi
  clear hi
  go_enter Tryz.func213, Tryz.ntmps213
  go_wp2_with fail
  refine HI.out.mono ?_
  rintro e w1 ⟨⟨t, rfl, ht⟩, HB⟩
  go_wp2
  go_ret
  exact ⟨⟨_, rfl, ht⟩, HB⟩
end Go.Proofs.YtbpkkgaaeodimaaGreatDoor
namespace Go.Proofs.YtbpkkgaaeodimaaGreatDoor
open Go.RowKit

theorem lays166 : Lays.n166 Tryz.prog Tryz.lays156_ren := { Tryz.lays156 with }
def ren167 : Go.Shelf.Ren := ⟨fun | 167 => 59 | n => Tryz.lays156_ren.f n, Tryz.lays156_ren.t, Tryz.lays156_ren.g⟩
theorem lays167 : Lays.n167 Tryz.prog ren167 := { Tryz.lays156, Tryz.Builder_Extra_156 with
  f167 := Tryz.func59.trans (congrArg some (by kernel_rfl))
  f240 := Tryz.func91.trans (congrArg some (by kernel_rfl))
  f276 := Tryz.func122.trans (congrArg some (by kernel_rfl)) }
set_option maxRecDepth 100000 in
theorem extra167 : Builder.Extra Tryz.prog ren167 := { Tryz.Builder_Extra_156 with }
/-- A builder that holds the bytes l. -/
def Bld (w : World) (B b : Nat) (l : List UInt8) : Prop := Lib.IsBuilder 73 5 B b (l.map u8v) w
theorem bld_new (w : World) : Bld (w.alloc (.cells #[.pointer none, .slice none 0 0] 73)) w.heap.size w.heap.size [] := Lib.fresh_isBuilder _ _ w
theorem bld_string (t s : ByteArray) : (bl t).map u8v ++ Lib.strCells s = (bl t ++ bl s).map u8v := by
  rw [List.map_append]; rfl
theorem bld_write (B b : Nat) (l : List UInt8) (s : ByteArray) (w : World) (h : Hid (Bld w B b l)) (hl : l.length ≤ 1000) (hs : s.size ≤ 1000) (hBw : B ≤ w.heap.size) :
    Calls Tryz.prog 58 #[.pointer (some ⟨b, 0, none⟩), .string s] w fun e w' => e = .returned (.tuple #[.int .i64 s.size, .nilIface]) ∧ Hid (Bld w' B b (l ++ bl s)) ∧ Hid (Below B w w') := by
  refine (Any.Builder_WriteString lays166 Tryz.Builder_Extra_156 B b (l.map u8v) s w h.out (by rw [List.length_map]; omega) hBw).mono ?_
  rintro e w' ⟨he, hb, hw⟩
  exact ⟨he, .inr (by rw [List.map_append]; exact hb), hw⟩
theorem bld_byte (B b : Nat) (l : List UInt8) (x : UInt8) (w : World) (h : Hid (Bld w B b l)) (hl : l.length ≤ 1000) (hBw : B ≤ w.heap.size) :
    Calls Tryz.prog 59 #[.pointer (some ⟨b, 0, none⟩), .int .u8 x.toNat] w fun e w' => e = .returned .nilIface ∧ Hid (Bld w' B b (l ++ [x])) ∧ Hid (Below B w w') := by
  refine (Any.Builder_WriteByte lays167 extra167 B b (l.map u8v) x.toNat w h.out (by rw [List.length_map]; omega) hBw).mono ?_
  rintro e w' ⟨he, hb, hw⟩
  exact ⟨he, .inr (by rw [List.map_append]; exact hb), hw⟩
theorem bld_text (B b : Nat) (l : List UInt8) (w : World) (h : Hid (Bld w B b l)) (hBw : B ≤ w.heap.size) :
    Calls Tryz.prog 61 #[.pointer (some ⟨b, 0, none⟩)] w fun e w' => (∃ t, e = .returned (.string t) ∧ Hid (bl t = l)) ∧ Hid (Below B w w') := by
  refine (Tryz.Builder_String_any B b l w h.out hBw).mono ?_
  rintro e w' ⟨he, hw⟩
  exact ⟨⟨_, he, by unfold Hid; rw [bl_mk]⟩, hw⟩
end Go.Proofs.YtbpkkgaaeodimaaGreatDoor
