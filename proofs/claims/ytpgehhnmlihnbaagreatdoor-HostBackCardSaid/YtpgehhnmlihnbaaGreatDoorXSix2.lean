import Derived.Test.YtpgehhnmlihnbaaGreatDoorXSix
namespace Go.Proofs.YtpgehhnmlihnbaaGreatDoor
open Go.RowKit

def shiftI (k : Nat) (r : Int) : Int := if r = -1 then -1 else r + k
theorem idx_hit (r : List UInt8) : Lib.index (58 :: 58 :: r) [58, 58] = 0 := by unfold Lib.index; simp
theorem index_ge : ∀ (l sub : List UInt8), -1 ≤ Lib.index l sub := fun l sub => by
  rcases Lib.index_spec l sub with ⟨h, _⟩ | ⟨i, h, _⟩ <;> omega
theorem idx_step (x : UInt8) (r : List UInt8) (h : ¬ (x = 58 ∧ r.head? = some 58)) : Lib.index (x :: r) [58, 58] = shiftI 1 (Lib.index r [58, 58]) := by
  have hp : ([58, 58] : List UInt8).isPrefixOf (x :: r) = false := by
    rw [Bool.eq_false_iff]; intro hh
    cases r with
    | nil => simp [List.isPrefixOf] at hh
    | cons y r => simp [List.isPrefixOf] at hh; exact h ⟨hh.1.symm, by simp [hh.2.symm]⟩
  conv => lhs; unfold Lib.index
  rw [hp]
  unfold shiftI
  by_cases h1 : Lib.index r [58, 58] = -1
  · simp [h1]
  · simp [h1]
theorem idx_short (l : List UInt8) (h : l.length ≤ 1) : Lib.index l [58, 58] = -1 := by
  match l, h with
  | [], _ => rfl
  | [x], _ => rw [idx_step x [] (by simp)]; rfl
theorem shift_shift (k : Nat) (r : Int) (h : -1 ≤ r) : shiftI k (shiftI 1 r) = shiftI (k + 1) r := by
  unfold shiftI
  split <;> (try split) <;> (try split) <;> omega
theorem built0 : (Tryz.prog.built 27 []).getD #[] = (u16s zeros8).toArray := by kernel_rfl
theorem built1 : (Tryz.prog.built 27 []).isSome = true := by kernel_rfl
theorem build8 {ops : Array Oper} {Q : Exit → Act → World → Prop} {a : Act} {rest : List Oper} {o : Oper} {W : World} (hgd : o.guard = none) (ho : o.op = .build 27 #[])
    (h : wpList Tryz.prog ops Q rest (a.put o.dst (.agg (u16s zeros8).toArray)) W) : wpList Tryz.prog ops Q (o :: rest) a W := by
  have e : ∀ f : Nat × Operand → Nat × Value, (Array.map f #[]).toList = [] := fun f => by simp
  refine wpList_build hgd _ _ ho ?_ ?_
  · rw [e]; exact built1
  · rw [e, built0]; exact h
set_option maxHeartbeats 4000000 in
set_option maxRecDepth 100000 in
theorem ref2_Six (s : ByteArray) (w : World) (hs : s.size ≤ 1000000) :
    Calls Tryz.prog 21 #[.string s] w fun e w' => e = .returned (.tuple #[sixV (sixS (bl s)), .bool (sixS (bl s)).isSome]) ∧ Hid (Bel w w') := by
  go_enter Tryz.func21, Tryz.ntmps21
  go_upto_block 0 with (fail)
  have hg1 : ((w.alloc zeroCells).alloc zeroCells).heap[w.heap.size]? = some zeroCells := (alloc_old _ _ _ (by simp)).trans (alloc_at _ _)
  have hg2 : ((w.alloc zeroCells).alloc zeroCells).heap[w.heap.size + 1]? = some zeroCells := by
    have e : (w.alloc zeroCells).heap.size = w.heap.size + 1 := by simp
    rw [← e]; exact alloc_at _ _
  have HB0 : Hid (Bel w ((w.alloc zeroCells).alloc zeroCells)) := ((Below.refl _ w).alloc (Nat.le_refl _) _).alloc (by simp) _
  have hsz0 : ((w.alloc zeroCells).alloc zeroCells).heap.size = w.heap.size + 2 := by simp
  change Code.wp _ _ _ _ ((w.alloc zeroCells).alloc zeroCells)
  generalize (w.alloc zeroCells).alloc zeroCells = w0 at *
  have HG1 := Lib.hid hg1
  have HG2 := Lib.hid hg2
  have HSZ := Lib.hid hsz0
  clear hg1 hg2 hsz0
  go_cut [5] (fun v5 wc => v5 = .int .i64 (Lib.index (bl s) [58, 58]) ∧ w0 = wc)
  case first =>
    go_wp2_with fail
    go_loopg [5, 6] s.size (fun r v5 v6 wr => ∃ (k : Nat), v5 = .int .i64 (-1) ∧ v6 = .int .i64 k ∧ k + r = s.size ∧ Hid (Lib.index (bl s) [58, 58] = shiftI k (Lib.index ((bl s).drop k) [58, 58])) ∧ w0 = wr)
    case atStart => exact ⟨0, rfl, rfl, by omega, by unfold Hid shiftI; rw [List.drop_zero]; split <;> omega, rfl⟩
    case round =>
      obtain ⟨k, rfl, rfl, hk, HI, rfl⟩ := hrel
      by_cases hlt : k + 1 < s.size
      · have hI := HI.out
        rw [bl_drop s k (by omega)] at hI
        clear HI
        have h0 : k < s.size := by omega
        by_cases h58 : s[k] = 58 ∧ s[k + 1] = 58
        · rw [bl_drop s (k + 1) hlt, h58.1, h58.2, idx_hit] at hI
          have HX : Hid (Lib.index (bl s) [58, 58] = k) := by unfold Hid; rw [hI]; unfold shiftI; rw [if_neg (by omega)]; omega
          have c1 : (s[k].toNat : Int) = 58 := by rw [h58.1]; rfl
          have c2 : (s[k + 1].toNat : Int) = 58 := by rw [h58.2]; rfl
          clear h58 hI
          go_wp2
          go_meet
          exact ⟨by rw [HX.out], rfl⟩
        · have HX : Hid (Lib.index (bl s) [58, 58] = shiftI (k + 1) (Lib.index ((bl s).drop (k + 1)) [58, 58])) := by
            unfold Hid
            rw [hI, idx_step _ _ (by rw [bl_drop s (k + 1) hlt]; simpa using h58), shift_shift _ _ (index_ge _ _)]
          clear hI
          cases gk with
          | zero => omega
          | succ q =>
            by_cases c1 : (s[k].toNat : Int) = 58
            · have c2 : ((s[k + 1].toNat : Int) == 58) = false := by
                rw [beq_eq_false_iff_ne]; intro h
                exact h58 ⟨UInt8.toNat_inj.1 (by have : (58 : UInt8).toNat = 58 := rfl; omega), UInt8.toNat_inj.1 (by have : (58 : UInt8).toNat = 58 := rfl; omega)⟩
              clear h58
              go_wp2
              go_roundg q
              case measure => omega
              case rel => exact ⟨k + 1, rfl, rfl, by omega, HX, rfl⟩
            · have c2 : ((s[k].toNat : Int) == 58) = false := by rw [beq_eq_false_iff_ne]; exact c1
              clear h58 c1
              go_wp2
              go_roundg q
              case measure => omega
              case rel => exact ⟨k + 1, rfl, rfl, by omega, HX, rfl⟩
      · have HX : Hid (Lib.index (bl s) [58, 58] = -1) := by unfold Hid; rw [HI.out, idx_short _ (by rw [List.length_drop, bl_length]; omega)]; rfl
        go_wp2
        go_meet
        exact ⟨by rw [HX.out], rfl⟩
  case rest =>
  obtain ⟨rfl, rfl⟩ := hcut
  have HS : Hid (sixS (bl s) = sixJ (Lib.cut (bl s) [58, 58]).2.2 (pieces6S (!(Lib.cut (bl s) [58, 58]).2.2) (Lib.cut (bl s) [58, 58]).1) (pieces6S true (Lib.cut (bl s) [58, 58]).2.1)) := rfl
  by_cases hneg : Lib.index (bl s) [58, 58] < 0
  · have hc : Lib.cut (bl s) [58, 58] = (bl s, [], false) := by unfold Lib.cut; rw [if_neg (by omega)]
    rw [hc] at HS
    have HS : Hid (sixS (bl s) = sixJ false (pieces6S true (bl s)) (some [])) := HS.out
    clear hc
    go_wp2_with fail
    refine (ref2_pieces s true _ hs).mono ?_
    rintro e w3 ⟨⟨v1, rfl, ⟨A1, l1, c1, rfl⟩, hv1⟩, HB4⟩
    have HV1 := Lib.hid hv1
    clear hv1
    have HPL : Hid (∀ x, pieces6S true (bl s) = some x → x.length ≤ 1000002) := fun x h => by have := pieces6_len h; rw [bl_length] at this; omega
    generalize pieces6S true (bl s) = P at *
    have HB5 := Lib.hid (bel_trans HB0.out HB4.out)
    have hk1 : w3.heap[w.heap.size]? = some zeroCells := (HB4.out.block _ (by rw [HSZ.out]; omega)).trans HG1.out
    have hk2 : w3.heap[w.heap.size + 1]? = some zeroCells := (HB4.out.block _ (by rw [HSZ.out]; omega)).trans HG2.out
    have HK1 := Lib.hid hk1
    have HK2 := Lib.hid hk2
    clear hk1 hk2
    cases P with
    | none =>
      have HF : Hid (sixS (bl s) = none) := HS.out
      go_wp2_with (first | (refine load8 rfl _ (by exact rfl) (w.heap.size + 1) (by exact rfl) zeros8 rfl HK2.out ?_) | (refine store8 (w0 := w) w.heap.size rfl _ _ (by exact rfl) w.heap.size (by exact rfl) zeros8 zeros8 rfl rfl (by exact rfl) HK1.out HB5 (Nat.le_refl _) ?_; intro w4 HK4 HB6))
      exact bodyPost_ret (results_row_tmp rfl _ _ w.heap.size _ _ _ _ (by exact rfl) HK4.out Tryz.underlying27 rfl (by rw [info27]; rfl)) rfl ⟨by rw [HF.out]; rfl, HB6⟩
    | some x =>
      obtain ⟨_, _, hx⟩ := (HV1.out x rfl).shape
      have hl1 : l1 = x.length := by injection hx with _ h _; rw [h]; simp [u16s]
      clear hx
      subst hl1
      have HX2 := Lib.hid (HV1.out x rfl)
      clear HV1
      have hxl := HPL.out x rfl
      have HJ : Hid (sixS (bl s) = if (!false && x.length != 8 || false && decide (8 ≤ x.length + ([] : List Nat).length)) = true then none else some (x ++ (List.replicate (8 - x.length - ([] : List Nat).length) 0 ++ ([] : List Nat)))) := HS.out
      have HXP : Hid (0 < x.length → ∃ g2, A1 = some ⟨g2, 0, none⟩ ∧ g2 ≠ w.heap.size + 1 ∧ RdAt w3 g2 (u16s x)) := by
        intro h
        obtain ⟨g2, c, he, hb, hr, _⟩ := HX2.out.row (by intro h2; have := congrArg List.length h2; simp [u16s] at this; rw [this] at h; simp at h)
        injection he with h1
        have hs2 := HSZ.out
        exact ⟨g2, h1, by omega, hr.rd⟩
      by_cases h8 : x.length = 8
      · have hb : ((x.length : Int) == 8) = true := by rw [beq_iff_eq]; omega
        have hb3 : (x.length : Int) = 8 := by omega
        have HF : Hid (sixS (bl s) = some x) := HJ.out.trans (by rw [if_neg (by simp [h8])]; simp [h8])
        have hx8 : x.length ≤ 8 := by omega
        have H8 := Lib.hid h8
        clear h8
        go_upto_region 12 with (fail)
        clear hb hb3
        have HSP : Hid (splice zeros8 0 x = x) := by unfold Hid splice; have := H8.out; simp [zeros8, this]
        go_wp2_with (first | (refine copy16 (w0 := w) w.heap.size rfl _ _ (by exact rfl) _ A1 8 8 x.length c1 (by exact rfl) (by exact rfl) (w.heap.size + 1) 0 zeros8 HK2.out x (by show x.length = min x.length 8; omega) (fun h => ⟨rfl, by obtain ⟨g2, h1, _, h3⟩ := HXP.out h; exact ⟨g2, h1, h3⟩⟩) (by show 0 + x.length ≤ 8; omega) HB5 (by omega) ?_; intro w5 HK5 HB7 HO5; rw [HSP.out] at HK5) | (refine load8 rfl _ (by exact rfl) (w.heap.size + 1) (by exact rfl) _ H8.out HK5.out ?_) | (refine store8 (w0 := w) w.heap.size rfl _ _ (by exact rfl) w.heap.size (by exact rfl) _ zeros8 H8.out rfl (by exact rfl) ((HO5.out _ (by omega)).trans HK1.out) HB7 (Nat.le_refl _) ?_; intro w6 HK6 HB8))
        exact bodyPost_ret (results_row_tmp rfl _ _ w.heap.size _ _ _ _ (by exact rfl) HK6.out Tryz.underlying27 rfl (by rw [info27]; congr 1; have := H8.out; simp [u16s] at this ⊢; omega)) rfl ⟨by rw [HF.out]; rfl, HB8⟩
      · have HF : Hid (sixS (bl s) = none) := HJ.out.trans (if_pos (by simp [h8]))
        have hb : ((x.length : Int) == 8) = false := by rw [beq_eq_false_iff_ne]; omega
        have hb2 : ((x.length : Int) != 8) = true := by simp; omega
        have hb3 : ¬ (x.length : Int) = 8 := by omega
        clear h8
        go_wp2_with (first | (refine load8 rfl _ (by exact rfl) (w.heap.size + 1) (by exact rfl) zeros8 rfl HK2.out ?_) | (refine store8 (w0 := w) w.heap.size rfl _ _ (by exact rfl) w.heap.size (by exact rfl) zeros8 zeros8 rfl rfl (by exact rfl) HK1.out HB5 (Nat.le_refl _) ?_; intro w4 HK4 HB6))
        exact bodyPost_ret (results_row_tmp rfl _ _ w.heap.size _ _ _ _ (by exact rfl) HK4.out Tryz.underlying27 rfl (by rw [info27]; rfl)) rfl ⟨by rw [HF.out]; rfl, HB6⟩
  · obtain ⟨i, hi⟩ : ∃ i : Nat, Lib.index (bl s) [58, 58] = i := ⟨(Lib.index (bl s) [58, 58]).toNat, by omega⟩
    have hroom := Lib.index_room (bl s) [58, 58] (by omega)
    rw [hi, bl_length] at hroom
    have hroom2 : i + 2 ≤ s.size := by have : ([58, 58] : List UInt8).length = 2 := rfl; omega
    have hc : Lib.cut (bl s) [58, 58] = (bl (s.extract 0 i), bl (s.extract (i + 2) s.size), true) := by
      unfold Lib.cut
      rw [if_pos (by omega), hi, bl_extract, bl_extract]
      simp only [Int.toNat_natCast, List.drop_zero, Nat.sub_zero, List.length_cons, List.length_nil]
      rw [List.take_of_length_le (i := s.size - (i + 2)) (by rw [List.length_drop, bl_length]; omega)]
    rw [hc] at HS
    rw [hi]
    have HS : Hid (sixS (bl s) = sixJ true (pieces6S false (bl (s.extract 0 i))) (pieces6S true (bl (s.extract (i + 2) s.size)))) := HS.out
    have hza : (s.extract 0 i).size ≤ s.size := by rw [ByteArray.size_extract]; omega
    have hzb : (s.extract (i + 2) s.size).size ≤ s.size := by rw [ByteArray.size_extract]; omega
    clear hc hi hneg hroom
    go_wp2_with fail
    refine (ref2_pieces (s.extract 0 i) false _ (by omega)).mono ?_
    rintro e w2 ⟨⟨v1, rfl, ⟨A1, l1, c1, rfl⟩, hv1⟩, HB2⟩
    have HV1 := Lib.hid hv1
    clear hv1
    go_wp2_with fail
    refine (ref2_pieces (s.extract (i + 2) s.size) true _ (by omega)).mono ?_
    rintro e w3 ⟨⟨v2, rfl, ⟨A2, l2, c2, rfl⟩, hv2⟩, HB3⟩
    have HV2 := Lib.hid hv2
    clear hv2
    have HPL : Hid (∀ x, pieces6S false (bl (s.extract 0 i)) = some x → x.length ≤ 1000002) := fun x h => by have := pieces6_len h; rw [bl_length] at this; omega
    have HQL : Hid (∀ x, pieces6S true (bl (s.extract (i + 2) s.size)) = some x → x.length ≤ 1000002) := fun x h => by have := pieces6_len h; rw [bl_length] at this; omega
    generalize pieces6S false (bl (s.extract 0 i)) = P at *
    generalize pieces6S true (bl (s.extract (i + 2) s.size)) = Q at *
    have HB4 := Lib.hid (bel_trans HB2.out HB3.out)
    have HB5 := Lib.hid (bel_trans HB0.out HB4.out)
    have hk1 : w3.heap[w.heap.size]? = some zeroCells := (HB4.out.block _ (by rw [HSZ.out]; omega)).trans HG1.out
    have hk2 : w3.heap[w.heap.size + 1]? = some zeroCells := (HB4.out.block _ (by rw [HSZ.out]; omega)).trans HG2.out
    have HK1 := Lib.hid hk1
    have HK2 := Lib.hid hk2
    clear hk1 hk2
    cases P with
    | none =>
      have HF : Hid (sixS (bl s) = none) := HS.out
      go_wp2_with (first | (refine build8 rfl (by exact rfl) ?_) | (refine load8 rfl _ (by exact rfl) (w.heap.size + 1) (by exact rfl) zeros8 rfl HK2.out ?_) | (refine store8 (w0 := w) w.heap.size rfl _ _ (by exact rfl) w.heap.size (by exact rfl) zeros8 zeros8 rfl rfl (by exact rfl) HK1.out HB5 (Nat.le_refl _) ?_; intro w4 HK4 HB6))
      exact bodyPost_ret (results_row_tmp rfl _ _ w.heap.size _ _ _ _ (by exact rfl) HK4.out Tryz.underlying27 rfl (by rw [info27]; rfl)) rfl ⟨by rw [HF.out]; rfl, HB6⟩
    | some x =>
      cases Q with
      | none =>
        have HF : Hid (sixS (bl s) = none) := HS.out
        go_wp2_with (first | (refine build8 rfl (by exact rfl) ?_) | (refine load8 rfl _ (by exact rfl) (w.heap.size + 1) (by exact rfl) zeros8 rfl HK2.out ?_) | (refine store8 (w0 := w) w.heap.size rfl _ _ (by exact rfl) w.heap.size (by exact rfl) zeros8 zeros8 rfl rfl (by exact rfl) HK1.out HB5 (Nat.le_refl _) ?_; intro w4 HK4 HB6))
        exact bodyPost_ret (results_row_tmp rfl _ _ w.heap.size _ _ _ _ (by exact rfl) HK4.out Tryz.underlying27 rfl (by rw [info27]; rfl)) rfl ⟨by rw [HF.out]; rfl, HB6⟩
      | some y =>
        obtain ⟨_, _, hx⟩ := (HV1.out x rfl).shape
        obtain ⟨_, _, hy⟩ := (HV2.out y rfl).shape
        have hl1 : l1 = x.length := by injection hx with _ h _; rw [h]; simp [u16s]
        have hl2 : l2 = y.length := by injection hy with _ h _; rw [h]; simp [u16s]
        clear hx hy
        subst hl1 hl2
        have HX2 := Lib.hid ((HV1.out x rfl).bel HB3.out)
        have HY2 := Lib.hid (HV2.out y rfl)
        clear HV1 HV2
        have hxl := HPL.out x rfl
        have hyl := HQL.out y rfl
        have HJ : Hid (sixS (bl s) = if (!true && x.length != 8 || true && decide (8 ≤ x.length + y.length)) = true then none else some (x ++ (List.replicate (8 - x.length - y.length) 0 ++ y))) := HS.out
        have HXP : Hid (0 < x.length → ∃ g2, A1 = some ⟨g2, 0, none⟩ ∧ g2 ≠ w.heap.size + 1 ∧ RdAt w3 g2 (u16s x)) := by
          intro h
          obtain ⟨g2, c, he, hb, hr, _⟩ := HX2.out.row (by intro h2; have := congrArg List.length h2; simp [u16s] at this; rw [this] at h; simp at h)
          injection he with h1
          have hs2 := HSZ.out
          exact ⟨g2, h1, by omega, hr.rd⟩
        have HYP : Hid (0 < y.length → ∃ g2, A2 = some ⟨g2, 0, none⟩ ∧ g2 ≠ w.heap.size + 1 ∧ RdAt w3 g2 (u16s y)) := by
          intro h
          obtain ⟨g2, c, he, hb, hr, _⟩ := HY2.out.row (by intro h2; have := congrArg List.length h2; simp [u16s] at this; rw [this] at h; simp at h)
          injection he with h1
          have hs2 := HSZ.out
          have h3 := HB2.out.size
          exact ⟨g2, h1, by omega, hr.rd⟩
        by_cases h8 : 8 ≤ x.length + y.length
        · have HF : Hid (sixS (bl s) = none) := HJ.out.trans (if_pos (by simp [h8]))
          have h8' : 8 ≤ (x.length : Int) + (y.length : Int) := by omega
          clear h8
          go_wp2_with (first | (refine build8 rfl (by exact rfl) ?_) | (refine load8 rfl _ (by exact rfl) (w.heap.size + 1) (by exact rfl) zeros8 rfl HK2.out ?_) | (refine store8 (w0 := w) w.heap.size rfl _ _ (by exact rfl) w.heap.size (by exact rfl) zeros8 zeros8 rfl rfl (by exact rfl) HK1.out HB5 (Nat.le_refl _) ?_; intro w4 HK4 HB6))
          exact bodyPost_ret (results_row_tmp rfl _ _ w.heap.size _ _ _ _ (by exact rfl) HK4.out Tryz.underlying27 rfl (by rw [info27]; rfl)) rfl ⟨by rw [HF.out]; rfl, HB6⟩
        · have HF : Hid (sixS (bl s) = some (x ++ (List.replicate (8 - x.length - y.length) 0 ++ y))) := HJ.out.trans (if_neg (by simp [h8]))
          have h8' : (x.length : Int) + (y.length : Int) ≤ 7 := by omega
          have hx8 : x.length ≤ 7 := by omega
          have hy8 : (y.length : Int) ≤ 7 := by omega
          clear h8
          go_upto_region 19 with (refine copy16 (w0 := w) w.heap.size rfl _ _ (by exact rfl) _ A1 8 8 x.length c1 (by exact rfl) (by exact rfl) (w.heap.size + 1) 0 zeros8 HK2.out x (by show x.length = min x.length 8; omega) (fun h => ⟨rfl, by obtain ⟨g2, h1, _, h3⟩ := HXP.out h; exact ⟨g2, h1, h3⟩⟩) (by show 0 + x.length ≤ 8; omega) HB5 (by omega) ?_; intro w4 HK3 HB6 HO4)
          have HK4 : Hid (w4.heap[w.heap.size]? = some zeroCells) := (HO4.out _ (by omega)).trans HK1.out
          have hsl : (splice zeros8 0 x).length = 8 := length_splice _ _ _ (by show 0 + x.length ≤ 8; omega)
          have HSL := Lib.hid hsl
          clear hsl
          have HSP : Hid (splice (splice zeros8 0 x) (8 - y.length) y = x ++ (List.replicate (8 - x.length - y.length) 0 ++ y)) := splice_six x y (by omega)
          have hl9 : (splice (splice zeros8 0 x) (8 - y.length) y).length = 8 := by
            rw [length_splice _ _ _ (by rw [HSL.out]; omega)]; exact HSL.out
          have HL9 := Lib.hid hl9
          have HYP4 : Hid (0 < y.length → ∃ g2, A2 = some ⟨g2, 0, none⟩ ∧ RdAt w4 g2 (u16s y)) := fun h => by
            obtain ⟨g2, h1, h2, h3⟩ := HYP.out h
            exact ⟨g2, h1, h3.other h2 HO4.out⟩
          clear hl9
          by_cases hy0 : 0 < y.length
          · have hoff : (8 : Int) - y.length = ((8 - y.length : Nat) : Int) := by omega
            have HOF := Lib.hid hoff
            clear hoff
            go_wp2_with (first | (refine slice_arr rfl _ _ (by exact rfl) (w.heap.size + 1) _ (8 - y.length) (by exact rfl) (by exact rfl) HOF.out (by omega) ?_) | (refine copy16 (w0 := w) w.heap.size rfl _ _ (by exact rfl) _ A2 _ _ y.length c2 (by exact rfl) (by exact rfl) (w.heap.size + 1) (8 - y.length) (splice zeros8 0 x) HK3.out y (by show y.length = min y.length _; omega) (fun h => ⟨rfl, HYP4.out h⟩) (by rw [HSL.out]; omega) HB6 (by omega) ?_; intro w5 HK5 HB7 HO5) | (refine load8 rfl _ (by exact rfl) (w.heap.size + 1) (by exact rfl) _ HL9.out HK5.out ?_) | (refine store8 (w0 := w) w.heap.size rfl _ _ (by exact rfl) w.heap.size (by exact rfl) _ zeros8 HL9.out rfl (by exact rfl) ((HO5.out _ (by omega)).trans HK4.out) HB7 (Nat.le_refl _) ?_; intro w6 HK6 HB8))
            exact bodyPost_ret (results_row_tmp rfl _ _ w.heap.size _ _ _ _ (by exact rfl) HK6.out Tryz.underlying27 rfl (by rw [info27]; congr 1; have := HL9.out; simp [u16s] at this ⊢; omega)) rfl ⟨by rw [HF.out, ← HSP.out]; rfl, HB8⟩
          · obtain rfl : y = [] := List.eq_nil_of_length_eq_zero (by omega)
            go_wp2_with (first | (refine slice_end rfl _ _ (by exact rfl) (w.heap.size + 1) _ (by exact rfl) (by exact rfl) (by first | rfl | simp) ?_) | (refine copy16 (w0 := w) w.heap.size rfl _ _ (by exact rfl) _ A2 _ _ 0 c2 (by exact rfl) (by exact rfl) (w.heap.size + 1) 8 (splice zeros8 0 x) HK3.out [] (by show 0 = min 0 _; omega) (fun h => absurd h (by simp)) (by rw [HSL.out]; omega) HB6 (by omega) ?_; intro w5 HK5 HB7 HO5) | (refine load8 rfl _ (by exact rfl) (w.heap.size + 1) (by exact rfl) _ HL9.out HK5.out ?_) | (refine store8 (w0 := w) w.heap.size rfl _ _ (by exact rfl) w.heap.size (by exact rfl) _ zeros8 HL9.out rfl (by exact rfl) ((HO5.out _ (by omega)).trans HK4.out) HB7 (Nat.le_refl _) ?_; intro w6 HK6 HB8))
            exact bodyPost_ret (results_row_tmp rfl _ _ w.heap.size _ _ _ _ (by exact rfl) HK6.out Tryz.underlying27 rfl (by rw [info27]; congr 1; have := HL9.out; simp [u16s] at this ⊢; omega)) rfl ⟨by rw [HF.out, ← HSP.out]; rfl, HB8⟩
end Go.Proofs.YtpgehhnmlihnbaaGreatDoor
