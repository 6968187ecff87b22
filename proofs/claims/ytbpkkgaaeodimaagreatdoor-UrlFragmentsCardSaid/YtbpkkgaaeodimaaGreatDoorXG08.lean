import Derived.Test.YtbpkkgaaeodimaaGreatDoorXG07
import Derived.Laws.CopyOwn
import Derived.Laws.Tables
import Derived.Laws.Rows
import Derived.Laws.ResultCell
namespace Go.Proofs.YtbpkkgaaeodimaaGreatDoor
open Go.RowKit

def zeros8 : List Nat := [0, 0, 0, 0, 0, 0, 0, 0]
/-- The eight pieces of an address. -/
def sixJ (gap : Bool) (p q : Option (List Nat)) : Option (List Nat) := match p, q with
  | some x, some y => if (!gap && x.length != 8 || gap && decide (8 ≤ x.length + y.length)) = true then none else some (x ++ (List.replicate (8 - x.length - y.length) 0 ++ y))
  | _, _ => none
def sixS (l : List UInt8) : Option (List Nat) := sixJ (Lib.cut l [58, 58]).2.2 (pieces6S (!(Lib.cut l [58, 58]).2.2) (Lib.cut l [58, 58]).1) (pieces6S true (Lib.cut l [58, 58]).2.1)
def sixV (o : Option (List Nat)) : Value := .agg (u16s (o.getD zeros8)).toArray
def errSix (o : Option (List Nat)) : Int := if o.isSome then 0 else 10
theorem cut_parts (l sep : List UInt8) : (Lib.cut l sep).1.length ≤ l.length ∧ (Lib.cut l sep).2.1.length ≤ l.length := by
  unfold Lib.cut
  split
  · simp only [List.length_take, List.length_drop]; omega
  · simp
theorem cut_none (l sep : List UInt8) : (Lib.cut l sep).2.2 = false → (Lib.cut l sep).2.1 = [] := by
  unfold Lib.cut
  split
  · intro h; cases h
  · intro _; rfl
theorem pieces6_len {last : Bool} {l : List UInt8} {x : List Nat} (h : pieces6S last l = some x) : x.length ≤ l.length + 2 := by
  unfold pieces6S at h
  split at h
  · cases h; simp
  · have := pf_len h
    have := cutS_len 58 l []
    omega
theorem splice_six (x y : List Nat) (h : x.length + y.length ≤ 8) : splice (splice zeros8 0 x) (8 - y.length) y = x ++ (List.replicate (8 - x.length - y.length) 0 ++ y) := by
  have hz : zeros8 = List.replicate 8 0 := rfl
  unfold splice
  rw [hz]
  simp only [List.take_zero, List.nil_append, Nat.zero_add, List.drop_replicate]
  rw [List.take_append, List.take_of_length_le (by omega : x.length ≤ 8 - y.length), List.take_replicate, List.drop_eq_nil_of_le (by simp; omega), List.append_nil, List.append_assoc]
  congr 3
  omega
theorem arr27 : Tryz.prog.arrayLen 150 = 8 := by kernel_rfl
theorem alloc_at (w : World) (o : Obj) : (w.alloc o).heap[w.heap.size]? = some o := by
  show (w.heap.push o)[w.heap.size]? = _
  exact Array.getElem?_push_size
theorem alloc_old (w : World) (o : Obj) (i : Nat) (h : i < w.heap.size) : (w.alloc o).heap[i]? = w.heap[i]? := by
  show (w.heap.push o)[i]? = _
  rw [Array.getElem?_push, if_neg (by omega)]
theorem bel_drewN (w : World) (n : Nat) : Bel w (w.drewN n) := ⟨rfl, rfl, rfl, Nat.le_refl _, fun _ _ => rfl⟩
abbrev zeroCells : Obj := .cells (u16s zeros8).toArray 150
theorem info27 : (Tryz.prog.info? 150).map (fun i => i.size) = some 8 := by kernel_rfl
theorem size26 : (Tryz.prog.info? 149).map (fun i => i.size) = some 1 := by kernel_rfl
theorem u16s_one (l : List Nat) : (u16s l).toArray.all (·.oneCell') = true := by
  rw [List.all_toArray, List.all_eq_true]
  intro x hx
  unfold u16s at hx
  obtain ⟨n, _, rfl⟩ := List.mem_map.1 hx
  rfl
theorem RdAt.other {W w' : World} {g g2 : Nat} {xs : List Value} (h : RdAt W g2 xs) (hne : g2 ≠ g) (hk : ∀ i, i ≠ g → w'.heap[i]? = W.heap[i]?) : RdAt w' g2 xs := by
  have hb := hk g2 hne
  refine ⟨?_, fun k u hu => ?_⟩
  · have := h.1
    rw [Array.getElem?_eq_getElem this] at hb
    exact (Array.getElem?_eq_some_iff.1 hb).1
  · have := h.2 k u hu
    unfold World.cell? at this ⊢
    simp only [hb]
    exact this
section
variable {ops : Array Oper} {Q : Exit → Act → World → Prop} {a : Act} {rest : List Oper} {o : Oper}
set_option maxRecDepth 100000 in
theorem slice_arr {W : World} (hgd : o.guard = none) (x lo : Operand) (ho : o.op = .slice 150 x (some lo) none none) (g : Nat) (l : Int) (n : Nat) (hx : a.eval x = .pointer (some ⟨g, 0, none⟩)) (hl : a.eval lo = .int .i64 l) (hn : l = (n : Int)) (h1 : n < 8)
    (h : wpList Tryz.prog ops Q rest (a.put o.dst (.slice (some ⟨g, n, none⟩) (8 - n) (8 - n))) W) : wpList Tryz.prog ops Q (o :: rest) a W := by
  refine wpList_plain hgd fun _ hK => ?_
  have ht : Tryz.prog.underlying 150 = some (.array (Tryz.prog.arrayLen 150) (Tryz.prog.elem 150)) := by kernel_rfl
  have he : Tryz.prog.elem 150 = 149 := by kernel_rfl
  have hr := run_sliceAt_array_l (P := Tryz.prog) W 150 ⟨g, 0, none⟩ ht .i64 l (by omega) (by rw [arr27]; omega)
  obtain ⟨i0, hi, hz⟩ := Option.map_eq_some_iff.1 size26
  have hs : (sizeOf 149).run Tryz.prog W = .ok 1 W := by simp [sizeOf, typeInfo, hi, hz]
  rw [he, hs, arr27] at hr
  unfold Oper.wp execOp
  simp only [ho, hx, hl, Option.map_some, Option.map_none, hr, Sem.run_bind, Result.andThen_ok, Sem.run_pure]
  subst hn
  have e : slicedAt ⟨g, 0, none⟩ (n : Int).toNat 8 8 1 = .slice (some ⟨g, n, none⟩) (8 - n) (8 - n) := by
    unfold slicedAt
    rw [Int.toNat_natCast, if_neg (by omega), Nat.mul_one]
    congr 2
    unfold Addr.add
    rcases n with _ | n <;> simp
  rw [e]
  exact hK _ _ h
set_option maxRecDepth 100000 in
theorem slice_end {W : World} (hgd : o.guard = none) (x lo : Operand) (ho : o.op = .slice 150 x (some lo) none none) (g : Nat) (l : Int) (hx : a.eval x = .pointer (some ⟨g, 0, none⟩)) (hl : a.eval lo = .int .i64 l) (hn : l = 8)
    (h : wpList Tryz.prog ops Q rest (a.put o.dst (.slice (some ⟨g, 0, none⟩) 0 0)) W) : wpList Tryz.prog ops Q (o :: rest) a W := by
  refine wpList_plain hgd fun _ hK => ?_
  have ht : Tryz.prog.underlying 150 = some (.array (Tryz.prog.arrayLen 150) (Tryz.prog.elem 150)) := by kernel_rfl
  have he : Tryz.prog.elem 150 = 149 := by kernel_rfl
  have hr := run_sliceAt_array_l (P := Tryz.prog) W 150 ⟨g, 0, none⟩ ht .i64 l (by omega) (by rw [arr27]; omega)
  obtain ⟨i0, hi, hz⟩ := Option.map_eq_some_iff.1 size26
  have hs : (sizeOf 149).run Tryz.prog W = .ok 1 W := by simp [sizeOf, typeInfo, hi, hz]
  rw [he, hs, arr27] at hr
  unfold Oper.wp execOp
  simp only [ho, hx, hl, Option.map_some, Option.map_none, hr, Sem.run_bind, Result.andThen_ok, Sem.run_pure]
  subst hn
  exact hK _ _ h
theorem load8 {W : World} (hgd : o.guard = none) (x : Operand) (ho : o.op = .load 150 x) (g : Nat) (hx : a.eval x = .pointer (some ⟨g, 0, none⟩)) (l : List Nat) (hl : l.length = 8)
    (hg : W.heap[g]? = some (.cells (u16s l).toArray 150 (0, 0)))
    (h : wpList Tryz.prog ops Q rest (a.put o.dst (.agg (u16s l).toArray)) W) : wpList Tryz.prog ops Q (o :: rest) a W :=
  wpList_load_row hgd _ x ho g hx _ _ (0, 0) _ hg Tryz.underlying150 rfl (by rw [info27]; simp [u16s, hl]) h
theorem store8 {w0 W : World} (B : Nat) (hgd : o.guard = none) (x y : Operand) (ho : o.op = .store 150 x y) (g : Nat) (hx : a.eval x = .pointer (some ⟨g, 0, none⟩)) (l old : List Nat) (hl : l.length = 8) (hl2 : old.length = 8)
    (hy : a.eval y = .agg (u16s l).toArray)
    (hg : W.heap[g]? = some (.cells (u16s old).toArray 150 (0, 0))) (HB : Hid (Below B w0 W)) (hB : B ≤ g)
    (h : ∀ w1, Hid (w1.heap[g]? = some (.cells (u16s l).toArray 150 (0, 0))) → Hid (Below B w0 w1) → wpList Tryz.prog ops Q rest (a.put o.dst undef) w1) : wpList Tryz.prog ops Q (o :: rest) a W :=
  wpList_store_row hgd _ x y ho g _ hx hy _ _ hg (by rw [info27]; simp [u16s, hl]) (by simp [u16s, hl, hl2]) (u16s_one l)
    (h _ (setRow_heap W g _ _ _ _ hg) (below_setRow HB.out hB _))
theorem copy16 {w0 W : World} (B : Nat) (hgd : o.guard = none) (d s : Operand)
    (ho : o.op = .call { callee := .builtin .copy, args := #[d, s], argTypes := #[187, 187] })
    (dp sp : Option Addr) (dLen dCap sLen sCap : Nat) (hd : a.eval d = .slice dp dLen dCap) (hs : a.eval s = .slice sp sLen sCap)
    (g off : Nat) (cur : List Nat) (hg : W.heap[g]? = some (.cells (u16s cur).toArray 150 (0, 0))) (cs : List Nat) (hn : cs.length = Nat.min sLen dLen)
    (hpos : 0 < cs.length → dp = some ⟨g, off, none⟩ ∧ ∃ g2, sp = some ⟨g2, 0, none⟩ ∧ RdAt W g2 (u16s cs))
    (hfit : off + cs.length ≤ cur.length) (HB : Hid (Below B w0 W)) (hB : B ≤ g)
    (h : ∀ w1, Hid (w1.heap[g]? = some (.cells (u16s (splice cur off cs)).toArray 150 (0, 0))) → Hid (Below B w0 w1) → Hid (∀ i, i ≠ g → w1.heap[i]? = W.heap[i]?) → wpList Tryz.prog ops Q rest (a.put o.dst (goInt cs.length)) w1) :
    wpList Tryz.prog ops Q (o :: rest) a W := by
  have hsp : u16s (splice cur off cs) = splice (u16s cur) off (u16s cs) := by unfold u16s splice; simp
  have hlc : (u16s cs).length = cs.length := by simp [u16s]
  have hlk : (u16s cur).length = cur.length := by simp [u16s]
  by_cases h0 : cs.length = 0
  · obtain rfl : cs = [] := List.eq_nil_of_length_eq_zero h0
    refine wpList_copy_nothing hgd d s _ _ ho _ Tryz.underlying187 size26 dp sp dLen dCap sLen sCap hd hs (by simpa using hn.symm) ?_
    exact h W (by unfold Hid; rw [hg]; simp [splice]) HB (fun _ _ => rfl)
  · obtain ⟨rfl, g2, rfl, hsrc⟩ := hpos (by omega)
    have hh := wpList_copy_own (P := Tryz.prog) (w := W) (ops := ops) (rest := rest) (o := o) (a := a) (Q := Q) hgd d s _ _ ho _ Tryz.underlying187 size26 g off dLen dCap ⟨g2, 0, none⟩ sLen sCap hd hs (u16s cur).toArray 150 hg (u16s cs) (by rw [hlc]; exact hn)
      (fun j v hv => by
        have := hsrc.2 j v hv
        rcases j with _ | j
        · exact this
        · unfold Addr.add; simpa using this)
      (by rw [hlc]; simpa [hlk] using hfit) (fun v hv => by
        unfold u16s at hv
        obtain ⟨n, _, rfl⟩ := List.mem_map.1 hv
        rfl)
    refine hh ?_
    rw [hlc]
    refine h _ ?_ (below_setRow HB.out hB _) (fun i hi => setRow_other W g i _ hi)
    unfold Hid
    rw [hsp, setRow_heap W g _ _ _ _ hg]
    simp [splice, hlc]
end
theorem results_row_tmp {P : Program} {fn : Func} {p u : Tmp} {ty : TypeId} (h : fn.results = #[.cell p ty, .tmp u]) (tmps : Array Value) (w : World) (g : Nat) (t : TypeId) (cs : Array Value) (fr : Nat × Nat) (d : TypeDesc)
    (hp : tmps.getD p undef = .pointer (some ⟨g, 0, none⟩)) (hg : w.heap[g]? = some (.cells cs t fr))
    (hu : P.underlying ty = some d) (hd : (match d with | .struct _ | .array _ _ => true | _ => false) = true) (hi : (P.info? ty).map (·.size) = some cs.size) :
    (results fn tmps).run P w = .ok (.tuple #[.agg cs, tmps.getD u undef]) w := by
  rw [results_cell_tmp h, hp]
  simp [asAddr, run_loadVar_row w g t ty cs fr d hg hu hd hi]
set_option maxHeartbeats 4000000 in
set_option maxRecDepth 100000 in
theorem host_Six (s : ByteArray) (w : World) (hs : s.size ≤ 1000000) (HE : Hid (Env w)) :
    Calls Tryz.prog 192 #[.string s] w fun e w' => e = .returned (.tuple #[sixV (sixS (bl s)), .int .i64 (errSix (sixS (bl s)))]) ∧ Hid (Bel w w') := by
  go_enter Tryz.func192, Tryz.ntmps192
  obtain ⟨m, hm⟩ := HE.out.maxLen
  have HM := Lib.hid hm
  clear hm
  go_wp2_with fail
  have hg1 : ((w.alloc zeroCells).alloc zeroCells).heap[w.heap.size]? = some zeroCells := (alloc_old _ _ _ (by simp)).trans (alloc_at _ _)
  have hg2 : ((w.alloc zeroCells).alloc zeroCells).heap[w.heap.size + 1]? = some zeroCells := by
    have e : (w.alloc zeroCells).heap.size = w.heap.size + 1 := by simp
    rw [← e]; exact alloc_at _ _
  have HB0 : Hid (Bel w ((w.alloc zeroCells).alloc zeroCells)) := ((Below.refl _ w).alloc (Nat.le_refl _) _).alloc (by simp) _
  have hsz0 : ((w.alloc zeroCells).alloc zeroCells).heap.size = w.heap.size + 2 := by simp
  have HE0 := Lib.hid (HE.out.bel HB0.out)
  change Calls _ _ _ ((w.alloc zeroCells).alloc zeroCells) _
  generalize (w.alloc zeroCells).alloc zeroCells = w0 at *
  obtain ⟨m, hm⟩ := HE0.out.maxLen
  have HM := Lib.hid hm
  clear hm
  have HG1 := Lib.hid hg1
  have HG2 := Lib.hid hg2
  have HSZ := Lib.hid hsz0
  clear hg1 hg2 hsz0
  refine (Tryz.strings_Cut s _ m _ (by omega) HM.out).mono ?_
  rintro e w1 ⟨rfl, n1, rfl⟩
  rw [show s.data.toList = bl s from rfl]
  have hcut : (⟨#[58, 58]⟩ : ByteArray).data.toList = [58, 58] := rfl
  rw [hcut]
  clear hcut
  have HS : Hid (sixS (bl s) = sixJ (Lib.cut (bl s) [58, 58]).2.2 (pieces6S (!(Lib.cut (bl s) [58, 58]).2.2) (Lib.cut (bl s) [58, 58]).1) (pieces6S true (Lib.cut (bl s) [58, 58]).2.1)) := rfl
  have hcp := cut_parts (bl s) [58, 58]
  rw [bl_length] at hcp
  have hgq := cut_none (bl s) [58, 58]
  obtain ⟨A, B, gap, hc⟩ : ∃ A B gap, Lib.cut (bl s) [58, 58] = (A, B, gap) := ⟨_, _, _, rfl⟩
  rw [hc] at HS hcp hgq ⊢
  clear hc
  obtain ⟨ba, rfl⟩ : ∃ ba, A = bl ba := ⟨⟨A.toArray⟩, (bl_mk A).symm⟩
  obtain ⟨bb, rfl⟩ : ∃ bb, B = bl bb := ⟨⟨B.toArray⟩, (bl_mk B).symm⟩
  simp only [mk_bl] at *
  rw [bl_length, bl_length] at hcp
  obtain ⟨hca, hcb⟩ := hcp
  have HE1 : Hid (Env (w0.drewN n1)) := HE0.out.bel (bel_drewN _ _)
  go_wp2_with fail
  refine (host_pieces ba (!gap) _ (by omega) HE1).mono ?_
  rintro e w2 ⟨⟨v1, rfl, ⟨A1, l1, c1, rfl⟩, hv1⟩, HB2⟩
  have HV1 := Lib.hid hv1
  clear hv1
  have HE2 := Lib.hid (HE1.out.bel HB2.out)
  go_wp2_with fail
  refine (host_pieces bb true _ (by omega) HE2).mono ?_
  rintro e w3 ⟨⟨v2, rfl, ⟨A2, l2, c2, rfl⟩, hv2⟩, HB3⟩
  have HV2 := Lib.hid hv2
  clear hv2
  have HGQ : Hid (gap = false → pieces6S true (bl bb) = some []) := fun h => by rw [hgq h]; rfl
  clear hgq
  have HPL : Hid (∀ x, pieces6S (!gap) (bl ba) = some x → x.length ≤ 1000002) := fun x h => by have := pieces6_len h; rw [bl_length] at this; omega
  have HQL : Hid (∀ x, pieces6S true (bl bb) = some x → x.length ≤ 1000002) := fun x h => by have := pieces6_len h; rw [bl_length] at this; omega
  generalize pieces6S (!gap) (bl ba) = P at *
  generalize pieces6S true (bl bb) = Q at *
  have HB4 := Lib.hid (bel_trans (bel_drewN w0 n1) (bel_trans HB2.out HB3.out))
  have HB5 := Lib.hid (bel_trans HB0.out HB4.out)
  have hk1 : w3.heap[w.heap.size]? = some zeroCells := (HB4.out.block _ (by rw [HSZ.out]; omega)).trans HG1.out
  have hk2 : w3.heap[w.heap.size + 1]? = some zeroCells := (HB4.out.block _ (by rw [HSZ.out]; omega)).trans HG2.out
  have HK1 := Lib.hid hk1
  have HK2 := Lib.hid hk2
  clear hk1 hk2
  cases P with
  | none =>
    have HF : Hid (sixS (bl s) = none) := HS.out
    go_wp2_with (first | (refine load8 rfl _ (by exact rfl) (w.heap.size + 1) (by exact rfl) zeros8 rfl HK2.out ?_) | (refine store8 (w0 := w) w.heap.size rfl _ _ (by exact rfl) w.heap.size (by exact rfl) zeros8 zeros8 rfl rfl (by exact rfl) HK1.out HB5 (Nat.le_refl _) ?_; intro w4 HK4 HB6))
    exact bodyPost_ret (results_row_tmp rfl _ _ w.heap.size _ _ _ _ (by exact rfl) HK4.out Tryz.underlying150 rfl (by rw [info27]; rfl)) rfl ⟨by rw [HF.out]; rfl, HB6⟩
  | some x =>
    cases Q with
    | none =>
      have HF : Hid (sixS (bl s) = none) := HS.out
      go_wp2_with (first | (refine load8 rfl _ (by exact rfl) (w.heap.size + 1) (by exact rfl) zeros8 rfl HK2.out ?_) | (refine store8 (w0 := w) w.heap.size rfl _ _ (by exact rfl) w.heap.size (by exact rfl) zeros8 zeros8 rfl rfl (by exact rfl) HK1.out HB5 (Nat.le_refl _) ?_; intro w4 HK4 HB6))
      exact bodyPost_ret (results_row_tmp rfl _ _ w.heap.size _ _ _ _ (by exact rfl) HK4.out Tryz.underlying150 rfl (by rw [info27]; rfl)) rfl ⟨by rw [HF.out]; rfl, HB6⟩
    | some y =>
      obtain ⟨_, _, hx⟩ := (HV1.out x rfl).shape
      obtain ⟨_, _, hy⟩ := (HV2.out y rfl).shape
      have hl1 : l1 = x.length := by injection hx with _ h _; rw [h]; simp [u16s]
      have hl2 : l2 = y.length := by injection hy with _ h _; rw [h]; simp [u16s]
      clear hx hy
      subst hl1 hl2
      have HX2 := Lib.hid ((HV1.out x rfl).bel HB3.out)
      have HY2 := Lib.hid (HV2.out y rfl)
      clear HV1 HV2
      have hxl := HPL.out x rfl
      have hyl := HQL.out y rfl
      have HJ : Hid (sixS (bl s) = if (!gap && x.length != 8 || gap && decide (8 ≤ x.length + y.length)) = true then none else some (x ++ (List.replicate (8 - x.length - y.length) 0 ++ y))) := HS.out
      have HXP : Hid (0 < x.length → ∃ g2, A1 = some ⟨g2, 0, none⟩ ∧ g2 ≠ w.heap.size + 1 ∧ RdAt w3 g2 (u16s x)) := by
        intro h
        obtain ⟨g2, c, he, hb, hr, _⟩ := HX2.out.row (by intro h2; have := congrArg List.length h2; simp [u16s] at this; rw [this] at h; simp at h)
        injection he with h1
        have hs2 := HSZ.out
        have : (w0.drewN n1).heap.size = w0.heap.size := rfl
        exact ⟨g2, h1, by omega, hr.rd⟩
      have HYP : Hid (0 < y.length → ∃ g2, A2 = some ⟨g2, 0, none⟩ ∧ g2 ≠ w.heap.size + 1 ∧ RdAt w3 g2 (u16s y)) := by
        intro h
        obtain ⟨g2, c, he, hb, hr, _⟩ := HY2.out.row (by intro h2; have := congrArg List.length h2; simp [u16s] at this; rw [this] at h; simp at h)
        injection he with h1
        have hs2 := HSZ.out
        have h3 := HB2.out.size
        have : (w0.drewN n1).heap.size = w0.heap.size := rfl
        exact ⟨g2, h1, by omega, hr.rd⟩
      cases gap
      · have hy0 : y = [] := Option.some.inj (HGQ.out rfl)
        subst hy0
        by_cases h8 : x.length = 8
        · have HF : Hid (sixS (bl s) = some (x ++ (List.replicate (8 - x.length - ([] : List Nat).length) 0 ++ ([] : List Nat)))) := HJ.out.trans (if_neg (by simp [h8]))
          have hb : ((x.length : Int) == 8) = true := by rw [beq_iff_eq]; omega
          have hb3 : (x.length : Int) = 8 := by omega
          have hy8 : (([] : List Nat).length : Int) ≤ 7 := by decide
          have hx8 : x.length ≤ 8 := by omega
          clear h8
          go_upto_region 7 with (fail)
          clear hb hb3
          go_upto_region 8 with (refine copy16 (w0 := w) w.heap.size rfl _ _ (by exact rfl) _ A1 8 8 x.length c1 (by exact rfl) (by exact rfl) (w.heap.size + 1) 0 zeros8 HK2.out x (by show x.length = min x.length 8; omega) (fun h => ⟨rfl, by obtain ⟨g2, h1, _, h3⟩ := HXP.out h; exact ⟨g2, h1, h3⟩⟩) (by show 0 + x.length ≤ 8; omega) HB5 (by omega) ?_; intro w4 HK3 HB6 HO4)
          have HK4 : Hid (w4.heap[w.heap.size]? = some zeroCells) := (HO4.out _ (by omega)).trans HK1.out
          have hsl : (splice zeros8 0 x).length = 8 := length_splice _ _ _ (by show 0 + x.length ≤ 8; omega)
          have HSL := Lib.hid hsl
          clear hsl
          have HSP : Hid (splice (splice zeros8 0 x) (8 - ([] : List Nat).length) [] = x ++ (List.replicate (8 - x.length - ([] : List Nat).length) 0 ++ ([] : List Nat))) := splice_six x [] (by show x.length + 0 ≤ 8; omega)
          have hl9 : (splice (splice zeros8 0 x) (8 - ([] : List Nat).length) []).length = 8 := by
            rw [length_splice _ _ _ (by rw [HSL.out]; omega)]; exact HSL.out
          have HL9 := Lib.hid hl9
          have HYP4 : Hid (0 < ([] : List Nat).length → ∃ g2, A2 = some ⟨g2, 0, none⟩ ∧ RdAt w4 g2 (u16s ([] : List Nat))) := fun h => by
            obtain ⟨g2, h1, h2, h3⟩ := HYP.out h
            exact ⟨g2, h1, h3.other h2 HO4.out⟩
          clear hl9
          go_wp2_with (first | (refine slice_end rfl _ _ (by exact rfl) (w.heap.size + 1) _ (by exact rfl) (by exact rfl) (by first | rfl | simp) ?_) | (refine copy16 (w0 := w) w.heap.size rfl _ _ (by exact rfl) _ A2 _ _ 0 c2 (by exact rfl) (by exact rfl) (w.heap.size + 1) 8 (splice zeros8 0 x) HK3.out [] (by show 0 = min 0 _; omega) (fun h => absurd h (by simp)) (by rw [HSL.out]; exact Nat.le_refl _) HB6 (by omega) ?_; intro w5 HK5 HB7 HO5) | (refine load8 rfl _ (by exact rfl) (w.heap.size + 1) (by exact rfl) _ HL9.out HK5.out ?_) | (refine store8 (w0 := w) w.heap.size rfl _ _ (by exact rfl) w.heap.size (by exact rfl) _ zeros8 HL9.out rfl (by exact rfl) ((HO5.out _ (by omega)).trans HK4.out) HB7 (Nat.le_refl _) ?_; intro w6 HK6 HB8))
          exact bodyPost_ret (results_row_tmp rfl _ _ w.heap.size _ _ _ _ (by exact rfl) HK6.out Tryz.underlying150 rfl (by rw [info27]; congr 1; have := HL9.out; simp [u16s] at this ⊢; omega)) rfl ⟨by rw [HF.out, ← HSP.out]; rfl, HB8⟩
        · have HF : Hid (sixS (bl s) = none) := HJ.out.trans (if_pos (by simp [h8]))
          have hb : ((x.length : Int) == 8) = false := by rw [beq_eq_false_iff_ne]; omega
          have hb2 : ((x.length : Int) != 8) = true := by simp; omega
          have hb3 : ¬ (x.length : Int) = 8 := by omega
          clear h8
          go_wp2_with (first | (refine load8 rfl _ (by exact rfl) (w.heap.size + 1) (by exact rfl) zeros8 rfl HK2.out ?_) | (refine store8 (w0 := w) w.heap.size rfl _ _ (by exact rfl) w.heap.size (by exact rfl) zeros8 zeros8 rfl rfl (by exact rfl) HK1.out HB5 (Nat.le_refl _) ?_; intro w4 HK4 HB6))
          exact bodyPost_ret (results_row_tmp rfl _ _ w.heap.size _ _ _ _ (by exact rfl) HK4.out Tryz.underlying150 rfl (by rw [info27]; rfl)) rfl ⟨by rw [HF.out]; rfl, HB6⟩
      · by_cases h8 : 8 ≤ x.length + y.length
        · have HF : Hid (sixS (bl s) = none) := HJ.out.trans (if_pos (by simp [h8]))
          have h8' : 8 ≤ (x.length : Int) + (y.length : Int) := by omega
          clear h8
          go_wp2_with (first | (refine load8 rfl _ (by exact rfl) (w.heap.size + 1) (by exact rfl) zeros8 rfl HK2.out ?_) | (refine store8 (w0 := w) w.heap.size rfl _ _ (by exact rfl) w.heap.size (by exact rfl) zeros8 zeros8 rfl rfl (by exact rfl) HK1.out HB5 (Nat.le_refl _) ?_; intro w4 HK4 HB6))
          exact bodyPost_ret (results_row_tmp rfl _ _ w.heap.size _ _ _ _ (by exact rfl) HK4.out Tryz.underlying150 rfl (by rw [info27]; rfl)) rfl ⟨by rw [HF.out]; rfl, HB6⟩
        · have HF : Hid (sixS (bl s) = some (x ++ (List.replicate (8 - x.length - y.length) 0 ++ y))) := HJ.out.trans (if_neg (by simp [h8]))
          have h8' : (x.length : Int) + (y.length : Int) ≤ 7 := by omega
          have hx8 : x.length ≤ 7 := by omega
          have hy8 : (y.length : Int) ≤ 7 := by omega
          clear h8
          go_upto_region 8 with (refine copy16 (w0 := w) w.heap.size rfl _ _ (by exact rfl) _ A1 8 8 x.length c1 (by exact rfl) (by exact rfl) (w.heap.size + 1) 0 zeros8 HK2.out x (by show x.length = min x.length 8; omega) (fun h => ⟨rfl, by obtain ⟨g2, h1, _, h3⟩ := HXP.out h; exact ⟨g2, h1, h3⟩⟩) (by show 0 + x.length ≤ 8; omega) HB5 (by omega) ?_; intro w4 HK3 HB6 HO4)
          have HK4 : Hid (w4.heap[w.heap.size]? = some zeroCells) := (HO4.out _ (by omega)).trans HK1.out
          have hsl : (splice zeros8 0 x).length = 8 := length_splice _ _ _ (by show 0 + x.length ≤ 8; omega)
          have HSL := Lib.hid hsl
          clear hsl
          have HSP : Hid (splice (splice zeros8 0 x) (8 - y.length) y = x ++ (List.replicate (8 - x.length - y.length) 0 ++ y)) := splice_six x y (by omega)
          have hl9 : (splice (splice zeros8 0 x) (8 - y.length) y).length = 8 := by
            rw [length_splice _ _ _ (by rw [HSL.out]; omega)]; exact HSL.out
          have HL9 := Lib.hid hl9
          have HYP4 : Hid (0 < y.length → ∃ g2, A2 = some ⟨g2, 0, none⟩ ∧ RdAt w4 g2 (u16s y)) := fun h => by
            obtain ⟨g2, h1, h2, h3⟩ := HYP.out h
            exact ⟨g2, h1, h3.other h2 HO4.out⟩
          clear hl9
          by_cases hy0 : 0 < y.length
          · have hoff : (8 : Int) - y.length = ((8 - y.length : Nat) : Int) := by omega
            have HOF := Lib.hid hoff
            clear hoff
            go_wp2_with (first | (refine slice_arr rfl _ _ (by exact rfl) (w.heap.size + 1) _ (8 - y.length) (by exact rfl) (by exact rfl) HOF.out (by omega) ?_) | (refine copy16 (w0 := w) w.heap.size rfl _ _ (by exact rfl) _ A2 _ _ y.length c2 (by exact rfl) (by exact rfl) (w.heap.size + 1) (8 - y.length) (splice zeros8 0 x) HK3.out y (by show y.length = min y.length _; omega) (fun h => ⟨rfl, HYP4.out h⟩) (by rw [HSL.out]; omega) HB6 (by omega) ?_; intro w5 HK5 HB7 HO5) | (refine load8 rfl _ (by exact rfl) (w.heap.size + 1) (by exact rfl) _ HL9.out HK5.out ?_) | (refine store8 (w0 := w) w.heap.size rfl _ _ (by exact rfl) w.heap.size (by exact rfl) _ zeros8 HL9.out rfl (by exact rfl) ((HO5.out _ (by omega)).trans HK4.out) HB7 (Nat.le_refl _) ?_; intro w6 HK6 HB8))
            exact bodyPost_ret (results_row_tmp rfl _ _ w.heap.size _ _ _ _ (by exact rfl) HK6.out Tryz.underlying150 rfl (by rw [info27]; congr 1; have := HL9.out; simp [u16s] at this ⊢; omega)) rfl ⟨by rw [HF.out, ← HSP.out]; rfl, HB8⟩
          · obtain rfl : y = [] := List.eq_nil_of_length_eq_zero (by omega)
            go_wp2_with (first | (refine slice_end rfl _ _ (by exact rfl) (w.heap.size + 1) _ (by exact rfl) (by exact rfl) (by first | rfl | simp) ?_) | (refine copy16 (w0 := w) w.heap.size rfl _ _ (by exact rfl) _ A2 _ _ 0 c2 (by exact rfl) (by exact rfl) (w.heap.size + 1) 8 (splice zeros8 0 x) HK3.out [] (by show 0 = min 0 _; omega) (fun h => absurd h (by simp)) (by rw [HSL.out]; omega) HB6 (by omega) ?_; intro w5 HK5 HB7 HO5) | (refine load8 rfl _ (by exact rfl) (w.heap.size + 1) (by exact rfl) _ HL9.out HK5.out ?_) | (refine store8 (w0 := w) w.heap.size rfl _ _ (by exact rfl) w.heap.size (by exact rfl) _ zeros8 HL9.out rfl (by exact rfl) ((HO5.out _ (by omega)).trans HK4.out) HB7 (Nat.le_refl _) ?_; intro w6 HK6 HB8))
            exact bodyPost_ret (results_row_tmp rfl _ _ w.heap.size _ _ _ _ (by exact rfl) HK6.out Tryz.underlying150 rfl (by rw [info27]; congr 1; have := HL9.out; simp [u16s] at this ⊢; omega)) rfl ⟨by rw [HF.out, ← HSP.out]; rfl, HB8⟩
end Go.Proofs.YtbpkkgaaeodimaaGreatDoor
