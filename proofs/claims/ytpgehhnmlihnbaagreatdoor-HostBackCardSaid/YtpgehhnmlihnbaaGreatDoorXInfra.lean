import Derived.Test.YtpgehhnmlihnbaaGreatDoorXRef1
import Derived.Test.YtpgehhnmlihnbaaGreatDoorXShelf
import Derived.Lib.IndexAny
namespace Go.Proofs.YtpgehhnmlihnbaaGreatDoor
open Go.RowKit

set_option maxHeartbeats 400000 in
theorem infra_digit (c : Int) (w : World) (h0 : 0 ≤ c) (h1 : c ≤ 255) : Calls Tryz.prog 79 #[.int .u8 c] w fun e w' => e = .returned (.int .i64 (hexV c)) ∧ w = w' := by
  go_enter Tryz.func79, Tryz.ntmps79
  go_wp2
  all_goals
    go_ret
    exact ⟨ret_int (by unfold hexV; (repeat' split) <;> omega), rfl⟩

theorem mem_any (l : List UInt8) (x : UInt8) : (l.any fun y => (y.toNat : Int) == x.toNat) = l.contains x := by
  rw [Bool.eq_iff_iff, List.any_eq_true, List.contains_iff_mem]
  constructor
  · rintro ⟨y, hy, h⟩
    have : y.toNat = x.toNat := by have := beq_iff_eq.1 h; omega
    rwa [← UInt8.toNat_inj.1 this]
  · exact fun h => ⟨x, h, by simp⟩
theorem idx_ge {l : List UInt8} {x : UInt8} : (0 ≤ Lib.indexByte l x) ↔ l.contains x = true := by rw [Lib.contains_iff_indexByte]; simp
theorem idx_lt {l : List UInt8} {x : UInt8} : (Lib.indexByte l x < 0) ↔ l.contains x = false := by
  rw [Lib.contains_iff_indexByte]; simp
theorem inSet_u8 (k : Int) (x : UInt8) : inSet k x.toNat = (decide (1 ≤ k ∧ k ≤ 6) && (ctl x.toNat || (setL k).contains x)) := by unfold inSet; rw [mem_any]
theorem back_u8 (x : UInt8) : ((x.toNat : Int)).toNat.toUInt8 = x := by simp
theorem in_6 (x : UInt8) : inSet 6 x.toNat = (ctl x.toNat || ([47, 58, 59, 61, 64, 91, 92, 93, 124] : List UInt8).contains x || ([63, 94, 96, 123, 125] : List UInt8).contains x || ([32, 34, 35, 60, 62] : List UInt8).contains x) := by
  rw [inSet_u8, show setL 6 = [32, 34, 35, 60, 62] ++ [63, 94, 96, 123, 125] ++ [47, 58, 59, 61, 64, 91, 92, 93, 124] from rfl, List.contains_append, List.contains_append]
  cases ctl x.toNat <;> simp [Bool.or_comm, Bool.or_left_comm]
theorem in_5 (x : UInt8) : inSet 5 x.toNat = (ctl x.toNat || ([63, 94, 96, 123, 125] : List UInt8).contains x || ([32, 34, 35, 60, 62] : List UInt8).contains x) := by
  rw [inSet_u8, show setL 5 = [32, 34, 35, 60, 62] ++ [63, 94, 96, 123, 125] from rfl, List.contains_append]
  cases ctl x.toNat <;> simp [Bool.or_comm]
theorem in_4 (x : UInt8) : inSet 4 x.toNat = (ctl x.toNat || decide ((x.toNat : Int) = 39) || ([32, 34, 35, 60, 62] : List UInt8).contains x) := by
  rw [inSet_u8, show setL 4 = [32, 34, 35, 60, 62] ++ [39] from rfl, List.contains_append]
  have : ([39] : List UInt8).contains x = decide ((x.toNat : Int) = 39) := by
    rw [Bool.eq_iff_iff, List.contains_iff_mem, decide_eq_true_eq]
    have := u8_eq x 39 (by omega)
    simp at this ⊢
    exact this.symm
  rw [this]
  cases ctl x.toNat <;> simp [Bool.or_comm]
theorem in_3 (x : UInt8) : inSet 3 x.toNat = (ctl x.toNat || ([32, 34, 35, 60, 62] : List UInt8).contains x) := by rw [inSet_u8]; rfl
theorem in_2 (x : UInt8) : inSet 2 x.toNat = (ctl x.toNat || ([32, 34, 60, 62, 96] : List UInt8).contains x) := by rw [inSet_u8]; rfl
theorem in_1 (x : UInt8) : inSet 1 x.toNat = ctl x.toNat := by rw [inSet_u8]; simp [setL]
set_option maxHeartbeats 2000000 in
set_option maxRecDepth 100000 in
theorem infra_in (x : UInt8) (k : Int) (w : World) : Calls Tryz.prog 75 #[.int .i64 k, .int .u8 x.toNat] w fun e w' => e = .returned (.bool (inSet k x.toNat)) ∧ w = w' := by
  have hb := back_u8 x
  by_cases hk : 1 ≤ k ∧ k ≤ 6
  · have hk' : k = 1 ∨ k = 2 ∨ k = 3 ∨ k = 4 ∨ k = 5 ∨ k = 6 := by omega
    clear hk
    rcases hk' with rfl | rfl | rfl | rfl | rfl | rfl
    all_goals
      go_enter Tryz.func75, Tryz.ntmps75
      go_wp2_with (go_at_call 76; go_must (refine (Tryz.strings_IndexByte _ _ _).mono ?_); rintro e w' ⟨rfl, hw⟩; rw [hw, hb])
      all_goals
        go_ret
        refine ⟨ret_bool ?_, rfl⟩
        simp only [idx_ge, idx_lt, in_1, in_2, in_3, in_4, in_5, in_6] at *
        simp_all [ctl]
        try omega
  · have hv : Hid (inSet k x.toNat = false) := by simp [Hid, inSet, hk]
    have h1 : (k == 1) = false := by rw [beq_eq_false_iff_ne]; omega
    have h2 : (k == 2) = false := by rw [beq_eq_false_iff_ne]; omega
    have h3 : (k == 3) = false := by rw [beq_eq_false_iff_ne]; omega
    have h4 : (k == 4) = false := by rw [beq_eq_false_iff_ne]; omega
    have h5 : (k == 5) = false := by rw [beq_eq_false_iff_ne]; omega
    have h6 : (k == 6) = false := by rw [beq_eq_false_iff_ne]; omega
    clear hk
    go_enter Tryz.func75, Tryz.ntmps75
    go_wp2
    go_ret
    exact ⟨ret_bool hv.out.symm, rfl⟩


theorem append3_r {w0 W : World} {E : Prop} {K : Act → World → Prop} {ops : Array Oper} {Q : Exit → Act → World → Prop} {a : Act} {o : Oper} (base : Nat) (hgd : o.guard = none) (s x : Operand)
    (ho : o.op = .call { callee := .builtin .append, args := #[s, x], argTypes := #[53, 53] })
    (v : Value) (xs : List UInt8) (y1 y2 y3 : UInt8) (n1 n2 n3 : Int) (e1 : n1 = y1.toNat) (e2 : n2 = y2.toNat) (e3 : n3 = y3.toNat) (hs : a.eval s = v) (hx : a.eval x = .slice (some ⟨W.heap.size, 0, none⟩) 3 3)
    (HO : Hid (Own W base 5 v (xs.map u8v))) (HB : Hid (Below base w0 W)) (hbase : base ≤ W.heap.size) (hl : xs.length ≤ 70368744177664)
    (h : ∀ v1 w1, Hid (Own w1 base 5 v1 ((xs ++ [y1, y2, y3]).map u8v)) → Hid (Below base w0 w1) → W.heap.size ≤ w1.heap.size → K (a.put o.dst v1) w1) :
    if Region.wanted o (yielded ops a.tmps) = true then o.wp Tryz.prog a (W.alloc (.cells #[.int .u8 n1, .int .u8 n2, .int .u8 n3] 5)).drew K Q else E := by
  subst e1 e2 e3
  rw [if_pos (by simp [Region.wanted, hgd])]
  refine append_many base s x _ _ _ 1 ho Tryz.underlying53 info5 rfl v (xs.map u8v) [u8v y1, u8v y2, u8v y3] ⟨W.heap.size, 0, none⟩ 3 hs hx (fun j u hj => ?_) (by simp [u8v, Value.oneCell'])
    (HO.out.bel (((Below.refl _ W).alloc (Nat.le_refl _) _).drew)) ((HB.out.alloc hbase _).drew) (by simp; omega) (by simp; omega) (by simp; omega)
    fun v1 w1 h2 h3 h4 _ _ => h v1 w1 (by rw [List.map_append]; exact h2) h3 (Nat.le_trans (by simp) h4)
  have e : (⟨W.heap.size, 0, none⟩ : Addr).add j = ⟨W.heap.size, j, none⟩ := by unfold Addr.add; split <;> simp_all
  rw [e]
  show (W.alloc _).cell? _ = _
  rw [World.cell?_alloc_at _ _ _ _ rfl]
  match j, hj with
  | 0, hj => simpa [u8v] using hj
  | 1, hj => simpa [u8v] using hj
  | 2, hj => simpa [u8v] using hj
  | j + 3, hj => simp at hj
theorem hexU_arr : ∀ d : Fin 16, ((⟨#[48, 49, 50, 51, 52, 53, 54, 55, 56, 57, 65, 66, 67, 68, 69, 70]⟩ : ByteArray)[d.val]'d.isLt) = hexU d.val := by decide +kernel
theorem hexU_at (d : Nat) (hd : d < 16) (i : Nat) (hi : i = d) (h : i < (⟨#[48, 49, 50, 51, 52, 53, 54, 55, 56, 57, 65, 66, 67, 68, 69, 70]⟩ : ByteArray).size) :
    (((⟨#[48, 49, 50, 51, 52, 53, 54, 55, 56, 57, 65, 66, 67, 68, 69, 70]⟩ : ByteArray)[i]'h).toNat : Int) = (hexU d).toNat := by
  subst hi
  rw [hexU_arr ⟨i, hd⟩]
set_option maxHeartbeats 2000000 in
set_option maxRecDepth 100000 in
theorem infra_Percent (s : ByteArray) (k : Int) (w : World) (hs : s.size ≤ 1099511627776) :
    Calls Tryz.prog 43 #[.string s, .int .i64 k] w fun e w' => (∃ t, e = .returned (.string t) ∧ Hid (bl t = percent k (bl s)) ∧ t.size ≤ 3 * s.size) ∧ Hid (Bel w w') := by
  go_enter Tryz.func43, Tryz.ntmps43
  go_wp2
  go_loopg [5, 10] s.size (fun g v i wr => ∃ (j : Nat) (xs : List UInt8), j + g = s.size ∧ i = .int .i64 j ∧ Hid (xs.length ≤ 3 * j) ∧ Hid (xs ++ percent k ((bl s).drop j) = percent k (bl s)) ∧ Hid (Own wr w.heap.size 5 v (xs.map u8v)) ∧ Hid (Below w.heap.size w wr))
  case atStart => exact ⟨0, [], by omega, rfl, Nat.zero_le _, rfl, Own.nil _ _ _, Below.refl _ _⟩
  case round =>
    obtain ⟨j, xs, hj, rfl, HL, HI, HO, HB⟩ := hrel
    have hap : xs.length ≤ 3 * s.size := by have := HL.out; omega
    have hsz := HB.out.size
    cases gk with
    | zero =>
      have HX : Hid (xs = percent k (bl s)) := by have := HI.out; rw [bl_drop_end s j (by omega)] at this; unfold Hid; simpa [percent] using this
      have hcv := own_str (src := 53) (dst := 9) Tryz.underlying53 Tryz.underlying5 Tryz.underlying9 HO.out
      clear HI
      go_wp2
      go_ret
      exact ⟨⟨_, rfl, by unfold Hid; rw [bl_mk]; exact HX, by rw [← bl_length, bl_mk]; exact hap⟩, HB⟩
    | succ g =>
      have hlt : j < s.size := by omega
      have HF := Lib.hid (HI.out.symm.trans (congrArg (xs ++ ·) (percent_drop s j hlt k)))
      clear HI
      by_cases hi : inSet k s[j].toNat = true
      · rw [if_pos hi] at HF
        have hA := u8_and15 (x := (s[j].toNat : Int)) (by omega) (by have := s[j].toNat_lt; omega)
        have h1 : (s[j].toNat : Int) < 256 := by have := s[j].toNat_lt; omega
        have h2 : (s[j].toNat : Int) / 16 < 16 := by omega
        have h3 : 0 ≤ (s[j].toNat : Int) / 16 := by omega
        have h4 : 0 ≤ (s[j].toNat : Int) % 16 := by omega
        have h5 : (s[j].toNat : Int) % 16 < 16 := by omega
        go_wp2_with (first | (go_at_call 75; refine (infra_in _ _ _).mono ?_; rintro e w' ⟨rfl, rfl⟩))
        go_region_held3 (fun w' => True) (trivial)
          (first | ((refine append3_r (w0 := w) w.heap.size rfl _ _ (by exact rfl) _ xs 37 (hexU (s[j].toNat / 16)) (hexU (s[j].toNat % 16)) _ _ _ rfl (hexU_at _ (by omega) _ (by omega) _) (hexU_at _ (by omega) _ (by omega) _) (by exact rfl) (by exact rfl) HO HB hsz (by omega) ?_; intro v1 w1 HO1 HB1 hs1)))
        all_goals
          go_wp2
          go_roundg g
          case measure => omega
          case rel => exact ⟨j + 1, xs ++ esc s[j], by omega, by go_num, by unfold Hid; have := HL.out; simp [esc]; omega, by unfold Hid; rw [HF.out, List.append_assoc], HO1, HB1⟩
      · rw [if_neg hi] at HF
        have hi' : inSet k s[j].toNat = false := by simpa using hi
        clear hi
        go_wp2_with (first | (go_at_call 75; refine (infra_in _ _ _).mono ?_; rintro e w' ⟨rfl, rfl⟩) | (at_builtin; go_must (refine app_u8 (w0 := w) w.heap.size rfl _ _ (by exact rfl) _ xs s[j] _ rfl (by exact rfl) (by exact rfl) HO HB hsz (by omega) ?_); intro v1 w1 HO1 HB1 hs1))
        go_roundg g
        case measure => omega
        case rel => exact ⟨j + 1, xs ++ [s[j]], by omega, by go_num, by unfold Hid; have := HL.out; simp; omega, by unfold Hid; rw [HF.out, List.append_assoc], HO1, HB1⟩


set_option maxHeartbeats 400000 in
set_option maxRecDepth 100000 in
theorem infra_Lower1 (x : UInt8) (w : World) : Calls Tryz.prog 78 #[.int .u8 x.toNat] w fun e w' => e = .returned (.int .u8 (low x).toNat) ∧ w = w' := by
  have h1 : (x.toNat : Int) < 256 := by have := x.toNat_lt; omega
  go_enter Tryz.func78, Tryz.ntmps78
  go_wp2
  all_goals
    go_ret
    exact ⟨ret_int (by rw [low_toNat]; split <;> omega), rfl⟩
set_option maxHeartbeats 2000000 in
set_option maxRecDepth 100000 in
theorem infra_mapped (s : ByteArray) (w : World) (hs : s.size ≤ 1099511627776) :
    Calls Tryz.prog 77 #[.string s, .func (.func 78) #[] #[]] w fun e w' => (∃ t, e = .returned (.string t) ∧ Hid (bl t = lower (bl s))) ∧ Hid (Bel w w') := by
  have kb := fun W => Lib.run_convert_string_bytes W 9 53 5 s Tryz.underlying9 Tryz.underlying53 Tryz.underlying5
  go_enter Tryz.func77, Tryz.ntmps77
  go_wp2
  have hb := bel_bytes w 5 s
  have hr := RowAt.bytes w 5 s
  go_loopg [12] s.size (fun g i wr => ∃ (k : Nat), k + g = s.size ∧ i = .int .i64 k ∧ Hid (RowAt wr w.heap.size ((lower ((bl s).take k) ++ (bl s).drop k).map u8v)) ∧ Hid (Bel w wr))
  case atStart => exact ⟨0, by omega, rfl, hr, hb⟩
  case round =>
    obtain ⟨k, hk, rfl, HR, HB⟩ := hrel
    clear hr hb
    cases gk with
    | zero =>
      obtain rfl : k = s.size := by omega
      have hcv : ∀ c, (convert 53 9 (.slice (some ⟨w.heap.size, 0, none⟩) s.size c)).run Tryz.prog wr = .ok (.string ⟨(lower (bl s)).toArray⟩) wr := fun c => by
        have := HR.out
        rw [List.take_of_length_le (by rw [bl_length]; exact Nat.le_refl _), List.drop_eq_nil_of_le (by rw [bl_length]; exact Nat.le_refl _), List.append_nil] at this
        exact row_string Tryz.underlying53 Tryz.underlying5 Tryz.underlying9 this _ (by simp [lower, bl_length])
      go_wp2
      go_ret
      exact ⟨⟨_, rfl, by unfold Hid; rw [bl_mk]⟩, HB⟩
    | succ g =>
      have hlt : k < s.size := by omega
      have hg : ((lower ((bl s).take k) ++ (bl s).drop k).map u8v)[k]? = some (.int .u8 s[k].toNat) := by
        rw [List.getElem?_map, List.getElem?_append_right (by simp [lower]; omega), lower, List.length_map, List.length_take, bl_length, Nat.min_eq_left (by omega), Nat.sub_self, bl_drop s k hlt]; rfl
      have hc := (HR.out.2 k _ hg).1
      have hf := (HR.out.2 k _ hg).2
      have hS : ((lower ((bl s).take k) ++ (bl s).drop k).map u8v).set k (u8v (low s[k])) = (lower ((bl s).take (k + 1)) ++ (bl s).drop (k + 1)).map u8v := by
        rw [← List.map_set, List.set_append_right _ _ (by simp [lower]; omega)]
        simp only [lower, List.length_map, List.length_take, bl_length, Nat.min_eq_left (show k ≤ s.size by omega), Nat.sub_self]
        rw [bl_drop s k hlt, List.set_cons_zero, bl_take s k hlt]
        simp
      have HS := Lib.hid hS
      clear hg hS
      go_wp2_with (go_at_call 78; go_must (refine (infra_Lower1 s[k] _).mono ?_); rintro e w' ⟨rfl, rfl⟩)
      go_roundg g
      case measure => omega
      case rel => exact ⟨k + 1, by omega, by go_num, by unfold Hid; rw [← HS.out]; exact HR.out.set k (u8v (low s[k])), HB.out.setCell (Nat.le_refl _) _⟩
set_option maxHeartbeats 400000 in
theorem infra_Lower (s : ByteArray) (w : World) (hs : s.size ≤ 1099511627776) :
    Calls Tryz.prog 45 #[.string s] w fun e w' => (∃ t, e = .returned (.string t) ∧ Hid (bl t = lower (bl s))) ∧ Hid (Bel w w') := by
  go_enter Tryz.func45, Tryz.ntmps45
  go_wp2_with (go_at_call 77; go_must (refine (infra_mapped s _ hs).mono ?_); rintro e w' ⟨⟨t, rfl, ht⟩, hb⟩)
  go_ret
  exact ⟨⟨_, rfl, ht⟩, hb⟩
theorem or16 : ∀ a b : Fin 16, IntKind.u8.wrap (Go.bits .or .i64 (IntKind.i64.wrap ((a.val : Int) * 16)) (b.val : Int)) = 16 * (a.val : Int) + (b.val : Int) := by decide +kernel
theorem or16' (a b : Int) (h : 0 ≤ a ∧ a ≤ 15 ∧ 0 ≤ b ∧ b ≤ 15) : IntKind.u8.wrap (Go.bits .or .i64 (IntKind.i64.wrap (a * 16)) b) = 16 * a + b := by
  have := or16 ⟨a.toNat, by omega⟩ ⟨b.toNat, by omega⟩
  simp only [Int.toNat_of_nonneg h.1, Int.toNat_of_nonneg h.2.2.1] at this
  exact this
set_option maxHeartbeats 2000000 in
set_option maxRecDepth 100000 in
theorem infra_Unpercent (s : ByteArray) (w : World) (hs : s.size ≤ 1099511627776) :
    Calls Tryz.prog 46 #[.string s] w fun e w' => (∃ t, e = .returned (.string t) ∧ Hid (bl t = unpercent (bl s)) ∧ t.size ≤ s.size) ∧ Hid (Bel w w') := by
  go_enter Tryz.func46, Tryz.ntmps46
  go_wp2
  go_loopw [3, 4] (fun v i wr => ∃ (k : Nat) (xs : List UInt8), i = .int .i64 k ∧ k ≤ s.size ∧ Hid (xs.length ≤ k) ∧ Hid (xs ++ unpercent ((bl s).drop k) = unpercent (bl s)) ∧ Hid (Own wr w.heap.size 5 v (xs.map u8v)) ∧ Hid (Below w.heap.size w wr)) (fun _ i _ => s.size - (intOf i).toNat)
  case atStart => exact ⟨0, [], rfl, Nat.zero_le _, Nat.le_refl _, rfl, Own.nil _ _ _, Below.refl _ _⟩
  case round =>
    obtain ⟨k, xs, rfl, hk, HL, HC, HO, HB⟩ := hrel
    have hap : xs.length ≤ s.size := by have := HL.out; omega
    have hsz := HB.out.size
    by_cases hlt : k < s.size
    · by_cases hp : s[k] = 37
      · have hp1 : ((s[k].toNat : Int) == 37) = true := by rw [hp]; rfl
        by_cases h2 : k + 2 < s.size
        · have hd := HC.out
          rw [bl_drop s k hlt, bl_drop s (k + 1) (by omega), bl_drop s (k + 2) h2, hp] at hd
          have a0 := hexV_range s[k + 1].toNat
          have b0 := hexV_range s[k + 2].toNat
          have c1 : (s[k + 1].toNat : Int) ≤ 255 := by have := s[k + 1].toNat_lt; omega
          have c2 : (s[k + 2].toNat : Int) ≤ 255 := by have := s[k + 2].toNat_lt; omega
          have hp0 : Hid (s[k] = 37 ∧ s[k + 1] :: s[k + 2] :: (bl s).drop (k + 2 + 1) = (bl s).drop (k + 1)) := ⟨hp, by rw [bl_drop s (k + 1) (by omega), bl_drop s (k + 2) h2]⟩
          clear hp HC
          by_cases ha : 0 ≤ hexV s[k + 1].toNat
          · by_cases hb : 0 ≤ hexV s[k + 2].toNat
            · rw [unp_yes ⟨ha, hb⟩] at hd
              have HD := Lib.hid hd
              clear hd
              go_wp2_with (go_at_call 79; go_must (refine (infra_digit _ _ (by omega) (by omega)).mono ?_); rintro e w' ⟨rfl, rfl⟩)
              have w1 : IntKind.i64.wrap ((k : Int) + 1) = (k : Int) + 1 := IntWalk.i64_in _ (by omega)
              have w2 : IntKind.i64.wrap ((k : Int) + 2) = (k : Int) + 2 := IntWalk.i64_in _ (by omega)
              have p1 : 0 ≤ (k : Int) + 1 := by omega
              have p2 : (k : Int) + 1 < s.size := by omega
              have p3 : ((k : Int) + 1).toNat = k + 1 := by omega
              have p4 : 0 ≤ (k : Int) + 2 := by omega
              have p5 : (k : Int) + 2 < s.size := by omega
              have p6 : ((k : Int) + 2).toNat = k + 2 := by omega
              have hy : Hid (IntKind.u8.wrap (Go.bits .or .i64 (IntKind.i64.wrap (hexV s[k + 1].toNat * 16)) (hexV s[k + 2].toNat)) = ((UInt8.ofNat (16 * (hexV s[k + 1].toNat).toNat + (hexV s[k + 2].toNat).toNat)).toNat : Int)) := by unfold Hid; rw [or16' _ _ (by omega), UInt8.toNat_ofNat']; omega
              generalize UInt8.ofNat (16 * (hexV s[k + 1].toNat).toNat + (hexV s[k + 2].toNat).toNat) = y at hy HD
              go_region_held3 (fun w' => True) (trivial)
                (first | ((go_at_call 79; go_must (refine (infra_digit _ _ (by omega) (by omega)).mono ?_); rintro e w' ⟨rfl, rfl⟩)) | ((refine app_u8_r (w0 := w) w.heap.size rfl _ _ (by exact rfl) _ xs y _ hy.out (by exact rfl) (by exact rfl) HO HB hsz (by omega) ?_; intro v1 w1 HO1 HB1 hs1)))
              all_goals
                go_wp2
                exact ⟨⟨k + 3, xs ++ [y], by go_num, by omega, by unfold Hid; have := HL.out; simp; omega, by unfold Hid; rw [← HD.out]; simp, HO1, HB1⟩, by simp [intOf]; omega⟩
            · rw [unp_no (by omega)] at hd
              have HD := Lib.hid hd
              clear hd
              go_wp2_with (first | (go_at_call 79; go_must (refine (infra_digit _ _ (by omega) (by omega)).mono ?_); rintro e w' ⟨rfl, rfl⟩) | (at_builtin; go_must (refine app_u8 (w0 := w) w.heap.size rfl _ _ (by exact rfl) _ xs s[k] _ rfl (by exact rfl) (by exact rfl) HO HB hsz (by omega) ?_); intro v1 w1 HO1 HB1 hs1))
              exact ⟨⟨k + 1, xs ++ [s[k]], by go_num, by omega, by unfold Hid; have := HL.out; simp; omega, by unfold Hid; rw [← HD.out, hp0.out.1, hp0.out.2]; simp, HO1, HB1⟩, by simp [intOf]; omega⟩
          · rw [unp_no (by omega)] at hd
            have HD := Lib.hid hd
            clear hd
            go_wp2_with (first | (go_at_call 79; go_must (refine (infra_digit _ _ (by omega) (by omega)).mono ?_); rintro e w' ⟨rfl, rfl⟩) | (at_builtin; go_must (refine app_u8 (w0 := w) w.heap.size rfl _ _ (by exact rfl) _ xs s[k] _ rfl (by exact rfl) (by exact rfl) HO HB hsz (by omega) ?_); intro v1 w1 HO1 HB1 hs1))
            exact ⟨⟨k + 1, xs ++ [s[k]], by go_num, by omega, by unfold Hid; have := HL.out; simp; omega, by unfold Hid; rw [← HD.out, hp0.out.1, hp0.out.2]; simp, HO1, HB1⟩, by simp [intOf]; omega⟩
        · have HD : Hid (xs ++ s[k] :: unpercent ((bl s).drop (k + 1)) = unpercent (bl s)) := by
            have := HC.out; rw [bl_drop s k hlt, unp_short (by rw [List.length_drop, bl_length]; omega)] at this; exact this
          clear HC hp
          have h2' : ¬ ((k : Int) + 2 < s.size) := by omega
          go_wp2_with (first | (at_builtin; go_must (refine app_u8 (w0 := w) w.heap.size rfl _ _ (by exact rfl) _ xs s[k] _ rfl (by exact rfl) (by exact rfl) HO HB hsz (by omega) ?_); intro v1 w1 HO1 HB1 hs1))
          exact ⟨⟨k + 1, xs ++ [s[k]], by go_num, by omega, by unfold Hid; have := HL.out; simp; omega, by unfold Hid; rw [← HD.out]; simp, HO1, HB1⟩, by simp [intOf]; omega⟩
      · have hp1 : ((s[k].toNat : Int) == 37) = false := by
          rw [beq_eq_false_iff_ne]; intro h; exact hp ((u8_eq s[k] 37 (by omega)).1 h)
        have HD : Hid (xs ++ s[k] :: unpercent ((bl s).drop (k + 1)) = unpercent (bl s)) := by
          have := HC.out; rw [bl_drop s k hlt, unp_other hp] at this; exact this
        clear HC hp
        go_wp2_with (first | (at_builtin; go_must (refine app_u8 (w0 := w) w.heap.size rfl _ _ (by exact rfl) _ xs s[k] _ rfl (by exact rfl) (by exact rfl) HO HB hsz (by omega) ?_); intro v1 w1 HO1 HB1 hs1))
        exact ⟨⟨k + 1, xs ++ [s[k]], by go_num, by omega, by unfold Hid; have := HL.out; simp; omega, by unfold Hid; rw [← HD.out]; simp, HO1, HB1⟩, by simp [intOf]; omega⟩
    · obtain rfl : k = s.size := by omega
      have HX : Hid (xs = unpercent (bl s)) := by have := HC.out; rw [bl_drop_end s s.size (Nat.le_refl _)] at this; unfold Hid; simpa [unpercent] using this
      have hcv := own_str (src := 53) (dst := 9) Tryz.underlying53 Tryz.underlying5 Tryz.underlying9 HO.out
      clear HC
      go_wp2
      go_ret
      exact ⟨⟨_, rfl, by unfold Hid; rw [bl_mk]; exact HX, by rw [← bl_length, bl_mk]; exact hap⟩, HB⟩

end Go.Proofs.YtpgehhnmlihnbaaGreatDoor
