import Derived.Test.YtbpkkgaaeodimaaGreatDoorXG02
import Derived.Test.YtbpkkgaaeodimaaGreatDoorXAXShelf
import Derived.Lib.IndexAny
import Derived.Lib.OthersKept
import Derived.Laws.RangeAny
import Derived.Lib.SpaceU
import Derived.Lib.TrimU
import Derived.Lib.TrimUEq
import Derived.Lib.TrimAscii
import Derived.Lib.SplitLaws
import Derived.Lib.Split
namespace Go.Proofs.YtbpkkgaaeodimaaGreatDoor
open Go.RowKit

set_option maxHeartbeats 400000 in
theorem infra_digit (c : Int) (w : World) (h0 : 0 ≤ c) (h1 : c ≤ 255) : Calls Tryz.prog 217 #[.int .u8 c] w fun e w' => e = .returned (.int .i64 (hexV c)) ∧ w = w' := by
  go_enter Tryz.func217, Tryz.ntmps217
  go_wp2
  all_goals
    go_ret
    exact ⟨ret_int (by unfold hexV; (repeat' split) <;> omega), rfl⟩

theorem mem_any (l : List UInt8) (x : UInt8) : (l.any fun y => (y.toNat : Int) == x.toNat) = l.contains x := by
  rw [Bool.eq_iff_iff, List.any_eq_true, List.contains_iff_mem]
  constructor
  · rintro ⟨y, hy, h⟩
    have : y.toNat = x.toNat := by have := beq_iff_eq.1 h; omega
    rwa [← UInt8.toNat_inj.1 this]
  · exact fun h => ⟨x, h, by simp⟩
theorem idx_ge {l : List UInt8} {x : UInt8} : (0 ≤ Lib.indexByte l x) ↔ l.contains x = true := by rw [Lib.contains_iff_indexByte]; simp
theorem idx_lt {l : List UInt8} {x : UInt8} : (Lib.indexByte l x < 0) ↔ l.contains x = false := by
  rw [Lib.contains_iff_indexByte]; simp
theorem inSet_u8 (k : Int) (x : UInt8) : inSet k x.toNat = (decide (1 ≤ k ∧ k ≤ 6) && (ctl x.toNat || (setL k).contains x)) := by unfold inSet; rw [mem_any]
theorem back_u8 (x : UInt8) : ((x.toNat : Int)).toNat.toUInt8 = x := by simp
theorem in_6 (x : UInt8) : inSet 6 x.toNat = (ctl x.toNat || ([47, 58, 59, 61, 64, 91, 92, 93, 124] : List UInt8).contains x || ([63, 94, 96, 123, 125] : List UInt8).contains x || ([32, 34, 35, 60, 62] : List UInt8).contains x) := by
  rw [inSet_u8, show setL 6 = [32, 34, 35, 60, 62] ++ [63, 94, 96, 123, 125] ++ [47, 58, 59, 61, 64, 91, 92, 93, 124] from rfl, List.contains_append, List.contains_append]
  cases ctl x.toNat <;> simp [Bool.or_comm, Bool.or_left_comm]
theorem in_5 (x : UInt8) : inSet 5 x.toNat = (ctl x.toNat || ([63, 94, 96, 123, 125] : List UInt8).contains x || ([32, 34, 35, 60, 62] : List UInt8).contains x) := by
  rw [inSet_u8, show setL 5 = [32, 34, 35, 60, 62] ++ [63, 94, 96, 123, 125] from rfl, List.contains_append]
  cases ctl x.toNat <;> simp [Bool.or_comm]
theorem in_4 (x : UInt8) : inSet 4 x.toNat = (ctl x.toNat || decide ((x.toNat : Int) = 39) || ([32, 34, 35, 60, 62] : List UInt8).contains x) := by
  rw [inSet_u8, show setL 4 = [32, 34, 35, 60, 62] ++ [39] from rfl, List.contains_append]
  have : ([39] : List UInt8).contains x = decide ((x.toNat : Int) = 39) := by
    rw [Bool.eq_iff_iff, List.contains_iff_mem, decide_eq_true_eq]
    have := u8_eq x 39 (by omega)
    simp at this ⊢
    exact this.symm
  rw [this]
  cases ctl x.toNat <;> simp [Bool.or_comm]
theorem in_3 (x : UInt8) : inSet 3 x.toNat = (ctl x.toNat || ([32, 34, 35, 60, 62] : List UInt8).contains x) := by rw [inSet_u8]; rfl
theorem in_2 (x : UInt8) : inSet 2 x.toNat = (ctl x.toNat || ([32, 34, 60, 62, 96] : List UInt8).contains x) := by rw [inSet_u8]; rfl
theorem in_1 (x : UInt8) : inSet 1 x.toNat = ctl x.toNat := by rw [inSet_u8]; simp [setL]
set_option maxHeartbeats 2000000 in
set_option maxRecDepth 100000 in
theorem infra_in (x : UInt8) (k : Int) (w : World) : Calls Tryz.prog 115 #[.int .i64 k, .int .u8 x.toNat] w fun e w' => e = .returned (.bool (inSet k x.toNat)) ∧ w = w' := by
  have hb := back_u8 x
  by_cases hk : 1 ≤ k ∧ k ≤ 6
  · have hk' : k = 1 ∨ k = 2 ∨ k = 3 ∨ k = 4 ∨ k = 5 ∨ k = 6 := by omega
    clear hk
    rcases hk' with rfl | rfl | rfl | rfl | rfl | rfl
    all_goals
      go_enter Tryz.func115, Tryz.ntmps115
      go_wp2_with (go_at_call 82; go_must (refine (Tryz.strings_IndexByte _ _ _).mono ?_); rintro e w' ⟨rfl, hw⟩; rw [hw, hb])
      all_goals
        go_ret
        refine ⟨ret_bool ?_, rfl⟩
        simp only [idx_ge, idx_lt, in_1, in_2, in_3, in_4, in_5, in_6] at *
        simp_all [ctl]
        try omega
  · have hv : Hid (inSet k x.toNat = false) := by simp [Hid, inSet, hk]
    have h1 : (k == 1) = false := by rw [beq_eq_false_iff_ne]; omega
    have h2 : (k == 2) = false := by rw [beq_eq_false_iff_ne]; omega
    have h3 : (k == 3) = false := by rw [beq_eq_false_iff_ne]; omega
    have h4 : (k == 4) = false := by rw [beq_eq_false_iff_ne]; omega
    have h5 : (k == 5) = false := by rw [beq_eq_false_iff_ne]; omega
    have h6 : (k == 6) = false := by rw [beq_eq_false_iff_ne]; omega
    clear hk
    go_enter Tryz.func115, Tryz.ntmps115
    go_wp2
    go_ret
    exact ⟨ret_bool hv.out.symm, rfl⟩


theorem append3_r {w0 W : World} {E : Prop} {K : Act → World → Prop} {ops : Array Oper} {Q : Exit → Act → World → Prop} {a : Act} {o : Oper} (base : Nat) (hgd : o.guard = none) (s x : Operand)
    (ho : o.op = .call { callee := .builtin .append, args := #[s, x], argTypes := #[43, 43] })
    (v : Value) (xs : List UInt8) (y1 y2 y3 : UInt8) (n1 n2 n3 : Int) (e1 : n1 = y1.toNat) (e2 : n2 = y2.toNat) (e3 : n3 = y3.toNat) (hs : a.eval s = v) (hx : a.eval x = .slice (some ⟨W.heap.size, 0, none⟩) 3 3)
    (HO : Hid (Own W base 5 v (xs.map u8v))) (HB : Hid (Below base w0 W)) (hbase : base ≤ W.heap.size) (hl : xs.length ≤ 70368744177664)
    (h : ∀ v1 w1, Hid (Own w1 base 5 v1 ((xs ++ [y1, y2, y3]).map u8v)) → Hid (Below base w0 w1) → W.heap.size ≤ w1.heap.size → K (a.put o.dst v1) w1) :
    if Region.wanted o (yielded ops a.tmps) = true then o.wp Tryz.prog a (W.alloc (.cells #[.int .u8 n1, .int .u8 n2, .int .u8 n3] 5)).drew K Q else E := by
  subst e1 e2 e3
  rw [if_pos (by simp [Region.wanted, hgd])]
  refine append_many base s x _ _ _ 1 ho Tryz.underlying43 info5 rfl v (xs.map u8v) [u8v y1, u8v y2, u8v y3] ⟨W.heap.size, 0, none⟩ 3 hs hx (fun j u hj => ?_) (by simp [u8v, Value.oneCell'])
    (HO.out.bel (((Below.refl _ W).alloc (Nat.le_refl _) _).drew)) ((HB.out.alloc hbase _).drew) (by simp; omega) (by simp; omega) (by simp; omega)
    fun v1 w1 h2 h3 h4 _ _ => h v1 w1 (by rw [List.map_append]; exact h2) h3 (Nat.le_trans (by simp) h4)
  have e : (⟨W.heap.size, 0, none⟩ : Addr).add j = ⟨W.heap.size, j, none⟩ := by unfold Addr.add; split <;> simp_all
  rw [e]
  show (W.alloc _).cell? _ = _
  rw [World.cell?_alloc_at _ _ _ _ rfl]
  match j, hj with
  | 0, hj => simpa [u8v] using hj
  | 1, hj => simpa [u8v] using hj
  | 2, hj => simpa [u8v] using hj
  | j + 3, hj => simp at hj
theorem hexU_arr : ∀ d : Fin 16, ((⟨#[48, 49, 50, 51, 52, 53, 54, 55, 56, 57, 65, 66, 67, 68, 69, 70]⟩ : ByteArray)[d.val]'d.isLt) = hexU d.val := by decide +kernel
theorem hexU_at (d : Nat) (hd : d < 16) (i : Nat) (hi : i = d) (h : i < (⟨#[48, 49, 50, 51, 52, 53, 54, 55, 56, 57, 65, 66, 67, 68, 69, 70]⟩ : ByteArray).size) :
    (((⟨#[48, 49, 50, 51, 52, 53, 54, 55, 56, 57, 65, 66, 67, 68, 69, 70]⟩ : ByteArray)[i]'h).toNat : Int) = (hexU d).toNat := by
  subst hi
  rw [hexU_arr ⟨i, hd⟩]
set_option maxHeartbeats 2000000 in
set_option maxRecDepth 100000 in
theorem infra_Percent (s : ByteArray) (k : Int) (w : World) (hs : s.size ≤ 1099511627776) :
    Calls Tryz.prog 84 #[.string s, .int .i64 k] w fun e w' => (∃ t, e = .returned (.string t) ∧ Hid (bl t = percent k (bl s)) ∧ t.size ≤ 3 * s.size) ∧ Hid (Bel w w') := by
  go_enter Tryz.func84, Tryz.ntmps84
  go_wp2
  go_loopg [5, 10] s.size (fun g v i wr => ∃ (j : Nat) (xs : List UInt8), j + g = s.size ∧ i = .int .i64 j ∧ Hid (xs.length ≤ 3 * j) ∧ Hid (xs ++ percent k ((bl s).drop j) = percent k (bl s)) ∧ Hid (Own wr w.heap.size 5 v (xs.map u8v)) ∧ Hid (Below w.heap.size w wr))
  case atStart => exact ⟨0, [], by omega, rfl, Nat.zero_le _, rfl, Own.nil _ _ _, Below.refl _ _⟩
  case round =>
    obtain ⟨j, xs, hj, rfl, HL, HI, HO, HB⟩ := hrel
    have hap : xs.length ≤ 3 * s.size := by have := HL.out; omega
    have hsz := HB.out.size
    cases gk with
    | zero =>
      have HX : Hid (xs = percent k (bl s)) := by have := HI.out; rw [bl_drop_end s j (by omega)] at this; unfold Hid; simpa [percent] using this
      have hcv := own_str (src := 43) (dst := 9) Tryz.underlying43 Tryz.underlying5 Tryz.underlying9 HO.out
      clear HI
      go_wp2
      go_ret
      exact ⟨⟨_, rfl, by unfold Hid; rw [bl_mk]; exact HX, by rw [← bl_length, bl_mk]; exact hap⟩, HB⟩
    | succ g =>
      have hlt : j < s.size := by omega
      have HF := Lib.hid (HI.out.symm.trans (congrArg (xs ++ ·) (percent_drop s j hlt k)))
      clear HI
      by_cases hi : inSet k s[j].toNat = true
      · rw [if_pos hi] at HF
        have hA := u8_and15 (x := (s[j].toNat : Int)) (by omega) (by have := s[j].toNat_lt; omega)
        have h1 : (s[j].toNat : Int) < 256 := by have := s[j].toNat_lt; omega
        have h2 : (s[j].toNat : Int) / 16 < 16 := by omega
        have h3 : 0 ≤ (s[j].toNat : Int) / 16 := by omega
        have h4 : 0 ≤ (s[j].toNat : Int) % 16 := by omega
        have h5 : (s[j].toNat : Int) % 16 < 16 := by omega
        go_wp2_with (first | (go_at_call 115; refine (infra_in _ _ _).mono ?_; rintro e w' ⟨rfl, rfl⟩))
        go_region_held3 (fun w' => True) (trivial)
          (first | ((refine append3_r (w0 := w) w.heap.size rfl _ _ (by exact rfl) _ xs 37 (hexU (s[j].toNat / 16)) (hexU (s[j].toNat % 16)) _ _ _ rfl (hexU_at _ (by omega) _ (by omega) _) (hexU_at _ (by omega) _ (by omega) _) (by exact rfl) (by exact rfl) HO HB hsz (by omega) ?_; intro v1 w1 HO1 HB1 hs1)))
        all_goals
          go_wp2
          go_roundg g
          case measure => omega
          case rel => exact ⟨j + 1, xs ++ esc s[j], by omega, by go_num, by unfold Hid; have := HL.out; simp [esc]; omega, by unfold Hid; rw [HF.out, List.append_assoc], HO1, HB1⟩
      · rw [if_neg hi] at HF
        have hi' : inSet k s[j].toNat = false := by simpa using hi
        clear hi
        go_wp2_with (first | (go_at_call 115; refine (infra_in _ _ _).mono ?_; rintro e w' ⟨rfl, rfl⟩) | (at_builtin; go_must (refine app_u8 (w0 := w) w.heap.size rfl _ _ (by exact rfl) _ xs s[j] _ rfl (by exact rfl) (by exact rfl) HO HB hsz (by omega) ?_); intro v1 w1 HO1 HB1 hs1))
        go_roundg g
        case measure => omega
        case rel => exact ⟨j + 1, xs ++ [s[j]], by omega, by go_num, by unfold Hid; have := HL.out; simp; omega, by unfold Hid; rw [HF.out, List.append_assoc], HO1, HB1⟩


set_option maxHeartbeats 400000 in
set_option maxRecDepth 100000 in
theorem infra_Lower1 (x : UInt8) (w : World) : Calls Tryz.prog 111 #[.int .u8 x.toNat] w fun e w' => e = .returned (.int .u8 (low x).toNat) ∧ w = w' := by
  have h1 : (x.toNat : Int) < 256 := by have := x.toNat_lt; omega
  go_enter Tryz.func111, Tryz.ntmps111
  go_wp2
  all_goals
    go_ret
    exact ⟨ret_int (by rw [low_toNat]; split <;> omega), rfl⟩
set_option maxHeartbeats 2000000 in
set_option maxRecDepth 100000 in
theorem infra_mapped (s : ByteArray) (w : World) (hs : s.size ≤ 1099511627776) :
    Calls Tryz.prog 110 #[.string s, .func (.func 111) #[] #[]] w fun e w' => (∃ t, e = .returned (.string t) ∧ Hid (bl t = lower (bl s))) ∧ Hid (Bel w w') := by
  have kb := fun W => Lib.run_convert_string_bytes W 9 43 5 s Tryz.underlying9 Tryz.underlying43 Tryz.underlying5
  go_enter Tryz.func110, Tryz.ntmps110
  go_wp2
  have hb := bel_bytes w 5 s
  have hr := RowAt.bytes w 5 s
  go_loopg [12] s.size (fun g i wr => ∃ (k : Nat), k + g = s.size ∧ i = .int .i64 k ∧ Hid (RowAt wr w.heap.size ((lower ((bl s).take k) ++ (bl s).drop k).map u8v)) ∧ Hid (Bel w wr))
  case atStart => exact ⟨0, by omega, rfl, hr, hb⟩
  case round =>
    obtain ⟨k, hk, rfl, HR, HB⟩ := hrel
    clear hr hb
    cases gk with
    | zero =>
      obtain rfl : k = s.size := by omega
      have hcv : ∀ c, (convert 43 9 (.slice (some ⟨w.heap.size, 0, none⟩) s.size c)).run Tryz.prog wr = .ok (.string ⟨(lower (bl s)).toArray⟩) wr := fun c => by
        have := HR.out
        rw [List.take_of_length_le (by rw [bl_length]; exact Nat.le_refl _), List.drop_eq_nil_of_le (by rw [bl_length]; exact Nat.le_refl _), List.append_nil] at this
        exact row_string Tryz.underlying43 Tryz.underlying5 Tryz.underlying9 this _ (by simp [lower, bl_length])
      go_wp2
      go_ret
      exact ⟨⟨_, rfl, by unfold Hid; rw [bl_mk]⟩, HB⟩
    | succ g =>
      have hlt : k < s.size := by omega
      have hg : ((lower ((bl s).take k) ++ (bl s).drop k).map u8v)[k]? = some (.int .u8 s[k].toNat) := by
        rw [List.getElem?_map, List.getElem?_append_right (by simp [lower]; omega), lower, List.length_map, List.length_take, bl_length, Nat.min_eq_left (by omega), Nat.sub_self, bl_drop s k hlt]; rfl
      have hc := (HR.out.2 k _ hg).1
      have hf := (HR.out.2 k _ hg).2
      have hS : ((lower ((bl s).take k) ++ (bl s).drop k).map u8v).set k (u8v (low s[k])) = (lower ((bl s).take (k + 1)) ++ (bl s).drop (k + 1)).map u8v := by
        rw [← List.map_set, List.set_append_right _ _ (by simp [lower]; omega)]
        simp only [lower, List.length_map, List.length_take, bl_length, Nat.min_eq_left (show k ≤ s.size by omega), Nat.sub_self]
        rw [bl_drop s k hlt, List.set_cons_zero, bl_take s k hlt]
        simp
      have HS := Lib.hid hS
      clear hg hS
      go_wp2_with (go_at_call 111; go_must (refine (infra_Lower1 s[k] _).mono ?_); rintro e w' ⟨rfl, rfl⟩)
      go_roundg g
      case measure => omega
      case rel => exact ⟨k + 1, by omega, by go_num, by unfold Hid; rw [← HS.out]; exact HR.out.set k (u8v (low s[k])), HB.out.setCell (Nat.le_refl _) _⟩
set_option maxHeartbeats 400000 in
theorem infra_Lower (s : ByteArray) (w : World) (hs : s.size ≤ 1099511627776) :
    Calls Tryz.prog 81 #[.string s] w fun e w' => (∃ t, e = .returned (.string t) ∧ Hid (bl t = lower (bl s))) ∧ Hid (Bel w w') := by
  go_enter Tryz.func81, Tryz.ntmps81
  go_wp2_with (go_at_call 110; go_must (refine (infra_mapped s _ hs).mono ?_); rintro e w' ⟨⟨t, rfl, ht⟩, hb⟩)
  go_ret
  exact ⟨⟨_, rfl, ht⟩, hb⟩
theorem or16 : ∀ a b : Fin 16, IntKind.u8.wrap (Go.bits .or .i64 (IntKind.i64.wrap ((a.val : Int) * 16)) (b.val : Int)) = 16 * (a.val : Int) + (b.val : Int) := by decide +kernel
theorem or16' (a b : Int) (h : 0 ≤ a ∧ a ≤ 15 ∧ 0 ≤ b ∧ b ≤ 15) : IntKind.u8.wrap (Go.bits .or .i64 (IntKind.i64.wrap (a * 16)) b) = 16 * a + b := by
  have := or16 ⟨a.toNat, by omega⟩ ⟨b.toNat, by omega⟩
  simp only [Int.toNat_of_nonneg h.1, Int.toNat_of_nonneg h.2.2.1] at this
  exact this
set_option maxHeartbeats 2000000 in
set_option maxRecDepth 100000 in
theorem infra_Unpercent (s : ByteArray) (w : World) (hs : s.size ≤ 1099511627776) :
    Calls Tryz.prog 196 #[.string s] w fun e w' => (∃ t, e = .returned (.string t) ∧ Hid (bl t = unpercent (bl s)) ∧ t.size ≤ s.size) ∧ Hid (Bel w w') := by
  go_enter Tryz.func196, Tryz.ntmps196
  go_wp2
  go_loopw [3, 4] (fun v i wr => ∃ (k : Nat) (xs : List UInt8), i = .int .i64 k ∧ k ≤ s.size ∧ Hid (xs.length ≤ k) ∧ Hid (xs ++ unpercent ((bl s).drop k) = unpercent (bl s)) ∧ Hid (Own wr w.heap.size 5 v (xs.map u8v)) ∧ Hid (Below w.heap.size w wr)) (fun _ i _ => s.size - (intOf i).toNat)
  case atStart => exact ⟨0, [], rfl, Nat.zero_le _, Nat.le_refl _, rfl, Own.nil _ _ _, Below.refl _ _⟩
  case round =>
    obtain ⟨k, xs, rfl, hk, HL, HC, HO, HB⟩ := hrel
    have hap : xs.length ≤ s.size := by have := HL.out; omega
    have hsz := HB.out.size
    by_cases hlt : k < s.size
    · by_cases hp : s[k] = 37
      · have hp1 : ((s[k].toNat : Int) == 37) = true := by rw [hp]; rfl
        by_cases h2 : k + 2 < s.size
        · have hd := HC.out
          rw [bl_drop s k hlt, bl_drop s (k + 1) (by omega), bl_drop s (k + 2) h2, hp] at hd
          have a0 := hexV_range s[k + 1].toNat
          have b0 := hexV_range s[k + 2].toNat
          have c1 : (s[k + 1].toNat : Int) ≤ 255 := by have := s[k + 1].toNat_lt; omega
          have c2 : (s[k + 2].toNat : Int) ≤ 255 := by have := s[k + 2].toNat_lt; omega
          have hp0 : Hid (s[k] = 37 ∧ s[k + 1] :: s[k + 2] :: (bl s).drop (k + 2 + 1) = (bl s).drop (k + 1)) := ⟨hp, by rw [bl_drop s (k + 1) (by omega), bl_drop s (k + 2) h2]⟩
          clear hp HC
          by_cases ha : 0 ≤ hexV s[k + 1].toNat
          · by_cases hb : 0 ≤ hexV s[k + 2].toNat
            · rw [unp_yes ⟨ha, hb⟩] at hd
              have HD := Lib.hid hd
              clear hd
              go_wp2_with (go_at_call 217; go_must (refine (infra_digit _ _ (by omega) (by omega)).mono ?_); rintro e w' ⟨rfl, rfl⟩)
              have w1 : IntKind.i64.wrap ((k : Int) + 1) = (k : Int) + 1 := IntWalk.i64_in _ (by omega)
              have w2 : IntKind.i64.wrap ((k : Int) + 2) = (k : Int) + 2 := IntWalk.i64_in _ (by omega)
              have p1 : 0 ≤ (k : Int) + 1 := by omega
              have p2 : (k : Int) + 1 < s.size := by omega
              have p3 : ((k : Int) + 1).toNat = k + 1 := by omega
              have p4 : 0 ≤ (k : Int) + 2 := by omega
              have p5 : (k : Int) + 2 < s.size := by omega
              have p6 : ((k : Int) + 2).toNat = k + 2 := by omega
              have hy : Hid (IntKind.u8.wrap (Go.bits .or .i64 (IntKind.i64.wrap (hexV s[k + 1].toNat * 16)) (hexV s[k + 2].toNat)) = ((UInt8.ofNat (16 * (hexV s[k + 1].toNat).toNat + (hexV s[k + 2].toNat).toNat)).toNat : Int)) := by unfold Hid; rw [or16' _ _ (by omega), UInt8.toNat_ofNat']; omega
              generalize UInt8.ofNat (16 * (hexV s[k + 1].toNat).toNat + (hexV s[k + 2].toNat).toNat) = y at hy HD
              go_region_held3 (fun w' => True) (trivial)
                (first | ((go_at_call 217; go_must (refine (infra_digit _ _ (by omega) (by omega)).mono ?_); rintro e w' ⟨rfl, rfl⟩)) | ((refine app_u8_r (w0 := w) w.heap.size rfl _ _ (by exact rfl) _ xs y _ hy.out (by exact rfl) (by exact rfl) HO HB hsz (by omega) ?_; intro v1 w1 HO1 HB1 hs1)))
              all_goals
                go_wp2
                exact ⟨⟨k + 3, xs ++ [y], by go_num, by omega, by unfold Hid; have := HL.out; simp; omega, by unfold Hid; rw [← HD.out]; simp, HO1, HB1⟩, by simp [intOf]; omega⟩
            · rw [unp_no (by omega)] at hd
              have HD := Lib.hid hd
              clear hd
              go_wp2_with (first | (go_at_call 217; go_must (refine (infra_digit _ _ (by omega) (by omega)).mono ?_); rintro e w' ⟨rfl, rfl⟩) | (at_builtin; go_must (refine app_u8 (w0 := w) w.heap.size rfl _ _ (by exact rfl) _ xs s[k] _ rfl (by exact rfl) (by exact rfl) HO HB hsz (by omega) ?_); intro v1 w1 HO1 HB1 hs1))
              exact ⟨⟨k + 1, xs ++ [s[k]], by go_num, by omega, by unfold Hid; have := HL.out; simp; omega, by unfold Hid; rw [← HD.out, hp0.out.1, hp0.out.2]; simp, HO1, HB1⟩, by simp [intOf]; omega⟩
          · rw [unp_no (by omega)] at hd
            have HD := Lib.hid hd
            clear hd
            go_wp2_with (first | (go_at_call 217; go_must (refine (infra_digit _ _ (by omega) (by omega)).mono ?_); rintro e w' ⟨rfl, rfl⟩) | (at_builtin; go_must (refine app_u8 (w0 := w) w.heap.size rfl _ _ (by exact rfl) _ xs s[k] _ rfl (by exact rfl) (by exact rfl) HO HB hsz (by omega) ?_); intro v1 w1 HO1 HB1 hs1))
            exact ⟨⟨k + 1, xs ++ [s[k]], by go_num, by omega, by unfold Hid; have := HL.out; simp; omega, by unfold Hid; rw [← HD.out, hp0.out.1, hp0.out.2]; simp, HO1, HB1⟩, by simp [intOf]; omega⟩
        · have HD : Hid (xs ++ s[k] :: unpercent ((bl s).drop (k + 1)) = unpercent (bl s)) := by
            have := HC.out; rw [bl_drop s k hlt, unp_short (by rw [List.length_drop, bl_length]; omega)] at this; exact this
          clear HC hp
          have h2' : ¬ ((k : Int) + 2 < s.size) := by omega
          go_wp2_with (first | (at_builtin; go_must (refine app_u8 (w0 := w) w.heap.size rfl _ _ (by exact rfl) _ xs s[k] _ rfl (by exact rfl) (by exact rfl) HO HB hsz (by omega) ?_); intro v1 w1 HO1 HB1 hs1))
          exact ⟨⟨k + 1, xs ++ [s[k]], by go_num, by omega, by unfold Hid; have := HL.out; simp; omega, by unfold Hid; rw [← HD.out]; simp, HO1, HB1⟩, by simp [intOf]; omega⟩
      · have hp1 : ((s[k].toNat : Int) == 37) = false := by
          rw [beq_eq_false_iff_ne]; intro h; exact hp ((u8_eq s[k] 37 (by omega)).1 h)
        have HD : Hid (xs ++ s[k] :: unpercent ((bl s).drop (k + 1)) = unpercent (bl s)) := by
          have := HC.out; rw [bl_drop s k hlt, unp_other hp] at this; exact this
        clear HC hp
        go_wp2_with (first | (at_builtin; go_must (refine app_u8 (w0 := w) w.heap.size rfl _ _ (by exact rfl) _ xs s[k] _ rfl (by exact rfl) (by exact rfl) HO HB hsz (by omega) ?_); intro v1 w1 HO1 HB1 hs1))
        exact ⟨⟨k + 1, xs ++ [s[k]], by go_num, by omega, by unfold Hid; have := HL.out; simp; omega, by unfold Hid; rw [← HD.out]; simp, HO1, HB1⟩, by simp [intOf]; omega⟩
    · obtain rfl : k = s.size := by omega
      have HX : Hid (xs = unpercent (bl s)) := by have := HC.out; rw [bl_drop_end s s.size (Nat.le_refl _)] at this; unfold Hid; simpa [unpercent] using this
      have hcv := own_str (src := 43) (dst := 9) Tryz.underlying43 Tryz.underlying5 Tryz.underlying9 HO.out
      clear HC
      go_wp2
      go_ret
      exact ⟨⟨_, rfl, by unfold Hid; rw [bl_mk]; exact HX, by rw [← bl_length, bl_mk]; exact hap⟩, HB⟩

end Go.Proofs.YtbpkkgaaeodimaaGreatDoor
namespace Go.Proofs.YtbpkkgaaeodimaaGreatDoor
open Go.RowKit

/-- A set of ASCII bytes. -/
def Asc (l : List UInt8) : Prop := ∀ x ∈ l, x.toNat < 128
theorem any_high {l : List UInt8} (h : Asc l) (c : Nat) (hc : 128 ≤ c) : (l.any fun y => (c : Int) == (y.toNat : Int)) = false := by
  rw [Bool.eq_false_iff]
  intro he
  obtain ⟨y, hy, e⟩ := List.any_eq_true.1 he
  have := h y hy
  have := beq_iff_eq.1 e
  omega
theorem mem_any' (l : List UInt8) (x : UInt8) : (l.any fun y => (x.toNat : Int) == (y.toNat : Int)) = l.contains x := by
  rw [← mem_any]; congr 1; funext y; exact BEq.comm
theorem bl_asc {t : ByteArray} (h : Asc (bl t)) (j : Nat) (hj : j < t.size) : t[j].toNat < 128 := h _ (List.mem_of_getElem? (bl_get t j hj))

set_option maxHeartbeats 2000000 in
set_option maxRecDepth 100000 in
theorem host_cutLeft (s t : ByteArray) (w : World) (hs : s.size ≤ 1099511627776) (_hts : t.size ≤ 1000) (ht : Hid (Asc (bl t))) :
    Calls Tryz.prog 237 #[.string s, .string t] w fun e w' => (∃ r, e = .returned (.string r) ∧ Hid (bl r = (bl s).dropWhile (bl t).contains) ∧ r.size ≤ s.size) ∧ Hid (Bel w w') := by
  go_enter Tryz.func237, Tryz.ntmps237
  go_wp2
  go_loopg [5] s.size (fun g _ wr => ∃ i : Nat, i + g = s.size ∧ Hid (wr.heap[w.heap.size]? = some (.stringIter s i)) ∧ Hid ((bl s).dropWhile (bl t).contains = ((bl s).drop i).dropWhile (bl t).contains) ∧ Hid (Bel w wr))
  case atStart => exact ⟨0, by omega, World.iter_heap w s 0, rfl, (Below.refl _ _).alloc (Nat.le_refl _) _⟩
  case round =>
    obtain ⟨i, hig, HW, HD, HB⟩ := hrel
    cases gk with
    | zero =>
      have hnx := fun ty => Lib.run_next_end_at (P := Tryz.prog) wr w.heap.size s i ty HW.out (by omega)
      go_wp2
      go_ret
      exact ⟨⟨_, rfl, by unfold Hid; rw [HD.out, bl_drop_end s i (by omega)]; rfl, Nat.zero_le _⟩, HB⟩
    | succ g =>
      have hi : i < s.size := by omega
      have hnx := fun ty => Lib.run_next_any_at (P := Tryz.prog) wr w.heap.size s i ty HW.out hi
      go_wp2
      clear hnx
      have HW1 := Lib.hid (Lib.iterAt_heap wr w.heap.size s i (i + (Utf8.decode s i).2) HW.out)
      have HB1 := Lib.hid (Lib.below_iterAt HB.out (Nat.le_refl _) s (i + (Utf8.decode s i).2))
      have hi2 : i < s.size := hi
      clear HW HB
      generalize wr.iterAt w.heap.size s (i + (Utf8.decode s i).2) = W1 at *
      have hlt := (Array.getElem?_eq_some_iff.1 HW1.out).1
      go_loopg [7] t.size (fun g' v wx => ∃ j : Nat, j + g' = t.size ∧ v = .bool (((bl t).take j).any fun y => (((Utf8.decode s i).1 : Nat) : Int) == (y.toNat : Int)) ∧ Hid (wx.heap[W1.heap.size]? = some (.stringIter t j)) ∧ Hid (wx.heap[w.heap.size]? = some (.stringIter s (i + (Utf8.decode s i).2))) ∧ Hid (Bel w wx))
      case atStart => exact ⟨0, by omega, rfl, World.iter_heap W1 t 0, by unfold Hid; rw [← HW1.out]; exact Below.heap_alloc _ _ _ hlt, HB1.out.alloc HB1.out.size _⟩
      case round =>
        obtain ⟨j, hj, rfl, HT, HS, HBx⟩ := hrel
        cases gk with
        | zero =>
          have hnx := fun ty => Lib.run_next_end_at (P := Tryz.prog) wr W1.heap.size t j ty HT.out (by omega)
          rw [List.take_of_length_le (by rw [bl_length]; omega)]
          by_cases hx : s[i].toNat < 128
          · have hd1 := Lib.hid (decode_ascii s i hi hx)
            have hb : ((bl t).any fun y => (((Utf8.decode s i).1 : Nat) : Int) == (y.toNat : Int)) = (bl t).contains s[i] := by rw [hd1.out]; exact mem_any' _ _
            rw [hb]
            clear hb
            cases hc : (bl t).contains s[i]
            · have HX : Hid ((bl s).dropWhile (bl t).contains = bl (s.extract i s.size)) := by
                unfold Hid; rw [HD.out, bl_extract, List.take_of_length_le (by rw [List.length_drop, bl_length]; omega), bl_drop s i hi, List.dropWhile_cons_of_neg (by rw [hc]; simp)]
              have hz : (s.extract i s.size).size ≤ s.size := by rw [ByteArray.size_extract]; omega
              clear HD
              go_wp2
              go_ret
              exact ⟨⟨_, rfl, HX.out.symm, hz⟩, HBx⟩
            · have HD1 : Hid ((bl s).dropWhile (bl t).contains = ((bl s).drop (i + 1)).dropWhile (bl t).contains) := by
                unfold Hid; rw [HD.out, bl_drop s i hi, List.dropWhile_cons_of_pos hc]
              clear HD
              go_wp2
              go_roundg g
              case measure => omega
              case rel => exact ⟨i + 1, by omega, by have := HS.out; rw [hd1.out] at this; exact this, HD1, HBx⟩
          · have hb : ((bl t).any fun y => (((Utf8.decode s i).1 : Nat) : Int) == (y.toNat : Int)) = false := any_high ht.out _ (decode_high s i hi (by omega)).1
            rw [hb]
            have hc : (bl t).contains s[i] = false := by
              rw [Bool.eq_false_iff]; intro h; exact hx (ht.out _ (List.contains_iff_mem.1 h))
            have HX : Hid ((bl s).dropWhile (bl t).contains = bl (s.extract i s.size)) := by
              unfold Hid; rw [HD.out, bl_extract, List.take_of_length_le (by rw [List.length_drop, bl_length]; omega), bl_drop s i hi, List.dropWhile_cons_of_neg (by rw [hc]; simp)]
            have hz : (s.extract i s.size).size ≤ s.size := by rw [ByteArray.size_extract]; omega
            clear HD hb hc
            go_wp2
            go_ret
            exact ⟨⟨_, rfl, HX.out.symm, hz⟩, HBx⟩
        | succ g' =>
          have hjl : j < t.size := by omega
          have hta := bl_asc ht.out j hjl
          have hnx := fun ty => Lib.run_next_ascii_at (P := Tryz.prog) wr W1.heap.size t j ty HT.out hjl hta
          have hT : Hid ((((bl t).take (j + 1)).any fun y => (((Utf8.decode s i).1 : Nat) : Int) == (y.toNat : Int)) = ((((bl t).take j).any fun y => (((Utf8.decode s i).1 : Nat) : Int) == (y.toNat : Int)) || ((((Utf8.decode s i).1 : Nat) : Int) == (t[j].toNat : Int)))) := any_take t j hjl
          have HTn := Lib.hid (Lib.iterAt_heap wr W1.heap.size t j (j + 1) HT.out)
          have HSn : Hid ((wr.iterAt W1.heap.size t (j + 1)).heap[w.heap.size]? = some (.stringIter s (i + (Utf8.decode s i).2))) := (Lib.iterAt_other wr W1.heap.size w.heap.size t (j + 1) (by omega)).trans HS.out
          have HBn := Lib.hid (Lib.below_iterAt HBx.out HB1.out.size t (j + 1))
          generalize (((bl t).take j).any fun y => (((Utf8.decode s i).1 : Nat) : Int) == (y.toNat : Int)) = b at *
          cases b
          all_goals
            go_wp2
            go_roundg g'
            case measure => omega
            case rel => exact ⟨j + 1, by omega, by rw [hT.out]; rfl, HTn, HSn, HBn⟩


theorem decodeLast_high (l : List UInt8) (x : UInt8) (hx : 128 ≤ x.toNat) : 128 ≤ (Lib.decodeLastL (l ++ [x])).1 := by
  unfold Lib.decodeLastL
  have h1 : (l ++ [x]).getD ((l ++ [x]).length - 1) 0 = x := by simp [List.getD]
  rw [if_neg (by simp), h1, if_neg (by omega)]
  simp only []
  split
  · rename_i hl
    have e := Lib.decodeL_drop ⟨(l ++ [x]).toArray⟩ (Lib.lastStart (l ++ [x]))
    dsimp only at e
    rw [e] at hl ⊢
    have hw := Lib.width_pos ⟨(l ++ [x]).toArray⟩ (Lib.lastStart (l ++ [x]))
    have hp : Lib.lastStart (l ++ [x]) < (⟨(l ++ [x]).toArray⟩ : ByteArray).size := by
      have : (⟨(l ++ [x]).toArray⟩ : ByteArray).size = (l ++ [x]).length := by rw [← bl_length, bl_mk]
      omega
    by_cases hb : ((⟨(l ++ [x]).toArray⟩ : ByteArray)[Lib.lastStart (l ++ [x])]'hp).toNat < 128
    · rw [decode_ascii _ _ hp hb] at hl
      simp only at hl
      exfalso
      have hg := bl_get ⟨(l ++ [x]).toArray⟩ _ hp
      rw [bl_mk] at hg
      have hq : (l ++ [x])[Lib.lastStart (l ++ [x])]? = some x := by
        have : Lib.lastStart (l ++ [x]) = l.length := by simp at hl; omega
        rw [this]; simp
      rw [hq] at hg
      rw [← Option.some.inj hg] at hb
      omega
    · exact (decode_high _ _ hp (by omega)).1
  · simp [Utf8.runeError]

def rstrip (p : UInt8 → Bool) (l : List UInt8) : List UInt8 := (l.reverse.dropWhile p).reverse
theorem rstrip_snoc (p : UInt8 → Bool) (l : List UInt8) (x : UInt8) : rstrip p (l ++ [x]) = if p x then rstrip p l else l ++ [x] := by
  unfold rstrip; rw [List.reverse_append]; simp only [List.reverse_cons, List.reverse_nil, List.nil_append, List.singleton_append, List.dropWhile_cons]
  split <;> simp
set_option maxHeartbeats 2000000 in
set_option maxRecDepth 100000 in
theorem host_cutRight (s t : ByteArray) (w : World) (hs : s.size ≤ 1099511627776) (_hts : t.size ≤ 1000) (ht : Hid (Asc (bl t))) (HE : Hid (Env w)) :
    Calls Tryz.prog 236 #[.string s, .string t] w fun e w' => (∃ r, e = .returned (.string r) ∧ Hid (bl r = rstrip (bl t).contains (bl s)) ∧ r.size ≤ s.size) ∧ Hid (Bel w w') := by
  go_enter Tryz.func236, Tryz.ntmps236
  go_wp2
  go_loopg [0] s.size (fun g v wr => ∃ r : ByteArray, v = .string r ∧ r.size ≤ s.size ∧ r.size ≤ g ∧ Hid (rstrip (bl t).contains (bl s) = rstrip (bl t).contains (bl r)) ∧ Hid (Bel w wr))
  case atStart => exact ⟨s, rfl, Nat.le_refl _, Nat.le_refl _, rfl, Below.refl _ _⟩
  case round =>
    obtain ⟨r, rfl, hr, hg, HD, HB⟩ := hrel
    by_cases h0 : 0 < r.size
    · obtain ⟨g, rfl⟩ : ∃ g, gk = g + 1 := ⟨gk - 1, by omega⟩
      obtain ⟨l, x, HL⟩ : ∃ l x, Hid (bl r = l ++ [x]) := by
        rcases List.eq_nil_or_concat (bl r) with h | ⟨l, x, h⟩
        · have := bl_length r; rw [h] at this; simp at this; omega
        · exact ⟨l, x, by rw [List.concat_eq_append] at h; exact h⟩
      have HDL : Hid ((Lib.decodeLastL r.data.toList).1 = x.toNat ∧ (Lib.decodeLastL r.data.toList).2 = 1 ∧ x.toNat < 128 ∨ 128 ≤ (Lib.decodeLastL r.data.toList).1 ∧ 128 ≤ x.toNat) := by
        show (Lib.decodeLastL (bl r)).1 = _ ∧ (Lib.decodeLastL (bl r)).2 = 1 ∧ _ ∨ 128 ≤ (Lib.decodeLastL (bl r)).1 ∧ _
        rw [HL.out]
        by_cases hx : x.toNat < 128
        · left; rw [Lib.decodeLastL_ascii _ _ hx]; exact ⟨rfl, rfl, hx⟩
        · right; exact ⟨decodeLast_high _ _ (by omega), by omega⟩
      have hm := Lib.hid (HE.out.bel HB.out).utf
      go_wp2_with (go_at_call 128; go_must (refine (Tryz.utf8_DecodeLastRuneInString _ _ (by omega) hm.out).mono ?_); rintro e W1 ⟨rfl, hb1⟩; have HB1 := Lib.hid hb1; clear hb1)
      generalize (Lib.decodeLastL r.data.toList).1 = c at *
      generalize (Lib.decodeLastL r.data.toList).2 = n at *
      have HB2 := Lib.hid (bel_trans HB.out HB1.out)
      clear HB HB1
      go_loopg [7] t.size (fun g' v wx => ∃ j : Nat, j + g' = t.size ∧ v = .bool (((bl t).take j).any fun y => (c : Int) == (y.toNat : Int)) ∧ Hid (wx.heap[W1.heap.size]? = some (.stringIter t j)) ∧ Hid (Bel w wx))
      case atStart => exact ⟨0, by omega, rfl, World.iter_heap W1 t 0, HB2.out.alloc HB2.out.size _⟩
      case round =>
        obtain ⟨j, hj, rfl, HT, HBx⟩ := hrel
        cases gk with
        | zero =>
          have hnx := fun ty => Lib.run_next_end_at (P := Tryz.prog) wr W1.heap.size t j ty HT.out (by omega)
          rw [List.take_of_length_le (by rw [bl_length]; omega)]
          have hr1 : r.size = l.length + 1 := by rw [← bl_length, HL.out]; simp
          rcases HDL.out with ⟨e1, e2, hx⟩ | ⟨hc, hx⟩
          · subst e1 e2
            rw [mem_any']
            have hS := rstrip_snoc (bl t).contains l x
            cases hc : (bl t).contains x
            · rw [hc] at hS
              have HX : Hid (rstrip (bl t).contains (bl s) = bl r) := by unfold Hid; rw [HD.out, HL.out, hS]; rfl
              clear HD hS hr1
              go_wp2
              go_ret
              exact ⟨⟨_, rfl, HX.out.symm, hr⟩, HBx⟩
            · rw [hc] at hS
              have HX : Hid (rstrip (bl t).contains (bl s) = rstrip (bl t).contains (bl (r.extract 0 l.length))) := by
                unfold Hid; rw [HD.out, HL.out, hS, bl_extract, HL.out]; simp
              have h2 : (r.size : Int) - 1 = l.length := by omega
              have hz : (r.extract 0 l.length).size = l.length := by rw [ByteArray.size_extract]; omega
              have h3 := Lib.hid hr1
              have h4 := Lib.hid hz
              have h5 := Lib.hid h2
              have h6 : l.length ≤ r.size := by omega
              clear HD hS hr1 hz h2
              go_wp2
              go_roundg g
              case measure => omega
              case rel => exact ⟨_, rfl, by rw [ByteArray.size_extract]; omega, by rw [ByteArray.size_extract]; have := h3.out; omega, by unfold Hid; rw [HX.out, show r.size - 1 = l.length by have := h3.out; omega], HBx⟩
          · rw [any_high ht.out c hc]
            have hn : (bl t).contains x = false := by
              rw [Bool.eq_false_iff]; intro h; have := ht.out _ (List.contains_iff_mem.1 h); omega
            have hS := rstrip_snoc (bl t).contains l x
            rw [hn] at hS
            have HX : Hid (rstrip (bl t).contains (bl s) = bl r) := by unfold Hid; rw [HD.out, HL.out, hS]; rfl
            clear HD hS hr1 hn
            go_wp2
            go_ret
            exact ⟨⟨_, rfl, HX.out.symm, hr⟩, HBx⟩
        | succ g' =>
          have hjl : j < t.size := by omega
          have hta := bl_asc ht.out j hjl
          have hnx := fun ty => Lib.run_next_ascii_at (P := Tryz.prog) wr W1.heap.size t j ty HT.out hjl hta
          have hT : Hid ((((bl t).take (j + 1)).any fun y => (c : Int) == (y.toNat : Int)) = ((((bl t).take j).any fun y => (c : Int) == (y.toNat : Int)) || ((c : Int) == (t[j].toNat : Int)))) := any_take t j hjl
          have HTn := Lib.hid (Lib.iterAt_heap wr W1.heap.size t j (j + 1) HT.out)
          have HBn := Lib.hid (Lib.below_iterAt HBx.out HB2.out.size t (j + 1))
          generalize (((bl t).take j).any fun y => (c : Int) == (y.toNat : Int)) = b at *
          cases b
          all_goals
            go_wp2
            go_roundg g'
            case measure => omega
            case rel => exact ⟨j + 1, by omega, by rw [hT.out]; rfl, HTn, HBn⟩
    · obtain rfl : r = ByteArray.empty := bl_inj (by rw [List.eq_nil_of_length_eq_zero (l := bl r) (by rw [bl_length]; omega)]; rfl)
      go_wp2
      go_ret
      exact ⟨⟨_, rfl, by unfold Hid; rw [HD.out]; rfl, Nat.zero_le _⟩, HB⟩


theorem dropWhile_nil {p : UInt8 → Bool} : ∀ {l : List UInt8}, l.dropWhile p = [] ↔ l.all p = true
  | [] => by simp
  | x :: l => by
    rw [List.dropWhile_cons]
    cases h : p x
    · simp [h]
    · simp [h, dropWhile_nil (l := l)]
theorem strip_all (p : UInt8 → Bool) (l : List UInt8) : (rstrip p (l.dropWhile p)).isEmpty = l.all p := by
  rw [Bool.eq_iff_iff, List.isEmpty_iff, rstrip, List.reverse_eq_nil_iff, dropWhile_nil, List.all_reverse]
  cases h : l.all p
  · simp only [Bool.false_eq_true, iff_false]
    intro h2
    have hne : l.dropWhile p ≠ [] := fun e => by rw [dropWhile_nil.1 e] at h; cases h
    have := List.head_dropWhile_not (p := p) (l := l) hne
    rw [List.all_eq_true.1 h2 _ (List.head_mem hne)] at this
    cases this
  · rw [dropWhile_nil.2 h]; simp
theorem empty_of (t : ByteArray) (b : Bool) (h : (bl t).isEmpty = b) : (t.toList == ([] : List UInt8)) = b := by rw [toList_bl, ← h]; cases bl t <;> rfl
set_option maxHeartbeats 1000000 in
theorem host_all (s t : ByteArray) (w : World) (hs : s.size ≤ 1099511627776) (hts : t.size ≤ 1000) (ht : Hid (Asc (bl t))) (HE : Hid (Env w)) :
    Calls Tryz.prog 228 #[.string s, .string t] w fun e w' => e = .returned (.bool ((bl s).all (bl t).contains)) ∧ Hid (Bel w w') := by
  go_enter Tryz.func228, Tryz.ntmps228
  go_wp2_with fail
  refine (host_cutLeft s t _ hs hts ht).mono ?_
  rintro e w1 ⟨⟨r, rfl, hr, hz⟩, HB1⟩
  go_wp2_with fail
  have HE1 := Lib.hid (HE.out.bel HB1.out)
  refine (host_cutRight r t _ (by omega) hts ht HE1).mono ?_
  rintro e w2 ⟨⟨u, rfl, hu, hz2⟩, HB2⟩
  have hX : Hid (u.toList.isEmpty = (bl s).all (bl t).contains) := by unfold Hid; rw [toList_bl, hu.out, hr.out, strip_all]
  go_wp2
  go_ret
  refine ⟨ret_bool ?_, bel_trans HB1.out HB2.out⟩
  first | exact hX.out | (rw [← hX.out]; rfl)

theorem hasPrefix_eq (s t : ByteArray) : Lib.hasPrefix s.data.toList t.data.toList = begins (bl s) (bl t) := by
  show (bl t).isPrefixOf (bl s) = begins (bl s) (bl t)
  unfold begins
  rw [Bool.eq_iff_iff, List.isPrefixOf_iff_prefix, List.prefix_iff_eq_take]
  simp only [Bool.and_eq_true, decide_eq_true_eq, beq_iff_eq]
  constructor
  · intro h; exact ⟨by have := congrArg List.length h; rw [List.length_take] at this; omega, h.symm⟩
  · exact fun h => h.2.symm
def hexS (l : List UInt8) : Bool := begins l [48, 120] || begins l [48, 88]
set_option maxHeartbeats 2000000 in
theorem host_hexed (s : ByteArray) (w : World) : Calls Tryz.prog 232 #[.string s] w fun e w' => (∃ r, e = .returned (.tuple #[.string r, .bool (hexS (bl s))]) ∧ Hid (bl r = if hexS (bl s) then (bl s).drop 2 else []) ∧ r.size ≤ s.size) ∧ w = w' := by
  have h1 := hasPrefix_eq s ⟨#[48, 120]⟩
  have h2 := hasPrefix_eq s ⟨#[48, 88]⟩
  have hsz : hexS (bl s) = true → 2 ≤ s.size := by
    intro h
    unfold hexS begins at h
    simp only [Bool.or_eq_true, Bool.and_eq_true, decide_eq_true_eq, List.length_cons, List.length_nil, bl_length] at h
    omega
  have e1 : bl ⟨#[48, 120]⟩ = [48, 120] := rfl
  have e2 : bl ⟨#[48, 88]⟩ = [48, 88] := rfl
  rw [e1] at h1
  rw [e2] at h2
  have hS := Lib.hid (show hexS (bl s) = (begins (bl s) [48, 120] || begins (bl s) [48, 88]) from rfl)
  have HZ := Lib.hid hsz
  clear hsz e1 e2
  generalize begins (bl s) [48, 120] = a at *
  generalize begins (bl s) [48, 88] = b at *
  cases a <;> cases b
  all_goals
    go_enter Tryz.func232, Tryz.ntmps232
    have hX : hexS (bl s) = _ := hS.out
    simp only [Bool.or_true, Bool.or_false] at hX
    rw [hX]
    have hz := HZ.out
    rw [hX] at hz
    clear hX
    simp only [forall_const, Bool.false_eq_true, false_implies] at hz
    go_wp2_with (go_at_call 64; go_must (refine (Tryz.strings_HasPrefix _ _ _).mono ?_); rintro e w' ⟨rfl, hw⟩; rw [hw])
    go_ret2
    first
      | exact ⟨⟨_, rfl, by unfold Hid; (try rw [if_pos rfl]); rw [bl_extract, List.take_of_length_le (by rw [List.length_drop, bl_length]; omega)], by rw [ByteArray.size_extract]; omega⟩, rfl⟩
      | exact ⟨⟨_, rfl, by unfold Hid; (try rw [if_neg (by simp)]); rfl, Nat.zero_le _⟩, rfl⟩

end Go.Proofs.YtbpkkgaaeodimaaGreatDoor
namespace Go.Proofs.YtbpkkgaaeodimaaGreatDoor
open Go

theorem cutS_ne (c : Int) : ∀ (l acc : List UInt8), cutS c acc l ≠ []
  | [], _ => by simp [cutS]
  | x :: r, acc => by unfold cutS; split; simp; exact cutS_ne c r _
theorem cutS_acc (c : Int) : ∀ (l acc : List UInt8), ∃ h t, cutS c [] l = h :: t ∧ cutS c acc l = (acc ++ h) :: t
  | [], acc => ⟨[], [], rfl, by simp [cutS]⟩
  | x :: r, acc => by
    by_cases e : (x.toNat : Int) = c
    · exact ⟨[], cutS c [] r, by rw [cutS, if_pos e], by rw [cutS, if_pos e]; simp⟩
    · obtain ⟨h, t, h1, h2⟩ := cutS_acc c r ([] ++ [x])
      obtain ⟨h', t', h1', h2'⟩ := cutS_acc c r (acc ++ [x])
      rw [h1] at h1'
      injection h1' with ea eb
      subst ea eb
      exact ⟨x :: h, t, by rw [cutS, if_neg e, h2]; simp, by rw [cutS, if_neg e, h2']; simp⟩
theorem splitK_hit (c : UInt8) (k j : Nat) (l : List UInt8) (h : Lib.indexByte l c = j) : Lib.splitK [c] 0 (k + 1) l = l.take j :: Lib.splitK [c] 0 k (l.drop (j + 1)) := by
  rw [Lib.splitK, Lib.index_one, h]
  rw [if_neg (by simp)]
  simp
theorem splitK_cut (c : UInt8) : ∀ (l : List UInt8), Lib.splitK [c] 0 (l.count c) l = cutS c.toNat [] l
  | [] => rfl
  | x :: r => by
    by_cases e : x = c
    · subst e
      rw [List.count_cons_self, splitK_hit x _ 0 (x :: r) (by rw [Lib.indexByte]; simp), cutS, if_pos rfl, ← splitK_cut x r]
      rfl
    · have e' : ¬ ((x.toNat : Int) = c.toNat) := fun h => e (UInt8.toNat_inj.1 (by omega))
      rw [List.count_cons_of_ne (fun h => e h), cutS, if_neg e']
      obtain ⟨h, t, h1, h2⟩ := cutS_acc c.toNat r ([] ++ [x])
      rw [h2]
      have ih := splitK_cut c r
      rw [h1] at ih
      cases hk : r.count c with
      | zero =>
        rw [hk] at ih
        change [r] = h :: t at ih
        injection ih with ih1 ih2
        rw [← ih1, ← ih2]; rfl
      | succ k =>
        have hge := Lib.indexByte_ge r c
        by_cases hm : Lib.indexByte r c = -1
        · exact absurd (List.count_pos_iff.1 (by omega : 0 < r.count c)) (fun hmem => by
            obtain ⟨j, hj⟩ := List.mem_iff_getElem?.1 hmem
            exact Lib.indexByte_none hm j hj)
        · obtain ⟨j, hj⟩ : ∃ j : Nat, Lib.indexByte r c = j := ⟨(Lib.indexByte r c).toNat, by omega⟩
          rw [hk, splitK_hit c k j r hj] at ih
          have hx : Lib.indexByte (x :: r) c = ((j + 1 : Nat) : Int) := by
            rw [Lib.indexByte, if_neg (by simpa using e), if_neg (by rw [beq_iff_eq]; exact hm), hj]; rfl
          rw [splitK_hit c k (j + 1) (x :: r) hx]
          injection ih with ih1 ih2
          rw [← ih1, ← ih2]
          rfl
theorem split_cut (c : UInt8) (s : ByteArray) : (Lib.splitB ⟨#[c]⟩ 0 (Lib.countB s ⟨#[c]⟩) s).map Value.string = strs (cutS c.toNat [] (bl s)) := by
  have h1 := Lib.splitB_data ⟨#[c]⟩ 0 (Lib.countB s ⟨#[c]⟩) s
  have h2 : Lib.countB s ⟨#[c]⟩ = (bl s).count c := by
    rw [← Lib.count_one]; rfl
  rw [h2] at h1 ⊢
  rw [show ((⟨#[c]⟩ : ByteArray).data.toList) = [c] from rfl, show s.data.toList = bl s from rfl, splitK_cut] at h1
  rw [← h1]
  simp only [strs, List.map_map]
  apply List.map_congr_left
  intro x _
  simp
theorem split_len (c : UInt8) (s : ByteArray) : Lib.countB s ⟨#[c]⟩ + 1 = (cutS c.toNat [] (bl s)).length := by
  have h2 : Lib.countB s ⟨#[c]⟩ = (bl s).count c := by rw [← Lib.count_one]; rfl
  have key : ∀ (l : List UInt8), l.count c + 1 = (cutS c.toNat [] l).length := by
    intro l
    induction l with
    | nil => rfl
    | cons x r ih =>
      by_cases e : x = c
      · subst e; rw [List.count_cons_self, cutS, if_pos rfl, List.length_cons, ← ih]
      · have e' : ¬ ((x.toNat : Int) = c.toNat) := fun h => e (UInt8.toNat_inj.1 (by omega))
        rw [List.count_cons_of_ne (fun h => e h), cutS, if_neg e', ih]
        obtain ⟨h, t, h1, h2⟩ := cutS_acc c.toNat r ([] ++ [x])
        rw [h1, h2]; simp
  rw [h2, key]
/-- A host's labels, without an empty last one. -/
def labelsS (l : List UInt8) : List (List UInt8) := if 1 < (cutS 46 [] l).length ∧ (cutS 46 [] l).getLast? = some [] then (cutS 46 [] l).dropLast else cutS 46 [] l
theorem labelsS_ne (l : List UInt8) : labelsS l ≠ [] := by
  unfold labelsS
  split
  · rename_i h; intro e; have := congrArg List.length e; rw [List.length_dropLast] at this; simp at this; omega
  · exact cutS_ne _ _ _
theorem labelsS_len (l : List UInt8) : (labelsS l).length ≤ l.length + 1 := by
  have := cutS_len 46 l []
  unfold labelsS
  split
  · rw [List.length_dropLast]; omega
  · exact this
end Go.Proofs.YtbpkkgaaeodimaaGreatDoor
