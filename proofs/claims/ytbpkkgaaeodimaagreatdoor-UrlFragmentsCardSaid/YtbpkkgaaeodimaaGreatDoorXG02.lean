import Derived.Test.YtbpkkgaaeodimaaGreatDoorXG01
import Derived.Laws.BitsLemmas
namespace Go.Proofs.YtbpkkgaaeodimaaGreatDoor
open Go.RowKit

def isDigit (c : Int) : Bool := decide (48 ≤ c ∧ c ≤ 57)
def hexV (c : Int) : Int := if 48 ≤ c ∧ c ≤ 57 then c - 48 else if 97 ≤ c ∧ c ≤ 102 then c - 87 else if 65 ≤ c ∧ c ≤ 70 then c - 55 else -1
theorem hexV_range (c : Int) : -1 ≤ hexV c ∧ hexV c ≤ 15 := by unfold hexV; repeat' split <;> omega

set_option maxHeartbeats 400000 in
theorem ref1_Digit (c : Int) (w : World) : Calls Tryz.prog 70 #[.int .u8 c] w fun e w' => e = .returned (.bool (isDigit c)) ∧ w = w' := by
  go_enter Tryz.func70, Tryz.ntmps70
  go_wp2
  all_goals
    go_ret
    exact ⟨ret_bool (by simp [isDigit]; omega), rfl⟩

set_option maxHeartbeats 400000 in
theorem ref1_Hex (c : Int) (w : World) (h0 : 0 ≤ c) (h1 : c ≤ 255) : Calls Tryz.prog 181 #[.int .u8 c] w fun e w' => e = .returned (.int .i64 (hexV c)) ∧ w = w' := by
  by_cases hd : 48 ≤ c ∧ c ≤ 57
  all_goals
    have hb : isDigit c = decide (48 ≤ c ∧ c ≤ 57) := rfl
    simp only [hd, decide_false] at hb
    have hd' : Hid (48 ≤ c ∧ c ≤ 57 ∨ ¬ (48 ≤ c ∧ c ≤ 57)) := Classical.em _
    clear hd'
    go_enter Tryz.func181, Tryz.ntmps181
    go_wp2_with (go_at_call 70; refine (ref1_Digit _ _).mono ?_; rintro e w' ⟨rfl, rfl⟩)
    all_goals
      go_ret
      exact ⟨ret_int (by unfold hexV; (repeat' split) <;> omega), rfl⟩

def begins (s t : List UInt8) : Bool := decide (t.length ≤ s.length) && s.take t.length == t
def ends (s t : List UInt8) : Bool := decide (t.length ≤ s.length) && s.drop (s.length - t.length) == t
theorem toList_bl (s : ByteArray) : s.toList = bl s := ByteArray.toList_eq s
set_option maxHeartbeats 400000 in
theorem ref1_Begins (s t : ByteArray) (w : World) : Calls Tryz.prog 74 #[.string s, .string t] w fun e w' => e = .returned (.bool (begins (bl s) (bl t))) ∧ w = w' := by
  by_cases h : t.size ≤ s.size
  all_goals
    go_enter Tryz.func74, Tryz.ntmps74
    go_wp2
    go_ret
    refine ⟨ret_bool ?_, rfl⟩
    simp only [toList_bl, bl_extract, begins, bl_length, h, decide_true, decide_false, Bool.true_and, Bool.false_and, List.drop_zero, Nat.sub_zero]
set_option maxHeartbeats 400000 in
theorem ref1_Ends (s t : ByteArray) (w : World) (hs : s.size ≤ 9223372036854775807) : Calls Tryz.prog 149 #[.string s, .string t] w fun e w' => e = .returned (.bool (ends (bl s) (bl t))) ∧ w = w' := by
  by_cases h : t.size ≤ s.size
  · have hv : Hid (ends (bl s) (bl t) = ((s.extract (s.size - t.size) s.size).toList == t.toList)) := by
      have : ((bl s).drop (s.size - t.size)).take (s.size - (s.size - t.size)) = (bl s).drop (s.size - t.size) := List.take_of_length_le (by rw [List.length_drop, bl_length]; omega)
      simp only [Hid, toList_bl, bl_extract, ends, bl_length, h, decide_true, Bool.true_and, this]
    go_enter Tryz.func149, Tryz.ntmps149
    go_wp2
    go_ret
    exact ⟨ret_bool hv.out.symm, rfl⟩
  · have hv : Hid (ends (bl s) (bl t) = false) := by simp [Hid, ends, bl_length, h]
    go_enter Tryz.func149, Tryz.ntmps149
    go_wp2
    go_ret
    exact ⟨ret_bool hv.out.symm, rfl⟩

def ctl (c : Int) : Bool := decide (c < 32 ∨ 126 < c)
def setL (k : Int) : List UInt8 :=
  if k = 2 then [32, 34, 60, 62, 96] else if k = 3 then [32, 34, 35, 60, 62] else if k = 4 then [32, 34, 35, 60, 62, 39]
  else if k = 5 then [32, 34, 35, 60, 62, 63, 94, 96, 123, 125] else if k = 6 then [32, 34, 35, 60, 62, 63, 94, 96, 123, 125, 47, 58, 59, 61, 64, 91, 92, 93, 124] else []
def inSet (k c : Int) : Bool := decide (1 ≤ k ∧ k ≤ 6) && (ctl c || (setL k).any fun x => (x.toNat : Int) == c)

theorem any_take {p : UInt8 → Bool} (s : ByteArray) (k : Nat) (h : k < s.size) : ((bl s).take (k + 1)).any p = (((bl s).take k).any p || p s[k]) := by
  rw [bl_take s k h]; simp


theorem setL_len (k : Int) : (setL k).length ≤ 19 := by unfold setL; (repeat' split) <;> simp
set_option maxHeartbeats 1000000 in
set_option maxRecDepth 100000 in
theorem ref1_In (c k : Int) (w : World) : Calls Tryz.prog 104 #[.int .u8 c, .int .i64 k] w fun e w' => e = .returned (.bool (inSet k c)) ∧ w = w' := by
  by_cases hk : 1 ≤ k ∧ k ≤ 6
  · have hv : Hid (inSet k c = (ctl c || (setL k).any fun x => (x.toNat : Int) == c)) := by simp [Hid, inSet, hk]
    go_enter Tryz.func104, Tryz.ntmps104
    go_upto_region 1 with (fail)
    go_cut [5] (fun v5 wc => v5 = .bool (ctl c) ∧ w = wc)
    case first =>
      go_wp2
      all_goals
        go_meet
        exact ⟨by simp [ctl]; try omega, rfl⟩
    case rest =>
      obtain ⟨rfl, rfl⟩ := hcut
      go_upto_block 0 with (fail)
      go_cut [6] (fun v6 wc => (∃ s, v6 = .string s ∧ Hid (bl s = setL k)) ∧ w = wc)
      case first =>
        go_wp2
        all_goals
          go_meet
          refine ⟨⟨_, rfl, ?_⟩, rfl⟩
          have hk' : k = 1 ∨ k = 2 ∨ k = 3 ∨ k = 4 ∨ k = 5 ∨ k = 6 := by omega
          unfold Hid
          rcases hk' with rfl | rfl | rfl | rfl | rfl | rfl
          all_goals first | rfl | (exfalso; simp only [beq_iff_eq, beq_eq_false_iff_ne, ne_eq] at *; omega)
      case rest =>
        obtain ⟨⟨s, rfl, hs⟩, rfl⟩ := hcut
        have hl : s.size ≤ 19 := by have := setL_len k; rw [← hs.out, bl_length] at this; exact this
        go_wp2
        go_loop [5, 7] (fun b i => ∃ k : Nat, k ≤ s.size ∧ i = .int .i64 k ∧ b = .bool (ctl c || ((bl s).take k).any fun x => (x.toNat : Int) == c)) (fun _ i => s.size - (intOf i).toNat)
        case atStart => exact ⟨0, Nat.zero_le _, rfl, by simp⟩
        case round =>
          obtain ⟨j, hj, rfl, rfl⟩ := hrel
          by_cases hlt : j < s.size
          · have hT : Hid ((ctl c || ((bl s).take (j + 1)).any fun x => (x.toNat : Int) == c) = ((ctl c || ((bl s).take j).any fun x => (x.toNat : Int) == c) || ((s[j].toNat : Int) == c))) := by unfold Hid; rw [any_take s j hlt, Bool.or_assoc]
            generalize (ctl c || ((bl s).take j).any fun x => (x.toNat : Int) == c) = b at *
            cases b
            all_goals
              go_wp2
              refine ⟨⟨j + 1, by omega, by go_num, ?_⟩, by simp [intOf]; omega⟩
              rw [hT.out]
              first | rfl | (simp [eq_comm]; done) | (rw [Bool.false_or, BEq.comm])
          · obtain rfl : j = s.size := by omega
            have hT : Hid ((ctl c || ((bl s).take s.size).any fun x => (x.toNat : Int) == c) = inSet k c) := by rw [hv.out, ← hs.out, List.take_of_length_le (by rw [bl_length]; exact Nat.le_refl _)]; rfl
            go_wp2
            go_ret
            exact ⟨ret_bool hT.out, rfl⟩
  · have hv : Hid (inSet k c = false) := by simp [Hid, inSet, hk]
    have h1 : (k == 1) = false := by rw [beq_eq_false_iff_ne]; omega
    have h2 : (k == 2) = false := by rw [beq_eq_false_iff_ne]; omega
    have h3 : (k == 3) = false := by rw [beq_eq_false_iff_ne]; omega
    have h4 : (k == 4) = false := by rw [beq_eq_false_iff_ne]; omega
    have h5 : (k == 5) = false := by rw [beq_eq_false_iff_ne]; omega
    have h6 : (k == 6) = false := by rw [beq_eq_false_iff_ne]; omega
    clear hk
    by_cases hc : c < 32
    all_goals
      go_enter Tryz.func104, Tryz.ntmps104
      go_wp2
      go_ret
      exact ⟨ret_bool hv.out.symm, rfl⟩

def hexU (d : Nat) : UInt8 := if d < 10 then UInt8.ofNat (48 + d) else UInt8.ofNat (55 + d)
def esc (c : UInt8) : List UInt8 := [37, hexU (c.toNat / 16), hexU (c.toNat % 16)]
theorem hexU_piece : ∀ d : Fin 16, bl ((⟨#[48, 49, 50, 51, 52, 53, 54, 55, 56, 57, 65, 66, 67, 68, 69, 70]⟩ : ByteArray).extract d.val (d.val + 1)) = [hexU d.val] := by decide +kernel
set_option maxHeartbeats 1000000 in
set_option maxRecDepth 100000 in
theorem ref1_Escape (c : UInt8) (w : World) : Calls Tryz.prog 105 #[.int .u8 c.toNat] w fun e w' => (∃ t, e = .returned (.string t) ∧ Hid (bl t = esc c) ∧ t.size ≤ 3) ∧ ∃ n, w' = w.drewN n := by
  have hA := u8_and15 (x := (c.toNat : Int)) (by omega) (by have := c.toNat_lt; omega)
  have h1 : (c.toNat : Int) < 256 := by have := c.toNat_lt; omega
  have h2 : (c.toNat : Int) / 16 < 16 := by omega
  have h3 : 0 ≤ (c.toNat : Int) / 16 := by omega
  have h4 : 0 ≤ (c.toNat : Int) % 16 := by omega
  have h5 : (c.toNat : Int) % 16 < 16 := by omega
  go_enter Tryz.func105, Tryz.ntmps105
  go_wp2
  go_quiet (fail)
  go_wp2
  go_ret
  suffices h : bl _ = esc c from ⟨⟨_, rfl, h, by rw [← bl_length, h]; exact Nat.le_refl _⟩, _, rfl⟩
  unfold esc
  rw [bl_append, bl_append]
  have e1 := hexU_piece ⟨c.toNat / 16, by omega⟩
  have e2 := hexU_piece ⟨c.toNat % 16, by omega⟩
  dsimp only at e1 e2
  rw [e1, e2]
  rfl

def percent (k : Int) : List UInt8 → List UInt8
  | [] => []
  | x :: r => (if inSet k x.toNat then esc x else [x]) ++ percent k r
theorem percent_drop (s : ByteArray) (j : Nat) (h : j < s.size) (k : Int) : percent k ((bl s).drop j) = (if inSet k s[j].toNat then esc s[j] else [s[j]]) ++ percent k ((bl s).drop (j + 1)) := by rw [bl_drop s j h, percent]

/-- A text in parts, at each such byte. -/
def cutS (c : Int) : List UInt8 → List UInt8 → List (List UInt8)
  | acc, [] => [acc]
  | acc, x :: r => if (x.toNat : Int) = c then acc :: cutS c [] r else cutS c (acc ++ [x]) r
theorem cutS_len (c : Int) : ∀ (l acc : List UInt8), (cutS c acc l).length ≤ l.length + 1
  | [], _ => by simp [cutS]
  | x :: r, acc => by
    unfold cutS
    split
    · have := cutS_len c r []; simp; omega
    · have := cutS_len c r (acc ++ [x]); simp; omega
theorem ext_snoc (s : ByteArray) (f k : Nat) (hf : f ≤ k) (hk : k < s.size) : bl (s.extract f (k + 1)) = bl (s.extract f k) ++ [s[k]] := by
  rw [bl_extract, bl_extract, List.take_drop, List.take_drop, show f + (k + 1 - f) = k + 1 by omega, show f + (k - f) = k by omega, bl_take s k hk, List.drop_append_of_le_length (by rw [List.length_take, bl_length]; omega)]
theorem ext_nil (s : ByteArray) (f : Nat) : bl (s.extract f f) = [] := by rw [bl_extract, Nat.sub_self, List.take_zero]
set_option maxHeartbeats 1000000 in
set_option maxRecDepth 100000 in
theorem ref1_Cut (s : ByteArray) (c : Int) (w : World) (hs : s.size ≤ 1099511627776) :
    Calls Tryz.prog 120 #[.string s, .int .u8 c] w fun e w' => (∃ v, e = .returned v ∧ Hid (Own w' w.heap.size 9 v (strs (cutS c [] (bl s))))) ∧ Hid (Bel w w') := by
  go_enter Tryz.func120, Tryz.ntmps120
  go_wp2
  go_loopw [5, 6, 7] (fun v f i wr => ∃ (fn k : Nat) (xs : List (List UInt8)), i = .int .i64 k ∧ f = .int .i64 fn ∧ fn ≤ k ∧ k ≤ s.size + 1 ∧ Hid (xs.length ≤ k) ∧ Hid (k ≤ s.size → xs ++ cutS c (bl (s.extract fn k)) ((bl s).drop k) = cutS c [] (bl s)) ∧ Hid (s.size < k → xs = cutS c [] (bl s)) ∧ Hid (Own wr w.heap.size 9 v (strs xs)) ∧ Hid (Below w.heap.size w wr)) (fun _ _ i _ => s.size + 1 - (intOf i).toNat)
  case atStart => exact ⟨0, 0, [], rfl, rfl, by omega, by omega, Nat.zero_le _, fun _ => by rw [ext_nil]; rfl, fun h => by omega, Own.nil _ _ _, Below.refl _ _⟩
  case round =>
    obtain ⟨fn, k, xs, rfl, rfl, h1, h2, HL, HC, HE, HO, HB⟩ := hrel
    by_cases hk : k ≤ s.size
    · have hap : xs.length + 1 ≤ s.size + 1 := by have := HL.out; omega
      have hsz := HB.out.size
      by_cases hq : k = s.size
      · have hq' : ((k : Int) == (s.size : Int)) = true := by rw [beq_iff_eq]; omega
        have HF : Hid (xs ++ [bl (s.extract fn k)] = cutS c [] (bl s)) := by have := HC.out hk; rw [bl_drop_end s k (by omega)] at this; exact this
        clear HC HE
        have hq2 : Hid (k = s.size) := hq
        clear hq
        go_wp2_with (at_builtin; go_must (refine app_str (w0 := w) w.heap.size rfl _ _ (by exact rfl) _ xs (s.extract fn k) (by exact rfl) (by exact rfl) HO HB hsz (by omega) ?_); intro v1 w1 HO1 HB1 hs1)
        have hq := hq2.out
        exact ⟨⟨k + 1, k + 1, xs ++ [bl (s.extract fn k)], by go_num, by go_num, Nat.le_refl _, by omega, by unfold Hid; have := HL.out; simp; omega, fun h => by omega, fun _ => HF, HO1, HB1⟩, by simp [intOf]; omega⟩
      · have hlt : k < s.size := by omega
        have hq' : ((k : Int) == (s.size : Int)) = false := by rw [beq_eq_false_iff_ne]; omega
        by_cases he : (s[k].toNat : Int) = c
        · have he' : ((s[k].toNat : Int) == c) = true := by rw [beq_iff_eq]; exact he
          have HF : Hid ((xs ++ [bl (s.extract fn k)]) ++ cutS c [] ((bl s).drop (k + 1)) = cutS c [] (bl s)) := by
            have := HC.out hk; rw [bl_drop s k hlt, cutS, if_pos he] at this; unfold Hid; rw [← this]; simp
          clear HC HE he hq
          go_wp2_with (at_builtin; go_must (refine app_str (w0 := w) w.heap.size rfl _ _ (by exact rfl) _ xs (s.extract fn k) (by exact rfl) (by exact rfl) HO HB hsz (by omega) ?_); intro v1 w1 HO1 HB1 hs1)
          exact ⟨⟨k + 1, k + 1, xs ++ [bl (s.extract fn k)], by go_num, by go_num, Nat.le_refl _, by omega, by unfold Hid; have := HL.out; simp; omega, fun h => by rw [ext_nil]; exact HF, fun h => by omega, HO1, HB1⟩, by simp [intOf]; omega⟩
        · have he' : ((s[k].toNat : Int) == c) = false := by rw [beq_eq_false_iff_ne]; exact he
          have HF : Hid (xs ++ cutS c (bl (s.extract fn (k + 1))) ((bl s).drop (k + 1)) = cutS c [] (bl s)) := by
            have := HC.out hk; rw [bl_drop s k hlt, cutS, if_neg he] at this; unfold Hid; rw [← this, ext_snoc s fn k h1 hlt]
          clear HC HE he hq
          go_wp2
          exact ⟨⟨fn, k + 1, xs, by go_num, rfl, by omega, by omega, by unfold Hid; have := HL.out; omega, fun h => HF, fun h => by omega, HO, HB⟩, by simp [intOf]; omega⟩
    · have HX := HE.out (by omega)
      subst HX
      clear HE HC HL
      go_wp2
      go_ret
      exact ⟨⟨_, rfl, HO⟩, HB⟩

/-- A number read, at most 2^63 - 1 (what is more is that). -/
def intN (n : Int) (x : UInt8) : Int := if (9223372036854775807 - ((x.toNat : Int) - 48)) / 10 < n then 9223372036854775807 else n * 10 + ((x.toNat : Int) - 48)
def intF (n : Int) : List UInt8 → Option Int
  | [] => some n
  | x :: r => if isDigit x.toNat then intF (intN n x) r else none
def intS (l : List UInt8) : Int × Bool := match intF 0 l with | some n => (n, decide (0 < l.length)) | none => (0, false)
theorem intF_drop (s : ByteArray) (k : Nat) (h : k < s.size) (m : Int) : intF m ((bl s).drop k) = if isDigit s[k].toNat then intF (intN m s[k]) ((bl s).drop (k + 1)) else none := by rw [bl_drop s k h, intF]
set_option maxHeartbeats 1000000 in
set_option maxRecDepth 100000 in
theorem ref1_Int (s : ByteArray) (w : World) (hs : s.size ≤ 1099511627776) :
    Calls Tryz.prog 129 #[.string s] w fun e w' => e = .returned (.tuple #[.int .i64 (intS (bl s)).1, .bool (intS (bl s)).2]) ∧ w = w' := by
  go_enter Tryz.func129, Tryz.ntmps129
  go_wp2
  go_loop [4, 5] (fun n i => ∃ (k : Nat) (m : Int), k ≤ s.size ∧ i = .int .i64 k ∧ n = .int .i64 m ∧ 0 ≤ m ∧ m ≤ 9223372036854775807 ∧ Hid (intF m ((bl s).drop k) = intF 0 (bl s))) (fun _ i => s.size - (intOf i).toNat)
  case atStart => exact ⟨0, 0, Nat.zero_le _, rfl, rfl, by omega, by omega, rfl⟩
  case round =>
    obtain ⟨k, m, hk, rfl, rfl, h0, h1, HI⟩ := hrel
    by_cases hlt : k < s.size
    · have HF := Lib.hid (HI.out.symm.trans (intF_drop s k hlt m))
      clear HI
      by_cases hd : isDigit s[k].toNat = true
      · have hd1 : 48 ≤ (s[k].toNat : Int) := by have := hd; simp [isDigit] at this; omega
        have hd2 : (s[k].toNat : Int) ≤ 57 := by have := hd; simp [isDigit] at this; omega
        replace HF := Lib.hid (HF.out.trans (if_pos hd))
        by_cases hb : (9223372036854775807 - ((s[k].toNat : Int) - 48)) / 10 < m
        · have hn : intN m s[k] = 9223372036854775807 := if_pos hb
          rw [hn] at HF
          clear hn
          go_wp2_with (go_at_call 70; refine (ref1_Digit _ _).mono ?_; rintro e w' ⟨rfl, rfl⟩)
          exact ⟨⟨k + 1, 9223372036854775807, by omega, by go_num, rfl, by omega, by omega, HF.out.symm⟩, by simp [intOf]; omega⟩
        · have hn : intN m s[k] = m * 10 + ((s[k].toNat : Int) - 48) := if_neg hb
          rw [hn] at HF
          clear hn
          go_wp2_with (go_at_call 70; refine (ref1_Digit _ _).mono ?_; rintro e w' ⟨rfl, rfl⟩)
          exact ⟨⟨k + 1, _, by omega, by go_num, rfl, by omega, by omega, HF.out.symm⟩, by simp [intOf]; omega⟩
      · have hd' : isDigit s[k].toNat = false := by simpa using hd
        clear hd
        have HX : Hid (intS (bl s) = (0, false)) := by unfold Hid intS; rw [HF.out, hd']; rfl
        clear HF
        go_wp2_with (go_at_call 70; refine (ref1_Digit _ _).mono ?_; rintro e w' ⟨rfl, rfl⟩)
        go_ret2
        exact ⟨by rw [HX.out]; rfl, rfl⟩
    · have HX : Hid (intS (bl s) = (m, decide (0 < s.size))) := by
        have := HI.out
        rw [bl_drop_end s k (by omega), intF] at this
        unfold Hid intS; rw [← this, bl_length]
      clear HI
      go_wp2
      go_ret2
      exact ⟨by rw [HX.out]; simp, rfl⟩


theorem dig_piece10 : ∀ d : Fin 10, bl ((⟨#[48, 49, 50, 51, 52, 53, 54, 55, 56, 57]⟩ : ByteArray).extract d.val (d.val + 1)) = [dgc d.val] := by decide +kernel
theorem str_empty (t : ByteArray) : t.toList.isEmpty = true ↔ bl t = [] := by rw [toList_bl, List.isEmpty_iff]
set_option maxHeartbeats 1000000 in
set_option maxRecDepth 100000 in
theorem ref1_Numeral (n : Nat) (w : World) (hn : n ≤ 9223372036854775807) :
    Calls Tryz.prog 89 #[.int .i64 n] w fun e w' => (∃ t, e = .returned (.string t) ∧ Hid (bl t = digs 10 n)) ∧ w = w' := by
  have h1 : ((n : Int) == -9223372036854775808) = false := by rw [beq_eq_false_iff_ne]; omega
  go_enter Tryz.func89, Tryz.ntmps89
  go_wp2
  go_loop [0, 3] (fun i t => ∃ (k : Nat) (s : ByteArray), i = .int .i64 k ∧ t = .string s ∧ k ≤ n ∧ Hid (DigInv 10 n k (bl s))) (fun i t => match t with | .string s => (intOf i).toNat + (if (bl s).isEmpty then 1 else 0) | _ => 0)
  case atStart => exact ⟨n, ⟨#[]⟩, rfl, rfl, Nat.le_refl _, DigInv.start 10 n⟩
  case round =>
    obtain ⟨k, s, rfl, rfl, hk, HI⟩ := hrel
    have hsz : s.size ≤ 30 := by have h1 := HI.out.len (by omega); have h2 := digs_len 10 (by omega) 19 n (by omega) (by omega); rw [bl_length] at h1; omega
    by_cases hz : k = 0
    · subst hz
      by_cases he : bl s = []
      · have HS := Lib.hid (HI.out.step (by omega) (.inr he))
        have he' : s.toList.isEmpty = true := (str_empty s).2 he
        clear HI he
        go_wp2
        refine ⟨⟨0, _, rfl, rfl, by omega, ?_⟩, ?_⟩
        · unfold Hid; rw [bl_append]; exact HS.out
        · have h1 : bl s = [] := (str_empty s).1 he'
          have h2 : (bl ((⟨#[48, 49, 50, 51, 52, 53, 54, 55, 56, 57]⟩ : ByteArray).extract 0 1 ++ s)).isEmpty = false := by rw [bl_append]; rfl
          simp only [intOf, h2, h1]
          simp
      · have HS := Lib.hid (HI.out.done (by simp [he]))
        have he' : s.toList.isEmpty = false := by rw [Bool.eq_false_iff, ne_eq, str_empty]; exact he
        clear HI he
        go_wp2
        go_ret
        exact ⟨⟨_, rfl, HS⟩, rfl⟩
    · have HS := Lib.hid (HI.out.step (by omega) (.inl (by omega)))
      clear HI
      go_wp2
      refine ⟨⟨k / 10, _, by go_num, rfl, by omega, ?_⟩, ?_⟩
      · unfold Hid; rw [bl_append]; have := dig_piece10 ⟨k % 10, by omega⟩; dsimp only at this; rw [this]; exact HS.out
      · have h2 : (bl ((⟨#[48, 49, 50, 51, 52, 53, 54, 55, 56, 57]⟩ : ByteArray).extract (k % 10) (k % 10 + 1) ++ s)).isEmpty = false := by
          rw [bl_append]; have := dig_piece10 ⟨k % 10, by omega⟩; dsimp only at this; rw [this]; rfl
        simp only [intOf, h2]
        simp
        split <;> omega

set_option maxHeartbeats 1000000 in
set_option maxRecDepth 100000 in
theorem ref1_Percent (s : ByteArray) (k : Int) (w : World) (hs : s.size ≤ 1099511627776) :
    Calls Tryz.prog 67 #[.string s, .int .i64 k] w fun e w' => (∃ t, e = .returned (.string t) ∧ Hid (bl t = percent k (bl s))) ∧ ∃ n, w' = w.drewN n := by
  go_enter Tryz.func67, Tryz.ntmps67
  go_wp2
  go_loopw [5, 6] (fun t i wr => ∃ (j : Nat) (u : ByteArray), i = .int .i64 j ∧ t = .string u ∧ j ≤ s.size ∧ Hid (u.size ≤ 3 * j) ∧ Hid (bl u ++ percent k ((bl s).drop j) = percent k (bl s)) ∧ ∃ n, wr = w.drewN n) (fun _ i _ => s.size - (intOf i).toNat)
  case atStart => exact ⟨0, ByteArray.empty, rfl, rfl, Nat.zero_le _, Nat.zero_le _, rfl, 0, rfl⟩
  case round =>
    obtain ⟨j, u, rfl, rfl, hj, HL, HI, n0, rfl⟩ := hrel
    by_cases hlt : j < s.size
    · have HF := Lib.hid (HI.out.symm.trans (congrArg (bl u ++ ·) (percent_drop s j hlt k)))
      clear HI
      have hu : u.size ≤ 3298534883328 := by have := HL.out; omega
      by_cases hi : inSet k s[j].toNat = true
      · rw [if_pos hi] at HF
        go_wp2_with (first | (go_at_call 104; refine (ref1_In _ _ _).mono ?_; rintro e w' ⟨rfl, rfl⟩) | (go_at_call 105; refine (ref1_Escape _ _).mono ?_; rintro e w' ⟨⟨t, rfl, ht, hl⟩, n1, rfl⟩))
        exact ⟨⟨j + 1, _, by go_num, rfl, by omega, by unfold Hid; rw [ByteArray.size_append]; have := HL.out; omega, by unfold Hid; rw [bl_append, ht.out, HF.out, List.append_assoc], _, rfl⟩, by simp [intOf]; omega⟩
      · rw [if_neg hi] at HF
        have hi' : inSet k s[j].toNat = false := by simpa using hi
        clear hi
        go_wp2_with (first | (go_at_call 104; refine (ref1_In _ _ _).mono ?_; rintro e w' ⟨rfl, rfl⟩))
        have hx := ext_snoc s j j (Nat.le_refl _) hlt
        rw [ext_nil, List.nil_append] at hx
        have hl : (s.extract j (j + 1)).size = 1 := by rw [← bl_length, hx]; rfl
        exact ⟨⟨j + 1, _, by go_num, rfl, by omega, by unfold Hid; rw [ByteArray.size_append, hl]; have := HL.out; omega, by unfold Hid; rw [bl_append, hx, HF.out, List.append_assoc], _, rfl⟩, by simp [intOf]; omega⟩
    · have HX : Hid (bl u = percent k (bl s)) := by have := HI.out; rw [bl_drop_end s j (by omega)] at this; unfold Hid; simpa [percent] using this
      clear HI
      go_wp2
      go_ret
      exact ⟨⟨_, rfl, HX⟩, n0, rfl⟩


theorem list_set_same {α : Type} {l : List α} {k : Nat} {x : α} (h : l[k]? = some x) : l.set k x = l := by
  refine List.ext_getElem? fun j => ?_
  rw [List.getElem?_set]
  split
  · rename_i e; subst e; rw [h]; rw [if_pos (List.getElem?_eq_some_iff.1 h).1]
  · rfl
set_option maxHeartbeats 1000000 in
set_option maxRecDepth 100000 in
theorem ref1_Lower (s : ByteArray) (w : World) (hs : s.size ≤ 1099511627776) :
    Calls Tryz.prog 68 #[.string s] w fun e w' => (∃ t, e = .returned (.string t) ∧ Hid (bl t = lower (bl s))) ∧ Hid (Bel w w') := by
  have kb := fun W => Lib.run_convert_string_bytes W 9 43 5 s Tryz.underlying9 Tryz.underlying43 Tryz.underlying5
  go_enter Tryz.func68, Tryz.ntmps68
  go_wp2
  have hb := bel_bytes w 5 s
  have hr := RowAt.bytes w 5 s
  go_loopw [4] (fun i wr => ∃ (k : Nat), i = .int .i64 k ∧ k ≤ s.size ∧ Hid (RowAt wr w.heap.size ((lower ((bl s).take k) ++ (bl s).drop k).map u8v)) ∧ Hid (Bel w wr)) (fun i _ => s.size - (intOf i).toNat)
  case atStart => exact ⟨0, rfl, Nat.zero_le _, hr, hb⟩
  case round =>
    obtain ⟨k, rfl, hk, HR, HB⟩ := hrel
    clear hr hb
    by_cases hlt : k < s.size
    · have hg : ((lower ((bl s).take k) ++ (bl s).drop k).map u8v)[k]? = some (.int .u8 s[k].toNat) := by
        rw [List.getElem?_map, List.getElem?_append_right (by simp [lower]; omega), lower, List.length_map, List.length_take, bl_length, Nat.min_eq_left hk, Nat.sub_self, bl_drop s k hlt]; rfl
      have hc := (HR.out.2 k _ hg).1
      have hf := (HR.out.2 k _ hg).2
      have hS : ∀ v : UInt8, low s[k] = v → ((lower ((bl s).take k) ++ (bl s).drop k).map u8v).set k (u8v v) = (lower ((bl s).take (k + 1)) ++ (bl s).drop (k + 1)).map u8v := by
        intro v hv
        rw [← List.map_set, List.set_append_right _ _ (by simp [lower]; omega)]
        simp only [lower, List.length_map, List.length_take, bl_length, Nat.min_eq_left hk, Nat.sub_self]
        rw [bl_drop s k hlt, List.set_cons_zero, bl_take s k hlt]
        simp [hv]
      have HS := Lib.hid hS
      have hg' := Lib.hid hg
      clear hg hS
      by_cases hu : 65 ≤ (s[k].toNat : Int) ∧ (s[k].toNat : Int) ≤ 90
      · have hlow : ((low s[k]).toNat : Int) = (s[k].toNat : Int) + 32 := by rw [low_toNat, if_pos (by omega)]; omega
        have hlow := Lib.hid hlow
        obtain ⟨hu1, hu2⟩ := hu
        go_wp2
        refine ⟨⟨k + 1, by go_num, by omega, ?_, HB.out.setCell (Nat.le_refl _) _⟩, by simp [intOf]; omega⟩
        have := HR.out.set k (u8v (low s[k]))
        rw [HS.out _ rfl, u8v, hlow.out] at this
        exact this
      · have hlow : low s[k] = s[k] := by unfold low; rw [if_neg (by omega)]
        have hR2 : Hid (RowAt wr w.heap.size ((lower ((bl s).take (k + 1)) ++ (bl s).drop (k + 1)).map u8v)) := by
          unfold Hid
          rw [← HS.out s[k] hlow, show u8v s[k] = .int .u8 s[k].toNat from rfl, list_set_same hg'.out]
          exact HR
        clear hlow
        by_cases hu1 : 65 ≤ (s[k].toNat : Int)
        all_goals
          go_wp2
          exact ⟨⟨k + 1, by go_num, by omega, hR2, HB⟩, by simp [intOf]; omega⟩
    · obtain rfl : k = s.size := by omega
      have hcv : ∀ c, (convert 43 9 (.slice (some ⟨w.heap.size, 0, none⟩) s.size c)).run Tryz.prog wr = .ok (.string ⟨(lower (bl s)).toArray⟩) wr := fun c => by
        have := HR.out
        rw [List.take_of_length_le (by rw [bl_length]; exact Nat.le_refl _), List.drop_eq_nil_of_le (by rw [bl_length]; exact Nat.le_refl _), List.append_nil] at this
        exact row_string Tryz.underlying43 Tryz.underlying5 Tryz.underlying9 this _ (by simp [lower, bl_length])
      go_wp2
      go_ret
      exact ⟨⟨_, rfl, by unfold Hid; rw [bl_mk]⟩, HB⟩


/-- Percent signs as bytes. -/
def unpercent : List UInt8 → List UInt8
  | 37 :: a :: b :: r => if 0 ≤ hexV a.toNat ∧ 0 ≤ hexV b.toNat then UInt8.ofNat (16 * (hexV a.toNat).toNat + (hexV b.toNat).toNat) :: unpercent r else 37 :: unpercent (a :: b :: r)
  | x :: r => x :: unpercent r
  | [] => []
theorem unp_other {x : UInt8} {r : List UInt8} (h : x ≠ 37) : unpercent (x :: r) = x :: unpercent r := by
  rw [unpercent.eq_def]
  split
  · rename_i e; simp at e; exact absurd e.1 h
  · rename_i e; simp at e; rw [e.1, e.2]
  · rename_i e; simp at e
theorem unp_short {x : UInt8} {r : List UInt8} (h : r.length < 2) : unpercent (x :: r) = x :: unpercent r := by
  rw [unpercent.eq_def]
  split
  · rename_i e; simp at e; obtain ⟨_, rfl⟩ := e; simp at h; omega
  · rename_i e; simp at e; rw [e.1, e.2]
  · rename_i e; simp at e
theorem unp_no {a b : UInt8} {r : List UInt8} (h : ¬ (0 ≤ hexV a.toNat ∧ 0 ≤ hexV b.toNat)) : unpercent (37 :: a :: b :: r) = 37 :: unpercent (a :: b :: r) := by
  rw [unpercent.eq_def]; simp only []; rw [if_neg h]
theorem unp_yes {a b : UInt8} {r : List UInt8} (h : 0 ≤ hexV a.toNat ∧ 0 ≤ hexV b.toNat) : unpercent (37 :: a :: b :: r) = UInt8.ofNat (16 * (hexV a.toNat).toNat + (hexV b.toNat).toNat) :: unpercent r := by
  rw [unpercent.eq_def]; simp only []; rw [if_pos h]
set_option maxHeartbeats 1000000 in
set_option maxRecDepth 100000 in
theorem ref1_Unpercent (s : ByteArray) (w : World) (hs : s.size ≤ 1099511627776) :
    Calls Tryz.prog 153 #[.string s] w fun e w' => (∃ t, e = .returned (.string t) ∧ Hid (bl t = unpercent (bl s)) ∧ t.size ≤ s.size) ∧ Hid (Bel w w') := by
  go_enter Tryz.func153, Tryz.ntmps153
  go_wp2
  go_loopw [3, 4] (fun v i wr => ∃ (k : Nat) (xs : List UInt8), i = .int .i64 k ∧ k ≤ s.size ∧ Hid (xs.length ≤ k) ∧ Hid (xs ++ unpercent ((bl s).drop k) = unpercent (bl s)) ∧ Hid (Own wr w.heap.size 5 v (xs.map u8v)) ∧ Hid (Below w.heap.size w wr)) (fun _ i _ => s.size - (intOf i).toNat)
  case atStart => exact ⟨0, [], rfl, Nat.zero_le _, Nat.le_refl _, rfl, Own.nil _ _ _, Below.refl _ _⟩
  case round =>
    obtain ⟨k, xs, rfl, hk, HL, HC, HO, HB⟩ := hrel
    have hap : xs.length ≤ s.size := by have := HL.out; omega
    have hsz := HB.out.size
    by_cases hlt : k < s.size
    · by_cases hp : s[k] = 37
      · have hp1 : ((s[k].toNat : Int) == 37) = true := by rw [hp]; rfl
        by_cases h2 : k + 2 < s.size
        · have hd := HC.out
          rw [bl_drop s k hlt, bl_drop s (k + 1) (by omega), bl_drop s (k + 2) h2, hp] at hd
          have a0 := hexV_range s[k + 1].toNat
          have b0 := hexV_range s[k + 2].toNat
          have c1 : (s[k + 1].toNat : Int) ≤ 255 := by have := s[k + 1].toNat_lt; omega
          have c2 : (s[k + 2].toNat : Int) ≤ 255 := by have := s[k + 2].toNat_lt; omega
          have hp0 : Hid (s[k] = 37 ∧ s[k + 1] :: s[k + 2] :: (bl s).drop (k + 2 + 1) = (bl s).drop (k + 1)) := ⟨hp, by rw [bl_drop s (k + 1) (by omega), bl_drop s (k + 2) h2]⟩
          clear hp HC
          by_cases ha : 0 ≤ hexV s[k + 1].toNat
          · by_cases hb : 0 ≤ hexV s[k + 2].toNat
            · rw [unp_yes ⟨ha, hb⟩] at hd
              have HD := Lib.hid hd
              clear hd
              go_wp2_with (go_at_call 181; go_must (refine (ref1_Hex _ _ (by omega) (by omega)).mono ?_); rintro e w' ⟨rfl, rfl⟩)
              have w1 : IntKind.i64.wrap ((k : Int) + 1) = (k : Int) + 1 := IntWalk.i64_in _ (by omega)
              have w2 : IntKind.i64.wrap ((k : Int) + 2) = (k : Int) + 2 := IntWalk.i64_in _ (by omega)
              have w3 : IntKind.i64.wrap (16 * hexV s[k + 1].toNat) = 16 * hexV s[k + 1].toNat := IntWalk.i64_in _ (by omega)
              have w4 : IntKind.i64.wrap (16 * hexV s[k + 1].toNat + hexV s[k + 2].toNat) = 16 * hexV s[k + 1].toNat + hexV s[k + 2].toNat := IntWalk.i64_in _ (by omega)
              have w5 : IntKind.u8.wrap (16 * hexV s[k + 1].toNat + hexV s[k + 2].toNat) = 16 * hexV s[k + 1].toNat + hexV s[k + 2].toNat := by rw [IntKind.wrap_u8]; omega
              have p1 : 0 ≤ (k : Int) + 1 := by omega
              have p2 : (k : Int) + 1 < s.size := by omega
              have p3 : ((k : Int) + 1).toNat = k + 1 := by omega
              have p4 : 0 ≤ (k : Int) + 2 := by omega
              have p5 : (k : Int) + 2 < s.size := by omega
              have p6 : ((k : Int) + 2).toNat = k + 2 := by omega
              have hy : Hid (16 * hexV s[k + 1].toNat + hexV s[k + 2].toNat = ((UInt8.ofNat (16 * (hexV s[k + 1].toNat).toNat + (hexV s[k + 2].toNat).toNat)).toNat : Int)) := by unfold Hid; rw [UInt8.toNat_ofNat']; omega
              generalize UInt8.ofNat (16 * (hexV s[k + 1].toNat).toNat + (hexV s[k + 2].toNat).toNat) = y at hy HD
              have hb0 : 0 ≤ 16 * hexV s[k + 1].toNat + hexV s[k + 2].toNat := by omega
              have hb1 : 16 * hexV s[k + 1].toNat + hexV s[k + 2].toNat ≤ 255 := by omega
              go_region_held3 (fun w' => True) (trivial)
                (first | ((go_at_call 181; go_must (refine (ref1_Hex _ _ (by omega) (by omega)).mono ?_); rintro e w' ⟨rfl, rfl⟩)) | ((refine app_u8_r (w0 := w) w.heap.size rfl _ _ (by exact rfl) _ xs y _ hy.out (by exact rfl) (by exact rfl) HO HB hsz (by omega) ?_; intro v1 w1 HO1 HB1 hs1)))
              all_goals
                go_wp2
                exact ⟨⟨k + 3, xs ++ [y], by go_num, by omega, by unfold Hid; have := HL.out; simp; omega, by unfold Hid; rw [← HD.out]; simp, HO1, HB1⟩, by simp [intOf]; omega⟩
            · rw [unp_no (by omega)] at hd
              have HD := Lib.hid hd
              clear hd
              go_wp2_with (first | (go_at_call 181; go_must (refine (ref1_Hex _ _ (by omega) (by omega)).mono ?_); rintro e w' ⟨rfl, rfl⟩) | (at_builtin; go_must (refine app_u8 (w0 := w) w.heap.size rfl _ _ (by exact rfl) _ xs s[k] _ rfl (by exact rfl) (by exact rfl) HO HB hsz (by omega) ?_); intro v1 w1 HO1 HB1 hs1))
              exact ⟨⟨k + 1, xs ++ [s[k]], by go_num, by omega, by unfold Hid; have := HL.out; simp; omega, by unfold Hid; rw [← HD.out, hp0.out.1, hp0.out.2]; simp, HO1, HB1⟩, by simp [intOf]; omega⟩
          · rw [unp_no (by omega)] at hd
            have HD := Lib.hid hd
            clear hd
            go_wp2_with (first | (go_at_call 181; go_must (refine (ref1_Hex _ _ (by omega) (by omega)).mono ?_); rintro e w' ⟨rfl, rfl⟩) | (at_builtin; go_must (refine app_u8 (w0 := w) w.heap.size rfl _ _ (by exact rfl) _ xs s[k] _ rfl (by exact rfl) (by exact rfl) HO HB hsz (by omega) ?_); intro v1 w1 HO1 HB1 hs1))
            exact ⟨⟨k + 1, xs ++ [s[k]], by go_num, by omega, by unfold Hid; have := HL.out; simp; omega, by unfold Hid; rw [← HD.out, hp0.out.1, hp0.out.2]; simp, HO1, HB1⟩, by simp [intOf]; omega⟩
        · have HD : Hid (xs ++ s[k] :: unpercent ((bl s).drop (k + 1)) = unpercent (bl s)) := by
            have := HC.out; rw [bl_drop s k hlt, unp_short (by rw [List.length_drop, bl_length]; omega)] at this; exact this
          clear HC hp
          have h2' : ¬ ((k : Int) + 2 < s.size) := by omega
          go_wp2_with (first | (at_builtin; go_must (refine app_u8 (w0 := w) w.heap.size rfl _ _ (by exact rfl) _ xs s[k] _ rfl (by exact rfl) (by exact rfl) HO HB hsz (by omega) ?_); intro v1 w1 HO1 HB1 hs1))
          exact ⟨⟨k + 1, xs ++ [s[k]], by go_num, by omega, by unfold Hid; have := HL.out; simp; omega, by unfold Hid; rw [← HD.out]; simp, HO1, HB1⟩, by simp [intOf]; omega⟩
      · have hp1 : ((s[k].toNat : Int) == 37) = false := by
          rw [beq_eq_false_iff_ne]; intro h; exact hp ((u8_eq s[k] 37 (by omega)).1 h)
        have HD : Hid (xs ++ s[k] :: unpercent ((bl s).drop (k + 1)) = unpercent (bl s)) := by
          have := HC.out; rw [bl_drop s k hlt, unp_other hp] at this; exact this
        clear HC hp
        go_wp2_with (first | (at_builtin; go_must (refine app_u8 (w0 := w) w.heap.size rfl _ _ (by exact rfl) _ xs s[k] _ rfl (by exact rfl) (by exact rfl) HO HB hsz (by omega) ?_); intro v1 w1 HO1 HB1 hs1))
        exact ⟨⟨k + 1, xs ++ [s[k]], by go_num, by omega, by unfold Hid; have := HL.out; simp; omega, by unfold Hid; rw [← HD.out]; simp, HO1, HB1⟩, by simp [intOf]; omega⟩
    · obtain rfl : k = s.size := by omega
      have HX : Hid (xs = unpercent (bl s)) := by have := HC.out; rw [bl_drop_end s s.size (Nat.le_refl _)] at this; unfold Hid; simpa [unpercent] using this
      have hcv := own_str (src := 43) (dst := 9) Tryz.underlying43 Tryz.underlying5 Tryz.underlying9 HO.out
      clear HC
      go_wp2
      go_ret
      exact ⟨⟨_, rfl, by unfold Hid; rw [bl_mk]; exact HX, by rw [← bl_length, bl_mk]; exact hap⟩, HB⟩

end Go.Proofs.YtbpkkgaaeodimaaGreatDoor
