import Derived.Test.YtpgehhnmlihnbaaGreatDoorXHost3
import Derived.Laws.Bits64
namespace Go.Proofs.YtpgehhnmlihnbaaGreatDoor
open Go.RowKit

/-- The value that digits spell by a base. -/
def valF (b : Nat) (acc : Nat) : List UInt8 → Nat
  | [] => acc
  | x :: r => valF b (acc * b + (hexV x.toNat).toNat) r
def valS (b : Nat) (l : List UInt8) : Nat := valF b 0 l
def okDig (b : Nat) (x : UInt8) : Bool := decide (0 ≤ hexV x.toNat ∧ hexV x.toNat < b)
theorem valF_ge (b : Nat) (hb : 1 ≤ b) : ∀ (l : List UInt8) (acc : Nat), acc ≤ valF b acc l
  | [], _ => Nat.le_refl _
  | x :: r, acc => by
    unfold valF
    have := valF_ge b hb r (acc * b + (hexV x.toNat).toNat)
    have h2 : acc ≤ acc * b := Nat.le_mul_of_pos_right _ hb
    omega
theorem lowB (x : UInt8) : (isHex x && !decide (48 ≤ x.toNat ∧ x.toNat ≤ 57)) = true → Go.bits .or .u8 x.toNat 32 = hexV x.toNat + 87 := by
  have := u8_all (p := fun x => !(isHex x && !decide (48 ≤ x.toNat ∧ x.toNat ≤ 57)) || decide (Go.bits .or .u8 x.toNat 32 = hexV x.toNat + 87)) (q := fun _ => true) (by decide +kernel) x
  intro h
  simp only [h] at this
  simpa using this
theorem hexV_dec (x : UInt8) (h : 48 ≤ (x.toNat : Int)) (h2 : (x.toNat : Int) ≤ 57) : hexV x.toNat = x.toNat - 48 := by unfold hexV; rw [if_pos ⟨h, h2⟩]
def capF (bits : Nat) (n : Nat) : Nat := if n < 2 ^ bits then n else 2 ^ bits - 1
/-- What the loop goes by: base, cutoff, the greatest. -/
structure ParseBy (b bits : Nat) (B C M : Int) : Prop where
  hB : B = b
  lo : 2 ≤ b
  hi : b ≤ 16
  hM : M = (2 ^ bits - 1 : Nat)
  m64 : 2 ^ bits ≤ 18446744073709551616
  cut : ∀ n : Nat, C ≤ n → 18446744073709551616 ≤ n * b
  low : ∀ n : Nat, (n : Int) < C → n * b < 18446744073709551616
theorem u64_of (n : Nat) (h : n < 18446744073709551616) : IntKind.u64.wrap (n : Int) = n := by rw [IntKind.wrap_u64]; omega
theorem u64_over (n : Nat) (h : 18446744073709551616 ≤ n) (h2 : n < 2 * 18446744073709551616) : IntKind.u64.wrap (n : Int) = (n : Int) - 18446744073709551616 := by rw [IntKind.wrap_u64]; omega
theorem cap_over {bits n : Nat} (h : 2 ^ bits ≤ n) : capF bits n = 2 ^ bits - 1 := by unfold capF; rw [if_neg (by omega)]
theorem cap_in {bits n : Nat} (h : n < 2 ^ bits) : capF bits n = n := by unfold capF; rw [if_pos h]
theorem valF_over (b : Nat) (hb : 1 ≤ b) (x : UInt8) (r : List UInt8) (n T : Nat) (h : T ≤ n * b) : T ≤ valF b n (x :: r) := by
  unfold valF
  have := valF_ge b hb r (n * b + (hexV x.toNat).toNat)
  omega
def PuEnd (b bits : Nat) (l : List UInt8) (v : Value) : Prop := v = .tuple #[.int .u64 (capF bits (valS b l) : Nat), if valS b l < 2 ^ bits then .nilIface else .iface 123 (.int .i64 1)]
theorem pu_over {b bits : Nat} {l : List UInt8} {M : Int} (hM : M = (2 ^ bits - 1 : Nat)) (h : 2 ^ bits ≤ valS b l) : PuEnd b bits l (Value.tuple #[.int .u64 M, .iface 123 (.int .i64 1)]) := by
  subst hM; unfold PuEnd; rw [cap_over h, if_neg (by omega)]
theorem pu_in {b bits : Nat} {l : List UInt8} (n : Nat) (e : n = valS b l) (h : n < 2 ^ bits) : PuEnd b bits l (Value.tuple #[.int .u64 (n : Int), .nilIface]) := by
  subst e; unfold PuEnd; rw [cap_in h, if_pos h]
theorem sum_cases {m d : Nat} (h : m < 18446744073709551616) (hd : d ≤ 15) : (IntKind.u64.wrap ((m : Int) + d) = ((m + d : Nat) : Int) ∧ m + d < 18446744073709551616) ∨ (IntKind.u64.wrap ((m : Int) + d) = (m : Int) + d - 18446744073709551616 ∧ 18446744073709551616 ≤ m + d) := by
  rw [IntKind.wrap_u64]; omega
theorem sum_over {bits m d : Nat} {M : Int} (hM : M = (2 ^ bits - 1 : Nat)) (h64 : 2 ^ bits ≤ 18446744073709551616) (h : m < 18446744073709551616) (hd : d ≤ 15) (hw : IntKind.u64.wrap ((m : Int) + d) < m ∨ M < IntKind.u64.wrap ((m : Int) + d)) : 2 ^ bits ≤ m + d := by
  rcases sum_cases h hd with ⟨e, h2⟩ | ⟨e, h2⟩
  · rw [e, hM] at hw; omega
  · omega
theorem sum_in {bits m d : Nat} {M : Int} (_hM : M = (2 ^ bits - 1 : Nat)) (_h64 : 2 ^ bits ≤ 18446744073709551616) (h : m < 18446744073709551616) (hd : d ≤ 15) (hw : (m : Int) ≤ IntKind.u64.wrap ((m : Int) + d)) (_hm : IntKind.u64.wrap ((m : Int) + d) ≤ M) : IntKind.u64.wrap ((m : Int) + d) = ((m + d : Nat) : Int) := by
  rcases sum_cases h hd with ⟨e, h2⟩ | ⟨e, h2⟩
  · exact e
  · omega
theorem sum_le {bits m d : Nat} {M : Int} (hM : M = (2 ^ bits - 1 : Nat)) (h64 : 2 ^ bits ≤ 18446744073709551616) (h : m < 18446744073709551616) (hd : d ≤ 15) (hw : (m : Int) ≤ IntKind.u64.wrap ((m : Int) + d)) (hm : IntKind.u64.wrap ((m : Int) + d) ≤ M) : ((m + d : Nat) : Int) ≤ M := by
  rw [sum_in hM h64 h hd hw hm] at hm; exact hm
def CutBy (b : Nat) (C : Int) : Prop := (b = 8 ∧ C = 2305843009213693952) ∨ (b = 10 ∧ C = 1844674407370955162) ∨ (b = 16 ∧ C = 1152921504606846976)
theorem parse_by {b bits b' bits' : Nat} {B C M : Int} (hbb : (b = 8 ∧ bits = 64) ∨ (b = 10 ∧ bits = 64) ∨ (b = 16 ∧ bits = 64) ∨ (b = 16 ∧ bits = 16)) (HC : CutBy b C)
    (Hb : b' = b) (Hk : bits' = bits) (hB : B = b) (hM : M = IntKind.u64.wrap (IntKind.u64.wrap (2 ^ bits) - 1)) : ParseBy b' bits' B C M := by
  subst Hb Hk hB hM
  unfold CutBy at HC
  rcases hbb with ⟨rfl, rfl⟩ | ⟨rfl, rfl⟩ | ⟨rfl, rfl⟩ | ⟨rfl, rfl⟩
  all_goals exact ⟨rfl, by omega, by omega, by decide +kernel, by decide +kernel, fun n h => by omega, fun n h => by omega⟩
set_option maxHeartbeats 8000000 in
set_option maxRecDepth 100000 in
theorem lib_ParseUint1 (s : ByteArray) (b bits b' bits' : Nat) (Hb : Hid (b' = b)) (Hk : Hid (bits' = bits)) (w : World) (hs : s.size ≤ 1000000) (h0 : bl s ≠ []) (hbb : (b = 8 ∧ bits = 64) ∨ (b = 10 ∧ bits = 64) ∨ (b = 16 ∧ bits = 64) ∨ (b = 16 ∧ bits = 16)) (hall : Hid ((bl s).all (okDig b') = true)) :
    Calls Tryz.prog 84 #[.string s, .int .i64 b, .int .i64 bits] w fun e w' => (∃ v, e = .returned v ∧ PuEnd b' bits' (bl s) v) ∧ Hid (Bel w w') := by
  have hemp : s.toList.isEmpty = false := by rw [Bool.eq_false_iff, ne_eq, str_empty]; exact h0
  have kb := fun W => Lib.run_convert_string_bytes W 9 53 5 s Tryz.underlying9 Tryz.underlying53 Tryz.underlying5
  have hbel := bel_bytes w 5 s
  have hrow := RowAt.bytes w 5 s
  have hb1 := Lib.hid hbel
  have hr1 := Lib.hid hrow
  clear h0 hbel hrow
  have b2 : 2 ≤ (b : Int) := by omega
  have b16 : (b : Int) ≤ 16 := by omega
  have b0 : ((b : Int) == 0) = false := by simp; omega
  have k0 : ((bits : Int) == 0) = false := by simp; omega
  have k1 : 1 ≤ (bits : Int) := by omega
  have k64 : (bits : Int) ≤ 64 := by omega
  have HBB := Lib.hid hbb
  clear hbb
  all_goals
    go_enter Tryz.func84, Tryz.ntmps84
    go_upto_block 2 with (fail)
    go_cut [10] (fun v10 wc => (∃ (C : Int), v10 = .int .u64 C ∧ Hid (CutBy b C)) ∧ w = wc)
    case first =>
      have hbb := HBB.out
      clear kb
      have hbb' : b = 8 ∨ b = 10 ∨ b = 16 := by omega
      rcases hbb' with rfl | rfl | rfl
      all_goals
        go_wp2
        go_meet
        refine ⟨⟨_, rfl, ?_⟩, rfl⟩
        unfold Hid CutBy
        decide +kernel
    case rest =>
    obtain ⟨⟨C, rfl, HC⟩, rfl⟩ := hcut
    go_upto_region 32 with (fail)
    go_cut [11] (fun v11 wc => (∃ (M : Int), v11 = .int .u64 M ∧ Hid (ParseBy b' bits' b C M)) ∧ w = wc)
    case first =>
      have hbb := HBB.out
      clear kb
      rcases hbb with ⟨rfl, rfl⟩ | ⟨rfl, rfl⟩ | ⟨rfl, rfl⟩ | ⟨rfl, rfl⟩
      all_goals
        go_wp2
        go_meet
        exact ⟨⟨_, rfl, parse_by (by simp) HC.out Hb.out Hk.out rfl (by first | rfl | decide +kernel)⟩, rfl⟩
    case rest =>
      obtain ⟨⟨M, rfl, HP⟩, rfl⟩ := hcut
      clear HBB b2 b16 b0 k0 k1 k64
      generalize (b : Int) = B at HP ⊢
      go_wp2
      clear kb hemp
      have hlo := HP.out.lo
      have hhi := HP.out.hi
      have hBe := HP.out.hB
      have hB2 : 2 ≤ B := by omega
      have hB3 : B ≤ 16 := by omega
      clear hBe
      go_loopg [12, 13, 101] s.size (fun g v12 v13 v101 wr => v12 = .bool false ∧ ∃ (n k : Nat), v13 = .int .u64 n ∧ v101 = .int .i64 k ∧ k + g = s.size ∧ Hid (valS b' (bl s) = valF b' n ((bl s).drop k)) ∧ Hid ((n : Int) ≤ M) ∧ Hid (RowAt wr w.heap.size ((bl s).map u8v)) ∧ Hid (Bel w wr))
      case atStart => exact ⟨rfl, 0, 0, rfl, rfl, by omega, rfl, by unfold Hid; rw [HP.out.hM]; omega, hr1, hb1⟩
      case round =>
        obtain ⟨rfl, n, k, rfl, rfl, hk, HV, HM, HR, HBl⟩ := hrel
        cases gk with
        | zero =>
          have HF : Hid (n = valS b' (bl s)) := by have := HV.out; rw [bl_drop_end s k (by omega)] at this; exact this.symm
          go_wp2
          go_ret2
          exact ⟨⟨_, rfl, pu_in n HF.out (by have := HM.out; rw [HP.out.hM] at this; have := Nat.two_pow_pos bits'; omega)⟩, HBl⟩
        | succ g =>
          have hlt : k < s.size := by omega
          have hg : ((bl s).map u8v)[k]? = some (.int .u8 s[k].toNat) := by rw [List.getElem?_map, bl_get s k hlt]; rfl
          have hc := (HR.out.2 k _ hg).1
          have hg' := Lib.hid hg
          have hok : okDig b' s[k] = true := List.all_eq_true.1 hall.out _ (List.mem_of_getElem? (bl_get s k hlt))
          have hr := hexV_range s[k].toNat
          have hd : 0 ≤ hexV s[k].toNat ∧ hexV s[k].toNat < b' := by simpa [okDig] using hok
          have hx255 : (s[k].toNat : Int) ≤ 255 := by have := s[k].toNat_lt; omega
          have hV1 := HV.out
          rw [bl_drop s k hlt] at hV1
          have hlowB := lowB s[k]
          have hdd := hexV_dec s[k]
          have hisx : isHex s[k] = true := by simp [isHex, hd.1]
          have h95 : ((s[k].toNat : Int) == 95) = false := by
            rw [beq_eq_false_iff_ne]; intro h; have := hd.1; unfold hexV at this; rw [h] at this; simp at this
          -- the digit, as the walk comes to it
          have hdig : (48 ≤ (s[k].toNat : Int) ∧ (s[k].toNat : Int) ≤ 57 ∧ (s[k].toNat : Int) - 48 = hexV s[k].toNat) ∨ (¬ (48 ≤ (s[k].toNat : Int) ∧ (s[k].toNat : Int) ≤ 57) ∧ Go.bits .or .u8 s[k].toNat 32 = hexV s[k].toNat + 87 ∧ 10 ≤ hexV s[k].toNat) := by
            by_cases h : 48 ≤ (s[k].toNat : Int) ∧ (s[k].toNat : Int) ≤ 57
            · left; exact ⟨h.1, h.2, by rw [hdd h.1 h.2]⟩
            · right; exact ⟨h, hlowB (by rw [hisx]; simp; omega), by have hx := hd.1; clear hd; unfold hexV at hx ⊢; rw [if_neg h] at hx ⊢; split; omega; split; omega; exfalso; rw [if_neg (by assumption), if_neg (by assumption)] at hx; omega⟩
          obtain ⟨d, hdN⟩ : ∃ d : Nat, hexV s[k].toNat = d := ⟨(hexV s[k].toNat).toNat, by omega⟩
          have hstep : valF b' n (s[k] :: (bl s).drop (k + 1)) = valF b' (n * b' + d) ((bl s).drop (k + 1)) := by rw [valF, hdN]; rfl
          have hov : ∀ T, T ≤ n * b' → T ≤ valS b' (bl s) := fun T hT => by rw [hV1]; exact valF_over b' (by omega) _ _ n T hT
          have hgt : ∀ T, T ≤ n * b' + d → T ≤ valS b' (bl s) := fun T hT => by rw [hV1, hstep]; exact Nat.le_trans hT (valF_ge b' (by omega) _ _)
          rw [hstep] at hV1
          rw [hdN] at hdig
          have hd15 : d ≤ 15 := by omega
          have hdb : d < b' := by omega
          have HVn := Lib.hid hV1
          have HG := Lib.hid hgt
          have HO := Lib.hid hov
          have HB := Lib.hid HP.out.hB
          have hdB : (d : Int) < B := by rw [HB.out]; omega
          have hwB : IntKind.u8.wrap B = B := IntWalk.u8_in _ (by omega)
          clear hV1 hgt hov hstep hdd hlowB hok hd hr hisx hg HV
          have HDIG := Lib.hid hdig
          have hdN' := Lib.hid hdN
          clear hdig hdN
          have hsplit : (48 ≤ (s[k].toNat : Int) ∧ (s[k].toNat : Int) ≤ 57) ∨ 57 < (s[k].toNat : Int) ∨ (s[k].toNat : Int) < 48 := by omega
          by_cases hC : C ≤ (n : Int)
          · have HX : Hid (2 ^ bits' ≤ valS b' (bl s)) := Nat.le_trans HP.out.m64 (HO.out _ (HP.out.cut n hC))
            clear hsplit
            rcases HDIG.out with ⟨d1, d2, d3⟩ | ⟨d1, d2, d4⟩
            · go_wp2_with (go_at_call 105; go_must (refine (Tryz.internal_strconv_lower _ _).mono ?_); rintro e w' ⟨rfl, hw⟩; rw [hw])
              go_ret2
              exact ⟨⟨_, rfl, pu_over HP.out.hM HX.out⟩, HBl⟩
            · have d5 : ¬ (s[k].toNat : Int) ≤ 57 ∨ ¬ 48 ≤ (s[k].toNat : Int) := by omega
              rcases d5 with d5 | d5
              all_goals
                clear d1
                go_wp2_with (go_at_call 105; go_must (refine (Tryz.internal_strconv_lower _ _).mono ?_); rintro e w' ⟨rfl, hw⟩; rw [hw])
                all_goals (try go_ret2)
                all_goals exact ⟨⟨_, rfl, pu_over HP.out.hM HX.out⟩, HBl⟩
          · obtain ⟨m, hm⟩ : ∃ m : Nat, m = n * b' := ⟨_, rfl⟩
            have hmlt : m < 18446744073709551616 := by rw [hm]; exact HP.out.low n (by omega)
            have hwm : IntKind.u64.wrap ((n : Int) * B) = (m : Int) := by rw [HB.out, hm, ← Int.natCast_mul]; exact u64_of _ (by omega)
            rw [← hm] at HG HVn
            clear HO hm hsplit
            rcases HDIG.out with ⟨d1, d2, d3⟩ | ⟨d1, d2, d4⟩
            · go_wp2_with (go_at_call 105; go_must (refine (Tryz.internal_strconv_lower _ _).mono ?_); rintro e w' ⟨rfl, hw⟩; rw [hw])
              all_goals (first | (go_ret2; exact ⟨⟨_, rfl, pu_over HP.out.hM (HG.out _ (sum_over HP.out.hM HP.out.m64 hmlt hd15 (by omega)))⟩, HBl⟩) | (go_roundg g; (case measure => omega); (case rel => exact ⟨rfl, m + d, k + 1, by rw [sum_in HP.out.hM HP.out.m64 hmlt hd15 (by omega) (by omega)], rfl, by omega, HVn, sum_le HP.out.hM HP.out.m64 hmlt hd15 (by omega) (by omega), HR, HBl⟩)))
            · have d5 : ¬ (s[k].toNat : Int) ≤ 57 ∨ ¬ 48 ≤ (s[k].toNat : Int) := by omega
              have hq : (d : Int) + 87 - 97 + 10 = d := by omega
              rcases d5 with d5 | d5
              all_goals
                clear d1
                go_wp2_with (go_at_call 105; go_must (refine (Tryz.internal_strconv_lower _ _).mono ?_); rintro e w' ⟨rfl, hw⟩; rw [hw])
                all_goals (first | (go_ret2; exact ⟨⟨_, rfl, pu_over HP.out.hM (HG.out _ (sum_over HP.out.hM HP.out.m64 hmlt hd15 (by omega)))⟩, HBl⟩) | (go_roundg g; (case measure => omega); (case rel => exact ⟨rfl, m + d, k + 1, by rw [sum_in HP.out.hM HP.out.m64 hmlt hd15 (by omega) (by omega)], rfl, by omega, HVn, sum_le HP.out.hM HP.out.m64 hmlt hd15 (by omega) (by omega), HR, HBl⟩)))
theorem lib_ParseUint (s : ByteArray) (b bits : Nat) (w : World) (hs : s.size ≤ 1000000) (h0 : bl s ≠ []) (hbb : (b = 8 ∧ bits = 64) ∨ (b = 10 ∧ bits = 64) ∨ (b = 16 ∧ bits = 64) ∨ (b = 16 ∧ bits = 16)) (hall : Hid ((bl s).all (okDig b) = true)) :
    Calls Tryz.prog 84 #[.string s, .int .i64 b, .int .i64 bits] w fun e w' => (∃ v, e = .returned v ∧ PuEnd b bits (bl s) v) ∧ Hid (Bel w w') :=
  lib_ParseUint1 s b bits b bits rfl rfl w hs h0 hbb hall
end Go.Proofs.YtpgehhnmlihnbaaGreatDoor
