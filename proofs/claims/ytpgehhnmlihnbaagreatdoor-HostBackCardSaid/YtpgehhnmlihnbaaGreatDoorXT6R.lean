import Derived.Test.YtpgehhnmlihnbaaGreatDoorXT6
namespace Go.Proofs.YtpgehhnmlihnbaaGreatDoor
open Go.RowKit

set_option maxHeartbeats 4000000 in
set_option maxRecDepth 100000 in
theorem ref2_Text6 (xs : List Nat) (w : World) (h8 : xs.length = 8) (hv : ∀ x ∈ xs, x ≤ 65535) :
    Calls Tryz.prog 25 #[.agg (u16s xs).toArray] w fun e w' => (∃ t, e = .returned (.string t) ∧ Hid (bl t = text6S xs)) ∧ Hid (Bel w w') := by
  have H8 := Lib.hid h8
  have HV := Lib.hid hv
  clear h8 hv
  go_enter Tryz.func25, Tryz.ntmps25
  go_upto_block 0 with (fail)
  have HR : Hid (RdAt (w.alloc (.cells (u16s xs).toArray 27)) w.heap.size (u16s xs)) := RdAt.alloc w _ _
  have HB0 : Hid (Bel w (w.alloc (.cells (u16s xs).toArray 27))) := (Below.refl _ w).alloc (Nat.le_refl _) _
  generalize w.alloc (.cells (u16s xs).toArray 27) = w0 at *
  go_cut [3, 4] (fun v3 v4 wc => (v3 = .int .i64 (bestF xs 8).1 ∧ v4 = .int .i64 (bestF xs 8).2) ∧ w0 = wc)
  case first =>
    go_wp2_with fail
    go_loopg [3, 4, 5] 9 (fun r v3 v4 v5 wr => ∃ (i m : Nat) (f : Int), v3 = .int .i64 f ∧ v4 = .int .i64 m ∧ v5 = .int .i64 i ∧ i + r = 9 ∧ Hid (bestF xs i = (f, m)) ∧ w0 = wr)
    case atStart => exact ⟨0, 1, -1, rfl, rfl, rfl, rfl, rfl, rfl⟩
    case round =>
      obtain ⟨i, m, f, rfl, rfl, rfl, hi, HF, rfl⟩ := hrel
      by_cases hlt : i < 8
      · have hrl := run_le xs i
        rw [H8.out] at hrl
        obtain ⟨n, hn⟩ : ∃ n, runAt xs i = n := ⟨_, rfl⟩
        rw [hn] at hrl
        have HN := Lib.hid hn
        clear hn
        have hmm : m ≤ 8 := by
          have := best_facts xs i
          rw [HF.out, H8.out] at this
          rcases this with ⟨_, h⟩ | ⟨_, _, _, h⟩
          · have : m = 1 := h; omega
          · have h : _ + m ≤ 8 := h; omega
        go_upto_block 2 with (fail)
        have hd : decide ((i : Int) < 8) = true := by simp; omega
        rw [hd]
        clear hd
        go_cut [6] (fun v6 wc => v6 = .int .i64 n ∧ w0 = wc)
        case first =>
          go_wp2_with fail
          go_loopg [6] n (fun q v6 wq => ∃ (k : Nat), v6 = .int .i64 k ∧ k + q = n ∧ w0 = wq)
          case atStart => exact ⟨0, rfl, by omega, rfl⟩
          case round =>
            obtain ⟨k, rfl, hk, rfl⟩ := hrel
            have hsh := run_shift xs k i (by rw [HN.out]; omega)
            rw [HN.out] at hsh
            cases gk with
            | zero =>
              obtain rfl : k = n := by omega
              by_cases h8' : i + k < 8
              · obtain ⟨v, hx, hv0⟩ := run_nil (xs := xs) (j := i + k) (by rw [hsh]; omega) (by rw [H8.out]; exact h8')
                have hcell := u16_cell HR.out hx
                have hv0' : ((v : Int) == 0) = false := by rw [beq_eq_false_iff_ne]; omega
                clear hsh hx
                go_wp2
                go_meet
                exact ⟨rfl, rfl⟩
              · clear hsh
                go_wp2
                go_meet
                exact ⟨rfl, rfl⟩
            | succ q =>
              have hx := run_pos (xs := xs) (j := i + k) (by rw [hsh]; omega)
              have hcell := u16_cell HR.out hx
              have h8' : i + k < 8 := by omega
              clear hsh hx
              go_wp2
              go_roundg q
              case measure => omega
              case rel => exact ⟨k + 1, rfl, by omega, rfl⟩
        case rest =>
          obtain ⟨rfl, rfl⟩ := hcut
          have hj : bestF xs (i + 1) = if m < n then ((i : Int), n) else (f, m) := by rw [bestF, HF.out, HN.out]
          have HJ := Lib.hid hj
          clear hj
          by_cases hnm : m < n
          · have HJ2 : Hid (bestF xs (i + 1) = ((i : Int), n)) := HJ.out.trans (if_pos hnm)
            clear HJ
            go_wp2
            go_roundg (8 - i)
            case measure => omega
            case rel => exact ⟨i + 1, n, i, rfl, rfl, rfl, by omega, HJ2, rfl⟩
          · have HJ2 : Hid (bestF xs (i + 1) = (f, m)) := HJ.out.trans (if_neg hnm)
            clear HJ
            go_wp2
            go_roundg (8 - i)
            case measure => omega
            case rel => exact ⟨i + 1, m, f, rfl, rfl, rfl, by omega, HJ2, rfl⟩
      · have HE2 : Hid (bestF xs 8 = (f, m)) := by have := best_end H8.out i (by omega); unfold Hid; rw [← this]; exact HF.out
        go_wp2
        go_meet
        exact ⟨⟨by rw [HE2.out], by rw [HE2.out]⟩, rfl⟩
  case rest =>
    obtain ⟨⟨rfl, rfl⟩, rfl⟩ := hcut
    have hbf := best_facts xs 8
    obtain ⟨F, M, hFM⟩ : ∃ F M, bestF xs 8 = (F, M) := ⟨_, _, rfl⟩
    have HT : Hid (text6S xs = restF xs F M 0) := by unfold Hid text6S; rw [hFM]
    rw [hFM, H8.out] at hbf
    rw [hFM]
    have hbf : (F = -1 ∧ M = 1) ∨ (∃ f : Nat, F = f ∧ 2 ≤ M ∧ f + M ≤ 8) := hbf
    have hF1 : -1 ≤ F := by rcases hbf with ⟨h, _⟩ | ⟨f, h, _⟩ <;> omega
    have hF2 : F + M ≤ 8 := by rcases hbf with ⟨h, _⟩ | ⟨f, h, _⟩ <;> omega
    have hM1 : 1 ≤ M := by rcases hbf with ⟨h, _⟩ | ⟨f, h, _⟩ <;> omega
    have hM8 : M ≤ 9 := by omega
    have HFM : Hid ((F = -1 ∧ M = 1) ∨ (∃ f : Nat, F = f ∧ 2 ≤ M ∧ f + M ≤ 8)) := hbf
    clear hFM hbf
    go_wp2
    go_loopg [7, 8] 8 (fun r v7 v8 wr => ∃ (i : Nat) (t : ByteArray), v7 = .string t ∧ v8 = .int .i64 i ∧ i + r = 8 ∧ t.size ≤ 5 * i ∧ Hid (text6S xs = bl t ++ restF xs F M i) ∧ ((i = 0 ∧ bl t = []) ∨ (0 < i ∧ ∃ (T : List UInt8) (c : UInt8), bl t = T ++ [c] ∧ (c = 58 ↔ (i : Int) = F + M))) ∧ ((i : Int) ≤ F ∨ F + M ≤ i) ∧ w0 = wr)
    case atStart => exact ⟨0, _, rfl, rfl, rfl, by decide, HT, .inl ⟨rfl, rfl⟩, by rcases HFM.out with ⟨h1, h2⟩ | ⟨f, h1, h2, h3⟩ <;> omega, rfl⟩
    case round =>
      obtain ⟨i, t, rfl, rfl, hi, ht, HX, hL, hG, rfl⟩ := hrel
      have HGG := Lib.hid hG
      clear hG
      have HLL := Lib.hid hL
      clear hL
      cases gk with
      | zero =>
        obtain rfl : i = 8 := by omega
        have HX2 : Hid (text6S xs = bl t) := by unfold Hid; rw [HX.out, rest_end _ _ _ _ (Nat.le_refl _), List.append_nil]
        clear HX HT
        go_wp2
        go_ret
        exact ⟨⟨_, rfl, HX2.out.symm⟩, HB0⟩
      | succ q =>
        have hi8 : i < 8 := by omega
        by_cases hiF : (i : Int) = F
        · have HX2 : Hid (text6S xs = (bl t ++ [58, 58]) ++ restF xs F M (i + (M - 1) + 1)) := by unfold Hid; rw [HX.out, rest_gap hi8 hiF, List.append_assoc]
          have hb : ((i : Int) == F) = true := by rw [beq_iff_eq]; exact hiF
          have hiM : i + M ≤ 8 := by omega
          have HIF := Lib.hid hiF
          clear HX HT hiF
          go_wp2
          go_roundg (8 - (i + M))
          case measure => omega
          case rel =>
            refine ⟨i + M, _, rfl, by congr 1 <;> omega, by omega, ?_, ?_, ?_, by have := HIF.out; omega, rfl⟩
            · rw [ByteArray.size_append]; show t.size + 2 ≤ _; omega
            · rw [show i + M = i + (M - 1) + 1 by omega]; unfold Hid; rw [bl_append]; exact HX2.out
            · refine .inr ⟨by omega, bl t ++ [58], 58, by rw [bl_append, List.append_assoc]; rfl, ?_⟩
              have := HIF.out
              constructor
              · intro _; omega
              · intro _; rfl
        · obtain ⟨v, hx⟩ : ∃ v, xs[i]? = some v := ⟨_, List.getElem?_eq_getElem (by rw [H8.out]; exact hi8)⟩
          have hv := HV.out v (List.mem_of_getElem? hx)
          have hcell := u16_cell HR.out hx
          have hone := rest_one (m := M) hi8 hiF hx
          have hb : ((i : Int) == F) = false := by rw [beq_eq_false_iff_ne]; exact hiF
          have hv2 : (v : Int) ≤ 65535 := by omega
          have HXX := HX.out
          rw [hone] at HXX
          have HX2 := Lib.hid HXX
          have HNX : Hid (((i : Int) + 1) ≠ F + M ∧ ((i : Int) + 1 ≤ F ∨ F + M ≤ (i : Int) + 1)) := by
            have := HGG.out
            unfold Hid
            omega
          clear HX HT hiF hx hone HXX
          rcases HLL.out with ⟨hz, hT⟩ | ⟨hp, T, c, hT, hc⟩
          · have hte : t.toList.isEmpty = true := by rw [str_empty, hT]
            have HX3 : Hid (text6S xs = bl t ++ (digs 16 v ++ restF xs F M (i + 1))) := by unfold Hid; rw [HX2.out, if_neg (fun h => by omega)]; simp
            have HZ := Lib.hid hz
            clear hz hT
            go_wp2_with (go_at_call 60; go_must (refine (ref2_digits v _ hv).mono ?_); rintro e w5 ⟨⟨d, rfl, hd⟩, rfl⟩; have hds : d.size ≤ 4 := by rw [← bl_length, hd.out]; exact digs16_len v hv)
            go_roundg q
            case measure => omega
            case rel =>
              obtain ⟨D, c2, hD, hc2⟩ := digs_last v
              have hTT : bl (t ++ d) = bl t ++ digs 16 v := by rw [bl_append, hd.out]
              refine ⟨i + 1, _, rfl, rfl, by omega, ?_, ?_, ?_, by have := HNX.out; omega, rfl⟩
              · rw [← bl_length, hTT]; have := digs16_len v hv; simp [bl_length]; omega
              · unfold Hid; rw [hTT, HX3.out]; simp
              · refine .inr ⟨by omega, bl t ++ D, c2, by rw [hTT, hD]; simp, ?_⟩
                constructor
                · intro h; exact absurd h hc2
                · intro h; exfalso; have := HNX.out; omega
          · have hts : 0 < t.size := by rw [← bl_length, hT]; simp
            have hte : t.toList.isEmpty = false := by rw [Bool.eq_false_iff, ne_eq, str_empty, hT]; simp
            have hcc : (t[t.size - 1]'(by omega)) = c := by
              have h1 := bl_get t (t.size - 1) (by omega)
              rw [hT] at h1
              have h2 : (T ++ [c]).length = t.size := by rw [← hT, bl_length]
              rw [List.length_append, List.length_singleton] at h2
              rw [List.getElem?_append_right (by omega), show t.size - 1 - T.length = 0 by omega] at h1
              exact (Option.some.inj h1).symm
            by_cases h58 : c = 58
            · have hq : (((t[t.size - 1]'(by omega)).toNat : Int) == 58) = true := by rw [hcc, h58]; rfl
              have HX3 : Hid (text6S xs = bl t ++ (digs 16 v ++ restF xs F M (i + 1))) := by unfold Hid; rw [HX2.out, if_neg (fun h => h.2 (hc.1 h58))]; simp
              clear hcc hc hT h58
              go_wp2_with (go_at_call 60; go_must (refine (ref2_digits v _ hv).mono ?_); rintro e w5 ⟨⟨d, rfl, hd⟩, rfl⟩; have hds : d.size ≤ 4 := by rw [← bl_length, hd.out]; exact digs16_len v hv)
              go_roundg q
              case measure => omega
              case rel =>
                obtain ⟨D, c2, hD, hc2⟩ := digs_last v
                have hTT : bl (t ++ d) = bl t ++ digs 16 v := by rw [bl_append, hd.out]
                refine ⟨i + 1, _, rfl, rfl, by omega, ?_, ?_, ?_, by have := HNX.out; omega, rfl⟩
                · rw [← bl_length, hTT]; have := digs16_len v hv; simp [bl_length]; omega
                · unfold Hid; rw [hTT, HX3.out]; simp
                · refine .inr ⟨by omega, bl t ++ D, c2, by rw [hTT, hD]; simp, ?_⟩
                  constructor
                  · intro h; exact absurd h hc2
                  · intro h; exfalso; have := HNX.out; omega
            · have hq : (((t[t.size - 1]'(by omega)).toNat : Int) == 58) = false := by
                rw [beq_eq_false_iff_ne, hcc]; intro h; exact h58 (UInt8.toNat_inj.1 (by have : (58 : UInt8).toNat = 58 := rfl; omega))
              have HX3 : Hid (text6S xs = bl t ++ ([58] ++ (digs 16 v ++ restF xs F M (i + 1)))) := by unfold Hid; rw [HX2.out, if_pos ⟨hp, fun h => h58 (hc.2 h)⟩]
              clear hcc hc hT h58
              go_wp2_with (go_at_call 60; go_must (refine (ref2_digits v _ hv).mono ?_); rintro e w5 ⟨⟨d, rfl, hd⟩, rfl⟩; have hds : d.size ≤ 4 := by rw [← bl_length, hd.out]; exact digs16_len v hv)
              go_roundg q
              case measure => omega
              case rel =>
                obtain ⟨D, c2, hD, hc2⟩ := digs_last v
                have hTT : bl (t ++ ⟨#[58]⟩ ++ d) = bl t ++ [58] ++ digs 16 v := by rw [bl_append, hd.out, bl_append]; rfl
                refine ⟨i + 1, _, rfl, rfl, by omega, ?_, ?_, ?_, by have := HNX.out; omega, rfl⟩
                · rw [← bl_length, hTT]; have := digs16_len v hv; simp [bl_length]; omega
                · unfold Hid; rw [hTT, HX3.out]; simp
                · refine .inr ⟨by omega, bl t ++ [58] ++ D, c2, by rw [hTT, hD]; simp, ?_⟩
                  constructor
                  · intro h; exact absurd h hc2
                  · intro h; exfalso; have := HNX.out; omega
end Go.Proofs.YtpgehhnmlihnbaaGreatDoor
