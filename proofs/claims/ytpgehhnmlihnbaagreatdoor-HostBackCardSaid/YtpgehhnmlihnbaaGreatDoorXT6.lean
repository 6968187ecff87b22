import Derived.Test.YtpgehhnmlihnbaaGreatDoorXBld
namespace Go.Proofs.YtpgehhnmlihnbaaGreatDoor
open Go.RowKit

theorem run_pos {xs : List Nat} {j : Nat} (h : 0 < runAt xs j) : xs[j]? = some 0 := by
  have h1 := run_le xs j
  have hj : j < xs.length := by omega
  have hx : xs[j]? = some xs[j] := List.getElem?_eq_getElem hj
  by_cases h0 : xs[j] = 0
  · rw [hx, h0]
  · have := run_miss hx h0; omega
theorem run_nil {xs : List Nat} {j : Nat} (h : runAt xs j = 0) (hj : j < xs.length) : ∃ v, xs[j]? = some v ∧ v ≠ 0 := by
  have hx : xs[j]? = some xs[j] := List.getElem?_eq_getElem hj
  refine ⟨_, hx, fun h0 => ?_⟩
  rw [h0] at hx
  have := run_hit hx; omega
theorem bldAt_bel {w w1 : World} {T e : TypeId} {B b : Nat} {p : Value} {l : List Value} (h : Lib.BuilderAt T e B b p l w) (hb : Bel w w1) : Lib.BuilderAt T e B b p l w1 := by
  have hlt := h.lt
  obtain ⟨h1, v, h2, h3, h4⟩ := h
  exact ⟨h1, v, (hb.block b hlt).trans h2, World.ownsRow.kept h3 ⟨hb.os, hb.tape, hb.output, hb.size, fun i hi _ => hb.block i hi⟩ (row := none) (by cases v.ownBlock <;> simp), h4⟩
theorem Bld.bel {w w1 : World} {B b : Nat} {l : List UInt8} (h : Bld w B b l) (hb : Bel w w1) : Bld w1 B b l := by
  rcases h with h | h
  · exact .inl (bldAt_bel h hb)
  · exact .inr (bldAt_bel h hb)
theorem u16_cell {w : World} {g : Nat} {xs : List Nat} {j v : Nat} (h : RdAt w g (u16s xs)) (hx : xs[j]? = some v) : w.cell? ⟨g, j, none⟩ = some (.int .u16 v) := h.2 j _ (by unfold u16s; rw [List.getElem?_map, hx]; rfl)
set_option maxHeartbeats 4000000 in
set_option maxRecDepth 100000 in
theorem host_Text6 (xs : List Nat) (w : World) (h8 : xs.length = 8) (hv : ∀ x ∈ xs, x ≤ 65535) (HE : Hid (Env w)) :
    Calls Tryz.prog 14 #[.agg (u16s xs).toArray] w fun e w' => (∃ t, e = .returned (.string t) ∧ Hid (bl t = text6S xs)) ∧ Hid (Bel w w') := by
  have H8 := Lib.hid h8
  have HV := Lib.hid hv
  clear h8 hv
  go_enter Tryz.func14, Tryz.ntmps14
  go_upto_block 0 with (fail)
  have HR : Hid (RdAt (w.alloc (.cells (u16s xs).toArray 27)) w.heap.size (u16s xs)) := RdAt.alloc w _ _
  have HB0 : Hid (Bel w (w.alloc (.cells (u16s xs).toArray 27))) := (Below.refl _ w).alloc (Nat.le_refl _) _
  generalize w.alloc (.cells (u16s xs).toArray 27) = w0 at *
  go_cut [3, 4] (fun v3 v4 wc => (v3 = .int .i64 (bestF xs 8).1 ∧ v4 = .int .i64 (bestF xs 8).2) ∧ w0 = wc)
  case first =>
    go_wp2_with fail
    go_loopg [3, 4, 5] 9 (fun r v3 v4 v5 wr => ∃ (i m : Nat) (f : Int), v3 = .int .i64 f ∧ v4 = .int .i64 m ∧ v5 = .int .i64 i ∧ i + r = 9 ∧ Hid (bestF xs i = (f, m)) ∧ w0 = wr)
    case atStart => exact ⟨0, 1, -1, rfl, rfl, rfl, rfl, rfl, rfl⟩
    case round =>
      obtain ⟨i, m, f, rfl, rfl, rfl, hi, HF, rfl⟩ := hrel
      by_cases hlt : i < 8
      · have hrl := run_le xs i
        rw [H8.out] at hrl
        obtain ⟨n, hn⟩ : ∃ n, runAt xs i = n := ⟨_, rfl⟩
        rw [hn] at hrl
        have HN := Lib.hid hn
        clear hn
        have hmm : m ≤ 8 := by
          have := best_facts xs i
          rw [HF.out, H8.out] at this
          rcases this with ⟨_, h⟩ | ⟨_, _, _, h⟩
          · have : m = 1 := h; omega
          · have h : _ + m ≤ 8 := h; omega
        go_upto_block 2 with (fail)
        have hd : decide ((i : Int) < 8) = true := by simp; omega
        rw [hd]
        clear hd
        go_cut [6] (fun v6 wc => v6 = .int .i64 n ∧ w0 = wc)
        case first =>
          go_wp2_with fail
          go_loopg [6] n (fun q v6 wq => ∃ (k : Nat), v6 = .int .i64 k ∧ k + q = n ∧ w0 = wq)
          case atStart => exact ⟨0, rfl, by omega, rfl⟩
          case round =>
            obtain ⟨k, rfl, hk, rfl⟩ := hrel
            have hsh := run_shift xs k i (by rw [HN.out]; omega)
            rw [HN.out] at hsh
            cases gk with
            | zero =>
              obtain rfl : k = n := by omega
              by_cases h8' : i + k < 8
              · obtain ⟨v, hx, hv0⟩ := run_nil (xs := xs) (j := i + k) (by rw [hsh]; omega) (by rw [H8.out]; exact h8')
                have hcell := u16_cell HR.out hx
                have hv0' : ((v : Int) == 0) = false := by rw [beq_eq_false_iff_ne]; omega
                clear hsh hx
                go_wp2
                go_meet
                exact ⟨rfl, rfl⟩
              · clear hsh
                go_wp2
                go_meet
                exact ⟨rfl, rfl⟩
            | succ q =>
              have hx := run_pos (xs := xs) (j := i + k) (by rw [hsh]; omega)
              have hcell := u16_cell HR.out hx
              have h8' : i + k < 8 := by omega
              clear hsh hx
              go_wp2
              go_roundg q
              case measure => omega
              case rel => exact ⟨k + 1, rfl, by omega, rfl⟩
        case rest =>
          obtain ⟨rfl, rfl⟩ := hcut
          have hj := best_jump xs i n (by rw [HN.out]; exact Nat.le_refl _)
          rw [bestF, HF.out, HN.out] at hj
          have HJ := Lib.hid hj
          clear hj
          by_cases hnm : m < n
          · have HJ2 : Hid (bestF xs (i + 1 + n) = ((i : Int), n)) := HJ.out.trans (if_pos hnm)
            clear HJ
            go_wp2
            go_roundg (9 - (i + 1 + n))
            case measure => omega
            case rel => exact ⟨i + 1 + n, n, i, rfl, rfl, by congr 1; omega, by omega, HJ2, rfl⟩
          · have HJ2 : Hid (bestF xs (i + 1 + n) = (f, m)) := HJ.out.trans (if_neg hnm)
            clear HJ
            go_wp2
            go_roundg (9 - (i + 1 + n))
            case measure => omega
            case rel => exact ⟨i + 1 + n, m, f, rfl, rfl, by congr 1; omega, by omega, HJ2, rfl⟩
      · have HE2 : Hid (bestF xs 8 = (f, m)) := by have := best_end H8.out i (by omega); unfold Hid; rw [← this]; exact HF.out
        go_wp2
        go_meet
        exact ⟨⟨by rw [HE2.out], by rw [HE2.out]⟩, rfl⟩
  case rest =>
    obtain ⟨⟨rfl, rfl⟩, rfl⟩ := hcut
    have hbf := best_facts xs 8
    obtain ⟨F, M, hFM⟩ : ∃ F M, bestF xs 8 = (F, M) := ⟨_, _, rfl⟩
    have HT : Hid (text6S xs = restF xs F M 0) := by unfold Hid text6S; rw [hFM]
    rw [hFM, H8.out] at hbf
    rw [hFM]
    have hbf : (F = -1 ∧ M = 1) ∨ (∃ f : Nat, F = f ∧ 2 ≤ M ∧ f + M ≤ 8) := hbf
    have hF1 : -1 ≤ F := by rcases hbf with ⟨h, _⟩ | ⟨f, h, _⟩ <;> omega
    have hF2 : F + M ≤ 8 := by rcases hbf with ⟨h, _⟩ | ⟨f, h, _⟩ <;> omega
    have hM1 : 1 ≤ M := by rcases hbf with ⟨h, _⟩ | ⟨f, h, _⟩ <;> omega
    have hM8 : M ≤ 9 := by omega
    clear hFM hbf
    go_upto_block 4 with (fail)
    have hB1 := bld_new w0
    have HB1 : Hid (Bel w0 (w0.alloc (.cells #[.pointer none, .slice none 0 0] 69))) := (Below.refl _ w0).alloc (Nat.le_refl _) _
    generalize w0.alloc (.cells #[.pointer none, .slice none 0 0] 69) = wb at *
    go_wp2
    go_loopg [8] 8 (fun r v8 wr => ∃ (i : Nat) (T : List UInt8), v8 = .int .i64 i ∧ i + r = 8 ∧ T.length ≤ 5 * i ∧ Hid (text6S xs = T ++ restF xs F M i) ∧ Hid (Bld wr w0.heap.size w0.heap.size T) ∧ Hid (Bel w0 wr))
    case atStart => exact ⟨0, [], rfl, rfl, by simp, by unfold Hid; rw [HT.out]; rfl, hB1, HB1⟩
    case round =>
      obtain ⟨i, T, rfl, hi, hTl, HX, HBd, HBl⟩ := hrel
      have hsz := HBl.out.size
      have HBw := Lib.hid (bel_trans HB0.out HBl.out)
      have HEr := Lib.hid (HE.out.bel HBw.out)
      cases gk with
      | zero =>
        obtain rfl : i = 8 := by omega
        have HX2 : Hid (text6S xs = T) := by unfold Hid; rw [HX.out, rest_end _ _ _ _ (Nat.le_refl _), List.append_nil]
        clear HX HT
        go_wp2_with fail
        refine (bld_text w0.heap.size w0.heap.size T _ HBd hsz).mono ?_
        rintro e w5 ⟨⟨t, rfl, ht⟩, hB5⟩
        go_wp2
        go_ret
        exact ⟨⟨_, rfl, by unfold Hid; rw [HX2.out]; exact ht.out⟩, bel_next HB0.out HB0.out.size (HBl.out.trans hB5.out)⟩
      | succ q =>
        have hi8 : i < 8 := by omega
        by_cases hiF : (i : Int) = F
        · have HX2 : Hid (text6S xs = (T ++ [58, 58]) ++ restF xs F M (i + (M - 1) + 1)) := by unfold Hid; rw [HX.out, rest_gap hi8 hiF, List.append_assoc]
          have hb : ((i : Int) == F) = true := by rw [beq_iff_eq]; exact hiF
          have hiM : i + M ≤ 8 := by omega
          have HE0 := Lib.hid hiF
          clear HX HT hiF
          go_wp2_with fail
          refine (bld_write w0.heap.size w0.heap.size T ⟨#[58, 58]⟩ _ HBd (by omega) (by decide) hsz).mono ?_
          rintro e w5 ⟨rfl, hBd5, hB5⟩
          have HB5 := Lib.hid (HBl.out.trans hB5.out)
          go_wp2
          go_roundg (8 - (i + M))
          case measure => omega
          case rel => exact ⟨i + M, T ++ [58, 58], by congr 1; omega, by omega, by simp; omega, by rw [show i + M = i + (M - 1) + 1 by omega]; exact HX2, hBd5, HB5⟩
        · obtain ⟨v, hx⟩ : ∃ v, xs[i]? = some v := ⟨_, List.getElem?_eq_getElem (by rw [H8.out]; exact hi8)⟩
          have hv := HV.out v (List.mem_of_getElem? hx)
          have hcell := u16_cell (HR.out.bel HBl.out) hx
          have hone := rest_one (m := M) hi8 hiF hx
          have hb : ((i : Int) == F) = false := by rw [beq_eq_false_iff_ne]; exact hiF
          have hv2 : (v : Int) ≤ 65535 := by omega
          have HXX := HX.out
          rw [hone] at HXX
          have HX2 := Lib.hid HXX
          have HIF := Lib.hid hiF
          have HXI := Lib.hid hx
          clear HX HT hiF hx hone HXX
          by_cases hc : 0 < i ∧ (i : Int) ≠ F + M
          · have HX3 : Hid (text6S xs = (T ++ [58]) ++ (digs 16 v ++ restF xs F M (i + 1))) := by unfold Hid; rw [HX2.out, if_pos hc]; simp
            have hb2 : ((i : Int) == F + M) = false := by rw [beq_eq_false_iff_ne]; exact hc.2
            have hc1 := hc.1
            clear HX2 hc
            go_wp2_with fail
            refine (bld_byte w0.heap.size w0.heap.size T 58 _ HBd (by omega) hsz).mono ?_
            rintro e w5 ⟨rfl, hBd5, hB5⟩
            have HB5 := Lib.hid (HBl.out.trans hB5.out)
            have hcell5 := u16_cell (HR.out.bel HB5.out) HXI.out
            clear hcell
            have hsz5 := HB5.out.size
            have HE5 := Lib.hid (HE.out.bel (bel_trans HB0.out HB5.out))
            go_wp2_with fail
            refine (lib_FormatUint v _ hv HE5).mono ?_
            rintro e w6 ⟨⟨d, rfl, hd⟩, hB6⟩
            have HB6 := Lib.hid (HB5.out.trans (hB6.out.mono hsz5))
            have hsz6 := HB6.out.size
            have hds : d.size ≤ 4 := by rw [← bl_length, hd.out]; exact digs16_len v hv
            go_wp2_with fail
            refine (bld_write w0.heap.size w0.heap.size (T ++ [58]) d _ (Lib.hid (hBd5.out.bel hB6.out)) (by simp; omega) (by omega) hsz6).mono ?_
            rintro e w7 ⟨rfl, hBd7, hB7⟩
            have HB7 := Lib.hid (HB6.out.trans hB7.out)
            rw [hd.out] at hBd7
            go_wp2
            go_roundg q
            case measure => omega
            case rel => exact ⟨i + 1, (T ++ [58]) ++ digs 16 v, rfl, by omega, by have := digs16_len v hv; simp; omega, by unfold Hid; rw [HX3.out]; simp, hBd7, HB7⟩
          · have HX3 : Hid (text6S xs = T ++ (digs 16 v ++ restF xs F M (i + 1))) := by unfold Hid; rw [HX2.out, if_neg hc]; simp
            have hcc : i = 0 ∨ (i : Int) = F + M := by omega
            have HB5 := HBl
            have hBd5 := HBd
            have hHc := Lib.hid hcc
            have hsz5 := HB5.out.size
            have HE5 := HEr
            clear HX2 hc
            by_cases hp : 0 < i
            · have hb2 : ((i : Int) == F + M) = true := by rw [beq_iff_eq]; omega
              clear hcc
              go_wp2_with fail
              refine (lib_FormatUint v _ hv HE5).mono ?_
              rintro e w6 ⟨⟨d, rfl, hd⟩, hB6⟩
              have HB6 := Lib.hid (HB5.out.trans (hB6.out.mono hsz5))
              have hsz6 := HB6.out.size
              have hds : d.size ≤ 4 := by rw [← bl_length, hd.out]; exact digs16_len v hv
              go_wp2_with fail
              refine (bld_write w0.heap.size w0.heap.size T d _ (Lib.hid (hBd5.out.bel hB6.out)) (by omega) (by omega) hsz6).mono ?_
              rintro e w7 ⟨rfl, hBd7, hB7⟩
              have HB7 := Lib.hid (HB6.out.trans hB7.out)
              rw [hd.out] at hBd7
              go_wp2
              go_roundg q
              case measure => omega
              case rel => exact ⟨i + 1, T ++ digs 16 v, rfl, by omega, by have := digs16_len v hv; simp; omega, by unfold Hid; rw [HX3.out, List.append_assoc], hBd7, HB7⟩
            · have h0 : (i : Int) ≤ 0 := by omega
              clear hcc hp
              go_wp2_with fail
              refine (lib_FormatUint v _ hv HE5).mono ?_
              rintro e w6 ⟨⟨d, rfl, hd⟩, hB6⟩
              have HB6 := Lib.hid (HB5.out.trans (hB6.out.mono hsz5))
              have hsz6 := HB6.out.size
              have hds : d.size ≤ 4 := by rw [← bl_length, hd.out]; exact digs16_len v hv
              go_wp2_with fail
              refine (bld_write w0.heap.size w0.heap.size T d _ (Lib.hid (hBd5.out.bel hB6.out)) (by omega) (by omega) hsz6).mono ?_
              rintro e w7 ⟨rfl, hBd7, hB7⟩
              have HB7 := Lib.hid (HB6.out.trans hB7.out)
              rw [hd.out] at hBd7
              go_wp2
              go_roundg q
              case measure => omega
              case rel => exact ⟨i + 1, T ++ digs 16 v, rfl, by omega, by have := digs16_len v hv; simp; omega, by unfold Hid; rw [HX3.out, List.append_assoc], hBd7, HB7⟩
end Go.Proofs.YtpgehhnmlihnbaaGreatDoor
