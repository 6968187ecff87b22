import Derived.Test.YtbpkkgaaeodimaaGreatDoorXG09
import Derived.Test.YtbpkkgaaeodimaaGreatDoorXG03
import Derived.Lib.IndexAny
import Derived.WalkMore
import Derived.StillTailTactics
import Derived.Laws.Runes
namespace Go.Proofs.YtbpkkgaaeodimaaGreatDoor
open Go.RowKit

theorem run_pos {xs : List Nat} {j : Nat} (h : 0 < runAt xs j) : xs[j]? = some 0 := by
  have h1 := run_le xs j
  have hj : j < xs.length := by omega
  have hx : xs[j]? = some xs[j] := List.getElem?_eq_getElem hj
  by_cases h0 : xs[j] = 0
  · rw [hx, h0]
  · have := run_miss hx h0; omega
theorem run_nil {xs : List Nat} {j : Nat} (h : runAt xs j = 0) (hj : j < xs.length) : ∃ v, xs[j]? = some v ∧ v ≠ 0 := by
  have hx : xs[j]? = some xs[j] := List.getElem?_eq_getElem hj
  refine ⟨_, hx, fun h0 => ?_⟩
  rw [h0] at hx
  have := run_hit hx; omega
theorem bldAt_bel {w w1 : World} {T e : TypeId} {B b : Nat} {p : Value} {l : List Value} (h : Lib.BuilderAt T e B b p l w) (hb : Bel w w1) : Lib.BuilderAt T e B b p l w1 := by
  have hlt := h.lt
  obtain ⟨h1, v, h2, h3, h4⟩ := h
  exact ⟨h1, v, (hb.block b hlt).trans h2, World.ownsRow.kept h3 ⟨hb.os, hb.tape, hb.output, hb.size, fun i hi _ => hb.block i hi⟩ (row := none) (by cases v.ownBlock <;> simp), h4⟩
theorem Bld.bel {w w1 : World} {B b : Nat} {l : List UInt8} (h : Bld w B b l) (hb : Bel w w1) : Bld w1 B b l := by
  rcases h with h | h
  · exact .inl (bldAt_bel h hb)
  · exact .inr (bldAt_bel h hb)
theorem u16_cell {w : World} {g : Nat} {xs : List Nat} {j v : Nat} (h : RdAt w g (u16s xs)) (hx : xs[j]? = some v) : w.cell? ⟨g, j, none⟩ = some (.int .u16 v) := h.2 j _ (by unfold u16s; rw [List.getElem?_map, hx]; rfl)
set_option maxHeartbeats 4000000 in
set_option maxRecDepth 100000 in
theorem host_Text6 (xs : List Nat) (w : World) (h8 : xs.length = 8) (hv : ∀ x ∈ xs, x ≤ 65535) (HE : Hid (Env w)) :
    Calls Tryz.prog 193 #[.agg (u16s xs).toArray] w fun e w' => (∃ t, e = .returned (.string t) ∧ Hid (bl t = text6S xs)) ∧ Hid (Bel w w') := by
  have H8 := Lib.hid h8
  have HV := Lib.hid hv
  clear h8 hv
  go_enter Tryz.func193, Tryz.ntmps193
  go_upto_block 0 with (fail)
  have HR : Hid (RdAt (w.alloc (.cells (u16s xs).toArray 150)) w.heap.size (u16s xs)) := RdAt.alloc w _ _
  have HB0 : Hid (Bel w (w.alloc (.cells (u16s xs).toArray 150))) := (Below.refl _ w).alloc (Nat.le_refl _) _
  generalize w.alloc (.cells (u16s xs).toArray 150) = w0 at *
  go_cut [3, 4] (fun v3 v4 wc => (v3 = .int .i64 (bestF xs 8).1 ∧ v4 = .int .i64 (bestF xs 8).2) ∧ w0 = wc)
  case first =>
    go_wp2_with fail
    go_loopg [3, 4, 5] 9 (fun r v3 v4 v5 wr => ∃ (i m : Nat) (f : Int), v3 = .int .i64 f ∧ v4 = .int .i64 m ∧ v5 = .int .i64 i ∧ i + r = 9 ∧ Hid (bestF xs i = (f, m)) ∧ w0 = wr)
    case atStart => exact ⟨0, 1, -1, rfl, rfl, rfl, rfl, rfl, rfl⟩
    case round =>
      obtain ⟨i, m, f, rfl, rfl, rfl, hi, HF, rfl⟩ := hrel
      by_cases hlt : i < 8
      · have hrl := run_le xs i
        rw [H8.out] at hrl
        obtain ⟨n, hn⟩ : ∃ n, runAt xs i = n := ⟨_, rfl⟩
        rw [hn] at hrl
        have HN := Lib.hid hn
        clear hn
        have hmm : m ≤ 8 := by
          have := best_facts xs i
          rw [HF.out, H8.out] at this
          rcases this with ⟨_, h⟩ | ⟨_, _, _, h⟩
          · have : m = 1 := h; omega
          · have h : _ + m ≤ 8 := h; omega
        go_upto_block 2 with (fail)
        have hd : decide ((i : Int) < 8) = true := by simp; omega
        rw [hd]
        clear hd
        go_cut [6] (fun v6 wc => v6 = .int .i64 n ∧ w0 = wc)
        case first =>
          go_wp2_with fail
          go_loopg [6] n (fun q v6 wq => ∃ (k : Nat), v6 = .int .i64 k ∧ k + q = n ∧ w0 = wq)
          case atStart => exact ⟨0, rfl, by omega, rfl⟩
          case round =>
            obtain ⟨k, rfl, hk, rfl⟩ := hrel
            have hsh := run_shift xs k i (by rw [HN.out]; omega)
            rw [HN.out] at hsh
            cases gk with
            | zero =>
              obtain rfl : k = n := by omega
              by_cases h8' : i + k < 8
              · obtain ⟨v, hx, hv0⟩ := run_nil (xs := xs) (j := i + k) (by rw [hsh]; omega) (by rw [H8.out]; exact h8')
                have hcell := u16_cell HR.out hx
                have hv0' : ((v : Int) == 0) = false := by rw [beq_eq_false_iff_ne]; omega
                clear hsh hx
                go_wp2
                go_meet
                exact ⟨rfl, rfl⟩
              · clear hsh
                go_wp2
                go_meet
                exact ⟨rfl, rfl⟩
            | succ q =>
              have hx := run_pos (xs := xs) (j := i + k) (by rw [hsh]; omega)
              have hcell := u16_cell HR.out hx
              have h8' : i + k < 8 := by omega
              clear hsh hx
              go_wp2
              go_roundg q
              case measure => omega
              case rel => exact ⟨k + 1, rfl, by omega, rfl⟩
        case rest =>
          obtain ⟨rfl, rfl⟩ := hcut
          have hj := best_jump xs i n (by rw [HN.out]; exact Nat.le_refl _)
          rw [bestF, HF.out, HN.out] at hj
          have HJ := Lib.hid hj
          clear hj
          by_cases hnm : m < n
          · have HJ2 : Hid (bestF xs (i + 1 + n) = ((i : Int), n)) := HJ.out.trans (if_pos hnm)
            clear HJ
            go_wp2
            go_roundg (9 - (i + 1 + n))
            case measure => omega
            case rel => exact ⟨i + 1 + n, n, i, rfl, rfl, by congr 1; omega, by omega, HJ2, rfl⟩
          · have HJ2 : Hid (bestF xs (i + 1 + n) = (f, m)) := HJ.out.trans (if_neg hnm)
            clear HJ
            go_wp2
            go_roundg (9 - (i + 1 + n))
            case measure => omega
            case rel => exact ⟨i + 1 + n, m, f, rfl, rfl, by congr 1; omega, by omega, HJ2, rfl⟩
      · have HE2 : Hid (bestF xs 8 = (f, m)) := by have := best_end H8.out i (by omega); unfold Hid; rw [← this]; exact HF.out
        go_wp2
        go_meet
        exact ⟨⟨by rw [HE2.out], by rw [HE2.out]⟩, rfl⟩
  case rest =>
    obtain ⟨⟨rfl, rfl⟩, rfl⟩ := hcut
    have hbf := best_facts xs 8
    obtain ⟨F, M, hFM⟩ : ∃ F M, bestF xs 8 = (F, M) := ⟨_, _, rfl⟩
    have HT : Hid (text6S xs = restF xs F M 0) := by unfold Hid text6S; rw [hFM]
    rw [hFM, H8.out] at hbf
    rw [hFM]
    have hbf : (F = -1 ∧ M = 1) ∨ (∃ f : Nat, F = f ∧ 2 ≤ M ∧ f + M ≤ 8) := hbf
    have hF1 : -1 ≤ F := by rcases hbf with ⟨h, _⟩ | ⟨f, h, _⟩ <;> omega
    have hF2 : F + M ≤ 8 := by rcases hbf with ⟨h, _⟩ | ⟨f, h, _⟩ <;> omega
    have hM1 : 1 ≤ M := by rcases hbf with ⟨h, _⟩ | ⟨f, h, _⟩ <;> omega
    have hM8 : M ≤ 9 := by omega
    clear hFM hbf
    go_upto_block 4 with (fail)
    have hB1 := bld_new w0
    have HB1 : Hid (Bel w0 (w0.alloc (.cells #[.pointer none, .slice none 0 0] 73))) := (Below.refl _ w0).alloc (Nat.le_refl _) _
    generalize w0.alloc (.cells #[.pointer none, .slice none 0 0] 73) = wb at *
    go_wp2
    go_loopg [8] 8 (fun r v8 wr => ∃ (i : Nat) (T : List UInt8), v8 = .int .i64 i ∧ i + r = 8 ∧ T.length ≤ 5 * i ∧ Hid (text6S xs = T ++ restF xs F M i) ∧ Hid (Bld wr w0.heap.size w0.heap.size T) ∧ Hid (Bel w0 wr))
    case atStart => exact ⟨0, [], rfl, rfl, by simp, by unfold Hid; rw [HT.out]; rfl, hB1, HB1⟩
    case round =>
      obtain ⟨i, T, rfl, hi, hTl, HX, HBd, HBl⟩ := hrel
      have hsz := HBl.out.size
      have HBw := Lib.hid (bel_trans HB0.out HBl.out)
      have HEr := Lib.hid (HE.out.bel HBw.out)
      cases gk with
      | zero =>
        obtain rfl : i = 8 := by omega
        have HX2 : Hid (text6S xs = T) := by unfold Hid; rw [HX.out, rest_end _ _ _ _ (Nat.le_refl _), List.append_nil]
        clear HX HT
        go_wp2_with fail
        refine (bld_text w0.heap.size w0.heap.size T _ HBd hsz).mono ?_
        rintro e w5 ⟨⟨t, rfl, ht⟩, hB5⟩
        go_wp2
        go_ret
        exact ⟨⟨_, rfl, by unfold Hid; rw [HX2.out]; exact ht.out⟩, bel_next HB0.out HB0.out.size (HBl.out.trans hB5.out)⟩
      | succ q =>
        have hi8 : i < 8 := by omega
        by_cases hiF : (i : Int) = F
        · have HX2 : Hid (text6S xs = (T ++ [58, 58]) ++ restF xs F M (i + (M - 1) + 1)) := by unfold Hid; rw [HX.out, rest_gap hi8 hiF, List.append_assoc]
          have hb : ((i : Int) == F) = true := by rw [beq_iff_eq]; exact hiF
          have hiM : i + M ≤ 8 := by omega
          have HE0 := Lib.hid hiF
          clear HX HT hiF
          go_wp2_with fail
          refine (bld_write w0.heap.size w0.heap.size T ⟨#[58, 58]⟩ _ HBd (by omega) (by decide) hsz).mono ?_
          rintro e w5 ⟨rfl, hBd5, hB5⟩
          have HB5 := Lib.hid (HBl.out.trans hB5.out)
          go_wp2
          go_roundg (8 - (i + M))
          case measure => omega
          case rel => exact ⟨i + M, T ++ [58, 58], by congr 1; omega, by omega, by simp; omega, by rw [show i + M = i + (M - 1) + 1 by omega]; exact HX2, hBd5, HB5⟩
        · obtain ⟨v, hx⟩ : ∃ v, xs[i]? = some v := ⟨_, List.getElem?_eq_getElem (by rw [H8.out]; exact hi8)⟩
          have hv := HV.out v (List.mem_of_getElem? hx)
          have hcell := u16_cell (HR.out.bel HBl.out) hx
          have hone := rest_one (m := M) hi8 hiF hx
          have hb : ((i : Int) == F) = false := by rw [beq_eq_false_iff_ne]; exact hiF
          have hv2 : (v : Int) ≤ 65535 := by omega
          have HXX := HX.out
          rw [hone] at HXX
          have HX2 := Lib.hid HXX
          have HIF := Lib.hid hiF
          have HXI := Lib.hid hx
          clear HX HT hiF hx hone HXX
          by_cases hc : 0 < i ∧ (i : Int) ≠ F + M
          · have HX3 : Hid (text6S xs = (T ++ [58]) ++ (digs 16 v ++ restF xs F M (i + 1))) := by unfold Hid; rw [HX2.out, if_pos hc]; simp
            have hb2 : ((i : Int) == F + M) = false := by rw [beq_eq_false_iff_ne]; exact hc.2
            have hc1 := hc.1
            clear HX2 hc
            go_wp2_with fail
            refine (bld_byte w0.heap.size w0.heap.size T 58 _ HBd (by omega) hsz).mono ?_
            rintro e w5 ⟨rfl, hBd5, hB5⟩
            have HB5 := Lib.hid (HBl.out.trans hB5.out)
            have hcell5 := u16_cell (HR.out.bel HB5.out) HXI.out
            clear hcell
            have hsz5 := HB5.out.size
            have HE5 := Lib.hid (HE.out.bel (bel_trans HB0.out HB5.out))
            go_wp2_with fail
            refine (lib_FormatUint v _ hv HE5).mono ?_
            rintro e w6 ⟨⟨d, rfl, hd⟩, hB6⟩
            have HB6 := Lib.hid (HB5.out.trans (hB6.out.mono hsz5))
            have hsz6 := HB6.out.size
            have hds : d.size ≤ 4 := by rw [← bl_length, hd.out]; exact digs16_len v hv
            go_wp2_with fail
            refine (bld_write w0.heap.size w0.heap.size (T ++ [58]) d _ (Lib.hid (hBd5.out.bel hB6.out)) (by simp; omega) (by omega) hsz6).mono ?_
            rintro e w7 ⟨rfl, hBd7, hB7⟩
            have HB7 := Lib.hid (HB6.out.trans hB7.out)
            rw [hd.out] at hBd7
            go_wp2
            go_roundg q
            case measure => omega
            case rel => exact ⟨i + 1, (T ++ [58]) ++ digs 16 v, rfl, by omega, by have := digs16_len v hv; simp; omega, by unfold Hid; rw [HX3.out]; simp, hBd7, HB7⟩
          · have HX3 : Hid (text6S xs = T ++ (digs 16 v ++ restF xs F M (i + 1))) := by unfold Hid; rw [HX2.out, if_neg hc]; simp
            have hcc : i = 0 ∨ (i : Int) = F + M := by omega
            have HB5 := HBl
            have hBd5 := HBd
            have hHc := Lib.hid hcc
            have hsz5 := HB5.out.size
            have HE5 := HEr
            clear HX2 hc
            by_cases hp : 0 < i
            · have hb2 : ((i : Int) == F + M) = true := by rw [beq_iff_eq]; omega
              clear hcc
              go_wp2_with fail
              refine (lib_FormatUint v _ hv HE5).mono ?_
              rintro e w6 ⟨⟨d, rfl, hd⟩, hB6⟩
              have HB6 := Lib.hid (HB5.out.trans (hB6.out.mono hsz5))
              have hsz6 := HB6.out.size
              have hds : d.size ≤ 4 := by rw [← bl_length, hd.out]; exact digs16_len v hv
              go_wp2_with fail
              refine (bld_write w0.heap.size w0.heap.size T d _ (Lib.hid (hBd5.out.bel hB6.out)) (by omega) (by omega) hsz6).mono ?_
              rintro e w7 ⟨rfl, hBd7, hB7⟩
              have HB7 := Lib.hid (HB6.out.trans hB7.out)
              rw [hd.out] at hBd7
              go_wp2
              go_roundg q
              case measure => omega
              case rel => exact ⟨i + 1, T ++ digs 16 v, rfl, by omega, by have := digs16_len v hv; simp; omega, by unfold Hid; rw [HX3.out, List.append_assoc], hBd7, HB7⟩
            · have h0 : (i : Int) ≤ 0 := by omega
              clear hcc hp
              go_wp2_with fail
              refine (lib_FormatUint v _ hv HE5).mono ?_
              rintro e w6 ⟨⟨d, rfl, hd⟩, hB6⟩
              have HB6 := Lib.hid (HB5.out.trans (hB6.out.mono hsz5))
              have hsz6 := HB6.out.size
              have hds : d.size ≤ 4 := by rw [← bl_length, hd.out]; exact digs16_len v hv
              go_wp2_with fail
              refine (bld_write w0.heap.size w0.heap.size T d _ (Lib.hid (hBd5.out.bel hB6.out)) (by omega) (by omega) hsz6).mono ?_
              rintro e w7 ⟨rfl, hBd7, hB7⟩
              have HB7 := Lib.hid (HB6.out.trans hB7.out)
              rw [hd.out] at hBd7
              go_wp2
              go_roundg q
              case measure => omega
              case rel => exact ⟨i + 1, T ++ digs 16 v, rfl, by omega, by have := digs16_len v hv; simp; omega, by unfold Hid; rw [HX3.out, List.append_assoc], hBd7, HB7⟩
end Go.Proofs.YtbpkkgaaeodimaaGreatDoor
namespace Go.Proofs.YtbpkkgaaeodimaaGreatDoor
open Go.RowKit

set_option maxHeartbeats 4000000 in
set_option maxRecDepth 100000 in
theorem ref2_Text6 (xs : List Nat) (w : World) (h8 : xs.length = 8) (hv : ∀ x ∈ xs, x ≤ 65535) :
    Calls Tryz.prog 151 #[.agg (u16s xs).toArray] w fun e w' => (∃ t, e = .returned (.string t) ∧ Hid (bl t = text6S xs)) ∧ Hid (Bel w w') := by
  have H8 := Lib.hid h8
  have HV := Lib.hid hv
  clear h8 hv
  go_enter Tryz.func151, Tryz.ntmps151
  go_upto_block 0 with (fail)
  have HR : Hid (RdAt (w.alloc (.cells (u16s xs).toArray 150)) w.heap.size (u16s xs)) := RdAt.alloc w _ _
  have HB0 : Hid (Bel w (w.alloc (.cells (u16s xs).toArray 150))) := (Below.refl _ w).alloc (Nat.le_refl _) _
  generalize w.alloc (.cells (u16s xs).toArray 150) = w0 at *
  go_cut [3, 4] (fun v3 v4 wc => (v3 = .int .i64 (bestF xs 8).1 ∧ v4 = .int .i64 (bestF xs 8).2) ∧ w0 = wc)
  case first =>
    go_wp2_with fail
    go_loopg [3, 4, 5] 9 (fun r v3 v4 v5 wr => ∃ (i m : Nat) (f : Int), v3 = .int .i64 f ∧ v4 = .int .i64 m ∧ v5 = .int .i64 i ∧ i + r = 9 ∧ Hid (bestF xs i = (f, m)) ∧ w0 = wr)
    case atStart => exact ⟨0, 1, -1, rfl, rfl, rfl, rfl, rfl, rfl⟩
    case round =>
      obtain ⟨i, m, f, rfl, rfl, rfl, hi, HF, rfl⟩ := hrel
      by_cases hlt : i < 8
      · have hrl := run_le xs i
        rw [H8.out] at hrl
        obtain ⟨n, hn⟩ : ∃ n, runAt xs i = n := ⟨_, rfl⟩
        rw [hn] at hrl
        have HN := Lib.hid hn
        clear hn
        have hmm : m ≤ 8 := by
          have := best_facts xs i
          rw [HF.out, H8.out] at this
          rcases this with ⟨_, h⟩ | ⟨_, _, _, h⟩
          · have : m = 1 := h; omega
          · have h : _ + m ≤ 8 := h; omega
        go_upto_block 2 with (fail)
        have hd : decide ((i : Int) < 8) = true := by simp; omega
        rw [hd]
        clear hd
        go_cut [6] (fun v6 wc => v6 = .int .i64 n ∧ w0 = wc)
        case first =>
          go_wp2_with fail
          go_loopg [6] n (fun q v6 wq => ∃ (k : Nat), v6 = .int .i64 k ∧ k + q = n ∧ w0 = wq)
          case atStart => exact ⟨0, rfl, by omega, rfl⟩
          case round =>
            obtain ⟨k, rfl, hk, rfl⟩ := hrel
            have hsh := run_shift xs k i (by rw [HN.out]; omega)
            rw [HN.out] at hsh
            cases gk with
            | zero =>
              obtain rfl : k = n := by omega
              by_cases h8' : i + k < 8
              · obtain ⟨v, hx, hv0⟩ := run_nil (xs := xs) (j := i + k) (by rw [hsh]; omega) (by rw [H8.out]; exact h8')
                have hcell := u16_cell HR.out hx
                have hv0' : ((v : Int) == 0) = false := by rw [beq_eq_false_iff_ne]; omega
                clear hsh hx
                go_wp2
                go_meet
                exact ⟨rfl, rfl⟩
              · clear hsh
                go_wp2
                go_meet
                exact ⟨rfl, rfl⟩
            | succ q =>
              have hx := run_pos (xs := xs) (j := i + k) (by rw [hsh]; omega)
              have hcell := u16_cell HR.out hx
              have h8' : i + k < 8 := by omega
              clear hsh hx
              go_wp2
              go_roundg q
              case measure => omega
              case rel => exact ⟨k + 1, rfl, by omega, rfl⟩
        case rest =>
          obtain ⟨rfl, rfl⟩ := hcut
          have hj : bestF xs (i + 1) = if m < n then ((i : Int), n) else (f, m) := by rw [bestF, HF.out, HN.out]
          have HJ := Lib.hid hj
          clear hj
          by_cases hnm : m < n
          · have HJ2 : Hid (bestF xs (i + 1) = ((i : Int), n)) := HJ.out.trans (if_pos hnm)
            clear HJ
            go_wp2
            go_roundg (8 - i)
            case measure => omega
            case rel => exact ⟨i + 1, n, i, rfl, rfl, rfl, by omega, HJ2, rfl⟩
          · have HJ2 : Hid (bestF xs (i + 1) = (f, m)) := HJ.out.trans (if_neg hnm)
            clear HJ
            go_wp2
            go_roundg (8 - i)
            case measure => omega
            case rel => exact ⟨i + 1, m, f, rfl, rfl, rfl, by omega, HJ2, rfl⟩
      · have HE2 : Hid (bestF xs 8 = (f, m)) := by have := best_end H8.out i (by omega); unfold Hid; rw [← this]; exact HF.out
        go_wp2
        go_meet
        exact ⟨⟨by rw [HE2.out], by rw [HE2.out]⟩, rfl⟩
  case rest =>
    obtain ⟨⟨rfl, rfl⟩, rfl⟩ := hcut
    have hbf := best_facts xs 8
    obtain ⟨F, M, hFM⟩ : ∃ F M, bestF xs 8 = (F, M) := ⟨_, _, rfl⟩
    have HT : Hid (text6S xs = restF xs F M 0) := by unfold Hid text6S; rw [hFM]
    rw [hFM, H8.out] at hbf
    rw [hFM]
    have hbf : (F = -1 ∧ M = 1) ∨ (∃ f : Nat, F = f ∧ 2 ≤ M ∧ f + M ≤ 8) := hbf
    have hF1 : -1 ≤ F := by rcases hbf with ⟨h, _⟩ | ⟨f, h, _⟩ <;> omega
    have hF2 : F + M ≤ 8 := by rcases hbf with ⟨h, _⟩ | ⟨f, h, _⟩ <;> omega
    have hM1 : 1 ≤ M := by rcases hbf with ⟨h, _⟩ | ⟨f, h, _⟩ <;> omega
    have hM8 : M ≤ 9 := by omega
    have HFM : Hid ((F = -1 ∧ M = 1) ∨ (∃ f : Nat, F = f ∧ 2 ≤ M ∧ f + M ≤ 8)) := hbf
    clear hFM hbf
    go_wp2
    go_loopg [7, 8] 8 (fun r v7 v8 wr => ∃ (i : Nat) (t : ByteArray), v7 = .string t ∧ v8 = .int .i64 i ∧ i + r = 8 ∧ t.size ≤ 5 * i ∧ Hid (text6S xs = bl t ++ restF xs F M i) ∧ ((i = 0 ∧ bl t = []) ∨ (0 < i ∧ ∃ (T : List UInt8) (c : UInt8), bl t = T ++ [c] ∧ (c = 58 ↔ (i : Int) = F + M))) ∧ ((i : Int) ≤ F ∨ F + M ≤ i) ∧ w0 = wr)
    case atStart => exact ⟨0, _, rfl, rfl, rfl, by decide, HT, .inl ⟨rfl, rfl⟩, by rcases HFM.out with ⟨h1, h2⟩ | ⟨f, h1, h2, h3⟩ <;> omega, rfl⟩
    case round =>
      obtain ⟨i, t, rfl, rfl, hi, ht, HX, hL, hG, rfl⟩ := hrel
      have HGG := Lib.hid hG
      clear hG
      have HLL := Lib.hid hL
      clear hL
      cases gk with
      | zero =>
        obtain rfl : i = 8 := by omega
        have HX2 : Hid (text6S xs = bl t) := by unfold Hid; rw [HX.out, rest_end _ _ _ _ (Nat.le_refl _), List.append_nil]
        clear HX HT
        go_wp2
        go_ret
        exact ⟨⟨_, rfl, HX2.out.symm⟩, HB0⟩
      | succ q =>
        have hi8 : i < 8 := by omega
        by_cases hiF : (i : Int) = F
        · have HX2 : Hid (text6S xs = (bl t ++ [58, 58]) ++ restF xs F M (i + (M - 1) + 1)) := by unfold Hid; rw [HX.out, rest_gap hi8 hiF, List.append_assoc]
          have hb : ((i : Int) == F) = true := by rw [beq_iff_eq]; exact hiF
          have hiM : i + M ≤ 8 := by omega
          have HIF := Lib.hid hiF
          clear HX HT hiF
          go_wp2
          go_roundg (8 - (i + M))
          case measure => omega
          case rel =>
            refine ⟨i + M, _, rfl, by congr 1 <;> omega, by omega, ?_, ?_, ?_, by have := HIF.out; omega, rfl⟩
            · rw [ByteArray.size_append]; show t.size + 2 ≤ _; omega
            · rw [show i + M = i + (M - 1) + 1 by omega]; unfold Hid; rw [bl_append]; exact HX2.out
            · refine .inr ⟨by omega, bl t ++ [58], 58, by rw [bl_append, List.append_assoc]; rfl, ?_⟩
              have := HIF.out
              constructor
              · intro _; omega
              · intro _; rfl
        · obtain ⟨v, hx⟩ : ∃ v, xs[i]? = some v := ⟨_, List.getElem?_eq_getElem (by rw [H8.out]; exact hi8)⟩
          have hv := HV.out v (List.mem_of_getElem? hx)
          have hcell := u16_cell HR.out hx
          have hone := rest_one (m := M) hi8 hiF hx
          have hb : ((i : Int) == F) = false := by rw [beq_eq_false_iff_ne]; exact hiF
          have hv2 : (v : Int) ≤ 65535 := by omega
          have HXX := HX.out
          rw [hone] at HXX
          have HX2 := Lib.hid HXX
          have HNX : Hid (((i : Int) + 1) ≠ F + M ∧ ((i : Int) + 1 ≤ F ∨ F + M ≤ (i : Int) + 1)) := by
            have := HGG.out
            unfold Hid
            omega
          clear HX HT hiF hx hone HXX
          rcases HLL.out with ⟨hz, hT⟩ | ⟨hp, T, c, hT, hc⟩
          · have hte : t.toList.isEmpty = true := by rw [str_empty, hT]
            have HX3 : Hid (text6S xs = bl t ++ (digs 16 v ++ restF xs F M (i + 1))) := by unfold Hid; rw [HX2.out, if_neg (fun h => by omega)]; simp
            have HZ := Lib.hid hz
            clear hz hT
            go_wp2_with (go_at_call 180; go_must (refine (ref2_digits v _ hv).mono ?_); rintro e w5 ⟨⟨d, rfl, hd⟩, rfl⟩; have hds : d.size ≤ 4 := by rw [← bl_length, hd.out]; exact digs16_len v hv)
            go_roundg q
            case measure => omega
            case rel =>
              obtain ⟨D, c2, hD, hc2⟩ := digs_last v
              have hTT : bl (t ++ d) = bl t ++ digs 16 v := by rw [bl_append, hd.out]
              refine ⟨i + 1, _, rfl, rfl, by omega, ?_, ?_, ?_, by have := HNX.out; omega, rfl⟩
              · rw [← bl_length, hTT]; have := digs16_len v hv; simp [bl_length]; omega
              · unfold Hid; rw [hTT, HX3.out]; simp
              · refine .inr ⟨by omega, bl t ++ D, c2, by rw [hTT, hD]; simp, ?_⟩
                constructor
                · intro h; exact absurd h hc2
                · intro h; exfalso; have := HNX.out; omega
          · have hts : 0 < t.size := by rw [← bl_length, hT]; simp
            have hte : t.toList.isEmpty = false := by rw [Bool.eq_false_iff, ne_eq, str_empty, hT]; simp
            have hcc : (t[t.size - 1]'(by omega)) = c := by
              have h1 := bl_get t (t.size - 1) (by omega)
              rw [hT] at h1
              have h2 : (T ++ [c]).length = t.size := by rw [← hT, bl_length]
              rw [List.length_append, List.length_singleton] at h2
              rw [List.getElem?_append_right (by omega), show t.size - 1 - T.length = 0 by omega] at h1
              exact (Option.some.inj h1).symm
            by_cases h58 : c = 58
            · have hq : (((t[t.size - 1]'(by omega)).toNat : Int) == 58) = true := by rw [hcc, h58]; rfl
              have HX3 : Hid (text6S xs = bl t ++ (digs 16 v ++ restF xs F M (i + 1))) := by unfold Hid; rw [HX2.out, if_neg (fun h => h.2 (hc.1 h58))]; simp
              clear hcc hc hT h58
              go_wp2_with (go_at_call 180; go_must (refine (ref2_digits v _ hv).mono ?_); rintro e w5 ⟨⟨d, rfl, hd⟩, rfl⟩; have hds : d.size ≤ 4 := by rw [← bl_length, hd.out]; exact digs16_len v hv)
              go_roundg q
              case measure => omega
              case rel =>
                obtain ⟨D, c2, hD, hc2⟩ := digs_last v
                have hTT : bl (t ++ d) = bl t ++ digs 16 v := by rw [bl_append, hd.out]
                refine ⟨i + 1, _, rfl, rfl, by omega, ?_, ?_, ?_, by have := HNX.out; omega, rfl⟩
                · rw [← bl_length, hTT]; have := digs16_len v hv; simp [bl_length]; omega
                · unfold Hid; rw [hTT, HX3.out]; simp
                · refine .inr ⟨by omega, bl t ++ D, c2, by rw [hTT, hD]; simp, ?_⟩
                  constructor
                  · intro h; exact absurd h hc2
                  · intro h; exfalso; have := HNX.out; omega
            · have hq : (((t[t.size - 1]'(by omega)).toNat : Int) == 58) = false := by
                rw [beq_eq_false_iff_ne, hcc]; intro h; exact h58 (UInt8.toNat_inj.1 (by have : (58 : UInt8).toNat = 58 := rfl; omega))
              have HX3 : Hid (text6S xs = bl t ++ ([58] ++ (digs 16 v ++ restF xs F M (i + 1)))) := by unfold Hid; rw [HX2.out, if_pos ⟨hp, fun h => h58 (hc.2 h)⟩]
              clear hcc hc hT h58
              go_wp2_with (go_at_call 180; go_must (refine (ref2_digits v _ hv).mono ?_); rintro e w5 ⟨⟨d, rfl, hd⟩, rfl⟩; have hds : d.size ≤ 4 := by rw [← bl_length, hd.out]; exact digs16_len v hv)
              go_roundg q
              case measure => omega
              case rel =>
                obtain ⟨D, c2, hD, hc2⟩ := digs_last v
                have hTT : bl (t ++ ⟨#[58]⟩ ++ d) = bl t ++ [58] ++ digs 16 v := by rw [bl_append, hd.out, bl_append]; rfl
                refine ⟨i + 1, _, rfl, rfl, by omega, ?_, ?_, ?_, by have := HNX.out; omega, rfl⟩
                · rw [← bl_length, hTT]; have := digs16_len v hv; simp [bl_length]; omega
                · unfold Hid; rw [hTT, HX3.out]; simp
                · refine .inr ⟨by omega, bl t ++ [58] ++ D, c2, by rw [hTT, hD]; simp, ?_⟩
                  constructor
                  · intro h; exact absurd h hc2
                  · intro h; exfalso; have := HNX.out; omega
end Go.Proofs.YtbpkkgaaeodimaaGreatDoor
namespace Go.Proofs.YtbpkkgaaeodimaaGreatDoor
open Go.RowKit

/-- What no host may hold. -/
def badL : List UInt8 := [0, 9, 10, 13, 32, 35, 47, 58, 60, 62, 63, 64, 91, 92, 93, 94, 124]
def badS (x : UInt8) : Bool := badL.contains x
def badB : ByteArray := ⟨#[0, 9, 10, 13, 32, 35, 47, 58, 60, 62, 63, 64, 91, 92, 93, 94, 124]⟩
theorem bad_get (k : Nat) (h : k < badB.size) : badL.take (k + 1) = badL.take k ++ [badB[k]] := bl_take badB k h
theorem bad_hit {k : Nat} {x : UInt8} (h : k < badB.size) (e : ((badB[k].toNat : Int) == (x.toNat : Int)) = true) : badS x = true := by
  have e2 : badB[k] = x := UInt8.toNat_inj.1 (by rw [beq_iff_eq] at e; omega)
  have hm : badB[k] ∈ badL := List.mem_of_getElem? (bl_get badB k h)
  rw [e2] at hm
  unfold badS; simpa using hm
theorem bad_step {k : Nat} {x : UInt8} (h : k < badB.size) (e : ((badB[k].toNat : Int) == (x.toNat : Int)) = false) (hi : (badL.take k).contains x = false) : (badL.take (k + 1)).contains x = false := by
  have e2 : badB[k] ≠ x := fun h2 => by rw [h2] at e; simp at e
  have hi2 : ¬ x ∈ badL.take k := by simpa using hi
  rw [bad_get k h, Bool.eq_false_iff]
  intro hc
  have hc : x ∈ badL.take k ++ [badB[k]] := by simpa using hc
  rcases List.mem_append.1 hc with h1 | h1
  · exact hi2 h1
  · exact e2 (List.mem_singleton.1 h1).symm
set_option maxHeartbeats 2000000 in
set_option maxRecDepth 100000 in
theorem ref2_bad (x : UInt8) (w : World) : Calls Tryz.prog 152 #[.int .u8 x.toNat] w fun e w' => e = .returned (.bool (badS x)) ∧ w = w' := by
  have hbs : badB.size = 17 := rfl
  have hbl : bl badB = badL := rfl
  go_enter Tryz.func152, Tryz.ntmps152
  go_wp2
  go_loop [3] (fun i => ∃ k : Nat, k ≤ 17 ∧ i = .int .i64 k ∧ Hid ((badL.take k).contains x = false)) (fun i => 17 - (intOf i).toNat)
  case atStart => exact ⟨0, by omega, rfl, rfl⟩
  case round =>
    obtain ⟨k, hk, rfl, HI⟩ := hrel
    by_cases hlt : k < 17
    · go_wp2
      · rename_i e _
        go_ret
        exact ⟨ret_bool (bad_hit (show k < badB.size from hlt) e).symm, rfl⟩
      · rename_i e
        exact ⟨⟨k + 1, by omega, by go_num, bad_step (show k < badB.size from hlt) e HI.out⟩, by simp [intOf]; omega⟩
    · have HF : Hid (badS x = false) := by have := HI.out; rw [List.take_of_length_le (by show 17 ≤ k; omega)] at this; exact this
      go_wp2
      go_ret
      exact ⟨ret_bool HF.out.symm, rfl⟩
end Go.Proofs.YtbpkkgaaeodimaaGreatDoor
namespace Go.Proofs.YtbpkkgaaeodimaaGreatDoor
open Go.RowKit

theorem enc_pick (r : Int) (h0 : 128 ≤ r) (hv : Lib.validRune r = true) : ∃ (E : ByteArray) (m : Nat), Utf8.encode r = E ∧ E.size = m + 1 ∧ 1 ≤ m ∧ m ≤ 3 ∧ ∀ h : m < E.size, 128 ≤ (E[m]'h).toNat := by
  have hvv : Utf8.valid r = true := by
    unfold Lib.validRune at hv
    rw [decide_eq_true_eq] at hv
    unfold Utf8.valid
    simp only [Bool.or_eq_true, Bool.and_eq_true, decide_eq_true_eq]
    omega
  obtain ⟨e1, e2, e3⟩ := encode_facts r hvv h0
  exact ⟨_, (Utf8.encode r).size - 1, rfl, by omega, by omega, by omega, e3⟩
theorem asc_part {l : List UInt8} (h : Asc l) (n k : Nat) (b : UInt8) (hb : 128 ≤ b.toNat) : Lib.indexByte ((l.drop k).take n) b < 0 := by
  rw [idx_lt, Bool.eq_false_iff]
  intro hc
  have := h b ((List.drop_sublist _ _).subset ((List.take_sublist _ _).subset (List.contains_iff_mem.1 hc)))
  omega
theorem bel_drewA (w : World) (n : Nat) : Bel w (w.drewN n).drew := ⟨rfl, rfl, rfl, Nat.le_refl _, fun _ _ => rfl⟩
theorem bel_drew (w : World) : Bel w w.drew := ⟨rfl, rfl, rfl, Nat.le_refl _, fun _ _ => rfl⟩
set_option maxHeartbeats 2000000 in
set_option maxRecDepth 100000 in
theorem lib_IndexRune (t : ByteArray) (r : Int) (w : World) (ht : Hid (Asc (bl t))) (_hts : t.size ≤ 1000) (h0 : 128 ≤ r) (h1 : r ≤ 2147483647) :
    Calls Tryz.prog 147 #[.string t, .int .i32 r] w fun e w' => e = .returned (.int .i64 (-1)) ∧ Hid (Bel w w') := by
  by_cases hne : r = 65533
  · subst hne
    clear h0 h1
    go_enter Tryz.func147, Tryz.ntmps147
    go_wp2_with fail
    go_loopg [5] t.size (fun g _ wr => ∃ i : Nat, i + g = t.size ∧ Hid (wr.heap[w.heap.size]? = some (.stringIter t i)) ∧ Hid (Bel w wr))
    case atStart => exact ⟨0, by omega, World.iter_heap w t 0, (Below.refl _ _).alloc (Nat.le_refl _) _⟩
    case round =>
      obtain ⟨i, hig, HW, HB⟩ := hrel
      cases gk with
      | zero =>
        have hnx := fun ty => Lib.run_next_end_at (P := Tryz.prog) wr w.heap.size t i ty HW.out (by omega)
        go_wp2
        go_ret
        exact ⟨rfl, HB⟩
      | succ g =>
        have hi : i < t.size := by omega
        have hta := bl_asc ht.out i hi
        have hnx := fun ty => Lib.run_next_ascii_at (P := Tryz.prog) wr w.heap.size t i ty HW.out hi hta
        have HWn := Lib.hid (Lib.iterAt_heap wr w.heap.size t i (i + 1) HW.out)
        have HBn := Lib.hid (Lib.below_iterAt HB.out (Nat.le_refl _) t (i + 1))
        have hne : ((t[i].toNat : Int) == 65533) = false := by rw [beq_eq_false_iff_ne]; omega
        go_wp2
        go_roundg g
        case measure => omega
        case rel => exact ⟨i + 1, by omega, HWn, HBn⟩
  · have hb : (r == 65533) = false := by simp [hne]
    cases hv : Lib.validRune r
    · have HVV := Lib.hid hv
      clear hv
      go_enter Tryz.func147, Tryz.ntmps147
      go_wp2_with (go_at_call 178; go_must (refine (Tryz.utf8_ValidRune r _).mono ?_); rintro e w' ⟨rfl, hw⟩; rw [hw, HVV.out])
      go_ret
      exact ⟨rfl, by unfold Hid; exact Below.refl _ _⟩
    · obtain ⟨E, m, hE, hm, hm1, hm3, hl⟩ := enc_pick r h0 hv
      have hmE : m < E.size := by omega
      have hlast := hl hmE
      have HVV := Lib.hid hv
      clear hv hl
      go_enter Tryz.func147, Tryz.ntmps147
      go_wp2_with (go_at_call 178; go_must (refine (Tryz.utf8_ValidRune r _).mono ?_); rintro e w' ⟨rfl, hw⟩; rw [hw, HVV.out])
      go_step3
      go_wp2
      have hE1 := Lib.hid hE
      clear hE
      go_loopg [9] 1 (fun g v9 wr => v9 = .int .i64 m ∧ w = wr)
      case atStart => exact ⟨by first | rfl | (congr 1; omega), rfl⟩
      case round =>
        obtain ⟨rfl, rfl⟩ := hrel
        have HMM := Lib.hid hm
        clear hm
        by_cases hbm : m < t.size
        · have hba : (t[m]).toNat < 128 := bl_asc ht.out m hbm
          have hneb : ((t[m].toNat : Int) == (E[m].toNat : Int)) = false := by rw [beq_eq_false_iff_ne]; omega
          go_wp2_with fail
          go_step3
          go_upto_region 6 with (fail)
          go_quiet (fail)
          go_upto_region 7 with (fail)
          have w1 : IntKind.i64.wrap ((m : Int) + 1) = (m : Int) + 1 := IntWalk.i64_in _ (by omega)
          have p1 : 0 ≤ (m : Int) + 1 := by omega
          have p2 : (m : Int) + 1 ≤ t.size := by omega
          have p3 : ((m : Int) + 1).toNat = m + 1 := by omega
          have HX : Hid (∀ n k, Lib.indexByte ((t.data.toList.drop k).take n) E[m] < 0) := fun n k => asc_part ht.out n k _ hlast
          go_still_tail 7, (by kernel_rfl)
          change wpList _ _ _ _ _ (w.drewN nq).drew
          have HB2 : Hid (Bel w (w.drewN nq).drew) := bel_drewA w nq
          generalize (w.drewN nq).drew = w2 at *
          go_wp2_with (go_at_call 82; go_must (refine (Tryz.strings_IndexByte _ _ _).mono ?_); rintro e w' ⟨rfl, hw⟩; rw [hw])
          · rw [Exit.noGoto_ret]
            simp only [Exit.inBlock, Exit.then, Exit.noGoto_ret]
            go_ret
            exact ⟨rfl, HB2⟩
          · exfalso
            have hq := HX.out (t.size - (m + 1)) (m + 1)
            omega
        · go_wp2_with fail
          try simp only [Exit.inBlock, Exit.noGoto_ret]
          go_ret
          exact ⟨rfl, by unfold Hid; exact Below.refl _ _⟩

theorem decodeN_tail (n b0 b1 b2 b3 : Nat) :
    (2 ≤ (Lib.decodeN n b0 b1 b2 b3).2 → b1 / 64 = 2) ∧ (3 ≤ (Lib.decodeN n b0 b1 b2 b3).2 → b2 / 64 = 2) ∧ (4 ≤ (Lib.decodeN n b0 b1 b2 b3).2 → b3 / 64 = 2) ∧ (Lib.decodeN n b0 b1 b2 b3).2 ≤ 4 ∧ (1 ≤ n → (Lib.decodeN n b0 b1 b2 b3).2 ≤ n) := by
  unfold Lib.decodeN
  repeat' split
  all_goals (simp only; omega)
theorem decode_tail (s : ByteArray) (i j : Nat) (hi : i < s.size) (hh : 128 ≤ s[i].toNat) (h1 : i ≤ j) (h2 : j < i + (Utf8.decode s i).2) (x : UInt8) (hx : (bl s)[j]? = some x) : 128 ≤ x.toNat := by
  rw [Lib.decode_N] at h2
  obtain ⟨a, b, c, d, _⟩ := decodeN_tail (s.data.toList.length - i) (s.data.toList.getD i 0).toNat (s.data.toList.getD (i + 1) 0).toNat (s.data.toList.getD (i + 2) 0).toNat (s.data.toList.getD (i + 3) 0).toNat
  have hg : s.data.toList.getD j 0 = x := by rw [List.getD_eq_getElem?_getD]; change ((bl s)[j]?).getD 0 = x; rw [hx]; rfl
  have hj : j = i ∨ j = i + 1 ∨ j = i + 2 ∨ j = i + 3 := by omega
  rcases hj with rfl | rfl | rfl | rfl
  · rw [bl_get s j hi] at hx; injection hx with hx; rw [← hx]; exact hh
  · have := a (by omega); rw [hg] at this; omega
  · have := b (by omega); rw [hg] at this; omega
  · have := c (by omega); rw [hg] at this; omega
theorem decode_end (s : ByteArray) (i : Nat) (hi : i < s.size) : i + (Utf8.decode s i).2 ≤ s.size := by
  rw [Lib.decode_N]
  have := (decodeN_tail (s.data.toList.length - i) (s.data.toList.getD i 0).toNat (s.data.toList.getD (i + 1) 0).toNat (s.data.toList.getD (i + 2) 0).toNat (s.data.toList.getD (i + 3) 0).toNat).2.2.2.2
  have hl : s.data.toList.length = s.size := bl_length s
  rw [hl] at this ⊢
  have := this (by omega)
  omega
theorem noany_jump {s : ByteArray} {t : List UInt8} (ht : Asc t) {i : Nat} (hi : i < s.size) (hh : 128 ≤ s[i].toNat) (h : Lib.NoAny (bl s) t i) : Lib.NoAny (bl s) t (i + (Utf8.decode s i).2) := by
  intro j b hj hb
  by_cases hlt : j < i
  · exact h j b hlt hb
  · have := decode_tail s i j hi hh (by omega) hj b hb
    rw [Bool.eq_false_iff]
    intro hc
    have := ht b (List.contains_iff_mem.1 hc)
    omega
theorem any_index (t : List UInt8) : ∀ l : List UInt8, decide (0 ≤ Lib.indexAny l t) = l.any t.contains
  | [] => rfl
  | b :: l => by
    have ih := any_index t l
    have hg := Lib.indexAny_ge t l
    rw [Lib.indexAny, List.any_cons]
    cases t.contains b
    · rw [← ih, if_neg Bool.false_ne_true, Bool.false_or]
      by_cases h : Lib.indexAny l t = -1
      · rw [h]; rfl
      · rw [if_neg (by simpa using h)]
        congr 1
        exact propext ⟨fun _ => by omega, fun _ => by omega⟩
    · rfl
theorem zero_set (w : World) : (zeroValue 95).run Tryz.prog w = .ok (.agg (Array.replicate 256 (.bool false))) w := (zero_of_info (show (Tryz.prog.info? 95).map (fun i => (i.zero, i.size)) = some (some (.agg (Array.replicate 256 (.bool false))), 256) by kernel_rfl)).1 w
set_option maxHeartbeats 2000000 in
set_option maxRecDepth 100000 in
theorem lib_IndexAny (s t : ByteArray) (w : World) (hs : s.size ≤ 1000000) (ht : Hid (Asc (bl t))) (ht2 : 2 ≤ t.size) (hts : t.size ≤ 1000) :
    Calls Tryz.prog 164 #[.string s, .string t] w fun e w' => e = .returned (.int .i64 (Lib.indexAny (bl s) (bl t))) ∧ Hid (Bel w w') := by
  by_cases h8 : 8 < s.size
  · refine (Tryz.strings_IndexAny_long zero_set s t w ht2 h8 (by omega) (by omega) (fun j b hb => ht.out b (List.mem_of_getElem? hb))).mono ?_
    rintro e w' ⟨rfl, rfl⟩
    exact ⟨rfl, ((Below.refl _ _).alloc (Nat.le_refl _) _).alloc (by simp) _⟩
  · have h8z : decide ((8 : Int) < (s.size : Int)) = false := by simp; omega
    have hemp : t.toList.isEmpty = false := by rw [Bool.eq_false_iff, ne_eq, str_empty]; intro h; have := bl_length t; rw [h] at this; simp at this; omega
    have hn1 : ((t.size : Int) == 1) = false := by rw [beq_eq_false_iff_ne]; omega
    go_enter Tryz.func164, Tryz.ntmps164
    go_wp2_with (go_at_call 190; go_must (refine (Tryz.strings_shouldUseASCIISet _ _).mono ?_); rintro e w' ⟨rfl, hw⟩; rw [hw, h8z])
    go_loopg [9, 10] s.size (fun g _ _ wr => ∃ i : Nat, i ≤ s.size ∧ s.size - i ≤ g ∧ Hid (wr.heap[w.heap.size]? = some (.stringIter s i)) ∧ Hid (Lib.NoAny (bl s) (bl t) i) ∧ Hid (Bel w wr))
    case atStart => exact ⟨0, by omega, by omega, World.iter_heap w s 0, Lib.NoAny.zero _ _, (Below.refl _ _).alloc (Nat.le_refl _) _⟩
    case round =>
      obtain ⟨i, hi, hig, HW, HN, HB⟩ := hrel
      by_cases hlt : i < s.size
      · have hnx := fun ty => Lib.run_next_any_at (P := Tryz.prog) wr w.heap.size s i ty HW.out hlt
        have HWn := Lib.hid (Lib.iterAt_heap wr w.heap.size s i (i + (Utf8.decode s i).2) HW.out)
        have HBn := Lib.hid (Lib.below_iterAt HB.out (Nat.le_refl _) s (i + (Utf8.decode s i).2))
        have hle := decode_end s i hlt
        have hpos := Lib.width_pos s i
        obtain ⟨g, rfl⟩ : ∃ g, gk = g + 1 := ⟨gk - 1, by omega⟩
        by_cases hx : s[i].toNat < 128
        · have hd1 := decode_ascii s i hlt hx
          rw [hd1] at hnx HWn HBn hle
          have hbk : ((s[i].toNat : Int)).toNat.toUInt8 = s[i] := back_u8 _
          cases hc : (bl t).contains s[i]
          · have hlt2 : Lib.indexByte t.data.toList s[i] < 0 := idx_lt.2 hc
            have HN2 : Hid (Lib.NoAny (bl s) (bl t) (i + 1)) := HN.out.succ (bl_get s i hlt) hc
            clear hc hd1 HW HB
            go_wp2_with (go_at_call 147; go_must (refine (Tryz.strings_IndexRune_ascii _ _ _ (by omega) (by omega)).mono ?_); rintro e w' ⟨rfl, hw⟩; rw [hw, hbk])
            go_roundg g
            case measure => omega
            case rel => exact ⟨i + 1, by omega, by omega, HWn, HN2, HBn⟩
          · have hlt2 : 0 ≤ Lib.indexByte t.data.toList s[i] := idx_ge.2 hc
            have HR : Hid (Lib.indexAny (bl s) (bl t) = i) := Lib.indexAny_hit HN.out (bl_get s i hlt) hc
            clear hc hd1 HW HB
            go_wp2_with (go_at_call 147; go_must (refine (Tryz.strings_IndexRune_ascii _ _ _ (by omega) (by omega)).mono ?_); rintro e w' ⟨rfl, hw⟩; rw [hw, hbk])
            go_ret
            exact ⟨by rw [HR.out]; rfl, HBn⟩
        · have HN2 : Hid (Lib.NoAny (bl s) (bl t) (i + (Utf8.decode s i).2)) := noany_jump ht.out hlt (by omega) HN.out
          have hd := (decode_high s i hlt (by omega)).1
          have hd2 := Lib.rune_le s i
          generalize Utf8.decode s i = d at *
          obtain ⟨c, n⟩ := d
          have hd' : 128 ≤ c := hd
          have hd2' : c ≤ 1114111 := hd2
          clear hd hd2 HW HB
          go_wp2_with (go_at_call 147; go_must (refine (lib_IndexRune t (c : Int) _ ht hts (by omega) (by omega)).mono ?_); rintro e w2 ⟨rfl, HB2⟩)
          have HW2 : Hid (w2.heap[w.heap.size]? = some (.stringIter s (i + n))) := by
            obtain ⟨_, _, _, _, hk⟩ := HB2.out
            exact (hk _ (Array.getElem?_eq_some_iff.1 HWn.out).1).trans HWn.out
          have HB3 : Hid (Bel w w2) := HBn.out.trans (HB2.out.mono HBn.out.size)
          go_roundg g
          case measure => omega
          case rel => exact ⟨i + n, by omega, by omega, HW2, HN2, HB3⟩
      · obtain rfl : i = s.size := by omega
        have hnx := fun ty => Lib.run_next_end_at (P := Tryz.prog) wr w.heap.size s s.size ty HW.out (by omega)
        have HR : Hid (Lib.indexAny (bl s) (bl t) = -1) := Lib.indexAny_none (by rw [bl_length]; exact HN.out)
        go_wp2_with fail
        go_ret
        exact ⟨by rw [HR.out]; rfl, HB⟩
theorem lib_ContainsAny (s t : ByteArray) (w : World) (hs : s.size ≤ 1000000) (ht : Hid (Asc (bl t))) (ht2 : 2 ≤ t.size) (hts : t.size ≤ 1000) :
    Calls Tryz.prog 194 #[.string s, .string t] w fun e w' => e = .returned (.bool ((bl s).any (bl t).contains)) ∧ Hid (Bel w w') := by
  have HA : Hid (decide (0 ≤ Lib.indexAny (bl s) (bl t)) = (bl s).any (bl t).contains) := any_index _ _
  go_enter Tryz.func194, Tryz.ntmps194
  go_wp2_with fail
  refine (lib_IndexAny s t w hs ht ht2 hts).mono ?_
  rintro e w1 ⟨rfl, HB⟩
  go_wp2
  go_ret
  exact ⟨by rw [← HA.out]; rfl, HB⟩
end Go.Proofs.YtbpkkgaaeodimaaGreatDoor
