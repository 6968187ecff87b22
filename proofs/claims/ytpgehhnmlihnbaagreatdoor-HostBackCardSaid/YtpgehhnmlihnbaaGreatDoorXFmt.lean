import Derived.Test.YtpgehhnmlihnbaaGreatDoorXT6S
namespace Go.Proofs.YtpgehhnmlihnbaaGreatDoor
open Go.RowKit

theorem lib_pow2 (w : World) : Calls Tryz.prog 119 #[.int .i64 16] w fun e w' => e = .returned (.bool true) ∧ w = w' := by
  go_enter Tryz.func119, Tryz.ntmps119
  go_wp2
  go_ret
  exact ⟨ret_bool (by decide +kernel), rfl⟩
set_option maxRecDepth 100000 in
theorem lib_tz64 (w : World) (HE : Hid (Env w)) : Calls Tryz.prog 132 #[.int .u64 16] w fun e w' => e = .returned (.int .i64 4) ∧ w = w' := by
  have htz := HE.out.tz
  have he : Go.bits .and .u64 16 (IntKind.u64.wrap (-16)) = 16 := by decide +kernel
  go_enter Tryz.func132, Tryz.ntmps132
  go_wp2
  go_ret
  exact ⟨rfl, rfl⟩
theorem lib_tz (w : World) (HE : Hid (Env w)) : Calls Tryz.prog 120 #[.int .u64 16] w fun e w' => e = .returned (.int .i64 4) ∧ w = w' := by
  go_enter Tryz.func120, Tryz.ntmps120
  go_wp2_with fail
  refine (lib_tz64 _ HE).mono ?_
  rintro e w1 ⟨rfl, rfl⟩
  go_wp2
  go_ret
  exact ⟨rfl, rfl⟩
theorem thaw {w : World} {g : Nat} {cs : Array Value} {t : TypeId} (h : w.heap[g]? = some (.cells cs t (0, 0))) (k : Nat) : w.frozen? ⟨g, k, none⟩ = false := by
  unfold World.frozen?; simp [h]
theorem dgc_arr : ∀ d : Fin 16, ((⟨#[48, 49, 50, 51, 52, 53, 54, 55, 56, 57, 97, 98, 99, 100, 101, 102, 103, 104, 105, 106, 107, 108, 109, 110, 111, 112, 113, 114, 115, 116, 117, 118, 119, 120, 121, 122]⟩ : ByteArray)[d.val]'(Nat.lt_of_lt_of_le d.isLt (by decide))) = dgc d.val := by decide +kernel
theorem dgc_at (d : Nat) (hd : d < 16) (i : Nat) (hi : i = d) (h : i < (⟨#[48, 49, 50, 51, 52, 53, 54, 55, 56, 57, 97, 98, 99, 100, 101, 102, 103, 104, 105, 106, 107, 108, 109, 110, 111, 112, 113, 114, 115, 116, 117, 118, 119, 120, 121, 122]⟩ : ByteArray).size) : (⟨#[48, 49, 50, 51, 52, 53, 54, 55, 56, 57, 97, 98, 99, 100, 101, 102, 103, 104, 105, 106, 107, 108, 109, 110, 111, 112, 113, 114, 115, 116, 117, 118, 119, 120, 121, 122]⟩ : ByteArray)[i] = dgc d := by
  subst hi
  exact dgc_arr ⟨i, hd⟩
theorem and15 (k : Nat) (h : k ≤ 65535) : Go.bits .and .u64 (k : Int) 15 = ((k % 16 : Nat) : Int) := by
  have := bits_and_u64_nat k 15 (by omega) (by omega)
  rw [show ((15 : Nat) : Int) = 15 from rfl] at this
  rw [this, show (15 : Nat) = 2 ^ 4 - 1 from rfl, Nat.and_two_pow_sub_one_eq_mod]
theorem row_put {L : List Value} {t : List UInt8} {j : Nat} {x : UInt8} {n : Int} (hl : L.length = 65) (hj : j + 1 + t.length = 65) (hd : L.drop (65 - t.length) = t.map u8v) (hx : n = x.toNat) :
    (L.set j (.int .u8 n)).drop (65 - (x :: t).length) = (x :: t).map u8v := by
  subst hx
  have e : 65 - (x :: t).length = j := by simp; omega
  have e2 : 65 - t.length = j + 1 := by omega
  rw [e2] at hd
  rw [e]
  have hg : (L.set j (.int .u8 (x.toNat : Int)))[j]? = some (.int .u8 (x.toNat : Int)) := by rw [List.getElem?_set_self (by omega)]
  rw [drop_get hg, List.drop_set_of_lt (by omega), hd]; rfl
theorem arr65 : Tryz.prog.arrayLen 131 = 65 := by kernel_rfl
theorem size5 : (Tryz.prog.info? 5).map (fun i => i.size) = some 1 := by kernel_rfl
set_option maxRecDepth 100000 in
theorem slice65 {ops : Array Oper} {Q : Exit → Act → World → Prop} {a : Act} {rest : List Oper} {o : Oper} {W : World} (hgd : o.guard = none) (x lo : Operand) (ho : o.op = .slice 131 x (some lo) none none) (g : Nat) (l : Int) (n : Nat) (hx : a.eval x = .pointer (some ⟨g, 0, none⟩)) (hl : a.eval lo = .int .i64 l) (hn : l = (n : Int)) (h1 : n < 65)
    (h : wpList Tryz.prog ops Q rest (a.put o.dst (.slice (some ⟨g, n, none⟩) (65 - n) (65 - n))) W) : wpList Tryz.prog ops Q (o :: rest) a W := by
  refine wpList_plain hgd fun _ hK => ?_
  have ht : Tryz.prog.underlying 131 = some (.array (Tryz.prog.arrayLen 131) (Tryz.prog.elem 131)) := by kernel_rfl
  have he : Tryz.prog.elem 131 = 5 := by kernel_rfl
  have hr := run_sliceAt_array_l (P := Tryz.prog) W 131 ⟨g, 0, none⟩ ht .i64 l (by omega) (by rw [arr65]; omega)
  obtain ⟨i0, hi, hz⟩ := Option.map_eq_some_iff.1 size5
  have hs : (sizeOf 5).run Tryz.prog W = .ok 1 W := by simp [sizeOf, typeInfo, hi, hz]
  rw [he, hs, arr65] at hr
  unfold Oper.wp execOp
  simp only [ho, hx, hl, Option.map_some, Option.map_none, hr, Sem.run_bind, Result.andThen_ok, Sem.run_pure]
  subst hn
  have e : slicedAt ⟨g, 0, none⟩ (n : Int).toNat 65 65 1 = .slice (some ⟨g, n, none⟩) (65 - n) (65 - n) := by
    unfold slicedAt
    rw [Int.toNat_natCast, if_neg (by omega), Nat.mul_one]
    congr 2
    unfold Addr.add
    rcases n with _ | n <;> simp
  rw [e]
  exact hK _ _ h
theorem row_tail {W : World} {g j n : Nat} {L : List Value} {l : List UInt8} (h : RowAt W g L) (hd : L.drop j = l.map u8v) (hn : n = l.length) :
    (convert 53 9 (.slice (some ⟨g, j, none⟩) n n)).run Tryz.prog W = .ok (.string ⟨l.toArray⟩) W := by
  subst hn
  rw [← nums_u8]
  refine run_convert_bytes_arg W _ 5 Tryz.underlying53 Tryz.underlying5 g j l.length l.length _ (by simp) (fun i hi => ?_) _ Tryz.underlying9
  have h1 : (L.drop j)[i]? = some (u8v l[i]) := by rw [hd]; simp [hi]
  rw [List.getElem?_drop] at h1
  rw [(h.2 _ _ h1).1]
  simp [u8v, hi]
theorem dig_bound {b n k : Nat} {t : List UInt8} (hb : 2 ≤ b) (h : digs b k ++ t = digs b n) (hn : n < b ^ 4) : t.length ≤ 3 := by
  have h1 := digs_len b hb 4 n hn (by omega)
  have h2 := congrArg List.length h
  rw [List.length_append] at h2
  have h3 := List.length_pos_iff.2 (digs_ne b k)
  omega
set_option maxHeartbeats 2000000 in
set_option maxRecDepth 100000 in
theorem lib_formatBits (v : Nat) (w : World) (hv : v ≤ 65535) (HE : Hid (Env w)) :
    Calls Tryz.prog 95 #[.slice none 0 0, .int .u64 v, .int .i64 16, .bool false, .bool false] w fun e w' => (∃ t, e = .returned (.tuple #[.slice none 0 0, .string t]) ∧ Hid (bl t = digs 16 v)) ∧ Hid (Bel w w') := by
  go_enter Tryz.func95, Tryz.ntmps95
  have hz : Tryz.zeroCells131 = (List.replicate 65 (Value.int .u8 0)).toArray := by kernel_rfl
  have hg0 := alloc_at w (.cells Tryz.zeroCells131 131)
  have HB0 : Hid (Bel w (w.alloc (.cells Tryz.zeroCells131 131))) := (Below.refl _ w).alloc (Nat.le_refl _) _
  have HR0 : Hid (RowAt (w.alloc (.cells Tryz.zeroCells131 131)) w.heap.size (List.replicate 65 (Value.int .u8 0))) := by
    refine ⟨by simp, fun k u hk => ⟨?_, thaw hg0 k⟩⟩
    rw [cell_of_row _ _ _ _ _ _ hg0, hz]
    simpa using hk
  have HE0 := Lib.hid (HE.out.bel HB0.out)
  clear hz hg0
  go_wp2_with fail
  generalize w.alloc (.cells Tryz.zeroCells131 131) = w0 at *
  refine (lib_pow2 _).mono ?_
  rintro e w1 ⟨rfl, rfl⟩
  go_wp2_with fail
  refine (lib_tz _ HE0).mono ?_
  rintro e w1 ⟨rfl, rfl⟩
  go_wp2
  go_loopg [1, 13] v (fun r v1 v13 wr => ∃ (k : Nat) (t : List UInt8) (L : List Value), v1 = .int .u64 k ∧ v13 = .int .i64 (65 - t.length : Int) ∧ k ≤ r ∧ k ≤ 65535 ∧ Hid (L.length = 65) ∧ Hid (L.drop (65 - t.length) = t.map u8v) ∧ Hid (RowAt wr w.heap.size L) ∧ Hid (digs 16 k ++ t = digs 16 v) ∧ Hid (Bel w wr))
  case atStart => exact ⟨v, [], List.replicate 65 (Value.int .u8 0), rfl, rfl, Nat.le_refl _, hv, by unfold Hid; simp, by unfold Hid; simp, HR0, by simp [Hid], HB0⟩
  case round =>
    obtain ⟨k, t, L, rfl, rfl, hk, hk5, HL, HD, HR, HG, HB⟩ := hrel
    have ht := dig_bound (by omega) HG.out (by omega)
    obtain ⟨u, hu⟩ : ∃ u, L[65 - t.length - 1]? = some u := ⟨_, List.getElem?_eq_getElem (by rw [HL.out]; omega)⟩
    obtain ⟨hc, hf⟩ := HR.out.2 _ u hu
    have hand := and15 k hk5
    clear hu
    by_cases h16 : 16 ≤ k
    · cases gk with
      | zero => omega
      | succ q =>
        have hk16 : k % 16 < 16 := Nat.mod_lt _ (by omega)
        go_wp2
        go_roundg q
        case measure => omega
        case rel => 
          refine ⟨k / 16, dgc (k % 16) :: t, _, by congr 1, by congr 1; simp; omega, by omega, by omega, ?_, row_put HL.out (j := 65 - t.length - 1) (by omega) HD.out (by rw [dgc_at (k % 16) hk16 _ rfl]), HR.out.set _ _, ?_, HB.out.setCell (p := ⟨w.heap.size, _, none⟩) (Nat.le_refl _) _⟩
          · unfold Hid; rw [List.length_set]; exact HL.out
          · have := HG.out
            rw [digs_step (by omega) h16, List.append_assoc] at this
            exact this
    · go_upto_region 30 with (fail)
      have hk16 : k < 16 := by omega
      have hr2 := HR.out.set (65 - t.length - 1) (Value.int .u8 (dgc k).toNat)
      have hd2 := row_put HL.out (j := 65 - t.length - 1) (by omega) HD.out (n := ((dgc k).toNat : Int)) rfl
      have HF : Hid (dgc k :: t = digs 16 v) := by have := HG.out; rw [digs_small hk16] at this; exact this
      have HB2 : Hid (Bel w (wr.setCell ⟨w.heap.size, 65 - t.length - 1, none⟩ (Value.int .u8 (dgc k).toNat))) := HB.out.setCell (p := ⟨w.heap.size, _, none⟩) (Nat.le_refl _) _
      rw [dgc_at k hk16 k rfl]
      generalize wr.setCell ⟨w.heap.size, 65 - t.length - 1, none⟩ (Value.int .u8 (dgc k).toNat) = W at *
      have hconv := row_tail hr2 (j := 65 - t.length - 1) (n := 65 - (65 - t.length - 1)) (l := dgc k :: t) (by rw [← hd2]; congr 1) (by simp; omega)
      clear hr2 hd2 hc hf HR HL HD
      go_wp2_with (refine slice65 rfl _ _ (by exact rfl) w.heap.size _ (65 - t.length - 1) (by exact rfl) (by exact rfl) (by omega) (by omega) ?_)
      go_ret2
      exact ⟨⟨_, rfl, by unfold Hid; rw [bl_mk]; exact HF.out⟩, HB2⟩
set_option maxHeartbeats 2000000 in
set_option maxRecDepth 100000 in
theorem lib_FormatUint (v : Nat) (w : World) (hv : v ≤ 65535) (HE : Hid (Env w)) :
    Calls Tryz.prog 36 #[.int .u64 v, .int .i64 16] w fun e w' => (∃ t, e = .returned (.string t) ∧ Hid (bl t = digs 16 v)) ∧ Hid (Bel w w') := by
  have hi : Calls Tryz.prog 69 #[.int .u64 v, .int .i64 16] w fun e w' => (∃ t, e = .returned (.string t) ∧ Hid (bl t = digs 16 v)) ∧ Hid (Bel w w') := by
    go_enter Tryz.func69, Tryz.ntmps69
    go_wp2_with fail
    refine (lib_formatBits v _ hv HE).mono ?_
    rintro e w1 ⟨⟨t, rfl, ht⟩, HB⟩
    go_wp2
    go_ret
    exact ⟨⟨_, rfl, ht⟩, HB⟩
  have HI := Lib.hid hi
  clear hi
  go_enter Tryz.func36, Tryz.ntmps36
  go_wp2_with fail
  refine HI.out.mono ?_
  rintro e w1 ⟨⟨t, rfl, ht⟩, HB⟩
  go_wp2
  go_ret
  exact ⟨⟨_, rfl, ht⟩, HB⟩
end Go.Proofs.YtpgehhnmlihnbaaGreatDoor
