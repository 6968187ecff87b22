import Derived.Test.YtpgehhnmlihnbaaGreatDoorXDot
import Derived.StillTailTactics
namespace Go.Proofs.YtpgehhnmlihnbaaGreatDoor
open Go.RowKit

theorem info3 : (Tryz.prog.info? 2).map (fun i => (i.zero, i.size, i.bytes)) = some (some (.int .i64 0), 1, 8) := by kernel_rfl
theorem info26 : (Tryz.prog.info? 26).map (fun i => (i.zero, i.size, i.bytes)) = some (some (.int .u16 0), 1, 2) := by kernel_rfl
section
variable {ops : Array Oper} {Q : Exit → Act → World → Prop} {a : Act} {rest : List Oper} {o : Oper}
theorem app_int {w0 W : World} (base : Nat) (hgd : o.guard = none) (s x : Operand)
    (ho : o.op = .call { callee := .builtin .append, args := #[s, x], argTypes := #[119, 119] })
    (v : Value) (xs : List Value) (n : Int) (hs : a.eval s = v) (hx : a.eval x = .slice (some ⟨W.heap.size, 0, none⟩) 1 1)
    (HO : Hid (Own W base 2 v xs)) (HB : Hid (Below base w0 W)) (hbase : base ≤ W.heap.size) (hl : xs.length ≤ 1000000000)
    (h : ∀ v1 w1, Hid (Own w1 base 2 v1 (xs ++ [.int .i64 n])) → Hid (Below base w0 w1) → W.heap.size ≤ w1.heap.size → wpList Tryz.prog ops Q rest (a.put o.dst v1) w1) :
    wpList Tryz.prog ops Q (o :: rest) a (W.alloc (.cells #[.int .i64 n] 2)) :=
  own_append base hgd s x _ _ _ 8 ho Tryz.underlying119 info3 rfl v xs (.int .i64 n) hs hx rfl HO HB hbase (by omega) (by omega) h
theorem app_u16 {w0 W : World} (base : Nat) (hgd : o.guard = none) (s x : Operand)
    (ho : o.op = .call { callee := .builtin .append, args := #[s, x], argTypes := #[62, 62] })
    (v : Value) (xs : List Value) (n : Int) (hs : a.eval s = v) (hx : a.eval x = .slice (some ⟨W.heap.size, 0, none⟩) 1 1)
    (HO : Hid (Own W base 26 v xs)) (HB : Hid (Below base w0 W)) (hbase : base ≤ W.heap.size) (hl : xs.length ≤ 1000000000)
    (h : ∀ v1 w1, Hid (Own w1 base 26 v1 (xs ++ [.int .u16 n])) → Hid (Below base w0 w1) → W.heap.size ≤ w1.heap.size → wpList Tryz.prog ops Q rest (a.put o.dst v1) w1) :
    wpList Tryz.prog ops Q (o :: rest) a (W.alloc (.cells #[.int .u16 n] 26)) :=
  own_append base hgd s x _ _ _ 2 ho Tryz.underlying62 info26 rfl v xs (.int .u16 n) hs hx rfl HO HB hbase (by omega) (by omega) h
end
theorem dotted_yes2 {w W : World} {o : Option (List Nat)} {p q : Nat} {x y : Int} (h : o = some [p, q]) (hx : x = (p : Int)) (hy : y = (q : Int)) (hb : w.heap.size ≤ W.heap.size) :
    dotted_post w (W.alloc (.cells #[.int .u16 x, .int .u16 y] 26)) (.returned (.tuple #[.slice (some ⟨W.heap.size, 0, none⟩) 2 2, .bool true])) o := by
  subst h hx hy
  exact ⟨_, rfl, W.heap.size, 2, rfl, Nat.le_refl _, hb, RdAt.alloc W (u16s [p, q]) 26⟩
def foldD (ds : List Nat) : Nat := ds.foldl (fun n d => n * 256 + d) 0
theorem foldD_snoc (ds : List Nat) (d : Nat) : foldD (ds ++ [d]) = foldD ds * 256 + d := by unfold foldD; rw [List.foldl_append]; rfl
def ints (ds : List Nat) : List Value := ds.map fun (d : Nat) => Value.int .i64 (d : Int)
theorem intS_nonneg (x : List UInt8) : 0 ≤ (intS x).1 := by
  have hi := intF_is x 0
  rw [Nat.zero_min] at hi
  unfold intS
  rw [show ((0 : Nat) : Int) = 0 from rfl] at hi
  rw [hi]
  split
  · rename_i n hn
    split at hn
    · have := Option.some.inj hn; omega
    · cases hn
  · exact Int.le_refl _
set_option maxHeartbeats 4000000 in
set_option maxRecDepth 100000 in
theorem ref2_decimals (s : ByteArray) (w : World) (hs : s.size ≤ 1000000) (h4 : (cutS 46 [] (bl s)).length = 4) :
    Calls Tryz.prog 82 #[.string s] w fun e w' => dotted_post w w' e (dottedS (bl s)) ∧ Hid (Bel w w') := by
  have H4 := Lib.hid h4
  clear h4
  go_enter Tryz.func82, Tryz.ntmps82
  go_wp2_with fail
  refine (ref1_CutS 46 s _ hs).mono ?_
  rintro e w1 ⟨⟨g, c, rfl, hc, hR⟩, HB1⟩
  try rw [show ((46 : UInt8).toNat : Int) = 46 from rfl] at *
  have HL : Hid (∀ x, x ∈ cutS 46 [] (bl s) → x.length ≤ s.size) := fun x hx => by have := cut_mem_len hx; rw [bl_length] at this; exact this
  have HF : Hid (dottedS (bl s) = (dot4F 0 (cutS 46 [] (bl s))).map fun n => [n / 65536, n % 65536]) := if_pos H4.out
  generalize cutS 46 [] (bl s) = ls at *
  have h4 := H4.out
  have HN := Lib.hid h4
  rw [h4] at hc ⊢
  clear H4 h4
  go_upto_block 0 with (fail)
  go_cut [5] (fun v5 wc => (∃ ds : List Nat, Hid (Own wc w1.heap.size 2 v5 (ints ds)) ∧ Hid (ds.length = 4) ∧ Hid (dottedS (bl s) = some [foldD ds / 65536, foldD ds % 65536]) ∧ Hid (∀ d ∈ ds, d ≤ 255)) ∧ Hid (Bel w1 wc))
  case first =>
    go_wp2_with fail
    go_loopg [5, 6] 4 (fun r v5 v6 wr => ∃ (ds : List Nat) (k : Nat), v6 = .int .i64 k ∧ k + r = 4 ∧ Hid (ds.length = k) ∧ Hid (Own wr w1.heap.size 2 v5 (ints ds)) ∧ Hid (∀ d ∈ ds, d ≤ 255) ∧ Hid (dottedS (bl s) = (dot4F (foldD ds) (ls.drop k)).map fun n => [n / 65536, n % 65536]) ∧ Hid (Bel w1 wr))
    case atStart => exact ⟨[], 0, rfl, by omega, rfl, Own.nil _ _ _, (by intro x hx; cases hx), HF, by unfold Hid; exact Below.refl _ _⟩
    case round =>
      obtain ⟨ds, k, rfl, hk, HD, HO, H255, HI, HB⟩ := hrel
      have HB4 := Lib.hid (bel_trans HB1.out HB.out)
      cases gk with
      | zero =>
        obtain rfl : k = 4 := by omega
        have hX := HI.out
        rw [List.drop_eq_nil_of_le (by rw [HN.out]; omega)] at hX
        have HX := Lib.hid hX
        clear HI HF hX
        go_wp2
        go_meet
        exact ⟨⟨ds, HO, HD, HX, H255⟩, HB⟩
      | succ g' =>
        obtain ⟨u, hu⟩ : ∃ u, ls[k]? = some (bl u) := ⟨⟨(ls[k]'(by rw [HN.out]; omega)).toArray⟩, by rw [bl_mk]; exact List.getElem?_eq_getElem _⟩
        have hus := HL.out _ (List.mem_of_getElem? hu)
        rw [bl_length] at hus
        have hI := HI.out
        rw [drop_get hu] at hI
        have hcell := strs_cell (hR.out.bel HB.out) hu
        have hB := byte_ref (bl u)
        have HX := Lib.hid hI
        have hk0 : (k : Int) < 4 := by omega
        clear hI HI hu HF
        obtain ⟨n, ok, hno⟩ : ∃ n ok, intS (bl u) = (n, ok) := ⟨_, _, rfl⟩
        have hcall := ref1_Int u wr (by omega)
        have hn0 := intS_nonneg (bl u)
        rw [hno] at hB hcall hn0
        obtain ⟨d, rfl⟩ : ∃ d : Nat, n = d := ⟨n.toNat, by have : 0 ≤ n := hn0; omega⟩
        clear hn0
        have HC := Lib.hid hcall
        have HBy := Lib.hid hB
        clear hcall hB hno
        have hsz := HB.out.size
        have hlen : (ints ds).length ≤ 1000000000 := by have := HD.out; simp [ints]; omega
        have hno2 : ∀ {W : World}, byteS (bl u) = none → dotted_post w W (.returned (.tuple #[.slice none 0 0, .bool false])) (dottedS (bl s)) := fun {W} h => dotted_no (by rw [HX.out, dot4_none h]; rfl)
        have HNO : Hid (∀ {W : World}, byteS (bl u) = none → dotted_post w W (.returned (.tuple #[.slice none 0 0, .bool false])) (dottedS (bl s))) := hno2
        clear hno2
        cases ok
        · have HY : Hid (byteS (bl u) = none) := HBy.out.trans (if_neg (by rintro ⟨h, _⟩; cases h))
          go_wp2_with (go_at_call 102; go_must (refine HC.out.mono ?_); rintro e w' ⟨rfl, rfl⟩)
          go_ret2
          exact ⟨HNO.out HY.out, HB4⟩
        · by_cases h255 : (d : Int) ≤ 255
          · by_cases h1 : 1 < u.size
            · by_cases hz : ((u[0]'(by omega)).toNat : Int) = 48
              · have HY : Hid (byteS (bl u) = none) := HBy.out.trans (if_neg (by
                  rintro ⟨_, _, h⟩
                  refine h ⟨by rw [bl_length]; exact h1, ?_⟩
                  rw [List.head?_eq_getElem?, bl_get u 0 (by omega)]; congr 1; exact UInt8.toNat_inj.1 (by have : (48 : UInt8).toNat = 48 := rfl; omega)))
                go_wp2_with (go_at_call 102; go_must (refine HC.out.mono ?_); rintro e w' ⟨rfl, rfl⟩)
                go_ret2
                exact ⟨HNO.out HY.out, HB4⟩
              · have HY : Hid (byteS (bl u) = some d) := HBy.out.trans (if_pos ⟨rfl, h255, fun h => hz (by
                  have h3 := h.2
                  rw [List.head?_eq_getElem?, bl_get u 0 (by omega)] at h3
                  rw [Option.some.inj h3]; rfl)⟩)
                have hz' : (((u[0]'(by omega)).toNat : Int) == 48) = false := by rw [beq_eq_false_iff_ne]; exact hz
                clear hz
                have HY2 : Hid (dottedS (bl s) = (dot4F (foldD (ds ++ [d])) (ls.drop (k + 1))).map fun n => [n / 65536, n % 65536]) := by unfold Hid; rw [HX.out, dot4_some HY.out, foldD_snoc]
                go_wp2_with (first | (go_at_call 102; go_must (refine HC.out.mono ?_); rintro e w' ⟨rfl, rfl⟩) | (at_builtin; go_must (refine app_int (w0 := w1) w1.heap.size rfl _ _ (by exact rfl) _ (ints ds) d (by exact rfl) (by exact rfl) HO HB hsz hlen ?_); intro v1 w3 HO1 HB1 hs1))
                go_roundg g'
                case measure => omega
                case rel => exact ⟨ds ++ [d], k + 1, rfl, by omega, by unfold Hid; simp [HD.out], by unfold ints; rw [List.map_append]; exact HO1, by
                  intro x hx
                  rcases List.mem_append.1 hx with h | h
                  · exact H255.out x h
                  · rw [List.mem_singleton.1 h]; omega, HY2, HB1⟩
            · have HY : Hid (byteS (bl u) = some d) := HBy.out.trans (if_pos ⟨rfl, h255, fun h => h1 (by have := h.1; rw [bl_length] at this; exact this)⟩)
              have HY2 : Hid (dottedS (bl s) = (dot4F (foldD (ds ++ [d])) (ls.drop (k + 1))).map fun n => [n / 65536, n % 65536]) := by unfold Hid; rw [HX.out, dot4_some HY.out, foldD_snoc]
              go_wp2_with (first | (go_at_call 102; go_must (refine HC.out.mono ?_); rintro e w' ⟨rfl, rfl⟩) | (at_builtin; go_must (refine app_int (w0 := w1) w1.heap.size rfl _ _ (by exact rfl) _ (ints ds) d (by exact rfl) (by exact rfl) HO HB hsz hlen ?_); intro v1 w3 HO1 HB1 hs1))
              go_roundg g'
              case measure => omega
              case rel => exact ⟨ds ++ [d], k + 1, rfl, by omega, by unfold Hid; simp [HD.out], by unfold ints; rw [List.map_append]; exact HO1, by
                intro x hx
                rcases List.mem_append.1 hx with h | h
                · exact H255.out x h
                · rw [List.mem_singleton.1 h]; omega, HY2, HB1⟩
          · have HY : Hid (byteS (bl u) = none) := HBy.out.trans (if_neg (by rintro ⟨_, h, _⟩; exact h255 h))
            go_wp2_with (go_at_call 102; go_must (refine HC.out.mono ?_); rintro e w' ⟨rfl, rfl⟩)
            go_ret2
            exact ⟨HNO.out HY.out, HB4⟩
  case rest =>
    obtain ⟨⟨ds, HO, HD, HX, H255⟩, HB⟩ := hcut
    obtain ⟨a, b, d, f, rfl⟩ : ∃ a b d f, ds = [a, b, d, f] := by
      have := HD.out
      match ds, this with
      | [a, b, d, f], _ => exact ⟨a, b, d, f, rfl⟩
    obtain ⟨g5, c5, rfl, hg5, hr5, hc5⟩ := HO.out.row (by simp [ints])
    rw [show (ints [a, b, d, f]).length = 4 from rfl] at *
    have k0 : wc.drew.cell? ⟨g5, 0, none⟩ = some (.int .i64 a) := (hr5.2 0 _ rfl).1
    have k1 : wc.drew.cell? ⟨g5, 1, none⟩ = some (.int .i64 b) := (hr5.2 1 _ rfl).1
    have k2 : wc.drew.cell? ⟨g5, 2, none⟩ = some (.int .i64 d) := (hr5.2 2 _ rfl).1
    have k3 : wc.drew.cell? ⟨g5, 3, none⟩ = some (.int .i64 f) := (hr5.2 3 _ rfl).1
    have HB2 : Hid (Bel w wc.drew) := (bel_trans HB1.out HB.out).drew
    have ha : a ≤ 255 := H255.out a (by simp)
    have hb : b ≤ 255 := H255.out b (by simp)
    have hd : d ≤ 255 := H255.out d (by simp)
    have hf : f ≤ 255 := H255.out f (by simp)
    have o1 : Go.bits .or .i64 ((a : Int) * 256) b = ((a * 256 + b : Nat) : Int) := by have := or_i64 a b (by omega) hb; rw [Int.natCast_mul] at this; exact this
    have o2 : Go.bits .or .i64 ((d : Int) * 256) f = ((d * 256 + f : Nat) : Int) := by have := or_i64 d f (by omega) hf; rw [Int.natCast_mul] at this; exact this
    have HX2 : Hid (dottedS (bl s) = some [(a * 16777216 + b * 65536 + d * 256 + f) / 65536, (a * 16777216 + b * 65536 + d * 256 + f) % 65536]) := by
      unfold Hid; rw [HX.out]; unfold foldD; simp only [List.foldl]; congr 1
      rw [show (((0 * 256 + a) * 256 + b) * 256 + d) * 256 + f = a * 16777216 + b * 65536 + d * 256 + f by omega]
    clear hr5 hg5 HO HD HF HX H255
    go_upto_region 10 with (fail)
    go_still_tail 18, (by kernel_rfl)
    change wpList _ _ _ _ _ wc.drew
    generalize wc.drew = w2 at *
    go_wp2
    go_ret2
    exact ⟨dotted_yes2 HX2.out (by rw [o1]; omega) (by rw [o2]; omega) HB2.out.size, HB2.out.alloc HB2.out.size _⟩
end Go.Proofs.YtpgehhnmlihnbaaGreatDoor
