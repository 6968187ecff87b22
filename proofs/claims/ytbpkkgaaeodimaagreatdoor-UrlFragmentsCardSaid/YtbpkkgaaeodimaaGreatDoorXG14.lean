import Derived.Test.YtbpkkgaaeodimaaGreatDoorXG12
import Derived.Deep.WholeRow
import Derived.OwnWalk
import Derived.WalkMore
import Derived.Lib.ReplaceLaws
namespace Go.Proofs.YtbpkkgaaeodimaaGreatDoor
open Go.RowKit

/-- All blocks that were there, but those of S, are as they were. -/
structure BelP (S : Nat → Prop) (w w' : World) : Prop where
  os : w'.os = w.os
  tape : w'.tape = w.tape
  output : w'.output = w.output
  size : w.heap.size ≤ w'.heap.size
  block : ∀ k, k < w.heap.size → ¬ S k → w'.heap[k]? = w.heap[k]?
section
variable {S T : Nat → Prop}
theorem BelP.refl (S : Nat → Prop) (w : World) : BelP S w w := ⟨rfl, rfl, rfl, Nat.le_refl _, fun _ _ _ => rfl⟩
theorem BelP.trans {a b c : World} (h : BelP S a b) (k : BelP S b c) : BelP S a c :=
  ⟨k.os.trans h.os, k.tape.trans h.tape, k.output.trans h.output, Nat.le_trans h.size k.size, fun i hi hn => (k.block i (Nat.lt_of_lt_of_le hi h.size) hn).trans (h.block i hi hn)⟩
theorem BelP.of {w w' : World} (S : Nat → Prop) (h : Bel w w') : BelP S w w' := ⟨h.os, h.tape, h.output, h.size, fun k hk _ => h.block k hk⟩
theorem BelP.mono {w w' : World} (h : BelP S w w') (hs : ∀ k, k < w.heap.size → S k → T k) : BelP T w w' :=
  ⟨h.os, h.tape, h.output, h.size, fun k hk hn => h.block k hk (fun q => hn (hs k hk q))⟩
theorem BelP.bel {w0 w w' : World} (h0 : Bel w0 w) (hS : ∀ k, S k → w0.heap.size ≤ k) (h : BelP S w w') : Bel w0 w' :=
  ⟨h.os.trans h0.os, h.tape.trans h0.tape, h.output.trans h0.output, Nat.le_trans h0.size h.size, fun k hk => (h.block k (Nat.lt_of_lt_of_le hk h0.size) (fun q => by have := hS k q; omega)).trans (h0.block k hk)⟩
theorem BelP.cell {w w' : World} (h : BelP S w w') {a : Addr} {v : Value} (hn : ¬ S a.block) (hc : w.cell? a = some v) : w'.cell? a = some v := by
  have hb := World.block_lt_of_cell? w a hc
  rw [World.cell?_of_block (h.block a.block hb hn)]; exact hc
theorem BelP.row {w w' : World} (h : BelP S w w') {g : Nat} {xs : List Value} (hn : ¬ S g) (hr : RowAt w g xs) : RowAt w' g xs :=
  ⟨Nat.lt_of_lt_of_le hr.1 h.size, fun k u hu => ⟨h.cell (a := ⟨g, k, none⟩) hn (hr.2 k u hu).1, (World.frozen?_of_block (a := ⟨g, k, none⟩) (h.block g hr.1 hn)).trans (hr.2 k u hu).2⟩⟩
theorem BelP.own {w w' : World} (h : BelP S w w') {base : Nat} {e : TypeId} {v : Value} {xs : List Value} (hn : ∀ k, v.ownBlock = some k → ¬ S k) (ho : Own w base e v xs) : Own w' base e v xs := by
  obtain ⟨h1, h2⟩ := ho
  refine ⟨h1, h2.imp id ?_⟩
  rintro ⟨g, cap, cur, rfl, hb, hh, hr⟩
  exact ⟨g, cap, cur, rfl, hb, by rw [h.block g (Array.getElem?_eq_some_iff.1 hh).1 (hn g rfl)]; exact hh, hr⟩
theorem BelP.grown {w w' : World} {row : Option Nat} (h : w.grownBy w' row) : BelP (fun k => row = some k) w w' :=
  ⟨h.os, h.tape, h.output, h.size, fun k hk hn => h.block k hk (fun e => hn e.symm)⟩
theorem BelP.set {w : World} {g : Nat} (a : Addr) (v : Value) (ha : a.block = g) : BelP (fun k => k = g) w (w.setCell a v) := by
  have h := (Below.refl 0 w).setCell (Nat.zero_le a.block) v
  refine ⟨h.os, h.tape, h.output, h.size, fun k _ hn => ?_⟩
  unfold World.setCell
  simp only []
  rw [Array.getElem?_modify, if_neg (by rw [ha]; exact fun e => hn e.symm)]
end
theorem bel_grown {w w' : World} (h : w.grownBy w' none) : Bel w w' := ⟨h.os, h.tape, h.output, h.size, fun k hk => h.block k hk (by simp)⟩
theorem RowAt.new (w : World) (c : Array Value) (t : TypeId) : RowAt (w.alloc (.cells c t)) w.heap.size c.toList := by
  refine ⟨by simp, fun k u hu => ?_⟩
  have h : (w.alloc (.cells c t)).heap[w.heap.size]? = some (.cells c t) := heap_alloc_last w _
  have hk : c[k]? = some u := by rw [← hu]; simp
  refine ⟨?_, ?_⟩
  · simp only [World.cell?, h]
    simpa using hk
  · simp only [World.frozen?, h]
    simp
theorem Own.take {w : World} {base : Nat} {e : TypeId} {A : Option Addr} {n c : Nat} {xs : List Value} (h : Own w base e (.slice A n c) xs) (m : Nat) (hm : m ≤ xs.length) : Own w base e (.slice A m c) (xs.take m) := by
  obtain ⟨h1, h2⟩ := h
  have hl : (xs.take m).length = m := by rw [List.length_take]; omega
  rw [Own, hl]
  refine ⟨by rw [hl]; omega, ?_⟩
  rcases h2 with ⟨hv, hn⟩ | ⟨g, cap, cur, hv, hb, hh, hn, hc, hs, ht⟩
  · simp only [Value.slice.injEq] at hv
    left
    obtain ⟨rfl, _, rfl⟩ := hv
    have : m = 0 := by omega
    exact ⟨by rw [this], this⟩
  · simp only [Value.slice.injEq] at hv
    obtain ⟨rfl, hn', rfl⟩ := hv
    refine .inr ⟨g, c, cur, rfl, hb, hh, by omega, hc, hs, ?_⟩
    rw [← ht, List.take_take, Nat.mul_one, Nat.mul_one, Nat.min_eq_left hm]
theorem Own.len {w : World} {base : Nat} {e : TypeId} {v : Value} {xs : List Value} (h : Own w base e v xs) : ∃ A c, v = .slice A xs.length c := h.shape
theorem Own.weak {w : World} {b1 b2 : Nat} {e : TypeId} {v : Value} {xs : List Value} (h : Own w b1 e v xs) (hb : b2 ≤ b1) : Own w b2 e v xs := by
  obtain ⟨h1, h2⟩ := h
  refine ⟨h1, h2.imp id ?_⟩
  rintro ⟨g, cap, cur, hv, hg, hr⟩
  exact ⟨g, cap, cur, hv, by omega, hr⟩
section
variable {ops : Array Oper} {Q : Exit → Act → World → Prop} {a : Act} {rest : List Oper} {o : Oper}
/-- make([]string, 0, n). -/
theorem mk_strs {W : World} (base : Nat) (hgd : o.guard = none) (l c : Operand) (ho : o.op = .makeSlice 22 l c) (kl kc : IntKind) (C : Int) (n : Nat) (hl : a.eval l = .int kl 0) (hc : a.eval c = .int kc C) (hC : C = (n : Int)) (hn : n ≤ 1000000) (hbase : base ≤ W.heap.size)
    (h : ∀ w1, Hid (Own w1 base 9 (.slice (some ⟨W.heap.size, 0, none⟩) 0 n) []) → Hid (Bel W w1) → W.heap.size < w1.heap.size → wpList Tryz.prog ops Q rest (a.put o.dst (.slice (some ⟨W.heap.size, 0, none⟩) 0 n)) w1) :
    wpList Tryz.prog ops Q (o :: rest) a W := by
  obtain ⟨i, hi, hz0, hz1, hz2⟩ := info_parts info9
  refine wpList_make_own W hgd l c _ ho base _ i _ 1 Tryz.underlying22 hi hz0 hz1 kl kc C n hl hc hC (by rw [hz2]; omega) (by unfold Go.maxLen; omega) hbase fun w' h1 h2 => h w' h1 (bel_grown h2) ?_
  obtain ⟨_, hx | ⟨g, cap, cur, hv, hb, hh, _⟩⟩ := h1
  · simp at hx
  · simp only [Value.slice.injEq, Option.some.injEq, Addr.mk.injEq] at hv
    have := (Array.getElem?_eq_some_iff.1 hh).1
    omega
/-- append(row, other...) of texts. -/
theorem app_strs {w0 W : World} (base : Nat) (hgd : o.guard = none) (s x : Operand)
    (ho : o.op = .call { callee := .builtin .append, args := #[s, x], argTypes := #[22, 22] })
    (v : Value) (xs ys : List Value) (ad : Addr) (n c : Nat) (hn : n = ys.length) (hs : a.eval s = v) (hx : a.eval x = .slice (some ad) n c) (hg : ∀ j u, ys[j]? = some u → W.cell? (ad.add j) = some u) (h1 : ∀ y ∈ ys, y.oneCell' = true)
    (HO : Hid (Own W base 9 v xs)) (HB : Hid (Below base w0 W)) (hbase : base ≤ W.heap.size) (hl : xs.length + ys.length ≤ 4398046511104)
    (h : ∀ v1 w1, Hid (Own w1 base 9 v1 (xs ++ ys)) → Hid (Below base w0 w1) → W.heap.size ≤ w1.heap.size → wpList Tryz.prog ops Q rest (a.put o.dst v1) w1) :
    wpList Tryz.prog ops Q (o :: rest) a W := by
  subst hn
  exact wpList_plain hgd fun _ hK => append_many base s x _ _ _ 16 ho Tryz.underlying22 info9 rfl v xs ys ad c hs hx hg h1 HO HB hbase (by omega) (by omega)
    fun v1 w1 HO1 HB1 hs1 _ _ => hK _ _ (h v1 w1 HO1 HB1 hs1)
/-- append(row, x) of texts: which blocks it may change. -/
theorem app_str_p {S : Nat → Prop} {w0 W : World} (base : Nat) (hgd : o.guard = none) (s x : Operand)
    (ho : o.op = .call { callee := .builtin .append, args := #[s, x], argTypes := #[22, 22] })
    (v : Value) (xs : List (List UInt8)) (y : ByteArray) (hs : a.eval s = v) (hx : a.eval x = .slice (some ⟨W.heap.size, 0, none⟩) 1 1)
    (HO : Hid (Own W base 9 v (strs xs))) (HP : Hid (BelP S w0 W)) (HS : Hid (∀ k, v.ownBlock = some k → S k ∨ w0.heap.size ≤ k)) (hbase : base ≤ W.heap.size) (hl : xs.length ≤ 4398046511104)
    (h : ∀ v1 w1, Hid (Own w1 base 9 v1 (strs (xs ++ [bl y]))) → Hid (BelP S w0 w1) → Hid (∀ k, v1.ownBlock = some k → S k ∨ w0.heap.size ≤ k) → W.heap.size ≤ w1.heap.size → wpList Tryz.prog ops Q rest (a.put o.dst v1) w1) :
    wpList Tryz.prog ops Q (o :: rest) a (W.alloc (.cells #[.string y] 9)) := by
  have hw := HP.out.size
  refine wpList_plain hgd fun _ hK => append_wp (w0 := W.alloc (.cells #[.string y] 9)) base s x _ _ _ 16 ho Tryz.underlying22 info9 rfl v (strs xs) (.string y) W.heap.size hs hx ((World.cell?_alloc_at _ _ _ _ rfl).trans rfl) rfl
    (HO.out.bel ((Below.refl _ W).alloc (Nat.le_refl _) _)) (Below.refl _ _) (by simp; omega) (by rw [strs_len]; omega) (by rw [strs_len]; omega)
    fun v1 w1 HO1 _ hs1 hg hor => hK _ _ (h v1 w1 (by rw [← strs_snoc]; exact HO1) ?_ ?_ (Nat.le_trans (by simp) hs1))
  · have hA : BelP S w0 (W.alloc (.cells #[.string y] 9)) := HP.out.trans (.of S ((Below.refl _ W).alloc (Nat.le_refl _) _))
    refine ⟨hg.os.trans hA.os, hg.tape.trans hA.tape, hg.output.trans hA.output, Nat.le_trans hA.size hg.size, fun k hk hn => ?_⟩
    have hk2 : k < (W.alloc (.cells #[.string y] 9)).heap.size := Nat.lt_of_lt_of_le hk hA.size
    refine (hg.block k hk2 (fun e => ?_)).trans (hA.block k hk hn)
    rcases HS.out k e.symm with q | q
    · exact hn q
    · omega
  · intro k hk
    rcases hor with e | e
    · exact HS.out k (by rw [← e]; exact hk)
    · rw [e] at hk
      simp only [Option.some.injEq] at hk
      right
      rw [← hk]
      simp; omega
end
end Go.Proofs.YtbpkkgaaeodimaaGreatDoor
namespace Go.Proofs.YtbpkkgaaeodimaaGreatDoor
open Go.RowKit

theorem seg_hit (c : UInt8) : ∀ (l r : List UInt8), l.contains c = false → segS c (l ++ c :: r) = (l, r, true)
  | [], r, _ => by simp [segS]
  | x :: l, r, h => by
    rw [List.contains_cons, Bool.or_eq_false_iff] at h
    have hx : (x != c) = true := by have := h.1; simp at this ⊢; exact fun e => this e.symm
    have ih := seg_hit c l r h.2
    unfold segS at ih ⊢
    simp only [Prod.mk.injEq] at ih ⊢
    rw [List.cons_append, List.takeWhile_cons, List.dropWhile_cons, hx, if_pos rfl, if_pos rfl, List.contains_cons]
    exact ⟨by rw [ih.1], ih.2.1, by rw [ih.2.2]; simp⟩
theorem seg_no (c : UInt8) (l : List UInt8) (h : l.contains c = false) : segS c l = (l, [], false) := by
  unfold segS
  obtain ⟨e1, e2⟩ := tw_all c l h
  rw [e1, e2, h]; rfl
theorem bl_split (s : ByteArray) (k : Nat) (h : k < s.size) : bl s = (bl s).take k ++ s[k] :: (bl s).drop (k + 1) := by
  rw [← bl_drop s k h, List.take_append_drop]
theorem stop_hit (p : UInt8 → Bool) (x : UInt8) (hx : p x = true) : ∀ (l r : List UInt8), l.any p = false → (l ++ x :: r).takeWhile (fun y => !p y) = l ∧ (l ++ x :: r).dropWhile (fun y => !p y) = x :: r
  | [], r, _ => by simp [hx]
  | y :: l, r, h => by
    rw [List.any_cons, Bool.or_eq_false_iff] at h
    obtain ⟨i1, i2⟩ := stop_hit p x hx l r h.2
    rw [List.cons_append, List.takeWhile_cons, List.dropWhile_cons, h.1]
    exact ⟨by simp [i1], by simp [i2]⟩
theorem stop_no (p : UInt8 → Bool) : ∀ (l : List UInt8), l.any p = false → l.takeWhile (fun y => !p y) = l ∧ l.dropWhile (fun y => !p y) = []
  | [], _ => ⟨rfl, rfl⟩
  | y :: l, h => by
    rw [List.any_cons, Bool.or_eq_false_iff] at h
    obtain ⟨i1, i2⟩ := stop_no p l h.2
    rw [List.takeWhile_cons, List.dropWhile_cons, h.1]
    exact ⟨by simp [i1], by simp [i2]⟩
theorem bl_pre2 (s : ByteArray) (i : Nat) : bl (s.extract 0 i) = (bl s).take i := by rw [bl_extract, List.drop_zero, Nat.sub_zero]
theorem bl_suf2 (s : ByteArray) (i : Nat) : bl (s.extract i s.size) = (bl s).drop i := by
  rw [bl_extract]
  exact List.take_of_length_le (by rw [List.length_drop, bl_length]; exact Nat.le_refl _)
theorem beq_u8 (x c : UInt8) : ((x.toNat : Int) == (c.toNat : Int)) = (x == c) := by
  rw [Bool.eq_iff_iff, beq_iff_eq, beq_iff_eq]
  exact ⟨fun e => UInt8.toNat_inj.1 (by omega), fun e => by rw [e]⟩
theorem ref1_Letter (x : UInt8) (w : World) : Calls Tryz.prog 69 #[.int .u8 x.toNat] w fun e w' => e = .returned (.bool (letterB x)) ∧ w = w' := by
  go_enter Tryz.func69, Tryz.ntmps69
  go_wp2
  all_goals
    go_ret
    refine ⟨ret_bool ?_, rfl⟩
    unfold letterB
    rw [Bool.eq_iff_iff]
    simp <;> omega
set_option maxHeartbeats 1000000 in
set_option maxRecDepth 100000 in
theorem ref1_Part (s : ByteArray) (c : UInt8) (w : World) (hs : s.size ≤ 1000000) :
    Calls Tryz.prog 66 #[.string s, .int .u8 c.toNat] w fun e w' => (∃ a b, e = .returned (.tuple #[.string a, .string b, .bool (segS c (bl s)).2.2]) ∧ Hid (bl a = (segS c (bl s)).1) ∧ Hid (bl b = (segS c (bl s)).2.1) ∧ a.size ≤ s.size ∧ b.size ≤ s.size) ∧ Hid (Bel w w') := by
  go_enter Tryz.func66, Tryz.ntmps66
  go_wp2
  go_loopg [7] s.size (fun g v7 wr => ∃ k : Nat, v7 = .int .i64 k ∧ k + g = s.size ∧ Hid (((bl s).take k).contains c = false) ∧ w = wr)
  case atStart => exact ⟨0, rfl, by omega, rfl, rfl⟩
  case round =>
    obtain ⟨k, rfl, hk, HI, rfl⟩ := hrel
    cases gk with
    | zero =>
      have hk' : ¬ (k : Int) < s.size := by omega
      have HF : Hid (segS c (bl s) = (bl s, [], false)) := seg_no c _ (by have := HI.out; rw [List.take_of_length_le (by rw [bl_length]; omega)] at this; exact this)
      go_wp2
      go_ret3
      exact ⟨⟨s, ⟨#[]⟩, by rw [HF.out]; rfl, by rw [HF.out]; rfl, by rw [HF.out]; rfl, Nat.le_refl _, Nat.zero_le _⟩, by unfold Hid; exact Below.refl _ _⟩
    | succ g =>
      have hlt : k < s.size := by omega
      have hb := beq_u8 s[k] c
      cases hc : (s[k] == c)
      · rw [hc] at hb
        have HI2 : Hid (((bl s).take (k + 1)).contains c = false) := by
          unfold Hid; rw [bl_take s k hlt, List.contains_append, HI.out, List.contains_cons]
          simp; simp at hc; exact fun e => hc e.symm
        clear hc
        go_wp2
        go_roundg g
        case measure => omega
        case rel => exact ⟨k + 1, by go_num, by omega, HI2, rfl⟩
      · rw [hc] at hb
        have HF : Hid (segS c (bl s) = ((bl s).take k, (bl s).drop (k + 1), true)) := by
          unfold Hid
          have e := bl_split s k hlt
          rw [eq_of_beq hc] at e
          conv => lhs; rw [e]
          exact seg_hit c _ _ HI.out
        clear hc
        have e1 : IntKind.i64.wrap ((k : Int) + 1) = (k : Int) + 1 := IntWalk.i64_in _ (by omega)
        have p1 : 0 ≤ (k : Int) + 1 := by omega
        have p2 : (k : Int) + 1 ≤ s.size := by omega
        have p3 : ((k : Int) + 1).toNat = k + 1 := by omega
        have z1 : (s.extract 0 k).size ≤ s.size := by rw [ByteArray.size_extract]; omega
        have z2 : (s.extract (k + 1) s.size).size ≤ s.size := by rw [ByteArray.size_extract]; omega
        have hk1 : (k : Int) ≤ s.size := by omega
        go_wp2
        go_quiet (fail)
        go_wp2
        go_ret3
        exact ⟨⟨_, _, by rw [HF.out]; rfl, by rw [HF.out]; exact bl_pre2 s k, by rw [HF.out]; exact bl_suf2 s (k + 1), z1, z2⟩, bel_drewN _ _⟩
end Go.Proofs.YtbpkkgaaeodimaaGreatDoor
namespace Go.Proofs.YtbpkkgaaeodimaaGreatDoor
open Go.RowKit

theorem bl_tail (s : ByteArray) : bl (s.extract 1 s.size) = (bl s).drop 1 := by
  rw [bl_extract]
  exact List.take_of_length_le (by rw [List.length_drop, bl_length]; exact Nat.le_refl _)
theorem bl_init (s : ByteArray) : bl (s.extract 0 (s.size - 1)) = (bl s).dropLast := by
  rw [bl_extract, List.drop_zero, Nat.sub_zero, List.dropLast_eq_take, bl_length]
theorem bl_head (s : ByteArray) (h : 0 < s.size) : bl s = s[0] :: (bl s).drop 1 := by
  have := bl_drop s 0 h
  rwa [List.drop_zero] at this
theorem bl_lastc (s : ByteArray) (h : 0 < s.size) : bl s = (bl s).dropLast ++ [s[s.size - 1]'(by omega)] := by
  have h1 := bl_take s (s.size - 1) (by omega)
  rw [show s.size - 1 + 1 = s.size by omega, List.take_of_length_le (by rw [bl_length]; exact Nat.le_refl _)] at h1
  rw [List.dropLast_eq_take, bl_length]
  exact h1
set_option maxHeartbeats 1000000 in
set_option maxRecDepth 100000 in
theorem ref3_over (s : ByteArray) (w : World) (hs : s.size ≤ 1000000) :
    Calls Tryz.prog 72 #[.string s] w fun e w' => (∃ t, e = .returned (.string t) ∧ Hid (bl t = (bl s).dropWhile (· == 47)) ∧ t.size ≤ s.size) ∧ w = w' := by
  go_enter Tryz.func72, Tryz.ntmps72
  go_wp2
  go_loopg [0] s.size (fun g v0 wr => ∃ t : ByteArray, v0 = .string t ∧ t.size ≤ g ∧ t.size ≤ s.size ∧ Hid ((bl t).dropWhile (· == 47) = (bl s).dropWhile (· == 47)) ∧ w = wr)
  case atStart => exact ⟨s, rfl, Nat.le_refl _, Nat.le_refl _, rfl, rfl⟩
  case round =>
    obtain ⟨t, rfl, ht, hts, HI, rfl⟩ := hrel
    by_cases h0 : 0 < t.size
    · obtain ⟨g, rfl⟩ : ∃ g, gk = g + 1 := ⟨gk - 1, by omega⟩
      have hb := beq_u8 t[0] 47
      cases hc : (t[0] == 47)
      · rw [hc] at hb
        have hb' : ((t[0].toNat : Int) == 47) = false := hb
        have HF : Hid (bl t = (bl s).dropWhile (· == 47)) := by
          unfold Hid; rw [← HI.out, bl_head t h0, List.dropWhile_cons, hc]; rfl
        clear hb hc HI
        go_wp2
        go_ret
        exact ⟨⟨t, rfl, HF, hts⟩, rfl⟩
      · rw [hc] at hb
        have hb' : ((t[0].toNat : Int) == 47) = true := hb
        have HF : Hid ((bl (t.extract 1 t.size)).dropWhile (· == 47) = (bl s).dropWhile (· == 47)) := by
          unfold Hid; rw [← HI.out, bl_tail]; conv => rhs; rw [bl_head t h0, List.dropWhile_cons, hc, if_pos rfl]
        have hz : (t.extract 1 t.size).size ≤ g := by rw [ByteArray.size_extract]; omega
        have hz2 : (t.extract 1 t.size).size ≤ s.size := by rw [ByteArray.size_extract]; omega
        clear hb hc HI
        go_wp2
        go_roundg g
        case measure => omega
        case rel => exact ⟨_, rfl, hz, hz2, HF, rfl⟩
    · have h0' : ¬ 0 < (t.size : Int) := by omega
      have HF : Hid (bl t = (bl s).dropWhile (· == 47)) := by
        have hn : bl t = [] := List.eq_nil_of_length_eq_zero (by rw [bl_length]; omega)
        unfold Hid; rw [← HI.out, hn]; rfl
      clear HI
      go_wp2
      go_ret
      exact ⟨⟨t, rfl, HF, hts⟩, rfl⟩
def stop2 (a b x : UInt8) : Bool := x == a || x == b
set_option maxHeartbeats 1000000 in
set_option maxRecDepth 100000 in
theorem ref3_ahead (s : ByteArray) (a b : UInt8) (w : World) (hs : s.size ≤ 1000000) :
    Calls Tryz.prog 76 #[.string s, .int .u8 a.toNat, .int .u8 b.toNat] w fun e w' => (∃ x y, e = .returned (.tuple #[.string x, .string y]) ∧ Hid (bl x = (bl s).takeWhile fun z => !stop2 a b z) ∧ Hid (bl y = (bl s).dropWhile fun z => !stop2 a b z) ∧ x.size ≤ s.size ∧ y.size ≤ s.size) ∧ Hid (Bel w w') := by
  go_enter Tryz.func76, Tryz.ntmps76
  go_wp2
  go_loopg [8] s.size (fun g v8 wr => ∃ k : Nat, v8 = .int .i64 k ∧ k + g = s.size ∧ Hid (((bl s).take k).any (stop2 a b) = false) ∧ w = wr)
  case atStart => exact ⟨0, rfl, by omega, rfl, rfl⟩
  case round =>
    obtain ⟨k, rfl, hk, HI, rfl⟩ := hrel
    cases gk with
    | zero =>
      have hk' : ¬ (k : Int) < s.size := by omega
      have HF : Hid ((bl s).takeWhile (fun z => !stop2 a b z) = bl s ∧ (bl s).dropWhile (fun z => !stop2 a b z) = []) := stop_no (stop2 a b) _ (by have := HI.out; rw [List.take_of_length_le (by rw [bl_length]; omega)] at this; exact this)
      go_wp2
      go_ret2
      exact ⟨⟨s, ⟨#[]⟩, rfl, by rw [HF.out.1]; rfl, by rw [HF.out.2]; rfl, Nat.le_refl _, Nat.zero_le _⟩, by unfold Hid; exact Below.refl _ _⟩
    | succ g =>
      have hlt : k < s.size := by omega
      have hba := beq_u8 s[k] a
      have hbb := beq_u8 s[k] b
      cases hc : stop2 a b s[k]
      · have HI2 : Hid (((bl s).take (k + 1)).any (stop2 a b) = false) := by unfold Hid; rw [any_take s k hlt, HI.out, hc]; rfl
        unfold stop2 at hc
        rw [Bool.or_eq_false_iff] at hc
        rw [hc.1] at hba
        rw [hc.2] at hbb
        clear hc
        go_wp2
        go_roundg g
        case measure => omega
        case rel => exact ⟨k + 1, by go_num, by omega, HI2, rfl⟩
      · have HF : Hid ((bl s).takeWhile (fun z => !stop2 a b z) = (bl s).take k ∧ (bl s).dropWhile (fun z => !stop2 a b z) = (bl s).drop k) := by
          have e := bl_split s k hlt
          have h := stop_hit (stop2 a b) s[k] hc ((bl s).take k) ((bl s).drop (k + 1)) HI.out
          rw [← e, ← bl_drop s k hlt] at h
          exact h
        have z1 : (s.extract 0 k).size ≤ s.size := by rw [ByteArray.size_extract]; omega
        have z2 : (s.extract k s.size).size ≤ s.size := by rw [ByteArray.size_extract]; omega
        have hk1 : (k : Int) ≤ s.size := by omega
        unfold stop2 at hc
        rcases Bool.or_eq_true_iff.1 hc with h | h
        · rw [h] at hba
          clear hc h hbb
          go_wp2
          go_quiet (fail)
          go_wp2
          go_ret2
          exact ⟨⟨_, _, rfl, by rw [HF.out.1]; exact bl_pre2 s k, by rw [HF.out.2]; exact bl_suf2 s k, z1, z2⟩, bel_drewN _ _⟩
        · rw [h] at hbb
          cases ha : (s[k] == a)
          · rw [ha] at hba
            clear hc h ha
            go_wp2
            go_quiet (fail)
            go_wp2
            go_ret2
            exact ⟨⟨_, _, rfl, by rw [HF.out.1]; exact bl_pre2 s k, by rw [HF.out.2]; exact bl_suf2 s k, z1, z2⟩, bel_drewN _ _⟩
          · rw [ha] at hba
            clear hc h ha hbb
            go_wp2
            go_quiet (fail)
            go_wp2
            go_ret2
            exact ⟨⟨_, _, rfl, by rw [HF.out.1]; exact bl_pre2 s k, by rw [HF.out.2]; exact bl_suf2 s k, z1, z2⟩, bel_drewN _ _⟩
end Go.Proofs.YtbpkkgaaeodimaaGreatDoor
namespace Go.Proofs.YtbpkkgaaeodimaaGreatDoor
open Go.RowKit

theorem seg_len (c : UInt8) (l : List UInt8) : (segS c l).1.length ≤ l.length ∧ (segS c l).2.1.length ≤ l.length := by
  unfold segS
  constructor
  · exact (List.takeWhile_sublist _).length_le
  · simp only [List.length_drop]
    have := (List.dropWhile_sublist (p := (· != c)) (l := l)).length_le
    omega
theorem slash_seg : ∀ l : List UInt8, slashS l = putB 92 47 (segS 63 l).1 ++ (if (segS 63 l).2.2 = true then 63 :: (segS 63 l).2.1 else [])
  | [] => rfl
  | x :: r => by
    have ih := slash_seg r
    by_cases hx : x = 63
    · subst hx
      rw [show segS 63 (63 :: r) = ([], r, true) from seg_hit 63 [] r rfl, slashS, if_pos rfl]; rfl
    · have h1 : (x != 63) = true := by simpa using hx
      have e : segS 63 (x :: r) = (x :: (segS 63 r).1, (segS 63 r).2.1, (segS 63 r).2.2) := by
        unfold segS
        rw [List.takeWhile_cons, List.dropWhile_cons, h1, if_pos rfl, if_pos rfl, List.contains_cons]
        have : (63 == x) = false := by simp; exact fun h => hx h.symm
        rw [this, Bool.false_or]
      rw [slashS, if_neg hx, ih, e]; rfl
theorem slash_len : ∀ l : List UInt8, (slashS l).length = l.length
  | [] => rfl
  | x :: r => by rw [slashS]; split; rfl; simp [slash_len r]
set_option maxHeartbeats 1000000 in
theorem lib_ReplaceAll (s old new : ByteArray) (w : World) (hs : s.size ≤ 1000000) (ho : 1 ≤ old.size) (hn : new.size ≤ 10) (hne : bl old ≠ bl new) (HE : Hid (Env w)) :
    Calls Tryz.prog 116 #[.string s, .string old, .string new] w fun e w' => (∃ t, e = .returned (.string t) ∧ Hid (bl t = repG (bl old) (bl new) (bl s))) ∧ Hid (Bel w w') := by
  obtain ⟨m, hm⟩ := HE.out.maxLen
  have hc : Lib.countB s old ≤ s.size + 1 := by
    have := Lib.count_le s.data.toList old.data.toList
    rw [show s.data.toList.length = s.size from bl_length s] at this
    exact this
  have hb : Lib.countB s old * new.size ≤ (s.size + 1) * 10 := Nat.mul_le_mul hc hn
  refine (Tryz.strings_ReplaceAll s old new m w (by omega) hm ho (by omega)).mono ?_
  rintro e w1 ⟨rfl, HB⟩
  refine ⟨⟨_, rfl, ?_⟩, HB⟩
  unfold Hid
  rw [bl_mk]
  exact replaceAll_is (bl s) (bl old) (bl new) hne
theorem lib_Cut1 (s : ByteArray) (c : UInt8) (w : World) (hs : s.size ≤ 1000000) (HE : Hid (Env w)) :
    Calls Tryz.prog 48 #[.string s, .string ⟨#[c]⟩] w fun e w' => (∃ a b, e = .returned (.tuple #[.string a, .string b, .bool (segS c (bl s)).2.2]) ∧ Hid (bl a = (segS c (bl s)).1) ∧ Hid (bl b = (segS c (bl s)).2.1) ∧ a.size ≤ s.size ∧ b.size ≤ s.size) ∧ Hid (Bel w w') := by
  obtain ⟨m, hm⟩ := HE.out.maxLen
  refine (Tryz.strings_Cut s ⟨#[c]⟩ m w (by omega) hm).mono ?_
  rintro e w1 ⟨rfl, n, rfl⟩
  have h : Lib.cut s.data.toList (⟨#[c]⟩ : ByteArray).data.toList = segS c (bl s) := cut_one c (bl s)
  have hl := seg_len c (bl s)
  rw [h]
  refine ⟨⟨_, _, rfl, by unfold Hid; rw [bl_mk], by unfold Hid; rw [bl_mk], ?_, ?_⟩, bel_drewN _ _⟩
  · rw [← bl_length, bl_mk, ← bl_length s]; exact hl.1
  · rw [← bl_length, bl_mk, ← bl_length s]; exact hl.2
set_option maxHeartbeats 1000000 in
theorem url_slashes (s : ByteArray) (w : World) (hs : s.size ≤ 1000000) (HE : Hid (Env w)) :
    Calls Tryz.prog 85 #[.string s] w fun e w' => (∃ t, e = .returned (.string t) ∧ Hid (bl t = slashS (bl s)) ∧ t.size = s.size) ∧ Hid (Bel w w') := by
  have HS : Hid (slashS (bl s) = putB 92 47 (segS 63 (bl s)).1 ++ (if (segS 63 (bl s)).2.2 = true then 63 :: (segS 63 (bl s)).2.1 else [])) := slash_seg _
  go_enter Tryz.func85, Tryz.ntmps85
  go_wp2_with fail
  refine (lib_Cut1 s 63 _ hs HE).mono ?_
  rintro e w1 ⟨⟨a, b, rfl, ha, hb, za, zb⟩, HB1⟩
  have HE1 := Lib.hid (HE.out.bel HB1.out)
  rw [← ha.out, ← hb.out] at HS
  go_wp2_with fail
  refine (lib_ReplaceAll a ⟨#[92]⟩ ⟨#[47]⟩ _ (by omega) (by decide) (by decide) (by decide) HE1).mono ?_
  rintro e w2 ⟨⟨t, rfl, ht⟩, HB2⟩
  have ht2 : Hid (bl t = putB 92 47 (bl a)) := ht.out.trans (rep_one 92 47 (bl a))
  have zt : t.size = a.size := by rw [← bl_length, ht2.out]; simp [putB, bl_length]
  have HB3 := Lib.hid (bel_trans HB1.out HB2.out)
  clear ht
  cases hh : (segS 63 (bl s)).2.2
  · have HF : Hid (bl t = slashS (bl s)) := by unfold Hid; rw [HS.out, hh, ht2.out]; simp
    have hz : t.size = s.size := by have := slash_len (bl s); rw [← HF.out, bl_length, bl_length] at this; exact this
    go_wp2
    go_ret
    exact ⟨⟨t, rfl, HF, hz⟩, HB3⟩
  · have HF : Hid (bl (t ++ ((⟨#[63]⟩ : ByteArray) ++ b)) = slashS (bl s)) := by unfold Hid; rw [HS.out, hh, bl_append, bl_append, ht2.out]; rfl
    have hz : (t ++ ((⟨#[63]⟩ : ByteArray) ++ b)).size = s.size := by have := slash_len (bl s); rw [← HF.out, bl_length, bl_length] at this; exact this
    go_wp2
    go_ret
    exact ⟨⟨_, rfl, HF, hz⟩, HB3⟩
set_option maxHeartbeats 1000000 in
theorem url_dots (s : ByteArray) (w : World) (hs : s.size ≤ 1000000) (HE : Hid (Env w)) :
    Calls Tryz.prog 119 #[.string s] w fun e w' => e = .returned (.int .i64 (dotsS (bl s))) ∧ Hid (Bel w w') := by
  have HD : Hid (dotsS (bl s) = if repE (lower (bl s)) = [46] then 1 else if repE (lower (bl s)) = [46, 46] then 2 else 0) := dots_is _
  go_enter Tryz.func119, Tryz.ntmps119
  go_wp2_with fail
  refine (infra_Lower s _ (by omega)).mono ?_
  rintro e w1 ⟨⟨t, rfl, ht⟩, HB1⟩
  have zt : t.size = s.size := by rw [← bl_length, ht.out, lower_len, bl_length]
  have HE1 := Lib.hid (HE.out.bel HB1.out)
  go_wp2_with fail
  refine (lib_ReplaceAll t ⟨#[37, 50, 101]⟩ ⟨#[46]⟩ _ (by omega) (by decide) (by decide) (by decide) HE1).mono ?_
  rintro e w2 ⟨⟨u, rfl, hu⟩, HB2⟩
  have hu2 : Hid (bl u = repE (lower (bl s))) := by unfold Hid; rw [hu.out, ← ht.out]; exact rep_2e _ _ (Nat.le_refl _)
  rw [← hu2.out] at HD
  have HB3 := Lib.hid (bel_trans HB1.out HB2.out)
  clear hu
  by_cases h1 : bl u = [46]
  · have HF : Hid (dotsS (bl s) = 1) := by unfold Hid; rw [HD.out, if_pos h1]
    have hz : u.size = 1 := by rw [← bl_length, h1]; rfl
    have hb : u.toList = [46] := by rw [toList_bl]; exact h1
    clear h1 HD
    go_wp2
    all_goals
      go_ret
      exact ⟨by rw [HF.out]; rfl, HB3⟩
  · by_cases h2 : bl u = [46, 46]
    · have HF : Hid (dotsS (bl s) = 2) := by unfold Hid; rw [HD.out, if_neg h1, if_pos h2]
      have hz : u.size = 2 := by rw [← bl_length, h2]; rfl
      have hb : u.toList = [46, 46] := by rw [toList_bl]; exact h2
      clear h1 h2 HD
      go_wp2
      all_goals
        go_ret
        exact ⟨by rw [HF.out]; rfl, HB3⟩
    · have HF : Hid (dotsS (bl s) = 0) := by unfold Hid; rw [HD.out, if_neg h1, if_neg h2]
      have hb : (u.toList == ([46] : List UInt8)) = false := by rw [toList_bl]; simpa using h1
      have hb2 : (u.toList == ([46, 46] : List UInt8)) = false := by rw [toList_bl]; simpa using h2
      clear h1 h2 HD
      go_wp2
      all_goals
        go_ret
        exact ⟨by rw [HF.out]; rfl, HB3⟩
end Go.Proofs.YtbpkkgaaeodimaaGreatDoor
namespace Go.Proofs.YtbpkkgaaeodimaaGreatDoor
open Go.RowKit

set_option maxHeartbeats 1000000 in
set_option maxRecDepth 100000 in
theorem infra_Int (s : ByteArray) (w : World) (hs : s.size ≤ 1000000) :
    Calls Tryz.prog 167 #[.string s] w fun e w' => e = .returned (.tuple #[.int .i64 (intS (bl s)).1, .bool (intS (bl s)).2]) ∧ w = w' := by
  go_enter Tryz.func167, Tryz.ntmps167
  go_wp2
  go_loopg [4, 10] s.size (fun g v4 v10 wr => ∃ (k : Nat) (m : Int), v10 = .int .i64 k ∧ v4 = .int .i64 m ∧ k + g = s.size ∧ 0 ≤ m ∧ m ≤ 9223372036854775807 ∧ Hid (intF m ((bl s).drop k) = intF 0 (bl s)) ∧ w = wr)
  case atStart => exact ⟨0, 0, rfl, rfl, by omega, by omega, by omega, rfl, rfl⟩
  case round =>
    obtain ⟨k, m, rfl, rfl, hk, h0, h1, HI, rfl⟩ := hrel
    cases gk with
    | succ g =>
      have hlt : k < s.size := by omega
      have HF := Lib.hid (HI.out.symm.trans (intF_drop s k hlt m))
      clear HI
      by_cases hd : isDigit s[k].toNat = true
      · have hd1 : 48 ≤ (s[k].toNat : Int) := by have := hd; simp [isDigit] at this; omega
        have hd2 : (s[k].toNat : Int) ≤ 57 := by have := hd; simp [isDigit] at this; omega
        replace HF := Lib.hid (HF.out.trans (if_pos hd))
        clear hd
        by_cases hb : (9223372036854775807 - ((s[k].toNat : Int) - 48)) / 10 < m
        · have hn : intN m s[k] = 9223372036854775807 := if_pos hb
          rw [hn] at HF
          clear hn
          go_wp2
          go_roundg g
          case measure => omega
          case rel => exact ⟨k + 1, 9223372036854775807, by go_num, rfl, by omega, by omega, by omega, HF.out.symm, rfl⟩
        · have hn : intN m s[k] = m * 10 + ((s[k].toNat : Int) - 48) := if_neg hb
          rw [hn] at HF
          clear hn
          go_wp2
          go_roundg g
          case measure => omega
          case rel => exact ⟨k + 1, _, by go_num, rfl, by omega, by omega, by omega, HF.out.symm, rfl⟩
      · have hd' : isDigit s[k].toNat = false := by simpa using hd
        have HX : Hid (intS (bl s) = (0, false)) := by unfold Hid intS; rw [HF.out, hd']; rfl
        have hd3 : (s[k].toNat : Int) < 48 ∨ (48 ≤ (s[k].toNat : Int) ∧ 57 < (s[k].toNat : Int)) := by have := hd; simp [isDigit] at this; omega
        clear HF hd hd'
        rcases hd3 with h | ⟨h, h'⟩
        all_goals
          go_wp2
          go_ret2
          exact ⟨by rw [HX.out]; rfl, rfl⟩
    | zero =>
      have hk' : ¬ (k : Int) < s.size := by omega
      have HX : Hid (intS (bl s) = (m, decide (0 < s.size))) := by
        have := HI.out
        rw [bl_drop_end s k (by omega), intF] at this
        unfold Hid intS; rw [← this, bl_length]
      clear HI
      go_wp2
      go_ret2
      exact ⟨by rw [HX.out]; simp, rfl⟩
theorem slash_two (x : UInt8) : (0 ≤ Lib.indexByte [47, 92] x) ↔ (x == 47 || x == 92) = true := by
  rw [idx_ge]; simp
theorem twice_is (l : List UInt8) : twiceB l = (decide (1 < l.length) && ((l.getD 0 0 == 47 || l.getD 0 0 == 92) && (l.getD 1 0 == 47 || l.getD 1 0 == 92))) := by
  match l with
  | [] => rfl
  | [_] => rfl
  | a :: b :: t => simp [twiceB]
theorem dot_pct (x : UInt8) (r : List UInt8) (h : x ≠ 46) : (begins (lower (x :: r)) [37, 50, 101] = true ∧ dotN (x :: r) = (dotN ((x :: r).drop 3)).map (· + 1) ∧ 3 ≤ (x :: r).length) ∨ (begins (lower (x :: r)) [37, 50, 101] = false ∧ dotN (x :: r) = none) := by
  by_cases hq : x = 37 ∧ ∃ c t, r = 50 :: c :: t ∧ (c = 101 ∨ c = 69)
  · obtain ⟨rfl, c, t, rfl, hc⟩ := hq
    refine .inl ⟨?_, ?_, by simp⟩
    · have : lower (37 :: 50 :: c :: t) = 37 :: 50 :: 101 :: lower t := by
        show low 37 :: low 50 :: low c :: lower t = _
        rw [(low_e c).2 hc]; rfl
      rw [this]
      simp [begins]
    · rw [dotN.eq_def]; simp only []; rw [if_pos hc]; rfl
  · refine .inr ⟨?_, ?_⟩
    · rw [Bool.eq_false_iff]
      intro e
      unfold begins at e
      rw [Bool.and_eq_true, beq_iff_eq] at e
      have e2 := e.2
      match r, e2 with
      | [], e2 => simp [lower] at e2
      | [_], e2 => simp [lower] at e2
      | a :: c :: t, e2 =>
        simp [lower] at e2
        exact hq ⟨(low_n x 37 (.inl rfl)).1 e2.1, c, t, by rw [(low_n a 50 (.inr rfl)).1 e2.2.1], (low_e c).1 e2.2.2⟩
    · rw [dotN.eq_def]
      split
      · rename_i e; simp at e
      · rename_i e; simp at e; exact absurd e.1 h
      · rename_i c t e
        simp at e
        obtain ⟨rfl, rfl⟩ := e
        rw [if_neg (fun hc => hq ⟨rfl, c, t, rfl, hc⟩)]
      · rfl
theorem bl_suf3 (s : ByteArray) (i : Nat) : bl (s.extract i s.size) = (bl s).drop i := bl_suf2 s i
set_option maxHeartbeats 1000000 in
set_option maxRecDepth 100000 in
theorem ref3_dots (s : ByteArray) (w : World) (hs : s.size ≤ 1000000) :
    Calls Tryz.prog 121 #[.string s] w fun e w' => e = .returned (.int .i64 ((dotN (bl s)).getD 0 : Nat)) ∧ Hid (Bel w w') := by
  go_enter Tryz.func121, Tryz.ntmps121
  go_wp2
  go_loopg [0, 3] s.size (fun g v0 v3 wr => ∃ (t : ByteArray) (k : Nat), v0 = .string t ∧ v3 = .int .i64 k ∧ t.size ≤ g ∧ k + t.size ≤ s.size ∧ Hid (dotN (bl s) = (dotN (bl t)).map (· + k)) ∧ Hid (Bel w wr))
  case atStart => exact ⟨s, 0, rfl, rfl, Nat.le_refl _, by omega, by unfold Hid; simp, by unfold Hid; exact Below.refl _ _⟩
  case round =>
    obtain ⟨t, k, rfl, rfl, ht, hk, HI, HB⟩ := hrel
    by_cases h0 : bl t = []
    · have he : (t.toList == ([] : List UInt8)) = true := by rw [toList_bl]; simpa using h0
      have HF : Hid ((dotN (bl s)).getD 0 = k) := by
        unfold Hid; rw [HI.out, h0]; simp [dotN]
      clear h0 HI
      go_wp2
      go_ret
      exact ⟨by rw [HF.out]; rfl, HB⟩
    · have he : (t.toList == ([] : List UInt8)) = false := by rw [toList_bl]; simpa using h0
      have hpos : 0 < t.size := by
        rcases Nat.eq_zero_or_pos t.size with h | h
        · exact absurd (List.eq_nil_of_length_eq_zero (by rw [bl_length]; exact h)) h0
        · exact h
      obtain ⟨g, rfl⟩ : ∃ g, gk = g + 1 := ⟨gk - 1, by omega⟩
      have hd := bl_head t hpos
      by_cases h46 : t[0] = 46
      · have hb : ((t[0].toNat : Int) == 46) = true := by rw [h46]; rfl
        have HF : Hid (dotN (bl s) = (dotN (bl (t.extract 1 t.size))).map (· + (k + 1))) := by
          unfold Hid
          rw [HI.out, bl_tail, hd, h46]
          show ((dotN ((bl t).drop 1)).map (· + 1)).map (· + k) = _
          rw [Option.map_map]; congr 1; funext x; simp; omega
        have hz : (t.extract 1 t.size).size ≤ g := by rw [ByteArray.size_extract]; omega
        have hz2 : (k + 1) + (t.extract 1 t.size).size ≤ s.size := by rw [ByteArray.size_extract]; omega
        clear h46 HI hd h0
        go_wp2
        go_roundg g
        case measure => omega
        case rel => exact ⟨_, k + 1, rfl, by go_num, hz, hz2, HF, HB⟩
      · have hb : ((t[0].toNat : Int) == 46) = false := by rw [beq_eq_false_iff_ne]; intro e; exact h46 (UInt8.toNat_inj.1 (by simpa using (by omega : t[0].toNat = 46)))
        have HP := Lib.hid (dot_pct t[0] ((bl t).drop 1) h46)
        rw [← hd] at HP
        clear h46 h0 hd
        have ht1 : t.size ≤ 1000000 := by omega
        go_wp2_with fail
        refine (ref1_Lower t _ (by omega)).mono ?_
        rintro e w1 ⟨⟨u, rfl, hu⟩, HB1⟩
        go_wp2_with fail
        refine (ref1_Begins u ⟨#[37, 50, 101]⟩ _).mono ?_
        rintro e w2 ⟨rfl, rfl⟩
        have HB2 := Lib.hid (bel_trans HB.out HB1.out)
        rcases HP.out with ⟨q1, q2, q3⟩ | ⟨q1, q2⟩
        · have q4 : begins (bl u) (bl ⟨#[37, 50, 101]⟩) = true := by rw [hu.out]; exact q1
          have HF : Hid (dotN (bl s) = (dotN (bl (t.extract 3 t.size))).map (· + (k + 1))) := by
            unfold Hid
            rw [HI.out, bl_suf2, q2, Option.map_map]; congr 1; funext x; simp; omega
          rw [bl_length] at q3
          have hz : (t.extract 3 t.size).size ≤ g := by rw [ByteArray.size_extract]; omega
          have hz2 : (k + 1) + (t.extract 3 t.size).size ≤ s.size := by rw [ByteArray.size_extract]; omega
          have q5 : (3 : Int) ≤ t.size := by omega
          rw [q4]
          clear q1 q2 q4 HP HI hu
          go_wp2
          go_roundg g
          case measure => omega
          case rel => exact ⟨_, k + 1, rfl, by go_num, hz, hz2, HF, HB2⟩
        · have q4 : begins (bl u) (bl ⟨#[37, 50, 101]⟩) = false := by rw [hu.out]; exact q1
          have HF : Hid ((dotN (bl s)).getD 0 = 0) := by unfold Hid; rw [HI.out, q2]; rfl
          rw [q4]
          clear q1 q2 q4 HP HI hu
          go_wp2
          go_ret
          exact ⟨by rw [HF.out]; rfl, HB2⟩
set_option maxHeartbeats 1000000 in
set_option maxRecDepth 100000 in
theorem url_twice (s : ByteArray) (w : World) (hs : s.size ≤ 1000000) :
    Calls Tryz.prog 50 #[.string s] w fun e w' => e = .returned (.bool (twiceB (bl s))) ∧ w = w' := by
  have hT := twice_is (bl s)
  rw [bl_length] at hT
  by_cases h : 1 < s.size
  · have h0 : (bl s).getD 0 0 = s[0]'(by omega) := by rw [List.getD_eq_getElem?_getD, bl_get s 0 (by omega)]; rfl
    have h1 : (bl s).getD 1 0 = s[1]'(by omega) := by rw [List.getD_eq_getElem?_getD, bl_get s 1 (by omega)]; rfl
    rw [h0, h1, decide_eq_true h, Bool.true_and] at hT
    have b0 := slash_two (s[0]'(by omega))
    have b1 := slash_two (s[1]'(by omega))
    have i0 := Tryz.strings_IndexByte ⟨#[47, 92]⟩ (s[0]'(by omega)).toNat
    have i1 := Tryz.strings_IndexByte ⟨#[47, 92]⟩ (s[1]'(by omega)).toNat
    have e0 : ((s[0]'(by omega)).toNat : Int).toNat.toUInt8 = s[0]'(by omega) := by simp
    have e1 : ((s[1]'(by omega)).toNat : Int).toNat.toUInt8 = s[1]'(by omega) := by simp
    rw [e0] at i0
    rw [e1] at i1
    rw [show (⟨#[47, 92]⟩ : ByteArray).data.toList = [47, 92] from rfl] at i0 i1
    have hTT := Lib.hid hT
    have c0 : (decide (0 ≤ Lib.indexByte [47, 92] (s[0]'(by omega))) = (s[0]'(by omega) == 47 || s[0]'(by omega) == 92)) := by
      rw [Bool.eq_iff_iff, decide_eq_true_iff]; exact b0
    have c1 : (decide (0 ≤ Lib.indexByte [47, 92] (s[1]'(by omega))) = (s[1]'(by omega) == 47 || s[1]'(by omega) == 92)) := by
      rw [Bool.eq_iff_iff, decide_eq_true_iff]; exact b1
    rw [← c0, ← c1] at hTT
    clear c0 c1 b0 b1 hT
    have hs1 : (1 : Int) < s.size := by omega
    generalize hx0 : Lib.indexByte [47, 92] (s[0]'(by omega)) = n0 at *
    generalize hx1 : Lib.indexByte [47, 92] (s[1]'(by omega)) = n1 at *
    by_cases k0 : 0 ≤ n0
    · go_enter Tryz.func50, Tryz.ntmps50
      go_wp2_with fail
      refine (i0 _).mono ?_
      rintro e w' ⟨rfl, rfl⟩
      go_wp2_with fail
      refine (i1 _).mono ?_
      rintro e w' ⟨rfl, rfl⟩
      go_wp2
      go_ret
      exact ⟨ret_bool (by rw [hTT.out]; simp [k0]), rfl⟩
    · go_enter Tryz.func50, Tryz.ntmps50
      go_wp2_with fail
      refine (i0 _).mono ?_
      rintro e w' ⟨rfl, rfl⟩
      go_wp2
      go_ret
      exact ⟨ret_bool (by rw [hTT.out]; simp; omega), rfl⟩
  · have HT : Hid (twiceB (bl s) = false) := by unfold Hid; rw [hT, decide_eq_false h]; rfl
    have hs1 : ¬ (1 : Int) < s.size := by omega
    clear hT
    go_enter Tryz.func50, Tryz.ntmps50
    go_wp2
    go_ret
    exact ⟨ret_bool HT.out.symm, rfl⟩
end Go.Proofs.YtbpkkgaaeodimaaGreatDoor
