import Derived.Test.YtbpkkgaaeodimaaGreatDoorProg
import Derived.WalkKit
import Derived.KernelRfl
import Derived.Outline
import Derived.IntWalk
import Derived.WalkSmall
import Derived.WalkSpells
import Derived.WalkLawsBesides
import Derived.Deep.LoopGhost
import Derived.Deep.QuietTactic
import Derived.BigQuiet
import Derived.Lib.Hide
import Derived.Maps.AppendAt
import Derived.Lib.LaidTab
import Derived.Lib.SmallJoins
import Derived.Lib.ConvBytes
import Derived.Laws.BytesArg
import Derived.Deep.RegionHeld
import Derived.Deep.RegionHeld3
import Derived.Deep.RegionWith
import Derived.Deep.DeepCutAuto
import Derived.Deep.CutBlock
import Derived.Deep.DeepFit
import Derived.Lib.AppendStr
import Derived.Lib.ItoaMem
import Derived.Lib.LaidU8
import Derived.StillTailTactics
import Derived.Lib.ItoaNum
namespace Go.Proofs.YtbpkkgaaeodimaaGreatDoor
open Go.RowKit

/-! Bytes of a text. -/
def bl (s : ByteArray) : List UInt8 := s.data.toList
theorem bl_length (s : ByteArray) : (bl s).length = s.size := by unfold bl; rw [Array.length_toList]; rfl
theorem bl_mk (l : List UInt8) : bl ⟨l.toArray⟩ = l := by simp [bl]
theorem mk_bl (s : ByteArray) : (⟨(bl s).toArray⟩ : ByteArray) = s := by simp [bl]
theorem bl_inj {a b : ByteArray} (h : bl a = bl b) : a = b := by rw [← mk_bl a, h, mk_bl]
theorem bl_get (s : ByteArray) (k : Nat) (h : k < s.size) : (bl s)[k]? = some s[k] := by
  have h' : k < s.data.size := h
  show s.data.toList[k]? = some s[k]
  rw [Array.getElem?_toList, Array.getElem?_eq_getElem h']; rfl
theorem bl_drop (s : ByteArray) (k : Nat) (h : k < s.size) : (bl s).drop k = s[k] :: (bl s).drop (k + 1) := by
  have hl : k < (bl s).length := by rw [bl_length]; exact h
  have := bl_get s k h
  rw [List.getElem?_eq_getElem hl] at this
  rw [List.drop_eq_getElem_cons hl, Option.some.inj this]
theorem bl_drop_end (s : ByteArray) (k : Nat) (h : s.size ≤ k) : (bl s).drop k = [] := List.drop_eq_nil_of_le (by rw [bl_length]; exact h)
theorem bl_take (s : ByteArray) (k : Nat) (h : k < s.size) : (bl s).take (k + 1) = (bl s).take k ++ [s[k]] := by
  have hl : k < (bl s).length := by rw [bl_length]; exact h
  have := bl_get s k h
  rw [List.getElem?_eq_getElem hl] at this
  rw [List.take_succ_eq_append_getElem hl, Option.some.inj this]
theorem bl_extract (s : ByteArray) (a b : Nat) : bl (s.extract a b) = ((bl s).drop a).take (b - a) := by
  unfold bl; rw [ByteArray.data_extract, Array.toList_extract]; try rfl
theorem bl_append (a b : ByteArray) : bl (a ++ b) = bl a ++ bl b := by unfold bl; rw [ByteArray.data_append, Array.toList_append]
theorem u8_eq (x : UInt8) (n : Nat) (hn : n < 256) : ((x.toNat : Int) = (n : Int)) ↔ x = UInt8.ofNat n := by
  constructor
  · intro h
    have h' : x.toNat = n := by omega
    rw [← h']; simp
  · intro h
    subst h
    simp; omega

/-! The world behind a call: below the call's first block it is as it was. -/
abbrev Bel (w w' : World) : Prop := Below w.heap.size w w'
theorem bel_next {B : Nat} {w w1 w2 : World} (h : Below B w w1) (hB : B ≤ w1.heap.size) (k : Bel w1 w2) : Below B w w2 := h.trans (k.mono hB)
theorem bel_trans {w w1 w2 : World} (h : Bel w w1) (k : Bel w1 w2) : Bel w w2 := h.trans (k.mono h.size)
theorem bel_cell {w w1 : World} (h : Bel w w1) {a : Addr} {v : Value} (hc : w.cell? a = some v) : w1.cell? a = some v := (h.cell (World.block_lt_of_cell? w a hc)).trans hc

/-- What the library's calls ask of the world: its own variables are laid. -/
structure Env (w : World) : Prop where
  maxLen : ∃ m, w.cell? ⟨0, 0, none⟩ = some (.int .i64 m)
  pow : Lib.TabIs Tryz.prog w "internal/strconv.uint64pow10" .u64 Lib.pow10Tab
  utf : Lib.Utf8Tabs 2 3 w
  synt : ∃ ev, w.cell? ⟨6, 0, none⟩ = some ev ∧ (ev = .nilIface ∨ ∃ te pe, ev = .iface te pe)
  tz : w.cell? ⟨5, 15, none⟩ = some (.int .u8 4)
  rang : ∃ ev, w.cell? ⟨7, 0, none⟩ = some ev ∧ (ev = .nilIface ∨ ∃ te pe, ev = .iface te pe)
theorem gPow : Tryz.prog.globalNamed "internal/strconv.uint64pow10" = some 1 := by kernel_rfl
theorem Env.bel {w w1 : World} (h : Env w) (hb : Bel w w1) : Env w1 := by
  obtain ⟨⟨m, hm⟩, hp, hu, ⟨ev, hs, hs2⟩, ht, ⟨er, hr, hr2⟩⟩ := h
  exact ⟨⟨m, bel_cell hb hm⟩, Joins.tab_stays gPow hp hb (Nat.le_refl _), ⟨fun c hc => bel_cell hb (hu.1 c hc), fun i hi => ⟨bel_cell hb (hu.2 i hi).1, bel_cell hb (hu.2 i hi).2⟩⟩, ⟨ev, bel_cell hb hs, hs2⟩, bel_cell hb ht, ⟨er, bel_cell hb hr, hr2⟩⟩

/-- A row of the call's own, read as a list. -/
def Own (w : World) (base : Nat) (e : TypeId) (v : Value) (xs : List Value) : Prop := w.ownsRow base e 1 v xs.length xs
theorem Own.nil (w : World) (base : Nat) (e : TypeId) : Own w base e (.slice none 0 0) [] := ⟨by simp, .inl ⟨rfl, rfl⟩⟩
theorem Own.base {w : World} {base : Nat} {e : TypeId} {v : Value} {xs : List Value} (h : Own w base e v xs) (k : Nat) (hk : v.ownBlock = some k) : base ≤ k := by
  rcases h.2 with ⟨rfl, _⟩ | ⟨g, cap, cur, rfl, hb, _⟩
  · simp [Value.ownBlock] at hk
  · have : g = k := by simpa [Value.ownBlock] using hk
    omega
theorem Own.bel {w w1 : World} {base : Nat} {e : TypeId} {v : Value} {xs : List Value} (h : Own w base e v xs) (hb : Bel w w1) : Own w1 base e v xs :=
  World.ownsRow.kept h ⟨hb.os, hb.tape, hb.output, hb.size, fun i hi _ => hb.block i hi⟩ (row := none) (by cases v.ownBlock <;> simp)

section
variable {P : Program} {ops : Array Oper} {Q : Exit → Act → World → Prop} {a : Act} {rest : List Oper} {o : Oper} {K : Act → World → Prop}
/-- append(own row, x): the row of one cell for x lies at block g. -/
theorem append_wp {w0 W : World} (base : Nat) (s x : Operand) (t e : TypeId) (z : Value) (bytes : Nat)
    (ho : o.op = .call { callee := .builtin .append, args := #[s, x], argTypes := #[t, t] })
    (ht : P.underlying t = some (.slice e)) (hinfo : (P.info? e).map (fun i => (i.zero, i.size, i.bytes)) = some (some z, 1, bytes)) (hz : z.cells.size = 1)
    (v : Value) (xs : List Value) (y : Value) (g : Nat) (hs : a.eval s = v) (hx : a.eval x = .slice (some ⟨g, 0, none⟩) 1 1) (hg : W.cell? ⟨g, 0, none⟩ = some y) (h1 : y.oneCell' = true)
    (HO : Own W base e v xs) (HB : Below base w0 W) (hbase : base ≤ W.heap.size) (hl : (xs.length + 1) * bytes ≤ 140737488355328) (hlm : xs.length + 1 ≤ 9223372036854775807)
    (h : ∀ v1 w1, Own w1 base e v1 (xs ++ [y]) → Below base w0 w1 → W.heap.size ≤ w1.heap.size → W.grownBy w1 v.ownBlock → (v1.ownBlock = v.ownBlock ∨ v1.ownBlock = some W.heap.size) → K (a.put o.dst v1) w1) :
    o.wp P a W K Q := by
  obtain ⟨i0, hi, hzz⟩ := Option.map_eq_some_iff.1 hinfo
  simp only [Prod.mk.injEq] at hzz
  obtain ⟨hz0, hz1, hz2⟩ := hzz
  obtain ⟨v1, w1, hr, h2, h3, _, h5⟩ := run_append_own_at (P := P) (w := W) base t o.type e i0 z 1 bytes ht hi hz0 hz1 hz2 hz (by omega) v xs.length xs HO ⟨g, 0, none⟩ 1 1 [y] rfl
    (fun j u hj => by
      match j, hj with
      | 0, hj => simp at hj; subst hj; exact hg
      | j + 1, hj => simp at hj)
    (by simp [h1]) (by unfold Go.maxLen; omega) hl hbase
  unfold Oper.wp execOp
  simp only [ho, resolve, invoke, builtin, Sem.run_bind, Sem.run_pure, Result.andThen_ok, List.map_toArray, List.map_cons, List.map_nil, hs, hx, hr]
  exact h v1 w1 (by unfold Own; simpa using h2) (HB.grown h3 hbase (fun k hk => HO.base k hk)) h3.size h3 h5
/-- append(own row, xs...): m cells at address ad. -/
theorem append_many {w0 W : World} (base : Nat) (s x : Operand) (t e : TypeId) (z : Value) (bytes : Nat)
    (ho : o.op = .call { callee := .builtin .append, args := #[s, x], argTypes := #[t, t] })
    (ht : P.underlying t = some (.slice e)) (hinfo : (P.info? e).map (fun i => (i.zero, i.size, i.bytes)) = some (some z, 1, bytes)) (hz : z.cells.size = 1)
    (v : Value) (xs ys : List Value) (ad : Addr) (c : Nat) (hs : a.eval s = v) (hx : a.eval x = .slice (some ad) ys.length c) (hg : ∀ j u, ys[j]? = some u → W.cell? (ad.add j) = some u) (h1 : ∀ y ∈ ys, y.oneCell' = true)
    (HO : Own W base e v xs) (HB : Below base w0 W) (hbase : base ≤ W.heap.size) (hl : (xs.length + ys.length) * bytes ≤ 140737488355328) (hlm : xs.length + ys.length ≤ 9223372036854775807)
    (h : ∀ v1 w1, Own w1 base e v1 (xs ++ ys) → Below base w0 w1 → W.heap.size ≤ w1.heap.size → W.grownBy w1 v.ownBlock → (v1.ownBlock = v.ownBlock ∨ v1.ownBlock = some W.heap.size) → K (a.put o.dst v1) w1) :
    o.wp P a W K Q := by
  obtain ⟨i0, hi, hzz⟩ := Option.map_eq_some_iff.1 hinfo
  simp only [Prod.mk.injEq] at hzz
  obtain ⟨hz0, hz1, hz2⟩ := hzz
  obtain ⟨v1, w1, hr, h2, h3, _, h5⟩ := run_append_own_at (P := P) (w := W) base t o.type e i0 z 1 bytes ht hi hz0 hz1 hz2 hz (by omega) v xs.length xs HO ad ys.length c ys (by simp) hg h1 (by unfold Go.maxLen; omega) hl hbase
  unfold Oper.wp execOp
  simp only [ho, resolve, invoke, builtin, Sem.run_bind, Sem.run_pure, Result.andThen_ok, List.map_toArray, List.map_cons, List.map_nil, hs, hx, hr]
  exact h v1 w1 (by unfold Own; simpa using h2) (HB.grown h3 hbase (fun k hk => HO.base k hk)) h3.size h3 h5
theorem own_append {w0 W : World} (base : Nat) (hgd : o.guard = none) (s x : Operand) (t e : TypeId) (z : Value) (bytes : Nat)
    (ho : o.op = .call { callee := .builtin .append, args := #[s, x], argTypes := #[t, t] })
    (ht : P.underlying t = some (.slice e)) (hinfo : (P.info? e).map (fun i => (i.zero, i.size, i.bytes)) = some (some z, 1, bytes)) (hz : z.cells.size = 1)
    (v : Value) (xs : List Value) (y : Value) (hs : a.eval s = v) (hx : a.eval x = .slice (some ⟨W.heap.size, 0, none⟩) 1 1) (h1 : y.oneCell' = true)
    (HO : Hid (Own W base e v xs)) (HB : Hid (Below base w0 W)) (hbase : base ≤ W.heap.size) (hl : (xs.length + 1) * bytes ≤ 140737488355328) (hlm : xs.length + 1 ≤ 9223372036854775807)
    (h : ∀ v1 w1, Hid (Own w1 base e v1 (xs ++ [y])) → Hid (Below base w0 w1) → W.heap.size ≤ w1.heap.size → wpList P ops Q rest (a.put o.dst v1) w1) :
    wpList P ops Q (o :: rest) a (W.alloc (.cells #[y] e)) :=
  wpList_plain hgd fun _ hK => append_wp base s x t e z bytes ho ht hinfo hz v xs y W.heap.size hs hx ((World.cell?_alloc_at _ _ _ _ rfl).trans rfl) h1
    (HO.out.bel ((Below.refl _ W).alloc (Nat.le_refl _) _)) (HB.out.alloc hbase _) (by simp; omega) hl hlm
    fun v1 w1 h2 h3 h4 _ _ => hK _ _ (h v1 w1 h2 h3 (Nat.le_trans (by simp) h4))
/-- The same within a region that draws. -/
theorem own_append_r {w0 W : World} {E : Prop} (base : Nat) (hgd : o.guard = none) (s x : Operand) (t e : TypeId) (z : Value) (bytes : Nat)
    (ho : o.op = .call { callee := .builtin .append, args := #[s, x], argTypes := #[t, t] })
    (ht : P.underlying t = some (.slice e)) (hinfo : (P.info? e).map (fun i => (i.zero, i.size, i.bytes)) = some (some z, 1, bytes)) (hz : z.cells.size = 1)
    (v : Value) (xs : List Value) (y : Value) (hs : a.eval s = v) (hx : a.eval x = .slice (some ⟨W.heap.size, 0, none⟩) 1 1) (h1 : y.oneCell' = true)
    (HO : Hid (Own W base e v xs)) (HB : Hid (Below base w0 W)) (hbase : base ≤ W.heap.size) (hl : (xs.length + 1) * bytes ≤ 140737488355328) (hlm : xs.length + 1 ≤ 9223372036854775807)
    (h : ∀ v1 w1, Hid (Own w1 base e v1 (xs ++ [y])) → Hid (Below base w0 w1) → W.heap.size ≤ w1.heap.size → K (a.put o.dst v1) w1) :
    if Region.wanted o (yielded ops a.tmps) = true then o.wp P a (W.alloc (.cells #[y] e)).drew K Q else E := by
  rw [if_pos (by simp [Region.wanted, hgd])]
  exact append_wp base s x t e z bytes ho ht hinfo hz v xs y W.heap.size hs hx (show (W.alloc (.cells #[y] e)).cell? _ = _ from (World.cell?_alloc_at _ _ _ _ rfl).trans rfl) h1
    (HO.out.bel (((Below.refl _ W).alloc (Nat.le_refl _) _).drew)) ((HB.out.alloc hbase _).drew) (by simp; omega) hl hlm
    fun v1 w1 h2 h3 h4 _ _ => h v1 w1 h2 h3 (Nat.le_trans (by simp) h4)
end
/-- A byte as a value; a row of bytes. -/
def u8v (x : UInt8) : Value := .int .u8 x.toNat
/-- A row of cells that may be written. -/
def RowAt (w : World) (g : Nat) (xs : List Value) : Prop := g < w.heap.size ∧ ∀ k u, xs[k]? = some u → w.cell? ⟨g, k, none⟩ = some u ∧ w.frozen? ⟨g, k, none⟩ = false
theorem RowAt.bel {w w1 : World} {g : Nat} {xs : List Value} (h : RowAt w g xs) (hb : Bel w w1) : RowAt w1 g xs :=
  ⟨Nat.lt_of_lt_of_le h.1 hb.size, fun k u hu => ⟨bel_cell hb (h.2 k u hu).1, (hb.frozen (p := ⟨g, k, none⟩) h.1).trans (h.2 k u hu).2⟩⟩
theorem RowAt.set {w : World} {g : Nat} {xs : List Value} (h : RowAt w g xs) (k : Nat) (v : Value) : RowAt (w.setCell ⟨g, k, none⟩ v) g (xs.set k v) := by
  refine ⟨by simpa [World.setCell] using h.1, fun j u hu => ?_⟩
  have hf : ∀ a, (w.setCell ⟨g, k, none⟩ v).frozen? a = w.frozen? a := fun a => World.frozen?_setCell w _ a v
  rw [List.getElem?_set] at hu
  split at hu
  · rename_i e
    subst e
    split at hu
    · rename_i hl
      simp only [Option.some.injEq] at hu
      subst hu
      obtain ⟨u0, hu0⟩ : ∃ u0, xs[k]? = some u0 := ⟨_, List.getElem?_eq_getElem hl⟩
      exact ⟨World.cell?_setCell_same w _ v (h.2 k u0 hu0).1, (hf _).trans (h.2 k u0 hu0).2⟩
    · simp at hu
  · rename_i e
    exact ⟨(World.cell?_setCell_other w _ _ v (fun q => e (by injection q))).trans (h.2 j u hu).1, (hf _).trans (h.2 j u hu).2⟩
theorem RowAt.bytes (w : World) (e : TypeId) (s : ByteArray) : RowAt (Lib.bytesWorld w e s) w.heap.size ((bl s).map u8v) := by
  refine ⟨by rw [Lib.bytesWorld_size]; omega, fun k u hu => ?_⟩
  rw [List.getElem?_map] at hu
  obtain ⟨x, hx, rfl⟩ := Option.map_eq_some_iff.1 hu
  have hk : k < s.size := by
    have := (List.getElem?_eq_some_iff.1 hx).1
    rwa [bl_length] at this
  refine ⟨?_, ?_⟩
  · rw [Lib.bytesWorld_cell w e s k hk]
    have : s.data.toList[k]? = some x := hx
    simp [List.getD, this, u8v]
  · have hsz : k < (Lib.bytesCells w e s).size := by simp [Lib.bytesCells]; omega
    simp [World.frozen?, Lib.bytesWorld_at_new]
    omega
theorem bel_bytes (w : World) (e : TypeId) (s : ByteArray) : Bel w (Lib.bytesWorld w e s) := ⟨rfl, rfl, rfl, by rw [Lib.bytesWorld_size]; omega, fun i hi => Lib.bytesWorld_at_old w e s i hi⟩
theorem nums_u8 (l : List UInt8) : strOfNums (l.map fun x => (x.toNat : Int)) = ⟨l.toArray⟩ := by
  unfold strOfNums
  simp only [List.map_map]
  congr 1
  rw [List.map_congr_left (g := id) (fun x _ => by simp)]
  simp
/-- string(b) of a row. -/
theorem row_string {P : Program} {w : World} {g cap : Nat} {l : List UInt8} {src dst e : TypeId} (hs : P.underlying src = some (.slice e)) (he : P.underlying e = some (.int .u8)) (hd : P.underlying dst = some .string)
    (h : RowAt w g (l.map u8v)) (n : Nat) (hn : n = l.length) : (convert src dst (.slice (some ⟨g, 0, none⟩) n cap)).run P w = .ok (.string ⟨l.toArray⟩) w := by
  subst hn
  rw [← nums_u8]
  refine run_convert_bytes_arg w src e hs he g 0 l.length cap _ (by simp) (fun i hi => ?_) dst hd
  have := (h.2 i (u8v l[i]) (by simp [hi])).1
  rw [Nat.zero_add, this]
  simp [u8v, hi]
theorem Own.row {w : World} {base : Nat} {e : TypeId} {v : Value} {xs : List Value} (h : Own w base e v xs) (h0 : xs ≠ []) : ∃ g c, v = .slice (some ⟨g, 0, none⟩) xs.length c ∧ base ≤ g ∧ RowAt w g xs ∧ xs.length ≤ c := by
  rcases h.2 with ⟨rfl, hn⟩ | ⟨g, cap, cur, rfl, hb, hh, hn, hc, hs, ht⟩
  · exact absurd (List.length_eq_zero_iff.1 hn) h0
  · refine ⟨g, cap, rfl, hb, ⟨(Array.getElem?_eq_some_iff.1 hh).1, fun k u hu => ?_⟩, hn⟩
    have hk : cur[k]? = some u := by
      rw [← ht, List.getElem?_take] at hu
      split at hu
      · simpa using hu
      · cases hu
    simp [World.cell?, World.frozen?, hh, hk]
theorem Own.shape {w : World} {base : Nat} {e : TypeId} {v : Value} {xs : List Value} (h : Own w base e v xs) : ∃ A c, v = .slice A xs.length c := by
  rcases h.2 with ⟨rfl, hn⟩ | ⟨g, cap, cur, rfl, _⟩
  · exact ⟨none, 0, by rw [hn]⟩
  · exact ⟨_, cap, rfl⟩
/-- string(b) of a row of the call's own, nil let in. -/
theorem own_str {P : Program} {w : World} {base : Nat} {e' : TypeId} {v : Value} {l : List UInt8} {src dst e : TypeId} (hs : P.underlying src = some (.slice e)) (he : P.underlying e = some (.int .u8)) (hd : P.underlying dst = some .string)
    (h : Own w base e' v (l.map u8v)) : (convert src dst v).run P w = .ok (.string ⟨l.toArray⟩) w := by
  by_cases h0 : l.map u8v = []
  · obtain ⟨A, c, rfl⟩ := h.shape
    obtain rfl : l = [] := by simpa using h0
    rcases h.2 with ⟨e, _⟩ | ⟨g, cap, cur, e, _⟩
    · rw [e]; exact run_convert_bytes_nil w src _ hs he 0 0 dst hd
    · rw [e]
      exact run_convert_bytes_arg w src _ hs he g 0 0 cap [] rfl (fun i hi => by omega) dst hd
  · obtain ⟨g, c, rfl, _, hr, _⟩ := h.row h0
    exact row_string hs he hd hr _ (by simp)

/-- Texts as a row. -/
def strs (l : List (List UInt8)) : List Value := l.map fun x => .string ⟨x.toArray⟩
theorem strs_snoc (xs : List (List UInt8)) (t : ByteArray) : strs xs ++ [Value.string t] = strs (xs ++ [bl t]) := by simp [strs, mk_bl]
theorem strs_len (xs : List (List UInt8)) : (strs xs).length = xs.length := by simp [strs]
theorem info9 : (Tryz.prog.info? 9).map (fun i => (i.zero, i.size, i.bytes)) = some (some (.string ⟨#[]⟩), 1, 16) := by kernel_rfl
theorem info5 : (Tryz.prog.info? 5).map (fun i => (i.zero, i.size, i.bytes)) = some (some (.int .u8 0), 1, 1) := by kernel_rfl
section
variable {ops : Array Oper} {Q : Exit → Act → World → Prop} {a : Act} {rest : List Oper} {o : Oper}
/-- append to a row of texts. -/
theorem app_str {w0 W : World} (base : Nat) (hgd : o.guard = none) (s x : Operand)
    (ho : o.op = .call { callee := .builtin .append, args := #[s, x], argTypes := #[22, 22] })
    (v : Value) (xs : List (List UInt8)) (y : ByteArray) (hs : a.eval s = v) (hx : a.eval x = .slice (some ⟨W.heap.size, 0, none⟩) 1 1)
    (HO : Hid (Own W base 9 v (strs xs))) (HB : Hid (Below base w0 W)) (hbase : base ≤ W.heap.size) (hl : xs.length ≤ 4398046511104)
    (h : ∀ v1 w1, Hid (Own w1 base 9 v1 (strs (xs ++ [bl y]))) → Hid (Below base w0 w1) → W.heap.size ≤ w1.heap.size → wpList Tryz.prog ops Q rest (a.put o.dst v1) w1) :
    wpList Tryz.prog ops Q (o :: rest) a (W.alloc (.cells #[.string y] 9)) :=
  own_append base hgd s x _ _ _ 16 ho Tryz.underlying22 info9 rfl v (strs xs) (.string y) hs hx rfl HO HB hbase (by rw [strs_len]; omega) (by rw [strs_len]; omega)
    fun v1 w1 HO1 HB1 hs1 => h v1 w1 (by rw [← strs_snoc]; exact HO1) HB1 hs1
/-- append to a row of bytes. -/
theorem app_u8 {w0 W : World} (base : Nat) (hgd : o.guard = none) (s x : Operand)
    (ho : o.op = .call { callee := .builtin .append, args := #[s, x], argTypes := #[43, 43] })
    (v : Value) (xs : List UInt8) (y : UInt8) (n : Int) (hn : n = y.toNat) (hs : a.eval s = v) (hx : a.eval x = .slice (some ⟨W.heap.size, 0, none⟩) 1 1)
    (HO : Hid (Own W base 5 v (xs.map u8v))) (HB : Hid (Below base w0 W)) (hbase : base ≤ W.heap.size) (hl : xs.length ≤ 70368744177664)
    (h : ∀ v1 w1, Hid (Own w1 base 5 v1 ((xs ++ [y]).map u8v)) → Hid (Below base w0 w1) → W.heap.size ≤ w1.heap.size → wpList Tryz.prog ops Q rest (a.put o.dst v1) w1) :
    wpList Tryz.prog ops Q (o :: rest) a (W.alloc (.cells #[.int .u8 n] 5)) := by
  subst hn
  exact own_append base hgd s x _ _ _ 1 ho Tryz.underlying43 info5 rfl v (xs.map u8v) (u8v y) hs hx rfl HO HB hbase (by rw [List.length_map]; omega) (by rw [List.length_map]; omega)
    fun v1 w1 HO1 HB1 hs1 => h v1 w1 (by rw [List.map_append]; exact HO1) HB1 hs1
theorem app_u8_r {w0 W : World} {E : Prop} {K : Act → World → Prop} (base : Nat) (hgd : o.guard = none) (s x : Operand)
    (ho : o.op = .call { callee := .builtin .append, args := #[s, x], argTypes := #[43, 43] })
    (v : Value) (xs : List UInt8) (y : UInt8) (n : Int) (hn : n = y.toNat) (hs : a.eval s = v) (hx : a.eval x = .slice (some ⟨W.heap.size, 0, none⟩) 1 1)
    (HO : Hid (Own W base 5 v (xs.map u8v))) (HB : Hid (Below base w0 W)) (hbase : base ≤ W.heap.size) (hl : xs.length ≤ 70368744177664)
    (h : ∀ v1 w1, Hid (Own w1 base 5 v1 ((xs ++ [y]).map u8v)) → Hid (Below base w0 w1) → W.heap.size ≤ w1.heap.size → K (a.put o.dst v1) w1) :
    if Region.wanted o (yielded ops a.tmps) = true then o.wp Tryz.prog a (W.alloc (.cells #[.int .u8 n] 5)).drew K Q else E := by
  subst hn
  exact own_append_r base hgd s x _ _ _ 1 ho Tryz.underlying43 info5 rfl v (xs.map u8v) (u8v y) hs hx rfl HO HB hbase (by rw [List.length_map]; omega) (by rw [List.length_map]; omega)
    fun v1 w1 HO1 HB1 hs1 => h v1 w1 (by rw [List.map_append]; exact HO1) HB1 hs1
end
theorem ret_int {k : IntKind} {a b : Int} (h : a = b) : Ending.returned (.int k a) = .returned (.int k b) := by rw [h]
theorem ret_bool {a b : Bool} (h : a = b) : Ending.returned (.bool a) = .returned (.bool b) := by rw [h]
theorem ret_str {a b : ByteArray} (h : a = b) : Ending.returned (.string a) = .returned (.string b) := by rw [h]
theorem ret_v {a b : Value} (h : a = b) : Ending.returned a = .returned b := by rw [h]
theorem bdec {p : Prop} [Decidable p] {b : Bool} (h : b = true ↔ p) : b = decide p := by
  cases b <;> simp_all
end Go.Proofs.YtbpkkgaaeodimaaGreatDoor
namespace Go.Proofs.YtbpkkgaaeodimaaGreatDoor
open Go

/-! Digits of a number by a base, as both texts write them. -/
def dgc (d : Nat) : UInt8 := if d < 10 then UInt8.ofNat (48 + d) else UInt8.ofNat (87 + d)
def digs (b u : Nat) : List UInt8 := if _h : 2 ≤ b ∧ b ≤ u then digs b (u / b) ++ [dgc (u % b)] else [dgc u]
termination_by u
decreasing_by exact Nat.div_lt_self (by omega) (by omega)
theorem digs_small {b u : Nat} (h : u < b) : digs b u = [dgc u] := by rw [digs, dif_neg (by omega)]
theorem digs_step {b u : Nat} (h2 : 2 ≤ b) (h : b ≤ u) : digs b u = digs b (u / b) ++ [dgc (u % b)] := by rw [digs, dif_pos ⟨h2, h⟩]
theorem digs10 (u : Nat) : digs 10 u = Lib.decDigits u := by
  induction u using Nat.strongRecOn with
  | _ u ih =>
    rw [Lib.decDigits]
    by_cases h : u < 10
    · rw [dif_pos h, digs_small h, dgc, if_pos h]
    · rw [dif_neg h, digs_step (by omega) (by omega), ih (u / 10) (by omega), dgc, if_pos (by omega)]
def DigInv (b n k : Nat) (t : List UInt8) : Prop := (t = [] ∧ k = n) ∨ (t ≠ [] ∧ k = 0 ∧ t = digs b n) ∨ (t ≠ [] ∧ 0 < k ∧ digs b k ++ t = digs b n)
theorem DigInv.start (b n : Nat) : DigInv b n n [] := .inl ⟨rfl, rfl⟩
theorem DigInv.step {b n k : Nat} {t : List UInt8} (hb : 2 ≤ b) (h : DigInv b n k t) (hg : 0 < k ∨ t = []) : DigInv b n (k / b) (dgc (k % b) :: t) := by
  have key : ∀ k, k / b = 0 → digs b k = [dgc (k % b)] := fun k hk => by
    have : k < b := by rcases Nat.lt_or_ge k b with h | h; exact h; have := Nat.div_pos h (by omega); omega
    rw [digs_small this, Nat.mod_eq_of_lt this]
  have key2 : ∀ k, 0 < k / b → digs b k = digs b (k / b) ++ [dgc (k % b)] := fun k hk => digs_step hb (by
    rcases Nat.lt_or_ge k b with h | h
    · rw [Nat.div_eq_of_lt h] at hk; omega
    · exact h)
  rcases Nat.eq_zero_or_pos (k / b) with h0 | h0
  · refine .inr (.inl ⟨by simp, h0, ?_⟩)
    rcases h with ⟨rfl, rfl⟩ | ⟨h1, rfl, h3⟩ | ⟨h1, h2, h3⟩
    · rw [key _ h0]
    · rcases hg with h | h
      · omega
      · exact absurd h h1
    · rw [← h3, key _ h0]; rfl
  · refine .inr (.inr ⟨by simp, h0, ?_⟩)
    rcases h with ⟨rfl, rfl⟩ | ⟨h1, rfl, h3⟩ | ⟨h1, h2, h3⟩
    · rw [key2 _ h0]
    · simp at h0
    · rw [← h3, key2 _ h0]; simp
theorem DigInv.done {b n k : Nat} {t : List UInt8} (h : DigInv b n k t) (hg : ¬ (0 < k ∨ t = [])) : t = digs b n := by
  rcases h with ⟨rfl, rfl⟩ | ⟨h1, rfl, h3⟩ | ⟨h1, h2, h3⟩
  · simp at hg
  · exact h3
  · omega
theorem DigInv.len {b n k : Nat} {t : List UInt8} (_hb : 2 ≤ b) (h : DigInv b n k t) : t.length ≤ (digs b n).length := by
  rcases h with ⟨rfl, rfl⟩ | ⟨h1, rfl, h3⟩ | ⟨h1, h2, h3⟩
  · simp
  · rw [h3]; exact Nat.le_refl _
  · rw [← h3]; simp
theorem digs_len (b : Nat) (hb : 2 ≤ b) : ∀ (m u : Nat), u < b ^ m → 1 ≤ m → (digs b u).length ≤ m
  | 0, _, _, h => by omega
  | m + 1, u, h, _ => by
    by_cases hu : u < b
    · rw [digs_small hu]; simp
    · rw [digs_step hb (by omega)]
      have hm : 1 ≤ m := by
        rcases Nat.eq_zero_or_pos m with rfl | h'
        · simp at h; omega
        · exact h'
      have := digs_len b hb m (u / b) (by rw [Nat.div_lt_iff_lt_mul (by omega)]; rw [Nat.pow_succ] at h; exact h) hm
      simp; omega
/-- A text in small letters; percent signs. -/
def low (x : UInt8) : UInt8 := if 65 ≤ x.toNat ∧ x.toNat ≤ 90 then x + 32 else x
def lower (l : List UInt8) : List UInt8 := l.map low
theorem low_toNat (x : UInt8) : (low x).toNat = if 65 ≤ x.toNat ∧ x.toNat ≤ 90 then x.toNat + 32 else x.toNat := by
  unfold low; split
  · rw [UInt8.toNat_add]; simp; omega
  · rfl
end Go.Proofs.YtbpkkgaaeodimaaGreatDoor
