import Derived.Test.YtbpkkgaaeodimaaGreatDoorXG16
import Derived.Test.YtbpkkgaaeodimaaGreatDoorXG14
import Derived.Test.YtbpkkgaaeodimaaGreatDoorXG01
import Derived.Lib.Bytealg
import Derived.Lib.SplitLaws
import Derived.Deep.WholeRow
import Derived.Laws.Externs
import Derived.Test.YtbpkkgaaeodimaaGreatDoorXG20
import Derived.Test.YtbpkkgaaeodimaaGreatDoorXG15
import Derived.Test.YtbpkkgaaeodimaaGreatDoorXG11
import Derived.Test.YtbpkkgaaeodimaaGreatDoorXG12
import Derived.Test.YtbpkkgaaeodimaaGreatDoorXG02
namespace Go.Proofs.YtbpkkgaaeodimaaGreatDoor
open Go.RowKit

set_option maxRecDepth 100000 in
theorem ext_count (s : ByteArray) (c : UInt8) (w : World) : (callFunc 198 #[.string s, .int .u8 c.toNat]).run Tryz.prog w = .ok (.value (.int .i64 ((bl s).count c : Nat))) w := by
  have h1 := run_callFunc_extern (P := Tryz.prog) Tryz.func198 (by kernel_rfl) (by kernel_rfl) (by kernel_rfl) (e := Extern.BytealgCount.count) (by kernel_rfl) #[.string s, .int .u8 c.toNat] w
  have h2 := Lib.run_countString (P := Tryz.prog) s (c.toNat : Int) w
  rw [h2] at h1
  rw [h1]
  show Result.ok _ _ = _
  simp [Lib.countByte, bl]
set_option maxRecDepth 100000 in
theorem lib_Count1 (s : ByteArray) (c : UInt8) (w : World) : Calls Tryz.prog 169 #[.string s, .string ⟨#[c]⟩] w fun e w' => e = .returned (.int .i64 ((bl s).count c : Nat)) ∧ w = w' := by
  have hx : ∀ w, (callFunc 198 #[.string s, .int .u8 ((⟨#[c]⟩ : ByteArray)[0]'(Nat.one_pos)).toNat]).run Tryz.prog w = .ok (.value (.int .i64 ((bl s).count c : Nat))) w := ext_count s c
  go_enter Tryz.func169, Tryz.ntmps169
  go_wp2
  go_ret
  exact ⟨rfl, rfl⟩
def tabS : ByteArray := ⟨#[9]⟩
def rpS : List ByteArray := [⟨#[9]⟩, ⟨#[]⟩, ⟨#[10]⟩, ⟨#[]⟩, ⟨#[13]⟩, ⟨#[]⟩]
def rpV : List Value := rpS.map .string
set_option maxHeartbeats 1000000 in
set_option maxRecDepth 100000 in
theorem rp_new (h : Nat) (w : World) (hc : ∀ j u, rpV[j]? = some u → w.cell? ⟨h, j, none⟩ = some u) :
    Calls Tryz.prog 78 #[.slice (some ⟨h, 0, none⟩) 6 6] w fun e w' => (∃ b on, e = .returned (.pointer (some ⟨b, 0, none⟩)) ∧ w.heap.size ≤ b ∧ Hid (RowAt w' b [.int .u32 0, .int .i32 0, .int .u32 0, .nilIface, on]) ∧ Hid (Own w' w.heap.size 9 on rpV)) ∧ Hid (Bel w w') := by
  go_enter Tryz.func78, Tryz.ntmps78
  go_wp2_with (at_builtin; go_must (refine app_strs (w0 := w) w.heap.size rfl _ _ (by exact rfl) _ [] rpV ⟨h, 0, none⟩ 6 6 rfl (by exact rfl) (by exact rfl) (fun j u hj => by rw [show (⟨h, 0, none⟩ : Addr).add j = ⟨h, j, none⟩ by unfold Addr.add; split <;> simp_all]; exact hc j u hj) (by decide) (Own.nil _ _ _) (Below.refl _ _) (Nat.le_refl _) (by decide) ?_); intro v1 w1 HO1 HB1 hs1; obtain ⟨A, c, rfl⟩ := HO1.out.shape)
  go_wp2
  go_ret
  exact ⟨⟨_, _, rfl, hs1, RowAt.new _ _ _, HO1.out.bel ((Below.refl _ w1).alloc (Nat.le_refl _) _)⟩, HB1.out.alloc hs1 _⟩
theorem conv_one (w : World) (c : UInt8) (v : Int) (hv : v = c.toNat) : (convert 43 9 (.slice (some ⟨w.heap.size, 0, none⟩) 1 1)).run Tryz.prog (w.alloc (.cells #[.int .u8 v] 5)) = .ok (.string ⟨#[c]⟩) (w.alloc (.cells #[.int .u8 v] 5)) := by
  subst hv
  rw [show (⟨#[c]⟩ : ByteArray) = ⟨[c].toArray⟩ from rfl, ← nums_u8]
  refine run_convert_bytes_arg _ 43 5 Tryz.underlying43 Tryz.underlying5 w.heap.size 0 1 1 _ (by simp) (fun i hi => ?_) 9 Tryz.underlying9
  obtain rfl : i = 0 := by simp at hi; omega
  rw [World.cell?_alloc_at _ _ _ _ rfl]
  rfl
theorem Own.form {w : World} {base : Nat} {e : TypeId} {v : Value} {xs : List Value} (h : Own w base e v xs) : ∃ A n c, v = .slice A n c := by
  obtain ⟨A, c, e⟩ := h.shape
  exact ⟨A, _, c, e⟩
def lineC : List Nat := [13, 10, 9]
def nilV : Value := .slice none 0 0
theorem all_set {p : Value → Bool} (x : Value) (hx : p x = true) : ∀ (l : List Value) (n : Nat), l.all p = true → (l.set n x).all p = true
  | [], _, _ => by simp
  | y :: l, 0, h => by rw [List.set_cons_zero, List.all_cons, hx]; rw [List.all_cons, Bool.and_eq_true] at h; simpa using h.2
  | y :: l, n + 1, h => by
    rw [List.all_cons, Bool.and_eq_true] at h
    rw [List.set_cons_succ, List.all_cons, h.1, all_set x hx l n h.2]; rfl
theorem zc_is : Tryz.zeroCells169.toList = List.replicate 257 nilV := by kernel_rfl
theorem zc_all : (List.replicate 257 nilV).all (·.oneCell') = true := by decide +kernel
theorem zc_info : (Tryz.prog.info? 169).map (·.size) = some 257 := by kernel_rfl
theorem store_repl (w : World) (X : Value) (hX : X.oneCell' = true) : (storeCells ⟨w.heap.size, 0, none⟩ (Tryz.zeroCells169.toList.set 256 X) 0).run Tryz.prog (w.alloc (.cells Tryz.zeroCells169 169)) = .ok () (w.alloc (.cells ((List.replicate 257 nilV).set 256 X).toArray 169)) := by
  have hz : Tryz.zeroCells169.size = 257 := by rw [← Array.length_toList, zc_is, List.length_replicate]
  have h := run_storeCells_new (P := Tryz.prog) w 169 Tryz.zeroCells169 ((List.replicate 257 nilV).set 256 X).toArray (by rw [zc_info, List.size_toArray, List.length_set, List.length_replicate]) (by rw [hz, List.size_toArray, List.length_set, List.length_replicate]) (by
    rw [List.all_toArray]; exact all_set X hX _ _ zc_all)
  rw [zc_is]
  exact h
/-- The replacer for the three bytes as it is built: behind k of them. -/
def ReplK (w : World) (p base k : Nat) : Prop :=
  ∃ L tv, RowAt w p L ∧ (∀ c, c < 256 → (L[c]? = some nilV ∧ (lineC.take k).contains c = false) ∨ (∃ a n, L[c]? = some (.slice (some a) 0 n)) ∧ (lineC.take k).contains c = true) ∧
    L[256]? = some tv ∧ Own w base 9 tv (strs ((lineC.take k).map fun c => [UInt8.ofNat c])) ∧ ∀ b, tv.ownBlock = some b → b ≠ p
theorem repl_start (w : World) (base : Nat) (A : Option Addr) (c : Nat) (t : TypeId) (h : Own w base 9 (.slice A 0 c) []) (hb : ∀ b, Value.ownBlock (.slice A 0 c) = some b → b ≠ w.heap.size) : ReplK (w.alloc (.cells ((List.replicate 257 nilV).set 256 (.slice A 0 c)).toArray t)) w.heap.size base 0 := by
  refine ⟨_, _, RowAt.new _ _ _, fun c hc => .inl ⟨?_, rfl⟩, ?_, h.bel ((Below.refl _ w).alloc (Nat.le_refl _) _), hb⟩
  · rw [List.getElem?_set_ne (by omega), List.getElem?_replicate, if_pos (by omega)]
  · rw [List.getElem?_set_self (by rw [List.length_replicate]; omega)]
/-- One byte more: its row, then its cell. -/
theorem repl_next {w2 : World} {p base k c : Nat} {v1 : Value} {a : Addr} {n : Nat} {L : List Value} (hk : lineC[k]? = some c) (hc : c < 256)
    (hL : ∀ c, c < 256 → (L[c]? = some nilV ∧ (lineC.take k).contains c = false) ∨ (∃ a n, L[c]? = some (.slice (some a) 0 n)) ∧ (lineC.take k).contains c = true)
    (h256 : 256 < L.length) (hO : Own w2 base 9 v1 (strs ((lineC.take (k + 1)).map fun c => [UInt8.ofNat c]))) (h2 : RowAt w2 p ((L.set 256 v1).set c (.slice (some a) 0 n))) (hb : ∀ b, v1.ownBlock = some b → b ≠ p) : ReplK w2 p base (k + 1) := by
  refine ⟨_, v1, h2, fun d hd => ?_, ?_, hO, hb⟩
  · have ht : (lineC.take (k + 1)).contains d = ((lineC.take k).contains d || d == c) := by
      rw [List.take_add_one, hk, List.contains_append]
      congr 1
      show ([c] : List Nat).contains d = _
      rw [List.contains_cons, List.contains_nil, Bool.or_false]
    rw [ht, List.getElem?_set]
    by_cases hdc : d = c
    · subst hdc
      rw [if_pos rfl, if_pos (by simp; omega)]
      exact .inr ⟨⟨a, n, rfl⟩, by simp⟩
    · rw [if_neg (fun e => hdc e.symm), List.getElem?_set_ne (by omega), show (d == c) = false by simpa using hdc, Bool.or_false]
      exact hL d hd
  · rw [List.getElem?_set_ne (by omega), List.getElem?_set_self (by omega)]
theorem repl_round {w wr W1 : World} {p k c : Nat} {tv v1 : Value} {L : List Value} (t : TypeId) (hk : lineC[k]? = some c) (hc : c < 256) (hn : (lineC.take k).contains c = false)
    (HS : RowAt wr p L ∧ (∀ c, c < 256 → (L[c]? = some nilV ∧ (lineC.take k).contains c = false) ∨ (∃ a n, L[c]? = some (.slice (some a) 0 n)) ∧ (lineC.take k).contains c = true) ∧ L[256]? = some tv ∧ ∀ b, tv.ownBlock = some b → b ≠ p)
    (hp : w.heap.size ≤ p) (HB : Bel w wr) (HO : Own wr w.heap.size 9 tv (strs ((lineC.take k).map fun c => [UInt8.ofNat c]))) (HP1 : BelP (fun k => tv.ownBlock = some k) wr W1) (HS1 : ∀ b, v1.ownBlock = some b → tv.ownBlock = some b ∨ wr.heap.size ≤ b)
    (HO1 : Own W1 w.heap.size 9 v1 (strs ((lineC.take (k + 1)).map fun c => [UInt8.ofNat c]))) :
    (W1.cell? ⟨p, 256, none⟩ = some tv ∧ W1.frozen? ⟨p, 256, none⟩ = false) ∧
    ((Lib.bytesWorld (W1.setCell ⟨p, 256, none⟩ v1) t ⟨#[]⟩).cell? ⟨p, c, none⟩ = some nilV ∧ (Lib.bytesWorld (W1.setCell ⟨p, 256, none⟩ v1) t ⟨#[]⟩).frozen? ⟨p, c, none⟩ = false) ∧
    ∀ a n, ReplK ((Lib.bytesWorld (W1.setCell ⟨p, 256, none⟩ v1) t ⟨#[]⟩).setCell ⟨p, c, none⟩ (.slice (some a) 0 n)) p w.heap.size (k + 1) ∧ Bel w ((Lib.bytesWorld (W1.setCell ⟨p, 256, none⟩ v1) t ⟨#[]⟩).setCell ⟨p, c, none⟩ (.slice (some a) 0 n)) := by
  obtain ⟨hR, hL, h256, hb⟩ := HS
  have hlen : 256 < L.length := (List.getElem?_eq_some_iff.1 h256).1
  have hpw : p < wr.heap.size := hR.1
  have r1 : RowAt W1 p L := HP1.row (fun e => hb p e rfl) hR
  have r2 : RowAt (W1.setCell ⟨p, 256, none⟩ v1) p (L.set 256 v1) := r1.set 256 v1
  have r3 : RowAt (Lib.bytesWorld (W1.setCell ⟨p, 256, none⟩ v1) t ⟨#[]⟩) p (L.set 256 v1) := r2.bel (bel_bytes _ _ _)
  have hv1 : ∀ b, v1.ownBlock = some b → b ≠ p := by
    intro b hb1
    rcases HS1 b hb1 with h | h
    · exact hb b h
    · omega
  have hnc : (L.set 256 v1)[c]? = some nilV := by
    rw [List.getElem?_set_ne (by omega)]
    rcases hL c hc with ⟨h, _⟩ | ⟨_, h⟩
    · exact h
    · rw [hn] at h; cases h
  have B1 : Bel w W1 := BelP.bel HB (fun k hk => HO.base k hk) HP1
  have B2 : Bel w (W1.setCell ⟨p, 256, none⟩ v1) := BelP.bel B1 (fun k hk => by rw [hk]; exact hp) (BelP.set (g := p) ⟨p, 256, none⟩ v1 rfl)
  have B3 : Bel w (Lib.bytesWorld (W1.setCell ⟨p, 256, none⟩ v1) t ⟨#[]⟩) := bel_trans B2 (bel_bytes _ _ _)
  have o3 : Own (Lib.bytesWorld (W1.setCell ⟨p, 256, none⟩ v1) t ⟨#[]⟩) w.heap.size 9 v1 (strs ((lineC.take (k + 1)).map fun c => [UInt8.ofNat c])) :=
    (BelP.own (BelP.set (g := p) ⟨p, 256, none⟩ v1 rfl) hv1 HO1).bel (bel_bytes _ _ _)
  refine ⟨r1.2 256 tv h256, r3.2 c nilV hnc, fun a n => ⟨?_, ?_⟩⟩
  · exact repl_next hk hc hL hlen (BelP.own (BelP.set (g := p) ⟨p, c, none⟩ _ rfl) hv1 o3) (r3.set c _) hv1
  · exact BelP.bel B3 (fun k hk => by rw [hk]; exact hp) (BelP.set (g := p) ⟨p, c, none⟩ _ rfl)
theorem L_len {w : World} {p : Nat} {L : List Value} {tv : Value} (_h : RowAt w p L) (h : L[256]? = some tv) : 256 < L.length := (List.getElem?_eq_some_iff.1 h).1
set_option maxHeartbeats 1000000 in
set_option maxRecDepth 100000 in
theorem rp_build (b : Nat) (w : World) (on : Value) (base : Nat) (HR : Hid (RowAt w b [.int .u32 0, .int .i32 1, .int .u32 0, .nilIface, on])) (HO : Hid (Own w base 9 on rpV)) :
    Calls Tryz.prog 133 #[.pointer (some ⟨b, 0, none⟩)] w fun e w' => (∃ p, e = .returned (.iface 170 (.pointer (some ⟨p, 0, none⟩))) ∧ w.heap.size ≤ p ∧ Hid (ReplK w' p w.heap.size 3)) ∧ Hid (Bel w w') := by
  have c4 : w.cell? ⟨b, 4, none⟩ = some on := (HR.out.2 4 _ rfl).1
  obtain ⟨h, c, rfl, _, HX, _⟩ := HO.out.row (by decide)
  have d0 : w.cell? ⟨h, 0, none⟩ = some (.string ⟨#[9]⟩) := (HX.2 0 _ rfl).1
  have d1 : w.cell? ⟨h, 1, none⟩ = some (.string ⟨#[]⟩) := (HX.2 1 _ rfl).1
  have d2 : w.cell? ⟨h, 2, none⟩ = some (.string ⟨#[10]⟩) := (HX.2 2 _ rfl).1
  have d3 : w.cell? ⟨h, 3, none⟩ = some (.string ⟨#[]⟩) := (HX.2 3 _ rfl).1
  have d4 : w.cell? ⟨h, 4, none⟩ = some (.string ⟨#[13]⟩) := (HX.2 4 _ rfl).1
  have d5 : w.cell? ⟨h, 5, none⟩ = some (.string ⟨#[]⟩) := (HX.2 5 _ rfl).1
  clear HX
  rw [show rpV.length = 6 from rfl] at *
  obtain ⟨q1, hq1⟩ : ∃ q, q = (⟨#[9]⟩ : ByteArray) := ⟨_, rfl⟩
  obtain ⟨q2, hq2⟩ : ∃ q, q = (⟨#[10]⟩ : ByteArray) := ⟨_, rfl⟩
  obtain ⟨q3, hq3⟩ : ∃ q, q = (⟨#[13]⟩ : ByteArray) := ⟨_, rfl⟩
  rw [← hq1] at d0
  rw [← hq2] at d2
  rw [← hq3] at d4
  have z1 : q1.size = 1 := by rw [hq1]; rfl
  have z2 : q2.size = 1 := by rw [hq2]; rfl
  have z3 : q3.size = 1 := by rw [hq3]; rfl
  have y1 : (q1[0]'(by omega)).toNat = 9 := by subst hq1; rfl
  have y2 : (q2[0]'(by omega)).toNat = 10 := by subst hq2; rfl
  have y3 : (q3[0]'(by omega)).toNat = 13 := by subst hq3; rfl
  clear hq1 hq2 hq3
  go_enter Tryz.func133, Tryz.ntmps133
  go_wp2
  go_loopg [4, 5] 3 (fun g v4 v5 wr => ∃ k : Nat, v5 = .int .i64 (2 * k : Nat) ∧ k + g = 3 ∧ v4 = .bool (k == 0) ∧ w = wr)
  case atStart => exact ⟨0, rfl, rfl, rfl, rfl⟩
  case round =>
    obtain ⟨k, rfl, hk, rfl, rfl⟩ := hrel
    have hk3 : k = 0 ∧ gk = 2 + 1 ∨ k = 1 ∧ gk = 1 + 1 ∨ k = 2 ∧ gk = 0 + 1 ∨ k = 3 ∧ gk = 0 := by omega
    rcases hk3 with ⟨rfl, rfl⟩ | ⟨rfl, rfl⟩ | ⟨rfl, rfl⟩ | ⟨rfl, rfl⟩
    · go_wp2
      go_roundg 2
      case measure => omega
      case rel => exact ⟨1, rfl, rfl, rfl, rfl⟩
    · go_wp2
      go_roundg 1
      case measure => omega
      case rel => exact ⟨2, rfl, rfl, rfl, rfl⟩
    · go_wp2
      go_roundg 0
      case measure => omega
      case rel => exact ⟨3, rfl, rfl, rfl, rfl⟩
    · go_wp2_with (first | (at_make; go_must (refine mk_strs (W := w) w.heap.size rfl _ _ (by exact rfl) _ _ _ 3 (by exact rfl) (by exact rfl) (by exact rfl) (by decide) (Nat.le_refl _) ?_); intro w1 HO1 HB1 hs1; have hst := store_repl w1 (.slice (some ⟨w.heap.size, 0, none⟩) 0 3) rfl; obtain ⟨cz, hcz⟩ : ∃ cz, cz = ((List.replicate 257 nilV).set 256 (.slice (some ⟨w.heap.size, 0, none⟩) 0 3)).toArray := ⟨_, rfl⟩; rw [← hcz] at hst; have HCZ := Lib.hid hcz; clear hcz))
      have HK := Lib.hid (repl_start w1 w.heap.size (some ⟨w.heap.size, 0, none⟩) 3 169 HO1.out (fun b hb => by simp [Value.ownBlock] at hb; omega))
      have HB2 : Hid (Bel w (w1.alloc (.cells ((List.replicate 257 nilV).set 256 (.slice (some ⟨w.heap.size, 0, none⟩) 0 3)).toArray 169))) := HB1.out.alloc (Nat.le_of_lt hs1) _
      generalize hp : w1.heap.size = p at *
      rw [← HCZ.out] at HK HB2
      generalize (w1.alloc (.cells cz 169)) = w2 at *
      clear hst hp HO1 HB1 HCZ
      have hnn : ∀ W : World, (binOp .eql 43 (.slice none 0 0) (.slice none 0 0)).run Tryz.prog W = .ok (.bool true) W := fun W => rfl
      have hkk : ∀ W : World, (convert 43 9 (.slice (some ⟨W.heap.size, 0, none⟩) 1 1)).run Tryz.prog (W.alloc (.cells #[.int .u8 13] 5)) = .ok (.string ⟨#[13]⟩) (W.alloc (.cells #[.int .u8 13] 5)) := fun W => conv_one W 13 13 rfl
      have hkl : ∀ W : World, (convert 43 9 (.slice (some ⟨W.heap.size, 0, none⟩) 1 1)).run Tryz.prog (W.alloc (.cells #[.int .u8 10] 5)) = .ok (.string ⟨#[10]⟩) (W.alloc (.cells #[.int .u8 10] 5)) := fun W => conv_one W 10 10 rfl
      have hkm : ∀ W : World, (convert 43 9 (.slice (some ⟨W.heap.size, 0, none⟩) 1 1)).run Tryz.prog (W.alloc (.cells #[.int .u8 9] 5)) = .ok (.string ⟨#[9]⟩) (W.alloc (.cells #[.int .u8 9] 5)) := fun W => conv_one W 9 9 rfl
      have kb := fun W => Lib.run_convert_string_bytes W 9 43 5 ⟨#[]⟩ Tryz.underlying9 Tryz.underlying43 Tryz.underlying5
      rw [show (⟨#[]⟩ : ByteArray).size = 0 from rfl] at kb
      have hD := Lib.hid (And.intro d0 (And.intro d1 (And.intro d2 (And.intro d3 (And.intro d4 d5)))))
      clear d0 d1 d2 d3 d4 d5 c4
      go_loopg [12, 13, 14] 3 (fun g v12 v13 v14 wr => ∃ k : Nat, v12 = .int .i64 (4 - 2 * k) ∧ k + g = 3 ∧ Hid (ReplK wr p w.heap.size k) ∧ Hid (Bel w wr))
      case atStart => exact ⟨0, rfl, rfl, HK, HB2⟩
      case round =>
        obtain ⟨k, rfl, hk, HK, HB⟩ := hrel
        have hD' := hD.out
        obtain ⟨d0, d1, d2, d3, d4, d5⟩ := hD'
        replace d0 := bel_cell HB.out d0
        replace d1 := bel_cell HB.out d1
        replace d2 := bel_cell HB.out d2
        replace d3 := bel_cell HB.out d3
        replace d4 := bel_cell HB.out d4
        replace d5 := bel_cell HB.out d5
        obtain ⟨L, tv, hR, hL, h256, hO, hb⟩ := HK.out
        have t256 : wr.cell? ⟨p, 256, none⟩ = some tv := (hR.2 256 tv h256).1
        have f256 : wr.frozen? ⟨p, 256, none⟩ = false := (hR.2 256 tv h256).2
        have hlen := L_len hR h256
        have HO2 := Lib.hid hO
        have hk3 : k = 0 ∧ gk = 2 + 1 ∨ k = 1 ∧ gk = 1 + 1 ∨ k = 2 ∧ gk = 0 + 1 ∨ k = 3 ∧ gk = 0 := by omega
        have hnil : ∀ c, c < 256 → (lineC.take k).contains c = false → wr.cell? ⟨p, c, none⟩ = some nilV ∧ wr.frozen? ⟨p, c, none⟩ = false := by
          intro c hc hn
          rcases hL c hc with ⟨h, _⟩ | ⟨_, h⟩
          · exact hR.2 c _ h
          · rw [hn] at h; cases h
        have HS := Lib.hid (And.intro hR (And.intro hL (And.intro h256 hb)))
        clear hR hL h256 hO hb
        have hs1' := hs1
        rcases hk3 with ⟨rfl, rfl⟩ | ⟨rfl, rfl⟩ | ⟨rfl, rfl⟩ | ⟨rfl, rfl⟩
        · obtain ⟨n1, n2⟩ := hnil 13 (by decide) (by decide)
          clear hnil
          unfold nilV at n1
          have HW : Hid (Bel wr (wr.alloc (.cells #[.int .u8 13] 5))) := (Below.refl _ wr).alloc (Nat.le_refl _) _
          have HOa := Lib.hid (HO2.out.bel HW.out)
          have HPa : Hid (BelP (fun k => tv.ownBlock = some k) wr (wr.alloc (.cells #[.int .u8 13] 5))) := BelP.of _ HW.out
          have HSa : Hid (∀ k, tv.ownBlock = some k → tv.ownBlock = some k ∨ wr.heap.size ≤ k) := fun k hk => .inl hk
          have hbs : w.heap.size ≤ (wr.alloc (.cells #[.int .u8 13] 5)).heap.size := Nat.le_trans HB.out.size HW.out.size
          go_wp2_with (first | (at_builtin; go_must (refine app_str_p (S := fun k => tv.ownBlock = some k) (w0 := wr) w.heap.size rfl _ _ (by exact rfl) tv _ ⟨#[13]⟩ (by exact rfl) (by show Value.slice (some ⟨wr.heap.size + 1, 0, none⟩) 1 1 = _; simp) HOa HPa HSa hbs (by decide) ?_); intro v1 W1 HO1 HP1 HS1 hs1; obtain ⟨A1, n1, c1, rfl⟩ := HO1.out.form; have hrr := repl_round 5 (k := 0) (c := 13) rfl (by decide) (by decide) HS.out (Nat.le_of_lt hs1') HB.out HO2.out HP1.out HS1.out HO1.out; obtain ⟨⟨i1, i2⟩, ⟨i3, i4⟩, i5⟩ := hrr; have HI5 := Lib.hid i5; clear i5))
          go_roundg 2
          case measure => omega
          case rel => exact ⟨1, rfl, rfl, (HI5.out _ _).1, (HI5.out _ _).2⟩
        · obtain ⟨n1, n2⟩ := hnil 10 (by decide) (by decide)
          clear hnil
          unfold nilV at n1
          have HW : Hid (Bel wr (wr.alloc (.cells #[.int .u8 10] 5))) := (Below.refl _ wr).alloc (Nat.le_refl _) _
          have HOa := Lib.hid (HO2.out.bel HW.out)
          have HPa : Hid (BelP (fun k => tv.ownBlock = some k) wr (wr.alloc (.cells #[.int .u8 10] 5))) := BelP.of _ HW.out
          have HSa : Hid (∀ k, tv.ownBlock = some k → tv.ownBlock = some k ∨ wr.heap.size ≤ k) := fun k hk => .inl hk
          have hbs : w.heap.size ≤ (wr.alloc (.cells #[.int .u8 10] 5)).heap.size := Nat.le_trans HB.out.size HW.out.size
          go_wp2_with (first | (at_builtin; go_must (refine app_str_p (S := fun k => tv.ownBlock = some k) (w0 := wr) w.heap.size rfl _ _ (by exact rfl) tv _ ⟨#[10]⟩ (by exact rfl) (by show Value.slice (some ⟨wr.heap.size + 1, 0, none⟩) 1 1 = _; simp) HOa HPa HSa hbs (by decide) ?_); intro v1 W1 HO1 HP1 HS1 hs1; obtain ⟨A1, n1, c1, rfl⟩ := HO1.out.form; have hrr := repl_round 5 (k := 1) (c := 10) rfl (by decide) (by decide) HS.out (Nat.le_of_lt hs1') HB.out HO2.out HP1.out HS1.out HO1.out; obtain ⟨⟨i1, i2⟩, ⟨i3, i4⟩, i5⟩ := hrr; have HI5 := Lib.hid i5; clear i5))
          go_roundg 1
          case measure => omega
          case rel => exact ⟨2, rfl, rfl, (HI5.out _ _).1, (HI5.out _ _).2⟩
        · obtain ⟨n1, n2⟩ := hnil 9 (by decide) (by decide)
          clear hnil
          unfold nilV at n1
          have HW : Hid (Bel wr (wr.alloc (.cells #[.int .u8 9] 5))) := (Below.refl _ wr).alloc (Nat.le_refl _) _
          have HOa := Lib.hid (HO2.out.bel HW.out)
          have HPa : Hid (BelP (fun k => tv.ownBlock = some k) wr (wr.alloc (.cells #[.int .u8 9] 5))) := BelP.of _ HW.out
          have HSa : Hid (∀ k, tv.ownBlock = some k → tv.ownBlock = some k ∨ wr.heap.size ≤ k) := fun k hk => .inl hk
          have hbs : w.heap.size ≤ (wr.alloc (.cells #[.int .u8 9] 5)).heap.size := Nat.le_trans HB.out.size HW.out.size
          go_wp2_with (first | (at_builtin; go_must (refine app_str_p (S := fun k => tv.ownBlock = some k) (w0 := wr) w.heap.size rfl _ _ (by exact rfl) tv _ ⟨#[9]⟩ (by exact rfl) (by show Value.slice (some ⟨wr.heap.size + 1, 0, none⟩) 1 1 = _; simp) HOa HPa HSa hbs (by decide) ?_); intro v1 W1 HO1 HP1 HS1 hs1; obtain ⟨A1, n1, c1, rfl⟩ := HO1.out.form; have hrr := repl_round 5 (k := 2) (c := 9) rfl (by decide) (by decide) HS.out (Nat.le_of_lt hs1') HB.out HO2.out HP1.out HS1.out HO1.out; obtain ⟨⟨i1, i2⟩, ⟨i3, i4⟩, i5⟩ := hrr; have HI5 := Lib.hid i5; clear i5))
          go_roundg 0
          case measure => omega
          case rel => exact ⟨3, rfl, rfl, (HI5.out _ _).1, (HI5.out _ _).2⟩
        · go_wp2
          go_ret
          exact ⟨⟨p, rfl, Nat.le_of_lt hs1, HK⟩, HB⟩
end Go.Proofs.YtbpkkgaaeodimaaGreatDoor
namespace Go.Proofs.YtbpkkgaaeodimaaGreatDoor
open Go.RowKit

/-! The document's reader, method by method. -/
theorem ref1_pct (s : ByteArray) (k : Int) (w : World) (hs : s.size ≤ 1000000) :
    Calls Tryz.prog 67 #[.string s, .int .i64 k] w fun e w' => (∃ t, e = .returned (.string t) ∧ Hid (bl t = percent k (bl s)) ∧ t.size ≤ 3 * s.size) ∧ Hid (Bel w w') := by
  refine (ref1_Percent s k w (by omega)).mono ?_
  rintro e w' ⟨⟨t, rfl, ht⟩, n, rfl⟩
  refine ⟨⟨t, rfl, ht, ?_⟩, bel_drewN _ n⟩
  have := percent_len k (bl s)
  rw [← ht.out, bl_length, bl_length] at this
  exact this
set_option maxHeartbeats 1000000 in
set_option maxRecDepth 100000 in
theorem ref3_split (g : Nat) (c : UrlC) (s : ByteArray) (w0 w : World) (hs : s.size ≤ 1000000) (HR : Hid (Rd w0 w g c [] w)) (h1 : c.hasFrag = false) (h2 : c.frag = ⟨#[]⟩) :
    Calls Tryz.prog 43 #[.pointer (some ⟨g, 0, none⟩), .string s] w fun e w' => ∃ r f, e = .returned (.string r) ∧ Hid (bl r = (segS 35 (bl s)).1) ∧ r.size ≤ s.size ∧ Hid (bl f = percent 2 (segS 35 (bl s)).2.1) ∧ Hid (Rd w0 w g { c with frag := f, hasFrag := (segS 35 (bl s)).2.2 } [] w') := by
  have HG : Hid ((segS 35 (bl s)).2.2 = false → percent 2 (segS 35 (bl s)).2.1 = []) := fun h => by
    have h : (bl s).contains 35 = false := h
    have : (segS 35 (bl s)).2.1 = [] := by
      unfold segS
      simp only []
      rw [(tw_all 35 (bl s) h).2]; rfl
    rw [this]; rfl
  go_enter Tryz.func43, Tryz.ntmps43
  go_wp2_with fail
  refine (ref1_Part s 35 _ hs).mono ?_
  rintro e w1 ⟨⟨a, b, rfl, ha, hb, haz, hbz⟩, HB1⟩
  have HR1 := Lib.hid (HR.out.step HB1.out)
  obtain ⟨_, _, _, _, _, _, _, _, _, ⟨c9, f9⟩, _, ⟨c11, f11⟩⟩ := HR1.out.cells
  obtain ⟨has, hhas⟩ : ∃ x, (segS 35 (bl s)).2.2 = x := ⟨_, rfl⟩
  have HH := Lib.hid hhas
  rw [hhas] at HG ⊢
  clear hhas
  cases has
  · go_wp2
    go_ret
    rw [HH.out]
    refine ⟨a, ⟨#[]⟩, rfl, ha, haz, ?_, ?_⟩
    · unfold Hid; rw [HG.out trivial]; rfl
    · have e : ({ c with frag := ⟨#[]⟩, hasFrag := false } : UrlC) = c := by cases c; simp only [] at h1 h2; rw [h1, h2]
      rw [e]; exact HR1
  · have HR2 := Lib.hid (HR1.out.put 11 (.bool true) (c' := { c with hasFrag := true }) (ext' := []) rfl)
    go_wp2_with fail
    refine (ref1_pct b 2 _ (by omega)).mono ?_
    rintro e w2 ⟨⟨t, rfl, ht, htz⟩, HB2⟩
    have HR3 := Lib.hid (HR2.out.step HB2.out)
    obtain ⟨_, _, _, _, _, _, _, _, _, ⟨d9, g9⟩, _, _⟩ := HR3.out.cells
    go_wp2
    go_ret
    rw [HH.out]
    exact ⟨a, t, rfl, ha, haz, by unfold Hid; rw [ht.out, hb.out], HR3.out.put 9 (.string t) rfl⟩
set_option maxHeartbeats 1000000 in
set_option maxRecDepth 100000 in
theorem ref3_query (g : Nat) (c : UrlC) (s : ByteArray) (w0 w : World) (hs : s.size ≤ 1000000) (HR : Hid (Rd w0 w g c [] w)) (h1 : c.hasQuery = false) (h2 : c.query = ⟨#[]⟩) :
    Calls Tryz.prog 77 #[.pointer (some ⟨g, 0, none⟩), .string s] w fun e w' => ∃ q, e = .returned (.tuple #[]) ∧ Hid (bl q = percent (setQ (bl c.scheme)) (segS 63 (bl s)).2.1) ∧ Hid (Rd w0 w g { c with query := q, hasQuery := (segS 63 (bl s)).2.2 } [] w') := by
  have HG : Hid ((segS 63 (bl s)).2.2 = false → percent (setQ (bl c.scheme)) (segS 63 (bl s)).2.1 = []) := fun h => (query_good (bl c.scheme) (bl s)).2 h
  have HQ : Hid (setQ (bl c.scheme) = if specialS (bl c.scheme) = true then 4 else 3) := rfl
  generalize hsp : specialS (bl c.scheme) = sp at *
  have HSP := Lib.hid hsp
  clear hsp
  go_enter Tryz.func77, Tryz.ntmps77
  go_wp2_with fail
  refine (ref1_Part s 63 _ hs).mono ?_
  rintro e w1 ⟨⟨a, b, rfl, ha, hb, haz, hbz⟩, HB1⟩
  have HR1 := Lib.hid (HR.out.step HB1.out)
  obtain ⟨_, _, _, _, _, _, _, _, _, _, ⟨c10, f10⟩, _⟩ := HR1.out.cells
  obtain ⟨has, hhas⟩ : ∃ x, (segS 63 (bl s)).2.2 = x := ⟨_, rfl⟩
  have HH := Lib.hid hhas
  rw [hhas] at HG ⊢
  clear hhas
  cases has
  · go_wp2
    first | go_end0 | refine bodyPost_ret (results_none rfl _ _ _) rfl ?_ | (simp only [Exit.inBlock, Exit.then]; refine bodyPost_ret (results_none rfl _ _ _) rfl ?_)
    rw [HH.out]
    refine ⟨⟨#[]⟩, rfl, ?_, ?_⟩
    · unfold Hid; rw [HG.out trivial]; rfl
    · have e : ({ c with query := ⟨#[]⟩, hasQuery := false } : UrlC) = c := by cases c; simp only [] at h1 h2; rw [h1, h2]
      rw [e]; exact HR1
  · have HR2 := Lib.hid (HR1.out.put 10 (.bool true) (c' := { c with hasQuery := true }) (ext' := []) rfl)
    obtain ⟨⟨d0, _⟩, _⟩ := HR2.out.cells
    cases sp
    all_goals
      go_wp2_with (first | (go_at_call 40; go_must (refine (ref3_Special _ _).mono ?_); rintro e w' ⟨rfl, rfl⟩; rw [HSP.out]))
      refine (ref1_pct b _ _ (by omega)).mono ?_
      rintro e w2 ⟨⟨t, rfl, ht, htz⟩, HB2⟩
      have HR3 := Lib.hid (HR2.out.step HB2.out)
      obtain ⟨_, _, _, _, _, _, _, _, ⟨d8, g8⟩, _, _, _⟩ := HR3.out.cells
      go_wp2
      go_end0
      rw [HH.out]
      exact ⟨t, rfl, by unfold Hid; rw [ht.out, hb.out, HQ.out]; rfl, HR3.out.put 8 (.string t) rfl⟩
end Go.Proofs.YtbpkkgaaeodimaaGreatDoor
namespace Go.Proofs.YtbpkkgaaeodimaaGreatDoor
open Go.RowKit

/-- The document's slashes, in place. -/
theorem slash_take (l : List UInt8) (x : UInt8) : ∀ a : List UInt8, (∀ y ∈ a, y ≠ 63) → slashS (a ++ x :: l) = slashS a ++ slashS (x :: l)
  | [], _ => rfl
  | y :: a, h => by
    have hy : ¬ y = 63 := h y List.mem_cons_self
    rw [List.cons_append, slashS, if_neg hy, slashS, if_neg hy, slash_take l x a (fun z hz => h z (List.mem_cons_of_mem _ hz))]; rfl
theorem slash_len1 : ∀ l, (slashS l).length = l.length
  | [] => rfl
  | x :: r => by
    rw [slashS]
    split
    · rfl
    · rw [List.length_cons, List.length_cons, slash_len1 r]
theorem slash_end : ∀ a : List UInt8, (∀ y ∈ a, y ≠ 63) → ∀ r, (r = [] ∨ r.head? = some 63) → slashS (a ++ r) = slashS a ++ r
  | [], _, r, h => by
    cases r with
    | nil => rfl
    | cons x t =>
      rcases h with h | h
      · cases h
      · have : x = 63 := by simpa using h
        rw [List.nil_append]; show slashS (x :: t) = x :: t; rw [slashS, if_pos this]
  | y :: a, h, r, hr => by
    have hy : ¬ y = 63 := h y List.mem_cons_self
    rw [List.cons_append, slashS, if_neg hy, slashS, if_neg hy, slash_end a (fun z hz => h z (List.mem_cons_of_mem _ hz)) r hr]; rfl
theorem slash_snoc (a : List UInt8) (h : ∀ y ∈ a, y ≠ 63) (x : UInt8) (hx : x ≠ 63) : slashS (a ++ [x]) = slashS a ++ [if x = 92 then 47 else x] := by
  rw [slash_take [] x a h, slashS, if_neg hx]; rfl
theorem u8_is (x : UInt8) (c : Nat) (hc : c < 256) : ((x.toNat : Int) == (c : Int)) = (x == UInt8.ofNat c) := by
  rw [Bool.eq_iff_iff, beq_iff_eq, beq_iff_eq]
  exact u8_eq x c hc
set_option maxHeartbeats 1000000 in
set_option maxRecDepth 100000 in
theorem ref3_slashes (s : ByteArray) (w : World) (hs : s.size ≤ 1000000) :
    Calls Tryz.prog 73 #[.string s] w fun e w' => (∃ t, e = .returned (.string t) ∧ Hid (bl t = slashS (bl s)) ∧ t.size = s.size) ∧ Hid (Bel w w') := by
  have kb := fun W => Lib.run_convert_string_bytes W 9 43 5 s Tryz.underlying9 Tryz.underlying43 Tryz.underlying5
  go_enter Tryz.func73, Tryz.ntmps73
  go_wp2
  have hb := bel_bytes w 5 s
  have hr := RowAt.bytes w 5 s
  go_loopg [4] s.size (fun g v4 wr => ∃ k : Nat, v4 = .int .i64 k ∧ k + g = s.size ∧ Hid (∀ y ∈ (bl s).take k, y ≠ 63) ∧ Hid (RowAt wr w.heap.size ((slashS ((bl s).take k) ++ (bl s).drop k).map u8v)) ∧ Hid (Bel w wr))
  case atStart => exact ⟨0, rfl, by omega, fun y hy => by simp at hy, hr, hb⟩
  case round =>
    obtain ⟨k, rfl, hk, HN, HR, HB⟩ := hrel
    clear hr hb
    have hkk : k ≤ s.size := by omega
    have hcv : (k = s.size ∨ ∃ h : k < s.size, s[k] = 63) → ∀ c, (convert 43 9 (.slice (some ⟨w.heap.size, 0, none⟩) s.size c)).run Tryz.prog wr = .ok (.string ⟨(slashS (bl s)).toArray⟩) wr := fun hd c => by
      have hl : (bl s) = (bl s).take k ++ (bl s).drop k := (List.take_append_drop k (bl s)).symm
      have he : slashS ((bl s).take k) ++ (bl s).drop k = slashS (bl s) := by
        conv => rhs; rw [hl]
        refine (slash_end _ HN.out _ ?_).symm
        rcases hd with hd | ⟨h, hd⟩
        · left; exact bl_drop_end s k (by omega)
        · right; rw [bl_drop s k h, hd]; rfl
      have := HR.out
      rw [he] at this
      exact row_string Tryz.underlying43 Tryz.underlying5 Tryz.underlying9 this _ (by rw [slash_len1, bl_length])
    have HCV := Lib.hid hcv
    clear hcv
    by_cases hlt : k < s.size
    · have hg : ((slashS ((bl s).take k) ++ (bl s).drop k).map u8v)[k]? = some (.int .u8 s[k].toNat) := by
        rw [List.getElem?_map, List.getElem?_append_right (by rw [slash_len1, List.length_take]; omega), slash_len1, List.length_take, bl_length, Nat.min_eq_left hkk, Nat.sub_self, bl_drop s k hlt]; rfl
      have hc := (HR.out.2 k _ hg).1
      have hf := (HR.out.2 k _ hg).2
      have hS : ∀ v : UInt8, ((slashS ((bl s).take k) ++ (bl s).drop k).map u8v).set k (u8v v) = (slashS ((bl s).take k) ++ [v] ++ (bl s).drop (k + 1)).map u8v := by
        intro v
        rw [← List.map_set, List.set_append_right _ _ (by rw [slash_len1, List.length_take]; omega)]
        rw [slash_len1, List.length_take, bl_length, Nat.min_eq_left hkk, Nat.sub_self]
        rw [bl_drop s k hlt, List.set_cons_zero]
        simp
      have HS := Lib.hid hS
      have HG := Lib.hid hg
      clear hg hS
      by_cases h63 : s[k] = 63
      · have hq : ((s[k].toNat : Int) != 63) = false := by rw [h63]; rfl
        have hcv := HCV.out (.inr ⟨hlt, h63⟩)
        go_wp2
        go_ret
        exact ⟨⟨_, rfl, by unfold Hid; rw [bl_mk], by rw [← bl_length, bl_mk, slash_len1, bl_length]⟩, HB⟩
      · have hq : ((s[k].toNat : Int) != 63) = true := by
          have := u8_is s[k] 63 (by decide)
          have h2 : (s[k] == UInt8.ofNat 63) = false := by simpa using h63
          rw [h2] at this
          unfold bne; rw [show ((s[k].toNat : Int) == 63) = false from this]; rfl
        have hN2 : Hid (∀ y ∈ (bl s).take (k + 1), y ≠ 63) := by
          intro y hy
          rw [bl_take s k hlt, List.mem_append, List.mem_singleton] at hy
          rcases hy with hy | hy
          · exact HN.out y hy
          · rw [hy]; exact h63
        have hT := Lib.hid (slash_snoc ((bl s).take k) HN.out s[k] h63)
        by_cases h92 : s[k] = 92
        · have h92' : (s[k].toNat : Int) = 92 := by rw [h92]; rfl
          have hq2 : ((s[k].toNat : Int) == 92) = true := by rw [h92]; rfl
          go_wp2
          go_roundg (gk - 1)
          case measure => omega
          case rel =>
            refine ⟨k + 1, by go_num, by omega, hN2, ?_, HB.out.setCell (Nat.le_refl _) _⟩
            have := HR.out.set k (u8v 47)
            rw [HS.out] at this
            unfold Hid
            rw [bl_take s k hlt, hT.out, if_pos h92]
            exact this
        · have hq2 : ((s[k].toNat : Int) == 92) = false := by
            have := u8_is s[k] 92 (by decide)
            have h2 : (s[k] == UInt8.ofNat 92) = false := by simpa using h92
            rw [h2] at this
            exact this
          go_wp2
          go_roundg (gk - 1)
          case measure => omega
          case rel =>
            refine ⟨k + 1, by go_num, by omega, hN2, ?_, HB⟩
            unfold Hid
            rw [bl_take s k hlt, hT.out, if_neg h92, ← HS.out, show u8v s[k] = .int .u8 s[k].toNat from rfl, list_set_same HG.out]
            exact HR
    · have hcv := HCV.out (.inl (by omega))
      have hge : ¬ (k : Int) < s.size := by omega
      go_wp2
      go_ret
      exact ⟨⟨_, rfl, by unfold Hid; rw [bl_mk], by rw [← bl_length, bl_mk, slash_len1, bl_length]⟩, HB⟩
end Go.Proofs.YtbpkkgaaeodimaaGreatDoor
