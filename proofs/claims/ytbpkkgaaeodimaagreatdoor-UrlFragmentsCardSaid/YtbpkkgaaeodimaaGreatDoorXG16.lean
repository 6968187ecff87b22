import Derived.Test.YtbpkkgaaeodimaaGreatDoorXG15
import Derived.ScopeJumps
import Derived.Test.YtbpkkgaaeodimaaGreatDoorXG12
import Derived.Defers
import Derived.Laws.Pointers
import Derived.Laws.LoneSync
import Derived.Laws.NewBlocks
import Derived.RegionTactic
import Derived.RegionCalls
namespace Go
/-- A scope with jumps to several labels: what holds at each, and a measure that falls. -/
def Exit.jumpL (J : Nat → Act → World → Prop) (Q : Exit → Act → World → Prop) : Exit → Act → World → Prop
  | .goto l', a, w => J l' a w
  | e, a, w => Q e a w
theorem Exit.jumpL_goto (J : Nat → Act → World → Prop) (Q : Exit → Act → World → Prop) (l : Nat) (a : Act) (w : World) : Exit.jumpL J Q (.goto l) a w = J l a w := rfl
theorem Exit.jumpL_ret (J : Nat → Act → World → Prop) (Q : Exit → Act → World → Prop) (a : Act) (w : World) : Exit.jumpL J Q .ret a w = Q .ret a w := rfl
theorem wp_scope_jumpsL {P : Program} {a : Act} {w : World} {Q : Exit → Act → World → Prop} {c : Code} (J : Nat → Act → World → Prop) (μ : Nat → Act → World → Nat)
    (first : c.wp P (Exit.jumpL J Q) a w)
    (pass : ∀ l a w, J l a w → ∃ rest, findLabel c l = some rest ∧ rest.wp P (Exit.jumpL (fun l' a' w' => J l' a' w' ∧ μ l' a' w' < μ l a w) Q) a w) : (Code.scope c).wp P Q a w := by
  intro b k cs
  have hg : ∀ l rest, findLabel c l = some rest → gotoIn l (.inScope c :: k) = some (.code rest :: .inScope c :: k) := by intro l rest h; simp [gotoIn, h]
  have key : ∀ n l a w rest, μ l a w = n → J l a w → findLabel c l = some rest → ∃ e a' w', Q e a' w' ∧ Arrives P (lone (b.at a (.code rest :: .inScope c :: k)) cs w) b k cs e a' w' := by
    intro n
    induction n using Nat.strongRecOn with
    | _ n ih =>
      intro l a w rest hn hJ hf
      obtain ⟨rest', hf', hp⟩ := pass l a w hJ
      obtain rfl : rest' = rest := by rw [hf] at hf'; exact (Option.some.inj hf').symm
      obtain ⟨e, a₁, w₁, hq, harr⟩ := hp b (.inScope c :: k) cs
      cases e with
      | normal => exact ⟨.normal, a₁, w₁, hq, Steps.trans harr (.one step_inScope)⟩
      | exit id => exact ⟨.exit id, a₁, w₁, hq, fun k' hk => harr k' (by simp [exitTo, hk])⟩
      | goto l' =>
        obtain ⟨hJ', hlt⟩ := hq
        obtain ⟨r2, hf2, _⟩ := pass l' a₁ w₁ hJ'
        obtain ⟨e₂, a₂, w₂, hq₂, harr₂⟩ := ih _ (by omega) l' a₁ w₁ r2 rfl hJ' hf2
        exact ⟨e₂, a₂, w₂, hq₂, .of_steps (harr _ (hg _ _ hf2)) harr₂⟩
      | ret => exact ⟨_, a₁, w₁, hq, harr⟩
      | panic ch => exact ⟨_, a₁, w₁, hq, harr⟩
      | outgrown => exact ⟨_, a₁, w₁, hq, harr⟩
  obtain ⟨e, a₁, w₁, hq, harr⟩ := first b (.inScope c :: k) cs
  cases e with
  | normal => exact ⟨.normal, a₁, w₁, hq, .head step_scope (Steps.trans harr (.one step_inScope))⟩
  | exit id => exact ⟨.exit id, a₁, w₁, hq, fun k' hk => .head step_scope (harr k' (by simp [exitTo, hk]))⟩
  | goto l' =>
    obtain ⟨r2, hf2, _⟩ := pass l' a₁ w₁ hq
    obtain ⟨e₂, a₂, w₂, hq₂, harr₂⟩ := key _ l' a₁ w₁ r2 rfl hq hf2
    exact ⟨e₂, a₂, w₂, hq₂, .of_steps (.head step_scope (harr _ (hg _ _ hf2))) harr₂⟩
  | ret => exact ⟨_, a₁, w₁, hq, .of_steps (.one step_scope) harr⟩
  | panic ch => exact ⟨_, a₁, w₁, hq, .of_steps (.one step_scope) harr⟩
  | outgrown => exact ⟨_, a₁, w₁, hq, .of_steps (.one step_scope) harr⟩
end Go
namespace Go.Proofs.YtbpkkgaaeodimaaGreatDoor
open Go.RowKit

def atI : Option Nat → Int | none => -1 | some k => k
/-- What is known at a label of ported. -/
def ptInv (s : ByteArray) (l i : Nat) (o : Option Nat) : Prop :=
  (∀ k, o = some k → k < s.size) ∧ (l = 0 ∧ colonF false 0 none (bl s) = o ∨ l = 1 ∧ i ≤ s.size ∧ colonF false i o ((bl s).drop i) = colonF false 0 none (bl s) ∨ l = 2 ∧ i < s.size ∧ colonF true (i + 1) o ((bl s).drop (i + 1)) = colonF false 0 none (bl s))
def ptJ (s : ByteArray) (w : World) (l : Nat) (a : Act) (w' : World) : Prop :=
  w' = w ∧ ∃ (i : Nat) (o : Option Nat) (u6 u7 u8 u9 u10 u11 u12 u13 u14 u15 u16 u17 u18 u19 u20 u21 u22 u23 u24 u25 u26 u27 u28 u29 u30 u31 u32 u33 u34 u35 u36 u37 u38 u39 u40 u41 u42 : Value), a = { tmps := #[.string s, undef, .string ⟨#[]⟩, .string ⟨#[]⟩, .int .i64 (atI o), .int .i64 i, u6, u7, u8, u9, u10, u11, u12, u13, u14, u15, u16, u17, u18, u19, u20, u21, u22, u23, u24, u25, u26, u27, u28, u29, u30, u31, u32, u33, u34, u35, u36, u37, u38, u39, u40, u41, u42], defers := [] } ∧ i ≤ s.size ∧ Hid (ptInv s l i o)
def ptM (s : ByteArray) (l : Nat) (a : Act) (_w : World) : Nat := if l = 0 then 0 else 2 * (s.size + 1 - (intOf (a.tmps.getD 5 undef)).toNat) + (if l = 1 then 2 else 1)
theorem cF_nil (b : Bool) (i : Nat) (o : Option Nat) : colonF b i o [] = o := rfl
theorem cF_in (i : Nat) (o : Option Nat) (x : UInt8) (r : List UInt8) : colonF true i o (x :: r) = colonF (x != 93) (i + 1) o r := by rw [colonF, if_pos rfl]
theorem cF_open (i : Nat) (o : Option Nat) (x : UInt8) (r : List UInt8) (h : x = 91) : colonF false i o (x :: r) = colonF true (i + 1) o r := by rw [colonF, if_neg (by decide), if_pos h]
theorem cF_colon (i : Nat) (o : Option Nat) (x : UInt8) (r : List UInt8) (h : x = 58) : colonF false i o (x :: r) = colonF false (i + 1) (some i) r := by rw [colonF, if_neg (by decide), if_neg (by rw [h]; decide), if_pos h]
theorem cF_other (i : Nat) (o : Option Nat) (x : UInt8) (r : List UInt8) (h : ¬ x = 91) (h2 : ¬ x = 58) : colonF false i o (x :: r) = colonF false (i + 1) o r := by rw [colonF, if_neg (by decide), if_neg h, if_neg h2]
theorem pt_out (s : ByteArray) (i : Nat) (o : Option Nat) (h : ptInv s 1 i o) : (∀ k, o = some k → k < s.size) ∧ i ≤ s.size ∧ colonF false i o ((bl s).drop i) = colonF false 0 none (bl s) := by
  obtain ⟨h1, h | ⟨_, h⟩ | h⟩ := h
  · exact absurd h.1 (by decide)
  · exact ⟨h1, h⟩
  · exact absurd h.1 (by decide)
theorem pt_end (s : ByteArray) (i : Nat) (o : Option Nat) (h : ptInv s 1 i o) (hi : s.size ≤ i) : ptInv s 0 i o := by
  obtain ⟨h1, h2, h3⟩ := pt_out s i o h
  rw [bl_drop_end s i hi, cF_nil] at h3
  exact ⟨h1, .inl ⟨rfl, h3.symm⟩⟩
theorem pt_open (s : ByteArray) (i : Nat) (o : Option Nat) (h : ptInv s 1 i o) (hi : i < s.size) (hx : s[i] = 91) : ptInv s 2 i o := by
  obtain ⟨h1, h2, h3⟩ := pt_out s i o h
  rw [bl_drop s i hi, cF_open _ _ _ _ hx] at h3
  exact ⟨h1, .inr (.inr ⟨rfl, hi, h3⟩)⟩
theorem pt_colon (s : ByteArray) (i : Nat) (o : Option Nat) (h : ptInv s 1 i o) (hi : i < s.size) (hx : s[i] = 58) : ptInv s 1 (i + 1) (some i) := by
  obtain ⟨h1, h2, h3⟩ := pt_out s i o h
  rw [bl_drop s i hi, cF_colon _ _ _ _ hx] at h3
  exact ⟨fun k hk => by simp only [Option.some.injEq] at hk; omega, .inr (.inl ⟨rfl, by omega, h3⟩)⟩
theorem pt_other (s : ByteArray) (i : Nat) (o : Option Nat) (h : ptInv s 1 i o) (hi : i < s.size) (hx : ¬ s[i] = 91) (hy : ¬ s[i] = 58) : ptInv s 1 (i + 1) o := by
  obtain ⟨h1, h2, h3⟩ := pt_out s i o h
  rw [bl_drop s i hi, cF_other _ _ _ _ hx hy] at h3
  exact ⟨h1, .inr (.inl ⟨rfl, by omega, h3⟩)⟩
theorem pt_in (s : ByteArray) (i : Nat) (o : Option Nat) (h : ptInv s 2 i o) : (∀ k, o = some k → k < s.size) ∧ i < s.size ∧ colonF true (i + 1) o ((bl s).drop (i + 1)) = colonF false 0 none (bl s) := by
  obtain ⟨h1, h | h | ⟨_, h⟩⟩ := h
  · exact absurd h.1 (by decide)
  · exact absurd h.1 (by decide)
  · exact ⟨h1, h⟩
theorem pt_end2 (s : ByteArray) (i : Nat) (o : Option Nat) (h : ptInv s 2 i o) (hi : s.size ≤ i + 1) : ptInv s 0 (i + 1) o := by
  obtain ⟨h1, h2, h3⟩ := pt_in s i o h
  rw [bl_drop_end s (i + 1) hi, cF_nil] at h3
  exact ⟨h1, .inl ⟨rfl, h3.symm⟩⟩
theorem pt_stay (s : ByteArray) (i : Nat) (o : Option Nat) (h : ptInv s 2 i o) (hi : i + 1 < s.size) (hx : ¬ s[i + 1] = 93) : ptInv s 2 (i + 1) o := by
  obtain ⟨h1, h2, h3⟩ := pt_in s i o h
  rw [bl_drop s (i + 1) hi, cF_in, show (s[i + 1] != 93) = true by simpa using hx] at h3
  exact ⟨h1, .inr (.inr ⟨rfl, hi, h3⟩)⟩
theorem pt_close (s : ByteArray) (i : Nat) (o : Option Nat) (h : ptInv s 2 i o) (hi : i + 1 < s.size) (hx : s[i + 1] = 93) : ptInv s 1 (i + 2) o := by
  obtain ⟨h1, h2, h3⟩ := pt_in s i o h
  rw [bl_drop s (i + 1) hi, cF_in, hx, show ((93 : UInt8) != 93) = false from rfl] at h3
  exact ⟨h1, .inr (.inl ⟨rfl, by omega, h3⟩)⟩
theorem pt_done (s : ByteArray) (i : Nat) (o : Option Nat) (h : ptInv s 0 i o) : (∀ k, o = some k → k < s.size) ∧ colonF false 0 none (bl s) = o := by
  obtain ⟨h1, ⟨_, h⟩ | h | h⟩ := h
  · exact ⟨h1, h⟩
  · exact absurd h.1 (by decide)
  · exact absurd h.1 (by decide)
def ptF (l : List UInt8) : Option Nat → List UInt8 × List UInt8
  | none => (l, [])
  | some i => (l.take i, l.drop (i + 1))
theorem u8_iff (x c : UInt8) : ((x.toNat : Int) == (c.toNat : Int)) = true ↔ x = c := by rw [beq_u8, beq_iff_eq]
set_option maxHeartbeats 2000000 in
set_option maxRecDepth 100000 in
theorem url_ported (s : ByteArray) (w : World) (hs : s.size ≤ 1000000) :
    Calls Tryz.prog 166 #[.string s] w fun e w' => (∃ a b, e = .returned (.tuple #[.string a, .string b]) ∧ Hid (bl a = (portedS (bl s)).1) ∧ Hid (bl b = (portedS (bl s)).2) ∧ a.size ≤ s.size ∧ b.size ≤ s.size) ∧ Hid (Bel w w') := by
  go_enter Tryz.func166, Tryz.ntmps166
  go_wp2
  refine wp_scope_jumpsL (ptJ s w) (ptM s) ?_ ?_
  · have HI : Hid (ptInv s 1 0 none) := ⟨fun k hk => (by cases hk), Or.inr (.inl ⟨rfl, Nat.zero_le _, by rw [List.drop_zero]⟩)⟩
    by_cases h0 : s.size ≤ 0
    · have he : s = ByteArray.empty := by apply ByteArray.ext; exact Array.eq_empty_of_size_eq_zero (by have : s.data.size = s.size := rfl; omega)
      have HX := Lib.hid (pt_end s 0 none HI.out h0)
      clear h0 HI
      subst he
      go_wp2
      go_step3
      go_wp2
      go_step3
      exact ⟨rfl, 0, none, _, _, _, _, _, _, _, _, _, _, _, _, _, _, _, _, _, _, _, _, _, _, _, _, _, _, _, _, _, _, _, _, _, _, _, _, _, rfl, Nat.zero_le _, HX⟩
    · have hlt : 0 < s.size := by omega
      have he : ¬ s = ByteArray.empty := by intro e; rw [e] at hlt; exact absurd hlt (by decide)
      by_cases hx : s[0] = 91
      · have hb : ((s[0].toNat : Int) == 91) = true := (u8_iff _ 91).2 hx
        have HX := Lib.hid (pt_open s 0 none HI.out hlt hx)
        clear hx HI
        go_wp2
        go_step3
        go_wp2
        go_step3
        exact ⟨rfl, 0, none, _, _, _, _, _, _, _, _, _, _, _, _, _, _, _, _, _, _, _, _, _, _, _, _, _, _, _, _, _, _, _, _, _, _, _, _, _, rfl, Nat.zero_le _, HX⟩
      · have hb : ((s[0].toNat : Int) == 91) = false := by rw [Bool.eq_false_iff]; exact fun e => hx ((u8_iff _ 91).1 e)
        by_cases hy : s[0] = 58
        · have hb2 : ((s[0].toNat : Int) == 58) = true := (u8_iff _ 58).2 hy
          have HX := Lib.hid (pt_colon s 0 none HI.out hlt hy)
          clear hx hy HI
          go_wp2
          go_step3
          go_wp2
          go_step3
          exact ⟨rfl, 1, some 0, _, _, _, _, _, _, _, _, _, _, _, _, _, _, _, _, _, _, _, _, _, _, _, _, _, _, _, _, _, _, _, _, _, _, _, _, _, rfl, by omega, HX⟩
        · have hb2 : ((s[0].toNat : Int) == 58) = false := by rw [Bool.eq_false_iff]; exact fun e => hy ((u8_iff _ 58).1 e)
          have HX := Lib.hid (pt_other s 0 none HI.out hlt hx hy)
          clear hx hy HI
          go_wp2
          go_step3
          go_wp2
          go_step3
          exact ⟨rfl, 1, none, _, _, _, _, _, _, _, _, _, _, _, _, _, _, _, _, _, _, _, _, _, _, _, _, _, _, _, _, _, _, _, _, _, _, _, _, _, rfl, by omega, HX⟩
  · intro l a' w' hJ
    obtain ⟨rfl, i, o, u6, u7, u8, u9, u10, u11, u12, u13, u14, u15, u16, u17, u18, u19, u20, u21, u22, u23, u24, u25, u26, u27, u28, u29, u30, u31, u32, u33, u34, u35, u36, u37, u38, u39, u40, u41, u42, rfl, hi, HI⟩ := hJ
    have hl : l = 1 ∨ l = 2 ∨ l = 0 := by
      obtain ⟨_, h | h | h⟩ := HI.out
      · exact .inr (.inr h.1)
      · exact .inl h.1
      · exact .inr (.inl h.1)
    rcases hl with rfl | rfl | rfl
    · refine ⟨_, rfl, ?_⟩
      by_cases h0 : s.size ≤ i
      · have h0' : ¬ (i : Int) < s.size := by omega
        have HX := Lib.hid (pt_end s i o HI.out h0)
        go_wp2
        go_step3
        exact ⟨⟨rfl, i, o, _, _, _, _, _, _, _, _, _, _, _, _, _, _, _, _, _, _, _, _, _, _, _, _, _, _, _, _, _, _, _, _, _, _, _, _, _, rfl, hi, HX⟩, by simp [ptM, intOf]⟩
      · have hlt : i < s.size := by omega
        by_cases hx : s[i] = 91
        · have hb : ((s[i].toNat : Int) == 91) = true := (u8_iff _ 91).2 hx
          have HX := Lib.hid (pt_open s i o HI.out hlt hx)
          clear hx HI h0
          go_wp2
          go_step3
          exact ⟨⟨rfl, i, o, _, _, _, _, _, _, _, _, _, _, _, _, _, _, _, _, _, _, _, _, _, _, _, _, _, _, _, _, _, _, _, _, _, _, _, _, _, rfl, hi, HX⟩, by simp [ptM, intOf]⟩
        · have hb : ((s[i].toNat : Int) == 91) = false := by rw [Bool.eq_false_iff]; exact fun e => hx ((u8_iff _ 91).1 e)
          by_cases hy : s[i] = 58
          · have hb2 : ((s[i].toNat : Int) == 58) = true := (u8_iff _ 58).2 hy
            have HX := Lib.hid (pt_colon s i o HI.out hlt hy)
            clear hx hy HI h0
            go_wp2
            go_step3
            exact ⟨⟨rfl, i + 1, some i, _, _, _, _, _, _, _, _, _, _, _, _, _, _, _, _, _, _, _, _, _, _, _, _, _, _, _, _, _, _, _, _, _, _, _, _, _, rfl, by omega, HX⟩, by simp [ptM, intOf]; omega⟩
          · have hb2 : ((s[i].toNat : Int) == 58) = false := by rw [Bool.eq_false_iff]; exact fun e => hy ((u8_iff _ 58).1 e)
            have HX := Lib.hid (pt_other s i o HI.out hlt hx hy)
            clear hx hy HI h0
            go_wp2
            go_step3
            exact ⟨⟨rfl, i + 1, o, _, _, _, _, _, _, _, _, _, _, _, _, _, _, _, _, _, _, _, _, _, _, _, _, _, _, _, _, _, _, _, _, _, _, _, _, _, rfl, by omega, HX⟩, by simp [ptM, intOf]; omega⟩
    · refine ⟨_, rfl, ?_⟩
      have hi2 : i < s.size := (pt_in s i o HI.out).2.1
      by_cases h0 : s.size ≤ i + 1
      · have h0' : ¬ (i : Int) + 1 < s.size := by omega
        have HX := Lib.hid (pt_end2 s i o HI.out h0)
        go_wp2
        go_step3
        exact ⟨⟨rfl, i + 1, o, _, _, _, _, _, _, _, _, _, _, _, _, _, _, _, _, _, _, _, _, _, _, _, _, _, _, _, _, _, _, _, _, _, _, _, _, _, rfl, by omega, HX⟩, by simp [ptM, intOf]⟩
      · have hlt : i + 1 < s.size := by omega
        have hlt1 : (i : Int) + 1 < s.size := by omega
        have e1 : ((i : Int) + 1).toNat = i + 1 := by omega
        by_cases hx : s[i + 1] = 93
        · have hb : ((s[i + 1].toNat : Int) != 93) = false := by rw [bne, show ((s[i + 1].toNat : Int) == 93) = true from (u8_iff _ 93).2 hx]; rfl
          have HX := Lib.hid (pt_close s i o HI.out hlt hx)
          clear hx HI h0
          go_wp2
          go_step3
          exact ⟨⟨rfl, i + 2, o, _, _, _, _, _, _, _, _, _, _, _, _, _, _, _, _, _, _, _, _, _, _, _, _, _, _, _, _, _, _, _, _, _, _, _, _, _, by go_num, by omega, HX⟩, by simp [ptM, intOf]; omega⟩
        · have hb : ((s[i + 1].toNat : Int) != 93) = true := by rw [bne, Bool.not_eq_true', Bool.eq_false_iff]; exact fun e => hx ((u8_iff _ 93).1 e)
          have HX := Lib.hid (pt_stay s i o HI.out hlt hx)
          clear hx HI h0
          go_wp2
          go_step3
          exact ⟨⟨rfl, i + 1, o, _, _, _, _, _, _, _, _, _, _, _, _, _, _, _, _, _, _, _, _, _, _, _, _, _, _, _, _, _, _, _, _, _, _, _, _, _, rfl, by omega, HX⟩, by simp [ptM, intOf]; omega⟩
    · refine ⟨_, rfl, ?_⟩
      obtain ⟨hk, HD⟩ := pt_done s i o HI.out
      have HP0 : portedS (bl s) = ptF (bl s) o := by rw [← HD]; rfl
      have HP := Lib.hid HP0
      clear HI HD HP0
      cases o with
      | none =>
        rw [show atI none = -1 from rfl]
        go_wp2
        simp only [Exit.jumpL]
        go_ret2
        exact ⟨⟨s, ⟨#[]⟩, rfl, by rw [HP.out]; rfl, by rw [HP.out]; rfl, Nat.le_refl _, Nat.zero_le _⟩, by unfold Hid; exact Below.refl _ _⟩
      | some k =>
        have hlt : k < s.size := hk k rfl
        rw [show atI (some k) = (k : Int) from rfl]
        have e1 : IntKind.i64.wrap ((k : Int) + 1) = (k : Int) + 1 := IntWalk.i64_in _ (by omega)
        have p1 : 0 ≤ (k : Int) + 1 := by omega
        have p2 : (k : Int) + 1 ≤ s.size := by omega
        have p3 : ((k : Int) + 1).toNat = k + 1 := by omega
        have z1 : (s.extract 0 k).size ≤ s.size := by rw [ByteArray.size_extract]; omega
        have z2 : (s.extract (k + 1) s.size).size ≤ s.size := by rw [ByteArray.size_extract]; omega
        have hk1 : (k : Int) ≤ s.size := by omega
        have hk0 : ¬ (k : Int) < 0 := by omega
        clear hk
        go_wp2
        go_quiet (fail)
        go_wp2
        simp only [Exit.jumpL]
        go_ret2
        exact ⟨⟨_, _, rfl, by rw [HP.out]; exact bl_pre2 s k, by rw [HP.out]; exact bl_suf2 s (k + 1), z1, z2⟩, bel_drewN _ _⟩
end Go.Proofs.YtbpkkgaaeodimaaGreatDoor
namespace Go.Proofs.YtbpkkgaaeodimaaGreatDoor
open Go.RowKit

/-! sync.Once and its lock, for one goroutine. -/
theorem rc_disable (w : World) : (callFunc 203 #[]).run Tryz.prog w = .ok (.value (.tuple #[])) w := run_call_mark0 Tryz.func203 (by kernel_rfl) (by kernel_rfl) (by kernel_rfl) .disable (by kernel_rfl) w
theorem rc_enable (w : World) : (callFunc 205 #[]).run Tryz.prog w = .ok (.value (.tuple #[])) w := run_call_mark0 Tryz.func205 (by kernel_rfl) (by kernel_rfl) (by kernel_rfl) .enable (by kernel_rfl) w
theorem rc_acquire (a : Addr) (w : World) : (callFunc 206 #[.pointer (some a)]).run Tryz.prog w = .ok (.value (.tuple #[])) w := run_call_marked Tryz.func206 (by kernel_rfl) (by kernel_rfl) (by kernel_rfl) .acquire (by kernel_rfl) a w
theorem rc_release (a : Addr) (w : World) : (callFunc 208 #[.pointer (some a)]).run Tryz.prog w = .ok (.value (.tuple #[])) w := run_call_marked Tryz.func208 (by kernel_rfl) (by kernel_rfl) (by kernel_rfl) .releaseMerge (by kernel_rfl) a w
theorem once_store (a : Addr) (x : Value) (u : FrameMode) (w : World) (hc : w.cell? a = some x) (hz : w.frozen? a = false) :
    CallsD Tryz.prog 160 #[.pointer (some a), .bool true] u w fun e u' w' => u' = u ∧ (e = .returned (.tuple #[]) ∧ w' = w.drew.setCell a (.int .u32 1)) := by
  have hc' : w.drew.cell? a = some x := by go_simp
  have hz' : w.drew.frozen? a = false := by go_simp
  have hst := run_call_store (P := Tryz.prog) Tryz.func186 (by kernel_rfl) (by kernel_rfl) (by kernel_rfl) (by kernel_rfl) (k := .u32) (y := 1) hc' hz'
  go_enter_d Tryz.func160, Tryz.ntmps160
  go_wp2
  go_region_calls
  all_goals (go_end0; exact ⟨rfl, rfl⟩)
set_option maxRecDepth 100000 in
set_option maxHeartbeats 800000 in
theorem once_unlock (a : Addr) (u : FrameMode) (w : World) (hc : w.cell? a = some (.int .i32 1)) (hz : w.frozen? a = false) :
    CallsD Tryz.prog 159 #[.pointer (some a)] u w fun e u' w' => u' = u ∧ (e = .returned (.tuple #[]) ∧ w' = w.setCell a (.int .i32 0)) := by
  have hd := rc_disable
  have he := rc_enable
  have hr := rc_release
  have hadd := run_call_add (P := Tryz.prog) Tryz.func209 (by kernel_rfl) (by kernel_rfl) (by kernel_rfl) .i32 (by kernel_rfl) (y := -1) (s := 0) hc hz (by simp [go_sem]; rfl)
  have hcv := run_convert_to_unsafe (P := Tryz.prog) (src := 215) (dst := 127) Tryz.underlying215 Tryz.underlying127 (by kernel_rfl) hc
  go_enter_d Tryz.func159, Tryz.ntmps159
  go_wp2
  go_end0
  go_wp2
  go_end0
  exact ⟨rfl, rfl⟩
set_option maxRecDepth 100000 in
set_option maxHeartbeats 800000 in
theorem once_lock (a : Addr) (w : World) (hc : w.cell? a = some (.int .i32 0)) (hz : w.frozen? a = false) :
    Calls Tryz.prog 158 #[.pointer (some a)] w fun e w' => e = .returned (.tuple #[]) ∧ w' = w.setCell a (.int .i32 1) := by
  have hd := rc_disable
  have he := rc_enable
  have ha := rc_acquire
  have hcas := run_call_cas_hit (P := Tryz.prog) Tryz.func204 (by kernel_rfl) (by kernel_rfl) (by kernel_rfl) .i32 (by kernel_rfl) (y := 1) hc hz
  have hc' : (w.setCell a (.int .i32 1)).cell? a = some (.int .i32 1) := World.cell?_setCell_same w a _ hc
  have hcv := run_convert_to_unsafe (P := Tryz.prog) (src := 215) (dst := 127) Tryz.underlying215 Tryz.underlying127 (by kernel_rfl) hc'
  go_enter Tryz.func158, Tryz.ntmps158
  go_wp2
  first | go_end0 | (simp only [Exit.inBlock, Exit.then]; refine bodyPost_ret (results_none rfl _ _ _) rfl ?_) | refine bodyPost_ret (results_none rfl _ _ _) rfl ?_
  go_wp2
  go_end0
  exact ⟨rfl, rfl⟩
end Go.Proofs.YtbpkkgaaeodimaaGreatDoor
namespace Go.Proofs.YtbpkkgaaeodimaaGreatDoor
open Go.RowKit

/-! The document's own way to an address, and ours: the same. -/
theorem authS_port (u : UrlS) (p : Int) (a : List UInt8) : authS { u with port := p } a = authS u a := by
  unfold authS userS
  cases lastAt a <;> rfl
theorem behindS_port (u : UrlS) (p : Int) (a : List UInt8) : behindS { u with port := p } a = behindS u a := by
  unfold behindS
  rw [authS_port]
theorem slash_slash : ∀ l, slashS (slashS l) = slashS l
  | [] => rfl
  | x :: r => by
    by_cases h : x = 63
    · simp [slashS, h]
    · rw [slashS, if_neg h, slashS, slash_slash r]
      by_cases h2 : x = 92
      · simp [h2]
      · simp [h2, h]
theorem begins_two {l : List UInt8} (h : begins l [47, 47] = true) : ∃ r, l = 47 :: 47 :: r := by
  match l, h with
  | [], h => simp [begins] at h
  | [_], h => simp [begins] at h
  | a :: b :: r, h =>
    simp [begins] at h
    exact ⟨r, by rw [h.1, h.2]⟩
theorem begins_one {l : List UInt8} : begins l [47] = true ↔ l.head? = some 47 := by
  cases l with
  | nil => simp [begins]
  | cons a r => simp [begins]
theorem pathS_plain {p : List UInt8} (hv : List (List UInt8)) (h : p.head? ≠ some 47) : pathS hv p = pathF hv (cutS 47 [] p) := by
  unfold pathS slashless
  rw [if_neg h]
theorem aheadQ_head {l : List UInt8} (c : UInt8) (hc : c ≠ 63) : (aheadQ l).head? = some c ↔ l.head? = some c := by
  unfold aheadQ
  cases l with
  | nil => simp
  | cons a r =>
    rw [List.takeWhile_cons]
    by_cases h : a = 63
    · subst h
      simp
      exact fun e => hc e.symm
    · rw [show (a != 63) = true by simpa using h]
      simp
/-- What is relative to a base: the document's way. -/
def relX (u0 : UrlS) (x : List UInt8) (base : UrlS) : Except Int UrlS :=
  if base.opaq = true ∧ x ≠ [] then .error 12 else
  let l := if specialS base.scheme = true then slashS x else x
  if begins l [47, 47] = true then behindS { noUrl with scheme := base.scheme, frag := u0.frag, hasFrag := u0.hasFrag } (if specialS base.scheme = true then (l.drop 2).dropWhile (· == 47) else l.drop 2)
  else if l = [] then .ok u0
  else if l.head? = some 47 then .ok (rootedS u0 l)
  else if l.head? = some 63 then .ok (queryS u0 l).1
  else .ok (queryS { u0 with path := pathF base.path.dropLast (cutS 47 [] (aheadQ l)) } l).1
theorem relX_is (l : List UInt8) (base : UrlS) : relS l base = relX (fragS base l).1 (fragS base l).2 base := by
  unfold relS relX
  generalize hu : (fragS base l).1 = u
  generalize (fragS base l).2 = x
  have hsc : u.scheme = base.scheme := by rw [← hu]; rfl
  cases ho : base.opaq
  · rw [if_neg (by simp), if_neg (by simp)]
    unfold joinedS
    simp only []
    generalize hl : (if specialS base.scheme = true then slashS x else x) = y
    by_cases h2 : begins y [47, 47] = true
    · rw [if_pos h2, if_pos h2]
      unfold allS
      simp only []
      by_cases hs : specialS base.scheme = true
      · rw [if_pos hs, if_pos hs]
        rw [if_pos hs] at hl
        obtain ⟨r, hr⟩ := begins_two h2
        have e : slashS y = y := by rw [← hl, slash_slash]
        rw [e]
        refine (behindS_port { noUrl with scheme := base.scheme, frag := u.frag, hasFrag := u.hasFrag } _ _).trans ?_
        rw [hr]
        rfl
      · rw [if_neg hs, if_neg hs, if_pos h2]
        exact behindS_port { noUrl with scheme := base.scheme, frag := u.frag, hasFrag := u.hasFrag } _ _
    · rw [if_neg h2, if_neg h2]
      by_cases h0 : y = []
      · rw [if_pos h0, if_neg (by rw [h0]; decide), if_pos h0]
      · rw [if_neg h0, if_neg h0]
        by_cases h1 : y.head? = some 47
        · rw [if_pos h1, if_pos (begins_one.2 h1)]
        · rw [if_neg h1, if_neg (fun e => h1 (begins_one.1 e))]
          by_cases h3 : y.head? = some 63
          · rw [if_pos h3, if_pos h3]
          · rw [if_neg h3, if_neg h3, pathS_plain _ (fun e => h1 ((aheadQ_head 47 (by decide)).1 e))]
  · rw [if_pos rfl]
    by_cases h0 : x = []
    · subst h0
      rw [if_neg (by simp), if_neg (by simp)]
      have e : (if specialS base.scheme = true then slashS [] else []) = ([] : List UInt8) := by cases specialS base.scheme <;> rfl
      simp only [e]
      rw [if_neg (by decide), if_pos trivial]
    · rw [if_pos h0, if_pos ⟨rfl, h0⟩]
/-- A scheme's letters, the colon, the rest. -/
theorem scheme_form : ∀ (l acc : List UInt8) (s r : List UInt8), schemeF acc l = some (s, r) → ∃ m, l = m ++ 58 :: r ∧ s = lower (acc ++ m)
  | [], acc, s, r, h => by simp [schemeF] at h
  | c :: l, acc, s, r, h => by
    rw [schemeF] at h
    split at h
    · rename_i hc
      simp only [Option.some.injEq, Prod.mk.injEq] at h
      exact ⟨[], by rw [hc.1, h.2]; rfl, by rw [List.append_nil, h.1]⟩
    · split at h
      · obtain ⟨m, h1, h2⟩ := scheme_form l _ s r h
        exact ⟨c :: m, by rw [h1]; rfl, by rw [h2, List.append_assoc]; rfl⟩
      · cases h
theorem tw_app (c : UInt8) : ∀ (m l : List UInt8) (t : List UInt8), (m ++ l).takeWhile (· != c) = m ++ t → l.takeWhile (· != c) = t ∧ (m ++ l).dropWhile (· != c) = l.dropWhile (· != c) ∧ (m ++ l).contains c = l.contains c
  | [], l, t, h => ⟨h, rfl, rfl⟩
  | x :: m, l, t, h => by
    rw [List.cons_append, List.takeWhile_cons] at h
    by_cases hx : (x != c) = true
    · rw [if_pos hx, List.cons_append, List.cons.injEq] at h
      obtain ⟨h1, h2, h3⟩ := tw_app c m l t h.2
      refine ⟨h1, ?_, ?_⟩
      · rw [List.cons_append, List.dropWhile_cons, if_pos hx, h2]
      · rw [List.cons_append, List.contains_cons, h3]
        have : (c == x) = false := by
          have := (bne_iff_ne.1 hx)
          simpa using fun e => this e.symm
        rw [this, Bool.false_or]
    · rw [if_neg hx, List.cons_append] at h
      cases h
/-- The part of a text behind its scheme: the same fragment. -/
theorem scheme_frag {l s r : List UInt8} (u : UrlS) (h : schemeS (segS 35 l).1 = some (s, r)) : fragS u (l.drop (s.length + 1)) = ((fragS u l).1, r) := by
  obtain ⟨m, h1, h2⟩ := scheme_form _ _ _ _ h
  have hs : s.length = m.length := by rw [h2]; unfold lower; simp
  have hl : l = l.takeWhile (· != 35) ++ l.dropWhile (· != 35) := (List.takeWhile_append_dropWhile).symm
  have h1' : l.takeWhile (· != 35) = (m ++ [58]) ++ r := by
    have : (segS 35 l).1 = l.takeWhile (· != 35) := rfl
    rw [← this, h1]; simp
  obtain ⟨y, hy⟩ : ∃ y, l = (m ++ [58]) ++ y := ⟨r ++ l.dropWhile (· != 35), by rw [← List.append_assoc, ← h1']; exact hl⟩
  have hd : l.drop (s.length + 1) = y := by
    rw [hy, hs]
    exact List.drop_left' (by simp)
  rw [hd]
  have ht := tw_app 35 (m ++ [58]) y r (by rw [← hy]; exact h1')
  unfold fragS segS
  simp only []
  rw [hy, ht.1, ht.2.1, ht.2.2]
/-- A text is joined: the document's way. -/
def joinX (l0 : List UInt8) (base : UrlS) : Except Int UrlS :=
  if 4096 < l0.length then .error 3 else
  match schemeS (fragS noUrl (cleanS l0)).2 with
  | some (s, r) => if specialS s = false ∨ s ≠ base.scheme ∨ twiceB r = true then parseC (cleanS l0) else relX (fragS base (cleanS l0)).1 r base
  | none => relX (fragS base (cleanS l0)).1 (fragS base (cleanS l0)).2 base
theorem joinX_is (l0 : List UInt8) (base : UrlS) : joinS l0 base = joinX l0 base := by
  unfold joinS joinX
  split
  · rfl
  · simp only []
    have e : (fragS noUrl (cleanS l0)).2 = (segS 35 (cleanS l0)).1 := rfl
    rw [e]
    cases hs : schemeS (segS 35 (cleanS l0)).1 with
    | none => exact relX_is _ _
    | some p =>
      obtain ⟨s, r⟩ := p
      simp only []
      rw [relX_is, scheme_frag base hs]
end Go.Proofs.YtbpkkgaaeodimaaGreatDoor
namespace Go.Proofs.YtbpkkgaaeodimaaGreatDoor
open Go.RowKit

/-! How long an address is. -/
def plen : List (List UInt8) → Nat
  | [] => 0
  | x :: r => x.length + 1 + plen r
def plen3 : List (List UInt8) → Nat
  | [] => 0
  | x :: r => 3 * x.length + 1 + plen3 r
theorem plen_app : ∀ a b, plen (a ++ b) = plen a + plen b
  | [], b => by simp [plen]
  | x :: a, b => by rw [List.cons_append, plen, plen, plen_app a b]; omega
theorem plen_init : ∀ l, plen l.dropLast ≤ plen l
  | [] => Nat.le_refl _
  | [_] => Nat.zero_le _
  | x :: y :: r => by rw [List.dropLast_cons_cons, plen, plen]; have := plen_init (y :: r); omega
theorem percent_len (k : Int) : ∀ l, (percent k l).length ≤ 3 * l.length
  | [] => by simp [percent]
  | x :: r => by
    have := percent_len k r
    rw [percent, List.length_append, List.length_cons]
    split
    · simp [esc]; omega
    · simp; omega
theorem path_len : ∀ (ls hv : List (List UInt8)), plen (pathF hv ls) ≤ plen hv + plen3 ls
  | [], hv => Nat.le_refl _
  | x :: r, hv => by
    rw [pathF, plen3]
    refine Nat.le_trans (path_len r _) ?_
    have h1 := percent_len 5 x
    have h2 := plen_init hv
    split
    · rw [plen_app, plen, plen]; omega
    · split
      · split
        · rw [plen_app, plen, plen, List.length_nil]; omega
        · rw [plen_app, plen, plen, List.length_nil]; omega
      · split <;> omega
theorem cut3 (c : Int) : ∀ (l acc : List UInt8), plen3 (cutS c acc l) ≤ 3 * acc.length + 3 * l.length + 1
  | [], acc => by simp [cutS, plen3]
  | x :: r, acc => by
    rw [cutS]
    split
    · have := cut3 c r []
      rw [plen3, List.length_cons]
      simp only [List.length_nil] at this
      omega
    · have := cut3 c r (acc ++ [x])
      rw [List.length_append, List.length_singleton] at this
      rw [List.length_cons]
      omega
theorem slashless_len (p : List UInt8) : (slashless p).length ≤ p.length := by
  unfold slashless
  split
  · rw [List.length_drop]; omega
  · exact Nat.le_refl _
theorem pathS_len (hv : List (List UInt8)) (p : List UInt8) : plen (pathS hv p) ≤ plen hv + 3 * p.length + 1 := by
  have h1 := path_len (cutS 47 [] (slashless p)) hv
  have h2 := cut3 47 (slashless p) []
  have h3 := slashless_len p
  unfold pathS
  simp only [List.length_nil] at h2
  omega
theorem unpercent_len : ∀ (n : Nat) (l : List UInt8), l.length ≤ n → (unpercent l).length ≤ l.length
  | _, [], _ => by simp [unpercent]
  | 0, x :: r, h => by simp at h
  | n + 1, x :: r, h => by
    by_cases hx : x = 37
    · subst hx
      match r, h with
      | [], h => simp [unpercent]
      | [a], h => rw [unp_short (by simp)]; simp [unpercent]
      | a :: b :: t, h =>
        simp only [List.length_cons] at h
        by_cases hy : 0 ≤ hexV a.toNat ∧ 0 ≤ hexV b.toNat
        · rw [unp_yes hy]
          have := unpercent_len n t (by omega)
          simp only [List.length_cons]; omega
        · rw [unp_no hy]
          have := unpercent_len n (a :: b :: t) (by simp only [List.length_cons]; omega)
          simp only [List.length_cons] at this ⊢; omega
    · rw [unp_other hx]
      simp only [List.length_cons] at h ⊢
      have := unpercent_len n r (by omega)
      omega
theorem named_len {t h : List UInt8} (hp : namedS t = some h) : h.length ≤ t.length + 15 := by
  unfold namedS at hp
  split at hp
  · split at hp
    · cases hf : fourS t with
      | none => rw [hf] at hp; cases hp
      | some v =>
        rw [hf] at hp
        simp only [Option.map_some, Option.some.injEq] at hp
        have hr := four_range hf
        have := text4_len v hr.1 hr.2
        rw [hp] at this
        omega
    · simp only [Option.some.injEq] at hp
      rw [hp]; omega
  · cases hp
theorem parse_len {l h : List UInt8} {sp : Bool} (hp : parseS l sp = some h) : h.length ≤ 3 * l.length + 45 := by
  unfold parseS at hp
  split at hp
  · split at hp
    · cases hx : sixS ((l.drop 1).take (l.length - 2)) with
      | none => rw [hx] at hp; cases hp
      | some xs =>
        rw [hx] at hp
        simp only [Option.map_some, Option.some.injEq] at hp
        have := text6_len (six_shape hx).2
        rw [← hp]
        simp
        omega
    · cases hp
  · split at hp
    · have h1 := named_len hp
      have h2 := unpercent_len _ l (Nat.le_refl _)
      rw [lower_len] at h1
      omega
    · split at hp
      · cases hp
      · simp only [Option.some.injEq] at hp
        have := percent_len 1 l
        rw [hp] at this
        omega
/-- How long an address is, but for its signs. -/
def slen (u : UrlS) : Nat := u.scheme.length + u.user.length + u.pass.length + u.host.length + plen u.path + u.query.length + u.frag.length
theorem seg_lenZ (c : UInt8) (l : List UInt8) : (segS c l).1.length + (segS c l).2.1.length ≤ l.length := by
  have h := congrArg List.length (List.takeWhile_append_dropWhile (p := (· != c)) (l := l))
  rw [List.length_append] at h
  unfold segS
  simp only [List.length_drop]
  omega
theorem query_len (u : UrlS) (l : List UInt8) (hq : u.query = []) : slen (queryS u l).1 ≤ slen u + 3 * (segS 63 l).2.1.length := by
  have := percent_len (setQ u.scheme) (segS 63 l).2.1
  unfold queryS slen
  rw [hq]
  simp only [List.length_nil]
  omega
theorem query_len2 (u : UrlS) (l : List UInt8) : slen (queryS u l).1 ≤ slen u + 3 * (segS 63 l).2.1.length := by
  have := percent_len (setQ u.scheme) (segS 63 l).2.1
  unfold queryS slen
  simp only []
  omega
theorem ahead_seg (l : List UInt8) : aheadQ l = (segS 63 l).1 := rfl
theorem rooted_len (u : UrlS) (l : List UInt8) : slen (rootedS u l) ≤ slen u + 3 * l.length + 1 := by
  have h := seg_lenZ 63 l
  rw [← ahead_seg] at h
  have h2 := pathS_len [] (aheadQ l)
  have e0 : plen [] = 0 := rfl
  unfold rootedS
  refine Nat.le_trans (query_len2 _ _) ?_
  split
  · unfold slen; simp only []; omega
  · unfold slen; simp only []; omega
theorem user_len (u : UrlS) (a : List UInt8) (h1 : u.user = []) (h2 : u.pass = []) : slen (userS u a).1 + 3 * (userS u a).2.length ≤ slen u + 3 * a.length := by
  unfold userS
  split
  · exact Nat.le_refl _
  · rename_i i _
    have h3 := seg_lenZ 58 (a.take i)
    have h4 := percent_len 6 (segS 58 (a.take i)).1
    have h5 := percent_len 6 (segS 58 (a.take i)).2.1
    unfold slen
    rw [h1, h2]
    simp only [List.length_nil, List.length_drop]
    rw [List.length_take] at h3
    omega
theorem ported_len (l : List UInt8) : (portedS l).1.length ≤ l.length := by
  unfold portedS
  split
  · exact Nat.le_refl _
  · simp only [List.length_take]; omega
theorem auth_len {u v : UrlS} {a : List UInt8} (h1 : u.user = []) (h2 : u.pass = []) (h3 : u.host = []) (h : authS u a = .ok v) : slen v ≤ slen u + 3 * a.length + 45 := by
  have hu := user_len u a h1 h2
  have hp := ported_len (userS u a).2
  have hh : (userS u a).1.host = [] := by unfold userS; split <;> exact h3
  unfold authS at h
  simp only [] at h
  split at h
  · cases h
  · split at h
    · cases h
    · rename_i hx
      have := parse_len hx
      split at h
      · cases h
      · simp only [Except.ok.injEq] at h
        rw [← h]
        unfold slen at hu ⊢
        rw [hh] at hu
        simp only [List.length_nil] at hu ⊢
        omega
theorem tw_len (p : UInt8 → Bool) (l : List UInt8) : (l.takeWhile p).length + (l.dropWhile p).length = l.length := by
  have h := congrArg List.length (List.takeWhile_append_dropWhile (p := p) (l := l))
  rw [List.length_append] at h
  exact h
theorem behind_len {u v : UrlS} {l : List UInt8} (h1 : u.user = []) (h2 : u.pass = []) (h3 : u.host = []) (h : behindS u l = .ok v) : slen v ≤ slen u + 3 * l.length + 46 := by
  unfold behindS at h
  split at h
  · cases h
  · rename_i x hx
    simp only [Except.ok.injEq] at h
    have ha := auth_len h1 h2 h3 hx
    have hr := rooted_len x (l.dropWhile fun x => !stopB x)
    have ht := tw_len (fun x => !stopB x) l
    rw [← h]
    omega
theorem slash_lenZ : ∀ l, (slashS l).length = l.length
  | [] => rfl
  | x :: r => by
    rw [slashS]
    split
    · rfl
    · rw [List.length_cons, List.length_cons, slash_lenZ r]
theorem all_len {u v : UrlS} {l : List UInt8} (h1 : u.user = []) (h2 : u.pass = []) (h3 : u.host = []) (h : allS u l = .ok v) : slen v ≤ slen u + 3 * l.length + 46 := by
  unfold allS at h
  simp only [] at h
  split at h
  · have := behind_len (u := { u with port := -1 }) h1 h2 h3 h
    have h4 := tw_len (· == 47) (slashS l)
    rw [slash_lenZ] at h4
    have e : slen { u with port := -1 } = slen u := rfl
    omega
  · split at h
    · have := behind_len (u := { u with port := -1 }) h1 h2 h3 h
      have e : slen { u with port := -1 } = slen u := rfl
      rw [List.length_drop] at this
      omega
    · split at h
      · simp only [Except.ok.injEq] at h
        have := rooted_len { u with port := -1 } l
        have e : slen { u with port := -1 } = slen u := rfl
        rw [← h]
        omega
      · simp only [Except.ok.injEq] at h
        have h4 := query_len2 { u with port := -1 } l
        have h5 := seg_lenZ 63 l
        have h6 := percent_len 1 (aheadQ l)
        rw [← ahead_seg] at h5
        rw [← h]
        generalize (queryS { u with port := -1 } l).1 = q at *
        have e : slen { u with port := -1 } = slen u := rfl
        unfold slen at h4 e ⊢
        simp only [plen] at h4 e ⊢
        omega
theorem frag_len (l : List UInt8) : slen (fragS noUrl l).1 ≤ 3 * (segS 35 l).2.1.length := by
  have := percent_len 2 (segS 35 l).2.1
  unfold fragS slen noUrl
  simp only [plen, List.length_nil]
  omega
theorem scheme_len {l s r : List UInt8} (h : schemeS l = some (s, r)) : s.length + 1 + r.length = l.length := by
  obtain ⟨m, h1, h2⟩ := scheme_form _ _ _ _ h
  rw [h1, h2, lower_len]
  simp
  omega
theorem parseC_len {l : List UInt8} {u : UrlS} (h : parseC l = .ok u) : slen u ≤ 3 * l.length + 46 := by
  unfold parseC at h
  split at h
  · cases h
  · rename_i s r hs
    have h1 := scheme_len hs
    have h2 := frag_len l
    have h3 := seg_lenZ 35 l
    have h4 := all_len (u := { (fragS noUrl l).1 with scheme := s }) rfl rfl rfl h
    have e : (fragS noUrl l).2 = (segS 35 l).1 := rfl
    rw [e] at h1
    have e2 : slen { (fragS noUrl l).1 with scheme := s } = slen (fragS noUrl l).1 + s.length := by
      unfold slen fragS noUrl
      simp only [List.length_nil]
      omega
    omega
theorem rstrip_len (p : UInt8 → Bool) (l : List UInt8) : (rstrip p l).length ≤ l.length := by
  unfold rstrip
  rw [List.length_reverse]
  have := tw_len p l.reverse
  rw [List.length_reverse] at this
  omega
theorem clean_len (l : List UInt8) : (cleanS l).length ≤ l.length := by
  unfold cleanS trimS
  refine Nat.le_trans (List.length_filter_le _ _) (Nat.le_trans (rstrip_len _ _) ?_)
  have := tw_len blankB l
  omega
theorem url_len {l : List UInt8} {u : UrlS} (h : urlS l = .ok u) : slen u ≤ 3 * l.length + 46 := by
  unfold urlS at h
  split at h
  · cases h
  · have h1 := parseC_len h
    have h2 := clean_len l
    omega
theorem frag_len2 (u : UrlS) (l : List UInt8) : slen (fragS u l).1 + u.frag.length ≤ slen u + 3 * (segS 35 l).2.1.length := by
  have := percent_len 2 (segS 35 l).2.1
  unfold fragS slen
  simp only []
  omega
theorem slen_path (u : UrlS) (p : List (List UInt8)) : slen { u with path := p } + plen u.path = slen u + plen p := by
  unfold slen
  simp only []
  omega
theorem relX_len {u0 v base : UrlS} {x : List UInt8} (h0 : u0.path = base.path) (hs : u0.scheme = base.scheme) (h : relX u0 x base = .ok v) : slen v ≤ slen u0 + 3 * x.length + 46 := by
  unfold relX at h
  split at h
  · cases h
  · simp only [] at h
    generalize hl : (if specialS base.scheme = true then slashS x else x) = y at h
    have hy : y.length = x.length := by
      rw [← hl]; split
      · exact slash_lenZ x
      · rfl
    split at h
    · have h1 := behind_len rfl rfl rfl h
      have h2 : (if specialS base.scheme = true then (y.drop 2).dropWhile (· == 47) else y.drop 2).length ≤ y.length := by
        have := tw_len (· == 47) (y.drop 2)
        split <;> rw [List.length_drop] at * <;> omega
      have h3 : slen ⟨base.scheme, noUrl.user, noUrl.pass, noUrl.host, noUrl.hasHost, noUrl.port, noUrl.opaq, noUrl.path, noUrl.query, u0.frag, noUrl.hasQuery, u0.hasFrag⟩ ≤ slen u0 := by
        unfold slen noUrl
        rw [hs]
        simp only [plen, List.length_nil]
        omega
      omega
    · split at h
      · simp only [Except.ok.injEq] at h
        rw [← h]; omega
      · split at h
        · simp only [Except.ok.injEq] at h
          have := rooted_len u0 y
          rw [← h]; omega
        · have h5 := seg_lenZ 63 y
          rw [← ahead_seg] at h5
          split at h
          · simp only [Except.ok.injEq] at h
            have := query_len2 u0 y
            rw [← h]; omega
          · simp only [Except.ok.injEq] at h
            have h6 := query_len2 { u0 with path := pathF base.path.dropLast (cutS 47 [] (aheadQ y)) } y
            have h7 := path_len (cutS 47 [] (aheadQ y)) base.path.dropLast
            have h8 := plen_init base.path
            have h9 := cut3 47 (aheadQ y) []
            have h10 := slen_path u0 (pathF base.path.dropLast (cutS 47 [] (aheadQ y)))
            rw [h0] at h10
            simp only [List.length_nil] at h9
            rw [← h]; omega
theorem join_len {l : List UInt8} {base v : UrlS} (h : joinS l base = .ok v) : slen v ≤ slen base + 3 * l.length + 46 := by
  rw [joinX_is] at h
  unfold joinX at h
  have hc := clean_len l
  have hf := frag_len2 base (cleanS l)
  have hg := seg_lenZ 35 (cleanS l)
  split at h
  · cases h
  · split at h
    · rename_i s r hs
      split at h
      · have := parseC_len h; omega
      · have h1 := relX_len (base := base) (u0 := (fragS base (cleanS l)).1) rfl rfl h
        have h2 := scheme_len hs
        have e : (fragS noUrl (cleanS l)).2 = (segS 35 (cleanS l)).1 := rfl
        rw [e] at h2
        omega
    · have h1 := relX_len (base := base) (u0 := (fragS base (cleanS l)).1) rfl rfl h
      have e : (fragS base (cleanS l)).2 = (segS 35 (cleanS l)).1 := rfl
      rw [e] at h1
      omega
theorem flat_len (b : Bool) : ∀ l : List (List UInt8), (l.flatMap (fun x => if b = true then x else 47 :: x)).length ≤ plen l
  | [] => Nat.le_refl _
  | x :: r => by
    have := flat_len b r
    rw [List.flatMap_cons, List.length_append, plen]
    have h2 : (if b = true then x else 47 :: x).length ≤ x.length + 1 := by split <;> simp
    omega
theorem text_len (u : UrlS) : (textS u).length ≤ slen u + 10 + (Lib.itoa u.port).length := by
  have h := flat_len u.opaq u.path
  unfold textS bareS slen
  simp only [List.length_append]
  have h1 : (if u.hasHost = true then [47, 47] ++ u.user ++ (if u.pass ≠ [] then 58 :: u.pass else []) ++ (if u.user ≠ [] ∨ u.pass ≠ [] then [64] else []) ++ u.host ++ (if u.port ≠ -1 then 58 :: Lib.itoa u.port else []) else []).length ≤ u.user.length + u.pass.length + u.host.length + (Lib.itoa u.port).length + 5 := by
    split
    · simp only [List.length_append]
      have a1 : (if u.pass ≠ [] then (58 : UInt8) :: u.pass else []).length ≤ u.pass.length + 1 := by split <;> simp
      have a2 : (if u.user ≠ [] ∨ u.pass ≠ [] then [(64 : UInt8)] else []).length ≤ 1 := by split <;> simp
      have a3 : (if u.port ≠ -1 then (58 : UInt8) :: Lib.itoa u.port else []).length ≤ (Lib.itoa u.port).length + 1 := by split <;> simp
      simp only [List.length_cons, List.length_nil]
      omega
    · simp
  have h2 : (if u.hasHost = false ∧ u.opaq = false ∧ 1 < u.path.length ∧ u.path.head? = some [] then ([47, 46] : List UInt8) else []).length ≤ 2 := by split <;> simp
  have h3 : (if u.hasQuery = true then (63 : UInt8) :: u.query else []).length ≤ u.query.length + 1 := by split <;> simp
  have h4 : (if u.hasFrag = true then (35 : UInt8) :: u.frag else []).length ≤ u.frag.length + 1 := by split <;> simp
  simp only [List.length_cons, List.length_nil]
  omega
end Go.Proofs.YtbpkkgaaeodimaaGreatDoor
