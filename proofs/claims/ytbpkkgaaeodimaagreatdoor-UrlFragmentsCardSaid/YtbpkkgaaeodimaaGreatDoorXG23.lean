import Derived.Test.YtbpkkgaaeodimaaGreatDoorXG21
import Derived.Test.YtbpkkgaaeodimaaGreatDoorXG14
import Derived.Test.YtbpkkgaaeodimaaGreatDoorXG16
import Derived.Test.YtbpkkgaaeodimaaGreatDoorXG22
import Derived.Test.YtbpkkgaaeodimaaGreatDoorXG20
import Derived.Test.YtbpkkgaaeodimaaGreatDoorXG15
import Derived.Test.YtbpkkgaaeodimaaGreatDoorXG08
import Derived.Deep.MidRow
import Derived.Laws.ResultCell
namespace Go.Proofs.YtbpkkgaaeodimaaGreatDoor
open Go.RowKit

/-! The document's authority. -/
def lastF (i : Nat) (o : Option Nat) : List UInt8 → Option Nat
  | [] => o
  | x :: r => lastF (i + 1) (if x = 64 then some i else o) r
theorem lastF_no : ∀ (l : List UInt8) (i : Nat) (o : Option Nat), (∀ x ∈ l, x ≠ 64) → lastF i o l = o
  | [], _, _, _ => rfl
  | x :: r, i, o, h => by rw [lastF, if_neg (h x List.mem_cons_self), lastF_no r _ _ (fun y hy => h y (List.mem_cons_of_mem _ hy))]
theorem lastF_at : ∀ (a b : List UInt8) (i : Nat) (o : Option Nat), (∀ x ∈ b, x ≠ 64) → lastF i o (a ++ 64 :: b) = some (i + a.length)
  | [], b, i, o, h => by rw [List.nil_append, lastF, if_pos rfl, lastF_no b _ _ h]; rfl
  | x :: a, b, i, o, h => by rw [List.cons_append, lastF, lastF_at a b _ _ h, List.length_cons]; congr 1; omega
theorem last_split : ∀ l : List UInt8, (64 : UInt8) ∈ l → ∃ a b, l = a ++ 64 :: b ∧ ∀ x ∈ b, x ≠ 64
  | x :: r, h => by
    by_cases hr : (64 : UInt8) ∈ r
    · obtain ⟨a, b, e, hb⟩ := last_split r hr
      exact ⟨x :: a, b, by rw [e]; rfl, hb⟩
    · rcases List.mem_cons.1 h with h | h
      · exact ⟨[], r, by rw [← h]; rfl, fun y hy e => hr (e ▸ hy)⟩
      · exact absurd h hr
theorem lastF_is (l : List UInt8) : lastF 0 none l = lastAt l := by
  by_cases h : (64 : UInt8) ∈ l
  · obtain ⟨a, b, e, hb⟩ := last_split l h
    rw [e, lastF_at a b _ _ hb, lastAt_is a b hb, Nat.zero_add]
  · have : ∀ x ∈ l, x ≠ 64 := fun x hx e => h (e ▸ hx)
    rw [lastF_no l _ _ this, lastAt_no this]
theorem colon_step (inn : Bool) (i : Nat) (o : Option Nat) (x : UInt8) (r : List UInt8) : colonF inn i o (x :: r) = colonF (if x = 91 then true else if x = 93 then false else inn) (i + 1) (if x = 58 ∧ inn = false then some i else o) r := by
  cases inn
  · rw [colonF, if_neg Bool.false_ne_true]
    by_cases h1 : x = 91
    · rw [if_pos h1, if_pos h1, if_neg (fun h => by rw [h1] at h; exact absurd h.1 (by decide))]
    · rw [if_neg h1, if_neg h1]
      have : (if x = 93 then false else false) = false := by split <;> rfl
      rw [this]
      by_cases h2 : x = 58
      · rw [if_pos h2, if_pos ⟨h2, rfl⟩]
      · rw [if_neg h2, if_neg (fun h => h2 h.1)]
  · have ho : (if x = 58 ∧ true = false then some i else o) = o := if_neg (fun h => by cases h.2)
    have hi : (if x = 91 then true else if x = 93 then false else true) = (x != 93) := by
      by_cases h1 : x = 91
      · rw [if_pos h1, h1]; rfl
      · rw [if_neg h1]
        by_cases h2 : x = 93
        · rw [if_pos h2, h2]; rfl
        · rw [if_neg h2]; simpa using h2
    rw [colonF, if_pos rfl, ho, hi]
/-- What is answered: a number and an address. -/
def Res (o : Except Int UrlS) (E : Int) (f : UrlS) : Prop := match o with
  | .ok v => E = 0 ∧ f = v
  | .error x => E = x
theorem auth_11 {u : UrlS} {a : List UInt8} (h : portS u.scheme (portedS (userS u a).2).2 = none) : authS u a = .error 11 := by
  unfold authS; simp only []; rw [h]
theorem auth_10 {u : UrlS} {a : List UInt8} {n : Int} (h : portS u.scheme (portedS (userS u a).2).2 = some n) (h2 : parseS (portedS (userS u a).2).1 (specialS u.scheme) = none) : authS u a = .error 10 := by
  unfold authS; simp only []; rw [h]; simp only []; rw [h2]
theorem auth_10b {u : UrlS} {a t : List UInt8} {n : Int} (h : portS u.scheme (portedS (userS u a).2).2 = some n) (h2 : parseS (portedS (userS u a).2).1 (specialS u.scheme) = some t)
    (h3 : t = [] ∧ ((userS u a).1.user ≠ [] ∨ (userS u a).1.pass ≠ [] ∨ (portedS (userS u a).2).2 ≠ [])) : authS u a = .error 10 := by
  unfold authS; simp only []; rw [h]; simp only []; rw [h2]; simp only []; rw [if_pos h3]
theorem auth_ok {u : UrlS} {a t : List UInt8} {n : Int} (h : portS u.scheme (portedS (userS u a).2).2 = some n) (h2 : parseS (portedS (userS u a).2).1 (specialS u.scheme) = some t)
    (h3 : ¬ (t = [] ∧ ((userS u a).1.user ≠ [] ∨ (userS u a).1.pass ≠ [] ∨ (portedS (userS u a).2).2 ≠ []))) : authS u a = .ok { (userS u a).1 with port := n, host := t, hasHost := true } := by
  unfold authS; simp only []; rw [h]; simp only []; rw [h2]; simp only []; rw [if_neg h3]
theorem user_none {u : UrlS} {a : List UInt8} (h : lastAt a = none) : userS u a = (u, a) := by unfold userS; rw [h]
theorem user_some {u : UrlS} {a : List UInt8} {i : Nat} (h : lastAt a = some i) : userS u a = ({ u with user := percent 6 (segS 58 (a.take i)).1, pass := percent 6 (segS 58 (a.take i)).2.1 }, a.drop (i + 1)) := by unfold userS; rw [h]
theorem user_scheme (u : UrlS) (a : List UInt8) : (userS u a).1.scheme = u.scheme := by
  unfold userS; split <;> rfl
theorem intF_rng : ∀ (l : List UInt8) (n v : Int), 0 ≤ n → n ≤ 9223372036854775807 → intF n l = some v → 0 ≤ v ∧ v ≤ 9223372036854775807
  | [], n, v, h0, h1, h => by rw [intF] at h; injection h with h; omega
  | x :: r, n, v, h0, h1, h => by
    rw [intF] at h
    split at h
    · rename_i hd
      unfold isDigit at hd
      simp only [decide_eq_true_eq] at hd
      refine intF_rng r _ v ?_ ?_ h
      · unfold intN; split <;> omega
      · unfold intN; split <;> omega
    · cases h
theorem int_range (l : List UInt8) : 0 ≤ (intS l).1 ∧ (intS l).1 ≤ 9223372036854775807 := by
  unfold intS
  cases h : intF 0 l with
  | none => simp
  | some v => exact intF_rng l 0 v (by omega) (by omega) h
set_option maxHeartbeats 4000000 in
set_option maxRecDepth 100000 in
theorem ref3_authority (g : Nat) (c : UrlC) (p : List (List UInt8)) (s : ByteArray) (w0 w : World) (hs : s.size ≤ 1000000) (HR : Hid (Rd w0 w g c [] w)) :
    Calls Tryz.prog 106 #[.pointer (some ⟨g, 0, none⟩), .string s] w fun e w' => ∃ E c', e = .returned (.int .i64 E) ∧ Hid (Res (authS (c.flat p) (bl s)) E (c'.flat p)) ∧ c'.path = c.path ∧ Hid (Rd w0 w g c' [] w') := by
  go_enter Tryz.func106, Tryz.ntmps106
  go_wp2
  go_loopg [5, 6] s.size (fun g' v5 v6 wr => ∃ (k : Nat) (o : Option Nat), v6 = .int .i64 k ∧ k + g' = s.size ∧ v5 = .int .i64 (atI o) ∧ Hid (lastF k o ((bl s).drop k) = lastAt (bl s)) ∧ (∀ j, o = some j → j < k) ∧ w = wr)
  case atStart => exact ⟨0, none, rfl, by omega, rfl, by unfold Hid; rw [List.drop_zero, lastF_is], (fun j hj => by cases hj), rfl⟩
  case round =>
    obtain ⟨k, o, rfl, hk, rfl, HF, ho, rfl⟩ := hrel
    by_cases hlt : k < s.size
    · have HG := HF.out
      rw [bl_drop s k hlt, lastF] at HG
      replace HG := Lib.hid HG
      clear HF
      have hu := u8_iff s[k] 64
      by_cases h64 : s[k] = 64
      · have hq : ((s[k].toNat : Int) == 64) = true := hu.2 h64
        rw [if_pos h64] at HG
        clear hu
        go_wp2
        go_roundg (gk - 1)
        case measure => omega
        case rel => exact ⟨k + 1, some k, by go_num, by omega, rfl, HG, (fun j hj => by simp only [Option.some.injEq] at hj; omega), rfl⟩
      · have hq : ((s[k].toNat : Int) == 64) = false := by
          rw [Bool.eq_false_iff]; exact fun e => h64 (hu.1 e)
        rw [if_neg h64] at HG
        clear hu
        go_wp2
        go_roundg (gk - 1)
        case measure => omega
        case rel => exact ⟨k + 1, o, by go_num, by omega, rfl, HG, (fun j hj => by have := ho j hj; omega), rfl⟩
    · have hge : ¬ (k : Int) < s.size := by omega
      have HL : Hid (lastAt (bl s) = o) := by
        have := HF.out
        rw [bl_drop_end s k (by omega), lastF] at this
        exact this.symm
      clear HF
      have hoz : ∀ j, o = some j → j < s.size := fun j hj => by have := ho j hj; omega
      go_upto_if 31 with (fail)
      go_cut [1] (fun v1 wc => ∃ (t : ByteArray) (c1 : UrlC), v1 = .string t ∧ t.size ≤ s.size ∧ Hid (userS (c.flat p) (bl s) = (c1.flat p, bl t)) ∧ c1.path = c.path ∧ c1.scheme = c.scheme ∧ Hid (Rd w0 w g c1 [] wc))
      case first =>
        cases o with
        | none =>
          have hat : atI none = -1 := rfl
          rw [hat]
          go_wp2
          go_meet
          exact ⟨s, c, rfl, Nat.le_refl _, user_none HL.out, rfl, rfl, HR⟩
        | some i =>
          have hat : atI (some i) = i := rfl
          rw [hat]
          have hi := hoz i rfl
          have h1 : (i : Int) ≤ s.size := by omega
          have h2 : (0 : Int) ≤ i := by omega
          have p1 : 0 ≤ (i : Int) + 1 := by omega
          have p2 : (i : Int) + 1 ≤ s.size := by omega
          have p3 : ((i : Int) + 1).toNat = i + 1 := by omega
          have e1 : IntKind.i64.wrap ((i : Int) + 1) = (i : Int) + 1 := IntWalk.i64_in _ (by omega)
          have hz1 : (s.extract 0 i).size ≤ 1000000 := by rw [ByteArray.size_extract]; omega
          have hz2 : (s.extract (i + 1) s.size).size ≤ s.size := by rw [ByteArray.size_extract]; omega
          have hb1 : bl (s.extract 0 i) = (bl s).take i := by rw [bl_extract]; simp
          have hb2 : bl (s.extract (i + 1) s.size) = (bl s).drop (i + 1) := bl_suf2 s (i + 1)
          have HB1 := Lib.hid hb1
          have HB2 := Lib.hid hb2
          clear hb1 hb2
          have HU := Lib.hid (user_some (u := c.flat p) HL.out)
          go_wp2_with (first | (go_at_call 66; go_must (refine (ref1_Part _ 58 _ hz1).mono ?_); rintro e w1 ⟨⟨a, b, rfl, ha, hb, haz, hbz⟩, HC1⟩; have HR1 := Lib.hid (HR.out.step HC1.out)))
          refine (ref1_pct a 6 _ (by omega)).mono ?_
          rintro e w2 ⟨⟨us, rfl, hus, _⟩, HC2⟩
          have HR2 := Lib.hid (HR1.out.step HC2.out)
          obtain ⟨_, ⟨d1, f1⟩, _⟩ := HR2.out.cells
          have HR3 := Lib.hid (HR2.out.put 1 (.string us) (c' := { c with user := us }) (ext' := []) rfl)
          go_wp2_with fail
          refine (ref1_pct b 6 _ (by omega)).mono ?_
          rintro e w3 ⟨⟨ps, rfl, hps, _⟩, HC3⟩
          have HR4 := Lib.hid (HR3.out.step HC3.out)
          obtain ⟨_, _, ⟨d2, f2⟩, _⟩ := HR4.out.cells
          have HR5 := Lib.hid (HR4.out.put 2 (.string ps) (c' := { c with user := us, pass := ps }) (ext' := []) rfl)
          go_wp2
          go_meet
          refine ⟨_, { c with user := us, pass := ps }, rfl, hz2, ?_, rfl, rfl, HR5⟩
          unfold Hid
          rw [HU.out, HB2.out, ← HB1.out, ← ha.out, ← hb.out, ← hus.out, ← hps.out]
          rfl
      case rest =>
        obtain ⟨t, c1, rfl, htz, HU, hcp, hcs, HR1⟩ := hcut
        have HCS := Lib.hid hcs
        clear hcs
        clear HR
        go_wp2
        go_loopg [10, 11, 12] t.size (fun g' v10 v11 v12 wr => ∃ (k : Nat) (o : Option Nat) (inn : Bool), v12 = .int .i64 k ∧ k + g' = t.size ∧ v10 = .int .i64 (atI o) ∧ v11 = .bool inn ∧ Hid (colonF inn k o ((bl t).drop k) = colonF false 0 none (bl t)) ∧ (∀ j, o = some j → j < k) ∧ wr = wc)
        case atStart => exact ⟨0, none, false, rfl, by omega, rfl, rfl, by unfold Hid; rw [List.drop_zero], (fun j hj => by cases hj), rfl⟩
        case round =>
          obtain ⟨k, o, inn, rfl, hk, rfl, rfl, HF, ho, rfl⟩ := hrel
          by_cases hlt : k < t.size
          · have HG := HF.out
            rw [bl_drop t k hlt, colon_step] at HG
            replace HG := Lib.hid HG
            clear HF
            have u1 := u8_iff t[k] 91
            have u2 := u8_iff t[k] 93
            have u3 := u8_iff t[k] 58
            by_cases h91 : t[k] = 91
            · have hq : ((t[k].toNat : Int) == 91) = true := u1.2 h91
              rw [if_pos h91, if_neg (by rw [h91]; exact fun h => absurd h.1 (by decide))] at HG
              clear u1 u2 u3
              go_wp2
              go_roundg (gk - 1)
              case measure => omega
              case rel => exact ⟨k + 1, o, true, by go_num, by omega, rfl, rfl, HG, (fun j hj => by have := ho j hj; omega), rfl⟩
            · have hq : ((t[k].toNat : Int) == 91) = false := by rw [Bool.eq_false_iff]; exact fun e => h91 (u1.1 e)
              rw [if_neg h91] at HG
              by_cases h93 : t[k] = 93
              · have hq2 : ((t[k].toNat : Int) == 93) = true := u2.2 h93
                rw [if_pos h93, if_neg (by rw [h93]; exact fun h => absurd h.1 (by decide))] at HG
                clear u1 u2 u3
                go_wp2
                go_roundg (gk - 1)
                case measure => omega
                case rel => exact ⟨k + 1, o, false, by go_num, by omega, rfl, rfl, HG, (fun j hj => by have := ho j hj; omega), rfl⟩
              · have hq2 : ((t[k].toNat : Int) == 93) = false := by rw [Bool.eq_false_iff]; exact fun e => h93 (u2.1 e)
                rw [if_neg h93] at HG
                by_cases h58 : t[k] = 58
                · have hq3 : ((t[k].toNat : Int) == 58) = true := u3.2 h58
                  clear u1 u2 u3
                  cases inn
                  · rw [if_pos ⟨h58, rfl⟩] at HG
                    go_wp2
                    go_roundg (gk - 1)
                    case measure => omega
                    case rel => exact ⟨k + 1, some k, false, by go_num, by omega, rfl, rfl, HG, (fun j hj => by simp only [Option.some.injEq] at hj; omega), rfl⟩
                  · rw [if_neg (fun h => by cases h.2)] at HG
                    go_wp2
                    go_roundg (gk - 1)
                    case measure => omega
                    case rel => exact ⟨k + 1, o, true, by go_num, by omega, rfl, rfl, HG, (fun j hj => by have := ho j hj; omega), rfl⟩
                · have hq3 : ((t[k].toNat : Int) == 58) = false := by rw [Bool.eq_false_iff]; exact fun e => h58 (u3.1 e)
                  rw [if_neg (fun h => h58 h.1)] at HG
                  clear u1 u2 u3
                  go_wp2
                  go_roundg (gk - 1)
                  case measure => omega
                  case rel => exact ⟨k + 1, o, inn, by go_num, by omega, rfl, rfl, HG, (fun j hj => by have := ho j hj; omega), rfl⟩
          · have hge : ¬ (k : Int) < t.size := by omega
            have HL : Hid (portedS (bl t) = ptF (bl t) o) := by
              have := HF.out
              rw [bl_drop_end t k (by omega), colonF] at this
              unfold Hid portedS
              rw [← this]
              cases o <;> rfl
            clear HF
            have hoz : ∀ j, o = some j → j < t.size := fun j hj => by have := ho j hj; omega
            obtain ⟨_, _, _, _, _, ⟨c5, f5⟩, _⟩ := HR1.out.cells
            have HR2 := Lib.hid (HR1.out.put 5 (.int .i64 (-1)) (c' := { c1 with port := -1 }) (ext' := []) rfl)
            obtain ⟨⟨e0, _⟩, _, _, _, _, ⟨e5, h5⟩, _⟩ := HR2.out.cells
            go_upto_if 76 with (fail)
            have HWW : Hid (wr = wr) := rfl
            go_cut [1, 13] (fun v1 v13 wc => ∃ (n : ByteArray) (port : Int) (told : Bool), v1 = .string n ∧ v13 = .bool told ∧ n.size ≤ s.size ∧ Hid (bl n = (portedS (bl t)).1) ∧ Hid (portS (bl c.scheme) (portedS (bl t)).2 = some port) ∧ Hid (told = true ↔ (portedS (bl t)).2 ≠ []) ∧ Hid (Rd w0 w g { c1 with port := port } [] wc))
            case first =>
              cases o with
              | none =>
                have hat : atI none = -1 := rfl
                rw [hat]
                go_wp2
                go_meet
                exact ⟨t, -1, false, rfl, rfl, htz, by unfold Hid; rw [HL.out]; rfl, by unfold Hid; rw [HL.out]; rfl, by unfold Hid; rw [HL.out]; simp [ptF], HR2⟩
              | some i =>
                have hat : atI (some i) = i := rfl
                rw [hat]
                have hi := hoz i rfl
                have h1 : (i : Int) ≤ t.size := by omega
                have h2 : (0 : Int) ≤ i := by omega
                have p1 : 0 ≤ (i : Int) + 1 := by omega
                have p2 : (i : Int) + 1 ≤ t.size := by omega
                have p3 : ((i : Int) + 1).toNat = i + 1 := by omega
                have e1 : IntKind.i64.wrap ((i : Int) + 1) = (i : Int) + 1 := IntWalk.i64_in _ (by omega)
                have hz1 : (t.extract 0 i).size ≤ s.size := by rw [ByteArray.size_extract]; omega
                have hz2 : (t.extract (i + 1) t.size).size ≤ 1000000 := by rw [ByteArray.size_extract]; omega
                have hb1 : bl (t.extract 0 i) = (bl t).take i := by rw [bl_extract]; simp
                have hb2 : bl (t.extract (i + 1) t.size) = (bl t).drop (i + 1) := bl_suf2 t (i + 1)
                have HN : Hid (bl (t.extract 0 i) = (portedS (bl t)).1) := by unfold Hid; rw [HL.out, hb1]; rfl
                have HM : Hid ((portedS (bl t)).2 = bl (t.extract (i + 1) t.size)) := by unfold Hid; rw [HL.out, hb2]; rfl
                clear hb1 hb2 HL
                by_cases hm : bl (t.extract (i + 1) t.size) = []
                · have he : ((t.extract (i + 1) t.size).toList == ([] : List UInt8)) = true := by rw [toList_bl]; simpa using hm
                  have HM0 := Lib.hid hm
                  clear hm
                  go_wp2
                  go_meet
                  exact ⟨_, -1, false, rfl, rfl, hz1, HN, by unfold Hid; rw [HM.out, HM0.out]; rfl, by unfold Hid; rw [HM.out, HM0.out]; simp, HR2⟩
                · have he : ((t.extract (i + 1) t.size).toList == ([] : List UInt8)) = false := by rw [toList_bl]; simpa using hm
                  have HM0 := Lib.hid hm
                  clear hm
                  have HPS : Hid (portS (bl c.scheme) (portedS (bl t)).2 = if (intS (bl (t.extract (i + 1) t.size))).2 = true ∧ (intS (bl (t.extract (i + 1) t.size))).1 ≤ 65535 then some (if (intS (bl (t.extract (i + 1) t.size))).1 = ownS (bl c.scheme) then -1 else (intS (bl (t.extract (i + 1) t.size))).1) else none) := by
                    unfold Hid portS
                    rw [HM.out, if_neg HM0.out]
                  have HTD : Hid ((portedS (bl t)).2 ≠ []) := by unfold Hid; rw [HM.out]; exact HM0.out
                  have HIN := fun W => ref1_Int (t.extract (i + 1) t.size) W (by omega)
                  have hrg : 0 ≤ (intS (bl (t.extract (i + 1) t.size))).1 ∧ (intS (bl (t.extract (i + 1) t.size))).1 ≤ 9223372036854775807 := int_range _
                  generalize (intS (bl (t.extract (i + 1) t.size))).1 = n at *
                  generalize (intS (bl (t.extract (i + 1) t.size))).2 = ok at *
                  have h11 : portS (bl c.scheme) (portedS (bl t)).2 = none → authS (c.flat p) (bl s) = .error 11 := fun h => auth_11 (by rw [HU.out]; exact h)
                  have H11 := Lib.hid h11
                  clear h11
                  have HOW : Hid ((n == ownS (bl c1.scheme)) = decide (n = ownS (bl c.scheme))) := by unfold Hid; rw [HCS.out]; rfl
                  by_cases hgood : ok = true ∧ n ≤ 65535
                  · obtain ⟨rfl, hn⟩ := hgood
                    rw [if_pos ⟨rfl, hn⟩] at HPS
                    have HR3 := Lib.hid (HR2.out.put 5 (.int .i64 n) (c' := { c1 with port := n }) (ext' := []) rfl)
                    obtain ⟨⟨k0, _⟩, _, _, _, _, ⟨k5, l5⟩, _⟩ := HR3.out.cells
                    have hn1 : IntKind.i64.wrap n = n := IntWalk.i64_in _ (by omega)
                    go_upto_region 36 with ((go_at_call 129; go_must (refine (HIN _).mono ?_); rintro e w' ⟨rfl, rfl⟩))
                    have HK := Lib.hid (And.intro k5 k0)
                    go_region_held3 (fun w' => w'.cell? ⟨g, 5, none⟩ = some (.int .i64 n) ∧ w'.cell? ⟨g, 0, none⟩ = some (.string c1.scheme)) (exact HK.out)
                      (first | ((go_at_call 62; go_must (refine (ref3_Own _ _).mono ?_); rintro e w' ⟨rfl, rfl⟩)))
                    have HR4 := Lib.hid (HR3.out.step (bel_drew _))
                    generalize ((wr.setCell ⟨g, 5, none⟩ (.int .i64 (-1))).setCell ⟨g, 5, none⟩ (.int .i64 n)).drew = w4 at *
                    clear HR3 k0 k5 l5 HK
                    by_cases heq : n = ownS (bl c1.scheme)
                    · have hq : ((n == ownS (bl c1.scheme)) : Bool) = true := by simpa using heq
                      obtain ⟨_, _, _, _, _, ⟨m5, n5⟩, _⟩ := HR4.out.cells
                      have HR5 := Lib.hid (HR4.out.put 5 (.int .i64 (-1)) (c' := { c1 with port := -1 }) (ext' := []) rfl)
                      have HEQ := Lib.hid heq
                      clear heq
                      go_wp2
                      go_meet
                      exact ⟨_, -1, true, rfl, rfl, hz1, HN, by unfold Hid; rw [HPS.out, if_pos (by rw [← HCS.out]; exact HEQ.out)], ⟨fun _ => HTD.out, fun _ => rfl⟩, HR5⟩
                    · have hq : ((n == ownS (bl c1.scheme)) : Bool) = false := by simpa using heq
                      have HEQ := Lib.hid heq
                      clear heq
                      go_wp2
                      go_meet
                      exact ⟨_, n, true, rfl, rfl, hz1, HN, by unfold Hid; rw [HPS.out, if_neg (by rw [← HCS.out]; exact HEQ.out)], ⟨fun _ => HTD.out, fun _ => rfl⟩, HR4⟩
                  · have hnone : portS (bl c.scheme) (portedS (bl t)).2 = none := by rw [HPS.out, if_neg hgood]
                    have H12 := Lib.hid (H11.out hnone)
                    cases ok
                    · go_wp2_with ((go_at_call 129; go_must (refine (HIN _).mono ?_); rintro e w' ⟨rfl, rfl⟩))
                      go_ret
                      exact ⟨11, { c1 with port := -1 }, rfl, by unfold Hid; rw [H12.out]; rfl, hcp, HR2⟩
                    · have hgt : 65535 < n := by
                        rcases Int.lt_or_le 65535 n with h | h
                        · exact h
                        · exact absurd ⟨rfl, h⟩ hgood
                      go_wp2_with ((go_at_call 129; go_must (refine (HIN _).mono ?_); rintro e w' ⟨rfl, rfl⟩))
                      go_ret
                      exact ⟨11, { c1 with port := -1 }, rfl, by unfold Hid; rw [H12.out]; rfl, hcp, HR2⟩
            case rest =>
              obtain ⟨n, port, told, rfl, rfl, hnz, HN, HPS, HT, HR3⟩ := hcut
              clear HR1 HR2 e0 e5 h5 c5 f5 HL
              obtain ⟨⟨k0, _⟩, _⟩ := HR3.out.cells
              have HSP : Hid (specialS (bl c1.scheme) = specialS (bl c.scheme)) := by unfold Hid; rw [HCS.out]
              go_wp2_with (first | (go_at_call 40; go_must (refine (ref3_Special _ _).mono ?_); rintro e w' ⟨rfl, rfl⟩; rw [HSP.out]))
              refine (ref2_Parse n _ _ (by omega) (Lib.hid HR3.out.envn)).mono ?_
              rintro e w5 ⟨⟨h, rfl, hh⟩, HB5⟩
              have HPO : Hid (parseS (bl n) (specialS (bl c.scheme)) = parseS (portedS (bl t)).1 (specialS (bl c.scheme))) := by unfold Hid; rw [HN.out]
              rw [HPO.out] at hh ⊢
              have HR6 := Lib.hid (HR3.out.step HB5.out)
              obtain ⟨_, ⟨k1, _⟩, ⟨k2, _⟩, ⟨k3, l3⟩, _⟩ := HR6.out.cells
              have e10 : parseS (portedS (bl t)).1 (specialS (bl c.scheme)) = none → authS (c.flat p) (bl s) = .error 10 := fun h => auth_10 (n := port) (by rw [HU.out]; exact HPS.out) (by rw [HU.out]; exact h)
              have e10b : ∀ x, parseS (portedS (bl t)).1 (specialS (bl c.scheme)) = some x → (x = [] ∧ (bl c1.user ≠ [] ∨ bl c1.pass ≠ [] ∨ told = true)) → authS (c.flat p) (bl s) = .error 10 := fun x h h2 => auth_10b (n := port) (t := x) (by rw [HU.out]; exact HPS.out) (by rw [HU.out]; exact h) (by rw [HU.out]; exact ⟨h2.1, h2.2.imp id (Or.imp id HT.out.1)⟩)
              have eok : ∀ x, parseS (portedS (bl t)).1 (specialS (bl c.scheme)) = some x → ¬ (x = [] ∧ (bl c1.user ≠ [] ∨ bl c1.pass ≠ [] ∨ told = true)) → authS (c.flat p) (bl s) = .ok { c1.flat p with port := port, host := x, hasHost := true } := fun x h h2 => by
                have := auth_ok (u := c.flat p) (a := bl s) (n := port) (t := x) (by rw [HU.out]; exact HPS.out) (by rw [HU.out]; exact h) (by rw [HU.out]; exact fun q => h2 ⟨q.1, q.2.imp id (Or.imp id HT.out.2)⟩)
                rw [this, HU.out]
              have E10 := Lib.hid e10
              have E10b := Lib.hid e10b
              have EOK := Lib.hid eok
              clear e10 e10b eok
              have hcu : ((c1.user.toList == ([] : List UInt8)) = true ∧ bl c1.user = []) ∨ ((c1.user.toList == ([] : List UInt8)) = false ∧ bl c1.user ≠ []) := by
                rw [toList_bl]
                by_cases h : bl c1.user = []
                · exact .inl ⟨by simpa using h, h⟩
                · exact .inr ⟨by simpa using h, h⟩
              have hcp2 : ((c1.pass.toList == ([] : List UInt8)) = true ∧ bl c1.pass = []) ∨ ((c1.pass.toList == ([] : List UInt8)) = false ∧ bl c1.pass ≠ []) := by
                rw [toList_bl]
                by_cases h : bl c1.pass = []
                · exact .inl ⟨by simpa using h, h⟩
                · exact .inr ⟨by simpa using h, h⟩
              clear HB5 HPO k0
              obtain ⟨o2, ho2⟩ : ∃ o2, parseS (portedS (bl t)).1 (specialS (bl c.scheme)) = o2 := ⟨_, rfl⟩
              rw [ho2] at hh ⊢
              rw [ho2] at E10 E10b EOK
              clear ho2 HPS HN HT HU HSP
              cases o2 with
              | none =>
                have E := Lib.hid (E10.out rfl)
                clear E10 E10b EOK
                go_wp2
                go_ret
                exact ⟨10, { c1 with port := port }, rfl, by unfold Hid; rw [E.out]; rfl, hcp, HR6⟩
              | some x =>
                obtain ⟨_, _, _, _, ⟨k4, l4⟩, _⟩ := HR6.out.cells
                have HR7 := Lib.hid ((HR6.out.put 3 (.string h) (c' := { c1 with port := port, host := h }) (ext' := []) rfl).put 4 (.bool true) (c' := { c1 with port := port, host := h, hasHost := true }) (ext' := []) rfl)
                have hhx : bl h = x := hh.out
                have hxx : ((h.toList == ([] : List UInt8)) = true ∧ x = []) ∨ ((h.toList == ([] : List UInt8)) = false ∧ x ≠ []) := by
                  rw [toList_bl, hhx]
                  by_cases h : x = []
                  · exact .inl ⟨by simpa using h, h⟩
                  · exact .inr ⟨by simpa using h, h⟩
                have HHX := Lib.hid hhx
                clear hhx hh E10
                rcases hxx with ⟨hx, hx2⟩ | ⟨hx, hx2⟩
                · rcases hcu with ⟨hu, hu2⟩ | ⟨hu, hu2⟩
                  · rcases hcp2 with ⟨hq, hq2⟩ | ⟨hq, hq2⟩
                    · cases told
                      · have E := Lib.hid (EOK.out x rfl (fun q => by rcases q.2 with q | q | q; exact q hu2; exact q hq2; cases q))
                        clear E10b EOK hx2 hu2 hq2
                        go_wp2
                        go_ret
                        exact ⟨0, { c1 with port := port, host := h, hasHost := true }, rfl, by unfold Hid; rw [E.out, ← HHX.out]; exact ⟨rfl, rfl⟩, hcp, HR7⟩
                      · have E := Lib.hid (E10b.out x rfl ⟨hx2, .inr (.inr rfl)⟩)
                        clear E10b EOK hx2 hu2 hq2
                        go_wp2
                        go_ret
                        exact ⟨10, { c1 with port := port }, rfl, by unfold Hid; rw [E.out]; rfl, hcp, HR6⟩
                    · have E := Lib.hid (E10b.out x rfl ⟨hx2, .inr (.inl hq2)⟩)
                      clear E10b EOK hx2 hu2 hq2
                      go_wp2
                      go_ret
                      exact ⟨10, { c1 with port := port }, rfl, by unfold Hid; rw [E.out]; rfl, hcp, HR6⟩
                  · have E := Lib.hid (E10b.out x rfl ⟨hx2, .inl hu2⟩)
                    clear E10b EOK hx2 hu2 hcp2
                    go_wp2
                    go_ret
                    exact ⟨10, { c1 with port := port }, rfl, by unfold Hid; rw [E.out]; rfl, hcp, HR6⟩
                · have E := Lib.hid (EOK.out x rfl (fun q => hx2 q.1))
                  clear E10b EOK hx2 hcu hcp2
                  go_wp2
                  go_ret
                  exact ⟨0, { c1 with port := port, host := h, hasHost := true }, rfl, by unfold Hid; rw [E.out, ← HHX.out]; exact ⟨rfl, rfl⟩, hcp, HR7⟩
end Go.Proofs.YtbpkkgaaeodimaaGreatDoor
namespace Go.Proofs.YtbpkkgaaeodimaaGreatDoor
open Go.RowKit

/-! The document's way to a whole address. -/
theorem Rd.path {w0 we w : World} {g : Nat} {c : UrlC} {ext : List Value} {v : Value} (h : Rd w0 we g c ext w) : Rd w0 we g { c with path := v } ext (w.setCell ⟨g, 7, none⟩ v) := h.put 7 v rfl
theorem stop_q (x : UInt8) : (!stop2 63 63 x) = (x != 63) := by
  unfold stop2; simp [bne]
theorem ahead_q (l : List UInt8) : (l.takeWhile fun z => !stop2 63 63 z) = aheadQ l := by
  unfold aheadQ
  congr 1
  funext x
  exact stop_q x
theorem stop_b (x : UInt8) : (!stop2 47 63 x) = (!stopB x) := by
  unfold stop2 stopB; rfl
theorem ahead_b (l : List UInt8) : (l.takeWhile fun z => !stop2 47 63 z) = l.takeWhile (fun x => !stopB x) ∧ (l.dropWhile fun z => !stop2 47 63 z) = l.dropWhile (fun x => !stopB x) := by
  have : (fun z => !stop2 47 63 z) = (fun x => !stopB x) := funext stop_b
  rw [this]; exact ⟨rfl, rfl⟩
set_option maxHeartbeats 1000000 in
set_option maxRecDepth 100000 in
theorem ref3_rest (g : Nat) (c : UrlC) (s : ByteArray) (w0 w : World) (hs : s.size ≤ 1000000) (HR : Hid (Rd w0 w g c [] w)) (h1 : c.hasQuery = false) (h2 : c.query = ⟨#[]⟩) (p : List (List UInt8)) :
    Calls Tryz.prog 75 #[.pointer (some ⟨g, 0, none⟩), .string s] w fun e w' => ∃ c' q, e = .returned (.tuple #[]) ∧ Hid (c'.flat q = rootedS (c.flat p) (bl s)) ∧ Hid (PathOwn w' w.heap.size g c'.path q) ∧ Hid (Rd w0 w g c' [] w') := by
  have hgw : g < w.heap.size := HR.out.row.1
  go_enter Tryz.func75, Tryz.ntmps75
  go_wp2_with fail
  refine (ref3_ahead s 63 63 _ hs).mono ?_
  rintro e w1 ⟨⟨a, b, rfl, ha, _, haz, _⟩, HB1⟩
  rw [ahead_q] at ha
  have HR1 := Lib.hid (HR.out.step HB1.out)
  have HQ := fun W (h : Hid (Rd w0 w g c [] W)) => ref3_query g c s w0 W hs (Lib.hid h.out.now) h1 h2
  go_wp2_with fail
  refine (HQ _ HR1).mono ?_
  rintro e w2 ⟨q, rfl, hq, HR2'⟩
  have HR2 := Lib.hid (HR1.out.next HR2'.out)
  obtain ⟨⟨k0, _⟩, _, _, _, _, _, _, ⟨k7, l7⟩, _⟩ := HR2.out.cells
  have HRT : Hid (rootedS (c.flat p) (bl s) = { c.flat p with path := if aheadQ (bl s) = [] ∧ specialS (bl c.scheme) = false then [] else pathS [] (aheadQ (bl s)), hasQuery := (segS 63 (bl s)).2.2, query := bl q }) := by
    unfold Hid rootedS
    rw [show specialS (c.flat p).scheme = specialS (bl c.scheme) from rfl]
    split
    · unfold queryS; rw [hq.out]; rfl
    · unfold queryS; rw [hq.out]; rfl
  obtain ⟨sp, hsp⟩ : ∃ sp, specialS (bl c.scheme) = sp := ⟨_, rfl⟩
  have HSP := Lib.hid hsp
  rw [hsp] at HRT
  clear hsp
  have HA := ha
  have hpre : (bl a = [] ∧ (a.toList == ([] : List UInt8)) = true) ∨ (bl a ≠ [] ∧ (a.toList == ([] : List UInt8)) = false ∧ 0 < a.size) := by
    rw [toList_bl]
    by_cases h : bl a = []
    · exact .inl ⟨h, by simpa using h⟩
    · refine .inr ⟨h, by simpa using h, ?_⟩
      rw [← bl_length]; exact List.length_pos_iff.2 h
  rcases hpre with ⟨h0, he⟩ | ⟨h0, he, hpos⟩
  · rw [← HA.out, h0] at HRT
    cases sp
    · rw [if_pos ⟨rfl, rfl⟩] at HRT
      have HR3 := Lib.hid (HR2.out.put 7 (.slice none 0 0) (c' := { c with query := q, hasQuery := (segS 63 (bl s)).2.2, path := .slice none 0 0 }) (ext' := []) rfl)
      go_wp2_with (first | (go_at_call 40; go_must (refine (ref3_Special _ _).mono ?_); rintro e w' ⟨rfl, rfl⟩; rw [HSP.out]))
      go_end0
      refine ⟨_, [], rfl, ?_, ?_, HR3⟩
      · unfold Hid; rw [HRT.out]; rfl
      · exact PathOwn.nil _ _ _
    · rw [if_neg (by simp)] at HRT
      have HO := Lib.hid (Own.one w2 w.heap.size ⟨#[]⟩ HR2.out.fr.size)
      have HR2a := Lib.hid (HR2.out.step ((Below.refl _ w2).alloc (Nat.le_refl _) (.cells #[.string ⟨#[]⟩] 9)))
      obtain ⟨_, _, _, _, _, _, _, ⟨m7, n7⟩, _⟩ := HR2a.out.cells
      have HR3 := Lib.hid (HR2a.out.put 7 (.slice (some ⟨w2.heap.size, 0, none⟩) 1 1) (c' := { c with query := q, hasQuery := (segS 63 (bl s)).2.2, path := .slice (some ⟨w2.heap.size, 0, none⟩) 1 1 }) (ext' := []) rfl)
      go_wp2_with (first | (go_at_call 40; go_must (refine (ref3_Special _ _).mono ?_); rintro e w' ⟨rfl, rfl⟩; rw [HSP.out]))
      go_end0
      refine ⟨_, [[]], rfl, ?_, ?_, HR3⟩
      · unfold Hid; rw [HRT.out]; rfl
      · exact (PathOwn.of HO.out hgw).fr (BelP.set _ _ rfl)
  · rw [if_neg (fun h => h0 (by rw [HA.out]; exact h.1))] at HRT
    have hx47 : ((a[0].toNat : Int) == 47) = (a[0] == 47) := u8_is a[0] 47 (by decide)
    have hbl : bl a = a[0] :: (bl a).drop 1 := by have := bl_drop a 0 hpos; simpa using this
    by_cases h47 : a[0] = 47
    · have hq2 : ((a[0].toNat : Int) == 47) = true := by rw [hx47, h47]; rfl
      have HPS : Hid (pathS [] (aheadQ (bl s)) = pathF [] (cutS 47 [] (bl (a.extract 1 a.size)))) := by
        unfold Hid
        rw [← HA.out, bl_suf2, hbl, h47, slash_path]; rfl
      have hz : (a.extract 1 a.size).size ≤ 1000000 := by rw [ByteArray.size_extract]; omega
      clear hx47 hbl
      go_wp2_with (first | (go_at_call 90; go_must (refine (ref3_path _ [] _ _ hz (by simp) (Lib.hid (Or.inl ⟨rfl, rfl⟩))).mono ?_); rintro e w3 ⟨⟨v, rfl, hv⟩, HB3⟩; have HR3 := Lib.hid (HR2.out.step HB3.out); obtain ⟨_, _, _, _, _, _, _, ⟨m7, n7⟩, _⟩ := HR3.out.cells; obtain ⟨A, c9, rfl⟩ := hv.out.shapeS))
      go_end0
      refine ⟨_, pathS [] (aheadQ (bl s)), rfl, ?_, ?_, HR3.out.path⟩
      · unfold Hid; rw [HRT.out]; rfl
      · unfold Hid; rw [HPS.out]; exact (PathOwn.of (hv.out.weak HR2.out.fr.size) hgw).fr (BelP.set _ _ rfl)
    · have hq2 : ((a[0].toNat : Int) == 47) = false := by rw [hx47]; simpa using h47
      have HPS : Hid (pathS [] (aheadQ (bl s)) = pathF [] (cutS 47 [] (bl a))) := by
        unfold Hid
        rw [← HA.out]
        exact pathS_plain _ (by rw [hbl]; simpa using h47)
      have hz : a.size ≤ 1000000 := by omega
      clear hx47 hbl
      go_wp2_with (first | (go_at_call 90; go_must (refine (ref3_path _ [] _ _ hz (by simp) (Lib.hid (Or.inl ⟨rfl, rfl⟩))).mono ?_); rintro e w3 ⟨⟨v, rfl, hv⟩, HB3⟩; have HR3 := Lib.hid (HR2.out.step HB3.out); obtain ⟨_, _, _, _, _, _, _, ⟨m7, n7⟩, _⟩ := HR3.out.cells; obtain ⟨A, c9, rfl⟩ := hv.out.shapeS))
      go_end0
      refine ⟨_, pathS [] (aheadQ (bl s)), rfl, ?_, ?_, HR3.out.path⟩
      · unfold Hid; rw [HRT.out]; rfl
      · unfold Hid; rw [HPS.out]; exact (PathOwn.of (hv.out.weak HR2.out.fr.size) hgw).fr (BelP.set _ _ rfl)
end Go.Proofs.YtbpkkgaaeodimaaGreatDoor
namespace Go.Proofs.YtbpkkgaaeodimaaGreatDoor
open Go.RowKit

/-! An address by value, out of its cells and into them. -/
theorem infoU : (Tryz.prog.info? 24).map (·.size) = some 12 := by kernel_rfl
def putL (o : Nat) : List Value → List Value → List Value
  | [], xs => xs
  | v :: r, xs => putL (o + 1) r (xs.set o v)
theorem row_sets : ∀ (vs : List Value) (o : Nat) (w : World) (g : Nat) (xs : List Value), RowAt w g xs → RowAt (w.setCells g o vs) g (putL o vs xs)
  | [], _, _, _, _, h => h
  | v :: r, o, w, g, xs, h => row_sets r (o + 1) (w.setCell ⟨g, o, none⟩ v) g (xs.set o v) (h.set o v)
theorem sets_bel : ∀ (vs : List Value) (o : Nat) (w : World) (g : Nat), BelP (fun k => k = g) w (w.setCells g o vs)
  | [], _, w, _ => .refl _ w
  | v :: r, o, _, g => (BelP.set (g := g) ⟨g, o, none⟩ v rfl).trans (sets_bel r (o + 1) _ g)
section
variable {ops : Array Oper} {Q : Exit → Act → World → Prop} {a : Act} {rest : List Oper} {o : Oper}
theorem load_url {W : World} (hgd : o.guard = none) (x : Operand) (ho : o.op = .load 24 x) (g : Nat) (hx : a.eval x = .pointer (some ⟨g, 0, none⟩)) (c : UrlC) (ext : List Value)
    (hr : RowAt W g (c.cells ++ ext)) (h : wpList Tryz.prog ops Q rest (a.put o.dst (.agg c.cells.toArray)) W) : wpList Tryz.prog ops Q (o :: rest) a W :=
  wpList_load_mid hgd _ x ho g 0 hx c.cells _ (fun j v hv => by rw [Nat.zero_add]; exact (hr.2 j v (by rw [List.getElem?_append_left (List.getElem?_eq_some_iff.1 hv).1]; exact hv)).1) Tryz.underlying24 rfl infoU h
theorem store_url {W : World} (hgd : o.guard = none) (x y : Operand) (ho : o.op = .store 24 x y) (g : Nat) (hx : a.eval x = .pointer (some ⟨g, 0, none⟩)) (c c' : UrlC) (ext : List Value) (hy : a.eval y = .agg c'.cells.toArray)
    (hr : RowAt W g (c.cells ++ ext)) (h1 : c'.path.oneCell' = true) (h : ∀ w1, Hid (RowAt w1 g (c'.cells ++ ext)) → Hid (BelP (fun k => k = g) W w1) → wpList Tryz.prog ops Q rest (a.put o.dst undef) w1) : wpList Tryz.prog ops Q (o :: rest) a W := by
  have hth : W.there g 0 c'.cells.toArray.size := fun j hj => by
    have hj : j < 12 := hj
    rw [Nat.zero_add]
    obtain ⟨u, hu⟩ : ∃ u, (c.cells ++ ext)[j]? = some u := ⟨_, List.getElem?_eq_getElem (by rw [List.length_append]; show j < 12 + _; omega)⟩
    have := hr.2 j u hu
    exact ⟨by rw [this.1]; rfl, this.2⟩
  refine wpList_store_mid hgd _ x y ho g 0 _ hx hy hth infoU (by unfold UrlC.cells; rw [List.all_toArray]; simp only [List.all_cons, List.all_nil, h1]; rfl) ?_
  refine h _ ?_ (sets_bel _ _ _ _)
  have := row_sets c'.cells 0 W g _ hr
  exact this
end
theorem res_url {fn : Func} {p u : Tmp} (h : fn.results = #[.cell p 24, .tmp u]) (tmps : Array Value) (w : World) (g : Nat) (c : UrlC) (ext : List Value) (hp : tmps.getD p undef = .pointer (some ⟨g, 0, none⟩)) (hr : RowAt w g (c.cells ++ ext)) :
    (results fn tmps).run Tryz.prog w = .ok (.tuple #[.agg c.cells.toArray, tmps.getD u undef]) w := by
  have hl := run_loadVar_mid (P := Tryz.prog) w g 0 24 c.cells _ (fun j v hv => by rw [Nat.zero_add]; exact (hr.2 j v (by rw [List.getElem?_append_left (List.getElem?_eq_some_iff.1 hv).1]; exact hv)).1) Tryz.underlying24 rfl infoU
  rw [results_cell_tmp h, hp]
  simp [asAddr, hl]
end Go.Proofs.YtbpkkgaaeodimaaGreatDoor
