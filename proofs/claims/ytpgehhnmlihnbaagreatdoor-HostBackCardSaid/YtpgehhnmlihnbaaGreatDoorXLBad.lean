import Derived.Test.YtpgehhnmlihnbaaGreatDoorXLNums
import Derived.Test.YtpgehhnmlihnbaaGreatDoorXLawP
namespace Go.Proofs.YtpgehhnmlihnbaaGreatDoor
open Go.RowKit

theorem tmod_range (n : Int) (m : Nat) : -(m : Int) ≤ Int.tmod n (m + 1) ∧ Int.tmod n (m + 1) ≤ m := by
  have h1 := Int.natAbs_tmod n (m + 1)
  have h2 : (Int.tmod n (m + 1)).natAbs < m + 1 := by
    rw [h1]
    exact Nat.mod_lt _ (by omega)
  omega
theorem book_Within (n : Int) (m : Nat) (w : World) (hm : m ≤ 1000000) :
    Calls Tryz.prog 27 #[.int .i64 n, .int .i64 0, .int .i64 m] w fun e w' => (∃ k : Nat, e = .returned (.int .i64 k) ∧ k ≤ m) ∧ w = w' := by
  have hr := tmod_range n m
  have hz : ((m : Int) + 1 == 0) = false := by rw [beq_eq_false_iff_ne]; omega
  go_enter Tryz.func27, Tryz.ntmps27
  obtain ⟨r, hrr⟩ : ∃ r, Int.tmod n (m + 1) = r := ⟨_, rfl⟩
  rw [hrr] at hr
  go_wp2
  · go_ret
    exact ⟨⟨(r + m + 1).toNat, ret_int (by omega), by omega⟩, rfl⟩
  · go_ret
    exact ⟨⟨r.toNat, ret_int (by omega), by omega⟩, rfl⟩
theorem bad_bytes (k : Nat) (hk : k < 17) : ∃ b, bl (badB.extract k (k + 1)) = [b] ∧ badS b = true := by
  have h : ∀ k : Fin 17, ∃ b, bl (badB.extract k.val (k.val + 1)) = [b] ∧ badS b = true := by
    intro k
    refine ⟨badB[k.val]'k.isLt, ?_, ?_⟩
    · have := bl_extract badB k.val (k.val + 1)
      rw [this, bl_drop badB k.val k.isLt]; simp
    · have : ∀ k : Fin 17, badS (badB[k.val]'k.isLt) = true := by decide +kernel
      exact this k
  exact h ⟨k, hk⟩
set_option maxHeartbeats 4000000 in
set_option maxRecDepth 100000 in
theorem law_Bad (s0 : ByteArray) (n1 n2 : Int) (w : World) (HE : Hid (Env w)) :
    Calls Tryz.prog 9 #[.string s0, .int .i64 n1, .int .i64 n2] w fun e w' => e = .returned (.bool true) ∧ Hid (Bel w w') := by
  have HS : Hid (St w w) := ⟨HE.out, Below.refl _ _⟩
  go_enter Tryz.func9, Tryz.ntmps9
  go_wp2_with fail
  refine (book_Within n2 16 _ (by omega)).mono ?_
  rintro e w1 ⟨⟨k, rfl, hk⟩, rfl⟩
  go_wp2_with fail
  refine (keep_Few s0 50 _ (by omega)).mono ?_
  rintro e w1 ⟨⟨t, rfl, _, ht⟩, rfl⟩
  go_wp2_with fail
  rw [show (1 : Int) + t.size - 1 = (t.size : Int) by omega]
  refine (book_Within n1 t.size _ (by omega)).mono ?_
  rintro e w1 ⟨⟨j, rfl, hj⟩, rfl⟩
  obtain ⟨q, hq⟩ : ∃ q, (⟨#[113]⟩ : ByteArray) ++ t = q := ⟨_, rfl⟩
  have hqz : q.size = 1 + t.size := by rw [← hq]; simp; rfl
  have hqb : bl q = 113 :: bl t := by rw [← hq, bl_append]; rfl
  rw [hq]
  have hqz' : (q.size : Int) = 1 + t.size := by omega
  go_upto_region 4 with (fail)
  have e1 : IntKind.i64.wrap ((k : Int) + 1) = (k : Int) + 1 := IntWalk.i64_in _ (by omega)
  have p1 : 0 ≤ (k : Int) + 1 := by omega
  have p2 : (k : Int) + 1 ≤ 17 := by omega
  have p3 : ((k : Int) + 1).toNat = k + 1 := by omega
  have p4 : 0 ≤ 1 + (j : Int) := by omega
  have p5 : 1 + (j : Int) ≤ q.size := by omega
  have p6 : (1 + (j : Int)).toNat = 1 + j := by omega
  have z1 : (q.extract 0 (1 + j)).size ≤ 51 := by rw [ByteArray.size_extract]; omega
  have z2 : (badB.extract k (k + 1)).size ≤ 1 := by rw [ByteArray.size_extract]; omega
  have z3 : (q.extract (1 + j) q.size).size ≤ 51 := by rw [ByteArray.size_extract]; omega
  go_quiet (fail)
  clear e1 p1 p2 p3 p4 p5 p6
  obtain ⟨b, hb1, hb2⟩ := bad_bytes k (by omega)
  have hz : ∃ A C, bl (q.extract 0 (1 + j) ++ (⟨#[0, 9, 10, 13, 32, 35, 47, 58, 60, 62, 63, 64, 91, 92, 93, 94, 124]⟩ : ByteArray).extract k (k + 1) ++ q.extract (1 + j) (1 + t.size)) = (113 :: A) ++ b :: C := by
    refine ⟨(bl t).take j, bl (q.extract (1 + j) (1 + t.size)), ?_⟩
    rw [bl_append, bl_append, show bl ((⟨#[0, 9, 10, 13, 32, 35, 47, 58, 60, 62, 63, 64, 91, 92, 93, 94, 124]⟩ : ByteArray).extract k (k + 1)) = [b] from hb1, bl_extract, hqb, List.drop_zero, Nat.sub_zero, Nat.add_comm 1 j, List.take_succ_cons]
    simp
  have hzz : (q.extract 0 (1 + j) ++ (⟨#[0, 9, 10, 13, 32, 35, 47, 58, 60, 62, 63, 64, 91, 92, 93, 94, 124]⟩ : ByteArray).extract k (k + 1) ++ q.extract (1 + j) (1 + t.size)).size ≤ 1000000 := by
    have z2' : ((⟨#[0, 9, 10, 13, 32, 35, 47, 58, 60, 62, 63, 64, 91, 92, 93, 94, 124]⟩ : ByteArray).extract k (k + 1)).size ≤ 1 := z2
    rw [hqz] at z3
    rw [ByteArray.size_append, ByteArray.size_append]
    omega
  generalize q.extract 0 (1 + j) ++ (⟨#[0, 9, 10, 13, 32, 35, 47, 58, 60, 62, 63, 64, 91, 92, 93, 94, 124]⟩ : ByteArray).extract k (k + 1) ++ q.extract (1 + j) (1 + t.size) = z at *
  obtain ⟨A, C, hz⟩ := hz
  have HP : Hid (∀ sp, parseS (bl z) sp = none) := fun sp => by rw [hz]; exact parse_bad A C b hb2 sp
  clear hz hb1 hb2 z1 z2 z3
  have HS1 := st_next HS (show Hid (Bel w (w.drewN nq)) from bel_drewN _ _)
  generalize w.drewN nq = w1 at *
  go_wp2_with fail
  refine (host_Parse z true _ hzz HS1.out.1).mono ?_
  rintro e w2 ⟨⟨u1, rfl, _⟩, HB2⟩
  rw [HP.out true, show errO none = 10 from rfl]
  have HS2 := st_next HS1 HB2
  go_wp2_with fail
  refine (host_Parse z false _ hzz HS2.out.1).mono ?_
  rintro e w3 ⟨⟨u2, rfl, _⟩, HB3⟩
  rw [HP.out false, show errO none = 10 from rfl]
  have HS3 := st_next HS2 HB3
  go_wp2_with fail
  refine (keep_Few q 50 _ (by omega)).mono ?_
  rintro e w4 ⟨⟨t2, rfl, _, ht2⟩, rfl⟩
  go_wp2_with fail
  have hc : bl ((⟨#[91]⟩ : ByteArray) ++ t2 ++ ⟨#[93]⟩) = 91 :: (bl t2 ++ [93]) := by rw [bl_append, bl_append]; rfl
  have hcz : ((⟨#[91]⟩ : ByteArray) ++ t2 ++ ⟨#[93]⟩).size ≤ 1000000 := by
    have h : (bl ((⟨#[91]⟩ : ByteArray) ++ t2 ++ ⟨#[93]⟩)).length = t2.size + 2 := by rw [hc]; simp [bl_length]
    rw [bl_length] at h
    omega
  refine (host_Parse _ false _ hcz HS3.out.1).mono ?_
  rintro e w5 ⟨⟨u3, rfl, hu3⟩, HB5⟩
  have HS5 := st_next HS3 HB5
  rw [hc, parse_six] at *
  clear hc hcz
  cases h6 : sixS (bl t2) with
  | none =>
    rw [show errO (Option.map (fun xs => 91 :: (text6S xs ++ [93])) none) = 10 from rfl]
    clear hu3 h6
    go_wp2_with fail
    refine (st_known (w0 := w) _ HS5).mono ?_
    rintro e w6 ⟨rfl, HS6⟩
    go_wp2
    go_ret
    exact ⟨rfl, HS6.out.2⟩
  | some xs =>
    rw [show errO (Option.map (fun xs => 91 :: (text6S xs ++ [93])) (some xs)) = 0 from rfl]
    have hu : bl u3 = 91 :: (text6S xs ++ [93]) := by have := hu3.out; rw [h6] at this; exact this
    have hne := List.length_pos_iff.2 (text6_ne xs)
    have hus : 2 < u3.size := by have := congrArg List.length hu; rw [bl_length] at this; simp at this; omega
    have h91 : (u3[0]'(by omega)).toNat = 91 := by
      have := bl_get u3 0 (by omega)
      rw [hu] at this
      injection this with this
      rw [← this]; rfl
    have h91' : (((u3[0]'(by omega)).toNat : Int) == 91) = true := by rw [h91]; rfl
    clear hu hu3 h6 hne h91
    go_wp2_with fail
    refine (st_known (w0 := w) _ HS5).mono ?_
    rintro e w6 ⟨rfl, HS6⟩
    go_wp2
    go_ret
    exact ⟨rfl, HS6.out.2⟩
end Go.Proofs.YtpgehhnmlihnbaaGreatDoor
