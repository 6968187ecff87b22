import Derived.Test.YtbpkkgaaeodimaaGreatDoorXAXRepl4
import Derived.Test.YtbpkkgaaeodimaaGreatDoorXG15
namespace Go.Proofs.YtbpkkgaaeodimaaGreatDoor
open Go.RowKit

/-! The replacer as it is called, and the cleaned text. -/
set_option maxHeartbeats 1000000 in
set_option maxRecDepth 100000 in
theorem rp_Do (b : Nat) (w : World) (on : Value) (base : Nat) (HR : Hid (RowAt w b (onceRow 0 0 .nilIface on))) (HO : Hid (Own w base 9 on rpV)) :
    Calls Tryz.prog 107 #[.pointer (some ⟨b, 0, none⟩), .func (.func 108) #[.pointer (some ⟨b, 0, none⟩)] #[]] w fun e w' => e = .returned (.tuple #[]) ∧ ∃ p, w.heap.size ≤ p ∧ Hid (RowAt w' b (onceRow 1 0 (.iface 170 (.pointer (some ⟨p, 0, none⟩))) nilV)) ∧ Hid (ReplK w' p w.heap.size 3) ∧ Hid (BelP (fun k => k = b) w w') := by
  have hob : Hid (∀ k, on.ownBlock = some k → k ≠ b) := by
    obtain ⟨g, c, rfl, _, hr, _⟩ := HO.out.row (by decide)
    intro k hk e
    have hk2 : g = k := by simpa [Value.ownBlock] using hk
    have h1 := (hr.2 0 _ rfl).1
    have h2 := (HR.out.2 0 _ rfl).1
    rw [hk2, e, h2] at h1
    simp at h1
  have d0 := (HR.out.2 0 _ rfl).1
  go_enter Tryz.func107, Tryz.ntmps107
  go_wp2_with (first | (go_at_call 131; go_must (refine (once_load ⟨b, 0, none⟩ 0 _ d0).mono ?_); rintro e w' ⟨rfl, rfl⟩) | (go_at_call 132; go_must (refine (rp_slow b _ on base HR HO hob).mono ?_); rintro e w2 ⟨rfl, p, hp, R2, HK2, F2⟩))
  go_end0
  exact ⟨rfl, p, hp, R2, HK2, F2⟩
/-- Which method the replacer's interface leads to (378: this seat's types, and the model's depth). -/
theorem rp_meth (v : Value) (w : World) : (method 378 170 v "Replace").run Tryz.prog w = .ok (276, v) w := by kernel_rfl
set_option maxHeartbeats 1000000 in
set_option maxRecDepth 100000 in
theorem rp_Replace (b : Nat) (s : ByteArray) (w : World) (on : Value) (base : Nat) (hs : s.size ≤ 1000000) (HR : Hid (RowAt w b (onceRow 0 0 .nilIface on))) (HO : Hid (Own w base 9 on rpV)) :
    Calls Tryz.prog 79 #[.pointer (some ⟨b, 0, none⟩), .string s] w fun e w' => (∃ t, e = .returned (.string t) ∧ Hid (bl t = (bl s).filter keepL) ∧ t.size ≤ s.size) ∧ Hid (BelP (fun k => k = b) w w') := by
  have hme := rp_meth
  have hmf : ∀ (fn : Fn) (first cap : Array Value) (w : World), (Instr.makeFunc fn first cap).run Tryz.prog w = .ok (.func fn first cap) w := fun _ _ _ _ => rfl
  go_enter Tryz.func79, Tryz.ntmps79
  go_wp2_with (first | (go_at_call 107; go_must (refine (rp_Do b _ on base HR HO).mono ?_); rintro e w2 ⟨rfl, p, hp, R2, HK2, F2⟩; have c3 := (R2.out.2 3 _ rfl).1) | (go_at_call 276; go_must (refine (rp_bytes p _ s _ hs HK2).mono ?_); rintro e w3 ⟨⟨t, rfl, ht, htz⟩, HB3⟩))
  go_ret
  exact ⟨⟨t, rfl, ht, htz⟩, F2.out.trans (BelP.of _ HB3.out)⟩
end Go.Proofs.YtbpkkgaaeodimaaGreatDoor
