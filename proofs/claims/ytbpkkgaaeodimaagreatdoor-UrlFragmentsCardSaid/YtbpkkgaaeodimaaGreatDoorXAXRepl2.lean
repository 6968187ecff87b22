import Derived.Test.YtbpkkgaaeodimaaGreatDoorXG21
import Derived.Test.YtbpkkgaaeodimaaGreatDoorXG10
namespace Go.Proofs.YtbpkkgaaeodimaaGreatDoor
open Go.RowKit

/-! The replacer is made once: under its lock. -/
theorem ReplK.fr {w w' : World} {S : Nat → Prop} {p base k : Nat} (h : ReplK w p base k) (hb : BelP S w w') (hp : ¬ S p) (hS : ∀ j, S j → j < base) : ReplK w' p base k := by
  obtain ⟨L, tv, h1, h2, h3, h4, h5⟩ := h
  exact ⟨L, tv, hb.row hp h1, h2, h3, BelP.own hb (fun j hj hs => by have := h4.base j hj; have := hS j hs; omega) h4, h5⟩
set_option maxRecDepth 100000 in
theorem once_load (a : Addr) (x : Int) (w : World) (hc : w.cell? a = some (.int .u32 x)) :
    Calls Tryz.prog 131 #[.pointer (some a)] w fun e w' => e = .returned (.bool (x != 0)) ∧ w' = w := by
  have hl := run_call_load (P := Tryz.prog) Tryz.func157 (by kernel_rfl) (by kernel_rfl) (by kernel_rfl) .u32 (by kernel_rfl) (w := w) (a := a) (x := x) hc
  go_enter Tryz.func131, Tryz.ntmps131
  go_wp2
  go_ret
  exact ⟨rfl, rfl⟩
def onceRow (d m : Int) (r on : Value) : List Value := [.int .u32 d, .int .i32 m, .int .u32 0, r, on]
set_option maxHeartbeats 1000000 in
set_option maxRecDepth 100000 in
theorem rp_buildOnce (b : Nat) (w : World) (on : Value) (base : Nat) (HR : Hid (RowAt w b (onceRow 0 1 .nilIface on))) (HO : Hid (Own w base 9 on rpV)) :
    Calls Tryz.prog 108 #[.pointer (some ⟨b, 0, none⟩)] w fun e w' => ∃ p, e = .returned (.tuple #[]) ∧ w.heap.size ≤ p ∧ Hid (RowAt w' b (onceRow 0 1 (.iface 170 (.pointer (some ⟨p, 0, none⟩))) nilV)) ∧ Hid (ReplK w' p w.heap.size 3) ∧ Hid (BelP (fun k => k = b) w w') := by
  have HBW : Hid (b < w.heap.size) := HR.out.1
  go_enter Tryz.func108, Tryz.ntmps108
  go_wp2_with fail
  refine (rp_build b _ on base HR HO).mono ?_
  rintro e w1 ⟨⟨p, rfl, hp, HK⟩, HB⟩
  have R1 := Lib.hid (HR.out.bel HB.out)
  obtain ⟨c3, f3⟩ := R1.out.2 3 _ rfl
  have R2 : Hid (RowAt (w1.setCell ⟨b, 3, none⟩ (.iface 170 (.pointer (some ⟨p, 0, none⟩)))) b (onceRow 0 1 (.iface 170 (.pointer (some ⟨p, 0, none⟩))) on)) := R1.out.set 3 _
  obtain ⟨c4, f4⟩ := R2.out.2 4 _ rfl
  have R3 : Hid (RowAt ((w1.setCell ⟨b, 3, none⟩ (.iface 170 (.pointer (some ⟨p, 0, none⟩)))).setCell ⟨b, 4, none⟩ nilV) b (onceRow 0 1 (.iface 170 (.pointer (some ⟨p, 0, none⟩))) nilV)) := R2.out.set 4 _
  have HP := Lib.hid hp
  clear hp
  go_wp2
  go_end0
  have F1 : BelP (fun k => k = b) w1 ((w1.setCell ⟨b, 3, none⟩ (.iface 170 (.pointer (some ⟨p, 0, none⟩)))).setCell ⟨b, 4, none⟩ nilV) := (BelP.set (g := b) ⟨b, 3, none⟩ _ rfl).trans (BelP.set (g := b) ⟨b, 4, none⟩ _ rfl)
  refine ⟨p, rfl, HP.out, R3, HK.out.fr F1 (fun e => ?_) (fun j hj => ?_), (BelP.of _ HB.out).trans F1⟩
  · have := HP.out; have := HBW.out; omega
  · have := HBW.out; omega
set_option maxHeartbeats 1000000 in
set_option maxRecDepth 100000 in
theorem rp_slow (b : Nat) (w : World) (on : Value) (base : Nat) (HR : Hid (RowAt w b (onceRow 0 0 .nilIface on))) (HO : Hid (Own w base 9 on rpV)) (hob : Hid (∀ k, on.ownBlock = some k → k ≠ b)) :
    Calls Tryz.prog 132 #[.pointer (some ⟨b, 0, none⟩), .func (.func 108) #[.pointer (some ⟨b, 0, none⟩)] #[]] w fun e w' => e = .returned (.tuple #[]) ∧ ∃ p, w.heap.size ≤ p ∧ Hid (RowAt w' b (onceRow 1 0 (.iface 170 (.pointer (some ⟨p, 0, none⟩))) nilV)) ∧ Hid (ReplK w' p w.heap.size 3) ∧ Hid (BelP (fun k => k = b) w w') := by
  have HBW : Hid (b < w.heap.size) := HR.out.1
  obtain ⟨c1, f1⟩ := HR.out.2 1 _ rfl
  have F1 : Hid (BelP (fun k => k = b) w (w.setCell ⟨b, 1, none⟩ (.int .i32 1))) := BelP.set (g := b) ⟨b, 1, none⟩ _ rfl
  have R1 : Hid (RowAt (w.setCell ⟨b, 1, none⟩ (.int .i32 1)) b (onceRow 0 1 .nilIface on)) := HR.out.set 1 _
  have O1 : Hid (Own (w.setCell ⟨b, 1, none⟩ (.int .i32 1)) base 9 on rpV) := BelP.own F1.out hob.out HO.out
  have d0 := (R1.out.2 0 _ rfl).1
  have hnot : ∀ (x : Bool) (w : World), (Op.unary .not (.bool x)).run Tryz.prog w = .ok (.bool (!x)) w := fun _ _ => rfl
  go_enter_defers Tryz.func132, Tryz.ntmps132
  go_wp2_with (first | (go_at_call 158; go_must (refine (once_lock ⟨b, 1, none⟩ _ c1 f1).mono ?_); rintro e w' ⟨rfl, rfl⟩) | (go_at_call 131; go_must (refine (once_load ⟨b, 0, none⟩ 0 _ d0).mono ?_); rintro e w' ⟨rfl, rfl⟩) | (go_at_call 108; go_must (refine (rp_buildOnce b _ on base R1 O1).mono ?_); rintro e w2 ⟨p, rfl, hp, R2, HK2, F2⟩))
  refine leaves_cons (f := 160) (args := #[.pointer (some ⟨b, 0, none⟩), .bool true]) (by simp) (by simp [go_sem]) ?_
  obtain ⟨c0, f0⟩ := R2.out.2 0 _ rfl
  refine (once_store ⟨b, 0, none⟩ _ .returning _ c0 f0).mono ?_
  rintro e u' w3 ⟨rfl, rfl, rfl⟩
  have R3 : Hid (RowAt (w2.drew.setCell ⟨b, 0, none⟩ (.int .u32 1)) b (onceRow 1 1 (.iface 170 (.pointer (some ⟨p, 0, none⟩))) nilV)) := (R2.out.bel (bel_drew w2)).set 0 _
  have F3 : Hid (BelP (fun k => k = b) w2 (w2.drew.setCell ⟨b, 0, none⟩ (.int .u32 1))) := (BelP.of _ (bel_drew w2)).trans (BelP.set (g := b) ⟨b, 0, none⟩ _ rfl)
  refine leaves_cons (f := 159) (args := #[.pointer (some ⟨b, 1, none⟩)]) (by simp [settle]) (by simp [go_sem]) ?_
  obtain ⟨g1, h1⟩ := R3.out.2 1 _ rfl
  refine (once_unlock ⟨b, 1, none⟩ _ _ g1 h1).mono ?_
  rintro e u' w4 ⟨rfl, rfl, rfl⟩
  have F4 : Hid (BelP (fun k => k = b) (w2.drew.setCell ⟨b, 0, none⟩ (.int .u32 1)) ((w2.drew.setCell ⟨b, 0, none⟩ (.int .u32 1)).setCell ⟨b, 1, none⟩ (.int .i32 0))) := BelP.set (g := b) ⟨b, 1, none⟩ _ rfl
  have hsz : w.heap.size ≤ (w.setCell ⟨b, 1, none⟩ (.int .i32 1)).heap.size := F1.out.size
  have hsz2 : (w.setCell ⟨b, 1, none⟩ (.int .i32 1)).heap.size = w.heap.size := by simp
  have hbw := HBW.out
  have HF := Lib.hid (((F1.out.trans F2.out).trans F3.out).trans F4.out)
  have HKF : Hid (ReplK ((w2.drew.setCell ⟨b, 0, none⟩ (.int .u32 1)).setCell ⟨b, 1, none⟩ (.int .i32 0)) p w.heap.size 3) := by
    have h := HK2.out.fr (F3.out.trans F4.out) (by omega) (fun j hj => by omega)
    rw [hsz2] at h
    exact h
  have hpp : w.heap.size ≤ p := by omega
  simp [Leaves, settle, results, Tryz.results132]
  exact ⟨p, hpp, R3.out.set 1 _, HKF, HF⟩
end Go.Proofs.YtbpkkgaaeodimaaGreatDoor
