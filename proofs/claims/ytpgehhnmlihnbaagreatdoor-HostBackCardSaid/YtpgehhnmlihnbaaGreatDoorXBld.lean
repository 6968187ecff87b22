import Derived.Test.YtpgehhnmlihnbaaGreatDoorXFmt
import Derived.Shelf.Strings.Builder1
namespace Go.Proofs.YtpgehhnmlihnbaaGreatDoor
open Go.RowKit

theorem lays166 : Lays.n166 Tryz.prog Tryz.lays156_ren := { Tryz.lays156 with }
def ren167 : Go.Shelf.Ren := ⟨fun | 167 => 35 | n => Tryz.lays156_ren.f n, Tryz.lays156_ren.t, Tryz.lays156_ren.g⟩
theorem lays167 : Lays.n167 Tryz.prog ren167 := { Tryz.lays156, Tryz.Builder_Extra_156 with
  f167 := Tryz.func35.trans (congrArg some (by kernel_rfl))
  f240 := Tryz.func68.trans (congrArg some (by kernel_rfl))
  f276 := Tryz.func91.trans (congrArg some (by kernel_rfl)) }
set_option maxRecDepth 100000 in
theorem extra167 : Builder.Extra Tryz.prog ren167 := { Tryz.Builder_Extra_156 with }
/-- A builder that holds the bytes l. -/
def Bld (w : World) (B b : Nat) (l : List UInt8) : Prop := Lib.IsBuilder 69 5 B b (l.map u8v) w
theorem bld_new (w : World) : Bld (w.alloc (.cells #[.pointer none, .slice none 0 0] 69)) w.heap.size w.heap.size [] := Lib.fresh_isBuilder _ _ w
theorem bld_string (t s : ByteArray) : (bl t).map u8v ++ Lib.strCells s = (bl t ++ bl s).map u8v := by
  rw [List.map_append]; rfl
theorem bld_write (B b : Nat) (l : List UInt8) (s : ByteArray) (w : World) (h : Hid (Bld w B b l)) (hl : l.length ≤ 1000) (hs : s.size ≤ 1000) (hBw : B ≤ w.heap.size) :
    Calls Tryz.prog 34 #[.pointer (some ⟨b, 0, none⟩), .string s] w fun e w' => e = .returned (.tuple #[.int .i64 s.size, .nilIface]) ∧ Hid (Bld w' B b (l ++ bl s)) ∧ Hid (Below B w w') := by
  refine (Any.Builder_WriteString lays166 Tryz.Builder_Extra_156 B b (l.map u8v) s w h.out (by rw [List.length_map]; omega) hBw).mono ?_
  rintro e w' ⟨he, hb, hw⟩
  exact ⟨he, .inr (by rw [List.map_append]; exact hb), hw⟩
theorem bld_byte (B b : Nat) (l : List UInt8) (x : UInt8) (w : World) (h : Hid (Bld w B b l)) (hl : l.length ≤ 1000) (hBw : B ≤ w.heap.size) :
    Calls Tryz.prog 35 #[.pointer (some ⟨b, 0, none⟩), .int .u8 x.toNat] w fun e w' => e = .returned .nilIface ∧ Hid (Bld w' B b (l ++ [x])) ∧ Hid (Below B w w') := by
  refine (Any.Builder_WriteByte lays167 extra167 B b (l.map u8v) x.toNat w h.out (by rw [List.length_map]; omega) hBw).mono ?_
  rintro e w' ⟨he, hb, hw⟩
  exact ⟨he, .inr (by rw [List.map_append]; exact hb), hw⟩
theorem bld_text (B b : Nat) (l : List UInt8) (w : World) (h : Hid (Bld w B b l)) (hBw : B ≤ w.heap.size) :
    Calls Tryz.prog 37 #[.pointer (some ⟨b, 0, none⟩)] w fun e w' => (∃ t, e = .returned (.string t) ∧ Hid (bl t = l)) ∧ Hid (Below B w w') := by
  refine (Tryz.Builder_String_any B b l w h.out hBw).mono ?_
  rintro e w' ⟨he, hw⟩
  exact ⟨⟨_, he, by unfold Hid; rw [bl_mk]⟩, hw⟩
end Go.Proofs.YtpgehhnmlihnbaaGreatDoor
