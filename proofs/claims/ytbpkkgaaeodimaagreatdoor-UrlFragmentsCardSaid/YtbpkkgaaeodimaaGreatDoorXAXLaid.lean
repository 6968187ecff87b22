import Derived.Test.YtbpkkgaaeodimaaGreatDoorRows
import Derived.Test.YtbpkkgaaeodimaaGreatDoorXG01
import Derived.Test.YtbpkkgaaeodimaaGreatDoorXAXShelf
import Derived.WalkKit
import Derived.ProofKit
import Derived.Lay
import Derived.Shelf.Vars
import Derived.PinnedBridge
import Derived.LaidOnce
import Derived.Stop.LaidErr
import Derived.Lib.LaidTab
import Derived.Lib.LaidU8
import Derived.SizedLaws
import Derived.HandedShaped
import Derived.OpenShut
import Derived.Carry
namespace Go.Proofs.YtbpkkgaaeodimaaGreatDoor
open Go.ChangeShapes Go.WideShapes Go.ChangeAt Go.RowKit

def laidL : List (String × DataW Unit) := [("math/bits.deBruijn32tab", Rows.laid_math_bits_deBruijn32tab), ("math/bits.deBruijn64tab", Rows.laid_math_bits_deBruijn64tab), ("internal/strconv.uint64pow10", Rows.laid_internal_strconv_uint64pow10), ("unicode/utf8.acceptRanges", Rows.laid_unicode_utf8_acceptRanges), ("strconv.ErrRange", Rows.laid_strconv_ErrRange), ("strconv.ErrSyntax", Rows.laid_strconv_ErrSyntax), ("unicode/utf8.first", Rows.laid_unicode_utf8_first)]
def tz64 : List Int := [0, 1, 56, 2, 57, 49, 28, 3, 61, 58, 42, 50, 38, 29, 17, 4, 62, 47, 59, 36, 45, 43, 51, 22, 53, 39, 33, 30, 24, 18, 12, 5, 63, 55, 48, 27, 60, 41, 37, 16, 46, 35, 44, 21, 52, 32, 23, 11, 54, 26, 40, 15, 34, 20, 31, 10, 25, 14, 19, 9, 13, 8, 7, 6]
theorem row_err (u : TypeId) (h : Tryz.prog.typeName? 3 u = some "*errors.errorString") : u = 248 := by
  have star : "*" ++ "errors.errorString" = "*errors.errorString" := by decide
  exact typeName_ptr_named (nm := "errors.errorString") (by rw [star]; kernel_rfl) (by kernel_rfl) (by decide) u (by rw [star]; exact h)
theorem u8Extra : U8Extra Tryz.prog Tryz.lays271_ren := ⟨by kernel_rfl, by kernel_rfl, by kernel_rfl, by kernel_rfl, by kernel_rfl, by kernel_rfl, by kernel_rfl⟩
theorem err_cell {W : World} {n : String} {text : List UInt8} {r : List (String × DataW Unit)} {g : Nat} (hL : laidMet Tryz.prog ((n, .iface "*errors.errorString" (.ptr (.agg [.lit (.string text)]))) :: r) W)
    (hg : Tryz.prog.globalNamed n = some g) (ht : (Tryz.prog.globals[g]?).map (·.type) = some 75) : ∃ ev, W.cell? ⟨g, 0, none⟩ = some ev ∧ (ev = .nilIface ∨ ∃ te pe, ev = .iface te pe) := by
  obtain ⟨a, s, hv, _⟩ := laid_sentinel hL hg ht Tryz.underlying75 row_err Tryz.underlying248 Tryz.underlying250 rfl rfl Tryz.underlying9 (by kernel_rfl) (by kernel_rfl)
  have := World.var?_cell hg hv 0
  exact ⟨_, this, .inr ⟨_, _, rfl⟩⟩
theorem env_of {W : World} (hsh : W.ShapedOpen Tryz.prog) (hL0 : laidMetH Tryz.prog laidL W) : Env W := by
  rw [MakeChecks.laidMetH_plain _ _ _ (by kernel_rfl)] at hL0
  have hL : laidMet Tryz.prog laidL W := hL0
  refine ⟨cell_of_shapedOpen_int hsh (t := 3) (zero := #[.int .i64 0]) (of_decide_eq_true (by kernel_rfl)) (by kernel_rfl) rfl (by kernel_rfl) (by kernel_rfl) Tryz.underlying3, ?_, ?_, ?_, ?_, ?_⟩
  · exact Lib.tabIs_of_head (g := 1) (t := 179) (n := 20) (by kernel_rfl) (by kernel_rfl) (by kernel_rfl) Tryz.underlying143 (by kernel_rfl) (by kernel_rfl) hL.tail.tail
  · exact utf8Tabs_of_reads (ρ := Tryz.lays271_ren) { Tryz.lays271 with } u8Extra (Pinned.utf8First_eq ▸ Lib.laidMet.reads hL (by simp [laidL, Rows.laid_unicode_utf8_first])) (Lib.laidMet.reads hL (.tail _ (.tail _ (.tail _ (.head _)))))
  · exact err_cell hL.tail.tail.tail.tail.tail (by kernel_rfl) (by kernel_rfl)
  · have := Lib.tabIs_of_head (g := 5) (t := 229) (n := 64) (k := .u8) (zs := tz64) (by kernel_rfl) (by kernel_rfl) (by kernel_rfl) Tryz.underlying5 (by kernel_rfl) (by kernel_rfl) hL.tail
    exact this.cell (g := 5) (by kernel_rfl) 15 (by decide)
  · exact err_cell hL.tail.tail.tail.tail (by kernel_rfl) (by kernel_rfl)
theorem own : ownKnob Tryz.prog.godebug = none := by kernel_rfl
set_option maxRecDepth 100000 in
theorem door_met (os : Os) (args : Array Value) : laidMetH Tryz.prog laidL ((World.laidAll Tryz.prog os laidL).forCall (fun _ _ => 0) ⟨#[], args, []⟩).memory := by
  rw [MakeChecks.laidMetH_plain _ _ _ (by kernel_rfl)]
  exact laidMet_laidAll _ (by kernel_rfl) (by kernel_rfl)
set_option maxRecDepth 100000 in
/-- The wrap of a row over the laid variables: the contract is handed what the library asks. -/
theorem handed {H : Type} {enc : TypeId × Value → H} {os : Os} {f : FuncId} {fn : Func} {s : ChangeSpec} (started : os.Started) (noInit : Tryz.prog.inits.idxOf? f = none) (hfn : Tryz.prog.funcs[f]? = some fn)
    (witness : ∃ (w : World) (tape : Tape) (i : Input), w.os = os ∧ (w.forCall tape i).Shaped Tryz.prog ∧ i.vars = [] ∧ Input.okWide Tryz.prog (w.forCall tape i) .any w.heap.size f i ∧
      ((s.pre enc Tryz.prog fn [] false (w.forCall tape i).memory i.args ∧ laidMetH Tryz.prog laidL (w.forCall tape i).memory) ∧ sizedMet enc Tryz.prog fn (OpenSpec.ofChange s) false (w.forCall tape i).memory i.args) ∧ ({} : Assume).holds Tryz.prog (lone (Frame.enter Tryz.prog f i.args .normal) [] (w.forCall tape i)))
    (contract : ∀ (W : World) (base : Nat) (args : Array Value) (ds gs : List (DataW H)) (before : List MemPlace),
      (∀ (j : Nat) t v, fn.params[j]? = some t → args[j]? = some v → Value.okWide Tryz.prog W .any base t v) →
      DataW.Whole enc Tryz.prog fn.params.toList s.vars false W args.toList ds gs before →
      (DataW.weightsEach Tryz.prog (fn.params.toList ++ s.plain.varTypes Tryz.prog) (ds ++ gs)).all (· ≤ reachBytes) = true → Env W →
      Calls Tryz.prog f args W fun e W' => ∃ v, e = .returned v ∧ s.post enc Tryz.prog fn false true false false W args v W') :
    ReturnsInHanded {} Tryz.checked os f .any (fun w args => (s.pre enc Tryz.prog fn [] false w args ∧ laidMetH Tryz.prog laidL w) ∧ sizedMet enc Tryz.prog fn (OpenSpec.ofChange s) false w args) (s.post enc Tryz.prog fn false true false false) := by
  refine returnsInHanded_of_calls (C := Tryz.checked) own started noInit witness ?_
  intro w tape i _ hsh _ hok hpre hholds
  obtain ⟨_, _, _, fn', hfn', _, _, _, _, hval⟩ := hok
  have e : fn' = fn := Option.some.inj (hfn'.symm.trans hfn)
  subst e
  obtain ⟨⟨⟨ds, gs, before, hw, hc⟩, hx⟩, hz⟩ := hpre
  have hw' := DataW.Whole.of_heap (w' := w.forCall tape i) (by rfl) hw
  have hX : ∀ a b : World, a.heap = b.heap → laidMetH Tryz.prog laidL a → laidMetH Tryz.prog laidL b := fun _ _ hh h => h.of_heap hh
  have hx' := hX (w.forCall tape i).memory (w.forCall tape i) rfl hx
  refine (contract (w.forCall tape i) w.heap.size i.args ds gs before hval hw' (hz.weights hw) (env_of hsh hx')).mono fun e W' ⟨v, he, hp⟩ => ?_
  subst he
  exact ChangeSpec.post_blind hp
theorem laidOut : laidOutB Tryz.prog = true := by kernel_rfl
set_option maxRecDepth 100000 in
theorem open_eight {H : Type} {enc : TypeId × Value → H} {W : World} {base : Nat} {sp : Nat → Bool} {held : Bool} {v : Value} {d : DataW H} {p : List MemPlace} (h : DataW.Trod enc Tryz.prog W base sp held 150 v d p) :
    ∃ x0 x1 x2 x3 x4 x5 x6 x7 : Nat, v = .agg #[.int .u16 x0, .int .u16 x1, .int .u16 x2, .int .u16 x3, .int .u16 x4, .int .u16 x5, .int .u16 x6, .int .u16 x7] ∧ ∀ x ∈ [x0, x1, x2, x3, x4, x5, x6, x7], x ≤ 65535 := by
  obtain ⟨fuel, hf⟩ := h
  obtain ⟨xs, m, rfl, _, hlen, hn, hel⟩ := DataW.trod_array Tryz.underlying150 hf
  have c8 : Tryz.prog.cellsOf 150 = 8 := by kernel_rfl
  have c1 : Tryz.prog.cellsOf 149 = 1 := by kernel_rfl
  rw [c8] at hlen
  have hone : ∀ i, i < 8 → ∃ n : Nat, v.cells.toList[i]? = some (.int .u16 n) ∧ n ≤ 65535 := by
    intro i hi
    have h1 := hel i hi
    rw [c1, Nat.mul_one] at h1
    obtain ⟨x, hx⟩ : ∃ x, xs[i]? = some x := ⟨_, List.getElem?_eq_getElem (by omega)⟩
    rw [hx] at h1
    obtain ⟨k, e1, _, hw⟩ := DataW.trod_int Tryz.underlying149 h1
    have hb : 0 ≤ k ∧ k ≤ 65535 := by simpa [Lit.wf, IntKind.min, IntKind.max, IntKind.signed, IntKind.bits] using hw
    refine ⟨k.toNat, ?_, by omega⟩
    have e2 : (v.cells.toList.drop i)[0]? = some (.int .u16 k) := by
      have := congrArg (fun l : List Value => l[0]?) e1
      simpa using this
    rw [List.getElem?_drop] at e2
    rw [show ((k.toNat : Nat) : Int) = k by omega]
    simpa using e2
  have hv : v = .agg v.cells := by
    cases v <;> first | rfl | (exfalso; simp [Value.cells] at hlen)
  obtain ⟨x0, e0, b0⟩ := hone 0 (by omega)
  obtain ⟨x1, e1, b1⟩ := hone 1 (by omega)
  obtain ⟨x2, e2, b2⟩ := hone 2 (by omega)
  obtain ⟨x3, e3, b3⟩ := hone 3 (by omega)
  obtain ⟨x4, e4, b4⟩ := hone 4 (by omega)
  obtain ⟨x5, e5, b5⟩ := hone 5 (by omega)
  obtain ⟨x6, e6, b6⟩ := hone 6 (by omega)
  obtain ⟨x7, e7, b7⟩ := hone 7 (by omega)
  refine ⟨x0, x1, x2, x3, x4, x5, x6, x7, ?_, by simp; omega⟩
  rw [hv]
  congr 1
  apply Array.toList_inj.1
  generalize v.cells.toList = l at *
  match l, hlen, e0, e1, e2, e3, e4, e5, e6, e7 with
  | [c0, c1, c2, c3, c4, c5, c6, c7], _, e0, e1, e2, e3, e4, e5, e6, e7 =>
    simp at e0 e1 e2 e3 e4 e5 e6 e7
    simp [e0, e1, e2, e3, e4, e5, e6, e7]
end Go.Proofs.YtbpkkgaaeodimaaGreatDoor
