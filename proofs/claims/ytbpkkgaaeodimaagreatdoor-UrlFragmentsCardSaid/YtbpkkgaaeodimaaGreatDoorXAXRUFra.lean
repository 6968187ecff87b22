/-
  The law UrlFragments is proved: for every input it returns true and leaves its arguments; the package variables of the library start as the card ties them.
-/
import Derived.Test.YtbpkkgaaeodimaaGreatDoorXAXLaid
import Derived.Test.YtbpkkgaaeodimaaGreatDoorTie
import Derived.Test.YtbpkkgaaeodimaaGreatDoorXAXFactsA
import Derived.Test.YtbpkkgaaeodimaaGreatDoorXAXFactsB
import Derived.Test.YtbpkkgaaeodimaaGreatDoorXAXFactsC
import Derived.Test.YtbpkkgaaeodimaaGreatDoorXAXKUFra
import Derived.Test.YtbpkkgaaeodimaaGreatDoorCards
import Derived.Test.YtbpkkgaaeodimaaGreatDoorXAXLUFra
import Derived.SevenTiedAt
import Derived.OpenShut
import Derived.ShutString
import Derived.ChangeOld
import Derived.Carry
import Derived.Below
namespace Go.Proofs.YtbpkkgaaeodimaaGreatDoor
open Go Go.ChangeShapes Go.WideShapes Go.ChangeAt Go.RowKit
open Go.ChangeMaps (open_string shut_string)
set_option linter.unusedVariables false
set_option maxRecDepth 100000 in
theorem urlFragments_lifted (os : Os) (started : os.Started) (H : Type) (enc : TypeId × Value → H) :
    ReturnsInHanded {} Tryz.checked os 12 .any (fun w args => (Rows.urlFragmentsSpec.pre enc Tryz.prog Tryz.f12 [] false w args ∧ laidMetH Tryz.prog laidL w) ∧ sizedMet enc Tryz.prog Tryz.f12 (OpenSpec.ofChange Rows.urlFragmentsSpec) false w args)
      (Rows.urlFragmentsSpec.post enc Tryz.prog Tryz.f12 false true false false) := by
  refine handed started (by kernel_rfl) Tryz.func12 (ChangeSpec.witness_shaped (enc := enc) (C := Tryz.checked) (os := os) (X := fun w _ => laidMetH Tryz.prog laidL w) false (World.laidAll Tryz.prog os laidL) #[.string ByteArray.empty, .string ByteArray.empty] 8 (World.laidAll_os _ _ _)
    (World.shaped_of_ZipB (by kernel_rfl) (by kernel_rfl)) (by kernel_rfl) (by kernel_rfl) (by kernel_rfl) (door_met os _)) ?_
  intro W base args ds gs before hval0 hW hsz0 HE0
  have HE := Lib.hid HE0
  clear HE0
  have hsz : (DataW.weightsEach Tryz.prog (Tryz.f12.params.toList ++ Rows.urlFragmentsSpec.plain.varTypes Tryz.prog) (ds ++ gs)).all (· ≤ reachBytes) = true := hsz0
  have hval : ∀ (j : Nat) t v, Tryz.f12.params[j]? = some t → args[j]? = some v → Value.okWide Tryz.prog W .any base t v := hval0
  have hW' := hW
  obtain ⟨p, q, hA0, hV, rfl, hfz, hnd⟩ := hW
  have hA : DataW.TrodAll enc Tryz.prog W 0 (fun _ => true) true Tryz.f12.params.toList args.toList ds p := hA0
  rw [Tryz.params12] at hA hval hsz
  obtain ⟨v0, vs0, d0, ds0, p0, q0, hargs, rfl, rfl, h0, r0⟩ := trodAll_cons hA
  obtain ⟨v1, vs1, d1, ds1, p1, q1, rfl, rfl, rfl, h1, r1⟩ := trodAll_cons r0
  obtain ⟨rfl, rfl, rfl⟩ := trodAll_nil r1
  obtain rfl : args = #[v0, v1] := by cases args; simp_all
  obtain ⟨rfl, rfl⟩ := trodVars_none hV
  have lt0 : ∀ x ∈ p0, x.block < W.heap.size := by obtain ⟨m, hm⟩ := h0; exact DataW.trod_lt m _ _ _ hm
  have k0 := h0
  obtain ⟨a0, rfl, rfl, rfl, y0⟩ := open_string Tryz.underlying9 (hval 0 9 v0 rfl rfl) h0
  have w0 : a0.size ≤ 140737488351232 := by
    have z := sized_string hsz (j := 0) (t := 9) rfl rfl
    rw [Array.length_toList] at z
    exact z
  have lt1 : ∀ x ∈ p1, x.block < W.heap.size := by obtain ⟨m, hm⟩ := h1; exact DataW.trod_lt m _ _ _ hm
  have k1 := h1
  obtain ⟨a1, rfl, rfl, rfl, y1⟩ := open_string Tryz.underlying9 (hval 1 9 v1 rfl rfl) h1
  have w1 : a1.size ≤ 140737488351232 := by
    have z := sized_string hsz (j := 1) (t := 9) rfl rfl
    rw [Array.length_toList] at z
    exact z
  clear hA0 hval0 hsz0 hsz
  refine (law_UFra a0 a1 W HE).mono fun e W' ⟨he, hbel⟩ => ?_
  subst he
  have bel := hbel.out
  exact ⟨_, rfl, _, _, _, [], _, [], hW', trodAll_mk1 (shut_bool Tryz.underlying4 _), (trodAll_cons_mk (Below.trod laidOut (by kernel_rfl) (of_decide_eq_true (by kernel_rfl)) k0 bel lt0) (trodAll_cons_mk (Below.trod laidOut (by kernel_rfl) (of_decide_eq_true (by kernel_rfl)) k1 bel lt1) trodAll_mk0)), rfl, bel.frame _, fun h => by cases h⟩
set_option maxRecDepth 100000 in
theorem urlFragments_closed : joinedFacts Tryz.prog 12 Tryz.f12 Rows.urlFragmentsSpec Rows.urlFragmentsRow = true := by
  unfold joinedFacts
  rw [laidOut, f_rowed, f_heard, f_keys, f_lift, f_make, f_enter, urlFragments_place, urlFragments_unf, urlFragments_rec, urlFragments_named]
  kernel_rfl
theorem urlFragments_holds : Rows.UrlFragmentsSaid :=
  OpenClaim.holds_of_wide 12 Tryz.f12 rfl rfl rfl rfl rfl rfl rfl ⟨rfl, rfl, rfl, rfl, rfl⟩ rfl rfl rfl rfl rfl (by kernel_rfl) Tryz.func12 urlFragments_closed
    (of_decide_eq_true (by kernel_rfl)) (by unfold Func.isWrapper; first | (rw [if_pos (by decide +kernel)]; kernel_rfl) | (rw [if_neg (by decide +kernel)]; exact ⟨rfl, rfl⟩))
    (fun os started H enc _ => urlFragments_lifted os started H enc)
theorem urlFragments_card : Rows.UrlFragmentsCardSaid :=
  Claim7.holds_tied_plain_at .later [] _ true _ _ urlFragments_holds (fun _ h => by cases h) (by kernel_rfl) (fun _ h => by cases h) urlFragments_row_tie rfl ⟨rfl, rfl⟩ f_main rfl
    (fun f fn hf hfn => by
      obtain rfl : f = 12 := Option.some.inj ((show Tryz.prog.funcNamed Rows.urlFragmentsRow.func = some 12 by kernel_rfl).symm.trans hf) |>.symm
      obtain rfl : fn = Tryz.f12 := (Option.some.inj (Tryz.func12.symm.trans hfn)).symm
      exact ⟨f_looks, fun j t ht => by
        rw [Tryz.params12] at ht
        have hm : t ∈ [9, 9] := by simpa using Array.mem_of_getElem? ht
        have hall : (([9, 9] : List TypeId).all fun u => !Tryz.prog.wantsStandIn u) = true := by kernel_rfl
        exact (show Tryz.prog.wantsStandIn t = false by simpa using List.all_eq_true.1 hall t hm)⟩)
    urlFragments_goes
#print axioms urlFragments_card
end Go.Proofs.YtbpkkgaaeodimaaGreatDoor
