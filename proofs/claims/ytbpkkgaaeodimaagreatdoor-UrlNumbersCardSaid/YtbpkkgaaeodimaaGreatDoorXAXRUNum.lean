/-
  The law UrlNumbers is proved: for every input it returns true and leaves its arguments; the package variables of the library start as the card ties them.
-/
import Derived.Test.YtbpkkgaaeodimaaGreatDoorXAXLaid
import Derived.Test.YtbpkkgaaeodimaaGreatDoorTie
import Derived.Test.YtbpkkgaaeodimaaGreatDoorXAXFactsA
import Derived.Test.YtbpkkgaaeodimaaGreatDoorXAXFactsB
import Derived.Test.YtbpkkgaaeodimaaGreatDoorXAXFactsC
import Derived.Test.YtbpkkgaaeodimaaGreatDoorXAXKUNum
import Derived.Test.YtbpkkgaaeodimaaGreatDoorCards
import Derived.Test.YtbpkkgaaeodimaaGreatDoorXAXLUNum
import Derived.SevenTiedAt
import Derived.OpenShut
import Derived.ShutString
import Derived.ChangeOld
import Derived.Carry
import Derived.Below
namespace Go.Proofs.YtbpkkgaaeodimaaGreatDoor
open Go Go.ChangeShapes Go.WideShapes Go.ChangeAt Go.RowKit
open Go.ChangeMaps (open_string shut_string)
set_option linter.unusedVariables false
set_option maxRecDepth 100000 in
theorem urlNumbers_lifted (os : Os) (started : os.Started) (H : Type) (enc : TypeId × Value → H) :
    ReturnsInHanded {} Tryz.checked os 5 .any (fun w args => (Rows.urlNumbersSpec.pre enc Tryz.prog Tryz.f5 [] false w args ∧ laidMetH Tryz.prog laidL w) ∧ sizedMet enc Tryz.prog Tryz.f5 (OpenSpec.ofChange Rows.urlNumbersSpec) false w args)
      (Rows.urlNumbersSpec.post enc Tryz.prog Tryz.f5 false true false false) := by
  refine handed started (by kernel_rfl) Tryz.func5 (ChangeSpec.witness_shaped (enc := enc) (C := Tryz.checked) (os := os) (X := fun w _ => laidMetH Tryz.prog laidL w) false (World.laidAll Tryz.prog os laidL) #[] 8 (World.laidAll_os _ _ _)
    (World.shaped_of_ZipB (by kernel_rfl) (by kernel_rfl)) (by kernel_rfl) (by kernel_rfl) (by kernel_rfl) (door_met os _)) ?_
  intro W base args ds gs before hval0 hW hsz0 HE0
  have HE := Lib.hid HE0
  clear HE0
  have hsz : (DataW.weightsEach Tryz.prog (Tryz.f5.params.toList ++ Rows.urlNumbersSpec.plain.varTypes Tryz.prog) (ds ++ gs)).all (· ≤ reachBytes) = true := hsz0
  have hval : ∀ (j : Nat) t v, Tryz.f5.params[j]? = some t → args[j]? = some v → Value.okWide Tryz.prog W .any base t v := hval0
  have hW' := hW
  obtain ⟨p, q, hA0, hV, rfl, hfz, hnd⟩ := hW
  have hA : DataW.TrodAll enc Tryz.prog W 0 (fun _ => true) true Tryz.f5.params.toList args.toList ds p := hA0
  rw [Tryz.params5] at hA hval hsz
  obtain ⟨rfl, rfl, rfl⟩ := trodAll_none hA
  obtain ⟨rfl, rfl⟩ := trodVars_none hV
  clear hA0 hval0 hsz0 hsz
  refine (law_UNum W HE).mono fun e W' ⟨he, hbel⟩ => ?_
  subst he
  have bel := hbel.out
  exact ⟨_, rfl, _, _, _, [], _, [], hW', trodAll_mk1 (shut_bool Tryz.underlying4 _), trodAll_mk0, rfl, bel.frame _, fun h => by cases h⟩
set_option maxRecDepth 100000 in
theorem urlNumbers_closed : joinedFacts Tryz.prog 5 Tryz.f5 Rows.urlNumbersSpec Rows.urlNumbersRow = true := by
  unfold joinedFacts
  rw [laidOut, f_rowed, f_heard, f_keys, f_lift, f_make, f_enter, urlNumbers_place, urlNumbers_unf, urlNumbers_rec, urlNumbers_named]
  kernel_rfl
theorem urlNumbers_holds : Rows.UrlNumbersSaid :=
  OpenClaim.holds_of_wide 5 Tryz.f5 rfl rfl rfl rfl rfl rfl rfl ⟨rfl, rfl, rfl, rfl, rfl⟩ rfl rfl rfl rfl rfl (by kernel_rfl) Tryz.func5 urlNumbers_closed
    (of_decide_eq_true (by kernel_rfl)) (by unfold Func.isWrapper; first | (rw [if_pos (by decide +kernel)]; kernel_rfl) | (rw [if_neg (by decide +kernel)]; exact ⟨rfl, rfl⟩))
    (fun os started H enc _ => urlNumbers_lifted os started H enc)
theorem urlNumbers_card : Rows.UrlNumbersCardSaid :=
  Claim7.holds_tied_plain_at .later [] _ true _ _ urlNumbers_holds (fun _ h => by cases h) (by kernel_rfl) (fun _ h => by cases h) urlNumbers_row_tie rfl ⟨rfl, rfl⟩ f_main rfl
    (fun f fn hf hfn => by
      obtain rfl : f = 5 := Option.some.inj ((show Tryz.prog.funcNamed Rows.urlNumbersRow.func = some 5 by kernel_rfl).symm.trans hf) |>.symm
      obtain rfl : fn = Tryz.f5 := (Option.some.inj (Tryz.func5.symm.trans hfn)).symm
      exact ⟨f_looks, fun j t ht => by
        rw [Tryz.params5] at ht
        simp at ht⟩)
    urlNumbers_goes
#print axioms urlNumbers_card
end Go.Proofs.YtbpkkgaaeodimaaGreatDoor
