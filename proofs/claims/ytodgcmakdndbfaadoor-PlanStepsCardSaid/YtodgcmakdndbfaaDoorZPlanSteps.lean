/-
  For every tree and batch, PlanSteps returns true; both read afterwards as before. Condition: the table deBruijn64tab of math/bits reads as laid (the card ties it to the text).
-/
import Derived.Test.YtodgcmakdndbfaaDoorZ21
import Derived.Test.YtodgcmakdndbfaaDoorTie
import Derived.Test.YtodgcmakdndbfaaDoorCards
import Derived.SevenTiedAt
namespace Go.Proofs.YtodgcmakdndbfaaDoor
open Go.ChangeShapes Go.WideShapes Go.ChangeAt Go.WideMaps Go.WideElems Go.RowKit Go.Joins Cot
set_option linter.unusedVariables false
set_option maxRecDepth 100000 in
theorem liftedPlanSteps (os : Os) (started : os.Started) (H : Type) (enc : TypeId × Value → H) :
    ReturnsInHanded {} Tryd.checked os 8 .any (fun w args => (Rows.planStepsSpec.pre enc Tryd.prog Tryd.f8 [] false w args ∧ laidMetH Tryd.prog laidL w) ∧ sizedMet enc Tryd.prog Tryd.f8 (OpenSpec.ofChange Rows.planStepsSpec) false w args)
      (Rows.planStepsSpec.post enc Tryd.prog Tryd.f8 false true false false) := by
  refine returnsInHanded_of_change_and (C := Tryd.checked) (X := fun w _ => laidMetH Tryd.prog laidL w) (fun _ _ _ hh h => h.of_heap hh) own started (by kernel_rfl) Tryd.func8
    (ChangeSpec.witness_shaped (enc := enc) (C := Tryd.checked) (os := os) (X := fun w _ => laidMetH Tryd.prog laidL w) false (World.doorLaid Tryd.prog 400 os) #[.agg (Array.replicate 236 (.int .i64 0)), .agg #[.slice none 0 0, .slice none 0 0]] 8 rfl (World.shaped_of_RefB (by kernel_rfl) (by kernel_rfl)) (by kernel_rfl) (by kernel_rfl) (by kernel_rfl) (door_met os _)) ?_
  intro W base args ds gs before hval0 hW _ hsz0 hL _
  have hval : ∀ (j : Nat) t v, Tryd.f8.params[j]? = some t → args[j]? = some v → Value.okWide Tryd.prog W .any base t v := hval0
  have hsz : (DataW.weightsEach Tryd.prog (Tryd.f8.params.toList ++ Rows.planStepsSpec.plain.varTypes Tryd.prog) (ds ++ gs)).all (· ≤ reachBytes) = true := hsz0
  have hW' := hW
  obtain ⟨p, q, hA0, hV, rfl, hfz, hnd⟩ := hW
  have hA : DataW.TrodAll enc Tryd.prog W 0 (fun _ => true) true Tryd.f8.params.toList args.toList ds p := hA0
  rw [Tryd.params8] at hA hval hsz
  obtain ⟨v0, v1, d0, d1, p0, p1, rfl, rfl, rfl, h0, h1⟩ := trodAll_two hA
  obtain ⟨rfl, rfl⟩ := trodVars_none hV
  have h0k := h0; have h1k := h1
  have hw1 : ∀ k, k ∈ d1.weights Tryd.prog 34 → k ≤ reachBytes := fun k hk => by
    have h := List.all_eq_true.1 hsz k (DataW.weights_mem_each (j := 1) rfl rfl k hk)
    exact of_decide_eq_true h
  obtain ⟨t, rfl, hi1, htb, hi2⟩ := open_tree (hval 0 31 v0 rfl rfl) h0
  obtain ⟨lv, jn, ao, bo, cap, cap2, rfl, hA1, hJ1, hi3, hi4, hl1, hl2⟩ := open_batch (hval 1 34 v1 rfl rfl) h1 hw1
  simp only [List.append_nil] at hW'
  have hlt : ∀ x ∈ p0 ++ p1, x.block < W.heap.size := fun x hx => by simpa using hW'.lt x hx
  refine (law12_PlanSteps t lv jn ao bo cap cap2 W hl1 hl2 hA1 hJ1 hi1 htb hi2 hi3 hi4 (tz_of_laid hL)).mono fun e W' ⟨he, hb⟩ => ?_
  subst he
  exact ⟨_, rfl, _, _, _, [], p0 ++ p1, [], hW', trodAll_mk1 (shut_bool Tryd.underlying4 _),
    trodAll_mk2 (Below.trod laidOut (by kernel_rfl) (of_decide_eq_true (by kernel_rfl)) h0k hb (fun x hx => hlt x (List.mem_append_left _ hx))) (Below.trod laidOut (by kernel_rfl) (of_decide_eq_true (by kernel_rfl)) h1k hb (fun x hx => hlt x (List.mem_append_right _ hx))),
    rfl, hb.frame _, fun h => by cases h⟩
theorem planSteps_row : Rows.PlanStepsSaid :=
  OpenClaim.holds_of_wide 8 Tryd.f8 rfl rfl rfl rfl rfl rfl rfl ⟨rfl, rfl, rfl, rfl, rfl⟩ rfl rfl rfl rfl rfl (by kernel_rfl) Tryd.func8 (by kernel_rfl)
    (of_decide_eq_true (by kernel_rfl)) (by unfold Func.isWrapper; first | (rw [if_pos (by decide +kernel)]; kernel_rfl) | (rw [if_neg (by decide +kernel)]; exact ⟨rfl, rfl⟩))
    (fun os started H enc _ => liftedPlanSteps os started H enc)
theorem planSteps_holds : Rows.PlanStepsCardSaid :=
  Claim7.holds_tied_plain_at .later [] [.data] true (true, "cb93009820026668c973c776d3a3ad9289f0db4997d613970f0fb548755e4c00") false
    planSteps_row (fun _ h => by cases h) (by kernel_rfl) (fun _ h => by cases h) planSteps_row_tie rfl ⟨rfl, rfl⟩ (by kernel_rfl) rfl
    (fun f fn hf hfn => by
      obtain rfl : f = 8 := Option.some.inj ((show Tryd.prog.funcNamed "coterie/coterielaw12.PlanSteps" = some 8 by kernel_rfl).symm.trans hf) |>.symm
      obtain rfl : fn = Tryd.f8 := (Option.some.inj (Tryd.func8.symm.trans hfn)).symm
      exact ⟨by kernel_rfl, fun j t ht => by
        rw [Tryd.params8] at ht
        have hm : t ∈ [31, 34] := by simpa using Array.mem_of_getElem? ht
        have hall : ([31, 34].all fun u => !Tryd.prog.wantsStandIn u) = true := by kernel_rfl
        exact (show Tryd.prog.wantsStandIn t = false by simpa using List.all_eq_true.1 hall t hm)⟩)
    (by kernel_rfl)
#print axioms planSteps_holds
end Go.Proofs.YtodgcmakdndbfaaDoor
