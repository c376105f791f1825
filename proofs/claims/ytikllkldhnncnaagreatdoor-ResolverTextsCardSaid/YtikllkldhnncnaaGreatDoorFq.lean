/- The law ResolverTexts: the row's closed facts. -/
import Derived.Test.YtikllkldhnncnaaGreatDoorFp
set_option linter.all false
namespace Go.Proofs.YtikllkldhnncnaaGreatDoor
open Go.ChangeShapes Go.WideShapes Go.ChangeAt Go.RowKit
set_option maxRecDepth 100000
theorem lifted (os : Os) (started : os.Started) (H : Type) (enc : TypeId × Value → H) :
    ReturnsInHanded {} Tryz.checked os 3 .any (fun w args => (Rows.resolverTextsSpec.pre enc Tryz.prog Tryz.f3 [] false w args ∧ laidMetH Tryz.prog Rows.resolverTextsRow.laid w) ∧ sizedMet enc Tryz.prog Tryz.f3 (OpenSpec.ofChange Rows.resolverTextsSpec) false w args)
      (Rows.resolverTextsSpec.post enc Tryz.prog Tryz.f3 false true false false) := by
  refine returnsInHanded_of_change_and (C := Tryz.checked) (X := fun w _ => laidMetH Tryz.prog Rows.resolverTextsRow.laid w) (fun _ _ _ hh h => h.of_heap hh) own started (by kernel_rfl) Tryz.func3
    (ChangeSpec.witness_shaped (enc := enc) (C := Tryz.checked) (os := os) (X := fun w _ => laidMetH Tryz.prog Rows.resolverTextsRow.laid w) false (World.laidAll Tryz.prog os Rows.resolverTextsRow.laid) #[.slice none 0 0, .string ⟨#[]⟩, .string ⟨#[]⟩, .string ⟨#[]⟩, .int .u8 0, .int .u8 0] 8 (World.laidAll_os _ _ _)
      (World.shaped_of_ZipB (by kernel_rfl) (by kernel_rfl)) (by kernel_rfl) (by kernel_rfl) (by kernel_rfl)
      (by rw [MakeChecks.laidMetH_plain _ _ _ (by kernel_rfl)]; exact laidMet_laidAll _ (by kernel_rfl) (by kernel_rfl))) ?_
  intro W base args ds gs before hval hW _ hsz _ _
  exact contract H enc W base args ds gs before hval hW hsz
theorem c1 : Tryz.pinned.checked.prog.funcNamed Rows.resolverTextsRow.func = some 3 := by kernel_rfl
theorem c2 : joinedFacts Tryz.pinned.checked.prog 3 Tryz.f3 Rows.resolverTextsSpec Rows.resolverTextsRow = true := by kernel_rfl
theorem c3 : Tryz.f3.isInstance Tryz.pinned.checked.prog Rows.resolverTextsRow.origin Rows.resolverTextsRow.targs := of_decide_eq_true (by kernel_rfl)
theorem c4 : Tryz.f3.isWrapper Tryz.pinned.checked.prog Rows.resolverTextsRow.wrapper Rows.resolverTextsRow.mainSum := by unfold Func.isWrapper; first | (rw [if_pos (by decide +kernel)]; kernel_rfl) | (rw [if_neg (by decide +kernel)]; exact ⟨rfl, rfl⟩)
theorem plain (f : FuncId) (fn : Func) (hf : Tryz.pinned.checked.prog.funcNamed "keyevent/keyeventlaw40.ResolverTexts" = some f) (hfn : Tryz.pinned.checked.prog.funcs[f]? = some fn) :
    true = Tryz.pinned.checked.prog.looks [] ∧ ∀ (j : Nat) t, fn.params[j]? = some t → Tryz.pinned.checked.prog.wantsStandIn t = false := by
  obtain rfl : f = 3 := Option.some.inj ((show Tryz.prog.funcNamed "keyevent/keyeventlaw40.ResolverTexts" = some 3 by kernel_rfl).symm.trans hf) |>.symm
  obtain rfl : fn = Tryz.f3 := (Option.some.inj (Tryz.func3.symm.trans hfn)).symm
  refine ⟨by kernel_rfl, fun j t ht => ?_⟩
  rw [Tryz.params3] at ht
  have hm : t ∈ [22, 9, 9, 9, 5, 5] := by simpa using Array.mem_of_getElem? ht
  have hall : ([22, 9, 9, 9, 5, 5].all fun u => !Tryz.prog.wantsStandIn u) = true := by kernel_rfl
  exact (show Tryz.prog.wantsStandIn t = false by simpa using List.all_eq_true.1 hall t hm)
end Go.Proofs.YtikllkldhnncnaaGreatDoor
