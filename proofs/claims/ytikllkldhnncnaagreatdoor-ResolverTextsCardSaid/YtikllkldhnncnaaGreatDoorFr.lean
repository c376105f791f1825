/- For every input the law keyeventlaw40.ResolverTexts returns true and leaves its arguments as they were: the row and its tied card. Conditions: the row's own (the listed variables of the library are laid as the program text lays them). -/
import Derived.Test.YtikllkldhnncnaaGreatDoorFq
set_option linter.all false
namespace Go.Proofs.YtikllkldhnncnaaGreatDoor
open Go.ChangeShapes Go.WideShapes Go.ChangeAt Go.RowKit
set_option maxRecDepth 100000
theorem said : Rows.ResolverTextsSaid :=
  OpenClaim.holds_of_wide 3 Tryz.f3 rfl rfl rfl rfl rfl rfl rfl ⟨rfl, rfl, rfl, rfl, rfl⟩ rfl rfl rfl rfl rfl c1 Tryz.func3 c2 c3 c4
    (fun os started H enc _ => lifted os started H enc)
theorem card : Rows.ResolverTextsCardSaid :=
  Claim7.holds_tied_plain_at .later [] _ _ _ _ said (fun _ h => by cases h) (by kernel_rfl) (fun _ h => by cases h) resolverTexts_row_tie rfl ⟨rfl, rfl⟩ (by kernel_rfl) rfl plain (by kernel_rfl)
end Go.Proofs.YtikllkldhnncnaaGreatDoor
