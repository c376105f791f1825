/- A partial table of the program's types. -/
import Derived.Test.YtikllkldhnncnaaGreatDoorAe
set_option linter.all false
namespace Go.Aw
/-- What is known of the program's types. -/
structure Tab where
  tk : Nat → Option TK
  sz : Nat → Option Nat
  by_ : Nat → Option Nat
  ze : Nat → Option (List AV)
  zv : Nat → Option AV
structure TabOk (P : Program) (T : Tab) : Prop where
  tk : ∀ {t k}, T.tk t = some k → Aw.tk P t = some k
  sz : ∀ {t k}, T.sz t = some k → szT P t = some k
  by_ : ∀ {t k}, T.by_ t = some k → byT P t = some k
  ze : ∀ {t k}, T.ze t = some k → zeT P t = some k
  zv : ∀ {t k}, T.zv t = some k → zeV P t = some k

end Go.Aw
