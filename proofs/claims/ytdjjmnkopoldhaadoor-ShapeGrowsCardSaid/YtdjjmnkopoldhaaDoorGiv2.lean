import Derived.Test.YtdjjmnkopoldhaaDoorLShapeRuns
import Derived.WalkKit
import Derived.ProofKit
import Derived.Below
import Derived.WalkLawsBesides
import Derived.Deep.QuietTactic
import Derived.BigQuiet
import Derived.StillTailTactics
import Derived.Deep.AppendLies
import Derived.Deep.RegionHeld3
import Derived.KernelRfl
import Derived.BigRegion
import Derived.WalkSpells
import Derived.Deep.Slices
import Derived.Deep.Fields
import Derived.ChangeSame
import Derived.Deep.RegionLaw
import Derived.Deep.DrawnRows
namespace Go.Proofs.YtdjjmnkopoldhaaDoor.PLaw
open Go Go.RowKit Go.Proofs.YtdjjmnkopoldhaaDoorW.PrintWords Go.Proofs.YtdjjmnkopoldhaaDoorW.PrintLast Go.Proofs.YtdjjmnkopoldhaaDoorW.PrintMore 

set_option linter.unusedVariables false
set_option linter.unusedSimpArgs false
def tendrillaw8_ShapeRuns.f : Option (Bool) := some true
theorem tendrillaw8_ShapeRuns.calls (r : Bool) (w : World) (h : tendrillaw8_ShapeRuns.f = some r) : Calls Tryd.prog 3 #[] w fun e w' => e = .returned (.bool r) ∧ Below w.heap.size w w' := by
  have h2 : true = r := Option.some.inj h
  subst h2
  exact PBase.tendrillaw8_ShapeRuns.walk ⟨2000, by decide +kernel⟩ w
end Go.Proofs.YtdjjmnkopoldhaaDoor.PLaw
