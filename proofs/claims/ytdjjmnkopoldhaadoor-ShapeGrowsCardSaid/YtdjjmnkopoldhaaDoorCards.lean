/-
  DERIVED. GIVEN WITH THE SEED: THE CARDS: each row of YtdjjmnkopoldhaaDoorRows.lean that lists a variable, with what it lists TIED to the program's text (the seventh form; the later family's looks); each row that meets fmt, with fmt's text TOLD by the authors' own Lean function (tested against real Go, not proved from fmt's source: count such statements apart). THE CARD IS WHAT COUNTS. Prove the row's statement (the work); the ties are given (YtdjjmnkopoldhaaDoorTie.lean); close each card by the builder's one call (the guide's Derived/Test/ToyasCard.lean, 'card_holds'). Laid BY PROGRAM, IN A SANDBOX (cutbox-door.mjs). By AI agents, Wed Nov 11 2026. No macro, syntax, notation, axiom, sorry.
-/
import Derived.Test.YtdjjmnkopoldhaaDoorRows
import GoSem.ClaimSeven
namespace Go.Proofs.YtdjjmnkopoldhaaDoor
namespace Rows

/-- THE TIED CARD OF 'tendrillaw8.ShapeRuns'. -/
def shapeRunsCard : Claim7 := { stood := { row := shapeRunsRow, standIns := [], harness := (true, "29ee579d745f70bf791a9445bb4d7f3299b09fc95b3ed22776cb9c3bfad44d91"), looks := false }, kinds := [], alts := [], laidByText := true, laidKinds := [.data, .data, .data], laidTests := true, laidLooks := .later }
def ShapeRunsCardSaid : Prop := Claim7.holds Tryd.pinned (.plain (OpenSpec.ofChange shapeRunsSpec)) shapeRunsCard

/-- THE TIED CARD OF 'tendrillaw8.ShapeTells'. -/
def shapeTellsCard : Claim7 := { stood := { row := shapeTellsRow, standIns := [], harness := (true, "29ee579d745f70bf791a9445bb4d7f3299b09fc95b3ed22776cb9c3bfad44d91"), looks := false }, kinds := [], alts := [], laidByText := true, laidKinds := [.data, .data, .data], laidTests := true, laidLooks := .later }
def ShapeTellsCardSaid : Prop := Claim7.holds Tryd.pinned (.plain (OpenSpec.ofChange shapeTellsSpec)) shapeTellsCard

/-- THE TIED CARD OF 'tendrillaw8.ShapeOne'. -/
def shapeOneCard : Claim7 := { stood := { row := shapeOneRow, standIns := [], harness := (true, "29ee579d745f70bf791a9445bb4d7f3299b09fc95b3ed22776cb9c3bfad44d91"), looks := false }, kinds := [], alts := [], laidByText := true, laidKinds := [.data, .data, .data], laidTests := true, laidLooks := .later }
def ShapeOneCardSaid : Prop := Claim7.holds Tryd.pinned (.plain (OpenSpec.ofChange shapeOneSpec)) shapeOneCard

/-- THE TIED CARD OF 'tendrillaw8.ShapeSeeks'. -/
def shapeSeeksCard : Claim7 := { stood := { row := shapeSeeksRow, standIns := [], harness := (true, "29ee579d745f70bf791a9445bb4d7f3299b09fc95b3ed22776cb9c3bfad44d91"), looks := false }, kinds := [], alts := [], laidByText := true, laidKinds := [.data, .data, .data], laidTests := true, laidLooks := .later }
def ShapeSeeksCardSaid : Prop := Claim7.holds Tryd.pinned (.plain (OpenSpec.ofChange shapeSeeksSpec)) shapeSeeksCard

/-- THE TIED CARD OF 'tendrillaw8.ShapeGrows'. -/
def shapeGrowsCard : Claim7 := { stood := { row := shapeGrowsRow, standIns := [], harness := (true, "29ee579d745f70bf791a9445bb4d7f3299b09fc95b3ed22776cb9c3bfad44d91"), looks := false }, kinds := [], alts := [], laidByText := true, laidKinds := [.data, .data, .data], laidTests := true, laidLooks := .later }
def ShapeGrowsCardSaid : Prop := Claim7.holds Tryd.pinned (.plain (OpenSpec.ofChange shapeGrowsSpec)) shapeGrowsCard

/-- THE TIED CARD OF 'tendrillaw8.ShapePuts'. -/
def shapePutsCard : Claim7 := { stood := { row := shapePutsRow, standIns := [], harness := (true, "29ee579d745f70bf791a9445bb4d7f3299b09fc95b3ed22776cb9c3bfad44d91"), looks := false }, kinds := [], alts := [], laidByText := true, laidKinds := [.data, .data, .data], laidTests := true, laidLooks := .later }
def ShapePutsCardSaid : Prop := Claim7.holds Tryd.pinned (.plain (OpenSpec.ofChange shapePutsSpec)) shapePutsCard

/-- THE SECOND FORM's CARD OF 'tendrillaw8.ShapeRuns'. -/
def shapeRunsUptoCard : Claim7 := { stood := { row := shapeRunsUptoRow, standIns := [], harness := (true, "29ee579d745f70bf791a9445bb4d7f3299b09fc95b3ed22776cb9c3bfad44d91"), looks := false }, kinds := [], alts := [], laidByText := true, laidKinds := [.data, .data, .data], laidTests := true, laidLooks := .later }
def ShapeRunsUptoCardSaid : Prop := Claim7.holds Tryd.pinned (.plain (OpenSpec.upto shapeRunsSpec)) shapeRunsUptoCard

/-- THE SECOND FORM's CARD OF 'tendrillaw8.ShapeTells'. -/
def shapeTellsUptoCard : Claim7 := { stood := { row := shapeTellsUptoRow, standIns := [], harness := (true, "29ee579d745f70bf791a9445bb4d7f3299b09fc95b3ed22776cb9c3bfad44d91"), looks := false }, kinds := [], alts := [], laidByText := true, laidKinds := [.data, .data, .data], laidTests := true, laidLooks := .later }
def ShapeTellsUptoCardSaid : Prop := Claim7.holds Tryd.pinned (.plain (OpenSpec.upto shapeTellsSpec)) shapeTellsUptoCard

/-- THE SECOND FORM's CARD OF 'tendrillaw8.ShapeOne'. -/
def shapeOneUptoCard : Claim7 := { stood := { row := shapeOneUptoRow, standIns := [], harness := (true, "29ee579d745f70bf791a9445bb4d7f3299b09fc95b3ed22776cb9c3bfad44d91"), looks := false }, kinds := [], alts := [], laidByText := true, laidKinds := [.data, .data, .data], laidTests := true, laidLooks := .later }
def ShapeOneUptoCardSaid : Prop := Claim7.holds Tryd.pinned (.plain (OpenSpec.upto shapeOneSpec)) shapeOneUptoCard

/-- THE SECOND FORM's CARD OF 'tendrillaw8.ShapeSeeks'. -/
def shapeSeeksUptoCard : Claim7 := { stood := { row := shapeSeeksUptoRow, standIns := [], harness := (true, "29ee579d745f70bf791a9445bb4d7f3299b09fc95b3ed22776cb9c3bfad44d91"), looks := false }, kinds := [], alts := [], laidByText := true, laidKinds := [.data, .data, .data], laidTests := true, laidLooks := .later }
def ShapeSeeksUptoCardSaid : Prop := Claim7.holds Tryd.pinned (.plain (OpenSpec.upto shapeSeeksSpec)) shapeSeeksUptoCard

/-- THE SECOND FORM's CARD OF 'tendrillaw8.ShapeGrows'. -/
def shapeGrowsUptoCard : Claim7 := { stood := { row := shapeGrowsUptoRow, standIns := [], harness := (true, "29ee579d745f70bf791a9445bb4d7f3299b09fc95b3ed22776cb9c3bfad44d91"), looks := false }, kinds := [], alts := [], laidByText := true, laidKinds := [.data, .data, .data], laidTests := true, laidLooks := .later }
def ShapeGrowsUptoCardSaid : Prop := Claim7.holds Tryd.pinned (.plain (OpenSpec.upto shapeGrowsSpec)) shapeGrowsUptoCard

/-- THE SECOND FORM's CARD OF 'tendrillaw8.ShapePuts'. -/
def shapePutsUptoCard : Claim7 := { stood := { row := shapePutsUptoRow, standIns := [], harness := (true, "29ee579d745f70bf791a9445bb4d7f3299b09fc95b3ed22776cb9c3bfad44d91"), looks := false }, kinds := [], alts := [], laidByText := true, laidKinds := [.data, .data, .data], laidTests := true, laidLooks := .later }
def ShapePutsUptoCardSaid : Prop := Claim7.holds Tryd.pinned (.plain (OpenSpec.upto shapePutsSpec)) shapePutsUptoCard
end Rows
end Go.Proofs.YtdjjmnkopoldhaaDoor
