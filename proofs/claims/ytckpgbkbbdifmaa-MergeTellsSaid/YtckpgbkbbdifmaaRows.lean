/-
  No cell of these rows narrows 'for every input' (looked for: loops, veiled, ifaces, maps, wideKeys, modest, calm, conditions, laid).
  DERIVED. THE GIVEN ROWS OF THIS SEAT. 5 by the template 'for every input the law returns true; each argument reads behind the call as it read before'; 0 by the template 'total and deterministic' (their statements: YtckpgbkbbdifmaaTotals.lean).
  GIVEN WITH THE SEED: the statements are not yours to turn. If you find one false, say at which input.
  Laid BY PROGRAM, IN A SANDBOX (cutbox-rows.mjs): the forced cells as the released guide's own fill.sh prints them over the translation 8c81071a3259d22b… (all of the seat's roots in one cut). By AI agents, Wed Nov 11 2026. No macro, syntax, notation, axiom, sorry.
-/
import Derived.Test.YtckpgbkbbdifmaaChecked
import GoSem.Claim
import GoSem.ClaimJoined
import GoSem.ClaimMapViews
import Derived.JoinedTies
import Derived.KernelRfl
namespace Go.Proofs.Ytckpgbkbbdifmaa
/- THE CELL 'sum', in the pinned program and in every row, IS THE sha256 OF THE DUMP (.gsa) THAT YtckpgbkbbdifmaaProg.lean LOADS. Nothing in Lean hashes anything: it is a label: what it is worth is what the hold of that sum in a sandbox is worth. -/
noncomputable def Try.pinned : Pinned := { name := "ytckpgbkbbdifmaa", sum := "8c81071a3259d22b7e236ad464a14437270a0b0117f553d3243dbfa5ec33729f", checked := Try.checked }
namespace Rows
def none {H : Type} : Left H := { results := [], args := [] }

/-- 'tendrillaw21.MergeRuns': WHATEVER THE INPUT: true; the input reads as it did. -/
def mergeRunsSpec : ChangeSpec := { name := "mergeRuns", fn := fun _ => fun
  | [] => { results := [.lit (.bool true)], args := [] }
  | _ => none }
def mergeRunsRow : OpenClaim := { program := "ytckpgbkbbdifmaa", sum := "8c81071a3259d22b7e236ad464a14437270a0b0117f553d3243dbfa5ec33729f", func := "tendril/tendrillaw21.MergeRuns", spec := "mergeRuns", unfollowed := true, recurses := true, apart := false }
def MergeRunsSaid : Prop := mergeRunsRow.holds Try.pinned (OpenSpec.ofChange mergeRunsSpec)

/-- ITS FALSE NEIGHBOUR: 'it returns false'. Refute it at one input. -/
def mergeRunsWrong : ChangeSpec := { name := "mergeRuns", fn := fun _ => fun
  | [] => { results := [.lit (.bool false)], args := [] }
  | _ => none }
def MergeRunsWrongFalsely : Prop := mergeRunsRow.holds Try.pinned (OpenSpec.ofChange mergeRunsWrong)

/-- 'tendrillaw21.MergeTells': WHATEVER THE INPUT: true; the input reads as it did. -/
def mergeTellsSpec : ChangeSpec := { name := "mergeTells", fn := fun _ => fun
  | [d1, d2] => { results := [.lit (.bool true)], args := [d1, d2] }
  | _ => none }
def mergeTellsRow : OpenClaim := { program := "ytckpgbkbbdifmaa", sum := "8c81071a3259d22b7e236ad464a14437270a0b0117f553d3243dbfa5ec33729f", func := "tendril/tendrillaw21.MergeTells", spec := "mergeTells", unfollowed := true, recurses := true, apart := false }
def MergeTellsSaid : Prop := mergeTellsRow.holds Try.pinned (OpenSpec.ofChange mergeTellsSpec)

/-- ITS FALSE NEIGHBOUR: 'it returns false'. Refute it at one input. -/
def mergeTellsWrong : ChangeSpec := { name := "mergeTells", fn := fun _ => fun
  | [d1, d2] => { results := [.lit (.bool false)], args := [d1, d2] }
  | _ => none }
def MergeTellsWrongFalsely : Prop := mergeTellsRow.holds Try.pinned (OpenSpec.ofChange mergeTellsWrong)

/-- 'tendrillaw21.MergeLaws': WHATEVER THE INPUT: true; the input reads as it did. -/
def mergeLawsSpec : ChangeSpec := { name := "mergeLaws", fn := fun _ => fun
  | [d1, d2, d3] => { results := [.lit (.bool true)], args := [d1, d2, d3] }
  | _ => none }
def mergeLawsRow : OpenClaim := { program := "ytckpgbkbbdifmaa", sum := "8c81071a3259d22b7e236ad464a14437270a0b0117f553d3243dbfa5ec33729f", func := "tendril/tendrillaw21.MergeLaws", spec := "mergeLaws", unfollowed := true, recurses := true, apart := false }
def MergeLawsSaid : Prop := mergeLawsRow.holds Try.pinned (OpenSpec.ofChange mergeLawsSpec)

/-- ITS FALSE NEIGHBOUR: 'it returns false'. Refute it at one input. -/
def mergeLawsWrong : ChangeSpec := { name := "mergeLaws", fn := fun _ => fun
  | [d1, d2, d3] => { results := [.lit (.bool false)], args := [d1, d2, d3] }
  | _ => none }
def MergeLawsWrongFalsely : Prop := mergeLawsRow.holds Try.pinned (OpenSpec.ofChange mergeLawsWrong)

/-- 'tendrillaw21.MergeFirst': WHATEVER THE INPUT: true; the input reads as it did. -/
def mergeFirstSpec : ChangeSpec := { name := "mergeFirst", fn := fun _ => fun
  | [d1, d2] => { results := [.lit (.bool true)], args := [d1, d2] }
  | _ => none }
def mergeFirstRow : OpenClaim := { program := "ytckpgbkbbdifmaa", sum := "8c81071a3259d22b7e236ad464a14437270a0b0117f553d3243dbfa5ec33729f", func := "tendril/tendrillaw21.MergeFirst", spec := "mergeFirst", unfollowed := true, recurses := true, apart := false }
def MergeFirstSaid : Prop := mergeFirstRow.holds Try.pinned (OpenSpec.ofChange mergeFirstSpec)

/-- ITS FALSE NEIGHBOUR: 'it returns false'. Refute it at one input. -/
def mergeFirstWrong : ChangeSpec := { name := "mergeFirst", fn := fun _ => fun
  | [d1, d2] => { results := [.lit (.bool false)], args := [d1, d2] }
  | _ => none }
def MergeFirstWrongFalsely : Prop := mergeFirstRow.holds Try.pinned (OpenSpec.ofChange mergeFirstWrong)

/-- 'tendrillaw21.MergeSelf': WHATEVER THE INPUT: true; the input reads as it did. -/
def mergeSelfSpec : ChangeSpec := { name := "mergeSelf", fn := fun _ => fun
  | [d] => { results := [.lit (.bool true)], args := [d] }
  | _ => none }
def mergeSelfRow : OpenClaim := { program := "ytckpgbkbbdifmaa", sum := "8c81071a3259d22b7e236ad464a14437270a0b0117f553d3243dbfa5ec33729f", func := "tendril/tendrillaw21.MergeSelf", spec := "mergeSelf", unfollowed := true, recurses := true, apart := false }
def MergeSelfSaid : Prop := mergeSelfRow.holds Try.pinned (OpenSpec.ofChange mergeSelfSpec)

/-- ITS FALSE NEIGHBOUR: 'it returns false'. Refute it at one input. -/
def mergeSelfWrong : ChangeSpec := { name := "mergeSelf", fn := fun _ => fun
  | [d] => { results := [.lit (.bool false)], args := [d] }
  | _ => none }
def MergeSelfWrongFalsely : Prop := mergeSelfRow.holds Try.pinned (OpenSpec.ofChange mergeSelfWrong)

/- THE SECOND FORM. 'bulk': how many values and letters a reading holds, each counted each time it is reached (what is shared counts as often as it is met; a slice's spare places count too). A statement '..UptoSaid' is the law's where the arguments, and the package variables that the reading takes, are together of bulk at most 1048576: NARROWER than '..Said'. Prove '..Said' where nothing that the law and all that it calls make is longer than what came in: it says more and counts as full. Else prove '..UptoSaid'. A law counts once. -/
mutual
def uptoBulk {H : Type} : DataW H → Nat
  | .lit (.string bytes) => bytes.length + 1
  | .lit _ => 1
  | .nil => 1
  | .ptr d => uptoBulk d + 1
  | .slice elems spare => uptoBulkAll elems + uptoBulkAll spare + 1
  | .agg parts => uptoBulkAll parts + 1
  | .iface _ d => uptoBulk d + 1
  | .map entries => uptoBulkEntries entries + 1
  | .held _ => 1
def uptoBulkAll {H : Type} : List (DataW H) → Nat
  | [] => 0
  | d :: r => uptoBulk d + uptoBulkAll r
def uptoBulkEntries {H : Type} : List (Lit × DataW H) → Nat
  | [] => 0
  | x :: r => uptoBulkEntry x + uptoBulkEntries r
def uptoBulkEntry {H : Type} : Lit × DataW H → Nat
  | (.string bytes, d) => bytes.length + uptoBulk d + 1
  | (_, d) => uptoBulk d + 1
 end
def uptoSmall : (H : Type) → List (DataW H) → Bool := fun _ ds => decide (uptoBulkAll ds ≤ 1048576)
def OpenSpec.upto (s : _root_.Go.ChangeSpec) : _root_.Go.OpenSpec := { _root_.Go.OpenSpec.ofChange s with cond := some uptoSmall }

/-- 'tendrillaw21.MergeRuns', WHERE WHAT IT READS IS OF BULK AT MOST 1048576: true; the input reads as it did. -/
def mergeRunsUptoRow : OpenClaim := { program := "ytckpgbkbbdifmaa", sum := "8c81071a3259d22b7e236ad464a14437270a0b0117f553d3243dbfa5ec33729f", func := "tendril/tendrillaw21.MergeRuns", spec := "mergeRuns", unfollowed := true, recurses := true, apart := false, narrowed := true }
def MergeRunsUptoSaid : Prop := mergeRunsUptoRow.holds Try.pinned (OpenSpec.upto mergeRunsSpec)

/-- 'tendrillaw21.MergeTells', WHERE WHAT IT READS IS OF BULK AT MOST 1048576: true; the input reads as it did. -/
def mergeTellsUptoRow : OpenClaim := { program := "ytckpgbkbbdifmaa", sum := "8c81071a3259d22b7e236ad464a14437270a0b0117f553d3243dbfa5ec33729f", func := "tendril/tendrillaw21.MergeTells", spec := "mergeTells", unfollowed := true, recurses := true, apart := false, narrowed := true }
def MergeTellsUptoSaid : Prop := mergeTellsUptoRow.holds Try.pinned (OpenSpec.upto mergeTellsSpec)

/-- 'tendrillaw21.MergeLaws', WHERE WHAT IT READS IS OF BULK AT MOST 1048576: true; the input reads as it did. -/
def mergeLawsUptoRow : OpenClaim := { program := "ytckpgbkbbdifmaa", sum := "8c81071a3259d22b7e236ad464a14437270a0b0117f553d3243dbfa5ec33729f", func := "tendril/tendrillaw21.MergeLaws", spec := "mergeLaws", unfollowed := true, recurses := true, apart := false, narrowed := true }
def MergeLawsUptoSaid : Prop := mergeLawsUptoRow.holds Try.pinned (OpenSpec.upto mergeLawsSpec)

/-- 'tendrillaw21.MergeFirst', WHERE WHAT IT READS IS OF BULK AT MOST 1048576: true; the input reads as it did. -/
def mergeFirstUptoRow : OpenClaim := { program := "ytckpgbkbbdifmaa", sum := "8c81071a3259d22b7e236ad464a14437270a0b0117f553d3243dbfa5ec33729f", func := "tendril/tendrillaw21.MergeFirst", spec := "mergeFirst", unfollowed := true, recurses := true, apart := false, narrowed := true }
def MergeFirstUptoSaid : Prop := mergeFirstUptoRow.holds Try.pinned (OpenSpec.upto mergeFirstSpec)

/-- 'tendrillaw21.MergeSelf', WHERE WHAT IT READS IS OF BULK AT MOST 1048576: true; the input reads as it did. -/
def mergeSelfUptoRow : OpenClaim := { program := "ytckpgbkbbdifmaa", sum := "8c81071a3259d22b7e236ad464a14437270a0b0117f553d3243dbfa5ec33729f", func := "tendril/tendrillaw21.MergeSelf", spec := "mergeSelf", unfollowed := true, recurses := true, apart := false, narrowed := true }
def MergeSelfUptoSaid : Prop := mergeSelfUptoRow.holds Try.pinned (OpenSpec.upto mergeSelfSpec)

end Rows
end Go.Proofs.Ytckpgbkbbdifmaa
