/-
  No cell of these rows narrows 'for every input' (looked for: loops, veiled, ifaces, maps, wideKeys, modest, calm, conditions, laid).
  DERIVED. THE GIVEN ROWS OF THIS SEAT. 5 by the template 'for every input the law returns true; each argument reads behind the call as it read before'; 0 by the template 'total and deterministic' (their statements: YtfiokeahehkelaaTotals.lean).
  GIVEN WITH THE SEED: the statements are not yours to turn. If you find one false, say at which input.
  Laid BY PROGRAM, IN A SANDBOX (cutbox-rows.mjs): the forced cells as the released guide's own fill.sh prints them over the translation 3b13f758281d7426… (all of the seat's roots in one cut). By AI agents, Wed Nov 11 2026. No macro, syntax, notation, axiom, sorry.
-/
import Derived.Test.YtfiokeahehkelaaChecked
import GoSem.Claim
import GoSem.ClaimJoined
import GoSem.ClaimMapViews
import Derived.JoinedTies
import Derived.KernelRfl
namespace Go.Proofs.Ytfiokeahehkelaa
/- THE CELL 'sum', in the pinned program and in every row, IS THE sha256 OF THE DUMP (.gsa) THAT YtfiokeahehkelaaProg.lean LOADS. Nothing in Lean hashes anything: it is a label: what it is worth is what the hold of that sum in a sandbox is worth. -/
noncomputable def Try.pinned : Pinned := { name := "ytfiokeahehkelaa", sum := "3b13f758281d74263e6f8f1711dad40a3a6000bc1c1bd159d584dc046ef0e7b1", checked := Try.checked }
namespace Rows
def none {H : Type} : Left H := { results := [], args := [] }

/-- 'tendrillaw5.EpochRuns': WHATEVER THE INPUT: true; the input reads as it did. -/
def epochRunsSpec : ChangeSpec := { name := "epochRuns", fn := fun _ => fun
  | [] => { results := [.lit (.bool true)], args := [] }
  | _ => none }
def epochRunsRow : OpenClaim := { program := "ytfiokeahehkelaa", sum := "3b13f758281d74263e6f8f1711dad40a3a6000bc1c1bd159d584dc046ef0e7b1", func := "tendril/tendrillaw5.EpochRuns", spec := "epochRuns", apart := false }
def EpochRunsSaid : Prop := epochRunsRow.holds Try.pinned (OpenSpec.ofChange epochRunsSpec)

/-- ITS FALSE NEIGHBOUR: 'it returns false'. Refute it at one input. -/
def epochRunsWrong : ChangeSpec := { name := "epochRuns", fn := fun _ => fun
  | [] => { results := [.lit (.bool false)], args := [] }
  | _ => none }
def EpochRunsWrongFalsely : Prop := epochRunsRow.holds Try.pinned (OpenSpec.ofChange epochRunsWrong)

/-- 'tendrillaw5.EpochPins': WHATEVER THE INPUT: true; the input reads as it did. -/
def epochPinsSpec : ChangeSpec := { name := "epochPins", fn := fun _ => fun
  | [d1, d2] => { results := [.lit (.bool true)], args := [d1, d2] }
  | _ => none }
def epochPinsRow : OpenClaim := { program := "ytfiokeahehkelaa", sum := "3b13f758281d74263e6f8f1711dad40a3a6000bc1c1bd159d584dc046ef0e7b1", func := "tendril/tendrillaw5.EpochPins", spec := "epochPins", apart := false }
def EpochPinsSaid : Prop := epochPinsRow.holds Try.pinned (OpenSpec.ofChange epochPinsSpec)

/-- ITS FALSE NEIGHBOUR: 'it returns false'. Refute it at one input. -/
def epochPinsWrong : ChangeSpec := { name := "epochPins", fn := fun _ => fun
  | [d1, d2] => { results := [.lit (.bool false)], args := [d1, d2] }
  | _ => none }
def EpochPinsWrongFalsely : Prop := epochPinsRow.holds Try.pinned (OpenSpec.ofChange epochPinsWrong)

/-- 'tendrillaw5.EpochPlays': WHATEVER THE INPUT: true; the input reads as it did. -/
def epochPlaysSpec : ChangeSpec := { name := "epochPlays", fn := fun _ => fun
  | [d1, d2, d3] => { results := [.lit (.bool true)], args := [d1, d2, d3] }
  | _ => none }
def epochPlaysRow : OpenClaim := { program := "ytfiokeahehkelaa", sum := "3b13f758281d74263e6f8f1711dad40a3a6000bc1c1bd159d584dc046ef0e7b1", func := "tendril/tendrillaw5.EpochPlays", spec := "epochPlays", apart := false }
def EpochPlaysSaid : Prop := epochPlaysRow.holds Try.pinned (OpenSpec.ofChange epochPlaysSpec)

/-- ITS FALSE NEIGHBOUR: 'it returns false'. Refute it at one input. -/
def epochPlaysWrong : ChangeSpec := { name := "epochPlays", fn := fun _ => fun
  | [d1, d2, d3] => { results := [.lit (.bool false)], args := [d1, d2, d3] }
  | _ => none }
def EpochPlaysWrongFalsely : Prop := epochPlaysRow.holds Try.pinned (OpenSpec.ofChange epochPlaysWrong)

/-- 'tendrillaw5.EpochWaits': WHATEVER THE INPUT: true; the input reads as it did. -/
def epochWaitsSpec : ChangeSpec := { name := "epochWaits", fn := fun _ => fun
  | [d1, d2] => { results := [.lit (.bool true)], args := [d1, d2] }
  | _ => none }
def epochWaitsRow : OpenClaim := { program := "ytfiokeahehkelaa", sum := "3b13f758281d74263e6f8f1711dad40a3a6000bc1c1bd159d584dc046ef0e7b1", func := "tendril/tendrillaw5.EpochWaits", spec := "epochWaits", apart := false }
def EpochWaitsSaid : Prop := epochWaitsRow.holds Try.pinned (OpenSpec.ofChange epochWaitsSpec)

/-- ITS FALSE NEIGHBOUR: 'it returns false'. Refute it at one input. -/
def epochWaitsWrong : ChangeSpec := { name := "epochWaits", fn := fun _ => fun
  | [d1, d2] => { results := [.lit (.bool false)], args := [d1, d2] }
  | _ => none }
def EpochWaitsWrongFalsely : Prop := epochWaitsRow.holds Try.pinned (OpenSpec.ofChange epochWaitsWrong)

/-- 'tendrillaw5.EpochApart': WHATEVER THE INPUT: true; the input reads as it did. -/
def epochApartSpec : ChangeSpec := { name := "epochApart", fn := fun _ => fun
  | [d1, d2, d3] => { results := [.lit (.bool true)], args := [d1, d2, d3] }
  | _ => none }
def epochApartRow : OpenClaim := { program := "ytfiokeahehkelaa", sum := "3b13f758281d74263e6f8f1711dad40a3a6000bc1c1bd159d584dc046ef0e7b1", func := "tendril/tendrillaw5.EpochApart", spec := "epochApart", apart := false }
def EpochApartSaid : Prop := epochApartRow.holds Try.pinned (OpenSpec.ofChange epochApartSpec)

/-- ITS FALSE NEIGHBOUR: 'it returns false'. Refute it at one input. -/
def epochApartWrong : ChangeSpec := { name := "epochApart", fn := fun _ => fun
  | [d1, d2, d3] => { results := [.lit (.bool false)], args := [d1, d2, d3] }
  | _ => none }
def EpochApartWrongFalsely : Prop := epochApartRow.holds Try.pinned (OpenSpec.ofChange epochApartWrong)

/- THE SECOND FORM. 'bulk': how many values and letters a reading holds, each counted each time it is reached (what is shared counts as often as it is met; a slice's spare places count too). A statement '..UptoSaid' is the law's where the arguments, and the package variables that the reading takes, are together of bulk at most 1048576: NARROWER than '..Said'. Prove '..Said' where nothing that the law and all that it calls make is longer than what came in: it says more and counts as full. Else prove '..UptoSaid'. A law counts once. -/
mutual
def uptoBulk {H : Type} : DataW H → Nat
  | .lit (.string bytes) => bytes.length + 1
  | .lit _ => 1
  | .nil => 1
  | .ptr d => uptoBulk d + 1
  | .slice elems spare => uptoBulkAll elems + uptoBulkAll spare + 1
  | .agg parts => uptoBulkAll parts + 1
  | .iface _ d => uptoBulk d + 1
  | .map entries => uptoBulkEntries entries + 1
  | .held _ => 1
def uptoBulkAll {H : Type} : List (DataW H) → Nat
  | [] => 0
  | d :: r => uptoBulk d + uptoBulkAll r
def uptoBulkEntries {H : Type} : List (Lit × DataW H) → Nat
  | [] => 0
  | x :: r => uptoBulkEntry x + uptoBulkEntries r
def uptoBulkEntry {H : Type} : Lit × DataW H → Nat
  | (.string bytes, d) => bytes.length + uptoBulk d + 1
  | (_, d) => uptoBulk d + 1
 end
def uptoSmall : (H : Type) → List (DataW H) → Bool := fun _ ds => decide (uptoBulkAll ds ≤ 1048576)
def OpenSpec.upto (s : _root_.Go.ChangeSpec) : _root_.Go.OpenSpec := { _root_.Go.OpenSpec.ofChange s with cond := some uptoSmall }

/-- 'tendrillaw5.EpochRuns', WHERE WHAT IT READS IS OF BULK AT MOST 1048576: true; the input reads as it did. -/
def epochRunsUptoRow : OpenClaim := { program := "ytfiokeahehkelaa", sum := "3b13f758281d74263e6f8f1711dad40a3a6000bc1c1bd159d584dc046ef0e7b1", func := "tendril/tendrillaw5.EpochRuns", spec := "epochRuns", apart := false, narrowed := true }
def EpochRunsUptoSaid : Prop := epochRunsUptoRow.holds Try.pinned (OpenSpec.upto epochRunsSpec)

/-- 'tendrillaw5.EpochPins', WHERE WHAT IT READS IS OF BULK AT MOST 1048576: true; the input reads as it did. -/
def epochPinsUptoRow : OpenClaim := { program := "ytfiokeahehkelaa", sum := "3b13f758281d74263e6f8f1711dad40a3a6000bc1c1bd159d584dc046ef0e7b1", func := "tendril/tendrillaw5.EpochPins", spec := "epochPins", apart := false, narrowed := true }
def EpochPinsUptoSaid : Prop := epochPinsUptoRow.holds Try.pinned (OpenSpec.upto epochPinsSpec)

/-- 'tendrillaw5.EpochPlays', WHERE WHAT IT READS IS OF BULK AT MOST 1048576: true; the input reads as it did. -/
def epochPlaysUptoRow : OpenClaim := { program := "ytfiokeahehkelaa", sum := "3b13f758281d74263e6f8f1711dad40a3a6000bc1c1bd159d584dc046ef0e7b1", func := "tendril/tendrillaw5.EpochPlays", spec := "epochPlays", apart := false, narrowed := true }
def EpochPlaysUptoSaid : Prop := epochPlaysUptoRow.holds Try.pinned (OpenSpec.upto epochPlaysSpec)

/-- 'tendrillaw5.EpochWaits', WHERE WHAT IT READS IS OF BULK AT MOST 1048576: true; the input reads as it did. -/
def epochWaitsUptoRow : OpenClaim := { program := "ytfiokeahehkelaa", sum := "3b13f758281d74263e6f8f1711dad40a3a6000bc1c1bd159d584dc046ef0e7b1", func := "tendril/tendrillaw5.EpochWaits", spec := "epochWaits", apart := false, narrowed := true }
def EpochWaitsUptoSaid : Prop := epochWaitsUptoRow.holds Try.pinned (OpenSpec.upto epochWaitsSpec)

/-- 'tendrillaw5.EpochApart', WHERE WHAT IT READS IS OF BULK AT MOST 1048576: true; the input reads as it did. -/
def epochApartUptoRow : OpenClaim := { program := "ytfiokeahehkelaa", sum := "3b13f758281d74263e6f8f1711dad40a3a6000bc1c1bd159d584dc046ef0e7b1", func := "tendril/tendrillaw5.EpochApart", spec := "epochApart", apart := false, narrowed := true }
def EpochApartUptoSaid : Prop := epochApartUptoRow.holds Try.pinned (OpenSpec.upto epochApartSpec)

end Rows
end Go.Proofs.Ytfiokeahehkelaa
