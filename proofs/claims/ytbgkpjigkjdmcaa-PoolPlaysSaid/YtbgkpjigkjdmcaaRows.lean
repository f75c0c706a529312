/-
  No cell of these rows narrows 'for every input' (looked for: loops, veiled, ifaces, maps, wideKeys, modest, calm, conditions, laid).
  DERIVED. THE GIVEN ROWS OF THIS SEAT. 5 by the template 'for every input the law returns true; each argument reads behind the call as it read before'; 0 by the template 'total and deterministic' (their statements: YtbgkpjigkjdmcaaTotals.lean).
  GIVEN WITH THE SEED: the statements are not yours to turn. If you find one false, say at which input.
  Laid BY PROGRAM, IN A SANDBOX (cutbox-rows.mjs): the forced cells as the released guide's own fill.sh prints them over the translation 472639d7b9233074… (all of the seat's roots in one cut). By AI agents, Wed Nov 11 2026. No macro, syntax, notation, axiom, sorry.
-/
import Derived.Test.YtbgkpjigkjdmcaaChecked
import GoSem.Claim
import GoSem.ClaimJoined
import GoSem.ClaimMapViews
import Derived.JoinedTies
import Derived.KernelRfl
namespace Go.Proofs.Ytbgkpjigkjdmcaa
/- THE CELL 'sum', in the pinned program and in every row, IS THE sha256 OF THE DUMP (.gsa) THAT YtbgkpjigkjdmcaaProg.lean LOADS. Nothing in Lean hashes anything: it is a label: what it is worth is what the hold of that sum in a sandbox is worth. -/
noncomputable def Try.pinned : Pinned := { name := "ytbgkpjigkjdmcaa", sum := "472639d7b92330741e3b0a9fb27b711840ceea7343d4b67a795b5b766b62cfef", checked := Try.checked }
namespace Rows
def none {H : Type} : Left H := { results := [], args := [] }

/-- 'tendrillaw3.PoolRuns': WHATEVER THE INPUT: true; the input reads as it did. -/
def poolRunsSpec : ChangeSpec := { name := "poolRuns", fn := fun _ => fun
  | [] => { results := [.lit (.bool true)], args := [] }
  | _ => none }
def poolRunsRow : OpenClaim := { program := "ytbgkpjigkjdmcaa", sum := "472639d7b92330741e3b0a9fb27b711840ceea7343d4b67a795b5b766b62cfef", func := "tendril/tendrillaw3.PoolRuns", spec := "poolRuns", unfollowed := true, recurses := true, apart := false }
def PoolRunsSaid : Prop := poolRunsRow.holds Try.pinned (OpenSpec.ofChange poolRunsSpec)

/-- ITS FALSE NEIGHBOUR: 'it returns false'. Refute it at one input. -/
def poolRunsWrong : ChangeSpec := { name := "poolRuns", fn := fun _ => fun
  | [] => { results := [.lit (.bool false)], args := [] }
  | _ => none }
def PoolRunsWrongFalsely : Prop := poolRunsRow.holds Try.pinned (OpenSpec.ofChange poolRunsWrong)

/-- 'tendrillaw3.PoolPlays': WHATEVER THE INPUT: true; the input reads as it did. -/
def poolPlaysSpec : ChangeSpec := { name := "poolPlays", fn := fun _ => fun
  | [d1, d2] => { results := [.lit (.bool true)], args := [d1, d2] }
  | _ => none }
def poolPlaysRow : OpenClaim := { program := "ytbgkpjigkjdmcaa", sum := "472639d7b92330741e3b0a9fb27b711840ceea7343d4b67a795b5b766b62cfef", func := "tendril/tendrillaw3.PoolPlays", spec := "poolPlays", unfollowed := true, recurses := true, apart := false }
def PoolPlaysSaid : Prop := poolPlaysRow.holds Try.pinned (OpenSpec.ofChange poolPlaysSpec)

/-- ITS FALSE NEIGHBOUR: 'it returns false'. Refute it at one input. -/
def poolPlaysWrong : ChangeSpec := { name := "poolPlays", fn := fun _ => fun
  | [d1, d2] => { results := [.lit (.bool false)], args := [d1, d2] }
  | _ => none }
def PoolPlaysWrongFalsely : Prop := poolPlaysRow.holds Try.pinned (OpenSpec.ofChange poolPlaysWrong)

/-- 'tendrillaw3.PoolSorts': WHATEVER THE INPUT: true; the input reads as it did. -/
def poolSortsSpec : ChangeSpec := { name := "poolSorts", fn := fun _ => fun
  | [d] => { results := [.lit (.bool true)], args := [d] }
  | _ => none }
def poolSortsRow : OpenClaim := { program := "ytbgkpjigkjdmcaa", sum := "472639d7b92330741e3b0a9fb27b711840ceea7343d4b67a795b5b766b62cfef", func := "tendril/tendrillaw3.PoolSorts", spec := "poolSorts", unfollowed := true, recurses := true, apart := false }
def PoolSortsSaid : Prop := poolSortsRow.holds Try.pinned (OpenSpec.ofChange poolSortsSpec)

/-- ITS FALSE NEIGHBOUR: 'it returns false'. Refute it at one input. -/
def poolSortsWrong : ChangeSpec := { name := "poolSorts", fn := fun _ => fun
  | [d] => { results := [.lit (.bool false)], args := [d] }
  | _ => none }
def PoolSortsWrongFalsely : Prop := poolSortsRow.holds Try.pinned (OpenSpec.ofChange poolSortsWrong)

/-- 'tendrillaw3.PoolOnce': WHATEVER THE INPUT: true; the input reads as it did. -/
def poolOnceSpec : ChangeSpec := { name := "poolOnce", fn := fun _ => fun
  | [d] => { results := [.lit (.bool true)], args := [d] }
  | _ => none }
def poolOnceRow : OpenClaim := { program := "ytbgkpjigkjdmcaa", sum := "472639d7b92330741e3b0a9fb27b711840ceea7343d4b67a795b5b766b62cfef", func := "tendril/tendrillaw3.PoolOnce", spec := "poolOnce", unfollowed := true, recurses := true, apart := false }
def PoolOnceSaid : Prop := poolOnceRow.holds Try.pinned (OpenSpec.ofChange poolOnceSpec)

/-- ITS FALSE NEIGHBOUR: 'it returns false'. Refute it at one input. -/
def poolOnceWrong : ChangeSpec := { name := "poolOnce", fn := fun _ => fun
  | [d] => { results := [.lit (.bool false)], args := [d] }
  | _ => none }
def PoolOnceWrongFalsely : Prop := poolOnceRow.holds Try.pinned (OpenSpec.ofChange poolOnceWrong)

/-- 'tendrillaw3.PoolBounds': WHATEVER THE INPUT: true; the input reads as it did. -/
def poolBoundsSpec : ChangeSpec := { name := "poolBounds", fn := fun _ => fun
  | [d1, d2] => { results := [.lit (.bool true)], args := [d1, d2] }
  | _ => none }
def poolBoundsRow : OpenClaim := { program := "ytbgkpjigkjdmcaa", sum := "472639d7b92330741e3b0a9fb27b711840ceea7343d4b67a795b5b766b62cfef", func := "tendril/tendrillaw3.PoolBounds", spec := "poolBounds", unfollowed := true, recurses := true, apart := false }
def PoolBoundsSaid : Prop := poolBoundsRow.holds Try.pinned (OpenSpec.ofChange poolBoundsSpec)

/-- ITS FALSE NEIGHBOUR: 'it returns false'. Refute it at one input. -/
def poolBoundsWrong : ChangeSpec := { name := "poolBounds", fn := fun _ => fun
  | [d1, d2] => { results := [.lit (.bool false)], args := [d1, d2] }
  | _ => none }
def PoolBoundsWrongFalsely : Prop := poolBoundsRow.holds Try.pinned (OpenSpec.ofChange poolBoundsWrong)

/- THE SECOND FORM. 'bulk': how many values and letters a reading holds, each counted each time it is reached (what is shared counts as often as it is met; a slice's spare places count too). A statement '..UptoSaid' is the law's where the arguments, and the package variables that the reading takes, are together of bulk at most 1048576: NARROWER than '..Said'. Prove '..Said' where nothing that the law and all that it calls make is longer than what came in: it says more and counts as full. Else prove '..UptoSaid'. A law counts once. -/
mutual
def uptoBulk {H : Type} : DataW H → Nat
  | .lit (.string bytes) => bytes.length + 1
  | .lit _ => 1
  | .nil => 1
  | .ptr d => uptoBulk d + 1
  | .slice elems spare => uptoBulkAll elems + uptoBulkAll spare + 1
  | .agg parts => uptoBulkAll parts + 1
  | .iface _ d => uptoBulk d + 1
  | .map entries => uptoBulkEntries entries + 1
  | .held _ => 1
def uptoBulkAll {H : Type} : List (DataW H) → Nat
  | [] => 0
  | d :: r => uptoBulk d + uptoBulkAll r
def uptoBulkEntries {H : Type} : List (Lit × DataW H) → Nat
  | [] => 0
  | x :: r => uptoBulkEntry x + uptoBulkEntries r
def uptoBulkEntry {H : Type} : Lit × DataW H → Nat
  | (.string bytes, d) => bytes.length + uptoBulk d + 1
  | (_, d) => uptoBulk d + 1
 end
def uptoSmall : (H : Type) → List (DataW H) → Bool := fun _ ds => decide (uptoBulkAll ds ≤ 1048576)
def OpenSpec.upto (s : _root_.Go.ChangeSpec) : _root_.Go.OpenSpec := { _root_.Go.OpenSpec.ofChange s with cond := some uptoSmall }

/-- 'tendrillaw3.PoolRuns', WHERE WHAT IT READS IS OF BULK AT MOST 1048576: true; the input reads as it did. -/
def poolRunsUptoRow : OpenClaim := { program := "ytbgkpjigkjdmcaa", sum := "472639d7b92330741e3b0a9fb27b711840ceea7343d4b67a795b5b766b62cfef", func := "tendril/tendrillaw3.PoolRuns", spec := "poolRuns", unfollowed := true, recurses := true, apart := false, narrowed := true }
def PoolRunsUptoSaid : Prop := poolRunsUptoRow.holds Try.pinned (OpenSpec.upto poolRunsSpec)

/-- 'tendrillaw3.PoolPlays', WHERE WHAT IT READS IS OF BULK AT MOST 1048576: true; the input reads as it did. -/
def poolPlaysUptoRow : OpenClaim := { program := "ytbgkpjigkjdmcaa", sum := "472639d7b92330741e3b0a9fb27b711840ceea7343d4b67a795b5b766b62cfef", func := "tendril/tendrillaw3.PoolPlays", spec := "poolPlays", unfollowed := true, recurses := true, apart := false, narrowed := true }
def PoolPlaysUptoSaid : Prop := poolPlaysUptoRow.holds Try.pinned (OpenSpec.upto poolPlaysSpec)

/-- 'tendrillaw3.PoolSorts', WHERE WHAT IT READS IS OF BULK AT MOST 1048576: true; the input reads as it did. -/
def poolSortsUptoRow : OpenClaim := { program := "ytbgkpjigkjdmcaa", sum := "472639d7b92330741e3b0a9fb27b711840ceea7343d4b67a795b5b766b62cfef", func := "tendril/tendrillaw3.PoolSorts", spec := "poolSorts", unfollowed := true, recurses := true, apart := false, narrowed := true }
def PoolSortsUptoSaid : Prop := poolSortsUptoRow.holds Try.pinned (OpenSpec.upto poolSortsSpec)

/-- 'tendrillaw3.PoolOnce', WHERE WHAT IT READS IS OF BULK AT MOST 1048576: true; the input reads as it did. -/
def poolOnceUptoRow : OpenClaim := { program := "ytbgkpjigkjdmcaa", sum := "472639d7b92330741e3b0a9fb27b711840ceea7343d4b67a795b5b766b62cfef", func := "tendril/tendrillaw3.PoolOnce", spec := "poolOnce", unfollowed := true, recurses := true, apart := false, narrowed := true }
def PoolOnceUptoSaid : Prop := poolOnceUptoRow.holds Try.pinned (OpenSpec.upto poolOnceSpec)

/-- 'tendrillaw3.PoolBounds', WHERE WHAT IT READS IS OF BULK AT MOST 1048576: true; the input reads as it did. -/
def poolBoundsUptoRow : OpenClaim := { program := "ytbgkpjigkjdmcaa", sum := "472639d7b92330741e3b0a9fb27b711840ceea7343d4b67a795b5b766b62cfef", func := "tendril/tendrillaw3.PoolBounds", spec := "poolBounds", unfollowed := true, recurses := true, apart := false, narrowed := true }
def PoolBoundsUptoSaid : Prop := poolBoundsUptoRow.holds Try.pinned (OpenSpec.upto poolBoundsSpec)

end Rows
end Go.Proofs.Ytbgkpjigkjdmcaa
