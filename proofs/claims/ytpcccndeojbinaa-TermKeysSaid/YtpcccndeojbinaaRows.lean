/-
  No cell of these rows narrows 'for every input' (looked for: loops, veiled, ifaces, maps, wideKeys, modest, calm, conditions, laid).
  DERIVED. THE GIVEN ROWS OF THIS SEAT. 6 by the template 'for every input the law returns true; each argument reads behind the call as it read before'; 0 by the template 'total and deterministic' (their statements: YtpcccndeojbinaaTotals.lean).
  GIVEN WITH THE SEED: the statements are not yours to turn. If you find one false, say at which input.
  Laid BY PROGRAM, IN A SANDBOX (cutbox-rows.mjs): the forced cells as the released guide's own fill.sh prints them over the translation 5e5d54d6acd789d1… (all of the seat's roots in one cut). By AI agents, Wed Nov 11 2026. No macro, syntax, notation, axiom, sorry.
-/
import Derived.Test.YtpcccndeojbinaaChecked
import GoSem.Claim
import GoSem.ClaimJoined
import GoSem.ClaimMapViews
import Derived.JoinedTies
import Derived.KernelRfl
namespace Go.Proofs.Ytpcccndeojbinaa
/- THE CELL 'sum', in the pinned program and in every row, IS THE sha256 OF THE DUMP (.gsa) THAT YtpcccndeojbinaaProg.lean LOADS. Nothing in Lean hashes anything: it is a label: what it is worth is what the hold of that sum in a sandbox is worth. -/
noncomputable def Try.pinned : Pinned := { name := "ytpcccndeojbinaa", sum := "5e5d54d6acd789d150e8e0dd22b3079bec414ef0c2fb75b414411307cde0545e", checked := Try.checked }
namespace Rows
def none {H : Type} : Left H := { results := [], args := [] }

/-- 'tendrillaw6.TermRuns': WHATEVER THE INPUT: true; the input reads as it did. -/
def termRunsSpec : ChangeSpec := { name := "termRuns", fn := fun _ => fun
  | [] => { results := [.lit (.bool true)], args := [] }
  | _ => none }
def termRunsRow : OpenClaim := { program := "ytpcccndeojbinaa", sum := "5e5d54d6acd789d150e8e0dd22b3079bec414ef0c2fb75b414411307cde0545e", func := "tendril/tendrillaw6.TermRuns", spec := "termRuns", inPlace := ["internal/bytealg.IndexByteString"], apart := false }
def TermRunsSaid : Prop := termRunsRow.holds Try.pinned (OpenSpec.ofChange termRunsSpec)

/-- ITS FALSE NEIGHBOUR: 'it returns false'. Refute it at one input. -/
def termRunsWrong : ChangeSpec := { name := "termRuns", fn := fun _ => fun
  | [] => { results := [.lit (.bool false)], args := [] }
  | _ => none }
def TermRunsWrongFalsely : Prop := termRunsRow.holds Try.pinned (OpenSpec.ofChange termRunsWrong)

/-- 'tendrillaw6.TermNone': WHATEVER THE INPUT: true; the input reads as it did. -/
def termNoneSpec : ChangeSpec := { name := "termNone", fn := fun _ => fun
  | [d1, d2] => { results := [.lit (.bool true)], args := [d1, d2] }
  | _ => none }
def termNoneRow : OpenClaim := { program := "ytpcccndeojbinaa", sum := "5e5d54d6acd789d150e8e0dd22b3079bec414ef0c2fb75b414411307cde0545e", func := "tendril/tendrillaw6.TermNone", spec := "termNone", inPlace := ["internal/bytealg.IndexByteString"], apart := false }
def TermNoneSaid : Prop := termNoneRow.holds Try.pinned (OpenSpec.ofChange termNoneSpec)

/-- ITS FALSE NEIGHBOUR: 'it returns false'. Refute it at one input. -/
def termNoneWrong : ChangeSpec := { name := "termNone", fn := fun _ => fun
  | [d1, d2] => { results := [.lit (.bool false)], args := [d1, d2] }
  | _ => none }
def TermNoneWrongFalsely : Prop := termNoneRow.holds Try.pinned (OpenSpec.ofChange termNoneWrong)

/-- 'tendrillaw6.TermCommon': WHATEVER THE INPUT: true; the input reads as it did. -/
def termCommonSpec : ChangeSpec := { name := "termCommon", fn := fun _ => fun
  | [d1, d2] => { results := [.lit (.bool true)], args := [d1, d2] }
  | _ => none }
def termCommonRow : OpenClaim := { program := "ytpcccndeojbinaa", sum := "5e5d54d6acd789d150e8e0dd22b3079bec414ef0c2fb75b414411307cde0545e", func := "tendril/tendrillaw6.TermCommon", spec := "termCommon", inPlace := ["internal/bytealg.IndexByteString"], apart := false }
def TermCommonSaid : Prop := termCommonRow.holds Try.pinned (OpenSpec.ofChange termCommonSpec)

/-- ITS FALSE NEIGHBOUR: 'it returns false'. Refute it at one input. -/
def termCommonWrong : ChangeSpec := { name := "termCommon", fn := fun _ => fun
  | [d1, d2] => { results := [.lit (.bool false)], args := [d1, d2] }
  | _ => none }
def TermCommonWrongFalsely : Prop := termCommonRow.holds Try.pinned (OpenSpec.ofChange termCommonWrong)

/-- 'tendrillaw6.TermTells': WHATEVER THE INPUT: true; the input reads as it did. -/
def termTellsSpec : ChangeSpec := { name := "termTells", fn := fun _ => fun
  | [d1, d2] => { results := [.lit (.bool true)], args := [d1, d2] }
  | _ => none }
def termTellsRow : OpenClaim := { program := "ytpcccndeojbinaa", sum := "5e5d54d6acd789d150e8e0dd22b3079bec414ef0c2fb75b414411307cde0545e", func := "tendril/tendrillaw6.TermTells", spec := "termTells", inPlace := ["internal/bytealg.IndexByteString"], apart := false }
def TermTellsSaid : Prop := termTellsRow.holds Try.pinned (OpenSpec.ofChange termTellsSpec)

/-- ITS FALSE NEIGHBOUR: 'it returns false'. Refute it at one input. -/
def termTellsWrong : ChangeSpec := { name := "termTells", fn := fun _ => fun
  | [d1, d2] => { results := [.lit (.bool false)], args := [d1, d2] }
  | _ => none }
def TermTellsWrongFalsely : Prop := termTellsRow.holds Try.pinned (OpenSpec.ofChange termTellsWrong)

/-- 'tendrillaw6.TermKeys': WHATEVER THE INPUT: true; the input reads as it did. -/
def termKeysSpec : ChangeSpec := { name := "termKeys", fn := fun _ => fun
  | [d1, d2] => { results := [.lit (.bool true)], args := [d1, d2] }
  | _ => none }
def termKeysRow : OpenClaim := { program := "ytpcccndeojbinaa", sum := "5e5d54d6acd789d150e8e0dd22b3079bec414ef0c2fb75b414411307cde0545e", func := "tendril/tendrillaw6.TermKeys", spec := "termKeys", inPlace := ["internal/bytealg.IndexByteString"], apart := false }
def TermKeysSaid : Prop := termKeysRow.holds Try.pinned (OpenSpec.ofChange termKeysSpec)

/-- ITS FALSE NEIGHBOUR: 'it returns false'. Refute it at one input. -/
def termKeysWrong : ChangeSpec := { name := "termKeys", fn := fun _ => fun
  | [d1, d2] => { results := [.lit (.bool false)], args := [d1, d2] }
  | _ => none }
def TermKeysWrongFalsely : Prop := termKeysRow.holds Try.pinned (OpenSpec.ofChange termKeysWrong)

/-- 'tendrillaw6.TermNext': WHATEVER THE INPUT: true; the input reads as it did. -/
def termNextSpec : ChangeSpec := { name := "termNext", fn := fun _ => fun
  | [d1, d2] => { results := [.lit (.bool true)], args := [d1, d2] }
  | _ => none }
def termNextRow : OpenClaim := { program := "ytpcccndeojbinaa", sum := "5e5d54d6acd789d150e8e0dd22b3079bec414ef0c2fb75b414411307cde0545e", func := "tendril/tendrillaw6.TermNext", spec := "termNext", inPlace := ["internal/bytealg.IndexByteString"], apart := false }
def TermNextSaid : Prop := termNextRow.holds Try.pinned (OpenSpec.ofChange termNextSpec)

/-- ITS FALSE NEIGHBOUR: 'it returns false'. Refute it at one input. -/
def termNextWrong : ChangeSpec := { name := "termNext", fn := fun _ => fun
  | [d1, d2] => { results := [.lit (.bool false)], args := [d1, d2] }
  | _ => none }
def TermNextWrongFalsely : Prop := termNextRow.holds Try.pinned (OpenSpec.ofChange termNextWrong)

/- THE SECOND FORM. 'bulk': how many values and letters a reading holds, each counted each time it is reached (what is shared counts as often as it is met; a slice's spare places count too). A statement '..UptoSaid' is the law's where the arguments, and the package variables that the reading takes, are together of bulk at most 1048576: NARROWER than '..Said'. Prove '..Said' where nothing that the law and all that it calls make is longer than what came in: it says more and counts as full. Else prove '..UptoSaid'. A law counts once. -/
mutual
def uptoBulk {H : Type} : DataW H → Nat
  | .lit (.string bytes) => bytes.length + 1
  | .lit _ => 1
  | .nil => 1
  | .ptr d => uptoBulk d + 1
  | .slice elems spare => uptoBulkAll elems + uptoBulkAll spare + 1
  | .agg parts => uptoBulkAll parts + 1
  | .iface _ d => uptoBulk d + 1
  | .map entries => uptoBulkEntries entries + 1
  | .held _ => 1
def uptoBulkAll {H : Type} : List (DataW H) → Nat
  | [] => 0
  | d :: r => uptoBulk d + uptoBulkAll r
def uptoBulkEntries {H : Type} : List (Lit × DataW H) → Nat
  | [] => 0
  | x :: r => uptoBulkEntry x + uptoBulkEntries r
def uptoBulkEntry {H : Type} : Lit × DataW H → Nat
  | (.string bytes, d) => bytes.length + uptoBulk d + 1
  | (_, d) => uptoBulk d + 1
 end
def uptoSmall : (H : Type) → List (DataW H) → Bool := fun _ ds => decide (uptoBulkAll ds ≤ 1048576)
def OpenSpec.upto (s : _root_.Go.ChangeSpec) : _root_.Go.OpenSpec := { _root_.Go.OpenSpec.ofChange s with cond := some uptoSmall }

/-- 'tendrillaw6.TermRuns', WHERE WHAT IT READS IS OF BULK AT MOST 1048576: true; the input reads as it did. -/
def termRunsUptoRow : OpenClaim := { program := "ytpcccndeojbinaa", sum := "5e5d54d6acd789d150e8e0dd22b3079bec414ef0c2fb75b414411307cde0545e", func := "tendril/tendrillaw6.TermRuns", spec := "termRuns", inPlace := ["internal/bytealg.IndexByteString"], apart := false, narrowed := true }
def TermRunsUptoSaid : Prop := termRunsUptoRow.holds Try.pinned (OpenSpec.upto termRunsSpec)

/-- 'tendrillaw6.TermNone', WHERE WHAT IT READS IS OF BULK AT MOST 1048576: true; the input reads as it did. -/
def termNoneUptoRow : OpenClaim := { program := "ytpcccndeojbinaa", sum := "5e5d54d6acd789d150e8e0dd22b3079bec414ef0c2fb75b414411307cde0545e", func := "tendril/tendrillaw6.TermNone", spec := "termNone", inPlace := ["internal/bytealg.IndexByteString"], apart := false, narrowed := true }
def TermNoneUptoSaid : Prop := termNoneUptoRow.holds Try.pinned (OpenSpec.upto termNoneSpec)

/-- 'tendrillaw6.TermCommon', WHERE WHAT IT READS IS OF BULK AT MOST 1048576: true; the input reads as it did. -/
def termCommonUptoRow : OpenClaim := { program := "ytpcccndeojbinaa", sum := "5e5d54d6acd789d150e8e0dd22b3079bec414ef0c2fb75b414411307cde0545e", func := "tendril/tendrillaw6.TermCommon", spec := "termCommon", inPlace := ["internal/bytealg.IndexByteString"], apart := false, narrowed := true }
def TermCommonUptoSaid : Prop := termCommonUptoRow.holds Try.pinned (OpenSpec.upto termCommonSpec)

/-- 'tendrillaw6.TermTells', WHERE WHAT IT READS IS OF BULK AT MOST 1048576: true; the input reads as it did. -/
def termTellsUptoRow : OpenClaim := { program := "ytpcccndeojbinaa", sum := "5e5d54d6acd789d150e8e0dd22b3079bec414ef0c2fb75b414411307cde0545e", func := "tendril/tendrillaw6.TermTells", spec := "termTells", inPlace := ["internal/bytealg.IndexByteString"], apart := false, narrowed := true }
def TermTellsUptoSaid : Prop := termTellsUptoRow.holds Try.pinned (OpenSpec.upto termTellsSpec)

/-- 'tendrillaw6.TermKeys', WHERE WHAT IT READS IS OF BULK AT MOST 1048576: true; the input reads as it did. -/
def termKeysUptoRow : OpenClaim := { program := "ytpcccndeojbinaa", sum := "5e5d54d6acd789d150e8e0dd22b3079bec414ef0c2fb75b414411307cde0545e", func := "tendril/tendrillaw6.TermKeys", spec := "termKeys", inPlace := ["internal/bytealg.IndexByteString"], apart := false, narrowed := true }
def TermKeysUptoSaid : Prop := termKeysUptoRow.holds Try.pinned (OpenSpec.upto termKeysSpec)

/-- 'tendrillaw6.TermNext', WHERE WHAT IT READS IS OF BULK AT MOST 1048576: true; the input reads as it did. -/
def termNextUptoRow : OpenClaim := { program := "ytpcccndeojbinaa", sum := "5e5d54d6acd789d150e8e0dd22b3079bec414ef0c2fb75b414411307cde0545e", func := "tendril/tendrillaw6.TermNext", spec := "termNext", inPlace := ["internal/bytealg.IndexByteString"], apart := false, narrowed := true }
def TermNextUptoSaid : Prop := termNextUptoRow.holds Try.pinned (OpenSpec.upto termNextSpec)

end Rows
end Go.Proofs.Ytpcccndeojbinaa
