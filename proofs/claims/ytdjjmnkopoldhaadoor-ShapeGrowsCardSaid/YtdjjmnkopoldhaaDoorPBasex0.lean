-- Written by a program of this session (mkprint.py): a printed walk over given contracts.
import Derived.Test.YtdjjmnkopoldhaaDoorProg
import Derived.Below
import Derived.Deep.Draws
import Derived.Deep.AppendLies
import Derived.Maps.AppendAt
import Derived.OwnWalk
import Derived.Laws.BytesArg
import Derived.Laws.MakeOwn
import Derived.Laws.OwnMore
import Derived.Deep.OwnRows
import Derived.Tactics
import Derived.Lib.ConvBytes
import Derived.Laws.Slices
import Derived.WalkKit
import Derived.KernelRfl
import Derived.RowKit3
import Derived.Deep.LoopGhost
import Derived.Deep.QuietTactic
import Derived.BigQuiet
import Derived.WideLaws
import Derived.Deep.DeepCutAuto
import Derived.Deep.CutBlock
import Derived.Deep.RegionHeld3
import Derived.Laws.Rows
import Derived.Lib.AppendStr
import Derived.ArgAppend
import Derived.Laws.IdiomCopy
import Derived.OrdersHeld
import Derived.Laws.BitsLemmas
import Derived.RowKit
import Derived.Test.YtdjjmnkopoldhaaDoorWWords
import Derived.Test.YtdjjmnkopoldhaaDoorWLast
import Derived.Test.YtdjjmnkopoldhaaDoorWTab
import Derived.Test.YtdjjmnkopoldhaaDoorWQPut
import Derived.Test.YtdjjmnkopoldhaaDoorWApart
import Derived.Test.YtdjjmnkopoldhaaDoorWArr
import Derived.Test.YtdjjmnkopoldhaaDoorWZeros
import Derived.Test.YtdjjmnkopoldhaaDoorWFoot
import Derived.Test.YtdjjmnkopoldhaaDoorWKept
import Derived.Test.YtdjjmnkopoldhaaDoorWShare
import Derived.Test.YtdjjmnkopoldhaaDoorWN
import Derived.Test.YtdjjmnkopoldhaaDoorWAt
import Derived.Test.YtdjjmnkopoldhaaDoorWEqStruct
import Derived.Test.YtdjjmnkopoldhaaDoorWRepsOne
import Derived.Test.YtdjjmnkopoldhaaDoorWGuard
import Derived.Test.YtdjjmnkopoldhaaDoorWNEv
import Derived.Test.YtdjjmnkopoldhaaDoorWMore
namespace Go.Proofs.YtdjjmnkopoldhaaDoor.PBase
open Go.RowKit Go.Proofs.YtdjjmnkopoldhaaDoorW.PrintWords Go.Proofs.YtdjjmnkopoldhaaDoorW.PrintLast Go.Proofs.YtdjjmnkopoldhaaDoorW.PrintMore
attribute [local go_sem] max2_int min2_int max_two min_two max_three min_three max_four min_four   -- for this text's walks alone
set_option linter.unusedVariables false
set_option linter.unusedSimpArgs false



def errW : Option Int → Value
 | none => .nilIface
 | some c => .iface 0 (.int .i64 c)
theorem errW_none : errW none = .nilIface := rfl
theorem errW_some (c : Int) : errW (some c) = .iface 0 (.int .i64 c) := rfl

theorem info5 : (Tryd.prog.info? 5).map (fun i => (i.zero, i.size, i.bytes)) = some (some (.int .u8 0), 1, 1) := by kernel_rfl
theorem info23 : (Tryd.prog.info? 23).map (fun i => (i.zero, i.size, i.bytes)) = some (some (.agg #[(.string ⟨#[]⟩), (.int .i64 0)]), 2, 24) := by kernel_rfl
-- the values' own types
/-! #### struct type 23 -/
structure S23 where
 f0 : ByteArray
 f1 : Int
def z23 : S23 := ⟨(⟨#[]⟩ : ByteArray), (0 : Int)⟩
def k23 : Kd S23 := Kd.iso (Kd.pair Kd.string (Kd.int .i64)) (fun x : S23 => (x.f0, x.f1))
theorem k23_open {w : World} {x : S23} {cs : List Value} (h : k23.K w x cs) : cs = [.string x.f0, .int .i64 x.f1] := by
 obtain ⟨_, _, rfl, rfl, rfl⟩ := h
 exact rfl
theorem k23_openM {w : World} {base : Nat} {ok : Nat → Prop} {x : S23} {cs : List Value} (h : k23.M w base ok x cs) : cs = [.string x.f0, .int .i64 x.f1] := by
 obtain ⟨_, _, rfl, rfl, rfl⟩ := h
 exact rfl
theorem k23_mk (w : World) (x : S23)  : k23.K w x [.string x.f0, .int .i64 x.f1] := ⟨[.string x.f0], [.int .i64 x.f1], rfl, rfl, rfl⟩
theorem k23_mkM (w : World) (base : Nat) (ok : Nat → Prop) (x : S23)  : k23.M w base ok x [.string x.f0, .int .i64 x.f1] := ⟨[.string x.f0], [.int .i64 x.f1], rfl, rfl, rfl⟩
def rd_T23 (xs : List S23) (i : Int) : S23 := xs.getD i.toNat z23
theorem at_T23 {w : World} {A : Option Addr} {n : Nat} {xs : List S23} (h : Kd.C k23 w A n xs) (i : Int) (h0 : 0 ≤ i) (h1 : i < n) : ∃ ad , A = some ad ∧ w.cell? (ad.add (i.toNat * 2)) = some (.string (rd_T23 xs i).f0) ∧ w.cell? ⟨(ad.add (i.toNat * 2)).block, (ad.add (i.toNat * 2)).off + 1, none⟩ = some (.int .i64 (rd_T23 xs i).f1) := by
 obtain ⟨ad, c, e, _, hK, hc0⟩ := Kd.C_get h z23 i h0 h1
 have hc : ∀ j u, c[j]? = some u → w.cell? (ad.add (i.toNat * 2 + j)) = some u := hc0
 obtain rfl := k23_open hK
 exact ⟨ad, e, hc 0 _ rfl, by rw [← add_field _ _ 1 (by omega)]; exact hc 1 _ rfl⟩

theorem size1_8 (b : UInt8) : (⟨#[b]⟩ : ByteArray).size = 1 := rfl
theorem less_total8 (l m : List UInt8) : (Op.bytesLess l m || l == m) = !(Op.bytesLess m l) := by
 induction l generalizing m with
 | nil => cases m <;> simp [Op.bytesLess]
 | cons a l ih =>
  cases m with
  | nil => simp [Op.bytesLess]
  | cons b m =>
   have h := ih m
   rw [Op.bytesLess, Op.bytesLess]
   by_cases e : a = b
   ·subst e
    have : ¬ a < a := UInt8.lt_irrefl _
    simp only [this, decide_false, Bool.false_or, beq_self_eq_true, Bool.true_and, List.cons_beq_cons]
    exact h
   ·have e2 : ¬ b = a := fun z => e z.symm
    have e3 : (a == b) = false := by simpa using e
    have e4 : (b == a) = false := by simpa using e2
    simp only [e3, e4, Bool.false_and, Bool.or_false, List.cons_beq_cons]
    by_cases g : a < b
    ·have g2 : ¬ b < a := fun z => UInt8.lt_irrefl _ (UInt8.lt_trans g z)
     simp [g, g2]
    ·have g2 : b < a := by
      rcases UInt8.lt_or_eq_of_le (UInt8.not_lt.1 g) with z | z
      ·exact z
      ·exact absurd z e2
     simp [g, g2]
theorem geq_str8 (w : World) (x y : ByteArray) : Sem.run Tryd.prog (binOp .geq 9 (.string x) (.string y)) w = .ok (.bool (!Op.bytesLess x.toList y.toList)) w := by simp [binOp, Op.stringOp]
theorem leq_str8 (w : World) (x y : ByteArray) : Sem.run Tryd.prog (binOp .leq 9 (.string x) (.string y)) w = .ok (.bool (!Op.bytesLess y.toList x.toList)) w := by rw [← less_total8]; simp [binOp, Op.stringOp]

end Go.Proofs.YtdjjmnkopoldhaaDoor.PBase
