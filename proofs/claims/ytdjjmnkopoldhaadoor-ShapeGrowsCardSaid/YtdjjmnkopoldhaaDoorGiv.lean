import Derived.Test.YtdjjmnkopoldhaaDoorRom
import Derived.WalkKit
import Derived.ProofKit
import Derived.Below
import Derived.WalkLawsBesides
import Derived.Deep.QuietTactic
import Derived.BigQuiet
import Derived.StillTailTactics
import Derived.Deep.AppendLies
import Derived.Deep.RegionHeld3
import Derived.KernelRfl
import Derived.BigRegion
import Derived.WalkSpells
import Derived.Deep.Slices
import Derived.Deep.Fields
import Derived.ChangeSame
import Derived.Deep.RegionLaw
import Derived.Deep.DrawnRows
namespace Go.Proofs.YtdjjmnkopoldhaaDoor.PBase
open Go Go.RowKit Go.Proofs.YtdjjmnkopoldhaaDoorW.PrintWords Go.Proofs.YtdjjmnkopoldhaaDoorW.PrintLast Go.Proofs.YtdjjmnkopoldhaaDoorW.PrintMore 

set_option linter.unusedVariables false
set_option linter.unusedSimpArgs false
def shape_Put.f (l0 : List (S23)) (a1_0 : ByteArray) (a1_1 : Int) : Option (List (S23) × Int × Bool) := if l0.length ≤ 1000 then some (Ep.putL l0 ⟨a1_0, a1_1⟩) else none
theorem shape_Put.calls (A0 : Option Addr) (c0 : Nat) (l0 : List (S23)) (a1_0 : ByteArray) (a1_1 : Int) (r1 : List (S23)) (r2 : Int) (r3 : Bool) (w : World) (hr0 : Kd.C k23 w A0 l0.length l0) (hc0 : l0.length ≤ c0) (h : shape_Put.f l0 a1_0 a1_1 = some (r1, r2, r3)) :
    Calls Tryd.prog 21 #[.slice A0 l0.length c0, .agg #[.string a1_0, .int .i64 a1_1]] w fun e w' => ∃ v0_ : Value, e = .returned (.tuple #[v0_, .int .i64 r2, .bool r3]) ∧ Kd.R k23 23 w' w.heap.size (fun _ => True) v0_ r1 ∧ Below w.heap.size w w' := by
  unfold shape_Put.f at h
  split at h
  · next hb =>
    have h := Option.some.inj h
    refine (Ep.put_ A0 c0 l0 ⟨a1_0, a1_1⟩ w hr0 hc0 hb).mono ?_
    rintro e w' ⟨v', rfl, ho, hw⟩
    rw [h] at ho ⊢
    exact ⟨v', rfl, Ep.own_R ho, hw⟩
  · cases h
def shape_Drop.f (l0 : List (S23)) (a1 : ByteArray) : Option (List (S23) × Int × Bool) := if l0.length ≤ 1000 then some (Ep.dropL l0 a1) else none
theorem shape_Drop.calls (A0 : Option Addr) (c0 : Nat) (l0 : List (S23)) (a1 : ByteArray) (r1 : List (S23)) (r2 : Int) (r3 : Bool) (w : World) (hr0 : Kd.C k23 w A0 l0.length l0) (hc0 : l0.length ≤ c0) (h : shape_Drop.f l0 a1 = some (r1, r2, r3)) :
    Calls Tryd.prog 10 #[.slice A0 l0.length c0, .string a1] w fun e w' => ∃ v0_ : Value, e = .returned (.tuple #[v0_, .int .i64 r2, .bool r3]) ∧ Kd.R k23 23 w' w.heap.size (fun _ => True) v0_ r1 ∧ Below w.heap.size w w' := by
  unfold shape_Drop.f at h
  split at h
  · next hb =>
    have h := Option.some.inj h
    refine (Ep.drop_ A0 c0 l0 a1 w hr0 hc0 hb).mono ?_
    rintro e w' ⟨v', rfl, ho, hw⟩
    rw [h] at ho ⊢
    exact ⟨v', rfl, Ep.own_R ho, hw⟩
  · cases h
def shape_Text.f (l0 : List (S23)) : Option (ByteArray) := if l0.length ≤ 1000 then some (Ep.textT l0) else none
theorem shape_Text.calls (A0 : Option Addr) (c0 : Nat) (l0 : List (S23)) (r : ByteArray) (w : World) (hr0 : Kd.C k23 w A0 l0.length l0) (hc0 : l0.length ≤ c0) (h : shape_Text.f l0 = some r) :
    Calls Tryd.prog 11 #[.slice A0 l0.length c0] w fun e w' => e = .returned (.string r) ∧ Below w.heap.size w w' := by
  unfold shape_Text.f at h
  split at h
  · next hb =>
    obtain rfl := Option.some.inj h
    exact Ep.text_c A0 c0 l0 w hr0 hc0 hb
  · cases h
def api_Entry_14.f (l0 : List (S23)) (a1_0 : ByteArray) (a1_1 : Int) : Option (List (S23)) := if l0.length ≤ 1000 then some (l0 ++ List.replicate 80 (⟨a1_0, a1_1⟩ : S23)) else none
theorem api_Entry_14.calls (A0 : Option Addr) (c0 : Nat) (l0 : List (S23)) (a1_0 : ByteArray) (a1_1 : Int) (r : List (S23)) (w : World) (hr0 : Kd.C k23 w A0 l0.length l0) (hc0 : l0.length ≤ c0) (h : api_Entry_14.f l0 a1_0 a1_1 = some r) :
    Calls Tryd.prog 14 #[.slice A0 l0.length c0, .agg #[.string a1_0, .int .i64 a1_1]] w fun e w' => ∃ v0_ : Value, e = .returned (v0_) ∧ Kd.R k23 23 w' w.heap.size (fun _ => True) v0_ r ∧ Below w.heap.size w w' := by
  unfold api_Entry_14.f at h
  split at h
  · next hb =>
    have h := Option.some.inj h
    refine (Ep.roomy_ A0 c0 l0 ⟨a1_0, a1_1⟩ w hr0 hc0 hb).mono ?_
    rintro e w' ⟨v', rfl, ho, hw⟩
    rw [h] at ho
    exact ⟨v', rfl, Ep.own_R ho, hw⟩
  · cases h
end Go.Proofs.YtdjjmnkopoldhaaDoor.PBase
