import Derived.Test.YtdjjmnkopoldhaaDoorGiv2
import Derived.WalkKit
import Derived.ProofKit
import Derived.Below
import Derived.WalkLawsBesides
import Derived.Deep.QuietTactic
import Derived.BigQuiet
import Derived.StillTailTactics
import Derived.Deep.AppendLies
import Derived.Deep.RegionHeld3
import Derived.KernelRfl
import Derived.BigRegion
import Derived.WalkSpells
import Derived.Deep.Slices
import Derived.Deep.Fields
import Derived.ChangeSame
import Derived.Deep.RegionLaw
import Derived.Deep.DrawnRows
namespace Go.Proofs.YtdjjmnkopoldhaaDoor.PLaw
open Go Go.RowKit Go.Proofs.YtdjjmnkopoldhaaDoorW.PrintWords Go.Proofs.YtdjjmnkopoldhaaDoorW.PrintLast Go.Proofs.YtdjjmnkopoldhaaDoorW.PrintMore 

set_option linter.unusedVariables false
set_option linter.unusedSimpArgs false
/-- tendrilbook.Within, in plain words: a number brought into lo .. hi. -/
def within (n lo hi : Int) : Int := lo + n % (hi - lo + 1)
theorem within_bd (n lo hi : Int) (h : lo ≤ hi) : lo ≤ within n lo hi ∧ within n lo hi ≤ hi := by
  unfold within
  have h1 := Int.emod_nonneg n (show hi - lo + 1 ≠ 0 by omega)
  have h2 := Int.emod_lt_of_pos n (show 0 < hi - lo + 1 by omega)
  omega
theorem tmod_bd (n m : Int) (h : 0 < m) : -m < n.tmod m ∧ n.tmod m < m ∧ (n.tmod m < 0 → n % m = n.tmod m + m) ∧ (0 ≤ n.tmod m → n % m = n.tmod m) := by
  have e : n.tmod m = n - m * (n.tdiv m) := by have := Int.tmod_add_mul_tdiv n m; omega
  have h1 := Int.tmod_lt_of_pos n h
  have h2 : -m < n.tmod m := by
    have := Int.neg_tmod (a := n) (b := m)
    have h3 := Int.tmod_lt_of_pos (-n) h
    omega
  have em : (n.tmod m) % m = n % m := by rw [e, Int.sub_mul_emod_self_left]
  refine ⟨h2, h1, fun h0 => ?_, fun h0 => ?_⟩
  · rw [← em, ← Int.add_emod_right, Int.emod_eq_of_lt (by omega) (by omega)]
  · rw [← em, Int.emod_eq_of_lt (by omega) (by omega)]
set_option maxHeartbeats 1000000 in
set_option maxRecDepth 100000 in
theorem within_ (n lo hi : Int) (w : World) (h1 : -1000000 ≤ lo) (h2 : lo ≤ hi) (h3 : hi ≤ 1000000) :
    Calls Tryd.prog 19 #[.int .i64 n, .int .i64 lo, .int .i64 hi] w fun e w' => e = .returned (.int .i64 (within n lo hi)) ∧ w = w' := by
  obtain ⟨t1, t2, t3, t4⟩ := tmod_bd n (hi - lo + 1) (by omega)
  have c4b0 : ((hi - lo + 1) == 0) = false := beq_eq_false_iff_ne.mpr (by omega)
  have c4b1 : ((hi - lo + 1) != 0) = true := bne_iff_ne.mpr (by omega)
  obtain ⟨t, ht⟩ : ∃ t, n.tmod (hi - lo + 1) = t := ⟨_, rfl⟩
  rw [ht] at t1 t2 t3 t4
  by_cases c5 : t < 0
  · have hr : within n lo hi = lo + (t + hi - lo + 1) := by unfold within; rw [t3 c5]; omega
    have c5b0 : decide (t < 0) = true := decide_eq_true c5
    rw [hr]
    clear t3 t4 hr
    go_enter Tryd.func19, Tryd.ntmps19
    go_wp2
    go_ret
    exact ⟨rfl, rfl⟩
  · have hr : within n lo hi = lo + t := by unfold within; rw [t4 (by omega)]
    have c5b0 : decide (t < 0) = false := decide_eq_false c5
    rw [hr]
    clear t3 t4 hr
    go_enter Tryd.func19, Tryd.ntmps19
    go_wp2
    go_ret
    exact ⟨rfl, rfl⟩
def tendrilbook_Within.f (a0 : Int) (a1 : Int) (a2 : Int) : Option (Int) := if -1000000 ≤ a1 ∧ a1 ≤ a2 ∧ a2 ≤ 1000000 then some (within a0 a1 a2) else none
theorem tendrilbook_Within.calls (a0 : Int) (a1 : Int) (a2 : Int) (r : Int) (w : World) (h : tendrilbook_Within.f a0 a1 a2 = some r) :
    Calls Tryd.prog 19 #[.int .i64 a0, .int .i64 a1, .int .i64 a2] w fun e w' => e = .returned (.int .i64 r) ∧ Drawn0 w w' := by
  unfold tendrilbook_Within.f at h
  split at h
  · next hb =>
    obtain rfl := Option.some.inj h
    refine (within_ a0 a1 a2 w hb.1 hb.2.1 hb.2.2).mono ?_
    rintro e w' ⟨rfl, rfl⟩
    exact ⟨rfl, Drawn0.refl _⟩
  · cases h
end Go.Proofs.YtdjjmnkopoldhaaDoor.PLaw
