/- tendrillaw3.PoolBounds returns true for every input; no condition. -/
import Derived.Test.YtbgkpjigkjdmcaaRows
import Derived.Test.YtbgkpjigkjdmcaaWSized
import Derived.Test.YtbgkpjigkjdmcaaHeap
import Derived.Test.YtbgkpjigkjdmcaaPool
import Derived.WalkKit
import Derived.ProofKit
import Derived.OpenShut
import Derived.ShutString
import Derived.ChangeOld
import Derived.Below
import Derived.SizedLaws
import Derived.Deep.Slices
import Derived.Deep.Fields
import Derived.ChangeSame
import Derived.Deep.RegionLaw
import Derived.Deep.DrawnRows
namespace Go.Proofs.Ytbgkpjigkjdmcaa.poolBounds
open Go.ChangeShapes Go.WideShapes Go.ChangeAt Go.RowKit Go.Deep
open Go.ChangeMaps (open_string shut_string)
open Go Go.RowKit Go.Proofs.YtbgkpjigkjdmcaaW.PrintWords Go.Proofs.YtbgkpjigkjdmcaaW.PrintLast Go.Proofs.YtbgkpjigkjdmcaaW.PrintMore  Go.Proofs.Ytbgkpjigkjdmcaa.Ep
set_option linter.unusedVariables false
set_option linter.unusedSimpArgs false
set_option maxHeartbeats 8000000 in
set_option maxRecDepth 100000 in
theorem walk (a0 a1 : Int) (w : World) (h0 : (Lit.int .i64 a0).wf = true) (h1 : (Lit.int .i64 a1).wf = true) :
    Calls Try.prog 7 #[.int .i64 a0, .int .i64 a1] w fun e w' => e = .returned (.bool true) ∧ Below w.heap.size w w' := by
  have hkb := within_bd a0 0 65535 (by decide)
  obtain ⟨k, hk⟩ : ∃ k, within a0 0 65535 = k := ⟨_, rfl⟩
  rw [hk] at hkb
  have HK := Aside0.mk hk
  clear hk
  have hk0 := hkb.1
  have hk9 := hkb.2
  have hkw : (Lit.int .i64 k).wf = true := WalkArith.wf_i64 (by omega)
  have hmw : (Lit.int .i64 (-1)).wf = true := by decide
  by_cases hin : 0 ≤ a1 ∧ a1 < k
  · have p1 : decide (0 ≤ a1) = true := decide_eq_true hin.1
    have p2 : decide (a1 < k) = true := decide_eq_true hin.2
    have HA : Aside0 (putB k a1 [] = true ∧ putL k a1 [] = [a1]) := ⟨decide_eq_true ⟨hin.1, hin.2, by simp⟩, if_pos ⟨hin.1, hin.2, by simp⟩⟩
    have HB : Aside0 (decide (a1 ∈ [a1]) = true) := ⟨by simp⟩
    have HC : Aside0 (putB k k [a1] = false ∧ putL k k [a1] = [a1]) := ⟨decide_eq_false (by omega), if_neg (by omega)⟩
    have HD : Aside0 (putB k (-1) [a1] = false ∧ putL k (-1) [a1] = [a1]) := ⟨decide_eq_false (by omega), if_neg (by omega)⟩
    have HE : Aside0 (decide (k ∈ [a1]) = false) := ⟨decide_eq_false (by simp; omega)⟩
    clear hin hkb
    go_enter Try.func7, Try.ntmps7
    go_wp2_with (first
      | (go_at_call 15; (with_reducible refine (within_c a0 0 65535 k _ (by decide) (by decide) (by decide) HK.out).mono ?_); rintro e w' ⟨rfl, rfl⟩)
      | (go_at_call 8; (with_reducible refine (new_ _ k hk0 hk9).mono ?_); rintro e w1 ⟨g, gm, rfl, P1, T1⟩)
      | (go_at_call 9; (with_reducible refine (put_ _ w.heap.size g gm k 0 _ [] a1 true [a1] P1 h1 (by decide) HA.out.1 HA.out.2).mono ?_); rintro e w2 ⟨V2, rfl, P2, T2, O2⟩)
      | (go_at_call 13; (with_reducible refine (has_ _ w.heap.size g gm k 1 _ [a1] a1 true P2 h1 HB.out).mono ?_); rintro e w3 ⟨rfl, P3, B3⟩)
      | (go_at_call 9; (with_reducible refine (put_ _ w.heap.size g gm k 1 _ [a1] k false [a1] P3 hkw (by decide) HC.out.1 HC.out.2).mono ?_); rintro e w4 ⟨V4, rfl, P4, T4, O4⟩)
      | (go_at_call 9; (with_reducible refine (put_ _ w.heap.size g gm k 2 _ [a1] (-1) false [a1] P4 hmw (by decide) HD.out.1 HD.out.2).mono ?_); rintro e w5 ⟨V5, rfl, P5, T5, O5⟩)
      | (go_at_call 13; (with_reducible refine (has_ _ w.heap.size g gm k 3 _ [a1] k false P5 hkw HE.out).mono ?_); rintro e w6 ⟨rfl, P6, B6⟩)
      | (go_at_call 14; (with_reducible refine (plen_ _ w.heap.size g gm k 3 _ [a1] 1 P6 rfl).mono ?_); rintro e w7 ⟨rfl, rfl⟩)
      | (go_at_call 3; (with_reducible refine (runs_ _).mono ?_); rintro e w8 ⟨rfl, B8⟩))
    go_ret
    exact ⟨rfl, (((((T1.trans T2.below).trans (B3.mono P2.base_le)).trans T4.below).trans T5.below).trans (B6.mono P5.base_le)).trans (B8.mono P6.base_le)⟩
  · have HA : Aside0 (putB k a1 [] = false ∧ putL k a1 [] = []) := ⟨decide_eq_false (by omega), if_neg (by omega)⟩
    have HB : Aside0 (decide (a1 ∈ ([] : List Int)) = false) := ⟨by simp⟩
    have HC : Aside0 (putB k k [] = false ∧ putL k k [] = []) := ⟨decide_eq_false (by omega), if_neg (by omega)⟩
    have HD : Aside0 (putB k (-1) [] = false ∧ putL k (-1) [] = []) := ⟨decide_eq_false (by omega), if_neg (by omega)⟩
    have HE : Aside0 (decide (k ∈ ([] : List Int)) = false) := ⟨by simp⟩
    by_cases h00 : 0 ≤ a1
    all_goals
      first
      | (have p1 : decide (0 ≤ a1) = true := decide_eq_true h00
         have p2 : decide (a1 < k) = false := decide_eq_false (by omega))
      | (have p1 : decide (0 ≤ a1) = false := decide_eq_false h00)
      clear hin hkb h00
      go_enter Try.func7, Try.ntmps7
      go_wp2_with (first
        | (go_at_call 15; (with_reducible refine (within_c a0 0 65535 k _ (by decide) (by decide) (by decide) HK.out).mono ?_); rintro e w' ⟨rfl, rfl⟩)
        | (go_at_call 8; (with_reducible refine (new_ _ k hk0 hk9).mono ?_); rintro e w1 ⟨g, gm, rfl, P1, T1⟩)
        | (go_at_call 9; (with_reducible refine (put_ _ w.heap.size g gm k 0 _ [] a1 false [] P1 h1 (by decide) HA.out.1 HA.out.2).mono ?_); rintro e w2 ⟨V2, rfl, P2, T2, O2⟩)
        | (go_at_call 13; (with_reducible refine (has_ _ w.heap.size g gm k 1 _ [] a1 false P2 h1 HB.out).mono ?_); rintro e w3 ⟨rfl, P3, B3⟩)
        | (go_at_call 9; (with_reducible refine (put_ _ w.heap.size g gm k 1 _ [] k false [] P3 hkw (by decide) HC.out.1 HC.out.2).mono ?_); rintro e w4 ⟨V4, rfl, P4, T4, O4⟩)
        | (go_at_call 9; (with_reducible refine (put_ _ w.heap.size g gm k 2 _ [] (-1) false [] P4 hmw (by decide) HD.out.1 HD.out.2).mono ?_); rintro e w5 ⟨V5, rfl, P5, T5, O5⟩)
        | (go_at_call 13; (with_reducible refine (has_ _ w.heap.size g gm k 3 _ [] k false P5 hkw HE.out).mono ?_); rintro e w6 ⟨rfl, P6, B6⟩)
        | (go_at_call 14; (with_reducible refine (plen_ _ w.heap.size g gm k 3 _ [] 0 P6 rfl).mono ?_); rintro e w7 ⟨rfl, rfl⟩)
        | (go_at_call 3; (with_reducible refine (runs_ _).mono ?_); rintro e w8 ⟨rfl, B8⟩))
      go_ret
      exact ⟨rfl, (((((T1.trans T2.below).trans (B3.mono P2.base_le)).trans T4.below).trans T5.below).trans (B6.mono P5.base_le)).trans (B8.mono P6.base_le)⟩

theorem own : ownKnob Try.prog.godebug = none := by kernel_rfl
set_option maxRecDepth 100000 in
theorem lifted (os : Os) (started : os.Started) (H : Type) (enc : TypeId × Value → H) :
    ReturnsInHanded {} Try.checked os 7 .any (Rows.poolBoundsSpec.pre6 enc Try.prog Try.f7 Rows.poolBoundsRow.domain false) (Rows.poolBoundsSpec.post enc Try.prog Try.f7 false true false false) := by
  refine returnsInHanded_of_change_sized (C := Try.checked) own started (by kernel_rfl) Try.func7
    (ChangeSpec.witness6 (enc := enc) (C := Try.checked) false ⟨#[], #[.int .i64 0, .int .i64 0], []⟩ 8 (by kernel_rfl) (by kernel_rfl) (by kernel_rfl) (by kernel_rfl)) ?_
  intro W base args ds gs before hval0 hW hcnd hsz0 _
  have hsz : (DataW.weightsEach Try.prog (Try.f7.params.toList ++ Rows.poolBoundsSpec.plain.varTypes Try.prog) (ds ++ gs)).all (· ≤ reachBytes) = true := hsz0
  have hval : ∀ (j : Nat) t v, Try.f7.params[j]? = some t → args[j]? = some v → Value.okWide Try.prog W .any base t v := hval0
  have hW' := hW
  obtain ⟨p, q, hA0, hV, rfl, hfz, hnd⟩ := hW
  have hA : DataW.TrodAll enc Try.prog W 0 (fun _ => true) true Try.f7.params.toList args.toList ds p := hA0
  rw [Try.params7] at hA hval hsz
  obtain ⟨v0, vs0, d0, ds0, p0, q0, hargs, rfl, rfl, h0, r0⟩ := trodAll_cons hA
  obtain ⟨v1, vs1, d1, ds1, p1, q1, rfl, rfl, rfl, h1, r1⟩ := trodAll_cons r0
  obtain ⟨rfl, rfl, rfl⟩ := trodAll_nil r1
  obtain rfl : args = #[v0, v1] := by cases args; simp_all
  obtain ⟨rfl, rfl⟩ := trodVars_none hV
  obtain ⟨a0, rfl, rfl, rfl, w0⟩ := open_int Try.underlying3 (hval 0 3 v0 rfl rfl) h0
  obtain ⟨a1, rfl, rfl, rfl, w1⟩ := open_int Try.underlying3 (hval 1 3 v1 rfl rfl) h1
  clear hA0 hval0 hsz0 hsz
  refine (walk a0 a1 W w0 w1).mono fun e W' ⟨he, bel⟩ => ?_
  subst he
  exact ⟨_, rfl, _, _, _, [], _, [], hW', trodAll_mk1 (shut_bool Try.underlying4 _), (trodAll_cons_mk (shut_int Try.underlying3 w0) (trodAll_cons_mk (shut_int Try.underlying3 w1) trodAll_mk0)), rfl, bel.frame _, fun h => by cases h⟩
theorem over : Rows.poolBoundsRow.holds Try.pinned (OpenSpec.ofChange Rows.poolBoundsSpec) :=
  OpenClaim.holds_of_wide 7 Try.f7 rfl rfl rfl rfl rfl rfl rfl ⟨rfl, rfl, rfl, rfl, rfl⟩ rfl rfl rfl rfl rfl (by kernel_rfl) Try.func7 (by kernel_rfl)
    (of_decide_eq_true (by kernel_rfl)) (by unfold Func.isWrapper; first | (rw [if_pos (by decide +kernel)]; kernel_rfl) | (rw [if_neg (by decide +kernel)]; exact ⟨rfl, rfl⟩))
    (fun os started H enc _ => lifted os started H enc)
theorem proved : Rows.PoolBoundsSaid := over
#print axioms proved
end Go.Proofs.Ytbgkpjigkjdmcaa.poolBounds
namespace Go.Proofs.Ytbgkpjigkjdmcaa
/-- The row, under a short name, for the claim. -/
theorem poolBounds_holds : Rows.PoolBoundsSaid := poolBounds.proved
end Go.Proofs.Ytbgkpjigkjdmcaa
