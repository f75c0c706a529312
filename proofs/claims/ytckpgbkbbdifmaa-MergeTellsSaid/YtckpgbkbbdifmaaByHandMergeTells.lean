/- tendrillaw21.MergeTells returns true for every input; no condition. -/
import Derived.Test.YtckpgbkbbdifmaaRows
import Derived.Test.YtckpgbkbbdifmaaWSized
import Derived.Test.YtckpgbkbbdifmaaMgTi
import Derived.Test.YtckpgbkbbdifmaaMgTc
import Derived.WalkKit
import Derived.ProofKit
import Derived.OpenShut
import Derived.ShutString
import Derived.ChangeOld
import Derived.Below
import Derived.SizedLaws
import Derived.Deep.Slices
import Derived.Deep.Fields
import Derived.ChangeSame
import Derived.Deep.RegionLaw
import Derived.Deep.DrawnRows
import Derived.Deep.Matrix
namespace Go.Proofs.Ytckpgbkbbdifmaa.Ep
open Go Go.RowKit Go.Proofs.YtckpgbkbbdifmaaW.PrintWords Go.Proofs.YtckpgbkbbdifmaaW.PrintLast Go.Proofs.YtckpgbkbbdifmaaW.PrintMore Go.Proofs.Ytckpgbkbbdifmaa.PMergeTells
set_option linter.unusedVariables false
set_option linter.unusedSimpArgs false
open Go.ChangeShapes Go.WideShapes Go.Deep in
/-- a slice of lists that came in, as lists. -/
theorem open_lists {H : Type} {enc : TypeId × Value → H} {P : Program} {w : World} {base : Nat} {held : Bool} {t e q : TypeId} {a : Option Addr} {len cap : Nat} {d : DataW H} {ps : List MemPlace}
    (ht : P.underlying t = some (.slice e)) (he : P.underlying e = some (.slice q)) (hq : P.underlying q = some (.int .i64)) (ce : P.cellsOf e = 1) (cq : P.cellsOf q = 1)
    (h : DataW.Trod enc P w base (fun _ => true) held t (.slice a len cap) d ps) : ∃ ls : List (List Int), ls.length = len ∧ Kd.C (Kd.slice q (Kd.int .i64)) w a len ls ∧ len ≤ cap ∧ (∀ l ∈ ls, l.length ≤ 9223372036854775807) := by
  obtain ⟨fuel, hf⟩ := h
  rcases open_int_rows ht he hq ce cq hf with ⟨hcs, _⟩ | ⟨x, l, c, A, L, C, Z, hcs, _, hl, hm, _, hi⟩
  · simp [Value.cells] at hcs
    obtain ⟨rfl, rfl, rfl⟩ := hcs
    exact ⟨[], rfl, Kd.C_nil _ _, Nat.le_refl _, fun l hl => by cases hl⟩
  · simp [Value.cells] at hcs
    obtain ⟨rfl, rfl, rfl⟩ := hcs
    unfold maxLen at hm
    have hlen : ∀ r, r < cap → ((Z r).take (L r)).length = L r := fun r hr => by
      obtain ⟨_, h1, _, h3, _⟩ := hi r hr
      rw [List.length_take]; omega
    refine ⟨(List.range len).map fun r => (Z r).take (L r), by simp, ⟨by simp, by omega, fun _ => ⟨x, rfl, fun j p hp => ?_⟩⟩, hl, fun p hp => ?_⟩
    · rw [List.getElem?_map] at hp
      obtain ⟨r, hr, rfl⟩ := Option.map_eq_some_iff.1 hp
      obtain ⟨hj, hr2⟩ := List.getElem?_eq_some_iff.1 hr
      rw [List.length_range] at hj
      rw [List.getElem_range] at hr2
      subst hr2
      obtain ⟨hcell, h1, h2, h3, h4, h5, h6⟩ := hi j (by omega)
      have hlj := hlen j (by omega)
      unfold maxLen at h2
      refine ⟨[.slice (A j) (L j) (C j)], rfl, ⟨A j, C j, by rw [hlj], by rw [hlj]; exact h1, ⟨rfl, by rw [hlj]; omega, fun hpos => ?_⟩⟩, fun i u hu => ?_⟩
      · rw [hlj] at hpos
        obtain ⟨a', ha'⟩ : ∃ a', A j = some a' := by
          cases hA : A j with
          | none => have := h5 hA; omega
          | some a' => exact ⟨a', rfl⟩
        refine ⟨a', ha', fun i y hy => ⟨[.int .i64 y], rfl, rfl, fun m u hu => ?_⟩⟩
        cases m with
        | succ m => simp at hu
        | zero =>
          injection hu with hu; subst hu
          have hil : i < L j := by
            have := (List.getElem?_eq_some_iff.1 hy).1
            rw [hlj] at this; exact this
          have := (h6 a' ha').2 i (by omega)
          show w.cell? (a'.add (i * 1 + 0)) = _
          rw [show i * 1 + 0 = i by omega, this]
          rw [List.getElem?_take, if_pos hil] at hy
          rw [List.getD, hy]; rfl
      · cases i with
        | succ i => simp at hu
        | zero =>
          injection hu with hu; subst hu
          show w.cell? (x.add (j * 1 + 0)) = _
          rw [show j * 1 + 0 = j by omega]; exact hcell
    · obtain ⟨r, hr, rfl⟩ := List.mem_map.1 hp
      have hr := List.mem_range.1 hr
      obtain ⟨_, h1, h2, _⟩ := hi r (by omega)
      unfold maxLen at h2
      rw [hlen r (by omega)]; omega
end Go.Proofs.Ytckpgbkbbdifmaa.Ep
namespace Go.Proofs.Ytckpgbkbbdifmaa.mergeTells
open Go.ChangeShapes Go.WideShapes Go.ChangeAt Go.RowKit Go.Deep
open Go.ChangeMaps (open_string shut_string)
open Go Go.RowKit Go.Proofs.YtckpgbkbbdifmaaW.PrintWords Go.Proofs.YtckpgbkbbdifmaaW.PrintLast Go.Proofs.YtckpgbkbbdifmaaW.PrintMore Go.Proofs.Ytckpgbkbbdifmaa.PMergeTells Go.Proofs.Ytckpgbkbbdifmaa.Ep
set_option linter.unusedVariables false
set_option linter.unusedSimpArgs false
theorem walk (a0 : Option Addr) (len0 cap0 : Nat) (z0 : List (List Int)) (a1 : Int) (w : World) (n0 : z0.length = len0) (w0 : Kd.C (Kd.slice 3 (Kd.int .i64)) w a0 len0 z0) (b0 : len0 ≤ cap0) (m0 : ∀ l ∈ z0, l.length ≤ 9223372036854775807) (w1 : (Lit.int .i64 a1).wf = true) :
    Calls Try.prog 4 #[.slice a0 len0 cap0, .int .i64 a1] w fun e w' => e = .returned (.bool true) ∧ Below w.heap.size w w' := by
  by_cases h : len0 ≤ 8
  · exact tells_in w a0 cap0 z0 a1 len0 n0 w0 b0 h w1
  · have hl : (z0.take 8).length = 8 := by rw [List.length_take]; omega
    have hc : MC w a0 8 (z0.take 8) := by
      have h9 := Kd.C_take (m := 8) (by rw [← n0] at w0; exact w0) (by omega)
      rw [hl] at h9; exact h9
    exact tells_cut w a0 cap0 (z0.take 8) a1 8 hl hc (by omega) (by decide) w1 len0 (by omega) b0 rfl

theorem own : ownKnob Try.prog.godebug = none := by kernel_rfl
theorem laidOut : laidOutB Try.prog = true := by kernel_rfl
set_option maxRecDepth 100000 in
theorem lifted (os : Os) (started : os.Started) (H : Type) (enc : TypeId × Value → H) :
    ReturnsInHanded {} Try.checked os 4 .any (Rows.mergeTellsSpec.pre6 enc Try.prog Try.f4 Rows.mergeTellsRow.domain false) (Rows.mergeTellsSpec.post enc Try.prog Try.f4 false true false false) := by
  refine returnsInHanded_of_change_sized (C := Try.checked) own started (by kernel_rfl) Try.func4
    (ChangeSpec.witness6 (enc := enc) (C := Try.checked) false ⟨#[], #[.slice none 0 0, .int .i64 0], []⟩ 8 (by kernel_rfl) (by kernel_rfl) (by kernel_rfl) (by kernel_rfl)) ?_
  intro W base args ds gs before hval0 hW hcnd hsz0 _
  have hsz : (DataW.weightsEach Try.prog (Try.f4.params.toList ++ Rows.mergeTellsSpec.plain.varTypes Try.prog) (ds ++ gs)).all (· ≤ reachBytes) = true := hsz0
  have hval : ∀ (j : Nat) t v, Try.f4.params[j]? = some t → args[j]? = some v → Value.okWide Try.prog W .any base t v := hval0
  have hW' := hW
  obtain ⟨p, q, hA0, hV, rfl, hfz, hnd⟩ := hW
  have hA : DataW.TrodAll enc Try.prog W 0 (fun _ => true) true Try.f4.params.toList args.toList ds p := hA0
  rw [Try.params4] at hA hval hsz
  obtain ⟨v0, vs0, d0, ds0, p0, q0, hargs, rfl, rfl, h0, r0⟩ := trodAll_cons hA
  obtain ⟨v1, vs1, d1, ds1, p1, q1, rfl, rfl, rfl, h1, r1⟩ := trodAll_cons r0
  obtain ⟨rfl, rfl, rfl⟩ := trodAll_nil r1
  obtain rfl : args = #[v0, v1] := by cases args; simp_all
  obtain ⟨rfl, rfl⟩ := trodVars_none hV
  obtain ⟨a0, len0, cap0, rfl⟩ := okWide_slice Try.underlying28 (hval 0 28 v0 rfl rfl)
  have k0 := h0
  have lt0 : ∀ x ∈ p0, x.block < W.heap.size := by obtain ⟨m, hm⟩ := k0; exact DataW.trod_lt m _ _ _ hm
  obtain ⟨z0, n0, w0, b0, m0⟩ := open_lists Try.underlying28 Try.underlying22 Try.underlying3 (by kernel_rfl) (by kernel_rfl) h0
  obtain ⟨a1, rfl, rfl, rfl, w1⟩ := open_int Try.underlying3 (hval 1 3 v1 rfl rfl) h1
  clear hA0 hval0 hsz0 hsz
  refine (walk a0 len0 cap0 z0 a1 W n0 w0 b0 m0 w1).mono fun e W' ⟨he, bel⟩ => ?_
  subst he
  exact ⟨_, rfl, _, _, _, [], _, [], hW', trodAll_mk1 (shut_bool Try.underlying4 _), (trodAll_cons_mk (Below.trod laidOut (by kernel_rfl) (of_decide_eq_true (by kernel_rfl)) k0 bel lt0) (trodAll_cons_mk (shut_int Try.underlying3 w1) trodAll_mk0)), rfl, bel.frame _, fun h => by cases h⟩
theorem over : Rows.mergeTellsRow.holds Try.pinned (OpenSpec.ofChange Rows.mergeTellsSpec) :=
  OpenClaim.holds_of_wide 4 Try.f4 rfl rfl rfl rfl rfl rfl rfl ⟨rfl, rfl, rfl, rfl, rfl⟩ rfl rfl rfl rfl rfl (by kernel_rfl) Try.func4 (by kernel_rfl)
    (of_decide_eq_true (by kernel_rfl)) (by unfold Func.isWrapper; first | (rw [if_pos (by decide +kernel)]; kernel_rfl) | (rw [if_neg (by decide +kernel)]; exact ⟨rfl, rfl⟩))
    (fun os started H enc _ => lifted os started H enc)
theorem proved : Rows.MergeTellsSaid := over
#print axioms proved
end Go.Proofs.Ytckpgbkbbdifmaa.mergeTells
namespace Go.Proofs.Ytckpgbkbbdifmaa
/-- The row, under a short name, for the claim. -/
theorem mergeTells_holds : Rows.MergeTellsSaid := mergeTells.proved
end Go.Proofs.Ytckpgbkbbdifmaa
