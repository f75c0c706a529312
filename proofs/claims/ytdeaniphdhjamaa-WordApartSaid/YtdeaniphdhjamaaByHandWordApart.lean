/- tendrillaw1.WordApart returns true for every input; no condition. -/
import Derived.Test.YtdeaniphdhjamaaRows
import Derived.Test.YtdeaniphdhjamaaPWordTurnsx1
import Derived.Test.YtdeaniphdhjamaaBits
import Derived.WalkKit
import Derived.ProofKit
import Derived.OpenShut
import Derived.ShutString
import Derived.ChangeOld
import Derived.Below
import Derived.SizedLaws
namespace Go.Proofs.Ytdeaniphdhjamaa.wordApart
open Go.ChangeShapes Go.WideShapes Go.ChangeAt Go.RowKit
open Go.ChangeMaps (open_string shut_string)
open Go.Bx Go.Proofs.Ytdeaniphdhjamaa.PWordTurns Go.Proofs.YtdeaniphdhjamaaW.PrintWords Go.Proofs.YtdeaniphdhjamaaW.PrintLast Go.Proofs.YtdeaniphdhjamaaW.PrintMore
set_option linter.unusedVariables false
set_option linter.unusedSimpArgs false

theorem word_Ref_f (k : Nat) (s g : Int) (l : Bool) : word_Ref.f (k + 1) s g l = some (refv s g l) := by
  unfold word_Ref.f refv
  by_cases h0 : s < 0
  · rw [if_pos h0, if_neg (by omega)]; rfl
  rw [if_neg h0]
  by_cases h1 : s ≥ 1024
  · rw [if_pos h1, if_neg (by omega)]; rfl
  rw [if_neg h1]
  by_cases h2 : g < 1
  · rw [if_pos h2, if_neg (by omega)]; rfl
  rw [if_neg h2]
  by_cases h3 : g > 1073741824
  · rw [if_neg (by omega), decide_eq_true h3]; rfl
  rw [if_pos (by omega), decide_eq_false h3]
  simp only [word_Ref.j0, Bool.false_eq_true, if_false]
  rw [ref_or s g (by omega) (by omega) (by omega) (by omega)]
  cases l
  · simp
  · simp only [if_true]; rw [ref_or_leaf s g (by omega) (by omega) (by omega) (by omega)]

theorem word_Parts_f (k : Nat) (r : Int) : word_Parts.f (k + 1) r = some (partsv r) := by
  unfold word_Parts.f
  by_cases h0 : r = 0
  · subst h0; rw [if_pos rfl]; rfl
  rw [if_neg h0, slot_bits, gen_bits, word_Ref_f]
  simp only [Option.bind_some]
  by_cases h : isRef r
  · have hb := refv_back r h
    rw [leaf_tells r (by have := h.1; omega) h.2.1, if_pos hb]
    unfold partsv; rw [if_pos h]
  · rw [if_neg (refv_no r _ h h0)]
    unfold partsv; rw [if_neg h]

theorem runs_f (k : Nat) : tendrillaw1_WordRuns.f (k + 1) = some true := by
  unfold tendrillaw1_WordRuns.f
  rw [word_Ref_f]; simp only [Option.bind_some]
  rw [word_Parts_f, word_Parts_f]; simp only [Option.bind_some]
  decide +kernel

theorem and3 (x : Int) : Go.bits .and .u64 x 3 = x % 4 := and_mask_u64 x 2 (by decide) _ (by decide)
theorem and2 (x : Int) (h0 : 0 ≤ x) (h1 : x ≤ 18446744073709551615) : Go.bits .and .u64 x 2 = 2 * (x / 2 % 2) := and_bit_u64 x 1 (by decide) h0 h1
theorem or1 (x : Int) (h0 : 0 ≤ x) (h1 : x ≤ 18446744073709551615) (h : x % 4 = 0) : Go.bits .or .u64 x 1 = x + 1 := or_join_u64 2 x 1 h0 h (by omega) (by omega) (by omega) (by omega)
theorem or2 (x : Int) (h0 : 0 ≤ x) (h1 : x ≤ 18446744073709551615) (h : x % 4 = 0) : Go.bits .or .u64 x 2 = x + 2 := or_join_u64 2 x 2 h0 h (by omega) (by omega) (by omega) (by omega)
theorem free_yes (x : Int) (h : x % 4 = 0) : word_Free.f x = some true := by unfold word_Free.f; rw [and3, h]; rfl
theorem free_no (x : Int) (h : x % 4 ≠ 0) : word_Free.f x = some false := by unfold word_Free.f; rw [and3]; simp [h]
theorem lock_yes (x : Int) (h0 : 0 ≤ x) (h1 : x ≤ 18446744073709551615) (h : x % 4 = 0) : word_Lock.f x = some (x + 1, true) := by
  unfold word_Lock.f; rw [free_yes x h]; simp only [Option.bind_some, if_true]; rw [or1 x h0 h1 h]
theorem lock_no (x : Int) (h : x % 4 ≠ 0) : word_Lock.f x = some (0, false) := by
  unfold word_Lock.f; rw [free_no x h]; simp
theorem dead_f (x : Int) (h0 : 0 ≤ x) (h1 : x ≤ 18446744073709551615) : word_Dead.f x = some (decide (x / 2 % 2 = 1)) := by
  unfold word_Dead.f; rw [and2 x h0 h1]
  congr 1
  rw [Bool.eq_iff_iff]; simp only [bne_iff_ne, ne_eq, decide_eq_true_eq]; omega
theorem bare_f (x : Int) (h0 : 0 ≤ x) (h1 : x ≤ 18446744073709551615) : word_bare.f x = some ((x - x % 4 + 4) % 18446744073709551616) := by
  unfold word_bare.f; rw [andNot3_u64 x h0 h1, wrap_u64]
theorem unlock_f (x : Int) (h0 : 0 ≤ x) (h1 : x ≤ 18446744073709551615) : word_Unlock.f x = some ((x - x % 4 + 4) % 18446744073709551616) := by
  unfold word_Unlock.f; rw [bare_f x h0 h1]; rfl
theorem kill_f (x : Int) (h0 : 0 ≤ x) (h1 : x ≤ 18446744073709551615) : word_Kill.f x = some ((x - x % 4 + 4) % 18446744073709551616 + 2) := by
  unfold word_Kill.f; rw [bare_f x h0 h1]; simp only [Option.bind_some]; rw [or2 _ (by omega) (by omega) (by omega)]

set_option maxHeartbeats 4000000 in
set_option maxRecDepth 100000 in
theorem walk_over (k : Nat) (a0 a1 x y ux uy kx ky : Int) (w : World)
    (A1 : Aside0 (word_Lock.f (Go.bits .andNot .u64 a0 3) = some (x, true)))
    (A2 : Aside0 (word_Lock.f (Go.bits .andNot .u64 a1 3) = some (y, true)))
    (A3 : Aside0 (word_Unlock.f x = some ux)) (A4 : Aside0 (word_Unlock.f y = some uy))
    (A5 : Aside0 (word_Kill.f x = some kx)) (A6 : Aside0 (word_Kill.f y = some ky))
    (A7 : Aside0 (word_Free.f (Go.bits .andNot .u64 a0 3) = some true)) (A8 : Aside0 (word_Free.f x = some false))
    (A9 : Aside0 (word_Dead.f x = some false)) (A10 : Aside0 (word_Dead.f kx = some true)) (A11 : Aside0 (tendrillaw1_WordRuns.f k = some true))
    (c1 : ((x == y) == ((Go.bits .andNot .u64 a0 3) == (Go.bits .andNot .u64 a1 3))) = true)
    (c1b : decide ((x == y) = ((Go.bits .andNot .u64 a0 3) == (Go.bits .andNot .u64 a1 3))) = true)
    (c2 : ((ux == uy) == ((Go.bits .andNot .u64 a0 3) == (Go.bits .andNot .u64 a1 3))) = true)
    (c2b : decide ((ux == uy) = ((Go.bits .andNot .u64 a0 3) == (Go.bits .andNot .u64 a1 3))) = true)
    (c3 : ((kx == ky) == ((Go.bits .andNot .u64 a0 3) == (Go.bits .andNot .u64 a1 3))) = true)
    (c3b : decide ((kx == ky) = ((Go.bits .andNot .u64 a0 3) == (Go.bits .andNot .u64 a1 3))) = true)
    (d1 : (x == ux) = false) (d2 : (x != ux) = true) (e1 : (ux == kx) = false) (e2 : (ux != kx) = true) :
    Calls Try.prog 8 #[.int .u64 a0, .int .u64 a1] w fun e w' => e = .returned (.bool true) ∧ Drawn0 w w' := by
  go_enter Try.func8, Try.ntmps8
  go_wp2_with (first
    | ((with_reducible refine gate_callee (f := 11) rfl ?_); refine goesL_ (some 17) rfl rfl Try.func11 (by kernel_rfl) rfl #[.int .u64 (Go.bits .andNot .u64 a0 3)] rfl (by (try simp only [List.map_toArray, List.map_cons, List.map_nil]); first | done | rfl) ?_; (with_reducible refine (word_Lock.calls (Go.bits .andNot .u64 a0 3) x true _ A1.out).mono ?_); rintro e w' ⟨rfl, ⟨nd, rfl⟩⟩; refine ⟨_, rfl, ?_⟩)
    | ((with_reducible refine gate_callee (f := 11) rfl ?_); refine goesL_ (some 22) rfl rfl Try.func11 (by kernel_rfl) rfl #[.int .u64 (Go.bits .andNot .u64 a1 3)] rfl (by (try simp only [List.map_toArray, List.map_cons, List.map_nil]); first | done | rfl) ?_; (with_reducible refine (word_Lock.calls (Go.bits .andNot .u64 a1 3) y true _ A2.out).mono ?_); rintro e w' ⟨rfl, ⟨nd, rfl⟩⟩; refine ⟨_, rfl, ?_⟩)
    | (go_at_call 12; (with_reducible refine (word_Unlock.calls x ux _ A3.out).mono ?_); rintro e w' ⟨rfl, ⟨nd, rfl⟩⟩)
    | (go_at_call 12; (with_reducible refine (word_Unlock.calls y uy _ A4.out).mono ?_); rintro e w' ⟨rfl, ⟨nd, rfl⟩⟩)
    | (go_at_call 13; (with_reducible refine (word_Kill.calls x kx _ A5.out).mono ?_); rintro e w' ⟨rfl, ⟨nd, rfl⟩⟩)
    | (go_at_call 13; (with_reducible refine (word_Kill.calls y ky _ A6.out).mono ?_); rintro e w' ⟨rfl, ⟨nd, rfl⟩⟩)
    | (go_at_call 18; (with_reducible refine (word_Free.calls (Go.bits .andNot .u64 a0 3) true _ A7.out).mono ?_); rintro e w' ⟨rfl, ⟨nd, rfl⟩⟩)
    | (go_at_call 18; (with_reducible refine (word_Free.calls x false _ A8.out).mono ?_); rintro e w' ⟨rfl, ⟨nd, rfl⟩⟩)
    | (go_at_call 19; (with_reducible refine (word_Dead.calls x false _ A9.out).mono ?_); rintro e w' ⟨rfl, ⟨nd, rfl⟩⟩)
    | (go_at_call 19; (with_reducible refine (word_Dead.calls kx true _ A10.out).mono ?_); rintro e w' ⟨rfl, ⟨nd, rfl⟩⟩)
    | (go_at_call 3; (with_reducible refine (tendrillaw1_WordRuns.calls k true _ A11.out).mono ?_); rintro e w' ⟨rfl, ⟨nd, rfl⟩⟩))
  go_ret
  exact ⟨by first | rfl | (simp; done) | (simp [*]; done), by repeat (first | exact Drawn0.refl _ | apply Drawn0.step)⟩
theorem walk (a0 a1 : Int) (w : World) (w0 : (Lit.int .u64 a0).wf = true) (w1 : (Lit.int .u64 a1).wf = true) :
    Calls Try.prog 8 #[.int .u64 a0, .int .u64 a1] w fun e w' => e = .returned (.bool true) ∧ Below w.heap.size w w' := by
  have b0 := wf_u64 w0
  have b1 := wf_u64 w1
  have n0 := andNot3_u64 a0 b0.1 b0.2
  have n1 := andNot3_u64 a1 b1.1 b1.2
  have beq2 : ∀ p q r s : Int, (p = q ↔ r = s) → (p == q) = (r == s) := fun p q r s h => by rw [Bool.eq_iff_iff, beq_iff_eq, beq_iff_eq]; exact h
  refine (walk_over 1 a0 a1 (a0 - a0 % 4 + 1) (a1 - a1 % 4 + 1) ((a0 - a0 % 4 + 4) % 18446744073709551616) ((a1 - a1 % 4 + 4) % 18446744073709551616) ((a0 - a0 % 4 + 4) % 18446744073709551616 + 2) ((a1 - a1 % 4 + 4) % 18446744073709551616 + 2) w
    ⟨?_⟩ ⟨?_⟩ ⟨?_⟩ ⟨?_⟩ ⟨?_⟩ ⟨?_⟩ ⟨?_⟩ ⟨?_⟩ ⟨?_⟩ ⟨?_⟩ ⟨runs_f 0⟩ ?_ ?_ ?_ ?_ ?_ ?_ ?_ ?_ ?_ ?_).mono ?_
  · rw [n0]; exact lock_yes _ (by omega) (by omega) (by omega)
  · rw [n1]; exact lock_yes _ (by omega) (by omega) (by omega)
  · rw [unlock_f _ (by omega) (by omega)]; congr 1; omega
  · rw [unlock_f _ (by omega) (by omega)]; congr 1; omega
  · rw [kill_f _ (by omega) (by omega)]; congr 1; omega
  · rw [kill_f _ (by omega) (by omega)]; congr 1; omega
  · rw [n0]; exact free_yes _ (by omega)
  · exact free_no _ (by omega)
  · rw [dead_f _ (by omega) (by omega)]; congr 1; rw [decide_eq_false_iff_not]; omega
  · rw [dead_f _ (by omega) (by omega)]; congr 1; rw [decide_eq_true_iff]; omega
  · rw [n0, n1, beq_iff_eq]; exact beq2 _ _ _ _ (by omega)
  · rw [n0, n1, decide_eq_true_iff]; exact beq2 _ _ _ _ (by omega)
  · rw [n0, n1, beq_iff_eq]; exact beq2 _ _ _ _ (by omega)
  · rw [n0, n1, decide_eq_true_iff]; exact beq2 _ _ _ _ (by omega)
  · rw [n0, n1, beq_iff_eq]; exact beq2 _ _ _ _ (by omega)
  · rw [n0, n1, decide_eq_true_iff]; exact beq2 _ _ _ _ (by omega)
  · rw [beq_eq_false_iff_ne]; omega
  · rw [bne_iff_ne]; omega
  · rw [beq_eq_false_iff_ne]; omega
  · rw [bne_iff_ne]; omega
  · rintro e w' ⟨rfl, hd⟩
    exact ⟨rfl, hd.below⟩
theorem own : ownKnob Try.prog.godebug = none := by kernel_rfl
set_option maxRecDepth 100000 in
theorem lifted (os : Os) (started : os.Started) (H : Type) (enc : TypeId × Value → H) :
    ReturnsInHanded {} Try.checked os 8 .any (Rows.wordApartSpec.pre6 enc Try.prog Try.f8 Rows.wordApartRow.domain false) (Rows.wordApartSpec.post enc Try.prog Try.f8 false true false false) := by
  refine returnsInHanded_of_change_sized (C := Try.checked) own started (by kernel_rfl) Try.func8
    (ChangeSpec.witness6 (enc := enc) (C := Try.checked) false ⟨#[], #[.int .u64 0, .int .u64 0], []⟩ 8 (by kernel_rfl) (by kernel_rfl) (by kernel_rfl) (by kernel_rfl)) ?_
  intro W base args ds gs before hval0 hW hcnd hsz0 _
  have hsz : (DataW.weightsEach Try.prog (Try.f8.params.toList ++ Rows.wordApartSpec.plain.varTypes Try.prog) (ds ++ gs)).all (· ≤ reachBytes) = true := hsz0
  have hval : ∀ (j : Nat) t v, Try.f8.params[j]? = some t → args[j]? = some v → Value.okWide Try.prog W .any base t v := hval0
  have hW' := hW
  obtain ⟨p, q, hA0, hV, rfl, hfz, hnd⟩ := hW
  have hA : DataW.TrodAll enc Try.prog W 0 (fun _ => true) true Try.f8.params.toList args.toList ds p := hA0
  rw [Try.params8] at hA hval hsz
  obtain ⟨v0, vs0, d0, ds0, p0, q0, hargs, rfl, rfl, h0, r0⟩ := trodAll_cons hA
  obtain ⟨v1, vs1, d1, ds1, p1, q1, rfl, rfl, rfl, h1, r1⟩ := trodAll_cons r0
  obtain ⟨rfl, rfl, rfl⟩ := trodAll_nil r1
  obtain rfl : args = #[v0, v1] := by cases args; simp_all
  obtain ⟨rfl, rfl⟩ := trodVars_none hV
  obtain ⟨a0, rfl, rfl, rfl, w0⟩ := open_int Try.underlying25 (hval 0 25 v0 rfl rfl) h0
  obtain ⟨a1, rfl, rfl, rfl, w1⟩ := open_int Try.underlying25 (hval 1 25 v1 rfl rfl) h1
  clear hA0 hval0 hsz0 hsz
  refine (walk a0 a1 W w0 w1).mono fun e W' ⟨he, bel⟩ => ?_
  subst he
  exact ⟨_, rfl, _, _, _, [], _, [], hW', trodAll_mk1 (shut_bool Try.underlying4 _), (trodAll_cons_mk (shut_int Try.underlying25 w0) (trodAll_cons_mk (shut_int Try.underlying25 w1) trodAll_mk0)), rfl, bel.frame _, fun h => by cases h⟩
theorem over : Rows.wordApartRow.holds Try.pinned (OpenSpec.ofChange Rows.wordApartSpec) :=
  OpenClaim.holds_of_wide 8 Try.f8 rfl rfl rfl rfl rfl rfl rfl ⟨rfl, rfl, rfl, rfl, rfl⟩ rfl rfl rfl rfl rfl (by kernel_rfl) Try.func8 (by kernel_rfl)
    (of_decide_eq_true (by kernel_rfl)) (by unfold Func.isWrapper; first | (rw [if_pos (by decide +kernel)]; kernel_rfl) | (rw [if_neg (by decide +kernel)]; exact ⟨rfl, rfl⟩))
    (fun os started H enc _ => lifted os started H enc)
theorem proved : Rows.WordApartSaid := over
#print axioms proved
end Go.Proofs.Ytdeaniphdhjamaa.wordApart
namespace Go.Proofs.Ytdeaniphdhjamaa
/-- The row, under a short name, for the claim. -/
theorem wordApart_holds : Rows.WordApartSaid := wordApart.proved
end Go.Proofs.Ytdeaniphdhjamaa
