/- tendrillaw1.WordTells returns true for every input; no condition. -/
import Derived.Test.YtdeaniphdhjamaaRows
import Derived.Test.YtdeaniphdhjamaaPWordTellsx1
import Derived.Test.YtdeaniphdhjamaaBits
import Derived.WalkKit
import Derived.ProofKit
import Derived.OpenShut
import Derived.ShutString
import Derived.ChangeOld
import Derived.Below
import Derived.SizedLaws
namespace Go.Proofs.Ytdeaniphdhjamaa.wordTells
open Go.ChangeShapes Go.WideShapes Go.ChangeAt Go.RowKit
open Go.ChangeMaps (open_string shut_string)
open Go.Bx Go.Proofs.Ytdeaniphdhjamaa.PWordTells Go.Proofs.YtdeaniphdhjamaaW.PrintWords Go.Proofs.YtdeaniphdhjamaaW.PrintLast Go.Proofs.YtdeaniphdhjamaaW.PrintMore
set_option linter.unusedVariables false
set_option linter.unusedSimpArgs false

theorem word_Ref_f (k : Nat) (s g : Int) (l : Bool) : word_Ref.f (k + 1) s g l = some (refv s g l) := by
  unfold word_Ref.f refv
  by_cases h0 : s < 0
  · rw [if_pos h0, if_neg (by omega)]; rfl
  rw [if_neg h0]
  by_cases h1 : s ≥ 1024
  · rw [if_pos h1, if_neg (by omega)]; rfl
  rw [if_neg h1]
  by_cases h2 : g < 1
  · rw [if_pos h2, if_neg (by omega)]; rfl
  rw [if_neg h2]
  by_cases h3 : g > 1073741824
  · rw [if_neg (by omega), decide_eq_true h3]; rfl
  rw [if_pos (by omega), decide_eq_false h3]
  simp only [word_Ref.j0, Bool.false_eq_true, if_false]
  rw [ref_or s g (by omega) (by omega) (by omega) (by omega)]
  cases l
  · simp
  · simp only [if_true]; rw [ref_or_leaf s g (by omega) (by omega) (by omega) (by omega)]

theorem tendrilref1_Ref_f (k : Nat) (s g : Int) (l : Bool) : tendrilref1_Ref.f (k + 1) s g l = some (refv s g l) := by
  unfold tendrilref1_Ref.f refv
  by_cases h0 : s < 0
  · rw [if_pos h0, if_neg (by omega)]; rfl
  rw [if_neg h0]
  by_cases h1 : s ≥ 1024
  · rw [if_pos h1, if_neg (by omega)]; rfl
  rw [if_neg h1]
  by_cases h2 : g < 1
  · rw [if_pos h2, if_neg (by omega)]; rfl
  rw [if_neg h2]
  by_cases h3 : g > 1073741824
  · rw [if_neg (by omega), decide_eq_true h3]; rfl
  rw [if_pos (by omega), decide_eq_false h3]
  simp only [tendrilref1_Ref.j0, Bool.false_eq_true, if_false]
  rw [ref_or s g (by omega) (by omega) (by omega) (by omega)]
  cases l
  · simp
  · simp only [if_true]; rw [ref_or_leaf s g (by omega) (by omega) (by omega) (by omega)]

theorem word_Parts_f (k : Nat) (r : Int) : word_Parts.f (k + 1) r = some (partsv r) := by
  unfold word_Parts.f
  by_cases h0 : r = 0
  · subst h0; rw [if_pos rfl]; rfl
  rw [if_neg h0, slot_bits, gen_bits, word_Ref_f]
  simp only [Option.bind_some]
  by_cases h : isRef r
  · have hb := refv_back r h
    rw [leaf_tells r (by have := h.1; omega) h.2.1, if_pos hb]
    unfold partsv; rw [if_pos h]
  · rw [if_neg (refv_no r _ h h0)]
    unfold partsv; rw [if_neg h]

theorem refParts_f (k : Nat) (r : Int) : tendrilref1_Parts.f (k + 2) r = some (partsv r) := by
  unfold tendrilref1_Parts.f
  by_cases h0 : r ≤ 0
  · rw [if_pos h0]
    simp only [tendrilref1_Parts.j0, if_true]
    unfold partsv; rw [if_neg (fun h => by have := h.1; omega)]
  rw [if_neg h0]
  by_cases h1 : r ≥ 562949953421312
  · rw [decide_eq_true h1]
    simp only [tendrilref1_Parts.j0, if_true]
    unfold partsv; rw [if_neg (fun h => by have := h.2.1; omega)]
  rw [decide_eq_false h1]
  simp only [tendrilref1_Parts.j0, Bool.false_eq_true, if_false]
  rw [slot_bits, gen_bits, tendrilref1_Ref_f, leaf_tells' r (by omega) (by omega)]
  simp only [Option.bind_some]
  by_cases h : isRef r
  · rw [if_pos (refv_back r h)]
    unfold partsv; rw [if_pos h]
  · rw [if_neg (refv_no r _ h (by omega))]
    unfold partsv; rw [if_neg h]

theorem runs_f (k : Nat) : tendrillaw1_WordRuns.f (k + 1) = some true := by
  unfold tendrillaw1_WordRuns.f
  rw [word_Ref_f]; simp only [Option.bind_some]
  rw [word_Parts_f, word_Parts_f]; simp only [Option.bind_some]
  decide +kernel

set_option maxHeartbeats 4000000 in
set_option maxRecDepth 100000 in
theorem walk_over (k : Nat) (a0 a1 : Int) (a2 : Bool) (a3 a4 s g x r u d : Int) (l ok q : Bool) (w : World)
    (A1 : Aside0 (word_Parts.f k a3 = some (s, g, l, ok))) (A2 : Aside0 (tendrilref1_Parts.f k a3 = some (s, g, l, ok)))
    (A3 : Aside0 (word_Lock.f a4 = some (x, q))) (A4 : Aside0 (tendrilref1_Lock.f a4 = some (x, q)))
    (A5 : Aside0 (word_Ref.f k a0 a1 a2 = some r)) (A6 : Aside0 (tendrilref1_Ref.f k a0 a1 a2 = some r))
    (A7 : Aside0 (word_Free.f a4 = some (Go.bits .and .u64 a4 3 == 0))) (A8 : Aside0 (word_Dead.f a4 = some (Go.bits .and .u64 a4 2 != 0)))
    (A9 : Aside0 (word_Unlock.f a4 = some u)) (A10 : Aside0 (tendrilref1_Unlock.f a4 = some u))
    (A11 : Aside0 (word_Kill.f a4 = some d)) (A12 : Aside0 (tendrilref1_Kill.f a4 = some d)) (A13 : Aside0 (tendrillaw1_WordRuns.f k = some true)) :
    Calls Try.prog 6 #[.int .i64 a0, .int .i64 a1, .bool a2, .int .i64 a3, .int .u64 a4] w fun e w' => e = .returned (.bool true) ∧ Drawn0 w w' := by
  go_enter Try.func6, Try.ntmps6
  go_wp2_with (first
    | ((with_reducible refine gate_callee (f := 10) rfl ?_); refine goesL_ (some 25) rfl rfl Try.func10 (by kernel_rfl) rfl #[.int .i64 a3] rfl (by (try simp only [List.map_toArray, List.map_cons, List.map_nil]); first | done | rfl) ?_; (with_reducible refine (word_Parts.calls k a3 s g l ok _ A1.out).mono ?_); rintro e w' ⟨rfl, ⟨nd, rfl⟩⟩; refine ⟨_, rfl, ?_⟩)
    | ((with_reducible refine gate_callee (f := 15) rfl ?_); refine goesL_ (some 32) rfl rfl Try.func15 (by kernel_rfl) rfl #[.int .i64 a3] rfl (by (try simp only [List.map_toArray, List.map_cons, List.map_nil]); first | done | rfl) ?_; (with_reducible refine (tendrilref1_Parts.calls k a3 s g l ok _ A2.out).mono ?_); rintro e w' ⟨rfl, ⟨nd, rfl⟩⟩; refine ⟨_, rfl, ?_⟩)
    | ((with_reducible refine gate_callee (f := 11) rfl ?_); refine goesL_ (some 39) rfl rfl Try.func11 (by kernel_rfl) rfl #[.int .u64 a4] rfl (by (try simp only [List.map_toArray, List.map_cons, List.map_nil]); first | done | rfl) ?_; (with_reducible refine (word_Lock.calls a4 x q _ A3.out).mono ?_); rintro e w' ⟨rfl, ⟨nd, rfl⟩⟩; refine ⟨_, rfl, ?_⟩)
    | ((with_reducible refine gate_callee (f := 16) rfl ?_); refine goesL_ (some 44) rfl rfl Try.func16 (by kernel_rfl) rfl #[.int .u64 a4] rfl (by (try simp only [List.map_toArray, List.map_cons, List.map_nil]); first | done | rfl) ?_; (with_reducible refine (tendrilref1_Lock.calls a4 x q _ A4.out).mono ?_); rintro e w' ⟨rfl, ⟨nd, rfl⟩⟩; refine ⟨_, rfl, ?_⟩)
    | (go_at_call 9; (with_reducible refine (word_Ref.calls k a0 a1 a2 r _ A5.out).mono ?_); rintro e w' ⟨rfl, ⟨nd, rfl⟩⟩)
    | (go_at_call 17; (with_reducible refine (tendrilref1_Ref.calls k a0 a1 a2 r _ A6.out).mono ?_); rintro e w' ⟨rfl, ⟨nd, rfl⟩⟩)
    | (go_at_call 18; (with_reducible refine (word_Free.calls a4 _ _ A7.out).mono ?_); rintro e w' ⟨rfl, ⟨nd, rfl⟩⟩)
    | (go_at_call 19; (with_reducible refine (word_Dead.calls a4 _ _ A8.out).mono ?_); rintro e w' ⟨rfl, ⟨nd, rfl⟩⟩)
    | (go_at_call 12; (with_reducible refine (word_Unlock.calls a4 u _ A9.out).mono ?_); rintro e w' ⟨rfl, ⟨nd, rfl⟩⟩)
    | (go_at_call 20; (with_reducible refine (tendrilref1_Unlock.calls a4 u _ A10.out).mono ?_); rintro e w' ⟨rfl, ⟨nd, rfl⟩⟩)
    | (go_at_call 13; (with_reducible refine (word_Kill.calls a4 d _ A11.out).mono ?_); rintro e w' ⟨rfl, ⟨nd, rfl⟩⟩)
    | (go_at_call 21; (with_reducible refine (tendrilref1_Kill.calls a4 d _ A12.out).mono ?_); rintro e w' ⟨rfl, ⟨nd, rfl⟩⟩)
    | (go_at_call 3; (with_reducible refine (tendrillaw1_WordRuns.calls k true _ A13.out).mono ?_); rintro e w' ⟨rfl, ⟨nd, rfl⟩⟩))
  go_ret
  exact ⟨by first | rfl | (simp; done) | (simp [*]; done), by repeat (first | exact Drawn0.refl _ | apply Drawn0.step)⟩
theorem walk (a0 a1 : Int) (a2 : Bool) (a3 a4 : Int) (w : World) (w0 : (Lit.int .i64 a0).wf = true) (w1 : (Lit.int .i64 a1).wf = true) (w3 : (Lit.int .i64 a3).wf = true) (w4 : (Lit.int .u64 a4).wf = true) :
    Calls Try.prog 6 #[.int .i64 a0, .int .i64 a1, .bool a2, .int .i64 a3, .int .u64 a4] w fun e w' => e = .returned (.bool true) ∧ Below w.heap.size w w' := by
  obtain ⟨x, q, e1, e2⟩ : ∃ x q, word_Lock.f a4 = some (x, q) ∧ tendrilref1_Lock.f a4 = some (x, q) := by
    unfold word_Lock.f tendrilref1_Lock.f word_Free.f
    by_cases h : Go.bits .and .u64 a4 3 = 0
    · exact ⟨_, _, by simp [h]; exact ⟨rfl, rfl⟩, by simp [h]⟩
    · exact ⟨_, _, by simp [h]; exact ⟨rfl, rfl⟩, by simp [h]⟩
  refine (walk_over 2 a0 a1 a2 a3 a4 (partsv a3).1 (partsv a3).2.1 x _ _ _ (partsv a3).2.2.1 (partsv a3).2.2.2 q w
    ⟨word_Parts_f 1 a3⟩ ⟨refParts_f 0 a3⟩ ⟨e1⟩ ⟨e2⟩ ⟨word_Ref_f 1 a0 a1 a2⟩ ⟨tendrilref1_Ref_f 1 a0 a1 a2⟩ ⟨rfl⟩ ⟨rfl⟩ ⟨rfl⟩ ⟨rfl⟩ ⟨rfl⟩ ⟨rfl⟩ ⟨runs_f 1⟩).mono ?_
  rintro e w' ⟨rfl, hd⟩
  exact ⟨rfl, hd.below⟩
theorem own : ownKnob Try.prog.godebug = none := by kernel_rfl
set_option maxRecDepth 100000 in
theorem lifted (os : Os) (started : os.Started) (H : Type) (enc : TypeId × Value → H) :
    ReturnsInHanded {} Try.checked os 6 .any (Rows.wordTellsSpec.pre6 enc Try.prog Try.f6 Rows.wordTellsRow.domain false) (Rows.wordTellsSpec.post enc Try.prog Try.f6 false true false false) := by
  refine returnsInHanded_of_change_sized (C := Try.checked) own started (by kernel_rfl) Try.func6
    (ChangeSpec.witness6 (enc := enc) (C := Try.checked) false ⟨#[], #[.int .i64 0, .int .i64 0, .bool false, .int .i64 0, .int .u64 0], []⟩ 8 (by kernel_rfl) (by kernel_rfl) (by kernel_rfl) (by kernel_rfl)) ?_
  intro W base args ds gs before hval0 hW hcnd hsz0 _
  have hsz : (DataW.weightsEach Try.prog (Try.f6.params.toList ++ Rows.wordTellsSpec.plain.varTypes Try.prog) (ds ++ gs)).all (· ≤ reachBytes) = true := hsz0
  have hval : ∀ (j : Nat) t v, Try.f6.params[j]? = some t → args[j]? = some v → Value.okWide Try.prog W .any base t v := hval0
  have hW' := hW
  obtain ⟨p, q, hA0, hV, rfl, hfz, hnd⟩ := hW
  have hA : DataW.TrodAll enc Try.prog W 0 (fun _ => true) true Try.f6.params.toList args.toList ds p := hA0
  rw [Try.params6] at hA hval hsz
  obtain ⟨v0, vs0, d0, ds0, p0, q0, hargs, rfl, rfl, h0, r0⟩ := trodAll_cons hA
  obtain ⟨v1, vs1, d1, ds1, p1, q1, rfl, rfl, rfl, h1, r1⟩ := trodAll_cons r0
  obtain ⟨v2, vs2, d2, ds2, p2, q2, rfl, rfl, rfl, h2, r2⟩ := trodAll_cons r1
  obtain ⟨v3, vs3, d3, ds3, p3, q3, rfl, rfl, rfl, h3, r3⟩ := trodAll_cons r2
  obtain ⟨v4, vs4, d4, ds4, p4, q4, rfl, rfl, rfl, h4, r4⟩ := trodAll_cons r3
  obtain ⟨rfl, rfl, rfl⟩ := trodAll_nil r4
  obtain rfl : args = #[v0, v1, v2, v3, v4] := by cases args; simp_all
  obtain ⟨rfl, rfl⟩ := trodVars_none hV
  obtain ⟨a0, rfl, rfl, rfl, w0⟩ := open_int Try.underlying3 (hval 0 3 v0 rfl rfl) h0
  obtain ⟨a1, rfl, rfl, rfl, w1⟩ := open_int Try.underlying3 (hval 1 3 v1 rfl rfl) h1
  obtain ⟨a2, rfl, rfl, rfl⟩ := open_bool Try.underlying4 (hval 2 4 v2 rfl rfl) h2
  obtain ⟨a3, rfl, rfl, rfl, w3⟩ := open_int Try.underlying3 (hval 3 3 v3 rfl rfl) h3
  obtain ⟨a4, rfl, rfl, rfl, w4⟩ := open_int Try.underlying25 (hval 4 25 v4 rfl rfl) h4
  clear hA0 hval0 hsz0 hsz
  refine (walk a0 a1 a2 a3 a4 W w0 w1 w3 w4).mono fun e W' ⟨he, bel⟩ => ?_
  subst he
  exact ⟨_, rfl, _, _, _, [], _, [], hW', trodAll_mk1 (shut_bool Try.underlying4 _), (trodAll_cons_mk (shut_int Try.underlying3 w0) (trodAll_cons_mk (shut_int Try.underlying3 w1) (trodAll_cons_mk (shut_bool Try.underlying4 _) (trodAll_cons_mk (shut_int Try.underlying3 w3) (trodAll_cons_mk (shut_int Try.underlying25 w4) trodAll_mk0))))), rfl, bel.frame _, fun h => by cases h⟩
theorem over : Rows.wordTellsRow.holds Try.pinned (OpenSpec.ofChange Rows.wordTellsSpec) :=
  OpenClaim.holds_of_wide 6 Try.f6 rfl rfl rfl rfl rfl rfl rfl ⟨rfl, rfl, rfl, rfl, rfl⟩ rfl rfl rfl rfl rfl (by kernel_rfl) Try.func6 (by kernel_rfl)
    (of_decide_eq_true (by kernel_rfl)) (by unfold Func.isWrapper; first | (rw [if_pos (by decide +kernel)]; kernel_rfl) | (rw [if_neg (by decide +kernel)]; exact ⟨rfl, rfl⟩))
    (fun os started H enc _ => lifted os started H enc)
theorem proved : Rows.WordTellsSaid := over
#print axioms proved
end Go.Proofs.Ytdeaniphdhjamaa.wordTells
namespace Go.Proofs.Ytdeaniphdhjamaa
/-- The row, under a short name, for the claim. -/
theorem wordTells_holds : Rows.WordTellsSaid := wordTells.proved
end Go.Proofs.Ytdeaniphdhjamaa
