/- Statement ShapeSeeks: of a right list all ahead of the place that Seek tells are less, all from there on are not; no further condition. -/
import Derived.Test.YtdjjmnkopoldhaaDoorRows
import Derived.Test.YtdjjmnkopoldhaaDoorTie
import Derived.Test.YtdjjmnkopoldhaaDoorCards
import Derived.Test.YtdjjmnkopoldhaaDoorWSized
import Derived.Test.YtdjjmnkopoldhaaDoorLShapeSeeks
import Derived.Test.YtdjjmnkopoldhaaDoorSrt
import Derived.Test.YtdjjmnkopoldhaaDoorRowB
import Derived.WalkKit
import Derived.ProofKit
import Derived.OpenShut
import Derived.ShutString
import Derived.ChangeOld
import Derived.Below
import Derived.SizedLaws
import Derived.Deep.Slices
import Derived.Deep.Fields
import Derived.ChangeSame
import Derived.Deep.RegionLaw
import Derived.Deep.DrawnRows
import Derived.SevenTiedAt
import Derived.LaidMore
import Derived.Stop.Joined
namespace Go.Proofs.YtdjjmnkopoldhaaDoor.shapeSeeks
open Go.ChangeShapes Go.WideShapes Go.ChangeAt Go.RowKit Go.Deep
open Go.ChangeMaps (open_string shut_string)
open Go Go.Proofs.YtdjjmnkopoldhaaDoorW.PrintWords Go.Proofs.YtdjjmnkopoldhaaDoorW.PrintLast Go.Proofs.YtdjjmnkopoldhaaDoorW.PrintMore Go.Proofs.YtdjjmnkopoldhaaDoor.Ep Go.Proofs.YtdjjmnkopoldhaaDoor.PBase Go.Tx
set_option linter.unusedVariables false
set_option linter.unusedSimpArgs false
theorem runs_t : PLaw.tendrillaw8_ShapeRuns.f = some true := rfl
theorem Seeks_l (l : List S23) (a : ByteArray) (hl : l.length ≤ 1000) (hs : l.Pairwise lt8) (d : Nat) : ∀ (k i : Nat), l.length - i = d → d + 1002 < k → i ≤ l.length →
    PLaw.tendrillaw8_ShapeSeeks.l0 k l a ((sk l a : Nat) : Int) (l.length : Int) i = some true := by
  induction d with
  | zero =>
    intro k i hi hk hle
    obtain ⟨k, rfl⟩ : ∃ m, k = m + 1 := ⟨k - 1, by omega⟩
    simp only [PLaw.tendrillaw8_ShapeSeeks.l0]
    rw [if_neg (by omega), Seek_f k l _ hl (by omega), sk_empty, Option.bind_some, if_pos (by rfl)]; rfl
  | succ d ih =>
    intro k i hi hk hle
    obtain ⟨k, rfl⟩ : ∃ m, k = m + 1 := ⟨k - 1, by omega⟩
    simp only [PLaw.tendrillaw8_ShapeSeeks.l0]
    have h1 : ((Op.bytesLess ((rd_T23 l (i : Int)).f0.toList) a.toList) != (decide ((i : Int) < ((sk l a : Nat) : Int)))) = false := by
      rw [rd8, toList_L, toList_L, sk_less l hs a i (by omega), show decide ((i : Int) < ((sk l a : Nat) : Int)) = decide (i < sk l a) from by rw [decide_eq_decide]; omega]
      simp
    rw [if_pos (by omega), if_pos (by omega), if_pos (by omega), h1, if_neg (by decide), show wrap64 ((i : Int) + 1) = ((i + 1 : Nat) : Int) from by unfold wrap64; omega]
    exact ih k (i + 1) (by omega) (by omega) (by omega)
theorem Seeks_f (l : List S23) (a : ByteArray) (hl : l.length ≤ 40) : PLaw.tendrillaw8_ShapeSeeks.f 5000 l a = some true := by
  unfold PLaw.tendrillaw8_ShapeSeeks.f
  rw [if_neg (by omega), shRight_f 5000 l (by omega) (by omega), Option.bind_some]
  by_cases h : RL l = true
  · have hs := ((RL_iff l).1 h).2
    have hle := sk_le l a
    rw [if_pos h, Seek_f 5000 l a (by omega) (by omega), Option.bind_some, if_neg (by omega), decide_eq_false (by omega)]
    show PLaw.tendrillaw8_ShapeSeeks.j0 (4999 + 1) l a ((sk l a : Nat) : Int) false = some true
    simp only [PLaw.tendrillaw8_ShapeSeeks.j0]
    rw [if_neg (by decide)]
    exact Seeks_l l a (by omega) hs l.length 4999 0 (by omega) (by omega) (by omega)
  · rw [if_neg h]; rfl
theorem walk (a : Option Addr) (len cap : Nat) (z : List PBase.S23) (s : ByteArray) (w : World) (h : Ent w a len cap z) (hs : s.size ≤ 140737488351232) : Calls Tryd.prog 6 #[.slice a len cap, .string s] w fun e w' => e = .returned (.bool true) ∧ Below w.heap.size w w' := by
  obtain ⟨h1, h2, h3, h4⟩ := h.cut 40
  exact PLaw.tendrillaw8_ShapeSeeks.calls_cut 5000 a cap (z.take 40) s true w len h1 h.cap h4 h2 (Seeks_f _ s h3)
theorem own : ownKnob Tryd.prog.godebug = none := by kernel_rfl
theorem laidOut : laidOutB Tryd.prog = true := by kernel_rfl
def laid3 {H : Type} : List (String × DataW H) := [("math/bits.deBruijn32tab", Rows.laid_math_bits_deBruijn32tab), ("math/bits.deBruijn64tab", Rows.laid_math_bits_deBruijn64tab), ("internal/strconv.uint64pow10", Rows.laid_internal_strconv_uint64pow10)]
theorem door_met (os : Os) (args : Array Value) : laidMetH Tryd.prog laid3 ((World.doorLaid Tryd.prog 24 os).forCall (fun _ _ => 0) ⟨#[], args, []⟩).memory :=
  laidMetH_of_parts3 (fuel := 8) (laidMet_of_run' 8 (by kernel_rfl) (by kernel_rfl)) (by kernel_rfl) (by kernel_rfl)
set_option maxRecDepth 100000 in
theorem lifted (os : Os) (started : os.Started) (H : Type) (enc : TypeId × Value → H) :
    ReturnsInHanded {} Tryd.checked os 6 .any (fun w args => (Rows.shapeSeeksSpec.pre enc Tryd.prog Tryd.f6 [] false w args ∧ laidMetH Tryd.prog laid3 w) ∧ sizedMet enc Tryd.prog Tryd.f6 (OpenSpec.ofChange Rows.shapeSeeksSpec) false w args)
      (Rows.shapeSeeksSpec.post enc Tryd.prog Tryd.f6 false true false false) := by
  refine returnsInHanded_of_change_and (C := Tryd.checked) (X := fun w _ => laidMetH Tryd.prog laid3 w) (fun _ _ _ hh h => h.of_heap hh) own started (by kernel_rfl) Tryd.func6
    (ChangeSpec.witness_shaped (enc := enc) (C := Tryd.checked) (os := os) (X := fun w _ => laidMetH Tryd.prog laid3 w) false (World.doorLaid Tryd.prog 24 os) #[.slice none 0 0, .string ByteArray.empty] 8 rfl (World.shaped_of_RefB (by kernel_rfl) (by kernel_rfl)) (by kernel_rfl) (by kernel_rfl) (by kernel_rfl) (door_met os _)) ?_
  intro W base args ds gs before hval0 hW hcnd hsz0 _ _
  have hsz : (DataW.weightsEach Tryd.prog (Tryd.f6.params.toList ++ Rows.shapeSeeksSpec.plain.varTypes Tryd.prog) (ds ++ gs)).all (· ≤ reachBytes) = true := hsz0
  have hval : ∀ (j : Nat) t v, Tryd.f6.params[j]? = some t → args[j]? = some v → Value.okWide Tryd.prog W .any base t v := hval0
  have hW' := hW
  obtain ⟨p, q, hA0, hV, rfl, hfz, hnd⟩ := hW
  have hA : DataW.TrodAll enc Tryd.prog W 0 (fun _ => true) true Tryd.f6.params.toList args.toList ds p := hA0
  rw [Tryd.params6] at hA hval hsz
  obtain ⟨v0, vs0, d0, ds0, p0, q0, hargs, rfl, rfl, h0, r0⟩ := trodAll_cons hA
  obtain ⟨v1, vs1, d1, ds1, p1, q1, rfl, rfl, rfl, h1, r1⟩ := trodAll_cons r0
  obtain ⟨rfl, rfl, rfl⟩ := trodAll_nil r1
  obtain rfl : args = #[v0, v1] := by cases args; simp_all
  obtain ⟨rfl, rfl⟩ := trodVars_none hV
  obtain ⟨a0, len0, cap0, rfl⟩ := okWide_slice Tryd.underlying25 (hval 0 25 v0 rfl rfl)
  have k0 := h0
  have lt0 : ∀ x ∈ p0, x.block < W.heap.size := by obtain ⟨m, hm⟩ := k0; exact DataW.trod_lt m _ _ _ hm
  obtain ⟨z0, we0, wc0, wk0, ws0⟩ := open_entries (he := Tryd.underlying23) (by kernel_rfl) (by kernel_rfl) Tryd.underlying9 Tryd.underlying3 h0
  obtain ⟨a1, rfl, rfl, rfl, y1⟩ := open_string Tryd.underlying9 (hval 1 9 v1 rfl rfl) h1
  have w1 : a1.size ≤ 140737488351232 := by
    have z := sized_string hsz (j := 1) (t := 9) rfl rfl
    rw [Array.length_toList] at z
    exact z
  clear hA0 hval0 hsz0 hsz
  refine (walk a0 len0 cap0 z0 a1 W ⟨we0, wc0, wk0, ws0⟩ w1).mono fun e W' ⟨he, bel⟩ => ?_
  subst he
  exact ⟨_, rfl, _, _, _, [], _, [], hW', trodAll_mk1 (shut_bool Tryd.underlying4 _), (trodAll_cons_mk (Below.trod laidOut (by kernel_rfl) (of_decide_eq_true (by kernel_rfl)) k0 bel lt0) (trodAll_cons_mk (shut_string Tryd.underlying9 y1) trodAll_mk0)), rfl, bel.frame _, fun h => by cases h⟩
theorem over : Rows.shapeSeeksRow.holds Tryd.pinned (OpenSpec.ofChange Rows.shapeSeeksSpec) :=
  OpenClaim.holds_of_wide 6 Tryd.f6 rfl rfl rfl rfl rfl rfl rfl ⟨rfl, rfl, rfl, rfl, rfl⟩ rfl rfl rfl rfl rfl (by kernel_rfl) Tryd.func6 (by kernel_rfl)
    (of_decide_eq_true (by kernel_rfl)) (by unfold Func.isWrapper; first | (rw [if_pos (by decide +kernel)]; kernel_rfl) | (rw [if_neg (by decide +kernel)]; exact ⟨rfl, rfl⟩))
    (fun os started H enc _ => lifted os started H enc)
theorem proved : Rows.ShapeSeeksSaid := over
#print axioms proved
end Go.Proofs.YtdjjmnkopoldhaaDoor.shapeSeeks
namespace Go.Proofs.YtdjjmnkopoldhaaDoor
/-- The tied card, for the claim. -/
theorem shapeSeeks_holds : Rows.ShapeSeeksCardSaid :=
  Claim7.holds_tied_plain_at .later [] [.data, .data, .data] true (true, "29ee579d745f70bf791a9445bb4d7f3299b09fc95b3ed22776cb9c3bfad44d91") false
    shapeSeeks.proved (fun _ h => by cases h) (by kernel_rfl) (fun _ h => by cases h) shapeSeeks_row_tie rfl ⟨rfl, rfl⟩ (by kernel_rfl) rfl
    (fun f fn hf hfn => by
      obtain rfl : f = 6 := Option.some.inj ((show Tryd.prog.funcNamed "tendril/tendrillaw8.ShapeSeeks" = some 6 by kernel_rfl).symm.trans hf) |>.symm
      obtain rfl : fn = Tryd.f6 := (Option.some.inj (Tryd.func6.symm.trans hfn)).symm
      exact ⟨by kernel_rfl, fun j t ht => by
        rw [Tryd.params6] at ht
        have h3 : t = 25 ∨ t = 9 := by
          rcases j with _ | j
          · simp at ht; first | exact ht.symm | exact Or.inl ht.symm | exact Or.inr ht.symm | exact Or.inr (Or.inl ht.symm) | exact Or.inr (Or.inr ht.symm)
          rcases j with _ | j
          · simp at ht; first | exact ht.symm | exact Or.inl ht.symm | exact Or.inr ht.symm | exact Or.inr (Or.inl ht.symm) | exact Or.inr (Or.inr ht.symm)
          simp at ht
        rcases h3 with rfl | rfl
        · exact (show Tryd.prog.wantsStandIn 25 = false by kernel_rfl)
        · exact (show Tryd.prog.wantsStandIn 9 = false by kernel_rfl)⟩)
    (by kernel_rfl)
#print axioms shapeSeeks_holds
end Go.Proofs.YtdjjmnkopoldhaaDoor
