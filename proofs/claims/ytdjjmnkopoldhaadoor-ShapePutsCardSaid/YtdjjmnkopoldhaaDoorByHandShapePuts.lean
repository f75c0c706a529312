/- Statement ShapePuts: putting and dropping other terms does not change what is told of one; putting one twice is putting it once, with the later value; no further condition. -/
import Derived.Test.YtdjjmnkopoldhaaDoorRows
import Derived.Test.YtdjjmnkopoldhaaDoorTie
import Derived.Test.YtdjjmnkopoldhaaDoorCards
import Derived.Test.YtdjjmnkopoldhaaDoorWSized
import Derived.Test.YtdjjmnkopoldhaaDoorLShapePuts
import Derived.Test.YtdjjmnkopoldhaaDoorSrt
import Derived.Test.YtdjjmnkopoldhaaDoorRowB
import Derived.Test.YtdjjmnkopoldhaaDoorPlaB
import Derived.WalkKit
import Derived.ProofKit
import Derived.OpenShut
import Derived.ShutString
import Derived.ChangeOld
import Derived.Below
import Derived.SizedLaws
import Derived.Deep.Slices
import Derived.Deep.Fields
import Derived.ChangeSame
import Derived.Deep.RegionLaw
import Derived.Deep.DrawnRows
import Derived.SevenTiedAt
import Derived.LaidMore
import Derived.Stop.Joined
import Derived.Lib.SmallJoins
namespace Go.Proofs.YtdjjmnkopoldhaaDoor.shapePuts
open Go.ChangeShapes Go.WideShapes Go.ChangeAt Go.RowKit Go.Deep
open Go.ChangeMaps (open_string shut_string)
open Go Go.Proofs.YtdjjmnkopoldhaaDoorW.PrintWords Go.Proofs.YtdjjmnkopoldhaaDoorW.PrintLast Go.Proofs.YtdjjmnkopoldhaaDoorW.PrintMore Go.Proofs.YtdjjmnkopoldhaaDoor.Ep Go.Proofs.YtdjjmnkopoldhaaDoor.PBase Go.Tx
set_option linter.unusedVariables false
set_option linter.unusedSimpArgs false
theorem Same_l (l : List S23) (hl : l.length ≤ 1000) (d : Nat) : ∀ (k i : Nat), l.length - i = d → d < k → i ≤ l.length → api_Entry_13.l0 k l l i = some true := by
  induction d with
  | zero =>
    intro k i hi hk hle
    obtain ⟨k, rfl⟩ : ∃ m, k = m + 1 := ⟨k - 1, by omega⟩
    simp only [api_Entry_13.l0]
    rw [if_neg (by omega)]
  | succ d ih =>
    intro k i hi hk hle
    obtain ⟨k, rfl⟩ : ∃ m, k = m + 1 := ⟨k - 1, by omega⟩
    simp only [api_Entry_13.l0]
    rw [if_pos (by omega), if_pos (by omega), if_pos (by omega), beq_self_eq_true, beq_self_eq_true, if_neg (by decide), show wrap64 ((i : Int) + 1) = ((i + 1 : Nat) : Int) from by unfold wrap64; omega]
    exact ih k (i + 1) (by omega) (by omega) (by omega)
theorem Same_refl (k : Nat) (l : List S23) (hl : l.length ≤ 1000) (hk : 1000 < k) : api_Entry_13.f k l l = some true := by
  unfold api_Entry_13.f
  rw [if_pos rfl]
  exact Same_l l hl l.length k 0 (by omega) (by omega) (by omega)
theorem Put_f (l : List S23) (t : ByteArray) (v : Int) (hl : l.length ≤ 1000) : shape_Put.f l t v = some (putL l ⟨t, v⟩) := by unfold shape_Put.f; rw [if_pos hl]
theorem Drop_f (l : List S23) (t : ByteArray) (hl : l.length ≤ 1000) : shape_Drop.f l t = some (dropL l t) := by unfold shape_Drop.f; rw [if_pos hl]
theorem Puts_j (k : Nat) (hk : 1001 < k) (l : List S23) (hl : l.length ≤ 40) (a0 b0 : ByteArray) (a1 b1 : Int) (eq : Bool) (heq : eq = false → l.Pairwise lt8 ∧ a0 ≠ b0) :
    PLaw.tendrillaw8_ShapePuts.j0 k l eq a0 a1 b0 b1 = some true := by
  obtain ⟨k, rfl⟩ : ∃ m, k = m + 1 := ⟨k - 1, by omega⟩
  simp only [PLaw.tendrillaw8_ShapePuts.j0]
  cases eq with
  | true => rw [if_pos rfl]; rfl
  | false =>
    obtain ⟨hs, hne⟩ := heq rfl
    have len := putL_len
    have lex := len l ⟨a0, a1⟩
    have lez := len l ⟨b0, b1⟩
    obtain ⟨sx, mx⟩ := putL_sorted l hs ⟨a0, a1⟩
    obtain ⟨sz, mz⟩ := putL_sorted l hs ⟨b0, b1⟩
    obtain ⟨sy, my⟩ := putL_sorted _ sx ⟨b0, b1⟩
    obtain ⟨su, mu⟩ := putL_sorted _ sz ⟨a0, a1⟩
    obtain ⟨sv, mv⟩ := putL_sorted _ sx ⟨a0, 5⟩
    have hv := putL_hit _ sx ⟨a0, a1⟩ ⟨a0, 5⟩ ((mx _).2 (Or.inl rfl)) rfl
    have ley := len (putL l ⟨a0, a1⟩).1 ⟨b0, b1⟩
    have lev := len (putL l ⟨a0, a1⟩).1 ⟨a0, 5⟩
    have hd := dropL_hit _ sv ⟨a0, 5⟩ ((mv _).2 (Or.inl rfl))
    obtain ⟨sw, mw⟩ := dropL_sorted _ sv a0
    obtain ⟨so, mo⟩ := dropL_sorted l hs a0
    have hyu : (putL (putL l ⟨a0, a1⟩).1 ⟨b0, b1⟩).1 = (putL (putL l ⟨b0, b1⟩).1 ⟨a0, a1⟩).1 := by
      refine sorted_ext _ _ sy su fun y => ?_
      rw [my, mu, mx, mz]
      constructor
      · rintro (rfl | ⟨rfl | ⟨h1, h2⟩, h3⟩)
        · exact Or.inr ⟨Or.inl rfl, fun e => hne e.symm⟩
        · exact Or.inl rfl
        · exact Or.inr ⟨Or.inr ⟨h1, h3⟩, h2⟩
      · rintro (rfl | ⟨rfl | ⟨h1, h2⟩, h3⟩)
        · exact Or.inr ⟨Or.inl rfl, hne⟩
        · exact Or.inl rfl
        · exact Or.inr ⟨Or.inr ⟨h1, h3⟩, h2⟩
    have hwo : (dropL (putL (putL l ⟨a0, a1⟩).1 ⟨a0, 5⟩).1 a0).1 = (dropL l a0).1 := by
      refine sorted_ext _ _ sw so fun y => ?_
      rw [mw, mo, mv, mx]
      constructor
      · rintro ⟨rfl | ⟨rfl | ⟨h1, _⟩, h2⟩, h3⟩
        · exact absurd rfl h3
        · exact absurd rfl h3
        · exact ⟨h1, h3⟩
      · rintro ⟨h1, h2⟩
        exact ⟨Or.inr ⟨Or.inr ⟨h1, h2⟩, h2⟩, h2⟩
    have hvv : (putL (putL l ⟨a0, a1⟩).1 ⟨a0, 5⟩).2.1 = a1 ∧ (putL (putL l ⟨a0, a1⟩).1 ⟨a0, 5⟩).2.2 = true := by rw [hv]; exact ⟨rfl, rfl⟩
    have hdd : (dropL (putL (putL l ⟨a0, a1⟩).1 ⟨a0, 5⟩).1 a0).2.1 = 5 ∧ (dropL (putL (putL l ⟨a0, a1⟩).1 ⟨a0, 5⟩).1 a0).2.2 = true := by rw [hd]; exact ⟨rfl, rfl⟩
    have leo := dropL_len l a0
    rw [if_neg (by decide), Put_f l a0 a1 (by omega), Option.bind_some, Put_f _ b0 b1 (by omega), Option.bind_some, Put_f l b0 b1 (by omega), Option.bind_some, Put_f _ a0 a1 (by omega), Option.bind_some, Put_f _ a0 5 (by omega), Option.bind_some, Drop_f _ a0 (by omega), Option.bind_some, Drop_f l a0 (by omega), Option.bind_some,
      ← hyu, Same_refl k _ (by omega) (by omega), Option.bind_some, if_pos rfl, if_pos hvv.2, if_pos hvv.1, if_pos hdd.2, if_pos hdd.1, hwo, Same_refl k _ (by omega) (by omega), Option.bind_some, if_pos rfl]
    rfl
theorem Puts_f (K : Nat) (l : List S23) (a0 b0 : ByteArray) (a1 b1 : Int) (hl : l.length ≤ 40) (ha : a0.size ≤ 9223372036854775807) (hb : b0.size ≤ 9223372036854775807) (hK : K = 5000 + a0.size + b0.size) : PLaw.tendrillaw8_ShapePuts.f K l a0 a1 b0 b1 = some true := by
  unfold PLaw.tendrillaw8_ShapePuts.f
  rw [if_neg (by omega), shRight_f K l (by omega) (by omega), Option.bind_some]
  by_cases h : RL l = true
  · have hs := ((RL_iff l).1 h).2
    rw [if_pos h, lawRight_f (a0.size + b0.size) K [⟨a0, a1⟩] (by simp) (fun x hx => by rw [List.mem_singleton.1 hx]; show a0.size < _ ∧ a0.size ≤ _; omega) (by omega), Option.bind_some, lawRight_f (a0.size + b0.size) K [⟨b0, b1⟩] (by simp) (fun x hx => by rw [List.mem_singleton.1 hx]; show b0.size < _ ∧ b0.size ≤ _; omega) (by omega), Option.bind_some]
    have hc : (a0.toList == b0.toList) = false → a0 ≠ b0 := fun e h => by rw [h, beq_self_eq_true] at e; cases e
    by_cases h1 : RL [(⟨a0, a1⟩ : S23)] = true
    · rw [if_pos h1]
      by_cases h2 : RL [(⟨b0, b1⟩ : S23)] = true
      · rw [if_pos h2]
        exact Puts_j K (by omega) l hl a0 b0 a1 b1 _ (fun e => ⟨hs, hc e⟩)
      · rw [if_neg h2]
        exact Puts_j K (by omega) l hl a0 b0 a1 b1 true (fun e => by cases e)
    · rw [if_neg h1]
      exact Puts_j K (by omega) l hl a0 b0 a1 b1 true (fun e => by cases e)
  · rw [if_neg h]
    exact Puts_j K (by omega) l hl a0 b0 a1 b1 true (fun e => by cases e)
open Go.Joins in
theorem open_entry {H : Type} {enc : TypeId × Value → H} {w : World} {base : Nat} {spare : Nat → Bool} {held : Bool} {r : Reach} {b0 : Nat} {v : Value} {d : DataW H} {p : List MemPlace} (hv : Value.okWide Tryd.prog w r b0 23 v) (h : DataW.Trod enc Tryd.prog w base spare held 23 v d p) :
    ∃ (s : ByteArray) (n : Int), v = .agg #[.string s, .int .i64 n] ∧ d = .agg [.lit (.string s.data.toList), .lit (.int .i64 n)] ∧ p = [] ∧ s.size ≤ maxLen ∧ (Lit.int .i64 n).wf = true := by
  obtain ⟨v0, v1, y0, y1, n, rfl, rfl, rfl, t0, t1⟩ := open_agg2 Tryd.underlying23 (by kernel_rfl) (by kernel_rfl) hv h
  obtain ⟨s, e0, x0, hs⟩ := DataW.trod_string Tryd.underlying9 t0
  obtain ⟨i, e1, x1, hw⟩ := DataW.trod_int Tryd.underlying3 t1
  simp only [List.cons.injEq, and_true] at e0 e1
  subst e0; subst e1; subst x0; subst x1
  exact ⟨s, i, rfl, rfl, rfl, hs, hw⟩
open Go.Joins in
theorem shut_entry {H : Type} {enc : TypeId × Value → H} {w : World} {base : Nat} {spare : Nat → Bool} {held : Bool} {s : ByteArray} {n : Int} (hs : s.size ≤ maxLen) (hw : (Lit.int .i64 n).wf = true) :
    DataW.Trod enc Tryd.prog w base spare held 23 (.agg #[.string s, .int .i64 n]) (.agg [.lit (.string s.data.toList), .lit (.int .i64 n)]) [] :=
  shut_agg2 (y0 := (.lit (.string s.data.toList), [])) (y1 := (.lit (.int .i64 n), [])) Tryd.underlying23 (by kernel_rfl) (by kernel_rfl) ⟨1, by simp [DataW.trod, Tryd.underlying9, hs]⟩ ⟨1, by simp [DataW.trod, Tryd.underlying3, hw]⟩
theorem walk (a : Option Addr) (len cap : Nat) (z : List PBase.S23) (s t : ByteArray) (m n : Int) (w : World) (h : Ent w a len cap z) (hs : s.size ≤ maxLen) (ht : t.size ≤ maxLen) : Calls Tryd.prog 8 #[.slice a len cap, .agg #[.string s, .int .i64 m], .agg #[.string t, .int .i64 n]] w fun e w' => e = .returned (.bool true) ∧ Below w.heap.size w w' := by
  obtain ⟨h1, h2, h3, h4⟩ := h.cut 40
  unfold maxLen at hs ht
  exact PLaw.tendrillaw8_ShapePuts.calls_cut (5000 + s.size + t.size) a cap (z.take 40) s m t n true w len h1 h.cap h4 h2 (Puts_f _ _ s t m n h3 (by omega) (by omega) rfl)
theorem own : ownKnob Tryd.prog.godebug = none := by kernel_rfl
theorem laidOut : laidOutB Tryd.prog = true := by kernel_rfl
def laid3 {H : Type} : List (String × DataW H) := [("math/bits.deBruijn32tab", Rows.laid_math_bits_deBruijn32tab), ("math/bits.deBruijn64tab", Rows.laid_math_bits_deBruijn64tab), ("internal/strconv.uint64pow10", Rows.laid_internal_strconv_uint64pow10)]
theorem door_met (os : Os) (args : Array Value) : laidMetH Tryd.prog laid3 ((World.doorLaid Tryd.prog 24 os).forCall (fun _ _ => 0) ⟨#[], args, []⟩).memory :=
  laidMetH_of_parts3 (fuel := 8) (laidMet_of_run' 8 (by kernel_rfl) (by kernel_rfl)) (by kernel_rfl) (by kernel_rfl)
set_option maxRecDepth 100000 in
theorem lifted (os : Os) (started : os.Started) (H : Type) (enc : TypeId × Value → H) :
    ReturnsInHanded {} Tryd.checked os 8 .any (fun w args => (Rows.shapePutsSpec.pre enc Tryd.prog Tryd.f8 [] false w args ∧ laidMetH Tryd.prog laid3 w) ∧ sizedMet enc Tryd.prog Tryd.f8 (OpenSpec.ofChange Rows.shapePutsSpec) false w args)
      (Rows.shapePutsSpec.post enc Tryd.prog Tryd.f8 false true false false) := by
  refine returnsInHanded_of_change_and (C := Tryd.checked) (X := fun w _ => laidMetH Tryd.prog laid3 w) (fun _ _ _ hh h => h.of_heap hh) own started (by kernel_rfl) Tryd.func8
    (ChangeSpec.witness_shaped (enc := enc) (C := Tryd.checked) (os := os) (X := fun w _ => laidMetH Tryd.prog laid3 w) false (World.doorLaid Tryd.prog 24 os) #[.slice none 0 0, .agg #[.string ByteArray.empty, .int .i64 0], .agg #[.string ByteArray.empty, .int .i64 0]] 8 rfl (World.shaped_of_RefB (by kernel_rfl) (by kernel_rfl)) (by kernel_rfl) (by kernel_rfl) (by kernel_rfl) (door_met os _)) ?_
  intro W base args ds gs before hval0 hW hcnd hsz0 _ _
  have hsz : (DataW.weightsEach Tryd.prog (Tryd.f8.params.toList ++ Rows.shapePutsSpec.plain.varTypes Tryd.prog) (ds ++ gs)).all (· ≤ reachBytes) = true := hsz0
  have hval : ∀ (j : Nat) t v, Tryd.f8.params[j]? = some t → args[j]? = some v → Value.okWide Tryd.prog W .any base t v := hval0
  have hW' := hW
  obtain ⟨p, q, hA0, hV, rfl, hfz, hnd⟩ := hW
  have hA : DataW.TrodAll enc Tryd.prog W 0 (fun _ => true) true Tryd.f8.params.toList args.toList ds p := hA0
  rw [Tryd.params8] at hA hval hsz
  obtain ⟨v0, vs0, d0, ds0, p0, q0, hargs, rfl, rfl, h0, r0⟩ := trodAll_cons hA
  obtain ⟨v1, vs1, d1, ds1, p1, q1, rfl, rfl, rfl, h1, r1⟩ := trodAll_cons r0
  obtain ⟨v2, vs2, d2, ds2, p2, q2, rfl, rfl, rfl, h2, r2⟩ := trodAll_cons r1
  obtain ⟨rfl, rfl, rfl⟩ := trodAll_nil r2
  obtain rfl : args = #[v0, v1, v2] := by cases args; simp_all
  obtain ⟨rfl, rfl⟩ := trodVars_none hV
  obtain ⟨a0, len0, cap0, rfl⟩ := okWide_slice Tryd.underlying25 (hval 0 25 v0 rfl rfl)
  have k0 := h0
  have lt0 : ∀ x ∈ p0, x.block < W.heap.size := by obtain ⟨m, hm⟩ := k0; exact DataW.trod_lt m _ _ _ hm
  obtain ⟨z0, we0, wc0, wk0, ws0⟩ := open_entries (he := Tryd.underlying23) (by kernel_rfl) (by kernel_rfl) Tryd.underlying9 Tryd.underlying3 h0
  obtain ⟨a1, b1, rfl, rfl, rfl, u1, w1⟩ := open_entry (hval 1 23 v1 rfl rfl) h1
  obtain ⟨a2, b2, rfl, rfl, rfl, u2, w2⟩ := open_entry (hval 2 23 v2 rfl rfl) h2
  clear hA0 hval0 hsz0 hsz
  refine (walk a0 len0 cap0 z0 a1 a2 b1 b2 W ⟨we0, wc0, wk0, ws0⟩ u1 u2).mono fun e W' ⟨he, bel⟩ => ?_
  subst he
  exact ⟨_, rfl, _, _, _, [], _, [], hW', trodAll_mk1 (shut_bool Tryd.underlying4 _), (trodAll_cons_mk (Below.trod laidOut (by kernel_rfl) (of_decide_eq_true (by kernel_rfl)) k0 bel lt0) (trodAll_cons_mk (shut_entry u1 w1) (trodAll_cons_mk (shut_entry u2 w2) trodAll_mk0))), rfl, bel.frame _, fun h => by cases h⟩
theorem over : Rows.shapePutsRow.holds Tryd.pinned (OpenSpec.ofChange Rows.shapePutsSpec) :=
  OpenClaim.holds_of_wide 8 Tryd.f8 rfl rfl rfl rfl rfl rfl rfl ⟨rfl, rfl, rfl, rfl, rfl⟩ rfl rfl rfl rfl rfl (by kernel_rfl) Tryd.func8 (by kernel_rfl)
    (of_decide_eq_true (by kernel_rfl)) (by unfold Func.isWrapper; first | (rw [if_pos (by decide +kernel)]; kernel_rfl) | (rw [if_neg (by decide +kernel)]; exact ⟨rfl, rfl⟩))
    (fun os started H enc _ => lifted os started H enc)
theorem proved : Rows.ShapePutsSaid := over
#print axioms proved
end Go.Proofs.YtdjjmnkopoldhaaDoor.shapePuts
namespace Go.Proofs.YtdjjmnkopoldhaaDoor
/-- The tied card, for the claim. -/
theorem shapePuts_holds : Rows.ShapePutsCardSaid :=
  Claim7.holds_tied_plain_at .later [] [.data, .data, .data] true (true, "29ee579d745f70bf791a9445bb4d7f3299b09fc95b3ed22776cb9c3bfad44d91") false
    shapePuts.proved (fun _ h => by cases h) (by kernel_rfl) (fun _ h => by cases h) shapePuts_row_tie rfl ⟨rfl, rfl⟩ (by kernel_rfl) rfl
    (fun f fn hf hfn => by
      obtain rfl : f = 8 := Option.some.inj ((show Tryd.prog.funcNamed "tendril/tendrillaw8.ShapePuts" = some 8 by kernel_rfl).symm.trans hf) |>.symm
      obtain rfl : fn = Tryd.f8 := (Option.some.inj (Tryd.func8.symm.trans hfn)).symm
      exact ⟨by kernel_rfl, fun j t ht => by
        rw [Tryd.params8] at ht
        have h3 : t = 25 ∨ t = 23 ∨ t = 23 := by
          rcases j with _ | j
          · simp at ht; first | exact ht.symm | exact Or.inl ht.symm | exact Or.inr ht.symm | exact Or.inr (Or.inl ht.symm) | exact Or.inr (Or.inr ht.symm)
          rcases j with _ | j
          · simp at ht; first | exact ht.symm | exact Or.inl ht.symm | exact Or.inr ht.symm | exact Or.inr (Or.inl ht.symm) | exact Or.inr (Or.inr ht.symm)
          rcases j with _ | j
          · simp at ht; first | exact ht.symm | exact Or.inl ht.symm | exact Or.inr ht.symm | exact Or.inr (Or.inl ht.symm) | exact Or.inr (Or.inr ht.symm)
          simp at ht
        rcases h3 with rfl | rfl | rfl
        · exact (show Tryd.prog.wantsStandIn 25 = false by kernel_rfl)
        · exact (show Tryd.prog.wantsStandIn 23 = false by kernel_rfl)
        · exact (show Tryd.prog.wantsStandIn 23 = false by kernel_rfl)⟩)
    (by kernel_rfl)
#print axioms shapePuts_holds
end Go.Proofs.YtdjjmnkopoldhaaDoor
