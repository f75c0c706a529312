/- tendrillaw1.WordBack returns true for every input; no condition. -/
import Derived.Test.YtdeaniphdhjamaaPWordBackx1
import Derived.Test.YtdeaniphdhjamaaBits
namespace Go.Proofs.Ytdeaniphdhjamaa.Pure
open Go.RowKit Go.Bx Go.Proofs.Ytdeaniphdhjamaa.PWordBack Go.Proofs.YtdeaniphdhjamaaW.PrintWords Go.Proofs.YtdeaniphdhjamaaW.PrintLast

theorem word_Ref_f (k : Nat) (s g : Int) (l : Bool) : word_Ref.f (k + 1) s g l = some (refv s g l) := by
  unfold word_Ref.f refv
  by_cases h0 : s < 0
  · rw [if_pos h0, if_neg (by omega)]; rfl
  rw [if_neg h0]
  by_cases h1 : s ≥ 1024
  · rw [if_pos h1, if_neg (by omega)]; rfl
  rw [if_neg h1]
  by_cases h2 : g < 1
  · rw [if_pos h2, if_neg (by omega)]; rfl
  rw [if_neg h2]
  by_cases h3 : g > 1073741824
  · rw [if_neg (by omega), decide_eq_true h3]; rfl
  rw [if_pos (by omega), decide_eq_false h3]
  simp only [word_Ref.j0, Bool.false_eq_true, if_false]
  rw [ref_or s g (by omega) (by omega) (by omega) (by omega)]
  cases l
  · simp
  · simp only [if_true]; rw [ref_or_leaf s g (by omega) (by omega) (by omega) (by omega)]

theorem word_Parts_f (k : Nat) (r : Int) : word_Parts.f (k + 1) r = some (partsv r) := by
  unfold word_Parts.f
  by_cases h0 : r = 0
  · subst h0; rw [if_pos rfl]; rfl
  rw [if_neg h0, slot_bits, gen_bits, word_Ref_f]
  simp only [Option.bind_some]
  by_cases h : isRef r
  · have hb := refv_back r h
    rw [leaf_tells r (by have := h.1; omega) h.2.1, if_pos hb]
    unfold partsv; rw [if_pos h]
  · rw [if_neg (refv_no r _ h h0)]
    unfold partsv; rw [if_neg h]

theorem runs_f (k : Nat) : tendrillaw1_WordRuns.f (k + 1) = some true := by
  unfold tendrillaw1_WordRuns.f
  rw [word_Ref_f]; simp only [Option.bind_some]
  rw [word_Parts_f, word_Parts_f]; simp only [Option.bind_some]
  decide +kernel

theorem within_fits (n hi : Int) (h0 : 0 ≤ hi) (h1 : hi ≤ 1099511627776) : ∃ r, tendrilbook_Within.f n 0 hi = some r ∧ 0 ≤ r ∧ r ≤ hi := within_f n hi h0 h1

theorem refv_inj (s t g h : Int) (l m : Bool) (a0 : 0 ≤ s) (a1 : s < 1024) (a2 : 1 ≤ g) (a3 : g ≤ 1073741824) (b0 : 0 ≤ t) (b1 : t < 1024) (b2 : 1 ≤ h) (b3 : h ≤ 1073741824)
    (e : refv s g l = refv t h m) : s = t ∧ g = h ∧ l = m := by
  have x := refv_is s g l a0 a1 a2 a3
  rw [e, refv_is t h m b0 b1 b2 b3] at x
  simp only [Prod.mk.injEq] at x
  exact ⟨x.1.symm, x.2.1.symm, x.2.2.1.symm⟩
theorem WordBack : tendrillaw1_WordBack.Pure := by
  intro slot gen other later leaf also _ _ _ _
  refine ⟨1, ?_⟩
  unfold tendrillaw1_WordBack.f
  obtain ⟨s, es, s0, s1⟩ := within_fits slot 1023 (by omega) (by omega)
  obtain ⟨t, et, t0, t1⟩ := within_fits other 1023 (by omega) (by omega)
  obtain ⟨g, eg, g0, g1⟩ := within_fits gen 1073741823 (by omega) (by omega)
  obtain ⟨h, eh, h0, h1⟩ := within_fits later 1073741823 (by omega) (by omega)
  rw [es, et, eg, eh, runs_f]; simp only [Option.bind_some]
  rw [show wrap64 (1 + g) = 1 + g from by unfold wrap64; omega, show wrap64 (1 + h) = 1 + h from by unfold wrap64; omega]
  rw [word_Ref_f, word_Ref_f]; simp only [Option.bind_some]
  rw [word_Parts_f]; simp only [Option.bind_some]
  have hp := refv_is s (1 + g) leaf s0 (by omega) (by omega) (by omega)
  have hpos : refv s (1 + g) leaf > 0 := by
    unfold refv; rw [if_pos ⟨s0, by omega, by omega, by omega⟩]; cases leaf <;> simp <;> omega
  have inj := refv_inj s t (1 + g) (1 + h) leaf also s0 (by omega) (by omega) (by omega) t0 (by omega) (by omega) (by omega)
  rw [hp, if_pos hpos]
  simp only [if_true, beq_self_eq_true]
  by_cases c1 : s = t
  · rw [if_pos c1]
    by_cases c2 : 1 + g = 1 + h
    · rw [if_pos c2]
      have e : ((refv s (1 + g) leaf == refv t (1 + h) also) == (leaf == also)) = true := by
        rw [beq_iff_eq, Bool.eq_iff_iff, beq_iff_eq, beq_iff_eq]
        exact ⟨fun e => (inj e).2.2, fun e => by rw [c1, c2, e]⟩
      rw [if_pos e]
    · rw [if_neg c2]
      have e : ((refv s (1 + g) leaf == refv t (1 + h) also) == false) = true := by
        simp only [beq_iff_eq, beq_eq_false_iff_ne]; exact fun e => c2 (inj e).2.1
      rw [if_pos e]
  · rw [if_neg c1]
    have e : ((refv s (1 + g) leaf == refv t (1 + h) also) == false) = true := by
      simp only [beq_iff_eq, beq_eq_false_iff_ne]; exact fun e => c1 (inj e).1
    rw [if_pos e]

end Go.Proofs.Ytdeaniphdhjamaa.Pure
