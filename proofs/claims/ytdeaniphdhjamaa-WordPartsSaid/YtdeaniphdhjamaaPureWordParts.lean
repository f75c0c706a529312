/- tendrillaw1.WordParts returns true for every input; no condition. -/
import Derived.Test.YtdeaniphdhjamaaPWordPartsx1
import Derived.Test.YtdeaniphdhjamaaBits
namespace Go.Proofs.Ytdeaniphdhjamaa.Pure
open Go.RowKit Go.Bx Go.Proofs.Ytdeaniphdhjamaa.PWordParts Go.Proofs.YtdeaniphdhjamaaW.PrintWords Go.Proofs.YtdeaniphdhjamaaW.PrintLast

theorem word_Ref_f (k : Nat) (s g : Int) (l : Bool) : word_Ref.f (k + 1) s g l = some (refv s g l) := by
  unfold word_Ref.f refv
  by_cases h0 : s < 0
  · rw [if_pos h0, if_neg (by omega)]; rfl
  rw [if_neg h0]
  by_cases h1 : s ≥ 1024
  · rw [if_pos h1, if_neg (by omega)]; rfl
  rw [if_neg h1]
  by_cases h2 : g < 1
  · rw [if_pos h2, if_neg (by omega)]; rfl
  rw [if_neg h2]
  by_cases h3 : g > 1073741824
  · rw [if_neg (by omega), decide_eq_true h3]; rfl
  rw [if_pos (by omega), decide_eq_false h3]
  simp only [word_Ref.j0, Bool.false_eq_true, if_false]
  rw [ref_or s g (by omega) (by omega) (by omega) (by omega)]
  cases l
  · simp
  · simp only [if_true]; rw [ref_or_leaf s g (by omega) (by omega) (by omega) (by omega)]

theorem word_Parts_f (k : Nat) (r : Int) : word_Parts.f (k + 1) r = some (partsv r) := by
  unfold word_Parts.f
  by_cases h0 : r = 0
  · subst h0; rw [if_pos rfl]; rfl
  rw [if_neg h0, slot_bits, gen_bits, word_Ref_f]
  simp only [Option.bind_some]
  by_cases h : isRef r
  · have hb := refv_back r h
    rw [leaf_tells r (by have := h.1; omega) h.2.1, if_pos hb]
    unfold partsv; rw [if_pos h]
  · rw [if_neg (refv_no r _ h h0)]
    unfold partsv; rw [if_neg h]

theorem runs_f (k : Nat) : tendrillaw1_WordRuns.f (k + 1) = some true := by
  unfold tendrillaw1_WordRuns.f
  rw [word_Ref_f]; simp only [Option.bind_some]
  rw [word_Parts_f, word_Parts_f]; simp only [Option.bind_some]
  decide +kernel

theorem WordParts : tendrillaw1_WordParts.Pure := by
  intro r _
  refine ⟨1, ?_⟩
  unfold tendrillaw1_WordParts.f
  rw [word_Parts_f, runs_f]; simp only [Option.bind_some]
  unfold partsv
  by_cases h : isRef r
  · rw [if_pos h]
    simp only [if_true]
    rw [word_Ref_f]; simp only [Option.bind_some]
    have hb := refv_back r h
    obtain ⟨h0, h1, h2, h3, h4⟩ := h
    rw [if_pos hb, if_pos (by omega), if_pos (by omega), if_pos (by omega), if_pos (by omega)]
  · rw [if_neg h]
    simp

end Go.Proofs.Ytdeaniphdhjamaa.Pure
