import Derived.Test.YtdjjmnkopoldhaaDoorPla
import Derived.Test.YtdjjmnkopoldhaaDoorPBasex4
import Derived.WalkKit
import Derived.ProofKit
import Derived.Below
import Derived.WalkLawsBesides
import Derived.Deep.QuietTactic
import Derived.BigQuiet
import Derived.StillTailTactics
import Derived.Deep.AppendLies
import Derived.Deep.RegionHeld3
import Derived.KernelRfl
import Derived.BigRegion
import Derived.WalkSpells
import Derived.Deep.Slices
import Derived.Deep.Fields
import Derived.ChangeSame
import Derived.Deep.RegionLaw
import Derived.Deep.DrawnRows
namespace Go.Proofs.YtdjjmnkopoldhaaDoor.Ep
open Go Go.RowKit Go.Proofs.YtdjjmnkopoldhaaDoorW.PrintWords Go.Proofs.YtdjjmnkopoldhaaDoorW.PrintLast Go.Proofs.YtdjjmnkopoldhaaDoorW.PrintMore Go.Proofs.YtdjjmnkopoldhaaDoor.PBase Go.Tx
set_option linter.unusedVariables false
set_option linter.unusedSimpArgs false
theorem RightTermB_l (k : Nat) (a : ByteArray) (ha : a.size < 9223372036854775808) (d : Nat) : ∀ i : Nat, a.size - i = d → d < k → i ≤ a.size →
    tendrilref1_RightTerm.l0 k a i = some (decide ((0 : UInt8) ∉ (L a).drop i ∧ 1 ≤ (L a).length ∧ (L a).length ≤ 12)) := by
  have hl := size_L a
  induction d generalizing k with
  | zero =>
    intro i hi hk hle
    obtain ⟨k, rfl⟩ : ∃ m, k = m + 1 := ⟨k - 1, by omega⟩
    simp only [tendrilref1_RightTerm.l0]
    rw [if_neg (by omega), List.drop_of_length_le (by omega)]
    by_cases h1 : (a.size : Int) ≥ 1
    · rw [if_pos h1]; congr 1; rw [decide_eq_decide]; simp; omega
    · rw [if_neg h1]; congr 1; symm; rw [decide_eq_false_iff_not]; omega
  | succ d ih =>
    intro i hi hk hle
    obtain ⟨k, rfl⟩ : ∃ m, k = m + 1 := ⟨k - 1, by omega⟩
    simp only [tendrilref1_RightTerm.l0]
    have la : i < (L a).length := by omega
    rw [if_pos (by omega), if_pos (by omega), bt_L a i la, List.drop_eq_getElem_cons la]
    by_cases e : (L a)[i] = 0
    · rw [if_pos (by rw [e]; rfl)]
      congr 1; symm; rw [decide_eq_false_iff_not, e]; simp
    · rw [if_neg (nz _ e), show wrap64 ((i : Int) + 1) = ((i + 1 : Nat) : Int) from by unfold wrap64; omega]
      rw [ih k (i + 1) (by omega) (by omega) (by omega)]
      congr 1; rw [decide_eq_decide, List.mem_cons, not_or]
      exact ⟨fun h => ⟨⟨fun z => e z.symm, h.1⟩, h.2⟩, fun h => ⟨h.1.2, h.2⟩⟩

theorem RightTermB_f (k : Nat) (a : ByteArray) (ha : a.size < 9223372036854775808) (hk : a.size < k) : tendrilref1_RightTerm.f k a = some (decide (Right (L a))) := by
  unfold tendrilref1_RightTerm.f
  have := RightTermB_l k a ha a.size 0 (by omega) hk (by omega)
  rw [show ((0 : Nat) : Int) = 0 from rfl] at this
  rw [this]; congr 1; rw [decide_eq_decide, List.drop_zero]
  unfold Right
  constructor
  · exact fun h => ⟨fun e => by rw [e] at h; simp at h, h.2.2, h.1⟩
  · exact fun h => ⟨h.2.2, List.length_pos_iff.2 h.1, h.2.1⟩

theorem lawRight_l (B k : Nat) (l : List S23) (hl : l.length ≤ 1000) (hs : ∀ x ∈ l, x.f0.size < 9223372036854775808 ∧ x.f0.size ≤ B) (d : Nat) : ∀ i : Nat, l.length - i = d → d + B < k → i ≤ l.length →
    tendrillaw8_right.l0 k l (l.length : Int) i = some ((List.range' i (l.length - i)).all (rgt l)) := by
  induction d generalizing k with
  | zero =>
    intro i hi hk hle
    obtain ⟨k, rfl⟩ : ∃ m, k = m + 1 := ⟨k - 1, by omega⟩
    simp only [tendrillaw8_right.l0]
    rw [if_neg (by omega), show l.length - i = 0 by omega]; rfl
  | succ d ih =>
    intro i hi hk hle
    obtain ⟨k, rfl⟩ : ∃ m, k = m + 1 := ⟨k - 1, by omega⟩
    have hlt : i < l.length := by omega
    have eg : l.getD i z23 = l[i] := by rw [List.getD_eq_getElem?_getD, List.getElem?_eq_getElem hlt]; rfl
    have hsz := hs (l.getD i z23) (by rw [eg]; exact List.getElem_mem hlt)
    simp only [tendrillaw8_right.l0]
    rw [if_pos (by omega), if_pos (by omega), if_pos (by omega), rd8, RightTermB_f k _ hsz.1 (by omega), Option.bind_some, hi, rangeAll_succ]
    have hn : tendrillaw8_right.l0 k l (l.length : Int) (wrap64 ((i : Int) + 1)) = some ((List.range' (i + 1) d).all (rgt l)) := by
      rw [show wrap64 ((i : Int) + 1) = ((i + 1 : Nat) : Int) from by unfold wrap64; omega, ih k (i + 1) (by omega) (by omega) (by omega), show l.length - (i + 1) = d by omega]
    unfold rgt at hn ⊢
    unfold okE at hn ⊢
    by_cases h1 : Right (L (l.getD i z23).f0)
    · rw [if_pos (by simpa using h1)]
      by_cases h2 : (l.getD i z23).f1 < 0
      · rw [if_pos h2, decide_eq_false (show ¬ (0 ≤ (l.getD i z23).f1) by omega)]; simp
      · rw [if_neg h2]
        by_cases h3 : (l.getD i z23).f1 > 1099511627776
        · rw [if_pos h3, decide_eq_false (show ¬ ((l.getD i z23).f1 ≤ 1099511627776) by omega)]; simp
        · rw [if_neg h3, decide_eq_true h1, decide_eq_true (show 0 ≤ (l.getD i z23).f1 by omega), decide_eq_true (show (l.getD i z23).f1 ≤ 1099511627776 by omega)]
          by_cases h4 : i = 0
          · rw [if_neg (by omega), hn, decide_eq_true h4]; rfl
          · have e1 : wrap64 ((i : Int) - 1) = ((i - 1 : Nat) : Int) := by unfold wrap64; omega
            rw [if_pos (by omega), e1, if_pos (by omega), if_pos (by omega), rd8, toList_L, toList_L, decide_eq_false h4]
            by_cases h5 : Op.bytesLess (L (l.getD (i - 1) z23).f0) (L (l.getD i z23).f0) = true
            · rw [if_pos h5, hn, h5]; rfl
            · rw [if_neg h5, Bool.eq_false_iff.2 h5]; rfl
    · rw [if_neg (by simpa using h1), decide_eq_false h1]; rfl
theorem lawRight_f (B k : Nat) (l : List S23) (hl : l.length ≤ 1000) (hs : ∀ x ∈ l, x.f0.size < 9223372036854775808 ∧ x.f0.size ≤ B) (hk : 1000 + B < k) : tendrillaw8_right.f k l = some (RL l) := by
  unfold tendrillaw8_right.f RL
  have := lawRight_l B k l hl hs l.length 0 (by omega) (by omega) (by omega)
  simpa using this
end Go.Proofs.YtdjjmnkopoldhaaDoor.Ep
