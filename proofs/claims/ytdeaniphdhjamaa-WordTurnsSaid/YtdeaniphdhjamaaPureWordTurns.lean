/- tendrillaw1.WordTurns returns true for every input; no condition. -/
import Derived.Test.YtdeaniphdhjamaaPWordTurnsx1
import Derived.Test.YtdeaniphdhjamaaBits
namespace Go.Proofs.Ytdeaniphdhjamaa.Pure
open Go.RowKit Go.Bx Go.Proofs.Ytdeaniphdhjamaa.PWordTurns Go.Proofs.YtdeaniphdhjamaaW.PrintWords Go.Proofs.YtdeaniphdhjamaaW.PrintLast

theorem word_Ref_f (k : Nat) (s g : Int) (l : Bool) : word_Ref.f (k + 1) s g l = some (refv s g l) := by
  unfold word_Ref.f refv
  by_cases h0 : s < 0
  · rw [if_pos h0, if_neg (by omega)]; rfl
  rw [if_neg h0]
  by_cases h1 : s ≥ 1024
  · rw [if_pos h1, if_neg (by omega)]; rfl
  rw [if_neg h1]
  by_cases h2 : g < 1
  · rw [if_pos h2, if_neg (by omega)]; rfl
  rw [if_neg h2]
  by_cases h3 : g > 1073741824
  · rw [if_neg (by omega), decide_eq_true h3]; rfl
  rw [if_pos (by omega), decide_eq_false h3]
  simp only [word_Ref.j0, Bool.false_eq_true, if_false]
  rw [ref_or s g (by omega) (by omega) (by omega) (by omega)]
  cases l
  · simp
  · simp only [if_true]; rw [ref_or_leaf s g (by omega) (by omega) (by omega) (by omega)]

theorem word_Parts_f (k : Nat) (r : Int) : word_Parts.f (k + 1) r = some (partsv r) := by
  unfold word_Parts.f
  by_cases h0 : r = 0
  · subst h0; rw [if_pos rfl]; rfl
  rw [if_neg h0, slot_bits, gen_bits, word_Ref_f]
  simp only [Option.bind_some]
  by_cases h : isRef r
  · have hb := refv_back r h
    rw [leaf_tells r (by have := h.1; omega) h.2.1, if_pos hb]
    unfold partsv; rw [if_pos h]
  · rw [if_neg (refv_no r _ h h0)]
    unfold partsv; rw [if_neg h]

theorem runs_f (k : Nat) : tendrillaw1_WordRuns.f (k + 1) = some true := by
  unfold tendrillaw1_WordRuns.f
  rw [word_Ref_f]; simp only [Option.bind_some]
  rw [word_Parts_f, word_Parts_f]; simp only [Option.bind_some]
  decide +kernel

theorem within_fits (n hi : Int) (h0 : 0 ≤ hi) (h1 : hi ≤ 1099511627776) : ∃ r, tendrilbook_Within.f n 0 hi = some r ∧ 0 ≤ r ∧ r ≤ hi := within_f n hi h0 h1

theorem and3 (x : Int) : Go.bits .and .u64 x 3 = x % 4 := and_mask_u64 x 2 (by decide) _ (by decide)
theorem and2 (x : Int) (h0 : 0 ≤ x) (h1 : x ≤ 18446744073709551615) : Go.bits .and .u64 x 2 = 2 * (x / 2 % 2) := and_bit_u64 x 1 (by decide) h0 h1
theorem or1 (x : Int) (h0 : 0 ≤ x) (h1 : x ≤ 18446744073709551615) (h : x % 4 = 0) : Go.bits .or .u64 x 1 = x + 1 := or_join_u64 2 x 1 h0 h (by omega) (by omega) (by omega) (by omega)
theorem or2 (x : Int) (h0 : 0 ≤ x) (h1 : x ≤ 18446744073709551615) (h : x % 4 = 0) : Go.bits .or .u64 x 2 = x + 2 := or_join_u64 2 x 2 h0 h (by omega) (by omega) (by omega) (by omega)
theorem free_yes (x : Int) (h : x % 4 = 0) : word_Free.f x = some true := by unfold word_Free.f; rw [and3, h]; rfl
theorem free_no (x : Int) (h : x % 4 ≠ 0) : word_Free.f x = some false := by unfold word_Free.f; rw [and3]; simp [h]
theorem lock_yes (x : Int) (h0 : 0 ≤ x) (h1 : x ≤ 18446744073709551615) (h : x % 4 = 0) : word_Lock.f x = some (x + 1, true) := by
  unfold word_Lock.f; rw [free_yes x h]; simp only [Option.bind_some, if_true]; rw [or1 x h0 h1 h]
theorem lock_no (x : Int) (h : x % 4 ≠ 0) : word_Lock.f x = some (0, false) := by
  unfold word_Lock.f; rw [free_no x h]; simp
theorem dead_f (x : Int) (h0 : 0 ≤ x) (h1 : x ≤ 18446744073709551615) : word_Dead.f x = some (decide (x / 2 % 2 = 1)) := by
  unfold word_Dead.f; rw [and2 x h0 h1]
  congr 1
  rw [Bool.eq_iff_iff]; simp only [bne_iff_ne, ne_eq, decide_eq_true_eq]; omega
theorem bare_f (x : Int) (h0 : 0 ≤ x) (h1 : x ≤ 18446744073709551615) : word_bare.f x = some ((x - x % 4 + 4) % 18446744073709551616) := by
  unfold word_bare.f; rw [andNot3_u64 x h0 h1, wrap_u64]
theorem unlock_f (x : Int) (h0 : 0 ≤ x) (h1 : x ≤ 18446744073709551615) : word_Unlock.f x = some ((x - x % 4 + 4) % 18446744073709551616) := by
  unfold word_Unlock.f; rw [bare_f x h0 h1]; rfl
theorem kill_f (x : Int) (h0 : 0 ≤ x) (h1 : x ≤ 18446744073709551615) : word_Kill.f x = some ((x - x % 4 + 4) % 18446744073709551616 + 2) := by
  unfold word_Kill.f; rw [bare_f x h0 h1]; simp only [Option.bind_some]; rw [or2 _ (by omega) (by omega) (by omega)]

theorem round (d : Nat) : ∀ (k : Nat) (w i : Int), 0 ≤ w → w ≤ 18446744073709551615 → w % 4 = 0 → 0 ≤ i → i ≤ 40 → i = d → d + 1 < k → tendrillaw1_WordTurns.l0 k w i = some true := by
  induction d with
  | zero =>
    intro k w i w0 w1 w4 i0 i1 id hk
    obtain ⟨k, rfl⟩ : ∃ m, k = m + 2 := ⟨k - 2, by omega⟩
    simp only [tendrillaw1_WordTurns.l0]
    rw [if_neg (by omega), free_yes w w4, runs_f]
    rfl
  | succ d ih =>
    intro k w i w0 w1 w4 i0 i1 id hk
    obtain ⟨k, rfl⟩ : ∃ m, k = m + 1 := ⟨k - 1, by omega⟩
    simp only [tendrillaw1_WordTurns.l0]
    rw [if_pos (by omega), lock_yes w w0 w1 w4]; simp only [Option.bind_some]
    rw [lock_no (w + 1) (by omega), unlock_f (w + 1) (by omega) (by omega), kill_f (w + 1) (by omega) (by omega)]; simp only [Option.bind_some]
    have e : (w + 1 - (w + 1) % 4 + 4) % 18446744073709551616 = (w + 4) % 18446744073709551616 := by omega
    rw [e]
    have u0 : 0 ≤ (w + 4) % 18446744073709551616 := by omega
    have u1 : (w + 4) % 18446744073709551616 ≤ 18446744073709551615 := by omega
    have u4 : (w + 4) % 18446744073709551616 % 4 = 0 := by omega
    have uw : (w + 4) % 18446744073709551616 ≠ w := by omega
    have uu : (w - w % 4 + 4) % 18446744073709551616 = (w + 4) % 18446744073709551616 := by omega
    have last := ih k ((w + 4) % 18446744073709551616) (i - 1) u0 u1 u4 (by omega) (by omega) (by omega) (by omega)
    generalize (w + 4) % 18446744073709551616 = u at *
    rw [lock_no (u + 2) (by omega)]; simp only [Option.bind_some, if_true, Bool.false_eq_true, if_false]
    rw [free_no (w + 1) (by omega), free_yes u u4, dead_f u u0 u1, dead_f (u + 2) (by omega) (by omega), free_no (u + 2) (by omega), unlock_f w w0 w1, uu]
    simp only [Option.bind_some, if_true, Bool.false_eq_true, if_false, decide_eq_true_eq]
    rw [if_neg uw, if_neg (by omega), if_pos (by omega), show wrap64 (i - 1) = i - 1 from by unfold wrap64; omega]
    exact last
theorem WordTurns : tendrillaw1_WordTurns.Pure := by
  intro v times hv _
  have hv := wf_u64 hv
  obtain ⟨i, ei, i0, i1⟩ := within_fits times 40 (by omega) (by omega)
  refine ⟨i.toNat + 2, ?_⟩
  unfold tendrillaw1_WordTurns.f
  rw [ei]; simp only [Option.bind_some]
  rw [andNot3_u64 v hv.1 hv.2]
  exact round i.toNat _ _ _ (by omega) (by omega) (by omega) i0 i1 (by omega) (by omega)

end Go.Proofs.Ytdeaniphdhjamaa.Pure
