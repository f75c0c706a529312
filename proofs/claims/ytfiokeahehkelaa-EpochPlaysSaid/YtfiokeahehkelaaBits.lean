/- Plain lemmas on bits of 64-bit numbers, and on what word.Ref and word.Parts answer; no condition. -/
import Derived.Laws.BitsLemmas
import Derived.RowKit
namespace Go.Bx
open Go.RowKit

theorem wrap_u64 (n : Int) : IntKind.u64.wrap n = n % 18446744073709551616 := by simp [IntKind.wrap, IntKind.bits, IntKind.signed]

theorem wf_i64 {n : Int} (h : (Lit.int .i64 n).wf = true) : -9223372036854775808 ≤ n ∧ n ≤ 9223372036854775807 := by
  simpa [Lit.wf, IntKind.min, IntKind.max, IntKind.bits, IntKind.signed] using h
theorem wf_u64 {n : Int} (h : (Lit.int .u64 n).wf = true) : 0 ≤ n ∧ n ≤ 18446744073709551615 := by
  simpa [Lit.wf, IntKind.min, IntKind.max, IntKind.bits, IntKind.signed] using h
theorem wf_u8 {n : Int} (h : (Lit.int .u8 n).wf = true) : 0 ≤ n ∧ n ≤ 255 := by
  simpa [Lit.wf, IntKind.min, IntKind.max, IntKind.bits, IntKind.signed] using h

/-- '&' with a mask of low bits. -/
theorem and_mask_i64 (x : Int) (i : Nat) (hi : i < 64) (m : Int) (hm : m = 2 ^ i - 1) : bits .and .i64 x m = x % 2 ^ i := by
  have hp : (0 : Int) < 2 ^ i := by exact_mod_cast Nat.two_pow_pos i
  have hle : (2 : Nat) ^ i ≤ 2 ^ 63 := Nat.pow_le_pow_right (by decide) (by omega)
  have hm' : m = ((2 ^ i - 1 : Nat) : Int) := by rw [hm, Int.natCast_sub (Nat.two_pow_pos i)]; simp
  have hx : (BitVec.ofInt 64 x).toNat % 2 ^ i = (x % 2 ^ i).toNat := by
    rw [BitVec.toNat_ofInt]
    have h1 : (((x % ((2 ^ 64 : Nat) : Int)).toNat % 2 ^ i : Nat) : Int) = x % 2 ^ i := by
      rw [Int.natCast_emod, Int.toNat_of_nonneg (Int.emod_nonneg _ (by decide))]
      rw [show ((2 ^ i : Nat) : Int) = 2 ^ i from by simp]
      refine Int.emod_emod_of_dvd x ?_
      exact_mod_cast Nat.pow_dvd_pow 2 (by omega : i ≤ 64)
    omega
  have e : bits .and .i64 x m = IntKind.i64.wrap (((BitVec.ofInt 64 x).toNat &&& (2 ^ i - 1) : Nat) : Int) := by
    show IntKind.i64.wrap (((BitVec.ofInt 64 x) &&& (BitVec.ofInt 64 m)).toNat : Int) = _
    rw [BitVec.toNat_and, hm', BitVec.ofInt_natCast, BitVec.toNat_ofNat, Nat.mod_eq_of_lt (a := 2 ^ i - 1) (by omega)]
  rw [e, Nat.and_two_pow_sub_one_eq_mod, hx, Int.toNat_of_nonneg (Int.emod_nonneg _ (by omega)), IntKind.wrap_i64]
  have h1 := Int.emod_nonneg x (show (2 : Int) ^ i ≠ 0 by omega)
  have h2 := Int.emod_lt_of_pos x hp
  have h3 : (2 : Int) ^ i ≤ 9223372036854775808 := by
    have h4 := Int.ofNat_le.2 hle
    rw [Int.natCast_pow, Int.natCast_pow] at h4
    exact h4
  omega
theorem and_mask_u64 (x : Int) (i : Nat) (hi : i < 64) (m : Int) (hm : m = 2 ^ i - 1) : bits .and .u64 x m = x % 2 ^ i := by
  have hp : (0 : Int) < 2 ^ i := by exact_mod_cast Nat.two_pow_pos i
  have hle : (2 : Nat) ^ i ≤ 2 ^ 63 := Nat.pow_le_pow_right (by decide) (by omega)
  have hm' : m = ((2 ^ i - 1 : Nat) : Int) := by rw [hm, Int.natCast_sub (Nat.two_pow_pos i)]; simp
  have hx : (BitVec.ofInt 64 x).toNat % 2 ^ i = (x % 2 ^ i).toNat := by
    rw [BitVec.toNat_ofInt]
    have h1 : (((x % ((2 ^ 64 : Nat) : Int)).toNat % 2 ^ i : Nat) : Int) = x % 2 ^ i := by
      rw [Int.natCast_emod, Int.toNat_of_nonneg (Int.emod_nonneg _ (by decide))]
      rw [show ((2 ^ i : Nat) : Int) = 2 ^ i from by simp]
      refine Int.emod_emod_of_dvd x ?_
      exact_mod_cast Nat.pow_dvd_pow 2 (by omega : i ≤ 64)
    omega
  have e : bits .and .u64 x m = IntKind.u64.wrap (((BitVec.ofInt 64 x).toNat &&& (2 ^ i - 1) : Nat) : Int) := by
    show IntKind.u64.wrap (((BitVec.ofInt 64 x) &&& (BitVec.ofInt 64 m)).toNat : Int) = _
    rw [BitVec.toNat_and, hm', BitVec.ofInt_natCast, BitVec.toNat_ofNat, Nat.mod_eq_of_lt (a := 2 ^ i - 1) (by omega)]
  rw [e, Nat.and_two_pow_sub_one_eq_mod, hx, Int.toNat_of_nonneg (Int.emod_nonneg _ (by omega)), wrap_u64]
  have h1 := Int.emod_nonneg x (show (2 : Int) ^ i ≠ 0 by omega)
  have h2 := Int.emod_lt_of_pos x hp
  have h3 : (2 : Int) ^ i ≤ 9223372036854775808 := by
    have h4 := Int.ofNat_le.2 hle
    rw [Int.natCast_pow, Int.natCast_pow] at h4
    exact h4
  omega
/-- '&' with one bit, of a number that isn't negative. -/
theorem nat_and_pow (a i : Nat) : a &&& 2 ^ i = 2 ^ i * (a / 2 ^ i % 2) := by
  apply Nat.eq_of_testBit_eq
  intro j
  rw [Nat.testBit_and, Nat.testBit_two_pow]
  by_cases h : i = j
  · subst h
    rw [Nat.testBit_two_pow_mul]
    simp only [Nat.testBit, Nat.shiftRight_eq_div_pow]
    rcases Nat.mod_two_eq_zero_or_one (a / 2 ^ i) with h | h <;> simp [h]
  · rw [Nat.testBit_two_pow_mul]
    rcases Nat.mod_two_eq_zero_or_one (a / 2 ^ i) with h' | h'
    · simp [h, h']
    · simp [h, h']
      intro hij
      have : j - i ≠ 0 := by omega
      simp [Nat.testBit, Nat.shiftRight_eq_div_pow]
      obtain ⟨d, hd⟩ : ∃ d, j - i = d + 1 := ⟨j - i - 1, by omega⟩
      rw [hd, Nat.pow_succ]
      have : 1 / (2 ^ d * 2) = 0 := Nat.div_eq_of_lt (by have := Nat.two_pow_pos d; omega)
      simp [this]
theorem and_bit_i64 (x : Int) (i : Nat) (hi : i < 63) (h0 : 0 ≤ x) (h1 : x ≤ 9223372036854775807) : bits .and .i64 x (2 ^ i) = 2 ^ i * (x / 2 ^ i % 2) := by
  obtain ⟨a, rfl⟩ := Int.eq_ofNat_of_zero_le h0
  have hle : (2 : Nat) ^ i < 2 ^ 63 := Nat.pow_lt_pow_right (by decide) hi
  have e : ((2 : Int) ^ i) = ((2 ^ i : Nat) : Int) := by simp
  rw [e, (bits_nat .i64 63 (by decide) (fun n h0 h1 => by rw [IntKind.wrap_i64]; omega) a (2 ^ i) (by omega) hle).1, nat_and_pow]
  simp
theorem and_bit_u64 (x : Int) (i : Nat) (hi : i < 64) (h0 : 0 ≤ x) (h1 : x ≤ 18446744073709551615) : bits .and .u64 x (2 ^ i) = 2 ^ i * (x / 2 ^ i % 2) := by
  obtain ⟨a, rfl⟩ := Int.eq_ofNat_of_zero_le h0
  have hle : (2 : Nat) ^ i < 2 ^ 64 := Nat.pow_lt_pow_right (by decide) hi
  have e : ((2 : Int) ^ i) = ((2 ^ i : Nat) : Int) := by simp
  rw [e, (bits_nat .u64 64 (by decide) (fun n h0 h1 => by rw [wrap_u64]; omega) a (2 ^ i) (by omega) hle).1, nat_and_pow]
  simp
theorem or_join_i64 (i : Nat) (x y : Int) (hx₀ : 0 ≤ x) (hx : x % 2 ^ i = 0) (hx₁ : x < 9223372036854775808) (hy₀ : 0 ≤ y) (hy : y < 2 ^ i) (hy₁ : y < 9223372036854775808) : bits .or .i64 x y = x + y :=
  bits_join .i64 63 (by decide) (fun n h0 h1 => by rw [IntKind.wrap_i64]; omega) i x y hx₀ hx hx₁ hy₀ hy hy₁
theorem or_join_u64 (i : Nat) (x y : Int) (hx₀ : 0 ≤ x) (hx : x % 2 ^ i = 0) (hx₁ : x < 18446744073709551616) (hy₀ : 0 ≤ y) (hy : y < 2 ^ i) (hy₁ : y < 18446744073709551616) : bits .or .u64 x y = x + y :=
  bits_join .u64 64 (by decide) (fun n h0 h1 => by rw [wrap_u64]; omega) i x y hx₀ hx hx₁ hy₀ hy hy₁
theorem andNot3_u64 (x : Int) (h0 : 0 ≤ x) (h1 : x ≤ 18446744073709551615) : bits .andNot .u64 x 3 = x - x % 4 := by
  obtain ⟨a, rfl⟩ := Int.eq_ofNat_of_zero_le h0
  have e : bits .andNot .u64 a 3 = IntKind.u64.wrap ((BitVec.ofNat 64 a &&& ~~~ 3#64).toNat : Int) := by
    show IntKind.u64.wrap _ = _
    simp only [IntKind.bits, BitVec.ofInt_natCast]; rfl
  have e2 : (BitVec.ofNat 64 a &&& ~~~ 3#64).toNat = a - a % 4 := by
    have e3 : BitVec.ofNat 64 a &&& ~~~ 3#64 = BitVec.ofNat 64 a - (BitVec.ofNat 64 a &&& 3#64) := by
      have h5 : BitVec.ofNat 64 a = (BitVec.ofNat 64 a &&& ~~~ 3#64) + (BitVec.ofNat 64 a &&& 3#64) := by
        generalize 3#64 = m
        rw [BitVec.add_eq_or_of_and_eq_zero]
        · ext i hi; simp only [BitVec.getElem_or, BitVec.getElem_and, BitVec.getElem_not]; cases (BitVec.ofNat 64 a)[i] <;> cases m[i] <;> rfl
        · ext i hi; simp only [BitVec.getElem_and, BitVec.getElem_not, BitVec.getElem_zero]; cases (BitVec.ofNat 64 a)[i] <;> cases m[i] <;> rfl
      exact (by rw [BitVec.eq_sub_iff_add_eq]; exact h5.symm)
    rw [e3]
    have h3 : (BitVec.ofNat 64 a &&& 3#64).toNat = a % 4 := by
      rw [BitVec.toNat_and, BitVec.toNat_ofNat, Nat.mod_eq_of_lt (by omega)]
      exact Nat.and_two_pow_sub_one_eq_mod a 2
    have h7 : a < 2 ^ 64 := by omega
    rw [BitVec.toNat_sub, h3, BitVec.toNat_ofNat, Nat.mod_eq_of_lt h7]
    have h6 : a % 4 ≤ a := Nat.mod_le _ _
    omega
  rw [e, e2, wrap_u64]
  omega
end Go.Bx
namespace Go.Bx
open Go.RowKit
/-- what Ref answers. -/
def refv (s g : Int) (l : Bool) : Int := if 0 ≤ s ∧ s < 1024 ∧ 1 ≤ g ∧ g ≤ 1073741824 then g * 65536 + s + (if l = true then 281474976710656 else 0) else 0
/-- is it a ref? -/
def isRef (r : Int) : Prop := 0 < r ∧ r < 562949953421312 ∧ r % 65536 < 1024 ∧ 1 ≤ r / 65536 % 4294967296 ∧ r / 65536 % 4294967296 ≤ 1073741824
instance (r : Int) : Decidable (isRef r) := inferInstanceAs (Decidable (_ ∧ _))
/-- what Parts answers. -/
def partsv (r : Int) : Int × Int × Bool × Bool := if isRef r then (r % 65536, r / 65536 % 4294967296, decide (281474976710656 ≤ r), true) else (0, 0, false, false)
theorem ref_or (s g : Int) (h0 : 0 ≤ s) (h1 : s < 1024) (h2 : 1 ≤ g) (h3 : g ≤ 1073741824) : bits .or .i64 (wrap64 (g * 65536)) s = g * 65536 + s := by
  rw [show wrap64 (g * 65536) = g * 65536 from by unfold wrap64; omega]
  exact or_join_i64 16 _ _ (by omega) (by omega) (by omega) h0 (by omega) (by omega)
theorem ref_or_leaf (s g : Int) (h0 : 0 ≤ s) (h1 : s < 1024) (h2 : 1 ≤ g) (h3 : g ≤ 1073741824) : bits .or .i64 (g * 65536 + s) 281474976710656 = g * 65536 + s + 281474976710656 := by
  have e : bits .or .i64 (g * 65536 + s) 281474976710656 = bits .or .i64 281474976710656 (g * 65536 + s) := by
    simp only [bits]; rw [BitVec.or_comm]
  rw [e, or_join_i64 48 281474976710656 (g * 65536 + s) (by omega) (by omega) (by omega) (by omega) (by omega) (by omega)]
  omega
theorem slot_bits (r : Int) : bits .and .i64 r 65535 = r % 65536 := and_mask_i64 r 16 (by decide) _ (by decide)
theorem gen_bits (r : Int) : bits .and .i64 (r / 65536) 4294967295 = r / 65536 % 4294967296 := and_mask_i64 _ 32 (by decide) _ (by decide)
theorem leaf_bits (r : Int) (h0 : 0 ≤ r) (h1 : r ≤ 9223372036854775807) : bits .and .i64 r 281474976710656 = 281474976710656 * (r / 281474976710656 % 2) := and_bit_i64 r 48 (by decide) h0 h1
theorem leaf_tells (r : Int) (h0 : 0 ≤ r) (h1 : r < 562949953421312) : (bits .and .i64 r 281474976710656 != 0) = decide (281474976710656 ≤ r) := by
  rw [leaf_bits r h0 (by omega), Bool.eq_iff_iff]
  simp only [bne_iff_ne, ne_eq, decide_eq_true_eq]
  omega
theorem leaf_tells' (r : Int) (h0 : 0 ≤ r) (h1 : r < 562949953421312) : (r / 281474976710656 == 1) = decide (281474976710656 ≤ r) := by
  rw [Bool.eq_iff_iff]
  simp only [beq_iff_eq, decide_eq_true_eq]
  omega
theorem refv_range (s g : Int) (l : Bool) : 0 ≤ refv s g l ∧ refv s g l < 562949953421312 := by
  unfold refv; split
  · cases l <;> simp <;> omega
  · omega
theorem refv_back (r : Int) (h : isRef r) : refv (r % 65536) (r / 65536 % 4294967296) (decide (281474976710656 ≤ r)) = r := by
  obtain ⟨h0, h1, h2, h3, h4⟩ := h
  unfold refv
  rw [if_pos ⟨by omega, h2, h3, h4⟩]
  by_cases hl : 281474976710656 ≤ r
  · simp [hl]; omega
  · simp [hl]; omega
/-- whatever leaf is asked: Ref of the parts is r just if r is a ref and the leaf is its own. -/
theorem refv_no (r : Int) (l : Bool) (h : ¬ isRef r) (h0 : r ≠ 0) : refv (r % 65536) (r / 65536 % 4294967296) l ≠ r := by
  intro e
  have hr := refv_range (r % 65536) (r / 65536 % 4294967296) l
  rw [e] at hr
  apply h
  unfold refv at e
  split at e
  · next c => exact ⟨by omega, hr.2, c.2.1, c.2.2.1, c.2.2.2⟩
  · omega
theorem refv_is (s g : Int) (l : Bool) (h0 : 0 ≤ s) (h1 : s < 1024) (h2 : 1 ≤ g) (h3 : g ≤ 1073741824) : partsv (refv s g l) = (s, g, l, true) := by
  have e : refv s g l = g * 65536 + s + (if l = true then 281474976710656 else 0) := by unfold refv; rw [if_pos ⟨h0, h1, h2, h3⟩]
  have hr : isRef (refv s g l) := by
    rw [e]; cases l
    · simp [isRef]; omega
    · simp [isRef]; omega
  unfold partsv
  rw [if_pos hr, e]
  cases l
  · simp; omega
  · simp; omega
theorem within_f (n hi : Int) (h0 : 0 ≤ hi) (h1 : hi ≤ 1099511627776) :
    ∃ r, (if (wrap64 ((wrap64 (hi - 0)) + 1)) = 0 then (none) else (if (Int.tmod n (wrap64 ((wrap64 (hi - 0)) + 1))) < 0 then (some (wrap64 (0 + (wrap64 ((wrap64 ((wrap64 ((Int.tmod n (wrap64 ((wrap64 (hi - 0)) + 1))) + hi)) - 0)) + 1))))) else (some (wrap64 (0 + (Int.tmod n (wrap64 ((wrap64 (hi - 0)) + 1))))))) : Option Int) = some r ∧ 0 ≤ r ∧ r ≤ hi := by
  have e : wrap64 (wrap64 (hi - 0) + 1) = hi + 1 := by unfold wrap64; omega
  rw [e, if_neg (by omega)]
  have t1 : Int.tmod n (hi + 1) < hi + 1 := by
    have := Int.tmod_lt_of_pos n (show 0 < hi + 1 by omega); omega
  have t2 : -(hi + 1) < Int.tmod n (hi + 1) := by
    have := Int.lt_tmod_of_pos n (show 0 < hi + 1 by omega); omega
  by_cases hneg : Int.tmod n (hi + 1) < 0
  · rw [if_pos hneg]
    refine ⟨Int.tmod n (hi + 1) + hi + 1, ?_, by omega, by omega⟩
    congr 1
    unfold wrap64; omega
  · rw [if_neg hneg]
    refine ⟨Int.tmod n (hi + 1), ?_, by omega, by omega⟩
    congr 1
    unfold wrap64; omega
end Go.Bx
