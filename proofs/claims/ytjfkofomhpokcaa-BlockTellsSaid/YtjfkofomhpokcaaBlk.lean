/- Plain lemmas on bits of 64-bit numbers, and on a block's bytes; no condition. -/
import Derived.Laws.BitsLemmas
import Derived.RowKit
namespace Go.Bx
open Go.RowKit

theorem wrap_u64 (n : Int) : IntKind.u64.wrap n = n % 18446744073709551616 := by simp [IntKind.wrap, IntKind.bits, IntKind.signed]

theorem wf_i64 {n : Int} (h : (Lit.int .i64 n).wf = true) : -9223372036854775808 ≤ n ∧ n ≤ 9223372036854775807 := by
  simpa [Lit.wf, IntKind.min, IntKind.max, IntKind.bits, IntKind.signed] using h
theorem wf_u64 {n : Int} (h : (Lit.int .u64 n).wf = true) : 0 ≤ n ∧ n ≤ 18446744073709551615 := by
  simpa [Lit.wf, IntKind.min, IntKind.max, IntKind.bits, IntKind.signed] using h
theorem wf_u8 {n : Int} (h : (Lit.int .u8 n).wf = true) : 0 ≤ n ∧ n ≤ 255 := by
  simpa [Lit.wf, IntKind.min, IntKind.max, IntKind.bits, IntKind.signed] using h

/-- '&' with a mask of low bits. -/
theorem and_mask_i64 (x : Int) (i : Nat) (hi : i < 64) (m : Int) (hm : m = 2 ^ i - 1) : bits .and .i64 x m = x % 2 ^ i := by
  have hp : (0 : Int) < 2 ^ i := by exact_mod_cast Nat.two_pow_pos i
  have hle : (2 : Nat) ^ i ≤ 2 ^ 63 := Nat.pow_le_pow_right (by decide) (by omega)
  have hm' : m = ((2 ^ i - 1 : Nat) : Int) := by rw [hm, Int.natCast_sub (Nat.two_pow_pos i)]; simp
  have hx : (BitVec.ofInt 64 x).toNat % 2 ^ i = (x % 2 ^ i).toNat := by
    rw [BitVec.toNat_ofInt]
    have h1 : (((x % ((2 ^ 64 : Nat) : Int)).toNat % 2 ^ i : Nat) : Int) = x % 2 ^ i := by
      rw [Int.natCast_emod, Int.toNat_of_nonneg (Int.emod_nonneg _ (by decide))]
      rw [show ((2 ^ i : Nat) : Int) = 2 ^ i from by simp]
      refine Int.emod_emod_of_dvd x ?_
      exact_mod_cast Nat.pow_dvd_pow 2 (by omega : i ≤ 64)
    omega
  have e : bits .and .i64 x m = IntKind.i64.wrap (((BitVec.ofInt 64 x).toNat &&& (2 ^ i - 1) : Nat) : Int) := by
    show IntKind.i64.wrap (((BitVec.ofInt 64 x) &&& (BitVec.ofInt 64 m)).toNat : Int) = _
    rw [BitVec.toNat_and, hm', BitVec.ofInt_natCast, BitVec.toNat_ofNat, Nat.mod_eq_of_lt (a := 2 ^ i - 1) (by omega)]
  rw [e, Nat.and_two_pow_sub_one_eq_mod, hx, Int.toNat_of_nonneg (Int.emod_nonneg _ (by omega)), IntKind.wrap_i64]
  have h1 := Int.emod_nonneg x (show (2 : Int) ^ i ≠ 0 by omega)
  have h2 := Int.emod_lt_of_pos x hp
  have h3 : (2 : Int) ^ i ≤ 9223372036854775808 := by
    have h4 := Int.ofNat_le.2 hle
    rw [Int.natCast_pow, Int.natCast_pow] at h4
    exact h4
  omega
theorem and_mask_u64 (x : Int) (i : Nat) (hi : i < 64) (m : Int) (hm : m = 2 ^ i - 1) : bits .and .u64 x m = x % 2 ^ i := by
  have hp : (0 : Int) < 2 ^ i := by exact_mod_cast Nat.two_pow_pos i
  have hle : (2 : Nat) ^ i ≤ 2 ^ 63 := Nat.pow_le_pow_right (by decide) (by omega)
  have hm' : m = ((2 ^ i - 1 : Nat) : Int) := by rw [hm, Int.natCast_sub (Nat.two_pow_pos i)]; simp
  have hx : (BitVec.ofInt 64 x).toNat % 2 ^ i = (x % 2 ^ i).toNat := by
    rw [BitVec.toNat_ofInt]
    have h1 : (((x % ((2 ^ 64 : Nat) : Int)).toNat % 2 ^ i : Nat) : Int) = x % 2 ^ i := by
      rw [Int.natCast_emod, Int.toNat_of_nonneg (Int.emod_nonneg _ (by decide))]
      rw [show ((2 ^ i : Nat) : Int) = 2 ^ i from by simp]
      refine Int.emod_emod_of_dvd x ?_
      exact_mod_cast Nat.pow_dvd_pow 2 (by omega : i ≤ 64)
    omega
  have e : bits .and .u64 x m = IntKind.u64.wrap (((BitVec.ofInt 64 x).toNat &&& (2 ^ i - 1) : Nat) : Int) := by
    show IntKind.u64.wrap (((BitVec.ofInt 64 x) &&& (BitVec.ofInt 64 m)).toNat : Int) = _
    rw [BitVec.toNat_and, hm', BitVec.ofInt_natCast, BitVec.toNat_ofNat, Nat.mod_eq_of_lt (a := 2 ^ i - 1) (by omega)]
  rw [e, Nat.and_two_pow_sub_one_eq_mod, hx, Int.toNat_of_nonneg (Int.emod_nonneg _ (by omega)), wrap_u64]
  have h1 := Int.emod_nonneg x (show (2 : Int) ^ i ≠ 0 by omega)
  have h2 := Int.emod_lt_of_pos x hp
  have h3 : (2 : Int) ^ i ≤ 9223372036854775808 := by
    have h4 := Int.ofNat_le.2 hle
    rw [Int.natCast_pow, Int.natCast_pow] at h4
    exact h4
  omega
/-- '&' with one bit, of a number that isn't negative. -/
theorem nat_and_pow (a i : Nat) : a &&& 2 ^ i = 2 ^ i * (a / 2 ^ i % 2) := by
  apply Nat.eq_of_testBit_eq
  intro j
  rw [Nat.testBit_and, Nat.testBit_two_pow]
  by_cases h : i = j
  · subst h
    rw [Nat.testBit_two_pow_mul]
    simp only [Nat.testBit, Nat.shiftRight_eq_div_pow]
    rcases Nat.mod_two_eq_zero_or_one (a / 2 ^ i) with h | h <;> simp [h]
  · rw [Nat.testBit_two_pow_mul]
    rcases Nat.mod_two_eq_zero_or_one (a / 2 ^ i) with h' | h'
    · simp [h, h']
    · simp [h, h']
      intro hij
      have : j - i ≠ 0 := by omega
      simp [Nat.testBit, Nat.shiftRight_eq_div_pow]
      obtain ⟨d, hd⟩ : ∃ d, j - i = d + 1 := ⟨j - i - 1, by omega⟩
      rw [hd, Nat.pow_succ]
      have : 1 / (2 ^ d * 2) = 0 := Nat.div_eq_of_lt (by have := Nat.two_pow_pos d; omega)
      simp [this]
theorem and_bit_i64 (x : Int) (i : Nat) (hi : i < 63) (h0 : 0 ≤ x) (h1 : x ≤ 9223372036854775807) : bits .and .i64 x (2 ^ i) = 2 ^ i * (x / 2 ^ i % 2) := by
  obtain ⟨a, rfl⟩ := Int.eq_ofNat_of_zero_le h0
  have hle : (2 : Nat) ^ i < 2 ^ 63 := Nat.pow_lt_pow_right (by decide) hi
  have e : ((2 : Int) ^ i) = ((2 ^ i : Nat) : Int) := by simp
  rw [e, (bits_nat .i64 63 (by decide) (fun n h0 h1 => by rw [IntKind.wrap_i64]; omega) a (2 ^ i) (by omega) hle).1, nat_and_pow]
  simp
theorem and_bit_u64 (x : Int) (i : Nat) (hi : i < 64) (h0 : 0 ≤ x) (h1 : x ≤ 18446744073709551615) : bits .and .u64 x (2 ^ i) = 2 ^ i * (x / 2 ^ i % 2) := by
  obtain ⟨a, rfl⟩ := Int.eq_ofNat_of_zero_le h0
  have hle : (2 : Nat) ^ i < 2 ^ 64 := Nat.pow_lt_pow_right (by decide) hi
  have e : ((2 : Int) ^ i) = ((2 ^ i : Nat) : Int) := by simp
  rw [e, (bits_nat .u64 64 (by decide) (fun n h0 h1 => by rw [wrap_u64]; omega) a (2 ^ i) (by omega) hle).1, nat_and_pow]
  simp
theorem or_join_i64 (i : Nat) (x y : Int) (hx₀ : 0 ≤ x) (hx : x % 2 ^ i = 0) (hx₁ : x < 9223372036854775808) (hy₀ : 0 ≤ y) (hy : y < 2 ^ i) (hy₁ : y < 9223372036854775808) : bits .or .i64 x y = x + y :=
  bits_join .i64 63 (by decide) (fun n h0 h1 => by rw [IntKind.wrap_i64]; omega) i x y hx₀ hx hx₁ hy₀ hy hy₁
theorem or_join_u64 (i : Nat) (x y : Int) (hx₀ : 0 ≤ x) (hx : x % 2 ^ i = 0) (hx₁ : x < 18446744073709551616) (hy₀ : 0 ≤ y) (hy : y < 2 ^ i) (hy₁ : y < 18446744073709551616) : bits .or .u64 x y = x + y :=
  bits_join .u64 64 (by decide) (fun n h0 h1 => by rw [wrap_u64]; omega) i x y hx₀ hx hx₁ hy₀ hy hy₁
theorem andNot3_u64 (x : Int) (h0 : 0 ≤ x) (h1 : x ≤ 18446744073709551615) : bits .andNot .u64 x 3 = x - x % 4 := by
  obtain ⟨a, rfl⟩ := Int.eq_ofNat_of_zero_le h0
  have e : bits .andNot .u64 a 3 = IntKind.u64.wrap ((BitVec.ofNat 64 a &&& ~~~ 3#64).toNat : Int) := by
    show IntKind.u64.wrap _ = _
    simp only [IntKind.bits, BitVec.ofInt_natCast]; rfl
  have e2 : (BitVec.ofNat 64 a &&& ~~~ 3#64).toNat = a - a % 4 := by
    have e3 : BitVec.ofNat 64 a &&& ~~~ 3#64 = BitVec.ofNat 64 a - (BitVec.ofNat 64 a &&& 3#64) := by
      have h5 : BitVec.ofNat 64 a = (BitVec.ofNat 64 a &&& ~~~ 3#64) + (BitVec.ofNat 64 a &&& 3#64) := by
        generalize 3#64 = m
        rw [BitVec.add_eq_or_of_and_eq_zero]
        · ext i hi; simp only [BitVec.getElem_or, BitVec.getElem_and, BitVec.getElem_not]; cases (BitVec.ofNat 64 a)[i] <;> cases m[i] <;> rfl
        · ext i hi; simp only [BitVec.getElem_and, BitVec.getElem_not, BitVec.getElem_zero]; cases (BitVec.ofNat 64 a)[i] <;> cases m[i] <;> rfl
      exact (by rw [BitVec.eq_sub_iff_add_eq]; exact h5.symm)
    rw [e3]
    have h3 : (BitVec.ofNat 64 a &&& 3#64).toNat = a % 4 := by
      rw [BitVec.toNat_and, BitVec.toNat_ofNat, Nat.mod_eq_of_lt (by omega)]
      exact Nat.and_two_pow_sub_one_eq_mod a 2
    have h7 : a < 2 ^ 64 := by omega
    rw [BitVec.toNat_sub, h3, BitVec.toNat_ofNat, Nat.mod_eq_of_lt h7]
    have h6 : a % 4 ≤ a := Nat.mod_le _ _
    omega
  rw [e, e2, wrap_u64]
  omega
end Go.Bx

namespace Go.Bl
open Go.RowKit Go.Bx
/-- a number in pieces of seven bits, the last below 128. -/
def dig : Nat → Int → List Int
  | 0, n => [n]
  | d + 1, n => if n ≥ 128 then (n % 128 + 128) :: dig d (n / 128) else [n]
/-- the bytes of ids behind one. -/
def enc : Int → List Int → List Int
  | _, [] => []
  | last, x :: l => dig 4 (x - last - 1) ++ enc x l
/-- ids that rise, from above one on, none above the greatest. -/
def Rises : Int → List Int → Prop
  | _, [] => True
  | last, x :: l => last < x ∧ x ≤ 1073741824 ∧ Rises x l
instance decRises : (last : Int) → (l : List Int) → Decidable (Rises last l)
  | _, [] => isTrue trivial
  | last, x :: l => by unfold Rises; have := decRises x l; exact inferInstance
/-- may a block have these ids? -/
def Rt (l : List Int) : Prop := Rises (-1) l ∧ 1 ≤ l.length ∧ l.length ≤ 16
instance (l : List Int) : Decidable (Rt l) := inferInstanceAs (Decidable (_ ∧ _))
theorem dig_ne (d : Nat) (n : Int) : dig d n ≠ [] := by cases d <;> simp [dig]; split <;> simp
theorem dig_len (d : Nat) (n : Int) : (dig d n).length ≤ d + 1 := by
  induction d generalizing n with
  | zero => simp [dig]
  | succ d ih => unfold dig; split
                 · simp only [List.length_cons]; have := ih (n / 128); omega
                 · simp
theorem enc_len (last : Int) (l : List Int) : (enc last l).length ≤ 5 * l.length := by
  induction l generalizing last with
  | nil => simp [enc]
  | cons x l ih => unfold enc; rw [List.length_append, List.length_cons]; have := ih x; have := dig_len 4 (x - last - 1); omega
theorem rises_mono (a b : Int) (l : List Int) (h : Rises b l) (hab : a ≤ b) : Rises a l := by
  cases l with
  | nil => trivial
  | cons x l => exact ⟨by have := h.1; omega, h.2.1, h.2.2⟩
theorem rises_append (last : Int) (l : List Int) (x : Int) (m : List Int) : Rises last (l ++ x :: m) ↔ Rises last (l ++ [x]) ∧ Rises x m := by
  induction l generalizing last with
  | nil => simp [Rises, and_assoc]
  | cons y l ih => simp only [List.cons_append, Rises, ih y, and_assoc]
theorem rises_mem (last : Int) (l : List Int) (h : Rises last l) : ∀ x ∈ l, last < x ∧ x ≤ 1073741824 := by
  induction l generalizing last with
  | nil => intro x hx; cases hx
  | cons y l ih =>
    intro x hx
    rcases List.mem_cons.1 hx with rfl | hx
    · exact ⟨h.1, h.2.1⟩
    · have := ih y h.2.2 x hx; have := h.1; omega
/-- a piece that more follow, as Go makes it. -/
theorem piece_more (n : Int) : (bits .or .i64 (bits .and .i64 n 127) 128) % 256 = n % 128 + 128 := by
  have e : bits .and .i64 n 127 = n % 128 := and_mask_i64 n 7 (by decide) _ (by decide)
  have e2 : bits .or .i64 (n % 128) 128 = bits .or .i64 128 (n % 128) := by simp only [bits]; rw [BitVec.or_comm]
  rw [e, e2, or_join_i64 7 128 (n % 128) (by omega) (by decide) (by omega) (by omega) (by omega) (by omega)]
  omega
theorem shl_at (x : Int) (c : Nat) (hc : c ≤ 28) (p : Int) (hp : p = 2 ^ c) (h0 : 0 ≤ x) (h1 : x < 128) : IntKind.i64.wrap (x * 2 ^ min ((c : Int).toNat) 64) = x * p := by
  rw [Int.toNat_natCast, Nat.min_eq_left (by omega), ← hp, IntKind.wrap_i64]
  have hp28 : p ≤ 2 ^ 28 := by rw [hp]; have := Nat.pow_le_pow_right (show 0 < 2 by decide) hc; exact_mod_cast this
  have hp0 : 0 ≤ p := by rw [hp]; exact Int.pow_nonneg (by decide)
  have h2 : x * p ≤ 127 * p := Int.mul_le_mul_of_nonneg_right (by omega) hp0
  have h3 : 0 ≤ x * p := Int.mul_nonneg h0 hp0
  have h4 : (2 : Int) ^ 28 = 268435456 := by decide
  omega
/-- 128 to the i-th. -/
def pw : Nat → Int
  | 0 => 1
  | 1 => 128
  | 2 => 16384
  | 3 => 2097152
  | 4 => 268435456
  | _ => 34359738368
/-- what a piece adds to the number so far, as Go reckons it. -/
theorem piece_add (n b : Int) (i : Nat) (hi : i < 5) (hn0 : 0 ≤ n) (hn : n < pw i) (hb0 : 0 ≤ b) (hb : b ≤ 255) :
    bits .or .i64 n (IntKind.i64.wrap ((wrap64 (bits .and .u8 b 127)) * 2 ^ min ((IntKind.u64.wrap (wrap64 (7 * (i : Int)))).toNat) 64)) = n + b % 128 * pw i := by
  have e1 : bits .and .u8 b 127 = b % 128 := by
    obtain ⟨a, rfl⟩ := Int.eq_ofNat_of_zero_le hb0
    have := (bits_nat .u8 8 (by decide) wraps_u8 a 127 (by omega) (by decide)).1
    rw [show ((127 : Int)) = ((127 : Nat) : Int) from rfl, this, show (127 : Nat) = 2 ^ 7 - 1 from rfl, Nat.and_two_pow_sub_one_eq_mod]; omega
  have e2 : wrap64 (b % 128) = b % 128 := by unfold wrap64; omega
  have e3 : IntKind.u64.wrap (wrap64 (7 * (i : Int))) = ((7 * i : Nat) : Int) := by rw [wrap_u64]; unfold wrap64; omega
  have hx0 : 0 ≤ b % 128 := by omega
  have hx1 : b % 128 < 128 := by omega
  have hp : pw i = 2 ^ (7 * i) := by
    rcases i with _ | _ | _ | _ | _ | i <;> first | decide | omega
  rw [e1, e2, e3, shl_at _ (7 * i) (by omega) (pw i) hp hx0 hx1]
  have ecomm : ∀ x y : Int, bits .or .i64 x y = bits .or .i64 y x := fun x y => by simp only [bits]; rw [BitVec.or_comm]
  have hpos : 0 < pw i := by rw [hp]; exact Int.pow_pos (by decide)
  have hle : pw i ≤ 268435456 := by rcases i with _ | _ | _ | _ | _ | i <;> first | decide | omega
  have h2 : b % 128 * pw i ≤ 127 * pw i := Int.mul_le_mul_of_nonneg_right (by omega) (by omega)
  have h3 : 0 ≤ b % 128 * pw i := Int.mul_nonneg hx0 (by omega)
  rw [ecomm, or_join_i64 (7 * i) (b % 128 * pw i) n h3 (by rw [← hp]; exact Int.mul_emod_left _ _) (by omega) hn0 (by rw [← hp]; exact hn) (by omega)]
  omega
theorem pw_succ (i : Nat) (h : i < 5) : pw (i + 1) = 128 * pw i := by
  rcases i with _ | _ | _ | _ | _ | i <;> first | decide | omega
theorem pw_pos (i : Nat) : 0 < pw i ∧ pw i ≤ 34359738368 := by
  rcases i with _ | _ | _ | _ | _ | i <;> first | decide | (show 0 < (34359738368 : Int) ∧ (34359738368 : Int) ≤ 34359738368; decide)
theorem piece_bound (n b : Int) (i : Nat) (h : i < 5) (hn0 : 0 ≤ n) (hn : n < pw i) (hb : 0 ≤ b % 128 ∧ b % 128 < 128) : 0 ≤ n + b % 128 * pw i ∧ n + b % 128 * pw i < pw (i + 1) := by
  have hp := pw_pos i
  rw [pw_succ i h]
  have h2 : b % 128 * pw i ≤ 127 * pw i := Int.mul_le_mul_of_nonneg_right (by omega) (by omega)
  have h3 : 0 ≤ b % 128 * pw i := Int.mul_nonneg hb.1 (by omega)
  omega
end Go.Bl
