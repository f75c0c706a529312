-- Written by a program of this session (mkprint.py): a printed walk over given contracts.
import Derived.Test.YtdjjmnkopoldhaaDoorPBasex0
import Derived.Test.YtdjjmnkopoldhaaDoorPBasex5
namespace Go.Proofs.YtdjjmnkopoldhaaDoor.PBase
open Go.RowKit Go.Proofs.YtdjjmnkopoldhaaDoorW.PrintWords Go.Proofs.YtdjjmnkopoldhaaDoorW.PrintLast Go.Proofs.YtdjjmnkopoldhaaDoorW.PrintMore
attribute [local go_sem] max2_int min2_int max_two min_two max_three min_three max_four min_four   -- for this text's walks alone
set_option linter.unusedVariables false
set_option linter.unusedSimpArgs false
attribute [local go_sem high] geq_str8 leq_str8

/-! ### tendrilref1_Shape: function 16 -/
mutual
def tendrilref1_Shape.j0 : Nat → List (S23) → Int → Bool → Bool → Option (ByteArray)
 | 0, _, _, _, _ => none
 | k + 1, x0, x1, x2, x20 => if x20 = true then (if 0 < (x0.length : Int) then ((tendrilref1_digits.f k (((rd_T23 x0 0).f0).size : Int)).bind fun t166 => (if 1 + t166.size ≤ 9223372036854775807 then (if ((⟨#[60]⟩ : ByteArray) ++ t166).size + 1 ≤ 9223372036854775807 then (if (((⟨#[60]⟩ : ByteArray) ++ t166) ++ (⟨#[58]⟩ : ByteArray)).size + ((rd_T23 x0 0).f0).size ≤ 9223372036854775807 then (if ((((⟨#[60]⟩ : ByteArray) ++ t166) ++ (⟨#[58]⟩ : ByteArray)) ++ ((rd_T23 x0 0).f0)).size + 1 ≤ 9223372036854775807 then (some (((((⟨#[60]⟩ : ByteArray) ++ t166) ++ (⟨#[58]⟩ : ByteArray)) ++ ((rd_T23 x0 0).f0)) ++ (⟨#[62]⟩ : ByteArray))) else (none)) else (none)) else (none)) else (none))) else (none)) else (if x2 = true then (tendrilref1_Shape.j1 k x0 x1 0) else (if 0 < (x0.length : Int) then (if ((rd_T23 x0 0).f0).size + 1 ≤ 9223372036854775807 then (if 0 ≤ (wrap64 ((x0.length : Int) - 1)) then (if (wrap64 ((x0.length : Int) - 1)) < (x0.length : Int) then (if ((rd_T23 x0 (wrap64 ((x0.length : Int) - 1))).f0).size + 1 ≤ 9223372036854775807 then (if 0 ≤ x1 then (if x1 ≤ ((((rd_T23 x0 0).f0) ++ (⟨#[0]⟩ : ByteArray)).size : Int) then (if x1 ≤ ((((rd_T23 x0 (wrap64 ((x0.length : Int) - 1))).f0) ++ (⟨#[0]⟩ : ByteArray)).size : Int) then ((tendrilref1_Common.f k ((((rd_T23 x0 0).f0) ++ (⟨#[0]⟩ : ByteArray)).extract (x1 : Int).toNat (((rd_T23 x0 0).f0) ++ (⟨#[0]⟩ : ByteArray)).size) ((((rd_T23 x0 (wrap64 ((x0.length : Int) - 1))).f0) ++ (⟨#[0]⟩ : ByteArray)).extract (x1 : Int).toNat (((rd_T23 x0 (wrap64 ((x0.length : Int) - 1))).f0) ++ (⟨#[0]⟩ : ByteArray)).size)).bind fun t170 => (tendrilref1_Shape.j1 k x0 x1 t170)) else (none)) else (none)) else (none)) else (none)) else (none)) else (none)) else (none)) else (none)))
def tendrilref1_Shape.j1 : Nat → List (S23) → Int → Int → Option (ByteArray)
 | 0, _, _, _ => none
 | k + 1, x0, x1, x7 => (tendrilref1_digits.f k x7).bind fun t171 => (if 1 + t171.size ≤ 9223372036854775807 then (if ((⟨#[40]⟩ : ByteArray) ++ t171).size + 1 ≤ 9223372036854775807 then (if x7 > 0 then (if 0 < (x0.length : Int) then (if ((rd_T23 x0 0).f0).size + 1 ≤ 9223372036854775807 then (if 0 ≤ x1 then (if x1 ≤ (wrap64 (x1 + x7)) then (if (wrap64 (x1 + x7)) ≤ ((((rd_T23 x0 0).f0) ++ (⟨#[0]⟩ : ByteArray)).size : Int) then (if (((⟨#[40]⟩ : ByteArray) ++ t171) ++ (⟨#[58]⟩ : ByteArray)).size + ((((rd_T23 x0 0).f0) ++ (⟨#[0]⟩ : ByteArray)).extract (x1 : Int).toNat ((wrap64 (x1 + x7)) : Int).toNat).size ≤ 9223372036854775807 then (tendrilref1_Shape.j2 k x0 x1 x7 ((((⟨#[40]⟩ : ByteArray) ++ t171) ++ (⟨#[58]⟩ : ByteArray)) ++ ((((rd_T23 x0 0).f0) ++ (⟨#[0]⟩ : ByteArray)).extract (x1 : Int).toNat ((wrap64 (x1 + x7)) : Int).toNat))) else (none)) else (none)) else (none)) else (none)) else (none)) else (none)) else (tendrilref1_Shape.j2 k x0 x1 x7 (((⟨#[40]⟩ : ByteArray) ++ t171) ++ (⟨#[58]⟩ : ByteArray)))) else (none)) else (none))
def tendrilref1_Shape.j2 : Nat → List (S23) → Int → Int → ByteArray → Option (ByteArray)
 | 0, _, _, _, _ => none
 | k + 1, x0, x1, x7, x10 => tendrilref1_Shape.l0 k x0 x1 x7 x10 0
def tendrilref1_Shape.l0 : Nat → List (S23) → Int → Int → ByteArray → Int → Option (ByteArray)
 | 0, _, _, _, _, _ => none
 | k + 1, x0, x1, x7, x10, x11 => if x11 < (x0.length : Int) then (if 0 ≤ x11 then (if ((rd_T23 x0 x11).f0).size + 1 ≤ 9223372036854775807 then (if 0 ≤ (wrap64 (x1 + x7)) then (if (wrap64 (x1 + x7)) < ((((rd_T23 x0 x11).f0) ++ (⟨#[0]⟩ : ByteArray)).size : Int) then (tendrilref1_Shape.l1 k x0 x1 x7 x10 x11 (bt (((rd_T23 x0 x11).f0) ++ (⟨#[0]⟩ : ByteArray)) (wrap64 (x1 + x7))) x11) else (none)) else (none)) else (none)) else (none)) else (if x10.size + 1 ≤ 9223372036854775807 then (some (x10 ++ (⟨#[41]⟩ : ByteArray))) else (none))
def tendrilref1_Shape.l1 : Nat → List (S23) → Int → Int → ByteArray → Int → Int → Int → Option (ByteArray)
 | 0, _, _, _, _, _, _, _ => none
 | k + 1, x0, x1, x7, x10, x11, x12, x13 => if x13 < (x0.length : Int) then (if 0 ≤ x13 then (if ((rd_T23 x0 x13).f0).size + 1 ≤ 9223372036854775807 then (if 0 ≤ (wrap64 (x1 + x7)) then (if (wrap64 (x1 + x7)) < ((((rd_T23 x0 x13).f0) ++ (⟨#[0]⟩ : ByteArray)).size : Int) then (if (bt (((rd_T23 x0 x13).f0) ++ (⟨#[0]⟩ : ByteArray)) (wrap64 (x1 + x7))) = x12 then (tendrilref1_Shape.l1 k x0 x1 x7 x10 x11 x12 (wrap64 (x13 + 1))) else (if x10.size + 1 ≤ 9223372036854775807 then ((some (([x12] : List Int) : List Int)).bind fun y175 => (if (x10 ++ (⟨#[91]⟩ : ByteArray)).size + (strOfNums y175).size ≤ 9223372036854775807 then (if 0 ≤ x11 then (if x11 ≤ x13 then (if x13 ≤ (x0.length : Int) then ((tendrilref1_Shape.f k ((x0.take (x13 : Int).toNat).drop (x11 : Int).toNat) (wrap64 ((wrap64 (x1 + x7)) + 1)) false).bind fun t182 => (if ((x10 ++ (⟨#[91]⟩ : ByteArray)) ++ (strOfNums y175)).size + t182.size ≤ 9223372036854775807 then (if (((x10 ++ (⟨#[91]⟩ : ByteArray)) ++ (strOfNums y175)) ++ t182).size + 1 ≤ 9223372036854775807 then (tendrilref1_Shape.l0 k x0 x1 x7 ((((x10 ++ (⟨#[91]⟩ : ByteArray)) ++ (strOfNums y175)) ++ t182) ++ (⟨#[93]⟩ : ByteArray)) x13) else (none)) else (none))) else (none)) else (none)) else (none)) else (none))) else (none))) else (none)) else (none)) else (none)) else (none)) else (if x10.size + 1 ≤ 9223372036854775807 then ((some (([x12] : List Int) : List Int)).bind fun y183 => (if (x10 ++ (⟨#[91]⟩ : ByteArray)).size + (strOfNums y183).size ≤ 9223372036854775807 then (if 0 ≤ x11 then (if x11 ≤ x13 then (if x13 ≤ (x0.length : Int) then ((tendrilref1_Shape.f k ((x0.take (x13 : Int).toNat).drop (x11 : Int).toNat) (wrap64 ((wrap64 (x1 + x7)) + 1)) false).bind fun t190 => (if ((x10 ++ (⟨#[91]⟩ : ByteArray)) ++ (strOfNums y183)).size + t190.size ≤ 9223372036854775807 then (if (((x10 ++ (⟨#[91]⟩ : ByteArray)) ++ (strOfNums y183)) ++ t190).size + 1 ≤ 9223372036854775807 then (tendrilref1_Shape.l0 k x0 x1 x7 ((((x10 ++ (⟨#[91]⟩ : ByteArray)) ++ (strOfNums y183)) ++ t190) ++ (⟨#[93]⟩ : ByteArray)) x13) else (none)) else (none))) else (none)) else (none)) else (none)) else (none))) else (none))
def tendrilref1_Shape.f : Nat → List (S23) → Int → Bool → Option (ByteArray)
 | 0, _, _, _ => none
 | k + 1, l0, a1, a2 => if (l0.length : Int) = 1 then (tendrilref1_Shape.j0 k l0 a1 a2 (!a2)) else (tendrilref1_Shape.j0 k l0 a1 a2 false)
end
def tendrilref1_Shape.T2 : Bool × List (List Nat × List Nat) := (true, [([], []), ([0], [0]), ([1], [1]), ([2], [2]), ([3], [3]), ([4], [4]), ([5], [5]), ([6], [6]), ([], []), ([8], [8]), ([9], [9]), ([10], [10]), ([7, 11], [7, 11]), ([12], [12]), ([13, 5, 0, 1, 2, 3, 4, 5, 6, 7, 8, 9, 10, 11, 12, 13], [13])])
def tendrilref1_Shape.B2 : List Nat := [0, 1, 3, 7, 15, 31, 63, 127, 0, 256, 768, 1792, 4095, 8191, 16383]
theorem tendrilref1_Shape.tab2 : rtab .any (opsOf Tryd.f16 2) = tendrilref1_Shape.T2 := by kernel_rfl
theorem tendrilref1_Shape.bits2 : waitsOk tendrilref1_Shape.T2.2 tendrilref1_Shape.B2 = true := by kernel_rfl
def tendrilref1_Shape.T5 : Bool × List (List Nat × List Nat) := (true, [([], []), ([0], [0]), ([1], [1]), ([2], [2]), ([3], [3]), ([], []), ([], []), ([6], [6]), ([7], [7]), ([5, 8], [5, 8]), ([9], [9]), ([10], [10]), ([11], [11]), ([4, 0, 1, 2, 3, 4], [4]), ([12, 13, 0, 1, 2, 3, 4, 5, 6, 7, 8, 9, 10, 11, 12, 13], [12])])
def tendrilref1_Shape.B5 : List Nat := [0, 1, 3, 7, 15, 0, 0, 64, 192, 480, 992, 2016, 4064, 31, 16383]
theorem tendrilref1_Shape.tab5 : rtab .any (opsOf Tryd.f16 5) = tendrilref1_Shape.T5 := by kernel_rfl
theorem tendrilref1_Shape.bits5 : waitsOk tendrilref1_Shape.T5.2 tendrilref1_Shape.B5 = true := by kernel_rfl
def tendrilref1_Shape.T6 : Bool × List (List Nat × List Nat) := (true, [([], []), ([], []), ([0, 1], [0, 1]), ([], []), ([], []), ([3, 4], [3, 4]), ([2, 5], [2, 5]), ([6, 6, 0, 1, 2, 3, 4, 5, 6], [6])])
def tendrilref1_Shape.B6 : List Nat := [0, 0, 3, 0, 0, 24, 63, 127]
theorem tendrilref1_Shape.tab6 : rtab .any (opsOf Tryd.f16 6) = tendrilref1_Shape.T6 := by kernel_rfl
theorem tendrilref1_Shape.bits6 : waitsOk tendrilref1_Shape.T6.2 tendrilref1_Shape.B6 = true := by kernel_rfl
def tendrilref1_Shape.T16 : Bool × List (List Nat × List Nat) := (true, [([], []), ([0], [0]), ([], []), ([2], [2]), ([3], [3]), ([1, 4], [1, 4]), ([], []), ([], []), ([], []), ([6, 7, 8], [6, 7, 8]), ([], []), ([], []), ([10, 11], [10, 11]), ([12], [12]), ([9, 13], [9, 13]), ([5, 14], [5, 14]), ([15], [15]), ([16, 14, 0, 1, 2, 3, 4, 5, 6, 7, 8, 9, 10, 11, 12, 13, 14, 15, 16], [0, 16])])
def tendrilref1_Shape.B16 : List Nat := [0, 1, 0, 4, 12, 31, 0, 0, 0, 448, 0, 0, 3072, 7168, 16320, 32767, 65535, 131071]
theorem tendrilref1_Shape.tab16 : rtab .any (opsOf Tryd.f16 16) = tendrilref1_Shape.T16 := by kernel_rfl
theorem tendrilref1_Shape.bits16 : waitsOk tendrilref1_Shape.T16.2 tendrilref1_Shape.B16 = true := by kernel_rfl
set_option maxHeartbeats 8000000 in
set_option maxRecDepth 100000 in
theorem tendrilref1_Shape.calls (k : Nat) : ∀ (A0 : Option Addr) (c0 : Nat) (l0 : List (S23)) (a1 : Int) (a2 : Bool) (r : ByteArray) (w : World) (hr0 : Kd.C k23 w A0 l0.length l0) (hc0 : l0.length ≤ c0) (h : tendrilref1_Shape.f k l0 a1 a2 = some r),
  Calls Tryd.prog 16 #[.slice A0 l0.length c0, .int .i64 a1, .bool a2] w fun e w' => e = .returned (.string r) ∧ Below w.heap.size w w' := by
 induction k using Nat.strongRecOn with
 | _ k ih =>
 intro A0 c0 l0 a1 a2 r w hr0 hc0 h
 cases k with
 | zero => exact absurd h (by simp [tendrilref1_Shape.f])
 | succ k =>
 simp only [tendrilref1_Shape.f] at h
 have HR0 := Aside0.mk hr0
 have HC0 := Aside0.mk hc0
 clear hr0 hc0
 have HB := Aside0.mk (Below.refl w.heap.size w)
 have H : (if (l0.length : Int) = 1 then (tendrilref1_Shape.j0 k l0 a1 a2 (!a2)) else (tendrilref1_Shape.j0 k l0 a1 a2 false)) = some r := h
 clear h
 have HC4 := Aside0.mk H
 clear H
 go_enter Tryd.func16, Tryd.ntmps16
 go_upto_region 1 with (fail)
 go_cut [20] (fun v20 wc => ∃ (kq : Nat) (x20_3 : Bool), v20 = .bool x20_3 ∧ Aside0 (tendrilref1_Shape.j0 kq l0 a1 a2 x20_3 = some r) ∧ Aside0 (kq ≤ k) ∧ Aside0 (Below w.heap.size w wc))
 case first =>
  have H := HC4.out
  clear HC4
  by_cases c5 : (l0.length : Int) = 1
  ·rw [if_pos c5] at H
   have c5b0 : ((l0.length : Int) == 1) = true := beq_iff_eq.mpr c5
   have c5b1 : ((l0.length : Int) != 1) = false := bne_eq_false_iff_eq.mpr c5
   clear c5
   (first | rw [c5b0] | (simp only [i64_w, i32_w]; rw [c5b0]) | skip)
   have H' := Aside0.mk H
   clear H
   go_wp2
   go_meet
   case rel => exact ⟨_, (!a2), (by first | rfl | (simp; done) | (simp [*]; done)), H', ⟨by first | omega | exact Nat.le_refl _⟩, ⟨by repeat (first | (with_reducible first | exact HB.out | apply below_alloc | apply pw_below_drewN | apply below_drew1) | exact HB.out)⟩⟩
  ·rw [if_neg c5] at H
   have c5b0 : ((l0.length : Int) == 1) = false := beq_eq_false_iff_ne.mpr c5
   have c5b1 : ((l0.length : Int) != 1) = true := bne_iff_ne.mpr c5
   (first | rw [c5b0] | (simp only [i64_w, i32_w]; rw [c5b0]) | skip)
   have H' := Aside0.mk H
   clear H
   go_wp2
   go_meet
   case rel => exact ⟨_, (false), (by first | rfl | (simp; done) | (simp [*]; done)), H', ⟨by first | omega | exact Nat.le_refl _⟩, ⟨by repeat (first | (with_reducible first | exact HB.out | apply below_alloc | apply pw_below_drewN | apply below_drew1) | exact HB.out)⟩⟩
 case rest =>
  clear HC4
  try clear c1
  try clear p2
  try clear c5
  try clear c5b0
  try clear c5b1
  obtain ⟨kq, x20_3, rfl, HA, HJ3, HB⟩ := hcut
  cases kq with
  | zero => exact absurd HA.out (by simp [tendrilref1_Shape.j0])
  | succ kj3 =>
   have H := HA.out
   clear HA
   simp only [tendrilref1_Shape.j0] at H
   by_cases c6 : x20_3 = true
   ·subst c6
    have H1 : (if 0 < (l0.length : Int) then ((tendrilref1_digits.f kj3 (((rd_T23 l0 0).f0).size : Int)).bind fun t166 => (if 1 + t166.size ≤ 9223372036854775807 then (if ((⟨#[60]⟩ : ByteArray) ++ t166).size + 1 ≤ 9223372036854775807 then (if (((⟨#[60]⟩ : ByteArray) ++ t166) ++ (⟨#[58]⟩ : ByteArray)).size + ((rd_T23 l0 0).f0).size ≤ 9223372036854775807 then (if ((((⟨#[60]⟩ : ByteArray) ++ t166) ++ (⟨#[58]⟩ : ByteArray)) ++ ((rd_T23 l0 0).f0)).size + 1 ≤ 9223372036854775807 then (some (((((⟨#[60]⟩ : ByteArray) ++ t166) ++ (⟨#[58]⟩ : ByteArray)) ++ ((rd_T23 l0 0).f0)) ++ (⟨#[62]⟩ : ByteArray))) else (none)) else (none)) else (none)) else (none))) else (none)) = some r := by rw [if_pos rfl] at H; exact H
    clear H
    have H := H1
    clear H1
    by_cases c7 : 0 < (l0.length : Int)
    ·rw [if_pos c7] at H
     have c7b0 : decide (0 < (l0.length : Int)) = true := decide_eq_true c7
     have c7b1 : decide (0 < l0.length) = true := decide_eq_true (by omega)
     clear c7
     replace H := Option.bind_eq_some_iff.mp H
     obtain ⟨t166, A80, H⟩ := H
     replace H : (if 1 + t166.size ≤ 9223372036854775807 then (if ((⟨#[60]⟩ : ByteArray) ++ t166).size + 1 ≤ 9223372036854775807 then (if (((⟨#[60]⟩ : ByteArray) ++ t166) ++ (⟨#[58]⟩ : ByteArray)).size + ((rd_T23 l0 0).f0).size ≤ 9223372036854775807 then (if ((((⟨#[60]⟩ : ByteArray) ++ t166) ++ (⟨#[58]⟩ : ByteArray)) ++ ((rd_T23 l0 0).f0)).size + 1 ≤ 9223372036854775807 then (some (((((⟨#[60]⟩ : ByteArray) ++ t166) ++ (⟨#[58]⟩ : ByteArray)) ++ ((rd_T23 l0 0).f0)) ++ (⟨#[62]⟩ : ByteArray))) else (none)) else (none)) else (none)) else (none)) = some r := H
     have A8 := Aside0.mk A80
     clear A80
     by_cases c9 : 1 + t166.size ≤ 9223372036854775807
     ·rw [if_pos c9] at H
      have c9b0 := eq_true c9
      have c9b1 : decide (1 + t166.size ≤ 9223372036854775807) = true := decide_eq_true c9
      try have c9b2 : (9223372036854775807 < 1 + t166.size) = False := eq_false (Nat.not_lt.2 c9)
      by_cases c10 : ((⟨#[60]⟩ : ByteArray) ++ t166).size + 1 ≤ 9223372036854775807
      ·rw [if_pos c10] at H
       (try (have c10b9 := c10; simp only [ByteArray.size_append, size1_8, Int.natCast_add, Int.cast_ofNat_Int] at c10b9; replace c10b9 := eq_true c10b9))
       (try (have c10b7 := c10; simp only [ByteArray.size_append, size1_8, Int.natCast_add, Int.cast_ofNat_Int] at c10b7; replace c10b7 := decide_eq_true c10b7))
       (try (have c10b8 := (Nat.not_lt.2 c10 : ¬ _); simp only [ByteArray.size_append, size1_8, Int.natCast_add, Int.cast_ofNat_Int] at c10b8; replace c10b8 := eq_false c10b8))
       have c10b0 := eq_true c10
       have c10b1 : decide (((⟨#[60]⟩ : ByteArray) ++ t166).size + 1 ≤ 9223372036854775807) = true := decide_eq_true c10
       try have c10b2 : (9223372036854775807 < ((⟨#[60]⟩ : ByteArray) ++ t166).size + 1) = False := eq_false (Nat.not_lt.2 c10)
       by_cases c11 : (((⟨#[60]⟩ : ByteArray) ++ t166) ++ (⟨#[58]⟩ : ByteArray)).size + ((rd_T23 l0 0).f0).size ≤ 9223372036854775807
       ·rw [if_pos c11] at H
        (try (have c11b9 := c11; simp only [ByteArray.size_append, size1_8, Int.natCast_add, Int.cast_ofNat_Int] at c11b9; replace c11b9 := eq_true c11b9))
        (try (have c11b7 := c11; simp only [ByteArray.size_append, size1_8, Int.natCast_add, Int.cast_ofNat_Int] at c11b7; replace c11b7 := decide_eq_true c11b7))
        (try (have c11b8 := (Nat.not_lt.2 c11 : ¬ _); simp only [ByteArray.size_append, size1_8, Int.natCast_add, Int.cast_ofNat_Int] at c11b8; replace c11b8 := eq_false c11b8))
        have c11b0 := eq_true c11
        have c11b1 : decide ((((⟨#[60]⟩ : ByteArray) ++ t166) ++ (⟨#[58]⟩ : ByteArray)).size + ((rd_T23 l0 0).f0).size ≤ 9223372036854775807) = true := decide_eq_true c11
        try have c11b2 : (9223372036854775807 < (((⟨#[60]⟩ : ByteArray) ++ t166) ++ (⟨#[58]⟩ : ByteArray)).size + ((rd_T23 l0 0).f0).size) = False := eq_false (Nat.not_lt.2 c11)
        by_cases c12 : ((((⟨#[60]⟩ : ByteArray) ++ t166) ++ (⟨#[58]⟩ : ByteArray)) ++ ((rd_T23 l0 0).f0)).size + 1 ≤ 9223372036854775807
        ·rw [if_pos c12] at H
         (try (have c12b9 := c12; simp only [ByteArray.size_append, size1_8, Int.natCast_add, Int.cast_ofNat_Int] at c12b9; replace c12b9 := eq_true c12b9))
         (try (have c12b7 := c12; simp only [ByteArray.size_append, size1_8, Int.natCast_add, Int.cast_ofNat_Int] at c12b7; replace c12b7 := decide_eq_true c12b7))
         (try (have c12b8 := (Nat.not_lt.2 c12 : ¬ _); simp only [ByteArray.size_append, size1_8, Int.natCast_add, Int.cast_ofNat_Int] at c12b8; replace c12b8 := eq_false c12b8))
         have c12b0 := eq_true c12
         have c12b1 : decide (((((⟨#[60]⟩ : ByteArray) ++ t166) ++ (⟨#[58]⟩ : ByteArray)) ++ ((rd_T23 l0 0).f0)).size + 1 ≤ 9223372036854775807) = true := decide_eq_true c12
         try have c12b2 : (9223372036854775807 < ((((⟨#[60]⟩ : ByteArray) ++ t166) ++ (⟨#[58]⟩ : ByteArray)) ++ ((rd_T23 l0 0).f0)).size + 1) = False := eq_false (Nat.not_lt.2 c12)
         obtain rfl := Option.some.inj H
         try go_wp2
         have n0_ := Aside0.mk (below_drew1 HB.out)
         clear HB
         have HB := n0_
         clear n0_
         have p165 : 0 ≤ (0 : Int) := (by omega)
         have q165 : 0 < (l0.length : Int) := of_decide_eq_true (by first | (with_reducible assumption) | assumption)
         obtain ⟨ad165, e165, hx165_0, hx165_1⟩ := at_T23 HR0.out 0 p165 q165
         have hw165_1 := hx165_1
         (try rw [show ((0 : Int)).toNat = 0 from rfl] at hw165_1)
         (try rw [show 0 * 2 = 0 from rfl] at hw165_1)
         (try rw [Addr.add_zero'] at hw165_1)
         have hw165_0 := hx165_0
         (try rw [show ((0 : Int)).toNat = 0 from rfl] at hw165_0)
         (try rw [show 0 * 2 = 0 from rfl] at hw165_0)
         (try rw [Addr.add_zero'] at hw165_0)
         cases e165
         have qi165 : (0 < l0.length) = True := eq_true (by omega)
         (try rw [show ((0 : Int)).toNat = 0 from rfl] at hx165_0)
         (try rw [show 0 * 2 = 0 from rfl] at hx165_0)
         (try rw [Addr.add_zero'] at hx165_0)
         (try rw [show ((0 : Int)).toNat = 0 from rfl] at hx165_1)
         (try rw [show 0 * 2 = 0 from rfl] at hx165_1)
         (try rw [Addr.add_zero'] at hx165_1)
         replace hx165_0 := (HB.out.cell (World.block_lt_of_cell? w _ hx165_0)).trans hx165_0
         replace hx165_1 := (HB.out.cell (World.block_lt_of_cell? w _ hx165_1)).trans hx165_1
         replace p165 := eq_true p165
         replace q165 := eq_true q165
         have p167 : 0 ≤ (0 : Int) := (by omega)
         have q167 : 0 < (l0.length : Int) := of_decide_eq_true (by first | (with_reducible assumption) | assumption)
         obtain ⟨ad167, e167, hx167_0, hx167_1⟩ := at_T23 HR0.out 0 p167 q167
         have hw167_1 := hx167_1
         (try rw [show ((0 : Int)).toNat = 0 from rfl] at hw167_1)
         (try rw [show 0 * 2 = 0 from rfl] at hw167_1)
         (try rw [Addr.add_zero'] at hw167_1)
         have hw167_0 := hx167_0
         (try rw [show ((0 : Int)).toNat = 0 from rfl] at hw167_0)
         (try rw [show 0 * 2 = 0 from rfl] at hw167_0)
         (try rw [Addr.add_zero'] at hw167_0)
         obtain rfl : ad165 = ad167 := (by injection e167)
         have qi167 : (0 < l0.length) = True := eq_true (by omega)
         (try rw [show ((0 : Int)).toNat = 0 from rfl] at hx167_0)
         (try rw [show 0 * 2 = 0 from rfl] at hx167_0)
         (try rw [Addr.add_zero'] at hx167_0)
         (try rw [show ((0 : Int)).toNat = 0 from rfl] at hx167_1)
         (try rw [show 0 * 2 = 0 from rfl] at hx167_1)
         (try rw [Addr.add_zero'] at hx167_1)
         replace hx167_0 := (HB.out.cell (World.block_lt_of_cell? w _ hx167_0)).trans hx167_0
         replace hx167_1 := (HB.out.cell (World.block_lt_of_cell? w _ hx167_1)).trans hx167_1
         replace p167 := eq_true p167
         replace q167 := eq_true q167
         refine start_ (n := 15) (S := fun w' => w'.cell? ad165 = some (.string ((rd_T23 l0 0).f0)) ∧ w'.cell? ⟨ad165.block, ad165.off + 1, none⟩ = some (.int .i64 ((rd_T23 l0 0).f1)) ∧ w'.cell? ad165 = some (.string ((rd_T23 l0 0).f0)) ∧ w'.cell? ⟨ad165.block, ad165.off + 1, none⟩ = some (.int .i64 ((rd_T23 l0 0).f1))) (ds := []) #[false, false, false, false, false, false, false, false, false, false, false, false, false, false, false] (by kernel_rfl) rfl rfl ⟨((HB.out.cell (World.block_lt_of_cell? w _ hw165_0)).trans hw165_0), ((HB.out.cell (World.block_lt_of_cell? w _ hw165_1)).trans hw165_1), ((HB.out.cell (World.block_lt_of_cell? w _ hw167_0)).trans hw167_0), ((HB.out.cell (World.block_lt_of_cell? w _ hw167_1)).trans hw167_1)⟩ (fun hHeld => ?_); refine with_tabW tendrilref1_Shape.tab2 tendrilref1_Shape.bits2 (fun HT_ HW_ => ?_)
         generalize wc.drew = w13 at HB hx165_0 hx165_1 hx167_0 hx167_1 hHeld ⊢
         refine pure_ (i := 0) (N := some 21) (v := ?_) (a' := ?_) #[true, false, false, false, false, false, false, false, false, false, false, false, false, false, false] rfl rfl (any_of HT_.out (by kernel_rfl)) (fun _ _ _ h => h) (Or.inl ⟨by rfl, ?_⟩) ?_ ?_
         rotate_left
         ·intro w'
          go_simp
          with_reducible rfl
         rotate_left
         ·simp only [Act.put, List.setIfInBounds_toArray, List.set_cons_zero, List.set_cons_succ, i64_w, i32_w]
          rfl
         refine pure_ (i := 1) (N := some 22) (v := ?_) (a' := ?_) #[true, true, false, false, false, false, false, false, false, false, false, false, false, false, false] rfl rfl (any_of HT_.out (by kernel_rfl)) (fun _ _ _ h => h) (Or.inl ⟨by rfl, ?_⟩) ?_ ?_
         rotate_left
         ·intro w'
          go_simp
          with_reducible rfl
         rotate_left
         ·simp only [Act.put, List.setIfInBounds_toArray, List.set_cons_zero, List.set_cons_succ, i64_w, i32_w]
          rfl
         refine pure_ (i := 2) (N := some 23) (v := ?_) (a' := ?_) #[true, true, true, false, false, false, false, false, false, false, false, false, false, false, false] rfl rfl (any_of HT_.out (by kernel_rfl)) (fun _ _ _ h => h) (Or.inl ⟨by rfl, ?_⟩) ?_ ?_
         rotate_left
         ·intro w'
          go_simp
          with_reducible rfl
         rotate_left
         ·simp only [Act.put, List.setIfInBounds_toArray, List.set_cons_zero, List.set_cons_succ, i64_w, i32_w]
          rfl
         refine pure_ (i := 8) (N := some 29) (v := ?_) (a' := ?_) #[true, true, true, false, false, false, false, false, true, false, false, false, false, false, false] rfl rfl (any_of HT_.out (by kernel_rfl)) (fun _ _ _ h => h) (Or.inl ⟨by rfl, ?_⟩) ?_ ?_
         rotate_left
         ·intro w'
          go_simp
          with_reducible rfl
         rotate_left
         ·simp only [Act.put, List.setIfInBounds_toArray, List.set_cons_zero, List.set_cons_succ, i64_w, i32_w]
          rfl
         refine pure_ (i := 9) (N := some 30) (v := ?_) (a' := ?_) #[true, true, true, false, false, false, false, false, true, true, false, false, false, false, false] rfl rfl (any_of HT_.out (by kernel_rfl)) (fun _ _ _ h => h) (Or.inl ⟨by rfl, ?_⟩) ?_ ?_
         rotate_left
         ·intro w'
          go_simp
          with_reducible rfl
         rotate_left
         ·simp only [Act.put, List.setIfInBounds_toArray, List.set_cons_zero, List.set_cons_succ, i64_w, i32_w]
          rfl
         refine pure_ (i := 10) (N := some 31) (v := ?_) (a' := ?_) #[true, true, true, false, false, false, false, false, true, true, true, false, false, false, false] rfl rfl (any_of HT_.out (by kernel_rfl)) (fun _ _ _ h => h) (Or.inl ⟨by rfl, ?_⟩) ?_ ?_
         rotate_left
         ·intro w'
          go_simp
          with_reducible rfl
         rotate_left
         ·simp only [Act.put, List.setIfInBounds_toArray, List.set_cons_zero, List.set_cons_succ, i64_w, i32_w]
          rfl
         refine take_ (i := 3) (N := some 24) (v := ?_) (a' := ?_) #[true, true, true, true, false, false, false, false, true, true, true, false, false, false, false] rfl rfl (take_ofW HT_.out HW_.out (by kernel_rfl)) (fun _ _ _ h => h) (Or.inl ⟨by rfl, ?_⟩) hHeld ?_ ?_
         rotate_left
         ·rintro w' ⟨s0, s1, s2, s3⟩
          go_simp
          with_reducible rfl
         rotate_left
         ·simp only [Act.put, List.setIfInBounds_toArray, List.set_cons_zero, List.set_cons_succ, i64_w, i32_w]
          rfl
         refine pure_ (i := 4) (N := some 25) (v := ?_) (a' := ?_) #[true, true, true, true, true, false, false, false, true, true, true, false, false, false, false] rfl rfl (any_of HT_.out (by kernel_rfl)) (fun _ _ _ h => h) (Or.inl ⟨by rfl, ?_⟩) ?_ ?_
         rotate_left
         ·intro w'
          go_simp
          with_reducible rfl
         rotate_left
         ·simp only [Act.put, List.setIfInBounds_toArray, List.set_cons_zero, List.set_cons_succ, i64_w, i32_w]
          rfl
         refine take_ (i := 11) (N := some 32) (v := ?_) (a' := ?_) #[true, true, true, true, true, false, false, false, true, true, true, true, false, false, false] rfl rfl (take_ofW HT_.out HW_.out (by kernel_rfl)) (fun _ _ _ h => h) (Or.inl ⟨by rfl, ?_⟩) hHeld ?_ ?_
         rotate_left
         ·rintro w' ⟨s0, s1, s2, s3⟩
          go_simp
          with_reducible rfl
         rotate_left
         ·simp only [Act.put, List.setIfInBounds_toArray, List.set_cons_zero, List.set_cons_succ, i64_w, i32_w]
          rfl
         refine one_ (i := 5) (N := some 26) #[true, true, true, true, true, true, false, false, true, true, true, true, false, false, false] rfl rfl (one_of HT_.out (by kernel_rfl)) (by decide) (fun K hK => ?_)
         refine goes_ Tryd.func26 (by kernel_rfl) rfl #[.int .i64 (((rd_T23 l0 0).f0).size : Int)] (by rfl) rfl rfl (by (try simp only [List.map_toArray, List.map_cons, List.map_nil]); first | done | rfl | (simp only [List.length_drop, List.length_take]; rfl) | (simp only [hji45]; done) | (simp only [hji45]; rfl)) ?_
         with_reducible refine (tendrilref1_digits.calls kj3 (((rd_T23 l0 0).f0).size : Int) t166 _ A8.out).mono ?_
         rintro e w14 ⟨rfl, hb⟩
         refine ⟨_, rfl, ?_⟩
         have n0_ := Aside0.mk (below_step (by repeat (first | (with_reducible first | exact HB.out | apply below_alloc | apply pw_below_drewN | apply below_drew1) | exact HB.out)) hb)
         clear HB
         have HB := n0_
         clear n0_
         (try clear hb)
         (try clear hb2)
         (try clear hk)
         (try clear hi)
         refine hK.out _ _ ⟨((HB.out.cell (World.block_lt_of_cell? w _ hw165_0)).trans hw165_0), ((HB.out.cell (World.block_lt_of_cell? w _ hw165_1)).trans hw165_1), ((HB.out.cell (World.block_lt_of_cell? w _ hw167_0)).trans hw167_0), ((HB.out.cell (World.block_lt_of_cell? w _ hw167_1)).trans hw167_1)⟩ (fun hHeld => ?_)
         clear hK K
         refine norm_ (a' := ?_) ?_ ?_
         rotate_left
         ·show Act.put _ (some 26) _ = _
          simp only [Act.put, List.setIfInBounds_toArray, List.set_cons_zero, List.set_cons_succ, i64_w, i32_w]
          rfl
         refine pure_ (i := 6) (N := some 27) (v := ?_) (a' := ?_) #[true, true, true, true, true, true, true, false, true, true, true, true, false, false, false] rfl rfl (any_of HT_.out (by kernel_rfl)) (fun _ _ _ h => h) (Or.inl ⟨by rfl, ?_⟩) ?_ ?_
         rotate_left
         ·intro w'
          go_simp
          with_reducible rfl
         rotate_left
         ·simp only [Act.put, List.setIfInBounds_toArray, List.set_cons_zero, List.set_cons_succ, i64_w, i32_w]
          rfl
         refine pure_ (i := 7) (N := some 28) (v := ?_) (a' := ?_) #[true, true, true, true, true, true, true, true, true, true, true, true, false, false, false] rfl rfl (any_of HT_.out (by kernel_rfl)) (fun _ _ _ h => h) (Or.inl ⟨by rfl, ?_⟩) ?_ ?_
         rotate_left
         ·intro w'
          go_simp
          with_reducible rfl
         rotate_left
         ·simp only [Act.put, List.setIfInBounds_toArray, List.set_cons_zero, List.set_cons_succ, i64_w, i32_w]
          rfl
         refine pure_ (i := 12) (N := some 33) (v := ?_) (a' := ?_) #[true, true, true, true, true, true, true, true, true, true, true, true, true, false, false] rfl rfl (any_of HT_.out (by kernel_rfl)) (fun _ _ _ h => h) (Or.inl ⟨by rfl, ?_⟩) ?_ ?_
         rotate_left
         ·intro w'
          go_simp
          with_reducible rfl
         rotate_left
         ·simp only [Act.put, List.setIfInBounds_toArray, List.set_cons_zero, List.set_cons_succ, i64_w, i32_w]
          rfl
         refine pure_ (i := 13) (N := some 34) (v := ?_) (a' := ?_) #[true, true, true, true, true, true, true, true, true, true, true, true, true, true, false] rfl rfl (any_of HT_.out (by kernel_rfl)) (fun _ _ _ h => h) (Or.inl ⟨by rfl, ?_⟩) ?_ ?_
         rotate_left
         ·intro w'
          go_simp
          with_reducible rfl
         rotate_left
         ·simp only [Act.put, List.setIfInBounds_toArray, List.set_cons_zero, List.set_cons_succ, i64_w, i32_w]
          rfl
         refine pure_ (i := 14) (N := some 6) (v := ?_) (a' := ?_) #[true, true, true, true, true, true, true, true, true, true, true, true, true, true, true] rfl rfl (any_of HT_.out (by kernel_rfl)) (fun _ _ _ h => h) (Or.inl ⟨by rfl, ?_⟩) ?_ ?_
         rotate_left
         ·intro w'
          go_simp
          with_reducible rfl
         rotate_left
         ·simp only [Act.put, List.setIfInBounds_toArray, List.set_cons_zero, List.set_cons_succ, i64_w, i32_w]
          rfl
         refine done_ (done_of HT_.out (by kernel_rfl)) ?_
         try go_wp2
         go_ret
         exact ⟨by first | rfl | (simp [errW_none, errW_some] <;> rfl) | (simp [*, errW_none, errW_some] <;> rfl), by repeat (first | (with_reducible first | exact HB.out | apply below_alloc | apply pw_below_drewN | apply below_drew1) | exact HB.out)⟩
        ·rw [if_neg c12] at H
         exact absurd H (by simp)
       ·rw [if_neg c11] at H
        exact absurd H (by simp)
      ·rw [if_neg c10] at H
       exact absurd H (by simp)
     ·rw [if_neg c9] at H
      exact absurd H (by simp)
    ·rw [if_neg c7] at H
     exact absurd H (by simp)
   ·replace c6 := Bool.eq_false_iff.mpr c6
    subst c6
    have H1 : (if a2 = true then (tendrilref1_Shape.j1 kj3 l0 a1 0) else (if 0 < (l0.length : Int) then (if ((rd_T23 l0 0).f0).size + 1 ≤ 9223372036854775807 then (if 0 ≤ (wrap64 ((l0.length : Int) - 1)) then (if (wrap64 ((l0.length : Int) - 1)) < (l0.length : Int) then (if ((rd_T23 l0 (wrap64 ((l0.length : Int) - 1))).f0).size + 1 ≤ 9223372036854775807 then (if 0 ≤ a1 then (if a1 ≤ ((((rd_T23 l0 0).f0) ++ (⟨#[0]⟩ : ByteArray)).size : Int) then (if a1 ≤ ((((rd_T23 l0 (wrap64 ((l0.length : Int) - 1))).f0) ++ (⟨#[0]⟩ : ByteArray)).size : Int) then ((tendrilref1_Common.f kj3 ((((rd_T23 l0 0).f0) ++ (⟨#[0]⟩ : ByteArray)).extract (a1 : Int).toNat (((rd_T23 l0 0).f0) ++ (⟨#[0]⟩ : ByteArray)).size) ((((rd_T23 l0 (wrap64 ((l0.length : Int) - 1))).f0) ++ (⟨#[0]⟩ : ByteArray)).extract (a1 : Int).toNat (((rd_T23 l0 (wrap64 ((l0.length : Int) - 1))).f0) ++ (⟨#[0]⟩ : ByteArray)).size)).bind fun t170 => (tendrilref1_Shape.j1 kj3 l0 a1 t170)) else (none)) else (none)) else (none)) else (none)) else (none)) else (none)) else (none)) else (none))) = some r := by rw [if_neg (show ¬ (false = true) by decide)] at H; exact H
    clear H
    have H := H1
    clear H1
    have HC15 := Aside0.mk H
    clear H
    go_upto_if 36 with (fail)
    go_cut [7] (fun v7 wc => ∃ (kq : Nat) (x7_14 : Int), v7 = .int .i64 x7_14 ∧ Aside0 (tendrilref1_Shape.j1 kq l0 a1 x7_14 = some r) ∧ Aside0 (kq ≤ kj3) ∧ Aside0 (Below w.heap.size w wc))
    case first =>
     have H := HC15.out
     clear HC15
     by_cases c16 : a2 = true
     ·subst c16
      have H1 : (tendrilref1_Shape.j1 kj3 l0 a1 0) = some r := by rw [if_pos rfl] at H; exact H
      clear H
      have H := H1
      clear H1
      have H' := Aside0.mk H
      clear H
      go_wp2
      go_meet
      case rel => exact ⟨_, (0), (by first | rfl | (simp; done) | (simp [*]; done)), H', ⟨by have := HJ3.out; first | omega | exact Nat.le_refl _⟩, ⟨by repeat (first | (with_reducible first | exact HB.out | apply below_alloc | apply pw_below_drewN | apply below_drew1) | exact HB.out)⟩⟩
     ·replace c16 := Bool.eq_false_iff.mpr c16
      subst c16
      have H1 : (if 0 < (l0.length : Int) then (if ((rd_T23 l0 0).f0).size + 1 ≤ 9223372036854775807 then (if 0 ≤ (wrap64 ((l0.length : Int) - 1)) then (if (wrap64 ((l0.length : Int) - 1)) < (l0.length : Int) then (if ((rd_T23 l0 (wrap64 ((l0.length : Int) - 1))).f0).size + 1 ≤ 9223372036854775807 then (if 0 ≤ a1 then (if a1 ≤ ((((rd_T23 l0 0).f0) ++ (⟨#[0]⟩ : ByteArray)).size : Int) then (if a1 ≤ ((((rd_T23 l0 (wrap64 ((l0.length : Int) - 1))).f0) ++ (⟨#[0]⟩ : ByteArray)).size : Int) then ((tendrilref1_Common.f kj3 ((((rd_T23 l0 0).f0) ++ (⟨#[0]⟩ : ByteArray)).extract (a1 : Int).toNat (((rd_T23 l0 0).f0) ++ (⟨#[0]⟩ : ByteArray)).size) ((((rd_T23 l0 (wrap64 ((l0.length : Int) - 1))).f0) ++ (⟨#[0]⟩ : ByteArray)).extract (a1 : Int).toNat (((rd_T23 l0 (wrap64 ((l0.length : Int) - 1))).f0) ++ (⟨#[0]⟩ : ByteArray)).size)).bind fun t170 => (tendrilref1_Shape.j1 kj3 l0 a1 t170)) else (none)) else (none)) else (none)) else (none)) else (none)) else (none)) else (none)) else (none)) = some r := by rw [if_neg (show ¬ (false = true) by decide)] at H; exact H
      clear H
      have H := H1
      clear H1
      by_cases c17 : 0 < (l0.length : Int)
      ·rw [if_pos c17] at H
       have c17b0 : decide (0 < (l0.length : Int)) = true := decide_eq_true c17
       have c17b1 : decide (0 < l0.length) = true := decide_eq_true (by omega)
       clear c17
       (first | rw [c17b0] | (simp only [i64_w, i32_w]; rw [c17b0]) | skip)
       by_cases c18 : ((rd_T23 l0 0).f0).size + 1 ≤ 9223372036854775807
       ·rw [if_pos c18] at H
        have c18b0 := eq_true c18
        have c18b1 : decide (((rd_T23 l0 0).f0).size + 1 ≤ 9223372036854775807) = true := decide_eq_true c18
        try have c18b2 : (9223372036854775807 < ((rd_T23 l0 0).f0).size + 1) = False := eq_false (Nat.not_lt.2 c18)
        obtain ⟨ji19, hji19⟩ : ∃ j_ : Int, (wrap64 ((l0.length : Int) - 1)) = j_ := ⟨_, rfl⟩
        replace H : (if 0 ≤ (ji19) then (if (ji19) < (l0.length : Int) then (if ((rd_T23 l0 (ji19)).f0).size + 1 ≤ 9223372036854775807 then (if 0 ≤ a1 then (if a1 ≤ ((((rd_T23 l0 0).f0) ++ (⟨#[0]⟩ : ByteArray)).size : Int) then (if a1 ≤ ((((rd_T23 l0 (ji19)).f0) ++ (⟨#[0]⟩ : ByteArray)).size : Int) then ((tendrilref1_Common.f kj3 ((((rd_T23 l0 0).f0) ++ (⟨#[0]⟩ : ByteArray)).extract (a1 : Int).toNat (((rd_T23 l0 0).f0) ++ (⟨#[0]⟩ : ByteArray)).size) ((((rd_T23 l0 (ji19)).f0) ++ (⟨#[0]⟩ : ByteArray)).extract (a1 : Int).toNat (((rd_T23 l0 (ji19)).f0) ++ (⟨#[0]⟩ : ByteArray)).size)).bind fun t170 => (tendrilref1_Shape.j1 kj3 l0 a1 t170)) else (none)) else (none)) else (none)) else (none)) else (none)) else (none)) = some r := by first | (rw [hji19] at H; exact H) | (simp only [hji19] at H ⊢; exact H)
        have hji19w : (IntKind.i64.wrap ((l0.length : Int) - 1)) = ji19 := (i64_w _).trans hji19
        by_cases c20 : 0 ≤ (ji19)
        ·rw [if_pos c20] at H
         have c20b0 : decide (0 ≤ (ji19)) = true := decide_eq_true c20
         clear c20
         by_cases c21 : (ji19) < (l0.length : Int)
         ·rw [if_pos c21] at H
          have c21b0 : decide ((ji19) < (l0.length : Int)) = true := decide_eq_true c21
          clear c21
          by_cases c22 : ((rd_T23 l0 (ji19)).f0).size + 1 ≤ 9223372036854775807
          ·rw [if_pos c22] at H
           have c22b0 := eq_true c22
           have c22b1 : decide (((rd_T23 l0 (ji19)).f0).size + 1 ≤ 9223372036854775807) = true := decide_eq_true c22
           try have c22b2 : (9223372036854775807 < ((rd_T23 l0 (ji19)).f0).size + 1) = False := eq_false (Nat.not_lt.2 c22)
           by_cases c23 : 0 ≤ a1
           ·rw [if_pos c23] at H
            have c23b0 := eq_true c23
            have c23b1 : decide (0 ≤ a1) = true := decide_eq_true c23
            clear c23
            by_cases c24 : a1 ≤ ((((rd_T23 l0 0).f0) ++ (⟨#[0]⟩ : ByteArray)).size : Int)
            ·rw [if_pos c24] at H
             (try (have c24b9 := c24; simp only [ByteArray.size_append, size1_8, Int.natCast_add, Int.cast_ofNat_Int] at c24b9; replace c24b9 := eq_true c24b9))
             (try (have c24b7 := c24; simp only [ByteArray.size_append, size1_8, Int.natCast_add, Int.cast_ofNat_Int] at c24b7; replace c24b7 := decide_eq_true c24b7))
             (try (have c24b8 := (Int.not_lt.2 c24 : ¬ _); simp only [ByteArray.size_append, size1_8, Int.natCast_add, Int.cast_ofNat_Int] at c24b8; replace c24b8 := eq_false c24b8))
             have c24b0 := eq_true c24
             have c24b1 : decide (a1 ≤ ((((rd_T23 l0 0).f0) ++ (⟨#[0]⟩ : ByteArray)).size : Int)) = true := decide_eq_true c24
             have c25b0 := eq_true (of_decide_eq_true (by first | (with_reducible assumption) | assumption) : 0 ≤ a1)
             by_cases c26 : a1 ≤ ((((rd_T23 l0 (ji19)).f0) ++ (⟨#[0]⟩ : ByteArray)).size : Int)
             ·rw [if_pos c26] at H
              (try (have c26b9 := c26; simp only [ByteArray.size_append, size1_8, Int.natCast_add, Int.cast_ofNat_Int] at c26b9; replace c26b9 := eq_true c26b9))
              (try (have c26b7 := c26; simp only [ByteArray.size_append, size1_8, Int.natCast_add, Int.cast_ofNat_Int] at c26b7; replace c26b7 := decide_eq_true c26b7))
              (try (have c26b8 := (Int.not_lt.2 c26 : ¬ _); simp only [ByteArray.size_append, size1_8, Int.natCast_add, Int.cast_ofNat_Int] at c26b8; replace c26b8 := eq_false c26b8))
              have c26b0 := eq_true c26
              have c26b1 : decide (a1 ≤ ((((rd_T23 l0 (ji19)).f0) ++ (⟨#[0]⟩ : ByteArray)).size : Int)) = true := decide_eq_true c26
              replace H := Option.bind_eq_some_iff.mp H
              obtain ⟨t170, A270, H⟩ := H
              replace H : (tendrilref1_Shape.j1 kj3 l0 a1 t170) = some r := H
              have A27 := Aside0.mk A270
              clear A270
              have H' := Aside0.mk H
              clear H
              try go_wp2
              have n0_ := Aside0.mk (below_drew1 HB.out)
              clear HB
              have HB := n0_
              clear n0_
              have p168 : 0 ≤ (0 : Int) := (by omega)
              have q168 : 0 < (l0.length : Int) := of_decide_eq_true (by first | (with_reducible assumption) | assumption)
              obtain ⟨ad168, e168, hx168_0, hx168_1⟩ := at_T23 HR0.out 0 p168 q168
              have hw168_1 := hx168_1
              (try rw [show ((0 : Int)).toNat = 0 from rfl] at hw168_1)
              (try rw [show 0 * 2 = 0 from rfl] at hw168_1)
              (try rw [Addr.add_zero'] at hw168_1)
              have hw168_0 := hx168_0
              (try rw [show ((0 : Int)).toNat = 0 from rfl] at hw168_0)
              (try rw [show 0 * 2 = 0 from rfl] at hw168_0)
              (try rw [Addr.add_zero'] at hw168_0)
              cases e168
              have qi168 : (0 < l0.length) = True := eq_true (by omega)
              (try rw [show ((0 : Int)).toNat = 0 from rfl] at hx168_0)
              (try rw [show 0 * 2 = 0 from rfl] at hx168_0)
              (try rw [Addr.add_zero'] at hx168_0)
              (try rw [show ((0 : Int)).toNat = 0 from rfl] at hx168_1)
              (try rw [show 0 * 2 = 0 from rfl] at hx168_1)
              (try rw [Addr.add_zero'] at hx168_1)
              replace hx168_0 := (HB.out.cell (World.block_lt_of_cell? w _ hx168_0)).trans hx168_0
              replace hx168_1 := (HB.out.cell (World.block_lt_of_cell? w _ hx168_1)).trans hx168_1
              replace p168 := eq_true p168
              replace q168 := eq_true q168
              have p169 : 0 ≤ ((ji19) : Int) := of_decide_eq_true (by first | (with_reducible assumption) | assumption)
              have q169 : (ji19) < (l0.length : Int) := of_decide_eq_true (by first | (with_reducible assumption) | assumption)
              obtain ⟨ad169, e169, hx169_0, hx169_1⟩ := at_T23 HR0.out (ji19) p169 q169
              have hw169_1 := hx169_1
              have hw169_0 := hx169_0
              obtain rfl : ad168 = ad169 := (by injection e169)
              replace hx169_0 := (HB.out.cell (World.block_lt_of_cell? w _ hx169_0)).trans hx169_0
              replace hx169_1 := (HB.out.cell (World.block_lt_of_cell? w _ hx169_1)).trans hx169_1
              replace p169 := eq_true p169
              replace q169 := eq_true q169
              refine start_ (n := 15) (S := fun w' => w'.cell? ad168 = some (.string ((rd_T23 l0 0).f0)) ∧ w'.cell? ⟨ad168.block, ad168.off + 1, none⟩ = some (.int .i64 ((rd_T23 l0 0).f1)) ∧ w'.cell? (ad168.add (((ji19)).toNat * 2)) = some (.string ((rd_T23 l0 (ji19)).f0)) ∧ w'.cell? ⟨(ad168.add (((ji19)).toNat * 2)).block, (ad168.add (((ji19)).toNat * 2)).off + 1, none⟩ = some (.int .i64 ((rd_T23 l0 (ji19)).f1))) (ds := []) #[false, false, false, false, false, false, false, false, false, false, false, false, false, false, false] (by kernel_rfl) rfl rfl ⟨((HB.out.cell (World.block_lt_of_cell? w _ hw168_0)).trans hw168_0), ((HB.out.cell (World.block_lt_of_cell? w _ hw168_1)).trans hw168_1), ((HB.out.cell (World.block_lt_of_cell? w _ hw169_0)).trans hw169_0), ((HB.out.cell (World.block_lt_of_cell? w _ hw169_1)).trans hw169_1)⟩ (fun hHeld => ?_); refine with_tabW tendrilref1_Shape.tab5 tendrilref1_Shape.bits5 (fun HT_ HW_ => ?_)
              generalize wc.drew = w28 at HB hx168_0 hx168_1 hx169_0 hx169_1 hHeld ⊢
              refine pure_ (i := 0) (N := some 37) (v := ?_) (a' := ?_) #[true, false, false, false, false, false, false, false, false, false, false, false, false, false, false] rfl rfl (any_of HT_.out (by kernel_rfl)) (fun _ _ _ h => h) (Or.inl ⟨by rfl, ?_⟩) ?_ ?_
              rotate_left
              ·intro w'
               go_simp
               with_reducible rfl
              rotate_left
              ·simp only [Act.put, List.setIfInBounds_toArray, List.set_cons_zero, List.set_cons_succ, i64_w, i32_w]
               rfl
              refine pure_ (i := 1) (N := some 38) (v := ?_) (a' := ?_) #[true, true, false, false, false, false, false, false, false, false, false, false, false, false, false] rfl rfl (any_of HT_.out (by kernel_rfl)) (fun _ _ _ h => h) (Or.inl ⟨by rfl, ?_⟩) ?_ ?_
              rotate_left
              ·intro w'
               go_simp
               with_reducible rfl
              rotate_left
              ·simp only [Act.put, List.setIfInBounds_toArray, List.set_cons_zero, List.set_cons_succ, i64_w, i32_w]
               rfl
              refine pure_ (i := 2) (N := some 39) (v := ?_) (a' := ?_) #[true, true, true, false, false, false, false, false, false, false, false, false, false, false, false] rfl rfl (any_of HT_.out (by kernel_rfl)) (fun _ _ _ h => h) (Or.inl ⟨by rfl, ?_⟩) ?_ ?_
              rotate_left
              ·intro w'
               go_simp
               with_reducible rfl
              rotate_left
              ·simp only [Act.put, List.setIfInBounds_toArray, List.set_cons_zero, List.set_cons_succ, i64_w, i32_w]
               rfl
              refine pure_ (i := 5) (N := some 42) (v := ?_) (a' := ?_) #[true, true, true, false, false, true, false, false, false, false, false, false, false, false, false] rfl rfl (any_of HT_.out (by kernel_rfl)) (fun _ _ _ h => h) (Or.inl ⟨by rfl, ?_⟩) ?_ ?_
              rotate_left
              ·intro w'
               go_simp
               with_reducible rfl
              rotate_left
              ·simp only [Act.put, List.setIfInBounds_toArray, List.set_cons_zero, List.set_cons_succ, i64_w, i32_w]
               rfl
              refine pure_ (i := 6) (N := some 43) (v := ?_) (a' := ?_) #[true, true, true, false, false, true, true, false, false, false, false, false, false, false, false] rfl rfl (any_of HT_.out (by kernel_rfl)) (fun _ _ _ h => h) (Or.inl ⟨by rfl, ?_⟩) ?_ ?_
              rotate_left
              ·intro w'
               go_simp
               with_reducible rfl
              rotate_left
              ·simp only [Act.put, List.setIfInBounds_toArray, List.set_cons_zero, List.set_cons_succ, i64_w, i32_w]
               rfl
              refine pure_ (i := 7) (N := some 44) (v := ?_) (a' := ?_) #[true, true, true, false, false, true, true, true, false, false, false, false, false, false, false] rfl rfl (any_of HT_.out (by kernel_rfl)) (fun _ _ _ h => h) (Or.inl ⟨by rfl, ?_⟩) ?_ ?_
              rotate_left
              ·intro w'
               go_simp
               with_reducible rfl
              rotate_left
              ·simp only [Act.put, List.setIfInBounds_toArray, List.set_cons_zero, List.set_cons_succ, i64_w, i32_w]
               rfl
              refine pure_ (i := 8) (N := some 45) (v := ?_) (a' := ?_) #[true, true, true, false, false, true, true, true, true, false, false, false, false, false, false] rfl rfl (any_of HT_.out (by kernel_rfl)) (fun _ _ _ h => h) (Or.inl ⟨by rfl, ?_⟩) ?_ ?_
              rotate_left
              ·intro w'
               go_simp
               with_reducible rfl
              rotate_left
              ·simp only [Act.put, List.setIfInBounds_toArray, List.set_cons_zero, List.set_cons_succ, i64_w, i32_w]
               rfl
              refine pure_ (i := 9) (N := some 46) (v := ?_) (a' := ?_) #[true, true, true, false, false, true, true, true, true, true, false, false, false, false, false] rfl rfl (any_of HT_.out (by kernel_rfl)) (fun _ _ _ h => h) (Or.inl ⟨by rfl, ?_⟩) ?_ ?_
              rotate_left
              ·intro w'
               go_simp
               with_reducible rfl
              rotate_left
              ·simp only [Act.put, List.setIfInBounds_toArray, List.set_cons_zero, List.set_cons_succ, i64_w, i32_w]
               rfl
              refine pure_ (i := 10) (N := some 47) (v := ?_) (a' := ?_) #[true, true, true, false, false, true, true, true, true, true, true, false, false, false, false] rfl rfl (any_of HT_.out (by kernel_rfl)) (fun _ _ _ h => h) (Or.inl ⟨by rfl, ?_⟩) ?_ ?_
              rotate_left
              ·intro w'
               go_simp
               with_reducible rfl
              rotate_left
              ·simp only [Act.put, List.setIfInBounds_toArray, List.set_cons_zero, List.set_cons_succ, i64_w, i32_w]
               rfl
              refine take_ (i := 3) (N := some 40) (v := ?_) (a' := ?_) #[true, true, true, true, false, true, true, true, true, true, true, false, false, false, false] rfl rfl (take_ofW HT_.out HW_.out (by kernel_rfl)) (fun _ _ _ h => h) (Or.inl ⟨by rfl, ?_⟩) hHeld ?_ ?_
              rotate_left
              ·rintro w' ⟨s0, s1, s2, s3⟩
               go_simp
               with_reducible rfl
              rotate_left
              ·simp only [Act.put, List.setIfInBounds_toArray, List.set_cons_zero, List.set_cons_succ, i64_w, i32_w]
               rfl
              refine pure_ (i := 4) (N := some 41) (v := ?_) (a' := ?_) #[true, true, true, true, true, true, true, true, true, true, true, false, false, false, false] rfl rfl (any_of HT_.out (by kernel_rfl)) (fun _ _ _ h => h) (Or.inl ⟨by rfl, ?_⟩) ?_ ?_
              rotate_left
              ·intro w'
               go_simp
               with_reducible rfl
              rotate_left
              ·simp only [Act.put, List.setIfInBounds_toArray, List.set_cons_zero, List.set_cons_succ, i64_w, i32_w]
               rfl
              refine pure_ (i := 13) (N := some 8) (v := ?_) (a' := ?_) #[true, true, true, true, true, true, true, true, true, true, true, false, false, true, false] rfl rfl (any_of HT_.out (by kernel_rfl)) (fun _ _ _ h => h) (Or.inl ⟨by rfl, ?_⟩) ?_ ?_
              rotate_left
              ·intro w'
               go_simp
               with_reducible rfl
              rotate_left
              ·simp only [Act.put, List.setIfInBounds_toArray, List.set_cons_zero, List.set_cons_succ, i64_w, i32_w]
               rfl
              refine take_ (i := 11) (N := some 48) (v := ?_) (a' := ?_) #[true, true, true, true, true, true, true, true, true, true, true, true, false, true, false] rfl rfl (take_ofW HT_.out HW_.out (by kernel_rfl)) (fun _ _ _ h => h) (Or.inl ⟨by rfl, ?_⟩) hHeld ?_ ?_
              rotate_left
              ·rintro w' ⟨s0, s1, s2, s3⟩
               go_simp
               with_reducible rfl
              rotate_left
              ·simp only [Act.put, List.setIfInBounds_toArray, List.set_cons_zero, List.set_cons_succ, i64_w, i32_w]
               rfl
              refine pure_ (i := 12) (N := some 49) (v := ?_) (a' := ?_) #[true, true, true, true, true, true, true, true, true, true, true, true, true, true, false] rfl rfl (any_of HT_.out (by kernel_rfl)) (fun _ _ _ h => h) (Or.inl ⟨by rfl, ?_⟩) ?_ ?_
              rotate_left
              ·intro w'
               go_simp
               with_reducible rfl
              rotate_left
              ·simp only [Act.put, List.setIfInBounds_toArray, List.set_cons_zero, List.set_cons_succ, i64_w, i32_w]
               rfl
              refine pure_ (i := 14) (N := some 9) (v := ?_) (a' := ?_) #[true, true, true, true, true, true, true, true, true, true, true, true, true, true, true] rfl rfl (any_of HT_.out (by kernel_rfl)) (fun _ _ _ h => h) (Or.inl ⟨by rfl, ?_⟩) ?_ ?_
              rotate_left
              ·intro w'
               go_simp
               with_reducible rfl
              rotate_left
              ·simp only [Act.put, List.setIfInBounds_toArray, List.set_cons_zero, List.set_cons_succ, i64_w, i32_w]
               rfl
              refine done_ (done_of HT_.out (by kernel_rfl)) ?_
              try go_wp2
              have n0_ := Aside0.mk (below_drew1 HB.out)
              clear HB
              have HB := n0_
              clear n0_
              refine start_ (n := 8) (S := fun w' => True) (ds := []) #[false, false, false, false, false, false, false, false] (by kernel_rfl) rfl rfl trivial (fun hHeld => ?_); refine with_tabW tendrilref1_Shape.tab6 tendrilref1_Shape.bits6 (fun HT_ HW_ => ?_)
              generalize w28.drew = w29 at HB hHeld ⊢
              refine pure_ (i := 0) (N := some 50) (v := ?_) (a' := ?_) #[true, false, false, false, false, false, false, false] rfl rfl (any_of HT_.out (by kernel_rfl)) (fun _ _ _ h => h) (Or.inl ⟨by rfl, ?_⟩) ?_ ?_
              rotate_left
              ·intro w'
               go_simp
               with_reducible rfl
              rotate_left
              ·simp only [Act.put, List.setIfInBounds_toArray, List.set_cons_zero, List.set_cons_succ, i64_w, i32_w]
               rfl
              refine pure_ (i := 1) (N := some 51) (v := ?_) (a' := ?_) #[true, true, false, false, false, false, false, false] rfl rfl (any_of HT_.out (by kernel_rfl)) (fun _ _ _ h => h) (Or.inl ⟨by rfl, ?_⟩) ?_ ?_
              rotate_left
              ·intro w'
               go_simp
               with_reducible rfl
              rotate_left
              ·simp only [Act.put, List.setIfInBounds_toArray, List.set_cons_zero, List.set_cons_succ, i64_w, i32_w]
               rfl
              refine pure_ (i := 2) (N := some 52) (v := ?_) (a' := ?_) #[true, true, true, false, false, false, false, false] rfl rfl (any_of HT_.out (by kernel_rfl)) (fun _ _ _ h => h) (Or.inl ⟨by rfl, ?_⟩) ?_ ?_
              rotate_left
              ·intro w'
               go_simp
               with_reducible rfl
              rotate_left
              ·simp only [Act.put, List.setIfInBounds_toArray, List.set_cons_zero, List.set_cons_succ, i64_w, i32_w]
               rfl
              refine pure_ (i := 3) (N := some 53) (v := ?_) (a' := ?_) #[true, true, true, true, false, false, false, false] rfl rfl (any_of HT_.out (by kernel_rfl)) (fun _ _ _ h => h) (Or.inl ⟨by rfl, ?_⟩) ?_ ?_
              rotate_left
              ·intro w'
               go_simp
               with_reducible rfl
              rotate_left
              ·simp only [Act.put, List.setIfInBounds_toArray, List.set_cons_zero, List.set_cons_succ, i64_w, i32_w]
               rfl
              refine pure_ (i := 4) (N := some 54) (v := ?_) (a' := ?_) #[true, true, true, true, true, false, false, false] rfl rfl (any_of HT_.out (by kernel_rfl)) (fun _ _ _ h => h) (Or.inl ⟨by rfl, ?_⟩) ?_ ?_
              rotate_left
              ·intro w'
               go_simp
               with_reducible rfl
              rotate_left
              ·simp only [Act.put, List.setIfInBounds_toArray, List.set_cons_zero, List.set_cons_succ, i64_w, i32_w]
               rfl
              refine pure_ (i := 5) (N := some 55) (v := ?_) (a' := ?_) #[true, true, true, true, true, true, false, false] rfl rfl (any_of HT_.out (by kernel_rfl)) (fun _ _ _ h => h) (Or.inl ⟨by rfl, ?_⟩) ?_ ?_
              rotate_left
              ·intro w'
               go_simp
               with_reducible rfl
              rotate_left
              ·simp only [Act.put, List.setIfInBounds_toArray, List.set_cons_zero, List.set_cons_succ, i64_w, i32_w]
               rfl
              refine one_ (i := 6) (N := some 56) #[true, true, true, true, true, true, true, false] rfl rfl (one_of HT_.out (by kernel_rfl)) (by decide) (fun K hK => ?_)
              refine goes_ Tryd.func27 (by kernel_rfl) rfl #[.string ((((rd_T23 l0 0).f0) ++ (⟨#[0]⟩ : ByteArray)).extract (a1 : Int).toNat (((rd_T23 l0 0).f0) ++ (⟨#[0]⟩ : ByteArray)).size), .string ((((rd_T23 l0 (ji19)).f0) ++ (⟨#[0]⟩ : ByteArray)).extract (a1 : Int).toNat (((rd_T23 l0 (ji19)).f0) ++ (⟨#[0]⟩ : ByteArray)).size)] (by rfl) rfl rfl (by (try simp only [List.map_toArray, List.map_cons, List.map_nil]); first | done | (simp only [hji19]; rfl) | rfl | (simp only [hji19, ByteArray.size_append, size1_8]; done) | (simp only [ByteArray.size_append, size1_8]; done) | (simp only [hji19, ByteArray.size_append, size1_8]; rfl) | (simp only [ByteArray.size_append, size1_8]; rfl) | (simp only [List.length_drop, List.length_take]; rfl)) ?_
              with_reducible refine (tendrilref1_Common.calls kj3 ((((rd_T23 l0 0).f0) ++ (⟨#[0]⟩ : ByteArray)).extract (a1 : Int).toNat (((rd_T23 l0 0).f0) ++ (⟨#[0]⟩ : ByteArray)).size) ((((rd_T23 l0 (ji19)).f0) ++ (⟨#[0]⟩ : ByteArray)).extract (a1 : Int).toNat (((rd_T23 l0 (ji19)).f0) ++ (⟨#[0]⟩ : ByteArray)).size) t170 _ A27.out).mono ?_
              rintro e w' ⟨rfl, ⟨nd, rfl⟩⟩
              refine ⟨_, rfl, ?_⟩
              refine hK.out _ _ trivial (fun hHeld => ?_)
              clear hK K
              refine norm_ (a' := ?_) ?_ ?_
              rotate_left
              ·show Act.put _ (some 56) _ = _
               simp only [Act.put, List.setIfInBounds_toArray, List.set_cons_zero, List.set_cons_succ, i64_w, i32_w]
               rfl
              refine pure_ (i := 7) (N := some 7) (v := ?_) (a' := ?_) #[true, true, true, true, true, true, true, true] rfl rfl (any_of HT_.out (by kernel_rfl)) (fun _ _ _ h => h) (Or.inl ⟨by rfl, ?_⟩) ?_ ?_
              rotate_left
              ·intro w'
               go_simp
               with_reducible rfl
              rotate_left
              ·simp only [Act.put, List.setIfInBounds_toArray, List.set_cons_zero, List.set_cons_succ, i64_w, i32_w]
               rfl
              refine done_ (done_of HT_.out (by kernel_rfl)) ?_
              try go_wp2
              go_meet
              case rel => exact ⟨_, (t170), (by first | rfl | (simp; done) | (simp [*]; done)), H', ⟨by have := HJ3.out; first | omega | exact Nat.le_refl _⟩, ⟨by repeat (first | (with_reducible first | exact HB.out | apply below_alloc | apply pw_below_drewN | apply below_drew1) | exact HB.out)⟩⟩
             ·rw [if_neg c26] at H
              exact absurd H (by simp)
            ·rw [if_neg c24] at H
             exact absurd H (by simp)
           ·rw [if_neg c23] at H
            exact absurd H (by simp)
          ·rw [if_neg c22] at H
           exact absurd H (by simp)
         ·rw [if_neg c21] at H
          exact absurd H (by simp)
        ·rw [if_neg c20] at H
         exact absurd H (by simp)
       ·rw [if_neg c18] at H
        exact absurd H (by simp)
      ·rw [if_neg c17] at H
       exact absurd H (by simp)
    case rest =>
     clear HC15
     try clear c1
     try clear p1
     try clear q1
     try clear hx1
     try clear qi1
     try clear c2
     try clear p2
     try clear c5
     try clear c5b0
     try clear c5b1
     try clear c6
     try clear p6
     try clear c7
     try clear c7b0
     try clear c7b1
     try clear c9
     try clear c9b0
     try clear c9b1
     try clear c9b2
     try clear c10
     try clear c10b0
     try clear c10b1
     try clear c10b2
     try clear c11
     try clear c11b0
     try clear c11b1
     try clear c11b2
     try clear c12
     try clear c12b0
     try clear c12b1
     try clear c12b2
     try clear c16
     try clear p16
     try clear q16
     try clear hx16
     try clear qi16
     try clear c17
     try clear c17b0
     try clear c17b1
     try clear c18
     try clear c18b0
     try clear c18b1
     try clear c18b2
     try clear c20
     try clear c20b0
     try clear c21
     try clear c21b0
     try clear c22
     try clear c22b0
     try clear c22b1
     try clear c22b2
     try clear c23
     try clear c23b0
     try clear c23b1
     try clear c24
     try clear c24b0
     try clear c24b1
     try clear c25
     try clear c25b0
     try clear c26
     try clear c26b0
     try clear c26b1
     try clear c27
     try clear hx165_0
     try clear hx165_1
     try clear hx167_0
     try clear hx167_1
     try clear hx168_0
     try clear hx168_1
     try clear hx169_0
     try clear hx169_1
     try clear p165
     try clear p167
     try clear p168
     try clear p169
     try clear p2
     try clear q165
     try clear q167
     try clear q168
     try clear q169
     obtain ⟨kq, x7_14, rfl, HA, HJ14, HB⟩ := hcut
     cases kq with
     | zero => exact absurd HA.out (by simp [tendrilref1_Shape.j1])
     | succ kj14 =>
      have H := HA.out
      clear HA
      simp only [tendrilref1_Shape.j1] at H
      replace H := Option.bind_eq_some_iff.mp H
      obtain ⟨t171, A300, H⟩ := H
      replace H : (if 1 + t171.size ≤ 9223372036854775807 then (if ((⟨#[40]⟩ : ByteArray) ++ t171).size + 1 ≤ 9223372036854775807 then (if x7_14 > 0 then (if 0 < (l0.length : Int) then (if ((rd_T23 l0 0).f0).size + 1 ≤ 9223372036854775807 then (if 0 ≤ a1 then (if a1 ≤ (wrap64 (a1 + x7_14)) then (if (wrap64 (a1 + x7_14)) ≤ ((((rd_T23 l0 0).f0) ++ (⟨#[0]⟩ : ByteArray)).size : Int) then (if (((⟨#[40]⟩ : ByteArray) ++ t171) ++ (⟨#[58]⟩ : ByteArray)).size + ((((rd_T23 l0 0).f0) ++ (⟨#[0]⟩ : ByteArray)).extract (a1 : Int).toNat ((wrap64 (a1 + x7_14)) : Int).toNat).size ≤ 9223372036854775807 then (tendrilref1_Shape.j2 kj14 l0 a1 x7_14 ((((⟨#[40]⟩ : ByteArray) ++ t171) ++ (⟨#[58]⟩ : ByteArray)) ++ ((((rd_T23 l0 0).f0) ++ (⟨#[0]⟩ : ByteArray)).extract (a1 : Int).toNat ((wrap64 (a1 + x7_14)) : Int).toNat))) else (none)) else (none)) else (none)) else (none)) else (none)) else (none)) else (tendrilref1_Shape.j2 kj14 l0 a1 x7_14 (((⟨#[40]⟩ : ByteArray) ++ t171) ++ (⟨#[58]⟩ : ByteArray)))) else (none)) else (none)) = some r := H
      have A30 := Aside0.mk A300
      clear A300
      by_cases c31 : 1 + t171.size ≤ 9223372036854775807
      ·rw [if_pos c31] at H
       have c31b0 := eq_true c31
       have c31b1 : decide (1 + t171.size ≤ 9223372036854775807) = true := decide_eq_true c31
       try have c31b2 : (9223372036854775807 < 1 + t171.size) = False := eq_false (Nat.not_lt.2 c31)
       by_cases c32 : ((⟨#[40]⟩ : ByteArray) ++ t171).size + 1 ≤ 9223372036854775807
       ·rw [if_pos c32] at H
        (try (have c32b9 := c32; simp only [ByteArray.size_append, size1_8, Int.natCast_add, Int.cast_ofNat_Int] at c32b9; replace c32b9 := eq_true c32b9))
        (try (have c32b7 := c32; simp only [ByteArray.size_append, size1_8, Int.natCast_add, Int.cast_ofNat_Int] at c32b7; replace c32b7 := decide_eq_true c32b7))
        (try (have c32b8 := (Nat.not_lt.2 c32 : ¬ _); simp only [ByteArray.size_append, size1_8, Int.natCast_add, Int.cast_ofNat_Int] at c32b8; replace c32b8 := eq_false c32b8))
        have c32b0 := eq_true c32
        have c32b1 : decide (((⟨#[40]⟩ : ByteArray) ++ t171).size + 1 ≤ 9223372036854775807) = true := decide_eq_true c32
        try have c32b2 : (9223372036854775807 < ((⟨#[40]⟩ : ByteArray) ++ t171).size + 1) = False := eq_false (Nat.not_lt.2 c32)
        have HC33 := Aside0.mk H
        clear H
        go_upto_if 62 with (first | ((with_reducible refine gate_callee (f := 26) rfl ?_); refine goesL_ (some 58) rfl rfl Tryd.func26 (by kernel_rfl) rfl #[.int .i64 x7_14] rfl (by (try simp only [List.map_toArray, List.map_cons, List.map_nil]); first | done | rfl | (simp only [List.length_drop, List.length_take]; rfl) | (simp only [hji45]; done) | (simp only [hji45]; rfl)) ?_; (with_reducible refine (tendrilref1_digits.calls kj14 x7_14 t171 _ A30.out).mono ?_); rintro e w34 ⟨rfl, hb⟩; refine ⟨_, rfl, ?_⟩; have n0_ := Aside0.mk (below_step (by repeat (first | (with_reducible first | exact HB.out | apply below_alloc | apply pw_below_drewN | apply below_drew1) | exact HB.out)) hb); clear HB; have HB := n0_; clear n0_; (try clear hb); (try clear hb2); (try clear hk); (try clear hi)))
        (try simp only [Act.put, List.setIfInBounds_toArray, List.set_cons_zero, List.set_cons_succ])
        go_cut [10] (fun v10 wc => ∃ (kq : Nat) (x10_32 : ByteArray), v10 = .string x10_32 ∧ Aside0 (tendrilref1_Shape.j2 kq l0 a1 x7_14 x10_32 = some r) ∧ Aside0 (kq ≤ kj14) ∧ Aside0 (Below w.heap.size w wc))
        case first =>
         have H := HC33.out
         clear HC33
         by_cases c35 : x7_14 > 0
         ·rw [if_pos c35] at H
          have c35b0 : decide (0 < x7_14) = true := decide_eq_true c35
          clear c35
          (first | rw [c35b0] | (simp only [i64_w, i32_w]; rw [c35b0]) | skip)
          by_cases c36 : 0 < (l0.length : Int)
          ·rw [if_pos c36] at H
           have c36b0 : decide (0 < (l0.length : Int)) = true := decide_eq_true c36
           have c36b1 : decide (0 < l0.length) = true := decide_eq_true (by omega)
           clear c36
           by_cases c37 : ((rd_T23 l0 0).f0).size + 1 ≤ 9223372036854775807
           ·rw [if_pos c37] at H
            have c37b0 := eq_true c37
            have c37b1 : decide (((rd_T23 l0 0).f0).size + 1 ≤ 9223372036854775807) = true := decide_eq_true c37
            try have c37b2 : (9223372036854775807 < ((rd_T23 l0 0).f0).size + 1) = False := eq_false (Nat.not_lt.2 c37)
            by_cases c38 : 0 ≤ a1
            ·rw [if_pos c38] at H
             have c38b0 := eq_true c38
             have c38b1 : decide (0 ≤ a1) = true := decide_eq_true c38
             clear c38
             by_cases c39 : a1 ≤ (wrap64 (a1 + x7_14))
             ·rw [if_pos c39] at H
              have c39b0 := eq_true c39
              have c39b1 : decide (a1 ≤ (wrap64 (a1 + x7_14))) = true := decide_eq_true c39
              by_cases c40 : (wrap64 (a1 + x7_14)) ≤ ((((rd_T23 l0 0).f0) ++ (⟨#[0]⟩ : ByteArray)).size : Int)
              ·rw [if_pos c40] at H
               (try (have c40b9 := c40; simp only [ByteArray.size_append, size1_8, Int.natCast_add, Int.cast_ofNat_Int] at c40b9; replace c40b9 := eq_true c40b9))
               (try (have c40b7 := c40; simp only [ByteArray.size_append, size1_8, Int.natCast_add, Int.cast_ofNat_Int] at c40b7; replace c40b7 := decide_eq_true c40b7))
               (try (have c40b8 := (Int.not_lt.2 c40 : ¬ _); simp only [ByteArray.size_append, size1_8, Int.natCast_add, Int.cast_ofNat_Int] at c40b8; replace c40b8 := eq_false c40b8))
               have c40b0 := eq_true c40
               have c40b1 : decide ((wrap64 (a1 + x7_14)) ≤ ((((rd_T23 l0 0).f0) ++ (⟨#[0]⟩ : ByteArray)).size : Int)) = true := decide_eq_true c40
               by_cases c41 : (((⟨#[40]⟩ : ByteArray) ++ t171) ++ (⟨#[58]⟩ : ByteArray)).size + ((((rd_T23 l0 0).f0) ++ (⟨#[0]⟩ : ByteArray)).extract (a1 : Int).toNat ((wrap64 (a1 + x7_14)) : Int).toNat).size ≤ 9223372036854775807
               ·rw [if_pos c41] at H
                (try (have c41b9 := c41; simp only [ByteArray.size_append, size1_8, Int.natCast_add, Int.cast_ofNat_Int] at c41b9; replace c41b9 := eq_true c41b9))
                (try (have c41b7 := c41; simp only [ByteArray.size_append, size1_8, Int.natCast_add, Int.cast_ofNat_Int] at c41b7; replace c41b7 := decide_eq_true c41b7))
                (try (have c41b8 := (Int.not_lt.2 c41 : ¬ _); simp only [ByteArray.size_append, size1_8, Int.natCast_add, Int.cast_ofNat_Int] at c41b8; replace c41b8 := eq_false c41b8))
                have c41b0 := eq_true c41
                have c41b1 : decide ((((⟨#[40]⟩ : ByteArray) ++ t171) ++ (⟨#[58]⟩ : ByteArray)).size + ((((rd_T23 l0 0).f0) ++ (⟨#[0]⟩ : ByteArray)).extract (a1 : Int).toNat ((wrap64 (a1 + x7_14)) : Int).toNat).size ≤ 9223372036854775807) = true := decide_eq_true c41
                try have c41b2 : (9223372036854775807 < (((⟨#[40]⟩ : ByteArray) ++ t171) ++ (⟨#[58]⟩ : ByteArray)).size + ((((rd_T23 l0 0).f0) ++ (⟨#[0]⟩ : ByteArray)).extract (a1 : Int).toNat ((wrap64 (a1 + x7_14)) : Int).toNat).size) = False := eq_false (Nat.not_lt.2 c41)
                have H' := Aside0.mk H
                clear H
                have p172 : 0 ≤ (0 : Int) := (by omega)
                have q172 : 0 < (l0.length : Int) := of_decide_eq_true (by first | (with_reducible assumption) | assumption)
                obtain ⟨ad172, e172, hx172_0, hx172_1⟩ := at_T23 HR0.out 0 p172 q172
                cases e172
                have qi172 : (0 < l0.length) = True := eq_true (by omega)
                (try rw [show ((0 : Int)).toNat = 0 from rfl] at hx172_0)
                (try rw [show 0 * 2 = 0 from rfl] at hx172_0)
                (try rw [Addr.add_zero'] at hx172_0)
                (try rw [show ((0 : Int)).toNat = 0 from rfl] at hx172_1)
                (try rw [show 0 * 2 = 0 from rfl] at hx172_1)
                (try rw [Addr.add_zero'] at hx172_1)
                replace hx172_0 := (HB.out.cell (World.block_lt_of_cell? w _ hx172_0)).trans hx172_0
                replace hx172_1 := (HB.out.cell (World.block_lt_of_cell? w _ hx172_1)).trans hx172_1
                replace p172 := eq_true p172
                replace q172 := eq_true q172
                go_wp2
                go_meet
                case rel => exact ⟨_, ((((⟨#[40]⟩ : ByteArray) ++ t171) ++ (⟨#[58]⟩ : ByteArray)) ++ ((((rd_T23 l0 0).f0) ++ (⟨#[0]⟩ : ByteArray)).extract (a1 : Int).toNat ((wrap64 (a1 + x7_14)) : Int).toNat)), (by first | rfl | (simp; done) | (simp [*]; done)), H', ⟨by have := HJ3.out; have := HJ14.out; first | omega | exact Nat.le_refl _⟩, ⟨by repeat (first | (with_reducible first | exact HB.out | apply below_alloc | apply pw_below_drewN | apply below_drew1) | exact HB.out)⟩⟩
               ·rw [if_neg c41] at H
                exact absurd H (by simp)
              ·rw [if_neg c40] at H
               exact absurd H (by simp)
             ·rw [if_neg c39] at H
              exact absurd H (by simp)
            ·rw [if_neg c38] at H
             exact absurd H (by simp)
           ·rw [if_neg c37] at H
            exact absurd H (by simp)
          ·rw [if_neg c36] at H
           exact absurd H (by simp)
         ·rw [if_neg c35] at H
          have c35b0 : decide (0 < x7_14) = false := decide_eq_false c35
          clear c35
          (first | rw [c35b0] | (simp only [i64_w, i32_w]; rw [c35b0]) | skip)
          have H' := Aside0.mk H
          clear H
          go_wp2
          go_meet
          case rel => exact ⟨_, (((⟨#[40]⟩ : ByteArray) ++ t171) ++ (⟨#[58]⟩ : ByteArray)), (by first | rfl | (simp; done) | (simp [*]; done)), H', ⟨by have := HJ3.out; have := HJ14.out; first | omega | exact Nat.le_refl _⟩, ⟨by repeat (first | (with_reducible first | exact HB.out | apply below_alloc | apply pw_below_drewN | apply below_drew1) | exact HB.out)⟩⟩
        case rest =>
         clear HC33
         try clear c1
         try clear p1
         try clear q1
         try clear hx1
         try clear qi1
         try clear c2
         try clear p2
         try clear c3
         try clear c4
         try clear c5
         try clear c5b0
         try clear c5b1
         try clear c6
         try clear p6
         try clear c7
         try clear c7b0
         try clear c7b1
         try clear c9
         try clear c9b0
         try clear c9b1
         try clear c9b2
         try clear c10
         try clear c10b0
         try clear c10b1
         try clear c10b2
         try clear c11
         try clear c11b0
         try clear c11b1
         try clear c11b2
         try clear c12
         try clear c12b0
         try clear c12b1
         try clear c12b2
         try clear c16
         try clear p16
         try clear q16
         try clear hx16
         try clear qi16
         try clear c17
         try clear c17b0
         try clear c17b1
         try clear p17
         try clear q17
         try clear hx17
         try clear qi17
         try clear c18
         try clear c18b0
         try clear c18b1
         try clear c18b2
         try clear c20
         try clear c20b0
         try clear c21
         try clear c21b0
         try clear c22
         try clear c22b0
         try clear c22b1
         try clear c22b2
         try clear c23
         try clear c23b0
         try clear c23b1
         try clear c24
         try clear c24b0
         try clear c24b1
         try clear c25
         try clear c25b0
         try clear c26
         try clear c26b0
         try clear c26b1
         try clear c27
         try clear c31
         try clear c31b0
         try clear c31b1
         try clear c31b2
         try clear c32
         try clear c32b0
         try clear c32b1
         try clear c32b2
         try clear c35
         try clear c35b0
         try clear c36
         try clear c36b0
         try clear c36b1
         try clear c37
         try clear c37b0
         try clear c37b1
         try clear c37b2
         try clear c38
         try clear c38b0
         try clear c38b1
         try clear c39
         try clear c39b0
         try clear c39b1
         try clear c40
         try clear c40b0
         try clear c40b1
         try clear c41
         try clear c41b0
         try clear c41b1
         try clear c41b2
         try clear hx165_0
         try clear hx165_1
         try clear hx167_0
         try clear hx167_1
         try clear hx168_0
         try clear hx168_1
         try clear hx169_0
         try clear hx169_1
         try clear hx172_0
         try clear hx172_1
         try clear p1
         try clear p16
         try clear p165
         try clear p167
         try clear p168
         try clear p169
         try clear p172
         try clear p2
         try clear p6
         try clear q1
         try clear q16
         try clear q165
         try clear q167
         try clear q168
         try clear q169
         try clear q172
         obtain ⟨kq, x10_32, rfl, HA, HJ32, HB⟩ := hcut
         cases kq with
         | zero => exact absurd HA.out (by simp [tendrilref1_Shape.j2])
         | succ kj32 =>
          have H := HA.out
          clear HA
          simp only [tendrilref1_Shape.j2] at H
          have H' := Aside0.mk H
          clear H
          go_wp2
          go_loopg [10, 11] kj32 (fun kq v10 v11 w' => ∃ (x10_4 : ByteArray) (x11_4 : Int), v10 = .string x10_4 ∧ v11 = .int .i64 x11_4 ∧ Aside0 (tendrilref1_Shape.l0 kq l0 a1 x7_14 x10_4 x11_4 = some r) ∧ Aside0 (kq ≤ kj32) ∧ Aside0 (Below w.heap.size w w'))
          case atStart => exact ⟨(x10_32), (0), (by first | rfl | (simp; done) | (simp [*]; done)), (by first | rfl | (simp; done) | (simp [*]; done)), H', ⟨Nat.le_refl _⟩, ⟨by repeat (first | (with_reducible first | exact HB.out | apply below_alloc | apply pw_below_drewN | apply below_drew1) | exact HB.out)⟩⟩
          case round =>
           clear H'
           try clear c1
           try clear p1
           try clear q1
           try clear hx1
           try clear qi1
           try clear c2
           try clear p2
           try clear c3
           try clear c4
           try clear c5
           try clear c5b0
           try clear c5b1
           try clear c6
           try clear p6
           try clear c7
           try clear c7b0
           try clear c7b1
           try clear c9
           try clear c9b0
           try clear c9b1
           try clear c9b2
           try clear c10
           try clear c10b0
           try clear c10b1
           try clear c10b2
           try clear c11
           try clear c11b0
           try clear c11b1
           try clear c11b2
           try clear c12
           try clear c12b0
           try clear c12b1
           try clear c12b2
           try clear c16
           try clear p16
           try clear q16
           try clear hx16
           try clear qi16
           try clear c17
           try clear c17b0
           try clear c17b1
           try clear p17
           try clear q17
           try clear hx17
           try clear qi17
           try clear c18
           try clear c18b0
           try clear c18b1
           try clear c18b2
           try clear c20
           try clear c20b0
           try clear c21
           try clear c21b0
           try clear c22
           try clear c22b0
           try clear c22b1
           try clear c22b2
           try clear c23
           try clear c23b0
           try clear c23b1
           try clear c24
           try clear c24b0
           try clear c24b1
           try clear c25
           try clear c25b0
           try clear c26
           try clear c26b0
           try clear c26b1
           try clear c27
           try clear c31
           try clear c31b0
           try clear c31b1
           try clear c31b2
           try clear c32
           try clear c32b0
           try clear c32b1
           try clear c32b2
           try clear c35
           try clear c35b0
           try clear c36
           try clear c36b0
           try clear c36b1
           try clear c37
           try clear c37b0
           try clear c37b1
           try clear c37b2
           try clear c38
           try clear c38b0
           try clear c38b1
           try clear c39
           try clear c39b0
           try clear c39b1
           try clear c40
           try clear c40b0
           try clear c40b1
           try clear c41
           try clear c41b0
           try clear c41b1
           try clear c41b2
           try clear hx165_0
           try clear hx165_1
           try clear hx167_0
           try clear hx167_1
           try clear hx168_0
           try clear hx168_1
           try clear hx169_0
           try clear hx169_1
           try clear hx172_0
           try clear hx172_1
           try clear p1
           try clear p16
           try clear p165
           try clear p167
           try clear p168
           try clear p169
           try clear p17
           try clear p172
           try clear p2
           try clear p6
           try clear q1
           try clear q16
           try clear q165
           try clear q167
           try clear q168
           try clear q169
           try clear q17
           try clear q172
           obtain ⟨x10_4, x11_4, rfl, rfl, HA, HK4, HB⟩ := hrel
           cases gk with
           | zero => exact absurd HA.out (by simp [tendrilref1_Shape.l0])
           | succ k4 =>
            have H := HA.out
            clear HA
            simp only [tendrilref1_Shape.l0] at H
            by_cases c42 : x11_4 < (l0.length : Int)
            ·rw [if_pos c42] at H
             have c42b0 : decide (x11_4 < (l0.length : Int)) = true := decide_eq_true c42
             clear c42
             by_cases c43 : 0 ≤ x11_4
             ·rw [if_pos c43] at H
              have c43b0 : decide (0 ≤ x11_4) = true := decide_eq_true c43
              clear c43
              by_cases c44 : ((rd_T23 l0 x11_4).f0).size + 1 ≤ 9223372036854775807
              ·rw [if_pos c44] at H
               have c44b0 := eq_true c44
               have c44b1 : decide (((rd_T23 l0 x11_4).f0).size + 1 ≤ 9223372036854775807) = true := decide_eq_true c44
               try have c44b2 : (9223372036854775807 < ((rd_T23 l0 x11_4).f0).size + 1) = False := eq_false (Nat.not_lt.2 c44)
               obtain ⟨ji45, hji45⟩ : ∃ j_ : Int, (wrap64 (a1 + x7_14)) = j_ := ⟨_, rfl⟩
               replace H : (if 0 ≤ (ji45) then (if (ji45) < ((((rd_T23 l0 x11_4).f0) ++ (⟨#[0]⟩ : ByteArray)).size : Int) then (tendrilref1_Shape.l1 k4 l0 a1 x7_14 x10_4 x11_4 (bt (((rd_T23 l0 x11_4).f0) ++ (⟨#[0]⟩ : ByteArray)) (ji45)) x11_4) else (none)) else (none)) = some r := by first | (rw [hji45] at H; exact H) | (simp only [hji45] at H ⊢; exact H)
               have hji45w : (IntKind.i64.wrap (a1 + x7_14)) = ji45 := (i64_w _).trans hji45
               by_cases c46 : 0 ≤ (ji45)
               ·rw [if_pos c46] at H
                have c46b0 : decide (0 ≤ (ji45)) = true := decide_eq_true c46
                clear c46
                by_cases c47 : (ji45) < ((((rd_T23 l0 x11_4).f0) ++ (⟨#[0]⟩ : ByteArray)).size : Int)
                ·rw [if_pos c47] at H
                 (try (have c47b9 := c47; simp only [ByteArray.size_append, size1_8, Int.natCast_add, Int.cast_ofNat_Int] at c47b9; replace c47b9 := eq_true c47b9))
                 (try (have c47b7 := c47; simp only [ByteArray.size_append, size1_8, Int.natCast_add, Int.cast_ofNat_Int] at c47b7; replace c47b7 := decide_eq_true c47b7))
                 have c47b0 : decide ((ji45) < ((((rd_T23 l0 x11_4).f0) ++ (⟨#[0]⟩ : ByteArray)).size : Int)) = true := decide_eq_true c47
                 clear c47
                 have H' := Aside0.mk H
                 clear H
                 have p173 : 0 ≤ (x11_4 : Int) := of_decide_eq_true (by first | (with_reducible assumption) | assumption)
                 have q173 : x11_4 < (l0.length : Int) := of_decide_eq_true (by first | (with_reducible assumption) | assumption)
                 obtain ⟨ad173, e173, hx173_0, hx173_1⟩ := at_T23 HR0.out x11_4 p173 q173
                 cases e173
                 replace hx173_0 := (HB.out.cell (World.block_lt_of_cell? w _ hx173_0)).trans hx173_0
                 replace hx173_1 := (HB.out.cell (World.block_lt_of_cell? w _ hx173_1)).trans hx173_1
                 replace p173 := eq_true p173
                 replace q173 := eq_true q173
                 have p48 : 0 ≤ ((ji45) : Int) := of_decide_eq_true (by first | (with_reducible assumption) | assumption)
                 have q48 : (ji45) < ((((rd_T23 l0 x11_4).f0) ++ (⟨#[0]⟩ : ByteArray)).size : Int) := of_decide_eq_true (by first | (with_reducible assumption) | assumption)
                 have hx48 := bt_at (((rd_T23 l0 x11_4).f0) ++ (⟨#[0]⟩ : ByteArray)) (ji45)
                 replace p48 := eq_true p48
                 replace q48 := eq_true q48
                 go_wp2
                 go_loopg [13] k4 (fun kq v13 w' => ∃ (x13_5 : Int), v13 = .int .i64 x13_5 ∧ Aside0 (tendrilref1_Shape.l1 kq l0 a1 x7_14 x10_4 x11_4 (bt (((rd_T23 l0 x11_4).f0) ++ (⟨#[0]⟩ : ByteArray)) (ji45)) x13_5 = some r) ∧ Aside0 (kq ≤ k4) ∧ Aside0 (Below w.heap.size w w'))
                 case atStart => exact ⟨(x11_4), (by first | rfl | (simp; done) | (simp [*]; done)), H', ⟨Nat.le_refl _⟩, ⟨by repeat (first | (with_reducible first | exact HB.out | apply below_alloc | apply pw_below_drewN | apply below_drew1) | exact HB.out)⟩⟩
                 case round =>
                  clear H'
                  try clear c1
                  try clear p1
                  try clear q1
                  try clear hx1
                  try clear qi1
                  try clear c2
                  try clear p2
                  try clear c3
                  try clear c4
                  try clear p4
                  try clear q4
                  try clear hx4
                  try clear c5
                  try clear c5b0
                  try clear c5b1
                  try clear c6
                  try clear p6
                  try clear c7
                  try clear c7b0
                  try clear c7b1
                  try clear c9
                  try clear c9b0
                  try clear c9b1
                  try clear c9b2
                  try clear c10
                  try clear c10b0
                  try clear c10b1
                  try clear c10b2
                  try clear c11
                  try clear c11b0
                  try clear c11b1
                  try clear c11b2
                  try clear c12
                  try clear c12b0
                  try clear c12b1
                  try clear c12b2
                  try clear c16
                  try clear p16
                  try clear q16
                  try clear hx16
                  try clear qi16
                  try clear c17
                  try clear c17b0
                  try clear c17b1
                  try clear p17
                  try clear q17
                  try clear hx17
                  try clear qi17
                  try clear c18
                  try clear c18b0
                  try clear c18b1
                  try clear c18b2
                  try clear c20
                  try clear c20b0
                  try clear c21
                  try clear c21b0
                  try clear c22
                  try clear c22b0
                  try clear c22b1
                  try clear c22b2
                  try clear c23
                  try clear c23b0
                  try clear c23b1
                  try clear c24
                  try clear c24b0
                  try clear c24b1
                  try clear c25
                  try clear c25b0
                  try clear c26
                  try clear c26b0
                  try clear c26b1
                  try clear c27
                  try clear c31
                  try clear c31b0
                  try clear c31b1
                  try clear c31b2
                  try clear c32
                  try clear c32b0
                  try clear c32b1
                  try clear c32b2
                  try clear c35
                  try clear c35b0
                  try clear c36
                  try clear c36b0
                  try clear c36b1
                  try clear c37
                  try clear c37b0
                  try clear c37b1
                  try clear c37b2
                  try clear c38
                  try clear c38b0
                  try clear c38b1
                  try clear c39
                  try clear c39b0
                  try clear c39b1
                  try clear c40
                  try clear c40b0
                  try clear c40b1
                  try clear c41
                  try clear c41b0
                  try clear c41b1
                  try clear c41b2
                  try clear c42
                  try clear c42b0
                  try clear c43
                  try clear c43b0
                  try clear c44
                  try clear c44b0
                  try clear c44b1
                  try clear c44b2
                  try clear c46
                  try clear c46b0
                  try clear c47
                  try clear c47b0
                  try clear p48
                  try clear q48
                  try clear hx48
                  try clear hx165_0
                  try clear hx165_1
                  try clear hx167_0
                  try clear hx167_1
                  try clear hx168_0
                  try clear hx168_1
                  try clear hx169_0
                  try clear hx169_1
                  try clear hx172_0
                  try clear hx172_1
                  try clear hx173_0
                  try clear hx173_1
                  try clear p1
                  try clear p16
                  try clear p165
                  try clear p167
                  try clear p168
                  try clear p169
                  try clear p17
                  try clear p172
                  try clear p173
                  try clear p2
                  try clear p48
                  try clear p6
                  try clear q1
                  try clear q16
                  try clear q165
                  try clear q167
                  try clear q168
                  try clear q169
                  try clear q17
                  try clear q172
                  try clear q173
                  try clear q48
                  obtain ⟨x13_5, rfl, HA, HK5, HB⟩ := hrel
                  cases gk with
                  | zero => exact absurd HA.out (by simp [tendrilref1_Shape.l1])
                  | succ k5 =>
                   have H := HA.out
                   clear HA
                   simp only [tendrilref1_Shape.l1] at H
                   by_cases c49 : x13_5 < (l0.length : Int)
                   ·rw [if_pos c49] at H
                    have c49b0 : decide (x13_5 < (l0.length : Int)) = true := decide_eq_true c49
                    clear c49
                    by_cases c50 : 0 ≤ x13_5
                    ·rw [if_pos c50] at H
                     have c50b0 : decide (0 ≤ x13_5) = true := decide_eq_true c50
                     clear c50
                     by_cases c51 : ((rd_T23 l0 x13_5).f0).size + 1 ≤ 9223372036854775807
                     ·rw [if_pos c51] at H
                      have c51b0 := eq_true c51
                      have c51b1 : decide (((rd_T23 l0 x13_5).f0).size + 1 ≤ 9223372036854775807) = true := decide_eq_true c51
                      try have c51b2 : (9223372036854775807 < ((rd_T23 l0 x13_5).f0).size + 1) = False := eq_false (Nat.not_lt.2 c51)
                      have hji52 := hji45
                      replace H : (if 0 ≤ (ji45) then (if (ji45) < ((((rd_T23 l0 x13_5).f0) ++ (⟨#[0]⟩ : ByteArray)).size : Int) then (if (bt (((rd_T23 l0 x13_5).f0) ++ (⟨#[0]⟩ : ByteArray)) (ji45)) = (bt (((rd_T23 l0 x11_4).f0) ++ (⟨#[0]⟩ : ByteArray)) (ji45)) then (tendrilref1_Shape.l1 k5 l0 a1 x7_14 x10_4 x11_4 (bt (((rd_T23 l0 x11_4).f0) ++ (⟨#[0]⟩ : ByteArray)) (ji45)) (wrap64 (x13_5 + 1))) else (if x10_4.size + 1 ≤ 9223372036854775807 then ((some (([(bt (((rd_T23 l0 x11_4).f0) ++ (⟨#[0]⟩ : ByteArray)) (ji45))] : List Int) : List Int)).bind fun y175 => (if (x10_4 ++ (⟨#[91]⟩ : ByteArray)).size + (strOfNums y175).size ≤ 9223372036854775807 then (if 0 ≤ x11_4 then (if x11_4 ≤ x13_5 then (if x13_5 ≤ (l0.length : Int) then ((tendrilref1_Shape.f k5 ((l0.take (x13_5 : Int).toNat).drop (x11_4 : Int).toNat) (wrap64 ((ji45) + 1)) false).bind fun t182 => (if ((x10_4 ++ (⟨#[91]⟩ : ByteArray)) ++ (strOfNums y175)).size + t182.size ≤ 9223372036854775807 then (if (((x10_4 ++ (⟨#[91]⟩ : ByteArray)) ++ (strOfNums y175)) ++ t182).size + 1 ≤ 9223372036854775807 then (tendrilref1_Shape.l0 k5 l0 a1 x7_14 ((((x10_4 ++ (⟨#[91]⟩ : ByteArray)) ++ (strOfNums y175)) ++ t182) ++ (⟨#[93]⟩ : ByteArray)) x13_5) else (none)) else (none))) else (none)) else (none)) else (none)) else (none))) else (none))) else (none)) else (none)) = some r := by first | (rw [hji52] at H; exact H) | (simp only [hji52] at H ⊢; exact H)
                      have hji52w : (IntKind.i64.wrap (a1 + x7_14)) = ji45 := (i64_w _).trans hji52
                      by_cases c53 : 0 ≤ (ji45)
                      ·rw [if_pos c53] at H
                       have c53b0 : decide (0 ≤ (ji45)) = true := decide_eq_true c53
                       clear c53
                       by_cases c54 : (ji45) < ((((rd_T23 l0 x13_5).f0) ++ (⟨#[0]⟩ : ByteArray)).size : Int)
                       ·rw [if_pos c54] at H
                        (try (have c54b9 := c54; simp only [ByteArray.size_append, size1_8, Int.natCast_add, Int.cast_ofNat_Int] at c54b9; replace c54b9 := eq_true c54b9))
                        (try (have c54b7 := c54; simp only [ByteArray.size_append, size1_8, Int.natCast_add, Int.cast_ofNat_Int] at c54b7; replace c54b7 := decide_eq_true c54b7))
                        have c54b0 : decide ((ji45) < ((((rd_T23 l0 x13_5).f0) ++ (⟨#[0]⟩ : ByteArray)).size : Int)) = true := decide_eq_true c54
                        clear c54
                        by_cases c56 : (bt (((rd_T23 l0 x13_5).f0) ++ (⟨#[0]⟩ : ByteArray)) (ji45)) = (bt (((rd_T23 l0 x11_4).f0) ++ (⟨#[0]⟩ : ByteArray)) (ji45))
                        ·rw [if_pos c56] at H
                         have c56b0 : ((bt (((rd_T23 l0 x13_5).f0) ++ (⟨#[0]⟩ : ByteArray)) (ji45)) == (bt (((rd_T23 l0 x11_4).f0) ++ (⟨#[0]⟩ : ByteArray)) (ji45))) = true := beq_iff_eq.mpr c56
                         have c56b1 : ((bt (((rd_T23 l0 x13_5).f0) ++ (⟨#[0]⟩ : ByteArray)) (ji45)) != (bt (((rd_T23 l0 x11_4).f0) ++ (⟨#[0]⟩ : ByteArray)) (ji45))) = false := bne_eq_false_iff_eq.mpr c56
                         clear c56
                         have H' := Aside0.mk H
                         clear H
                         have p174 : 0 ≤ (x13_5 : Int) := of_decide_eq_true (by first | (with_reducible assumption) | assumption)
                         have q174 : x13_5 < (l0.length : Int) := of_decide_eq_true (by first | (with_reducible assumption) | assumption)
                         obtain ⟨ad174, e174, hx174_0, hx174_1⟩ := at_T23 HR0.out x13_5 p174 q174
                         obtain rfl : ad173 = ad174 := (by injection e174)
                         replace hx174_0 := (HB.out.cell (World.block_lt_of_cell? w _ hx174_0)).trans hx174_0
                         replace hx174_1 := (HB.out.cell (World.block_lt_of_cell? w _ hx174_1)).trans hx174_1
                         replace p174 := eq_true p174
                         replace q174 := eq_true q174
                         have p55 : 0 ≤ ((ji45) : Int) := of_decide_eq_true (by first | (with_reducible assumption) | assumption)
                         have q55 : (ji45) < ((((rd_T23 l0 x13_5).f0) ++ (⟨#[0]⟩ : ByteArray)).size : Int) := of_decide_eq_true (by first | (with_reducible assumption) | assumption)
                         have hx55 := bt_at (((rd_T23 l0 x13_5).f0) ++ (⟨#[0]⟩ : ByteArray)) (ji45)
                         replace p55 := eq_true p55
                         replace q55 := eq_true q55
                         go_wp2
                         go_roundg k5
                         case measure => have := HJ3.out; have := HJ14.out; have := HJ32.out; have := HK4.out; have := HK5.out; omega
                         case rel => exact ⟨(wrap64 (x13_5 + 1)), (by first | rfl | (simp; done) | (simp [*]; done)), H', ⟨by have := HJ3.out; have := HJ14.out; have := HJ32.out; have := HK4.out; have := HK5.out; omega⟩, ⟨by repeat (first | (with_reducible first | exact HB.out | apply below_alloc | apply pw_below_drewN | apply below_drew1) | exact HB.out)⟩⟩
                        ·rw [if_neg c56] at H
                         have c56b0 : ((bt (((rd_T23 l0 x13_5).f0) ++ (⟨#[0]⟩ : ByteArray)) (ji45)) == (bt (((rd_T23 l0 x11_4).f0) ++ (⟨#[0]⟩ : ByteArray)) (ji45))) = false := beq_eq_false_iff_ne.mpr c56
                         have c56b1 : ((bt (((rd_T23 l0 x13_5).f0) ++ (⟨#[0]⟩ : ByteArray)) (ji45)) != (bt (((rd_T23 l0 x11_4).f0) ++ (⟨#[0]⟩ : ByteArray)) (ji45))) = true := bne_iff_ne.mpr c56
                         by_cases c57 : x10_4.size + 1 ≤ 9223372036854775807
                         ·rw [if_pos c57] at H
                          have c57b0 := eq_true c57
                          have c57b1 : decide (x10_4.size + 1 ≤ 9223372036854775807) = true := decide_eq_true c57
                          try have c57b2 : (9223372036854775807 < x10_4.size + 1) = False := eq_false (Nat.not_lt.2 c57)
                          obtain ⟨y175, hy175⟩ : ∃ y_ : List Int, y_ = (([(bt (((rd_T23 l0 x11_4).f0) ++ (⟨#[0]⟩ : ByteArray)) (ji45))] : List Int)) := ⟨_, rfl⟩
                          replace H : (if (x10_4 ++ (⟨#[91]⟩ : ByteArray)).size + (strOfNums y175).size ≤ 9223372036854775807 then (if 0 ≤ x11_4 then (if x11_4 ≤ x13_5 then (if x13_5 ≤ (l0.length : Int) then ((tendrilref1_Shape.f k5 ((l0.take (x13_5 : Int).toNat).drop (x11_4 : Int).toNat) (wrap64 ((ji45) + 1)) false).bind fun t182 => (if ((x10_4 ++ (⟨#[91]⟩ : ByteArray)) ++ (strOfNums y175)).size + t182.size ≤ 9223372036854775807 then (if (((x10_4 ++ (⟨#[91]⟩ : ByteArray)) ++ (strOfNums y175)) ++ t182).size + 1 ≤ 9223372036854775807 then (tendrilref1_Shape.l0 k5 l0 a1 x7_14 ((((x10_4 ++ (⟨#[91]⟩ : ByteArray)) ++ (strOfNums y175)) ++ t182) ++ (⟨#[93]⟩ : ByteArray)) x13_5) else (none)) else (none))) else (none)) else (none)) else (none)) else (none)) = some r := by first | (rw [hy175]; with_reducible exact H) | (have H2_ := (Option.bind_some _ _).symm.trans H; rw [hy175]; with_reducible exact H2_) | (have H2_ := (Option.bind_some _ _).symm.trans H; with_reducible exact H2_) | with_reducible exact H | (rw [hy175]; exact H) | exact H
                          have Ny175 := Aside0.mk hy175
                          clear hy175
                          by_cases c58 : (x10_4 ++ (⟨#[91]⟩ : ByteArray)).size + (strOfNums y175).size ≤ 9223372036854775807
                          ·rw [if_pos c58] at H
                           (try (have c58b9 := c58; simp only [ByteArray.size_append, size1_8, Int.natCast_add, Int.cast_ofNat_Int] at c58b9; replace c58b9 := eq_true c58b9))
                           (try (have c58b7 := c58; simp only [ByteArray.size_append, size1_8, Int.natCast_add, Int.cast_ofNat_Int] at c58b7; replace c58b7 := decide_eq_true c58b7))
                           (try (have c58b8 := (Nat.not_lt.2 c58 : ¬ _); simp only [ByteArray.size_append, size1_8, Int.natCast_add, Int.cast_ofNat_Int] at c58b8; replace c58b8 := eq_false c58b8))
                           have c58b0 := eq_true c58
                           have c58b1 : decide ((x10_4 ++ (⟨#[91]⟩ : ByteArray)).size + (strOfNums y175).size ≤ 9223372036854775807) = true := decide_eq_true c58
                           try have c58b2 : (9223372036854775807 < (x10_4 ++ (⟨#[91]⟩ : ByteArray)).size + (strOfNums y175).size) = False := eq_false (Nat.not_lt.2 c58)
                           by_cases c59 : 0 ≤ x11_4
                           ·rw [if_pos c59] at H
                            have c59b0 := eq_true c59
                            have c59b1 : decide (0 ≤ x11_4) = true := decide_eq_true c59
                            clear c59
                            by_cases c60 : x11_4 ≤ x13_5
                            ·rw [if_pos c60] at H
                             have c60b0 := eq_true c60
                             have c60b1 : decide (x11_4 ≤ x13_5) = true := decide_eq_true c60
                             clear c60
                             by_cases c61 : x13_5 ≤ (l0.length : Int)
                             ·rw [if_pos c61] at H
                              have c61b0 := eq_true c61
                              have c61b1 : decide (x13_5 ≤ (l0.length : Int)) = true := decide_eq_true c61
                              clear c61
                              obtain ⟨y178, hy178⟩ : ∃ y_ : List (S23), y_ = ((l0.take (x13_5 : Int).toNat).drop (x11_4 : Int).toNat) := ⟨_, rfl⟩
                              replace H : ((tendrilref1_Shape.f k5 y178 (wrap64 ((ji45) + 1)) false).bind fun t182 => (if ((x10_4 ++ (⟨#[91]⟩ : ByteArray)) ++ (strOfNums y175)).size + t182.size ≤ 9223372036854775807 then (if (((x10_4 ++ (⟨#[91]⟩ : ByteArray)) ++ (strOfNums y175)) ++ t182).size + 1 ≤ 9223372036854775807 then (tendrilref1_Shape.l0 k5 l0 a1 x7_14 ((((x10_4 ++ (⟨#[91]⟩ : ByteArray)) ++ (strOfNums y175)) ++ t182) ++ (⟨#[93]⟩ : ByteArray)) x13_5) else (none)) else (none))) = some r := by first | (rw [hy178]; with_reducible exact H) | (have H2_ := (Option.bind_some _ _).symm.trans H; rw [hy178]; with_reducible exact H2_) | (have H2_ := (Option.bind_some _ _).symm.trans H; with_reducible exact H2_) | with_reducible exact H | (rw [hy178]; exact H) | exact H
                              have Ny178 := Aside0.mk hy178
                              clear hy178
                              replace H := Option.bind_eq_some_iff.mp H
                              obtain ⟨t182, A620, H⟩ := H
                              replace H : (if ((x10_4 ++ (⟨#[91]⟩ : ByteArray)) ++ (strOfNums y175)).size + t182.size ≤ 9223372036854775807 then (if (((x10_4 ++ (⟨#[91]⟩ : ByteArray)) ++ (strOfNums y175)) ++ t182).size + 1 ≤ 9223372036854775807 then (tendrilref1_Shape.l0 k5 l0 a1 x7_14 ((((x10_4 ++ (⟨#[91]⟩ : ByteArray)) ++ (strOfNums y175)) ++ t182) ++ (⟨#[93]⟩ : ByteArray)) x13_5) else (none)) else (none)) = some r := H
                              have A62 := Aside0.mk A620
                              clear A620
                              by_cases c63 : ((x10_4 ++ (⟨#[91]⟩ : ByteArray)) ++ (strOfNums y175)).size + t182.size ≤ 9223372036854775807
                              ·rw [if_pos c63] at H
                               (try (have c63b9 := c63; simp only [ByteArray.size_append, size1_8, Int.natCast_add, Int.cast_ofNat_Int] at c63b9; replace c63b9 := eq_true c63b9))
                               (try (have c63b7 := c63; simp only [ByteArray.size_append, size1_8, Int.natCast_add, Int.cast_ofNat_Int] at c63b7; replace c63b7 := decide_eq_true c63b7))
                               (try (have c63b8 := (Nat.not_lt.2 c63 : ¬ _); simp only [ByteArray.size_append, size1_8, Int.natCast_add, Int.cast_ofNat_Int] at c63b8; replace c63b8 := eq_false c63b8))
                               have c63b0 := eq_true c63
                               have c63b1 : decide (((x10_4 ++ (⟨#[91]⟩ : ByteArray)) ++ (strOfNums y175)).size + t182.size ≤ 9223372036854775807) = true := decide_eq_true c63
                               try have c63b2 : (9223372036854775807 < ((x10_4 ++ (⟨#[91]⟩ : ByteArray)) ++ (strOfNums y175)).size + t182.size) = False := eq_false (Nat.not_lt.2 c63)
                               by_cases c64 : (((x10_4 ++ (⟨#[91]⟩ : ByteArray)) ++ (strOfNums y175)) ++ t182).size + 1 ≤ 9223372036854775807
                               ·rw [if_pos c64] at H
                                (try (have c64b9 := c64; simp only [ByteArray.size_append, size1_8, Int.natCast_add, Int.cast_ofNat_Int] at c64b9; replace c64b9 := eq_true c64b9))
                                (try (have c64b7 := c64; simp only [ByteArray.size_append, size1_8, Int.natCast_add, Int.cast_ofNat_Int] at c64b7; replace c64b7 := decide_eq_true c64b7))
                                (try (have c64b8 := (Nat.not_lt.2 c64 : ¬ _); simp only [ByteArray.size_append, size1_8, Int.natCast_add, Int.cast_ofNat_Int] at c64b8; replace c64b8 := eq_false c64b8))
                                have c64b0 := eq_true c64
                                have c64b1 : decide ((((x10_4 ++ (⟨#[91]⟩ : ByteArray)) ++ (strOfNums y175)) ++ t182).size + 1 ≤ 9223372036854775807) = true := decide_eq_true c64
                                try have c64b2 : (9223372036854775807 < (((x10_4 ++ (⟨#[91]⟩ : ByteArray)) ++ (strOfNums y175)) ++ t182).size + 1) = False := eq_false (Nat.not_lt.2 c64)
                                have H' := Aside0.mk H
                                clear H
                                have p174 : 0 ≤ (x13_5 : Int) := of_decide_eq_true (by first | (with_reducible assumption) | assumption)
                                have q174 : x13_5 < (l0.length : Int) := of_decide_eq_true (by first | (with_reducible assumption) | assumption)
                                obtain ⟨ad174, e174, hx174_0, hx174_1⟩ := at_T23 HR0.out x13_5 p174 q174
                                obtain rfl : ad173 = ad174 := (by injection e174)
                                replace hx174_0 := (HB.out.cell (World.block_lt_of_cell? w _ hx174_0)).trans hx174_0
                                replace hx174_1 := (HB.out.cell (World.block_lt_of_cell? w _ hx174_1)).trans hx174_1
                                replace p174 := eq_true p174
                                replace q174 := eq_true q174
                                have p55 : 0 ≤ ((ji45) : Int) := of_decide_eq_true (by first | (with_reducible assumption) | assumption)
                                have q55 : (ji45) < ((((rd_T23 l0 x13_5).f0) ++ (⟨#[0]⟩ : ByteArray)).size : Int) := of_decide_eq_true (by first | (with_reducible assumption) | assumption)
                                have hx55 := bt_at (((rd_T23 l0 x13_5).f0) ++ (⟨#[0]⟩ : ByteArray)) (ji45)
                                replace p55 := eq_true p55
                                replace q55 := eq_true q55
                                try go_wp2
                                have n0_ := Aside0.mk (below_drew1 HB.out)
                                clear HB
                                have HB := n0_
                                clear n0_
                                have q66 : (x13_5 : Int) ≤ ((l0.length : Int) : Int) := of_decide_eq_true (by first | (with_reducible assumption) | assumption)
                                obtain ⟨i066, hi066, _, hsz66, _⟩ := info_parts info23
                                have hroom66 : l0.length ≤ c0 := HC0.out
                                have hC66 : Kd.C k23 _ (some ad173) l0.length l0 := HR0.out
                                have ql66 : (x11_4 : Int) ≤ (x13_5 : Int) := of_decide_eq_true (by first | (with_reducible assumption) | assumption)
                                have q066 : (0 : Int) ≤ (x11_4 : Int) := of_decide_eq_true (by first | (with_reducible assumption) | assumption)
                                have hcut66 := cut_mid (P := Tryd.prog) 25 23 .i64 .i64 Tryd.underlying25 hi066 2 hsz66 (some ad173) l0.length c0 x11_4 x13_5 q066 ql66 q66 hroom66
                                have hr66 := Kd.C_mid (lo := (x11_4 : Int).toNat) (hi := (x13_5 : Int).toNat) (c := c0) hC66 (by omega) (by omega) hroom66
                                obtain ⟨A66, hA66⟩ : ∃ A1, A1 = (if c0 = (x11_4 : Int).toNat then (some ad173) else ((some ad173) : Option Addr).map (·.add ((x11_4 : Int).toNat * 2))) := ⟨_, rfl⟩
                                obtain ⟨c66, hc66⟩ : ∃ c1, c1 = c0 - (x11_4 : Int).toNat := ⟨_, rfl⟩
                                have hy66 : y178.length = (x13_5 : Int).toNat - (x11_4 : Int).toNat := (by rw [Ny178.out, List.length_drop, List.length_take] <;> omega)
                                rw [show ((l0).take (x13_5 : Int).toNat).drop (x11_4 : Int).toNat = y178 from Ny178.out.symm] at hr66
                                replace hr66 : Kd.C k23 _ A66 y178.length y178 := (by rw [hA66]; exact hr66)
                                rw [← hy66, ← hA66, ← hc66] at hcut66
                                have HR181 := Aside0.mk hr66
                                have HC181 := Aside0.mk (show y178.length ≤ c66 from by rw [hy66, hc66]; exact Nat.sub_le_sub_right (Nat.le_trans (by omega) hroom66) _)
                                clear hr66 hC66 hroom66 hi066 hsz66 hc66
                                have KY66 := Aside0.mk hy66
                                have KA66 := Aside0.mk hA66
                                clear hy66 hA66
                                replace q66 := eq_true q66
                                refine start_ (n := 18) (S := fun w' => True) (ds := []) #[false, false, false, false, false, false, false, false, false, false, false, false, false, false, false, false, false, false] (by kernel_rfl) rfl rfl trivial (fun hHeld => ?_); refine with_tabW tendrilref1_Shape.tab16 tendrilref1_Shape.bits16 (fun HT_ HW_ => ?_)
                                generalize wr.drew = w65 at HB HR181 hHeld ⊢
                                refine pure_ (i := 0) (N := some 110) (v := ?_) (a' := ?_) #[true, false, false, false, false, false, false, false, false, false, false, false, false, false, false, false, false, false] rfl rfl (any_of HT_.out (by kernel_rfl)) (fun _ _ _ h => h) (Or.inl ⟨by rfl, ?_⟩) ?_ ?_
                                rotate_left
                                ·intro w'
                                 go_simp
                                 with_reducible rfl
                                rotate_left
                                ·simp only [Act.put, List.setIfInBounds_toArray, List.set_cons_zero, List.set_cons_succ, i64_w, i32_w]
                                 rfl
                                refine pure_ (i := 1) (N := some 111) (v := ?_) (a' := ?_) #[true, true, false, false, false, false, false, false, false, false, false, false, false, false, false, false, false, false] rfl rfl (any_of HT_.out (by kernel_rfl)) (fun _ _ _ h => h) (Or.inl ⟨by rfl, ?_⟩) ?_ ?_
                                rotate_left
                                ·intro w'
                                 go_simp
                                 with_reducible rfl
                                rotate_left
                                ·simp only [Act.put, List.setIfInBounds_toArray, List.set_cons_zero, List.set_cons_succ, i64_w, i32_w]
                                 rfl
                                refine pure_ (i := 2) (N := some 112) (v := ?_) (a' := ?_) #[true, true, true, false, false, false, false, false, false, false, false, false, false, false, false, false, false, false] rfl rfl (any_of HT_.out (by kernel_rfl)) (fun _ _ _ h => h) (Or.inl ⟨by rfl, ?_⟩) ?_ ?_
                                rotate_left
                                ·intro w'
                                 go_simp
                                 with_reducible rfl
                                rotate_left
                                ·simp only [Act.put, List.setIfInBounds_toArray, List.set_cons_zero, List.set_cons_succ, i64_w, i32_w]
                                 rfl
                                refine pure_ (i := 6) (N := some 116) (v := ?_) (a' := ?_) #[true, true, true, false, false, false, true, false, false, false, false, false, false, false, false, false, false, false] rfl rfl (any_of HT_.out (by kernel_rfl)) (fun _ _ _ h => h) (Or.inl ⟨by rfl, ?_⟩) ?_ ?_
                                rotate_left
                                ·intro w'
                                 go_simp
                                 with_reducible rfl
                                rotate_left
                                ·simp only [Act.put, List.setIfInBounds_toArray, List.set_cons_zero, List.set_cons_succ, i64_w, i32_w]
                                 rfl
                                refine pure_ (i := 7) (N := some 117) (v := ?_) (a' := ?_) #[true, true, true, false, false, false, true, true, false, false, false, false, false, false, false, false, false, false] rfl rfl (any_of HT_.out (by kernel_rfl)) (fun _ _ _ h => h) (Or.inl ⟨by rfl, ?_⟩) ?_ ?_
                                rotate_left
                                ·intro w'
                                 go_simp
                                 with_reducible rfl
                                rotate_left
                                ·simp only [Act.put, List.setIfInBounds_toArray, List.set_cons_zero, List.set_cons_succ, i64_w, i32_w]
                                 rfl
                                refine pure_ (i := 8) (N := some 118) (v := ?_) (a' := ?_) #[true, true, true, false, false, false, true, true, true, false, false, false, false, false, false, false, false, false] rfl rfl (any_of HT_.out (by kernel_rfl)) (fun _ _ _ h => h) (Or.inl ⟨by rfl, ?_⟩) ?_ ?_
                                rotate_left
                                ·intro w'
                                 go_simp
                                 with_reducible rfl
                                rotate_left
                                ·simp only [Act.put, List.setIfInBounds_toArray, List.set_cons_zero, List.set_cons_succ, i64_w, i32_w]
                                 rfl
                                refine pure_ (i := 9) (N := some 119) (v := ?_) (a' := ?_) #[true, true, true, false, false, false, true, true, true, true, false, false, false, false, false, false, false, false] rfl rfl (any_of HT_.out (by kernel_rfl)) (fun _ _ _ h => h) (Or.inl ⟨by rfl, ?_⟩) ?_ ?_
                                rotate_left
                                ·intro w'
                                 go_simp
                                 with_reducible rfl
                                rotate_left
                                ·simp only [Act.put, List.setIfInBounds_toArray, List.set_cons_zero, List.set_cons_succ, i64_w, i32_w]
                                 rfl
                                refine pure_ (i := 10) (N := some 120) (v := ?_) (a' := ?_) #[true, true, true, false, false, false, true, true, true, true, true, false, false, false, false, false, false, false] rfl rfl (any_of HT_.out (by kernel_rfl)) (fun _ _ _ h => h) (Or.inl ⟨by rfl, ?_⟩) ?_ ?_
                                rotate_left
                                ·intro w'
                                 go_simp
                                 with_reducible rfl
                                rotate_left
                                ·simp only [Act.put, List.setIfInBounds_toArray, List.set_cons_zero, List.set_cons_succ, i64_w, i32_w]
                                 rfl
                                refine pure_ (i := 11) (N := some 121) (v := ?_) (a' := ?_) #[true, true, true, false, false, false, true, true, true, true, true, true, false, false, false, false, false, false] rfl rfl (any_of HT_.out (by kernel_rfl)) (fun _ _ _ h => h) (Or.inl ⟨by rfl, ?_⟩) ?_ ?_
                                rotate_left
                                ·intro w'
                                 go_simp
                                 with_reducible rfl
                                rotate_left
                                ·simp only [Act.put, List.setIfInBounds_toArray, List.set_cons_zero, List.set_cons_succ, i64_w, i32_w]
                                 rfl
                                refine pure_ (i := 12) (N := some 122) (v := ?_) (a' := ?_) #[true, true, true, false, false, false, true, true, true, true, true, true, true, false, false, false, false, false] rfl rfl (any_of HT_.out (by kernel_rfl)) (fun _ _ _ h => h) (Or.inl ⟨by rfl, ?_⟩) ?_ ?_
                                rotate_left
                                ·intro w'
                                 go_simp
                                 with_reducible rfl
                                rotate_left
                                ·simp only [Act.put, List.setIfInBounds_toArray, List.set_cons_zero, List.set_cons_succ, i64_w, i32_w]
                                 rfl
                                refine pure_ (i := 13) (N := some 123) (v := ?_) (a' := ?_) #[true, true, true, false, false, false, true, true, true, true, true, true, true, true, false, false, false, false] rfl rfl (any_of HT_.out (by kernel_rfl)) (fun _ _ _ h => h) (Or.inl ⟨by rfl, ?_⟩) ?_ ?_
                                rotate_left
                                ·intro w'
                                 go_simp
                                 with_reducible rfl
                                rotate_left
                                ·simp only [Act.put, List.setIfInBounds_toArray, List.set_cons_zero, List.set_cons_succ, i64_w, i32_w]
                                 rfl
                                refine join_ (σ := Value) 3 #[true, true, true, true, true, true, true, true, true, true, true, true, true, true, true, false, false, false] (fun s_ => [(113, s_), (114, .string (strOfNums y175)), (124, .string t182), (115, .string ((x10_4 ++ (⟨#[91]⟩ : ByteArray)) ++ (strOfNums y175)))]) (fun s_ w' => (Kd.R (Kd.int .u8) 5 w' w.heap.size (fun _ => True) s_ y175) ∧ (Below w.heap.size w w')) ?_ ?_
                                rotate_left
                                ·intro hCont
                                 refine two_ (i := 3) (j := 14) (Ni := some 113) (Nj := some 124) #[true, true, true, true, false, false, true, true, true, true, true, true, true, true, false, false, false, false] #[true, true, true, false, false, false, true, true, true, true, true, true, true, true, true, false, false, false] rfl rfl rfl rfl (two_of HT_.out (by kernel_rfl)) (by decide) (by decide) (fun K hK => ?_) (fun K hK => ?_)
                                 ·skip
                                  refine Kd.R_lit_step (Kd.int .u8) _ 5 ?hg (N := 113) ?hd (xs := ([(bt (((rd_T23 l0 x11_4).f0) ++ (⟨#[0]⟩ : ByteArray)) (ji45))] : List Int)) (inner := [.int .u8 (bt (((rd_T23 l0 x11_4).f0) ++ (⟨#[0]⟩ : ByteArray)) (ji45))]) (ok := fun _ => True) (okp := fun _ => True) ?hr ?hp (fun _ hk => hk) trivial (Below.refl _ _) (Nat.le_refl _) (by simp) ?_; (case hd => rfl); (case hg => rfl); (case hr => first | (go_simp; done) | (go_simp; rfl)); (case hp => exact (Reps.one (show Kd.M (Kd.int .u8) _ _ _ (bt (((rd_T23 l0 x11_4).f0) ++ (⟨#[0]⟩ : ByteArray)) (ji45)) [.int .u8 (bt (((rd_T23 l0 x11_4).f0) ++ (⟨#[0]⟩ : ByteArray)) (ji45))] from rfl) (Reps.none _ _)))
                                  intro v176 w67 ho68 hb hg_ hnew_
                                  clear hg_ hnew_
                                  (first | rw [← Ny175.out] at ho68 | (simp only [Int.reduceToNat] at ho68; rw [← Ny175.out] at ho68))
                                  have n0_ := Aside0.mk (Kd.R_lower ho68 (below_size (by repeat (first | (with_reducible first | exact HB.out | apply below_alloc | apply pw_below_drewN | apply below_drew1) | exact HB.out))))
                                  have n1_ := Aside0.mk (below_step (by repeat (first | (with_reducible first | exact HB.out | apply below_alloc | apply pw_below_drewN | apply below_drew1) | exact HB.out)) hb)
                                  clear HB
                                  have HO177 := n0_
                                  have HB := n1_
                                  clear n0_ n1_
                                  clear hb ho68
                                  refine hK.out _ _ trivial (fun hHeld => ?_)
                                  clear hK K
                                  refine norm_ (a' := ?_) ?_ ?_
                                  rotate_left
                                  ·show Act.put _ (some 113) _ = _
                                   simp only [Act.put, List.setIfInBounds_toArray, List.set_cons_zero, List.set_cons_succ, i64_w, i32_w]
                                   rfl
                                  refine two_ (i := 4) (j := 14) (Ni := some 114) (Nj := some 124) #[true, true, true, true, true, false, true, true, true, true, true, true, true, true, false, false, false, false] #[true, true, true, true, false, false, true, true, true, true, true, true, true, true, true, false, false, false] rfl rfl rfl rfl (two_of HT_.out (by kernel_rfl)) (by decide) (by decide) (fun K hK => ?_) (fun K hK => ?_)
                                  ·skip
                                   have hcv69 := own_string (P := Tryd.prog) Tryd.underlying47 Tryd.underlying5 Tryd.underlying9 (Kd.own_of_R HO177.out)
                                   refine value_ (w1 := ?_) (v := ?_) (by rfl) rfl ?_ ?_
                                   rotate_left 2
                                   ·go_simp
                                    constructor
                                    ·rfl
                                    ·rfl
                                   clear hcv69
                                   refine hK.out _ _ trivial (fun hHeld => ?_)
                                   clear hK K
                                   refine norm_ (a' := ?_) ?_ ?_
                                   rotate_left
                                   ·show Act.put _ (some 114) _ = _
                                    simp only [Act.put, List.setIfInBounds_toArray, List.set_cons_zero, List.set_cons_succ, i64_w, i32_w]
                                    rfl
                                   refine pure_ (i := 5) (N := some 115) (v := ?_) (a' := ?_) #[true, true, true, true, true, true, true, true, true, true, true, true, true, true, false, false, false, false] rfl rfl (any_of HT_.out (by kernel_rfl)) (fun _ _ _ h => h) (Or.inl ⟨by rfl, ?_⟩) ?_ ?_
                                   rotate_left
                                   ·intro w'
                                    go_simp
                                    with_reducible rfl
                                   rotate_left
                                   ·simp only [Act.put, List.setIfInBounds_toArray, List.set_cons_zero, List.set_cons_succ, i64_w, i32_w]
                                    rfl
                                   refine one_ (i := 14) (N := some 124) #[true, true, true, true, true, true, true, true, true, true, true, true, true, true, true, false, false, false] rfl rfl (one_of HT_.out (by kernel_rfl)) (by decide) (fun K hK => ?_)
                                   refine goes_ Tryd.func16 (by kernel_rfl) rfl #[.slice A66 y178.length c66, .int .i64 (wrap64 ((ji45) + 1)), .bool false] (by rfl) rfl rfl (by (try simp only [List.map_toArray, List.map_cons, List.map_nil]); first | done | (simp only [hji52]; rfl) | rfl | (simp only [List.length_drop, List.length_take]; rfl)) ?_
                                   with_reducible refine (ih k5 (by have := HJ3.out; have := HJ14.out; have := HJ32.out; have := HK4.out; have := HK5.out; omega) _ _ y178 (wrap64 ((ji45) + 1)) false t182 _ ?side1 ?side2 A62.out).mono ?_
                                   (case side1 => repeat (first | exact (Kd.C_below HR181.out HB.out) | (with_reducible refine Kd.C_alloc ?_ _) | (with_reducible refine Kd.C_drewN ?_ _) | (with_reducible refine Kd.C_drew ?_)))
                                   (case side2 => exact HC181.out)
                                   rintro e w70 ⟨rfl, hb⟩
                                   refine ⟨_, rfl, ?_⟩
                                   have n0_ := Aside0.mk (Kd.R_below (by (with_reducible repeat (first | apply Kd.R_alloc | apply Kd.R_drewN | apply Kd.R_drew)); exact HO177.out) hb)
                                   have n1_ := Aside0.mk (below_step (by repeat (first | (with_reducible first | exact HB.out | apply below_alloc | apply pw_below_drewN | apply below_drew1) | exact HB.out)) hb)
                                   clear HO177
                                   clear HB
                                   have HO177 := n0_
                                   have HB := n1_
                                   clear n0_ n1_
                                   (try clear hb)
                                   (try clear hb2)
                                   (try clear hk)
                                   (try clear hi)
                                   refine hK.out _ _ trivial (fun hHeld => ?_)
                                   clear hK K
                                   refine norm_ (a' := ?_) ?_ ?_
                                   rotate_left
                                   ·show Act.put _ (some 124) _ = _
                                    simp only [Act.put, List.setIfInBounds_toArray, List.set_cons_zero, List.set_cons_succ, i64_w, i32_w]
                                    rfl
                                   exact norm_ (by simp only [putAll, Act.put, List.setIfInBounds_toArray, List.set_cons_zero, List.set_cons_succ]) (hCont (v176) _ ⟨(by (with_reducible repeat (first | apply Kd.R_alloc | apply Kd.R_drewN | apply Kd.R_drew)); exact HO177.out), (by repeat (first | (with_reducible first | exact HB.out | apply below_alloc | apply pw_below_drewN | apply below_drew1) | exact HB.out))⟩)
                                  ·skip
                                   refine goes_ Tryd.func16 (by kernel_rfl) rfl #[.slice A66 y178.length c66, .int .i64 (wrap64 ((ji45) + 1)), .bool false] (by rfl) rfl rfl (by (try simp only [List.map_toArray, List.map_cons, List.map_nil]); first | done | (simp only [hji52]; rfl) | rfl | (simp only [List.length_drop, List.length_take]; rfl)) ?_
                                   with_reducible refine (ih k5 (by have := HJ3.out; have := HJ14.out; have := HJ32.out; have := HK4.out; have := HK5.out; omega) _ _ y178 (wrap64 ((ji45) + 1)) false t182 _ ?side1 ?side2 A62.out).mono ?_
                                   (case side1 => repeat (first | exact (Kd.C_below HR181.out HB.out) | (with_reducible refine Kd.C_alloc ?_ _) | (with_reducible refine Kd.C_drewN ?_ _) | (with_reducible refine Kd.C_drew ?_)))
                                   (case side2 => exact HC181.out)
                                   rintro e w69 ⟨rfl, hb⟩
                                   refine ⟨_, rfl, ?_⟩
                                   have n0_ := Aside0.mk (Kd.R_below (by (with_reducible repeat (first | apply Kd.R_alloc | apply Kd.R_drewN | apply Kd.R_drew)); exact HO177.out) hb)
                                   have n1_ := Aside0.mk (below_step (by repeat (first | (with_reducible first | exact HB.out | apply below_alloc | apply pw_below_drewN | apply below_drew1) | exact HB.out)) hb)
                                   clear HO177
                                   clear HB
                                   have HO177 := n0_
                                   have HB := n1_
                                   clear n0_ n1_
                                   (try clear hb)
                                   (try clear hb2)
                                   (try clear hk)
                                   (try clear hi)
                                   refine hK.out _ _ trivial (fun hHeld => ?_)
                                   clear hK K
                                   refine norm_ (a' := ?_) ?_ ?_
                                   rotate_left
                                   ·show Act.put _ (some 124) _ = _
                                    simp only [Act.put, List.setIfInBounds_toArray, List.set_cons_zero, List.set_cons_succ, i64_w, i32_w]
                                    rfl
                                   refine one_ (i := 4) (N := some 114) #[true, true, true, true, true, false, true, true, true, true, true, true, true, true, true, false, false, false] rfl rfl (one_of HT_.out (by kernel_rfl)) (by decide) (fun K hK => ?_)
                                   have hcv70 := own_string (P := Tryd.prog) Tryd.underlying47 Tryd.underlying5 Tryd.underlying9 (Kd.own_of_R HO177.out)
                                   refine value_ (w1 := ?_) (v := ?_) (by rfl) rfl ?_ ?_
                                   rotate_left 2
                                   ·go_simp
                                    constructor
                                    ·rfl
                                    ·rfl
                                   clear hcv70
                                   refine hK.out _ _ trivial (fun hHeld => ?_)
                                   clear hK K
                                   refine norm_ (a' := ?_) ?_ ?_
                                   rotate_left
                                   ·show Act.put _ (some 114) _ = _
                                    simp only [Act.put, List.setIfInBounds_toArray, List.set_cons_zero, List.set_cons_succ, i64_w, i32_w]
                                    rfl
                                   refine pure_ (i := 5) (N := some 115) (v := ?_) (a' := ?_) #[true, true, true, true, true, true, true, true, true, true, true, true, true, true, true, false, false, false] rfl rfl (any_of HT_.out (by kernel_rfl)) (fun _ _ _ h => h) (Or.inl ⟨by rfl, ?_⟩) ?_ ?_
                                   rotate_left
                                   ·intro w'
                                    go_simp
                                    with_reducible rfl
                                   rotate_left
                                   ·simp only [Act.put, List.setIfInBounds_toArray, List.set_cons_zero, List.set_cons_succ, i64_w, i32_w]
                                    rfl
                                   exact norm_ (by simp only [putAll, Act.put, List.setIfInBounds_toArray, List.set_cons_zero, List.set_cons_succ]) (hCont (v176) _ ⟨(by (with_reducible repeat (first | apply Kd.R_alloc | apply Kd.R_drewN | apply Kd.R_drew)); exact HO177.out), (by repeat (first | (with_reducible first | exact HB.out | apply below_alloc | apply pw_below_drewN | apply below_drew1) | exact HB.out))⟩)
                                 ·skip
                                  refine goes_ Tryd.func16 (by kernel_rfl) rfl #[.slice A66 y178.length c66, .int .i64 (wrap64 ((ji45) + 1)), .bool false] (by rfl) rfl rfl (by (try simp only [List.map_toArray, List.map_cons, List.map_nil]); first | done | (simp only [hji52]; rfl) | rfl | (simp only [List.length_drop, List.length_take]; rfl)) ?_
                                  with_reducible refine (ih k5 (by have := HJ3.out; have := HJ14.out; have := HJ32.out; have := HK4.out; have := HK5.out; omega) _ _ y178 (wrap64 ((ji45) + 1)) false t182 _ ?side1 ?side2 A62.out).mono ?_
                                  (case side1 => repeat (first | exact (Kd.C_below HR181.out HB.out) | (with_reducible refine Kd.C_alloc ?_ _) | (with_reducible refine Kd.C_drewN ?_ _) | (with_reducible refine Kd.C_drew ?_)))
                                  (case side2 => exact HC181.out)
                                  rintro e w67 ⟨rfl, hb⟩
                                  refine ⟨_, rfl, ?_⟩
                                  have n0_ := Aside0.mk (below_step (by repeat (first | (with_reducible first | exact HB.out | apply below_alloc | apply pw_below_drewN | apply below_drew1) | exact HB.out)) hb)
                                  clear HB
                                  have HB := n0_
                                  clear n0_
                                  (try clear hb)
                                  (try clear hb2)
                                  (try clear hk)
                                  (try clear hi)
                                  refine hK.out _ _ trivial (fun hHeld => ?_)
                                  clear hK K
                                  refine norm_ (a' := ?_) ?_ ?_
                                  rotate_left
                                  ·show Act.put _ (some 124) _ = _
                                   simp only [Act.put, List.setIfInBounds_toArray, List.set_cons_zero, List.set_cons_succ, i64_w, i32_w]
                                   rfl
                                  refine one_ (i := 3) (N := some 113) #[true, true, true, true, false, false, true, true, true, true, true, true, true, true, true, false, false, false] rfl rfl (one_of HT_.out (by kernel_rfl)) (by decide) (fun K hK => ?_)
                                  refine Kd.R_lit_step (Kd.int .u8) _ 5 ?hg (N := 113) ?hd (xs := ([(bt (((rd_T23 l0 x11_4).f0) ++ (⟨#[0]⟩ : ByteArray)) (ji45))] : List Int)) (inner := [.int .u8 (bt (((rd_T23 l0 x11_4).f0) ++ (⟨#[0]⟩ : ByteArray)) (ji45))]) (ok := fun _ => True) (okp := fun _ => True) ?hr ?hp (fun _ hk => hk) trivial (Below.refl _ _) (Nat.le_refl _) (by simp) ?_; (case hd => rfl); (case hg => rfl); (case hr => first | (go_simp; done) | (go_simp; rfl)); (case hp => exact (Reps.one (show Kd.M (Kd.int .u8) _ _ _ (bt (((rd_T23 l0 x11_4).f0) ++ (⟨#[0]⟩ : ByteArray)) (ji45)) [.int .u8 (bt (((rd_T23 l0 x11_4).f0) ++ (⟨#[0]⟩ : ByteArray)) (ji45))] from rfl) (Reps.none _ _)))
                                  intro v176 w68 ho69 hb hg_ hnew_
                                  clear hg_ hnew_
                                  (first | rw [← Ny175.out] at ho69 | (simp only [Int.reduceToNat] at ho69; rw [← Ny175.out] at ho69))
                                  have n0_ := Aside0.mk (Kd.R_lower ho69 (below_size (by repeat (first | (with_reducible first | exact HB.out | apply below_alloc | apply pw_below_drewN | apply below_drew1) | exact HB.out))))
                                  have n1_ := Aside0.mk (below_step (by repeat (first | (with_reducible first | exact HB.out | apply below_alloc | apply pw_below_drewN | apply below_drew1) | exact HB.out)) hb)
                                  clear HB
                                  have HO177 := n0_
                                  have HB := n1_
                                  clear n0_ n1_
                                  clear hb ho69
                                  refine hK.out _ _ trivial (fun hHeld => ?_)
                                  clear hK K
                                  refine norm_ (a' := ?_) ?_ ?_
                                  rotate_left
                                  ·show Act.put _ (some 113) _ = _
                                   simp only [Act.put, List.setIfInBounds_toArray, List.set_cons_zero, List.set_cons_succ, i64_w, i32_w]
                                   rfl
                                  refine one_ (i := 4) (N := some 114) #[true, true, true, true, true, false, true, true, true, true, true, true, true, true, true, false, false, false] rfl rfl (one_of HT_.out (by kernel_rfl)) (by decide) (fun K hK => ?_)
                                  have hcv70 := own_string (P := Tryd.prog) Tryd.underlying47 Tryd.underlying5 Tryd.underlying9 (Kd.own_of_R HO177.out)
                                  refine value_ (w1 := ?_) (v := ?_) (by rfl) rfl ?_ ?_
                                  rotate_left 2
                                  ·go_simp
                                   constructor
                                   ·rfl
                                   ·rfl
                                  clear hcv70
                                  refine hK.out _ _ trivial (fun hHeld => ?_)
                                  clear hK K
                                  refine norm_ (a' := ?_) ?_ ?_
                                  rotate_left
                                  ·show Act.put _ (some 114) _ = _
                                   simp only [Act.put, List.setIfInBounds_toArray, List.set_cons_zero, List.set_cons_succ, i64_w, i32_w]
                                   rfl
                                  refine pure_ (i := 5) (N := some 115) (v := ?_) (a' := ?_) #[true, true, true, true, true, true, true, true, true, true, true, true, true, true, true, false, false, false] rfl rfl (any_of HT_.out (by kernel_rfl)) (fun _ _ _ h => h) (Or.inl ⟨by rfl, ?_⟩) ?_ ?_
                                  rotate_left
                                  ·intro w'
                                   go_simp
                                   with_reducible rfl
                                  rotate_left
                                  ·simp only [Act.put, List.setIfInBounds_toArray, List.set_cons_zero, List.set_cons_succ, i64_w, i32_w]
                                   rfl
                                  exact norm_ (by simp only [putAll, Act.put, List.setIfInBounds_toArray, List.set_cons_zero, List.set_cons_succ]) (hCont (v176) _ ⟨(by (with_reducible repeat (first | apply Kd.R_alloc | apply Kd.R_drewN | apply Kd.R_drew)); exact HO177.out), (by repeat (first | (with_reducible first | exact HB.out | apply below_alloc | apply pw_below_drewN | apply below_drew1) | exact HB.out))⟩)
                                rintro v176 w71 ⟨h0_, h1_⟩
                                have n0_ : Aside0 (Kd.R (Kd.int .u8) 5 w71 w.heap.size (fun _ => True) v176 y175) := ⟨h0_⟩
                                have n1_ : Aside0 (Below w.heap.size w w71) := ⟨h1_⟩
                                clear HB
                                clear h0_ h1_
                                have HO177 := n0_
                                have HB := n1_
                                clear n0_ n1_
                                have hHeld := trivial
                                refine norm_ (a' := ?_) ?_ ?_
                                rotate_left
                                ·simp only [putAll, Act.put, List.setIfInBounds_toArray, List.set_cons_zero, List.set_cons_succ]
                                 rfl
                                refine pure_ (i := 15) (N := some 125) (v := ?_) (a' := ?_) #[true, true, true, true, true, true, true, true, true, true, true, true, true, true, true, true, false, false] rfl rfl (any_of HT_.out (by kernel_rfl)) (fun _ _ _ h => h) (Or.inl ⟨by rfl, ?_⟩) ?_ ?_
                                rotate_left
                                ·intro w'
                                 go_simp
                                 with_reducible rfl
                                rotate_left
                                ·simp only [Act.put, List.setIfInBounds_toArray, List.set_cons_zero, List.set_cons_succ, i64_w, i32_w]
                                 rfl
                                refine pure_ (i := 16) (N := some 126) (v := ?_) (a' := ?_) #[true, true, true, true, true, true, true, true, true, true, true, true, true, true, true, true, true, false] rfl rfl (any_of HT_.out (by kernel_rfl)) (fun _ _ _ h => h) (Or.inl ⟨by rfl, ?_⟩) ?_ ?_
                                rotate_left
                                ·intro w'
                                 go_simp
                                 with_reducible rfl
                                rotate_left
                                ·simp only [Act.put, List.setIfInBounds_toArray, List.set_cons_zero, List.set_cons_succ, i64_w, i32_w]
                                 rfl
                                refine pure_ (i := 17) (N := some 10) (v := ?_) (a' := ?_) #[true, true, true, true, true, true, true, true, true, true, true, true, true, true, true, true, true, true] rfl rfl (any_of HT_.out (by kernel_rfl)) (fun _ _ _ h => h) (Or.inl ⟨by rfl, ?_⟩) ?_ ?_
                                rotate_left
                                ·intro w'
                                 go_simp
                                 with_reducible rfl
                                rotate_left
                                ·simp only [Act.put, List.setIfInBounds_toArray, List.set_cons_zero, List.set_cons_succ, i64_w, i32_w]
                                 rfl
                                refine done_ (done_of HT_.out (by kernel_rfl)) ?_
                                try go_wp2
                                go_roundg k5
                                case measure => have := HJ3.out; have := HJ14.out; have := HJ32.out; have := HK4.out; have := HK5.out; omega
                                case rel => exact ⟨((((x10_4 ++ (⟨#[91]⟩ : ByteArray)) ++ (strOfNums y175)) ++ t182) ++ (⟨#[93]⟩ : ByteArray)), (x13_5), (by first | rfl | (simp; done) | (simp [*]; done)), (by first | rfl | (simp; done) | (simp [*]; done)), H', ⟨by have := HJ3.out; have := HJ14.out; have := HJ32.out; have := HK4.out; have := HK5.out; omega⟩, ⟨by repeat (first | (with_reducible first | exact HB.out | apply below_alloc | apply pw_below_drewN | apply below_drew1) | exact HB.out)⟩⟩
                               ·rw [if_neg c64] at H
                                exact absurd H (by simp)
                              ·rw [if_neg c63] at H
                               exact absurd H (by simp)
                             ·rw [if_neg c61] at H
                              exact absurd H (by simp)
                            ·rw [if_neg c60] at H
                             exact absurd H (by simp)
                           ·rw [if_neg c59] at H
                            exact absurd H (by simp)
                          ·rw [if_neg c58] at H
                           exact absurd H (by simp)
                         ·rw [if_neg c57] at H
                          exact absurd H (by simp)
                       ·rw [if_neg c54] at H
                        exact absurd H (by simp)
                      ·rw [if_neg c53] at H
                       exact absurd H (by simp)
                     ·rw [if_neg c51] at H
                      exact absurd H (by simp)
                    ·rw [if_neg c50] at H
                     exact absurd H (by simp)
                   ·rw [if_neg c49] at H
                    have c49b0 : decide (x13_5 < (l0.length : Int)) = false := decide_eq_false c49
                    clear c49
                    by_cases c72 : x10_4.size + 1 ≤ 9223372036854775807
                    ·rw [if_pos c72] at H
                     have c72b0 := eq_true c72
                     have c72b1 : decide (x10_4.size + 1 ≤ 9223372036854775807) = true := decide_eq_true c72
                     try have c72b2 : (9223372036854775807 < x10_4.size + 1) = False := eq_false (Nat.not_lt.2 c72)
                     obtain ⟨y183, hy183⟩ : ∃ y_ : List Int, y_ = (([(bt (((rd_T23 l0 x11_4).f0) ++ (⟨#[0]⟩ : ByteArray)) (ji45))] : List Int)) := ⟨_, rfl⟩
                     replace H : (if (x10_4 ++ (⟨#[91]⟩ : ByteArray)).size + (strOfNums y183).size ≤ 9223372036854775807 then (if 0 ≤ x11_4 then (if x11_4 ≤ x13_5 then (if x13_5 ≤ (l0.length : Int) then ((tendrilref1_Shape.f k5 ((l0.take (x13_5 : Int).toNat).drop (x11_4 : Int).toNat) (wrap64 ((wrap64 (a1 + x7_14)) + 1)) false).bind fun t190 => (if ((x10_4 ++ (⟨#[91]⟩ : ByteArray)) ++ (strOfNums y183)).size + t190.size ≤ 9223372036854775807 then (if (((x10_4 ++ (⟨#[91]⟩ : ByteArray)) ++ (strOfNums y183)) ++ t190).size + 1 ≤ 9223372036854775807 then (tendrilref1_Shape.l0 k5 l0 a1 x7_14 ((((x10_4 ++ (⟨#[91]⟩ : ByteArray)) ++ (strOfNums y183)) ++ t190) ++ (⟨#[93]⟩ : ByteArray)) x13_5) else (none)) else (none))) else (none)) else (none)) else (none)) else (none)) = some r := by first | (rw [hy183]; with_reducible exact H) | (have H2_ := (Option.bind_some _ _).symm.trans H; rw [hy183]; with_reducible exact H2_) | (have H2_ := (Option.bind_some _ _).symm.trans H; with_reducible exact H2_) | with_reducible exact H | (rw [hy183]; exact H) | exact H
                     have Ny183 := Aside0.mk hy183
                     clear hy183
                     by_cases c73 : (x10_4 ++ (⟨#[91]⟩ : ByteArray)).size + (strOfNums y183).size ≤ 9223372036854775807
                     ·rw [if_pos c73] at H
                      (try (have c73b9 := c73; simp only [ByteArray.size_append, size1_8, Int.natCast_add, Int.cast_ofNat_Int] at c73b9; replace c73b9 := eq_true c73b9))
                      (try (have c73b7 := c73; simp only [ByteArray.size_append, size1_8, Int.natCast_add, Int.cast_ofNat_Int] at c73b7; replace c73b7 := decide_eq_true c73b7))
                      (try (have c73b8 := (Nat.not_lt.2 c73 : ¬ _); simp only [ByteArray.size_append, size1_8, Int.natCast_add, Int.cast_ofNat_Int] at c73b8; replace c73b8 := eq_false c73b8))
                      have c73b0 := eq_true c73
                      have c73b1 : decide ((x10_4 ++ (⟨#[91]⟩ : ByteArray)).size + (strOfNums y183).size ≤ 9223372036854775807) = true := decide_eq_true c73
                      try have c73b2 : (9223372036854775807 < (x10_4 ++ (⟨#[91]⟩ : ByteArray)).size + (strOfNums y183).size) = False := eq_false (Nat.not_lt.2 c73)
                      by_cases c74 : 0 ≤ x11_4
                      ·rw [if_pos c74] at H
                       have c74b0 := eq_true c74
                       have c74b1 : decide (0 ≤ x11_4) = true := decide_eq_true c74
                       clear c74
                       by_cases c75 : x11_4 ≤ x13_5
                       ·rw [if_pos c75] at H
                        have c75b0 := eq_true c75
                        have c75b1 : decide (x11_4 ≤ x13_5) = true := decide_eq_true c75
                        clear c75
                        by_cases c76 : x13_5 ≤ (l0.length : Int)
                        ·rw [if_pos c76] at H
                         have c76b0 := eq_true c76
                         have c76b1 : decide (x13_5 ≤ (l0.length : Int)) = true := decide_eq_true c76
                         clear c76
                         obtain ⟨y186, hy186⟩ : ∃ y_ : List (S23), y_ = ((l0.take (x13_5 : Int).toNat).drop (x11_4 : Int).toNat) := ⟨_, rfl⟩
                         replace H : ((tendrilref1_Shape.f k5 y186 (wrap64 ((wrap64 (a1 + x7_14)) + 1)) false).bind fun t190 => (if ((x10_4 ++ (⟨#[91]⟩ : ByteArray)) ++ (strOfNums y183)).size + t190.size ≤ 9223372036854775807 then (if (((x10_4 ++ (⟨#[91]⟩ : ByteArray)) ++ (strOfNums y183)) ++ t190).size + 1 ≤ 9223372036854775807 then (tendrilref1_Shape.l0 k5 l0 a1 x7_14 ((((x10_4 ++ (⟨#[91]⟩ : ByteArray)) ++ (strOfNums y183)) ++ t190) ++ (⟨#[93]⟩ : ByteArray)) x13_5) else (none)) else (none))) = some r := by first | (rw [hy186]; with_reducible exact H) | (have H2_ := (Option.bind_some _ _).symm.trans H; rw [hy186]; with_reducible exact H2_) | (have H2_ := (Option.bind_some _ _).symm.trans H; with_reducible exact H2_) | with_reducible exact H | (rw [hy186]; exact H) | exact H
                         have Ny186 := Aside0.mk hy186
                         clear hy186
                         replace H := Option.bind_eq_some_iff.mp H
                         obtain ⟨t190, A770, H⟩ := H
                         replace H : (if ((x10_4 ++ (⟨#[91]⟩ : ByteArray)) ++ (strOfNums y183)).size + t190.size ≤ 9223372036854775807 then (if (((x10_4 ++ (⟨#[91]⟩ : ByteArray)) ++ (strOfNums y183)) ++ t190).size + 1 ≤ 9223372036854775807 then (tendrilref1_Shape.l0 k5 l0 a1 x7_14 ((((x10_4 ++ (⟨#[91]⟩ : ByteArray)) ++ (strOfNums y183)) ++ t190) ++ (⟨#[93]⟩ : ByteArray)) x13_5) else (none)) else (none)) = some r := H
                         have A77 := Aside0.mk A770
                         clear A770
                         by_cases c78 : ((x10_4 ++ (⟨#[91]⟩ : ByteArray)) ++ (strOfNums y183)).size + t190.size ≤ 9223372036854775807
                         ·rw [if_pos c78] at H
                          (try (have c78b9 := c78; simp only [ByteArray.size_append, size1_8, Int.natCast_add, Int.cast_ofNat_Int] at c78b9; replace c78b9 := eq_true c78b9))
                          (try (have c78b7 := c78; simp only [ByteArray.size_append, size1_8, Int.natCast_add, Int.cast_ofNat_Int] at c78b7; replace c78b7 := decide_eq_true c78b7))
                          (try (have c78b8 := (Nat.not_lt.2 c78 : ¬ _); simp only [ByteArray.size_append, size1_8, Int.natCast_add, Int.cast_ofNat_Int] at c78b8; replace c78b8 := eq_false c78b8))
                          have c78b0 := eq_true c78
                          have c78b1 : decide (((x10_4 ++ (⟨#[91]⟩ : ByteArray)) ++ (strOfNums y183)).size + t190.size ≤ 9223372036854775807) = true := decide_eq_true c78
                          try have c78b2 : (9223372036854775807 < ((x10_4 ++ (⟨#[91]⟩ : ByteArray)) ++ (strOfNums y183)).size + t190.size) = False := eq_false (Nat.not_lt.2 c78)
                          by_cases c79 : (((x10_4 ++ (⟨#[91]⟩ : ByteArray)) ++ (strOfNums y183)) ++ t190).size + 1 ≤ 9223372036854775807
                          ·rw [if_pos c79] at H
                           (try (have c79b9 := c79; simp only [ByteArray.size_append, size1_8, Int.natCast_add, Int.cast_ofNat_Int] at c79b9; replace c79b9 := eq_true c79b9))
                           (try (have c79b7 := c79; simp only [ByteArray.size_append, size1_8, Int.natCast_add, Int.cast_ofNat_Int] at c79b7; replace c79b7 := decide_eq_true c79b7))
                           (try (have c79b8 := (Nat.not_lt.2 c79 : ¬ _); simp only [ByteArray.size_append, size1_8, Int.natCast_add, Int.cast_ofNat_Int] at c79b8; replace c79b8 := eq_false c79b8))
                           have c79b0 := eq_true c79
                           have c79b1 : decide ((((x10_4 ++ (⟨#[91]⟩ : ByteArray)) ++ (strOfNums y183)) ++ t190).size + 1 ≤ 9223372036854775807) = true := decide_eq_true c79
                           try have c79b2 : (9223372036854775807 < (((x10_4 ++ (⟨#[91]⟩ : ByteArray)) ++ (strOfNums y183)) ++ t190).size + 1) = False := eq_false (Nat.not_lt.2 c79)
                           have H' := Aside0.mk H
                           clear H
                           try go_wp2
                           have n0_ := Aside0.mk (below_drew1 HB.out)
                           clear HB
                           have HB := n0_
                           clear n0_
                           have q81 : (x13_5 : Int) ≤ ((l0.length : Int) : Int) := of_decide_eq_true (by first | (with_reducible assumption) | assumption)
                           obtain ⟨i081, hi081, _, hsz81, _⟩ := info_parts info23
                           have hroom81 : l0.length ≤ c0 := HC0.out
                           have hC81 : Kd.C k23 _ (some ad173) l0.length l0 := HR0.out
                           have ql81 : (x11_4 : Int) ≤ (x13_5 : Int) := of_decide_eq_true (by first | (with_reducible assumption) | assumption)
                           have q081 : (0 : Int) ≤ (x11_4 : Int) := of_decide_eq_true (by first | (with_reducible assumption) | assumption)
                           have hcut81 := cut_mid (P := Tryd.prog) 25 23 .i64 .i64 Tryd.underlying25 hi081 2 hsz81 (some ad173) l0.length c0 x11_4 x13_5 q081 ql81 q81 hroom81
                           have hr81 := Kd.C_mid (lo := (x11_4 : Int).toNat) (hi := (x13_5 : Int).toNat) (c := c0) hC81 (by omega) (by omega) hroom81
                           obtain ⟨A81, hA81⟩ : ∃ A1, A1 = (if c0 = (x11_4 : Int).toNat then (some ad173) else ((some ad173) : Option Addr).map (·.add ((x11_4 : Int).toNat * 2))) := ⟨_, rfl⟩
                           obtain ⟨c81, hc81⟩ : ∃ c1, c1 = c0 - (x11_4 : Int).toNat := ⟨_, rfl⟩
                           have hy81 : y186.length = (x13_5 : Int).toNat - (x11_4 : Int).toNat := (by rw [Ny186.out, List.length_drop, List.length_take] <;> omega)
                           rw [show ((l0).take (x13_5 : Int).toNat).drop (x11_4 : Int).toNat = y186 from Ny186.out.symm] at hr81
                           replace hr81 : Kd.C k23 _ A81 y186.length y186 := (by rw [hA81]; exact hr81)
                           rw [← hy81, ← hA81, ← hc81] at hcut81
                           have HR189 := Aside0.mk hr81
                           have HC189 := Aside0.mk (show y186.length ≤ c81 from by rw [hy81, hc81]; exact Nat.sub_le_sub_right (Nat.le_trans (by omega) hroom81) _)
                           clear hr81 hC81 hroom81 hi081 hsz81 hc81
                           have KY81 := Aside0.mk hy81
                           have KA81 := Aside0.mk hA81
                           clear hy81 hA81
                           replace q81 := eq_true q81
                           refine start_ (n := 18) (S := fun w' => True) (ds := []) #[false, false, false, false, false, false, false, false, false, false, false, false, false, false, false, false, false, false] (by kernel_rfl) rfl rfl trivial (fun hHeld => ?_); refine with_tabW tendrilref1_Shape.tab16 tendrilref1_Shape.bits16 (fun HT_ HW_ => ?_)
                           generalize wr.drew = w80 at HB HR189 hHeld ⊢
                           refine pure_ (i := 0) (N := some 110) (v := ?_) (a' := ?_) #[true, false, false, false, false, false, false, false, false, false, false, false, false, false, false, false, false, false] rfl rfl (any_of HT_.out (by kernel_rfl)) (fun _ _ _ h => h) (Or.inl ⟨by rfl, ?_⟩) ?_ ?_
                           rotate_left
                           ·intro w'
                            go_simp
                            with_reducible rfl
                           rotate_left
                           ·simp only [Act.put, List.setIfInBounds_toArray, List.set_cons_zero, List.set_cons_succ, i64_w, i32_w]
                            rfl
                           refine pure_ (i := 1) (N := some 111) (v := ?_) (a' := ?_) #[true, true, false, false, false, false, false, false, false, false, false, false, false, false, false, false, false, false] rfl rfl (any_of HT_.out (by kernel_rfl)) (fun _ _ _ h => h) (Or.inl ⟨by rfl, ?_⟩) ?_ ?_
                           rotate_left
                           ·intro w'
                            go_simp
                            with_reducible rfl
                           rotate_left
                           ·simp only [Act.put, List.setIfInBounds_toArray, List.set_cons_zero, List.set_cons_succ, i64_w, i32_w]
                            rfl
                           refine pure_ (i := 2) (N := some 112) (v := ?_) (a' := ?_) #[true, true, true, false, false, false, false, false, false, false, false, false, false, false, false, false, false, false] rfl rfl (any_of HT_.out (by kernel_rfl)) (fun _ _ _ h => h) (Or.inl ⟨by rfl, ?_⟩) ?_ ?_
                           rotate_left
                           ·intro w'
                            go_simp
                            with_reducible rfl
                           rotate_left
                           ·simp only [Act.put, List.setIfInBounds_toArray, List.set_cons_zero, List.set_cons_succ, i64_w, i32_w]
                            rfl
                           refine pure_ (i := 6) (N := some 116) (v := ?_) (a' := ?_) #[true, true, true, false, false, false, true, false, false, false, false, false, false, false, false, false, false, false] rfl rfl (any_of HT_.out (by kernel_rfl)) (fun _ _ _ h => h) (Or.inl ⟨by rfl, ?_⟩) ?_ ?_
                           rotate_left
                           ·intro w'
                            go_simp
                            with_reducible rfl
                           rotate_left
                           ·simp only [Act.put, List.setIfInBounds_toArray, List.set_cons_zero, List.set_cons_succ, i64_w, i32_w]
                            rfl
                           refine pure_ (i := 7) (N := some 117) (v := ?_) (a' := ?_) #[true, true, true, false, false, false, true, true, false, false, false, false, false, false, false, false, false, false] rfl rfl (any_of HT_.out (by kernel_rfl)) (fun _ _ _ h => h) (Or.inl ⟨by rfl, ?_⟩) ?_ ?_
                           rotate_left
                           ·intro w'
                            go_simp
                            with_reducible rfl
                           rotate_left
                           ·simp only [Act.put, List.setIfInBounds_toArray, List.set_cons_zero, List.set_cons_succ, i64_w, i32_w]
                            rfl
                           refine pure_ (i := 8) (N := some 118) (v := ?_) (a' := ?_) #[true, true, true, false, false, false, true, true, true, false, false, false, false, false, false, false, false, false] rfl rfl (any_of HT_.out (by kernel_rfl)) (fun _ _ _ h => h) (Or.inl ⟨by rfl, ?_⟩) ?_ ?_
                           rotate_left
                           ·intro w'
                            go_simp
                            with_reducible rfl
                           rotate_left
                           ·simp only [Act.put, List.setIfInBounds_toArray, List.set_cons_zero, List.set_cons_succ, i64_w, i32_w]
                            rfl
                           refine pure_ (i := 9) (N := some 119) (v := ?_) (a' := ?_) #[true, true, true, false, false, false, true, true, true, true, false, false, false, false, false, false, false, false] rfl rfl (any_of HT_.out (by kernel_rfl)) (fun _ _ _ h => h) (Or.inl ⟨by rfl, ?_⟩) ?_ ?_
                           rotate_left
                           ·intro w'
                            go_simp
                            with_reducible rfl
                           rotate_left
                           ·simp only [Act.put, List.setIfInBounds_toArray, List.set_cons_zero, List.set_cons_succ, i64_w, i32_w]
                            rfl
                           refine pure_ (i := 10) (N := some 120) (v := ?_) (a' := ?_) #[true, true, true, false, false, false, true, true, true, true, true, false, false, false, false, false, false, false] rfl rfl (any_of HT_.out (by kernel_rfl)) (fun _ _ _ h => h) (Or.inl ⟨by rfl, ?_⟩) ?_ ?_
                           rotate_left
                           ·intro w'
                            go_simp
                            with_reducible rfl
                           rotate_left
                           ·simp only [Act.put, List.setIfInBounds_toArray, List.set_cons_zero, List.set_cons_succ, i64_w, i32_w]
                            rfl
                           refine pure_ (i := 11) (N := some 121) (v := ?_) (a' := ?_) #[true, true, true, false, false, false, true, true, true, true, true, true, false, false, false, false, false, false] rfl rfl (any_of HT_.out (by kernel_rfl)) (fun _ _ _ h => h) (Or.inl ⟨by rfl, ?_⟩) ?_ ?_
                           rotate_left
                           ·intro w'
                            go_simp
                            with_reducible rfl
                           rotate_left
                           ·simp only [Act.put, List.setIfInBounds_toArray, List.set_cons_zero, List.set_cons_succ, i64_w, i32_w]
                            rfl
                           refine pure_ (i := 12) (N := some 122) (v := ?_) (a' := ?_) #[true, true, true, false, false, false, true, true, true, true, true, true, true, false, false, false, false, false] rfl rfl (any_of HT_.out (by kernel_rfl)) (fun _ _ _ h => h) (Or.inl ⟨by rfl, ?_⟩) ?_ ?_
                           rotate_left
                           ·intro w'
                            go_simp
                            with_reducible rfl
                           rotate_left
                           ·simp only [Act.put, List.setIfInBounds_toArray, List.set_cons_zero, List.set_cons_succ, i64_w, i32_w]
                            rfl
                           refine pure_ (i := 13) (N := some 123) (v := ?_) (a' := ?_) #[true, true, true, false, false, false, true, true, true, true, true, true, true, true, false, false, false, false] rfl rfl (any_of HT_.out (by kernel_rfl)) (fun _ _ _ h => h) (Or.inl ⟨by rfl, ?_⟩) ?_ ?_
                           rotate_left
                           ·intro w'
                            go_simp
                            with_reducible rfl
                           rotate_left
                           ·simp only [Act.put, List.setIfInBounds_toArray, List.set_cons_zero, List.set_cons_succ, i64_w, i32_w]
                            rfl
                           refine join_ (σ := Value) 3 #[true, true, true, true, true, true, true, true, true, true, true, true, true, true, true, false, false, false] (fun s_ => [(113, s_), (114, .string (strOfNums y183)), (124, .string t190), (115, .string ((x10_4 ++ (⟨#[91]⟩ : ByteArray)) ++ (strOfNums y183)))]) (fun s_ w' => (Kd.R (Kd.int .u8) 5 w' w.heap.size (fun _ => True) s_ y183) ∧ (Below w.heap.size w w')) ?_ ?_
                           rotate_left
                           ·intro hCont
                            refine two_ (i := 3) (j := 14) (Ni := some 113) (Nj := some 124) #[true, true, true, true, false, false, true, true, true, true, true, true, true, true, false, false, false, false] #[true, true, true, false, false, false, true, true, true, true, true, true, true, true, true, false, false, false] rfl rfl rfl rfl (two_of HT_.out (by kernel_rfl)) (by decide) (by decide) (fun K hK => ?_) (fun K hK => ?_)
                            ·skip
                             refine Kd.R_lit_step (Kd.int .u8) _ 5 ?hg (N := 113) ?hd (xs := ([(bt (((rd_T23 l0 x11_4).f0) ++ (⟨#[0]⟩ : ByteArray)) (ji45))] : List Int)) (inner := [.int .u8 (bt (((rd_T23 l0 x11_4).f0) ++ (⟨#[0]⟩ : ByteArray)) (ji45))]) (ok := fun _ => True) (okp := fun _ => True) ?hr ?hp (fun _ hk => hk) trivial (Below.refl _ _) (Nat.le_refl _) (by simp) ?_; (case hd => rfl); (case hg => rfl); (case hr => first | (go_simp; done) | (go_simp; rfl)); (case hp => exact (Reps.one (show Kd.M (Kd.int .u8) _ _ _ (bt (((rd_T23 l0 x11_4).f0) ++ (⟨#[0]⟩ : ByteArray)) (ji45)) [.int .u8 (bt (((rd_T23 l0 x11_4).f0) ++ (⟨#[0]⟩ : ByteArray)) (ji45))] from rfl) (Reps.none _ _)))
                             intro v184 w82 ho83 hb hg_ hnew_
                             clear hg_ hnew_
                             (first | rw [← Ny183.out] at ho83 | (simp only [Int.reduceToNat] at ho83; rw [← Ny183.out] at ho83))
                             have n0_ := Aside0.mk (Kd.R_lower ho83 (below_size (by repeat (first | (with_reducible first | exact HB.out | apply below_alloc | apply pw_below_drewN | apply below_drew1) | exact HB.out))))
                             have n1_ := Aside0.mk (below_step (by repeat (first | (with_reducible first | exact HB.out | apply below_alloc | apply pw_below_drewN | apply below_drew1) | exact HB.out)) hb)
                             clear HB
                             have HO185 := n0_
                             have HB := n1_
                             clear n0_ n1_
                             clear hb ho83
                             refine hK.out _ _ trivial (fun hHeld => ?_)
                             clear hK K
                             refine norm_ (a' := ?_) ?_ ?_
                             rotate_left
                             ·show Act.put _ (some 113) _ = _
                              simp only [Act.put, List.setIfInBounds_toArray, List.set_cons_zero, List.set_cons_succ, i64_w, i32_w]
                              rfl
                             refine two_ (i := 4) (j := 14) (Ni := some 114) (Nj := some 124) #[true, true, true, true, true, false, true, true, true, true, true, true, true, true, false, false, false, false] #[true, true, true, true, false, false, true, true, true, true, true, true, true, true, true, false, false, false] rfl rfl rfl rfl (two_of HT_.out (by kernel_rfl)) (by decide) (by decide) (fun K hK => ?_) (fun K hK => ?_)
                             ·skip
                              have hcv84 := own_string (P := Tryd.prog) Tryd.underlying47 Tryd.underlying5 Tryd.underlying9 (Kd.own_of_R HO185.out)
                              refine value_ (w1 := ?_) (v := ?_) (by rfl) rfl ?_ ?_
                              rotate_left 2
                              ·go_simp
                               constructor
                               ·rfl
                               ·rfl
                              clear hcv84
                              refine hK.out _ _ trivial (fun hHeld => ?_)
                              clear hK K
                              refine norm_ (a' := ?_) ?_ ?_
                              rotate_left
                              ·show Act.put _ (some 114) _ = _
                               simp only [Act.put, List.setIfInBounds_toArray, List.set_cons_zero, List.set_cons_succ, i64_w, i32_w]
                               rfl
                              refine pure_ (i := 5) (N := some 115) (v := ?_) (a' := ?_) #[true, true, true, true, true, true, true, true, true, true, true, true, true, true, false, false, false, false] rfl rfl (any_of HT_.out (by kernel_rfl)) (fun _ _ _ h => h) (Or.inl ⟨by rfl, ?_⟩) ?_ ?_
                              rotate_left
                              ·intro w'
                               go_simp
                               with_reducible rfl
                              rotate_left
                              ·simp only [Act.put, List.setIfInBounds_toArray, List.set_cons_zero, List.set_cons_succ, i64_w, i32_w]
                               rfl
                              refine one_ (i := 14) (N := some 124) #[true, true, true, true, true, true, true, true, true, true, true, true, true, true, true, false, false, false] rfl rfl (one_of HT_.out (by kernel_rfl)) (by decide) (fun K hK => ?_)
                              refine goes_ Tryd.func16 (by kernel_rfl) rfl #[.slice A81 y186.length c81, .int .i64 (wrap64 ((wrap64 (a1 + x7_14)) + 1)), .bool false] (by rfl) rfl rfl (by (try simp only [List.map_toArray, List.map_cons, List.map_nil]); first | done | rfl | (simp only [List.length_drop, List.length_take]; rfl) | (simp only [hji45]; done) | (simp only [hji45]; rfl)) ?_
                              with_reducible refine (ih k5 (by have := HJ3.out; have := HJ14.out; have := HJ32.out; have := HK4.out; have := HK5.out; omega) _ _ y186 (wrap64 ((wrap64 (a1 + x7_14)) + 1)) false t190 _ ?side1 ?side2 A77.out).mono ?_
                              (case side1 => repeat (first | exact (Kd.C_below HR189.out HB.out) | (with_reducible refine Kd.C_alloc ?_ _) | (with_reducible refine Kd.C_drewN ?_ _) | (with_reducible refine Kd.C_drew ?_)))
                              (case side2 => exact HC189.out)
                              rintro e w85 ⟨rfl, hb⟩
                              refine ⟨_, rfl, ?_⟩
                              have n0_ := Aside0.mk (Kd.R_below (by (with_reducible repeat (first | apply Kd.R_alloc | apply Kd.R_drewN | apply Kd.R_drew)); exact HO185.out) hb)
                              have n1_ := Aside0.mk (below_step (by repeat (first | (with_reducible first | exact HB.out | apply below_alloc | apply pw_below_drewN | apply below_drew1) | exact HB.out)) hb)
                              clear HO185
                              clear HB
                              have HO185 := n0_
                              have HB := n1_
                              clear n0_ n1_
                              (try clear hb)
                              (try clear hb2)
                              (try clear hk)
                              (try clear hi)
                              refine hK.out _ _ trivial (fun hHeld => ?_)
                              clear hK K
                              refine norm_ (a' := ?_) ?_ ?_
                              rotate_left
                              ·show Act.put _ (some 124) _ = _
                               simp only [Act.put, List.setIfInBounds_toArray, List.set_cons_zero, List.set_cons_succ, i64_w, i32_w]
                               rfl
                              exact norm_ (by simp only [putAll, Act.put, List.setIfInBounds_toArray, List.set_cons_zero, List.set_cons_succ]) (hCont (v184) _ ⟨(by (with_reducible repeat (first | apply Kd.R_alloc | apply Kd.R_drewN | apply Kd.R_drew)); exact HO185.out), (by repeat (first | (with_reducible first | exact HB.out | apply below_alloc | apply pw_below_drewN | apply below_drew1) | exact HB.out))⟩)
                             ·skip
                              refine goes_ Tryd.func16 (by kernel_rfl) rfl #[.slice A81 y186.length c81, .int .i64 (wrap64 ((wrap64 (a1 + x7_14)) + 1)), .bool false] (by rfl) rfl rfl (by (try simp only [List.map_toArray, List.map_cons, List.map_nil]); first | done | rfl | (simp only [List.length_drop, List.length_take]; rfl) | (simp only [hji45]; done) | (simp only [hji45]; rfl)) ?_
                              with_reducible refine (ih k5 (by have := HJ3.out; have := HJ14.out; have := HJ32.out; have := HK4.out; have := HK5.out; omega) _ _ y186 (wrap64 ((wrap64 (a1 + x7_14)) + 1)) false t190 _ ?side1 ?side2 A77.out).mono ?_
                              (case side1 => repeat (first | exact (Kd.C_below HR189.out HB.out) | (with_reducible refine Kd.C_alloc ?_ _) | (with_reducible refine Kd.C_drewN ?_ _) | (with_reducible refine Kd.C_drew ?_)))
                              (case side2 => exact HC189.out)
                              rintro e w84 ⟨rfl, hb⟩
                              refine ⟨_, rfl, ?_⟩
                              have n0_ := Aside0.mk (Kd.R_below (by (with_reducible repeat (first | apply Kd.R_alloc | apply Kd.R_drewN | apply Kd.R_drew)); exact HO185.out) hb)
                              have n1_ := Aside0.mk (below_step (by repeat (first | (with_reducible first | exact HB.out | apply below_alloc | apply pw_below_drewN | apply below_drew1) | exact HB.out)) hb)
                              clear HO185
                              clear HB
                              have HO185 := n0_
                              have HB := n1_
                              clear n0_ n1_
                              (try clear hb)
                              (try clear hb2)
                              (try clear hk)
                              (try clear hi)
                              refine hK.out _ _ trivial (fun hHeld => ?_)
                              clear hK K
                              refine norm_ (a' := ?_) ?_ ?_
                              rotate_left
                              ·show Act.put _ (some 124) _ = _
                               simp only [Act.put, List.setIfInBounds_toArray, List.set_cons_zero, List.set_cons_succ, i64_w, i32_w]
                               rfl
                              refine one_ (i := 4) (N := some 114) #[true, true, true, true, true, false, true, true, true, true, true, true, true, true, true, false, false, false] rfl rfl (one_of HT_.out (by kernel_rfl)) (by decide) (fun K hK => ?_)
                              have hcv85 := own_string (P := Tryd.prog) Tryd.underlying47 Tryd.underlying5 Tryd.underlying9 (Kd.own_of_R HO185.out)
                              refine value_ (w1 := ?_) (v := ?_) (by rfl) rfl ?_ ?_
                              rotate_left 2
                              ·go_simp
                               constructor
                               ·rfl
                               ·rfl
                              clear hcv85
                              refine hK.out _ _ trivial (fun hHeld => ?_)
                              clear hK K
                              refine norm_ (a' := ?_) ?_ ?_
                              rotate_left
                              ·show Act.put _ (some 114) _ = _
                               simp only [Act.put, List.setIfInBounds_toArray, List.set_cons_zero, List.set_cons_succ, i64_w, i32_w]
                               rfl
                              refine pure_ (i := 5) (N := some 115) (v := ?_) (a' := ?_) #[true, true, true, true, true, true, true, true, true, true, true, true, true, true, true, false, false, false] rfl rfl (any_of HT_.out (by kernel_rfl)) (fun _ _ _ h => h) (Or.inl ⟨by rfl, ?_⟩) ?_ ?_
                              rotate_left
                              ·intro w'
                               go_simp
                               with_reducible rfl
                              rotate_left
                              ·simp only [Act.put, List.setIfInBounds_toArray, List.set_cons_zero, List.set_cons_succ, i64_w, i32_w]
                               rfl
                              exact norm_ (by simp only [putAll, Act.put, List.setIfInBounds_toArray, List.set_cons_zero, List.set_cons_succ]) (hCont (v184) _ ⟨(by (with_reducible repeat (first | apply Kd.R_alloc | apply Kd.R_drewN | apply Kd.R_drew)); exact HO185.out), (by repeat (first | (with_reducible first | exact HB.out | apply below_alloc | apply pw_below_drewN | apply below_drew1) | exact HB.out))⟩)
                            ·skip
                             refine goes_ Tryd.func16 (by kernel_rfl) rfl #[.slice A81 y186.length c81, .int .i64 (wrap64 ((wrap64 (a1 + x7_14)) + 1)), .bool false] (by rfl) rfl rfl (by (try simp only [List.map_toArray, List.map_cons, List.map_nil]); first | done | rfl | (simp only [List.length_drop, List.length_take]; rfl) | (simp only [hji45]; done) | (simp only [hji45]; rfl)) ?_
                             with_reducible refine (ih k5 (by have := HJ3.out; have := HJ14.out; have := HJ32.out; have := HK4.out; have := HK5.out; omega) _ _ y186 (wrap64 ((wrap64 (a1 + x7_14)) + 1)) false t190 _ ?side1 ?side2 A77.out).mono ?_
                             (case side1 => repeat (first | exact (Kd.C_below HR189.out HB.out) | (with_reducible refine Kd.C_alloc ?_ _) | (with_reducible refine Kd.C_drewN ?_ _) | (with_reducible refine Kd.C_drew ?_)))
                             (case side2 => exact HC189.out)
                             rintro e w82 ⟨rfl, hb⟩
                             refine ⟨_, rfl, ?_⟩
                             have n0_ := Aside0.mk (below_step (by repeat (first | (with_reducible first | exact HB.out | apply below_alloc | apply pw_below_drewN | apply below_drew1) | exact HB.out)) hb)
                             clear HB
                             have HB := n0_
                             clear n0_
                             (try clear hb)
                             (try clear hb2)
                             (try clear hk)
                             (try clear hi)
                             refine hK.out _ _ trivial (fun hHeld => ?_)
                             clear hK K
                             refine norm_ (a' := ?_) ?_ ?_
                             rotate_left
                             ·show Act.put _ (some 124) _ = _
                              simp only [Act.put, List.setIfInBounds_toArray, List.set_cons_zero, List.set_cons_succ, i64_w, i32_w]
                              rfl
                             refine one_ (i := 3) (N := some 113) #[true, true, true, true, false, false, true, true, true, true, true, true, true, true, true, false, false, false] rfl rfl (one_of HT_.out (by kernel_rfl)) (by decide) (fun K hK => ?_)
                             refine Kd.R_lit_step (Kd.int .u8) _ 5 ?hg (N := 113) ?hd (xs := ([(bt (((rd_T23 l0 x11_4).f0) ++ (⟨#[0]⟩ : ByteArray)) (ji45))] : List Int)) (inner := [.int .u8 (bt (((rd_T23 l0 x11_4).f0) ++ (⟨#[0]⟩ : ByteArray)) (ji45))]) (ok := fun _ => True) (okp := fun _ => True) ?hr ?hp (fun _ hk => hk) trivial (Below.refl _ _) (Nat.le_refl _) (by simp) ?_; (case hd => rfl); (case hg => rfl); (case hr => first | (go_simp; done) | (go_simp; rfl)); (case hp => exact (Reps.one (show Kd.M (Kd.int .u8) _ _ _ (bt (((rd_T23 l0 x11_4).f0) ++ (⟨#[0]⟩ : ByteArray)) (ji45)) [.int .u8 (bt (((rd_T23 l0 x11_4).f0) ++ (⟨#[0]⟩ : ByteArray)) (ji45))] from rfl) (Reps.none _ _)))
                             intro v184 w83 ho84 hb hg_ hnew_
                             clear hg_ hnew_
                             (first | rw [← Ny183.out] at ho84 | (simp only [Int.reduceToNat] at ho84; rw [← Ny183.out] at ho84))
                             have n0_ := Aside0.mk (Kd.R_lower ho84 (below_size (by repeat (first | (with_reducible first | exact HB.out | apply below_alloc | apply pw_below_drewN | apply below_drew1) | exact HB.out))))
                             have n1_ := Aside0.mk (below_step (by repeat (first | (with_reducible first | exact HB.out | apply below_alloc | apply pw_below_drewN | apply below_drew1) | exact HB.out)) hb)
                             clear HB
                             have HO185 := n0_
                             have HB := n1_
                             clear n0_ n1_
                             clear hb ho84
                             refine hK.out _ _ trivial (fun hHeld => ?_)
                             clear hK K
                             refine norm_ (a' := ?_) ?_ ?_
                             rotate_left
                             ·show Act.put _ (some 113) _ = _
                              simp only [Act.put, List.setIfInBounds_toArray, List.set_cons_zero, List.set_cons_succ, i64_w, i32_w]
                              rfl
                             refine one_ (i := 4) (N := some 114) #[true, true, true, true, true, false, true, true, true, true, true, true, true, true, true, false, false, false] rfl rfl (one_of HT_.out (by kernel_rfl)) (by decide) (fun K hK => ?_)
                             have hcv85 := own_string (P := Tryd.prog) Tryd.underlying47 Tryd.underlying5 Tryd.underlying9 (Kd.own_of_R HO185.out)
                             refine value_ (w1 := ?_) (v := ?_) (by rfl) rfl ?_ ?_
                             rotate_left 2
                             ·go_simp
                              constructor
                              ·rfl
                              ·rfl
                             clear hcv85
                             refine hK.out _ _ trivial (fun hHeld => ?_)
                             clear hK K
                             refine norm_ (a' := ?_) ?_ ?_
                             rotate_left
                             ·show Act.put _ (some 114) _ = _
                              simp only [Act.put, List.setIfInBounds_toArray, List.set_cons_zero, List.set_cons_succ, i64_w, i32_w]
                              rfl
                             refine pure_ (i := 5) (N := some 115) (v := ?_) (a' := ?_) #[true, true, true, true, true, true, true, true, true, true, true, true, true, true, true, false, false, false] rfl rfl (any_of HT_.out (by kernel_rfl)) (fun _ _ _ h => h) (Or.inl ⟨by rfl, ?_⟩) ?_ ?_
                             rotate_left
                             ·intro w'
                              go_simp
                              with_reducible rfl
                             rotate_left
                             ·simp only [Act.put, List.setIfInBounds_toArray, List.set_cons_zero, List.set_cons_succ, i64_w, i32_w]
                              rfl
                             exact norm_ (by simp only [putAll, Act.put, List.setIfInBounds_toArray, List.set_cons_zero, List.set_cons_succ]) (hCont (v184) _ ⟨(by (with_reducible repeat (first | apply Kd.R_alloc | apply Kd.R_drewN | apply Kd.R_drew)); exact HO185.out), (by repeat (first | (with_reducible first | exact HB.out | apply below_alloc | apply pw_below_drewN | apply below_drew1) | exact HB.out))⟩)
                           rintro v184 w86 ⟨h0_, h1_⟩
                           have n0_ : Aside0 (Kd.R (Kd.int .u8) 5 w86 w.heap.size (fun _ => True) v184 y183) := ⟨h0_⟩
                           have n1_ : Aside0 (Below w.heap.size w w86) := ⟨h1_⟩
                           clear HB
                           clear h0_ h1_
                           have HO185 := n0_
                           have HB := n1_
                           clear n0_ n1_
                           have hHeld := trivial
                           refine norm_ (a' := ?_) ?_ ?_
                           rotate_left
                           ·simp only [putAll, Act.put, List.setIfInBounds_toArray, List.set_cons_zero, List.set_cons_succ]
                            rfl
                           refine pure_ (i := 15) (N := some 125) (v := ?_) (a' := ?_) #[true, true, true, true, true, true, true, true, true, true, true, true, true, true, true, true, false, false] rfl rfl (any_of HT_.out (by kernel_rfl)) (fun _ _ _ h => h) (Or.inl ⟨by rfl, ?_⟩) ?_ ?_
                           rotate_left
                           ·intro w'
                            go_simp
                            with_reducible rfl
                           rotate_left
                           ·simp only [Act.put, List.setIfInBounds_toArray, List.set_cons_zero, List.set_cons_succ, i64_w, i32_w]
                            rfl
                           refine pure_ (i := 16) (N := some 126) (v := ?_) (a' := ?_) #[true, true, true, true, true, true, true, true, true, true, true, true, true, true, true, true, true, false] rfl rfl (any_of HT_.out (by kernel_rfl)) (fun _ _ _ h => h) (Or.inl ⟨by rfl, ?_⟩) ?_ ?_
                           rotate_left
                           ·intro w'
                            go_simp
                            with_reducible rfl
                           rotate_left
                           ·simp only [Act.put, List.setIfInBounds_toArray, List.set_cons_zero, List.set_cons_succ, i64_w, i32_w]
                            rfl
                           refine pure_ (i := 17) (N := some 10) (v := ?_) (a' := ?_) #[true, true, true, true, true, true, true, true, true, true, true, true, true, true, true, true, true, true] rfl rfl (any_of HT_.out (by kernel_rfl)) (fun _ _ _ h => h) (Or.inl ⟨by rfl, ?_⟩) ?_ ?_
                           rotate_left
                           ·intro w'
                            go_simp
                            with_reducible rfl
                           rotate_left
                           ·simp only [Act.put, List.setIfInBounds_toArray, List.set_cons_zero, List.set_cons_succ, i64_w, i32_w]
                            rfl
                           refine done_ (done_of HT_.out (by kernel_rfl)) ?_
                           try go_wp2
                           go_roundg k5
                           case measure => have := HJ3.out; have := HJ14.out; have := HJ32.out; have := HK4.out; have := HK5.out; omega
                           case rel => exact ⟨((((x10_4 ++ (⟨#[91]⟩ : ByteArray)) ++ (strOfNums y183)) ++ t190) ++ (⟨#[93]⟩ : ByteArray)), (x13_5), (by first | rfl | (simp; done) | (simp [*]; done)), (by first | rfl | (simp; done) | (simp [*]; done)), H', ⟨by have := HJ3.out; have := HJ14.out; have := HJ32.out; have := HK4.out; have := HK5.out; omega⟩, ⟨by repeat (first | (with_reducible first | exact HB.out | apply below_alloc | apply pw_below_drewN | apply below_drew1) | exact HB.out)⟩⟩
                          ·rw [if_neg c79] at H
                           exact absurd H (by simp)
                         ·rw [if_neg c78] at H
                          exact absurd H (by simp)
                        ·rw [if_neg c76] at H
                         exact absurd H (by simp)
                       ·rw [if_neg c75] at H
                        exact absurd H (by simp)
                      ·rw [if_neg c74] at H
                       exact absurd H (by simp)
                     ·rw [if_neg c73] at H
                      exact absurd H (by simp)
                    ·rw [if_neg c72] at H
                     exact absurd H (by simp)
                ·rw [if_neg c47] at H
                 exact absurd H (by simp)
               ·rw [if_neg c46] at H
                exact absurd H (by simp)
              ·rw [if_neg c44] at H
               exact absurd H (by simp)
             ·rw [if_neg c43] at H
              exact absurd H (by simp)
            ·rw [if_neg c42] at H
             have c42b0 : decide (x11_4 < (l0.length : Int)) = false := decide_eq_false c42
             clear c42
             by_cases c87 : x10_4.size + 1 ≤ 9223372036854775807
             ·rw [if_pos c87] at H
              have c87b0 := eq_true c87
              have c87b1 : decide (x10_4.size + 1 ≤ 9223372036854775807) = true := decide_eq_true c87
              try have c87b2 : (9223372036854775807 < x10_4.size + 1) = False := eq_false (Nat.not_lt.2 c87)
              obtain rfl := Option.some.inj H
              go_wp2
              go_ret
              exact ⟨by first | rfl | (simp [errW_none, errW_some] <;> rfl) | (simp [*, errW_none, errW_some] <;> rfl), by repeat (first | (with_reducible first | exact HB.out | apply below_alloc | apply pw_below_drewN | apply below_drew1) | exact HB.out)⟩
             ·rw [if_neg c87] at H
              exact absurd H (by simp)
       ·rw [if_neg c32] at H
        exact absurd H (by simp)
      ·rw [if_neg c31] at H
       exact absurd H (by simp)

end Go.Proofs.YtdjjmnkopoldhaaDoor.PBase
