-- Written by a program of this session (mkprint.py): a printed walk over given contracts.
import Derived.Test.YtpcccndeojbinaaPTermTellsx0
import Derived.Test.YtpcccndeojbinaaPTermTellsx1
namespace Go.Proofs.Ytpcccndeojbinaa.PTermTells
open Go.RowKit Go.Proofs.YtpcccndeojbinaaW.PrintWords Go.Proofs.YtpcccndeojbinaaW.PrintLast Go.Proofs.YtpcccndeojbinaaW.PrintMore
attribute [local go_sem] max2_int min2_int max_two min_two max_three min_three max_four min_four   -- for this text's walks alone
set_option linter.unusedVariables false
set_option linter.unusedSimpArgs false

/-! ### tendrilref1_Common: function 17 -/
def tendrilref1_Common.l0 : Nat → ByteArray → ByteArray → Int → Option (Int)
  | 0, _, _, _ => none
  | k + 1, x0, x1, x5 => if x5 < (x0.size : Int) then (if x5 < (x1.size : Int) then (if 0 ≤ x5 then (if (bt x0 x5) = (bt x1 x5) then (tendrilref1_Common.l0 k x0 x1 (wrap64 (x5 + 1))) else (some x5)) else (none)) else (some x5)) else (some x5)
def tendrilref1_Common.f (k : Nat) (a0 : ByteArray) (a1 : ByteArray) : Option (Int) := tendrilref1_Common.l0 k a0 a1 0
theorem tendrilref1_Common.mono_l : ∀ k, (∀ y0 y1 y2, LeO (tendrilref1_Common.l0 k y0 y1 y2) (tendrilref1_Common.l0 (k + 1) y0 y1 y2))
  | 0 => fun _ _ _ r h => by simp [tendrilref1_Common.l0] at h
  | k + 1 => by
    have ih0 := tendrilref1_Common.mono_l k
    · intro y0 y1 y2
      unfold tendrilref1_Common.l0
      repeat' first
      | (with_reducible exact ih0 _ _ _)
      | (with_reducible exact LeO.refl _)
      | (with_reducible exact LeO.none _)
      | (with_reducible refine LeO.ite ?_ ?_)
      | (with_reducible refine LeO.bind ?_ (fun _ => ?_))
      | exact ih0 _ _ _
      | exact LeO.none _
      | refine LeO.ite ?_ ?_
      | refine LeO.bind ?_ (fun _ => ?_)
theorem tendrilref1_Common.mono : ∀ a0 a1 k, LeO (tendrilref1_Common.f k a0 a1) (tendrilref1_Common.f (k + 1) a0 a1) := by
  intro a0 a1 k
  have ih0 := tendrilref1_Common.mono_l k
  unfold tendrilref1_Common.f
  repeat' first
      | (with_reducible exact ih0 _ _ _)
      | (with_reducible exact LeO.refl _)
      | (with_reducible exact LeO.none _)
      | (with_reducible refine LeO.ite ?_ ?_)
      | (with_reducible refine LeO.bind ?_ (fun _ => ?_))
      | exact ih0 _ _ _
      | exact LeO.none _
      | refine LeO.ite ?_ ?_
      | refine LeO.bind ?_ (fun _ => ?_)
set_option maxHeartbeats 8000000 in
set_option maxRecDepth 100000 in
theorem tendrilref1_Common.calls (k : Nat) (a0 : ByteArray) (a1 : ByteArray) (r : Int) (w : World) (h : tendrilref1_Common.f k a0 a1 = some r) :
    Calls Try.prog 17 #[.string a0, .string a1] w fun e w' => e = .returned (.int .i64 r) ∧ Drawn0 w w' := by
  have H : (tendrilref1_Common.l0 k a0 a1 0) = some r := h
  clear h
  have H' := Aside0.mk H
  clear H
  go_enter Try.func17, Try.ntmps17
  go_wp2
  repeat (go_quiet (fail); try go_wp2)
  go_loopg [5] k (fun kq v5 w' => ∃ (x5_1 : Int), v5 = .int .i64 x5_1 ∧ Aside0 (tendrilref1_Common.l0 kq a0 a1 x5_1 = some r) ∧ Aside0 (kq ≤ k) ∧ Drawn0 w w')
  case atStart => exact ⟨(0), (by first | rfl | (simp; done) | (simp [*]; done)), H', ⟨Nat.le_refl _⟩, by repeat (first | exact Drawn0.refl _ | apply Drawn0.step)⟩
  case round =>
    clear H'
    try clear c1
    try clear p2
    obtain ⟨x5_1, rfl, HA, HK1, ⟨m1, rfl⟩⟩ := hrel
    cases gk with
    | zero => exact absurd HA.out (by simp [tendrilref1_Common.l0])
    | succ k1 =>
      have H := HA.out
      clear HA
      simp only [tendrilref1_Common.l0] at H
      by_cases c3 : x5_1 < (a0.size : Int)
      · rw [if_pos c3] at H
        have c3b0 : decide (x5_1 < (a0.size : Int)) = true := decide_eq_true c3
        clear c3
        by_cases c4 : x5_1 < (a1.size : Int)
        · rw [if_pos c4] at H
          have c4b0 : decide (x5_1 < (a1.size : Int)) = true := decide_eq_true c4
          clear c4
          by_cases c5 : 0 ≤ x5_1
          · rw [if_pos c5] at H
            have c5b0 : decide (0 ≤ x5_1) = true := decide_eq_true c5
            clear c5
            by_cases c8 : (bt a0 x5_1) = (bt a1 x5_1)
            · rw [if_pos c8] at H
              have c8b0 : ((bt a0 x5_1) == (bt a1 x5_1)) = true := beq_iff_eq.mpr c8
              have c8b1 : ((bt a0 x5_1) != (bt a1 x5_1)) = false := bne_eq_false_iff_eq.mpr c8
              clear c8
              have H' := Aside0.mk H
              clear H
              have p6 : 0 ≤ (x5_1 : Int) := of_decide_eq_true (by first | (with_reducible assumption) | assumption)
              have q6 : x5_1 < (a0.size : Int) := of_decide_eq_true (by first | (with_reducible assumption) | assumption)
              have hx6 := bt_at a0 x5_1
              replace p6 := eq_true p6
              replace q6 := eq_true q6
              have p7 : 0 ≤ (x5_1 : Int) := of_decide_eq_true (by first | (with_reducible assumption) | assumption)
              have q7 : x5_1 < (a1.size : Int) := of_decide_eq_true (by first | (with_reducible assumption) | assumption)
              have hx7 := bt_at a1 x5_1
              replace p7 := eq_true p7
              replace q7 := eq_true q7
              go_wp2
              repeat (go_quiet (fail); try go_wp2)
              go_roundg k1
              case measure => have := HK1.out; omega
              case rel => exact ⟨(wrap64 (x5_1 + 1)), (by first | rfl | (simp; done) | (simp [*]; done)), H', ⟨by have := HK1.out; omega⟩, by repeat (first | exact Drawn0.refl _ | apply Drawn0.step)⟩
            · rw [if_neg c8] at H
              have c8b0 : ((bt a0 x5_1) == (bt a1 x5_1)) = false := beq_eq_false_iff_ne.mpr c8
              have c8b1 : ((bt a0 x5_1) != (bt a1 x5_1)) = true := bne_iff_ne.mpr c8
              obtain rfl := Option.some.inj H
              have p6 : 0 ≤ (x5_1 : Int) := of_decide_eq_true (by first | (with_reducible assumption) | assumption)
              have q6 : x5_1 < (a0.size : Int) := of_decide_eq_true (by first | (with_reducible assumption) | assumption)
              have hx6 := bt_at a0 x5_1
              replace p6 := eq_true p6
              replace q6 := eq_true q6
              have p7 : 0 ≤ (x5_1 : Int) := of_decide_eq_true (by first | (with_reducible assumption) | assumption)
              have q7 : x5_1 < (a1.size : Int) := of_decide_eq_true (by first | (with_reducible assumption) | assumption)
              have hx7 := bt_at a1 x5_1
              replace p7 := eq_true p7
              replace q7 := eq_true q7
              go_wp2
              repeat (go_quiet (fail); try go_wp2)
              go_ret
              exact ⟨by first | rfl | (simp; done) | (simp [*]; done), by repeat (first | exact Drawn0.refl _ | apply Drawn0.step)⟩
          · rw [if_neg c5] at H
            exact absurd H (by simp)
        · rw [if_neg c4] at H
          have c4b0 : decide (x5_1 < (a1.size : Int)) = false := decide_eq_false c4
          clear c4
          obtain rfl := Option.some.inj H
          go_wp2
          repeat (go_quiet (fail); try go_wp2)
          go_ret
          exact ⟨by first | rfl | (simp; done) | (simp [*]; done), by repeat (first | exact Drawn0.refl _ | apply Drawn0.step)⟩
      · rw [if_neg c3] at H
        have c3b0 : decide (x5_1 < (a0.size : Int)) = false := decide_eq_false c3
        clear c3
        obtain rfl := Option.some.inj H
        go_wp2
        repeat (go_quiet (fail); try go_wp2)
        go_ret
        exact ⟨by first | rfl | (simp; done) | (simp [*]; done), by repeat (first | exact Drawn0.refl _ | apply Drawn0.step)⟩

/-! ### term_Next: function 18 -/
def term_Next.f (a0 : ByteArray) : Option (ByteArray) := if a0.size + 1 ≤ 9223372036854775807 then (some (a0 ++ (⟨#[0]⟩ : ByteArray))) else (none)
set_option maxHeartbeats 8000000 in
set_option maxRecDepth 100000 in
theorem term_Next.calls (a0 : ByteArray) (r : ByteArray) (w : World) (h : term_Next.f a0 = some r) :
    Calls Try.prog 18 #[.string a0] w fun e w' => e = .returned (.string r) ∧ Drawn0 w w' := by
  have H : (if a0.size + 1 ≤ 9223372036854775807 then (some (a0 ++ (⟨#[0]⟩ : ByteArray))) else (none)) = some r := h
  clear h
  by_cases c2 : a0.size + 1 ≤ 9223372036854775807
  · rw [if_pos c2] at H
    have c2b0 := eq_true c2
    have c2b1 : decide (a0.size + 1 ≤ 9223372036854775807) = true := decide_eq_true c2
    try have c2b2 : (9223372036854775807 < a0.size + 1) = False := eq_false (Nat.not_lt.2 c2)
    obtain rfl := Option.some.inj H
    go_enter Try.func18, Try.ntmps18
    go_wp2
    go_ret
    exact ⟨by first | rfl | (simp; done) | (simp [*]; done), by repeat (first | exact Drawn0.refl _ | apply Drawn0.step)⟩
  · rw [if_neg c2] at H
    exact absurd H (by simp)

/-! ### tendrillaw6_TermTells: function 6 -/
mutual
def tendrillaw6_TermTells.j0 : Nat → ByteArray → ByteArray → Option (Bool)
  | 0, _, _ => none
  | k + 1, x0, x1 => if (x1.size : Int) > 60 then (if 0 ≤ 60 then (if 60 ≤ (x1.size : Int) then (tendrillaw6_TermTells.j1 k x0 (x1.extract 0 60)) else (none)) else (none)) else (tendrillaw6_TermTells.j1 k x0 x1)
def tendrillaw6_TermTells.j1 : Nat → ByteArray → ByteArray → Option (Bool)
  | 0, _, _ => none
  | k + 1, x0, x1 => (term_Of.f x1).bind fun bt117 => ((tendrilref1_Term.f k x1).bind fun bt119 => ((term_Right.f x0).bind fun t121 => ((tendrilref1_RightTerm.f k x0).bind fun t122 => (if (t121 == t122) = true then ((term_Key.f x0).bind fun t123 => ((tendrilref1_Key.f k x0).bind fun t124 => (if t123.toList = t124.toList then (if bt117.1.toList = bt119.1.toList then (if (bt117.2 == bt119.2) = true then ((term_Common.f k x0 x1).bind fun t125 => ((tendrilref1_Common.f k x0 x1).bind fun t126 => (if t125 = t126 then ((term_Next.f x0).bind fun t127 => (if x0.size + 1 ≤ 9223372036854775807 then (if t127.toList = (x0 ++ (⟨#[0]⟩ : ByteArray)).toList then ((tendrillaw6_TermRuns.f k).bind fun t128 => (some t128)) else (some false)) else (none))) else (some false)))) else (some false)) else (some false)) else (some false)))) else (some false)))))
end
def tendrillaw6_TermTells.f (k : Nat) (a0 : ByteArray) (a1 : ByteArray) : Option (Bool) := if (a0.size : Int) > 60 then (if 0 ≤ 60 then (if 60 ≤ (a0.size : Int) then (tendrillaw6_TermTells.j0 k (a0.extract 0 60) a1) else (none)) else (none)) else (tendrillaw6_TermTells.j0 k a0 a1)
theorem tendrillaw6_TermTells.mono_l : ∀ k, (∀ y0 y1, LeO (tendrillaw6_TermTells.j0 k y0 y1) (tendrillaw6_TermTells.j0 (k + 1) y0 y1)) ∧ (∀ y0 y1, LeO (tendrillaw6_TermTells.j1 k y0 y1) (tendrillaw6_TermTells.j1 (k + 1) y0 y1))
  | 0 => ⟨fun _ _ r h => by simp [tendrillaw6_TermTells.j0] at h, fun _ _ r h => by simp [tendrillaw6_TermTells.j1] at h⟩
  | k + 1 => by
    obtain ⟨ih0, ih1⟩ := tendrillaw6_TermTells.mono_l k
    refine ⟨?_, ?_⟩
    · intro y0 y1
      unfold tendrillaw6_TermTells.j0
      repeat' first
      | (with_reducible exact ih0 _ _)
      | (with_reducible exact ih1 _ _)
      | (with_reducible exact tendrillaw6_TermRuns.mono _)
      | (with_reducible exact tendrilref1_Common.mono _ _ _)
      | (with_reducible exact tendrilref1_Key.mono _ _)
      | (with_reducible exact tendrilref1_RightTerm.mono _ _)
      | (with_reducible exact tendrilref1_Term.mono _ _)
      | (with_reducible exact term_Common.mono _ _ _)
      | (with_reducible exact LeO.refl _)
      | (with_reducible exact LeO.none _)
      | (with_reducible refine LeO.ite ?_ ?_)
      | (with_reducible refine LeO.bind ?_ (fun _ => ?_))
      | exact ih0 _ _
      | exact ih1 _ _
      | exact tendrillaw6_TermRuns.mono _
      | exact tendrilref1_Common.mono _ _ _
      | exact tendrilref1_Key.mono _ _
      | exact tendrilref1_RightTerm.mono _ _
      | exact tendrilref1_Term.mono _ _
      | exact term_Common.mono _ _ _
      | exact LeO.none _
      | refine LeO.ite ?_ ?_
      | refine LeO.bind ?_ (fun _ => ?_)
    · intro y0 y1
      unfold tendrillaw6_TermTells.j1
      repeat' first
      | (with_reducible exact ih0 _ _)
      | (with_reducible exact ih1 _ _)
      | (with_reducible exact tendrillaw6_TermRuns.mono _)
      | (with_reducible exact tendrilref1_Common.mono _ _ _)
      | (with_reducible exact tendrilref1_Key.mono _ _)
      | (with_reducible exact tendrilref1_RightTerm.mono _ _)
      | (with_reducible exact tendrilref1_Term.mono _ _)
      | (with_reducible exact term_Common.mono _ _ _)
      | (with_reducible exact LeO.refl _)
      | (with_reducible exact LeO.none _)
      | (with_reducible refine LeO.ite ?_ ?_)
      | (with_reducible refine LeO.bind ?_ (fun _ => ?_))
      | exact ih0 _ _
      | exact ih1 _ _
      | exact tendrillaw6_TermRuns.mono _
      | exact tendrilref1_Common.mono _ _ _
      | exact tendrilref1_Key.mono _ _
      | exact tendrilref1_RightTerm.mono _ _
      | exact tendrilref1_Term.mono _ _
      | exact term_Common.mono _ _ _
      | exact LeO.none _
      | refine LeO.ite ?_ ?_
      | refine LeO.bind ?_ (fun _ => ?_)
theorem tendrillaw6_TermTells.mono : ∀ a0 a1 k, LeO (tendrillaw6_TermTells.f k a0 a1) (tendrillaw6_TermTells.f (k + 1) a0 a1) := by
  intro a0 a1 k
  obtain ⟨ih0, ih1⟩ := tendrillaw6_TermTells.mono_l k
  unfold tendrillaw6_TermTells.f
  repeat' first
      | (with_reducible exact ih0 _ _)
      | (with_reducible exact ih1 _ _)
      | (with_reducible exact tendrillaw6_TermRuns.mono _)
      | (with_reducible exact tendrilref1_Common.mono _ _ _)
      | (with_reducible exact tendrilref1_Key.mono _ _)
      | (with_reducible exact tendrilref1_RightTerm.mono _ _)
      | (with_reducible exact tendrilref1_Term.mono _ _)
      | (with_reducible exact term_Common.mono _ _ _)
      | (with_reducible exact LeO.refl _)
      | (with_reducible exact LeO.none _)
      | (with_reducible refine LeO.ite ?_ ?_)
      | (with_reducible refine LeO.bind ?_ (fun _ => ?_))
      | exact ih0 _ _
      | exact ih1 _ _
      | exact tendrillaw6_TermRuns.mono _
      | exact tendrilref1_Common.mono _ _ _
      | exact tendrilref1_Key.mono _ _
      | exact tendrilref1_RightTerm.mono _ _
      | exact tendrilref1_Term.mono _ _
      | exact term_Common.mono _ _ _
      | exact LeO.none _
      | refine LeO.ite ?_ ?_
      | refine LeO.bind ?_ (fun _ => ?_)
set_option maxHeartbeats 8000000 in
set_option maxRecDepth 100000 in
theorem tendrillaw6_TermTells.calls (k : Nat) (a0 : ByteArray) (a1 : ByteArray) (r : Bool) (w : World) (h : tendrillaw6_TermTells.f k a0 a1 = some r) :
    Calls Try.prog 6 #[.string a0, .string a1] w fun e w' => e = .returned (.bool r) ∧ Drawn0 w w' := by
  have H : (if (a0.size : Int) > 60 then (if 0 ≤ 60 then (if 60 ≤ (a0.size : Int) then (tendrillaw6_TermTells.j0 k (a0.extract 0 60) a1) else (none)) else (none)) else (tendrillaw6_TermTells.j0 k a0 a1)) = some r := h
  clear h
  have HC3 := Aside0.mk H
  clear H
  go_enter Try.func6, Try.ntmps6
  go_upto_if 11 with (fail)
  go_cut [0] (fun v0 wc => ∃ (kq : Nat) (x0_2 : ByteArray), v0 = .string x0_2 ∧ Aside0 (tendrillaw6_TermTells.j0 kq x0_2 a1 = some r) ∧ Aside0 (kq ≤ k) ∧ Drawn0 w wc)
  case first =>
    have H := HC3.out
    clear HC3
    by_cases c4 : (a0.size : Int) > 60
    · rw [if_pos c4] at H
      have c4b0 : decide (60 < (a0.size : Int)) = true := decide_eq_true c4
      have c4b1 : decide (60 < a0.size) = true := decide_eq_true (by omega)
      clear c4
      (first | rw [c4b0] | (simp only [i64_w, i32_w]; rw [c4b0]) | skip)
      by_cases c5 : 0 ≤ 60
      · rw [if_pos c5] at H
        have c5b0 := eq_true c5
        have c5b1 : decide (0 ≤ 60) = true := decide_eq_true c5
        clear c5
        by_cases c6 : 60 ≤ (a0.size : Int)
        · rw [if_pos c6] at H
          have c6b0 := eq_true c6
          have c6b1 : decide (60 ≤ (a0.size : Int)) = true := decide_eq_true c6
          clear c6
          have H' := Aside0.mk H
          clear H
          go_wp2
          go_meet
          case rel => exact ⟨_, (a0.extract 0 60), (by first | rfl | (simp; done) | (simp [*]; done)), H', ⟨by first | omega | exact Nat.le_refl _⟩, by repeat (first | exact Drawn0.refl _ | apply Drawn0.step)⟩
        · rw [if_neg c6] at H
          exact absurd H (by simp)
      · rw [if_neg c5] at H
        exact absurd H (by simp)
    · rw [if_neg c4] at H
      have c4b0 : decide (60 < (a0.size : Int)) = false := decide_eq_false c4
      have c4b1 : decide (60 < a0.size) = false := decide_eq_false (by omega)
      clear c4
      (first | rw [c4b0] | (simp only [i64_w, i32_w]; rw [c4b0]) | skip)
      have H' := Aside0.mk H
      clear H
      go_wp2
      go_meet
      case rel => exact ⟨_, (a0), (by first | rfl | (simp; done) | (simp [*]; done)), H', ⟨by first | omega | exact Nat.le_refl _⟩, by repeat (first | exact Drawn0.refl _ | apply Drawn0.step)⟩
  case rest =>
    clear HC3
    try clear p2
    try clear c4
    try clear c4b0
    try clear c4b1
    try clear c5
    try clear c5b0
    try clear c5b1
    try clear c6
    try clear c6b0
    try clear c6b1
    obtain ⟨kq, x0_2, rfl, HA, HJ2, ⟨mc2, rfl⟩⟩ := hcut
    cases kq with
    | zero => exact absurd HA.out (by simp [tendrillaw6_TermTells.j0])
    | succ kj2 =>
      have H := HA.out
      clear HA
      simp only [tendrillaw6_TermTells.j0] at H
      have HC7 := Aside0.mk H
      clear H
      go_upto_if 16 with (fail)
      go_cut [1] (fun v1 wc => ∃ (kq : Nat) (x1_6 : ByteArray), v1 = .string x1_6 ∧ Aside0 (tendrillaw6_TermTells.j1 kq x0_2 x1_6 = some r) ∧ Aside0 (kq ≤ kj2) ∧ Drawn0 w wc)
      case first =>
        have H := HC7.out
        clear HC7
        by_cases c8 : (a1.size : Int) > 60
        · rw [if_pos c8] at H
          have c8b0 : decide (60 < (a1.size : Int)) = true := decide_eq_true c8
          have c8b1 : decide (60 < a1.size) = true := decide_eq_true (by omega)
          clear c8
          (first | rw [c8b0] | (simp only [i64_w, i32_w]; rw [c8b0]) | skip)
          by_cases c9 : 0 ≤ 60
          · rw [if_pos c9] at H
            have c9b0 := eq_true c9
            have c9b1 : decide (0 ≤ 60) = true := decide_eq_true c9
            clear c9
            by_cases c10 : 60 ≤ (a1.size : Int)
            · rw [if_pos c10] at H
              have c10b0 := eq_true c10
              have c10b1 : decide (60 ≤ (a1.size : Int)) = true := decide_eq_true c10
              clear c10
              have H' := Aside0.mk H
              clear H
              go_wp2
              go_meet
              case rel => exact ⟨_, (a1.extract 0 60), (by first | rfl | (simp; done) | (simp [*]; done)), H', ⟨by have := HJ2.out; first | omega | exact Nat.le_refl _⟩, by repeat (first | exact Drawn0.refl _ | apply Drawn0.step)⟩
            · rw [if_neg c10] at H
              exact absurd H (by simp)
          · rw [if_neg c9] at H
            exact absurd H (by simp)
        · rw [if_neg c8] at H
          have c8b0 : decide (60 < (a1.size : Int)) = false := decide_eq_false c8
          have c8b1 : decide (60 < a1.size) = false := decide_eq_false (by omega)
          clear c8
          (first | rw [c8b0] | (simp only [i64_w, i32_w]; rw [c8b0]) | skip)
          have H' := Aside0.mk H
          clear H
          go_wp2
          go_meet
          case rel => exact ⟨_, (a1), (by first | rfl | (simp; done) | (simp [*]; done)), H', ⟨by have := HJ2.out; first | omega | exact Nat.le_refl _⟩, by repeat (first | exact Drawn0.refl _ | apply Drawn0.step)⟩
      case rest =>
        clear HC7
        try clear c1
        try clear c2
        try clear p2
        try clear c4
        try clear c4b0
        try clear c4b1
        try clear c5
        try clear c5b0
        try clear c5b1
        try clear c6
        try clear c6b0
        try clear c6b1
        try clear c8
        try clear c8b0
        try clear c8b1
        try clear c9
        try clear c9b0
        try clear c9b1
        try clear c10
        try clear c10b0
        try clear c10b1
        try clear p2
        obtain ⟨kq, x1_6, rfl, HA, HJ6, ⟨mc6, rfl⟩⟩ := hcut
        cases kq with
        | zero => exact absurd HA.out (by simp [tendrillaw6_TermTells.j1])
        | succ kj6 =>
          have H := HA.out
          clear HA
          simp only [tendrillaw6_TermTells.j1] at H
          replace H := Option.bind_eq_some_iff.mp H
          obtain ⟨⟨t117, t118⟩, A110, H⟩ := H
          replace H : ((tendrilref1_Term.f kj6 x1_6).bind fun bt119 => ((term_Right.f x0_2).bind fun t121 => ((tendrilref1_RightTerm.f kj6 x0_2).bind fun t122 => (if (t121 == t122) = true then ((term_Key.f x0_2).bind fun t123 => ((tendrilref1_Key.f kj6 x0_2).bind fun t124 => (if t123.toList = t124.toList then (if t117.toList = bt119.1.toList then (if (t118 == bt119.2) = true then ((term_Common.f kj6 x0_2 x1_6).bind fun t125 => ((tendrilref1_Common.f kj6 x0_2 x1_6).bind fun t126 => (if t125 = t126 then ((term_Next.f x0_2).bind fun t127 => (if x0_2.size + 1 ≤ 9223372036854775807 then (if t127.toList = (x0_2 ++ (⟨#[0]⟩ : ByteArray)).toList then ((tendrillaw6_TermRuns.f kj6).bind fun t128 => (some t128)) else (some false)) else (none))) else (some false)))) else (some false)) else (some false)) else (some false)))) else (some false))))) = some r := H
          have A11 := Aside0.mk A110
          clear A110
          replace H := Option.bind_eq_some_iff.mp H
          obtain ⟨⟨t119, t120⟩, A120, H⟩ := H
          replace H : ((term_Right.f x0_2).bind fun t121 => ((tendrilref1_RightTerm.f kj6 x0_2).bind fun t122 => (if (t121 == t122) = true then ((term_Key.f x0_2).bind fun t123 => ((tendrilref1_Key.f kj6 x0_2).bind fun t124 => (if t123.toList = t124.toList then (if t117.toList = t119.toList then (if (t118 == t120) = true then ((term_Common.f kj6 x0_2 x1_6).bind fun t125 => ((tendrilref1_Common.f kj6 x0_2 x1_6).bind fun t126 => (if t125 = t126 then ((term_Next.f x0_2).bind fun t127 => (if x0_2.size + 1 ≤ 9223372036854775807 then (if t127.toList = (x0_2 ++ (⟨#[0]⟩ : ByteArray)).toList then ((tendrillaw6_TermRuns.f kj6).bind fun t128 => (some t128)) else (some false)) else (none))) else (some false)))) else (some false)) else (some false)) else (some false)))) else (some false)))) = some r := H
          have A12 := Aside0.mk A120
          clear A120
          replace H := Option.bind_eq_some_iff.mp H
          obtain ⟨t121, A130, H⟩ := H
          replace H : ((tendrilref1_RightTerm.f kj6 x0_2).bind fun t122 => (if (t121 == t122) = true then ((term_Key.f x0_2).bind fun t123 => ((tendrilref1_Key.f kj6 x0_2).bind fun t124 => (if t123.toList = t124.toList then (if t117.toList = t119.toList then (if (t118 == t120) = true then ((term_Common.f kj6 x0_2 x1_6).bind fun t125 => ((tendrilref1_Common.f kj6 x0_2 x1_6).bind fun t126 => (if t125 = t126 then ((term_Next.f x0_2).bind fun t127 => (if x0_2.size + 1 ≤ 9223372036854775807 then (if t127.toList = (x0_2 ++ (⟨#[0]⟩ : ByteArray)).toList then ((tendrillaw6_TermRuns.f kj6).bind fun t128 => (some t128)) else (some false)) else (none))) else (some false)))) else (some false)) else (some false)) else (some false)))) else (some false))) = some r := H
          have A13 := Aside0.mk A130
          clear A130
          replace H := Option.bind_eq_some_iff.mp H
          obtain ⟨t122, A140, H⟩ := H
          replace H : (if (t121 == t122) = true then ((term_Key.f x0_2).bind fun t123 => ((tendrilref1_Key.f kj6 x0_2).bind fun t124 => (if t123.toList = t124.toList then (if t117.toList = t119.toList then (if (t118 == t120) = true then ((term_Common.f kj6 x0_2 x1_6).bind fun t125 => ((tendrilref1_Common.f kj6 x0_2 x1_6).bind fun t126 => (if t125 = t126 then ((term_Next.f x0_2).bind fun t127 => (if x0_2.size + 1 ≤ 9223372036854775807 then (if t127.toList = (x0_2 ++ (⟨#[0]⟩ : ByteArray)).toList then ((tendrillaw6_TermRuns.f kj6).bind fun t128 => (some t128)) else (some false)) else (none))) else (some false)))) else (some false)) else (some false)) else (some false)))) else (some false)) = some r := H
          have A14 := Aside0.mk A140
          clear A140
          by_cases c15 : (t121 == t122) = true
          · rw [if_pos c15] at H
            have c15b0 : (t121 == t122) = true := c15
            (try (have c15b1 : decide (t121 = t122) = true := by simpa using c15))
            (try (have c15b2 : (t121 == t122) = true := by simpa using c15))
            clear c15
            replace H := Option.bind_eq_some_iff.mp H
            obtain ⟨t123, A160, H⟩ := H
            replace H : ((tendrilref1_Key.f kj6 x0_2).bind fun t124 => (if t123.toList = t124.toList then (if t117.toList = t119.toList then (if (t118 == t120) = true then ((term_Common.f kj6 x0_2 x1_6).bind fun t125 => ((tendrilref1_Common.f kj6 x0_2 x1_6).bind fun t126 => (if t125 = t126 then ((term_Next.f x0_2).bind fun t127 => (if x0_2.size + 1 ≤ 9223372036854775807 then (if t127.toList = (x0_2 ++ (⟨#[0]⟩ : ByteArray)).toList then ((tendrillaw6_TermRuns.f kj6).bind fun t128 => (some t128)) else (some false)) else (none))) else (some false)))) else (some false)) else (some false)) else (some false))) = some r := H
            have A16 := Aside0.mk A160
            clear A160
            replace H := Option.bind_eq_some_iff.mp H
            obtain ⟨t124, A170, H⟩ := H
            replace H : (if t123.toList = t124.toList then (if t117.toList = t119.toList then (if (t118 == t120) = true then ((term_Common.f kj6 x0_2 x1_6).bind fun t125 => ((tendrilref1_Common.f kj6 x0_2 x1_6).bind fun t126 => (if t125 = t126 then ((term_Next.f x0_2).bind fun t127 => (if x0_2.size + 1 ≤ 9223372036854775807 then (if t127.toList = (x0_2 ++ (⟨#[0]⟩ : ByteArray)).toList then ((tendrillaw6_TermRuns.f kj6).bind fun t128 => (some t128)) else (some false)) else (none))) else (some false)))) else (some false)) else (some false)) else (some false)) = some r := H
            have A17 := Aside0.mk A170
            clear A170
            by_cases c18 : t123.toList = t124.toList
            · rw [if_pos c18] at H
              have c18b0 : (t123.toList == t124.toList) = true := beq_iff_eq.mpr c18
              have c18b1 : (t123.toList != t124.toList) = false := bne_eq_false_iff_eq.mpr c18
              clear c18
              by_cases c19 : t117.toList = t119.toList
              · rw [if_pos c19] at H
                have c19b0 : (t117.toList == t119.toList) = true := beq_iff_eq.mpr c19
                have c19b1 : (t117.toList != t119.toList) = false := bne_eq_false_iff_eq.mpr c19
                clear c19
                by_cases c20 : (t118 == t120) = true
                · rw [if_pos c20] at H
                  have c20b0 : (t118 == t120) = true := c20
                  (try (have c20b1 : decide (t118 = t120) = true := by simpa using c20))
                  (try (have c20b2 : (t118 == t120) = true := by simpa using c20))
                  clear c20
                  replace H := Option.bind_eq_some_iff.mp H
                  obtain ⟨t125, A210, H⟩ := H
                  replace H : ((tendrilref1_Common.f kj6 x0_2 x1_6).bind fun t126 => (if t125 = t126 then ((term_Next.f x0_2).bind fun t127 => (if x0_2.size + 1 ≤ 9223372036854775807 then (if t127.toList = (x0_2 ++ (⟨#[0]⟩ : ByteArray)).toList then ((tendrillaw6_TermRuns.f kj6).bind fun t128 => (some t128)) else (some false)) else (none))) else (some false))) = some r := H
                  have A21 := Aside0.mk A210
                  clear A210
                  replace H := Option.bind_eq_some_iff.mp H
                  obtain ⟨t126, A220, H⟩ := H
                  replace H : (if t125 = t126 then ((term_Next.f x0_2).bind fun t127 => (if x0_2.size + 1 ≤ 9223372036854775807 then (if t127.toList = (x0_2 ++ (⟨#[0]⟩ : ByteArray)).toList then ((tendrillaw6_TermRuns.f kj6).bind fun t128 => (some t128)) else (some false)) else (none))) else (some false)) = some r := H
                  have A22 := Aside0.mk A220
                  clear A220
                  by_cases c23 : t125 = t126
                  · rw [if_pos c23] at H
                    have c23b0 : (t125 == t126) = true := beq_iff_eq.mpr c23
                    have c23b1 : (t125 != t126) = false := bne_eq_false_iff_eq.mpr c23
                    clear c23
                    replace H := Option.bind_eq_some_iff.mp H
                    obtain ⟨t127, A240, H⟩ := H
                    replace H : (if x0_2.size + 1 ≤ 9223372036854775807 then (if t127.toList = (x0_2 ++ (⟨#[0]⟩ : ByteArray)).toList then ((tendrillaw6_TermRuns.f kj6).bind fun t128 => (some t128)) else (some false)) else (none)) = some r := H
                    have A24 := Aside0.mk A240
                    clear A240
                    by_cases c25 : x0_2.size + 1 ≤ 9223372036854775807
                    · rw [if_pos c25] at H
                      have c25b0 := eq_true c25
                      have c25b1 : decide (x0_2.size + 1 ≤ 9223372036854775807) = true := decide_eq_true c25
                      try have c25b2 : (9223372036854775807 < x0_2.size + 1) = False := eq_false (Nat.not_lt.2 c25)
                      by_cases c26 : t127.toList = (x0_2 ++ (⟨#[0]⟩ : ByteArray)).toList
                      · rw [if_pos c26] at H
                        have c26b0 : (t127.toList == (x0_2 ++ (⟨#[0]⟩ : ByteArray)).toList) = true := beq_iff_eq.mpr c26
                        have c26b1 : (t127.toList != (x0_2 ++ (⟨#[0]⟩ : ByteArray)).toList) = false := bne_eq_false_iff_eq.mpr c26
                        clear c26
                        replace H := Option.bind_eq_some_iff.mp H
                        obtain ⟨t128, A270, H⟩ := H
                        replace H : (some t128) = some r := H
                        have A27 := Aside0.mk A270
                        clear A270
                        obtain rfl := Option.some.inj H
                        go_wp2_with (first | ((with_reducible refine gate_callee (f := 10) rfl ?_); refine goesL_ (some 21) rfl rfl Try.func10 (by kernel_rfl) rfl #[.string x1_6] rfl (by (try simp only [List.map_toArray, List.map_cons, List.map_nil]); first | done | rfl | (simp only [List.length_drop, List.length_take]; rfl)) ?_; (with_reducible refine (term_Of.calls x1_6 t117 t118 _ A11.out).mono ?_); rintro e w' ⟨rfl, ⟨nd, rfl⟩⟩; refine ⟨_, rfl, ?_⟩) | ((with_reducible refine gate_callee (f := 14) rfl ?_); refine goesL_ (some 26) rfl rfl Try.func14 (by kernel_rfl) rfl #[.string x1_6] rfl (by (try simp only [List.map_toArray, List.map_cons, List.map_nil]); first | done | rfl | (simp only [List.length_drop, List.length_take]; rfl)) ?_; (with_reducible refine (tendrilref1_Term.calls kj6 x1_6 t119 t120 _ A12.out).mono ?_); rintro e w' ⟨rfl, ⟨nd, rfl⟩⟩; refine ⟨_, rfl, ?_⟩) | ((with_reducible refine gate_callee (f := 12) rfl ?_); refine goesL_ (some 30) rfl rfl Try.func12 (by kernel_rfl) rfl #[.string x0_2] rfl (by (try simp only [List.map_toArray, List.map_cons, List.map_nil]); first | done | rfl | (simp only [List.length_drop, List.length_take]; rfl)) ?_; (with_reducible refine (term_Right.calls x0_2 t121 _ A13.out).mono ?_); rintro e w' ⟨rfl, ⟨nd, rfl⟩⟩; refine ⟨_, rfl, ?_⟩) | ((with_reducible refine gate_callee (f := 15) rfl ?_); refine goesL_ (some 32) rfl rfl Try.func15 (by kernel_rfl) rfl #[.string x0_2] rfl (by (try simp only [List.map_toArray, List.map_cons, List.map_nil]); first | done | rfl | (simp only [List.length_drop, List.length_take]; rfl)) ?_; (with_reducible refine (tendrilref1_RightTerm.calls kj6 x0_2 t122 _ A14.out).mono ?_); rintro e w' ⟨rfl, ⟨nd, rfl⟩⟩; refine ⟨_, rfl, ?_⟩) | (go_at_call 9; (with_reducible refine (term_Key.calls x0_2 t123 _ A16.out).mono ?_); rintro e w' ⟨rfl, ⟨nd, rfl⟩⟩) | (go_at_call 16; (with_reducible refine (tendrilref1_Key.calls kj6 x0_2 t124 _ A17.out).mono ?_); rintro e w' ⟨rfl, ⟨nd, rfl⟩⟩) | (go_at_call 11; (with_reducible refine (term_Common.calls kj6 x0_2 x1_6 t125 _ A21.out).mono ?_); rintro e w' ⟨rfl, ⟨nd, rfl⟩⟩) | (go_at_call 17; (with_reducible refine (tendrilref1_Common.calls kj6 x0_2 x1_6 t126 _ A22.out).mono ?_); rintro e w' ⟨rfl, ⟨nd, rfl⟩⟩) | (go_at_call 18; (with_reducible refine (term_Next.calls x0_2 t127 _ A24.out).mono ?_); rintro e w' ⟨rfl, ⟨nd, rfl⟩⟩) | (go_at_call 3; (with_reducible refine (tendrillaw6_TermRuns.calls kj6  t128 _ A27.out).mono ?_); rintro e w' ⟨rfl, ⟨nd, rfl⟩⟩))
                        go_ret
                        exact ⟨by first | rfl | (simp; done) | (simp [*]; done), by repeat (first | exact Drawn0.refl _ | apply Drawn0.step)⟩
                      · rw [if_neg c26] at H
                        have c26b0 : (t127.toList == (x0_2 ++ (⟨#[0]⟩ : ByteArray)).toList) = false := beq_eq_false_iff_ne.mpr c26
                        have c26b1 : (t127.toList != (x0_2 ++ (⟨#[0]⟩ : ByteArray)).toList) = true := bne_iff_ne.mpr c26
                        obtain rfl := Option.some.inj H
                        go_wp2_with (first | ((with_reducible refine gate_callee (f := 10) rfl ?_); refine goesL_ (some 21) rfl rfl Try.func10 (by kernel_rfl) rfl #[.string x1_6] rfl (by (try simp only [List.map_toArray, List.map_cons, List.map_nil]); first | done | rfl | (simp only [List.length_drop, List.length_take]; rfl)) ?_; (with_reducible refine (term_Of.calls x1_6 t117 t118 _ A11.out).mono ?_); rintro e w' ⟨rfl, ⟨nd, rfl⟩⟩; refine ⟨_, rfl, ?_⟩) | ((with_reducible refine gate_callee (f := 14) rfl ?_); refine goesL_ (some 26) rfl rfl Try.func14 (by kernel_rfl) rfl #[.string x1_6] rfl (by (try simp only [List.map_toArray, List.map_cons, List.map_nil]); first | done | rfl | (simp only [List.length_drop, List.length_take]; rfl)) ?_; (with_reducible refine (tendrilref1_Term.calls kj6 x1_6 t119 t120 _ A12.out).mono ?_); rintro e w' ⟨rfl, ⟨nd, rfl⟩⟩; refine ⟨_, rfl, ?_⟩) | ((with_reducible refine gate_callee (f := 12) rfl ?_); refine goesL_ (some 30) rfl rfl Try.func12 (by kernel_rfl) rfl #[.string x0_2] rfl (by (try simp only [List.map_toArray, List.map_cons, List.map_nil]); first | done | rfl | (simp only [List.length_drop, List.length_take]; rfl)) ?_; (with_reducible refine (term_Right.calls x0_2 t121 _ A13.out).mono ?_); rintro e w' ⟨rfl, ⟨nd, rfl⟩⟩; refine ⟨_, rfl, ?_⟩) | ((with_reducible refine gate_callee (f := 15) rfl ?_); refine goesL_ (some 32) rfl rfl Try.func15 (by kernel_rfl) rfl #[.string x0_2] rfl (by (try simp only [List.map_toArray, List.map_cons, List.map_nil]); first | done | rfl | (simp only [List.length_drop, List.length_take]; rfl)) ?_; (with_reducible refine (tendrilref1_RightTerm.calls kj6 x0_2 t122 _ A14.out).mono ?_); rintro e w' ⟨rfl, ⟨nd, rfl⟩⟩; refine ⟨_, rfl, ?_⟩) | (go_at_call 9; (with_reducible refine (term_Key.calls x0_2 t123 _ A16.out).mono ?_); rintro e w' ⟨rfl, ⟨nd, rfl⟩⟩) | (go_at_call 16; (with_reducible refine (tendrilref1_Key.calls kj6 x0_2 t124 _ A17.out).mono ?_); rintro e w' ⟨rfl, ⟨nd, rfl⟩⟩) | (go_at_call 11; (with_reducible refine (term_Common.calls kj6 x0_2 x1_6 t125 _ A21.out).mono ?_); rintro e w' ⟨rfl, ⟨nd, rfl⟩⟩) | (go_at_call 17; (with_reducible refine (tendrilref1_Common.calls kj6 x0_2 x1_6 t126 _ A22.out).mono ?_); rintro e w' ⟨rfl, ⟨nd, rfl⟩⟩) | (go_at_call 18; (with_reducible refine (term_Next.calls x0_2 t127 _ A24.out).mono ?_); rintro e w' ⟨rfl, ⟨nd, rfl⟩⟩))
                        go_ret
                        exact ⟨by first | rfl | (simp; done) | (simp [*]; done), by repeat (first | exact Drawn0.refl _ | apply Drawn0.step)⟩
                    · rw [if_neg c25] at H
                      exact absurd H (by simp)
                  · rw [if_neg c23] at H
                    have c23b0 : (t125 == t126) = false := beq_eq_false_iff_ne.mpr c23
                    have c23b1 : (t125 != t126) = true := bne_iff_ne.mpr c23
                    obtain rfl := Option.some.inj H
                    go_wp2_with (first | ((with_reducible refine gate_callee (f := 10) rfl ?_); refine goesL_ (some 21) rfl rfl Try.func10 (by kernel_rfl) rfl #[.string x1_6] rfl (by (try simp only [List.map_toArray, List.map_cons, List.map_nil]); first | done | rfl | (simp only [List.length_drop, List.length_take]; rfl)) ?_; (with_reducible refine (term_Of.calls x1_6 t117 t118 _ A11.out).mono ?_); rintro e w' ⟨rfl, ⟨nd, rfl⟩⟩; refine ⟨_, rfl, ?_⟩) | ((with_reducible refine gate_callee (f := 14) rfl ?_); refine goesL_ (some 26) rfl rfl Try.func14 (by kernel_rfl) rfl #[.string x1_6] rfl (by (try simp only [List.map_toArray, List.map_cons, List.map_nil]); first | done | rfl | (simp only [List.length_drop, List.length_take]; rfl)) ?_; (with_reducible refine (tendrilref1_Term.calls kj6 x1_6 t119 t120 _ A12.out).mono ?_); rintro e w' ⟨rfl, ⟨nd, rfl⟩⟩; refine ⟨_, rfl, ?_⟩) | ((with_reducible refine gate_callee (f := 12) rfl ?_); refine goesL_ (some 30) rfl rfl Try.func12 (by kernel_rfl) rfl #[.string x0_2] rfl (by (try simp only [List.map_toArray, List.map_cons, List.map_nil]); first | done | rfl | (simp only [List.length_drop, List.length_take]; rfl)) ?_; (with_reducible refine (term_Right.calls x0_2 t121 _ A13.out).mono ?_); rintro e w' ⟨rfl, ⟨nd, rfl⟩⟩; refine ⟨_, rfl, ?_⟩) | ((with_reducible refine gate_callee (f := 15) rfl ?_); refine goesL_ (some 32) rfl rfl Try.func15 (by kernel_rfl) rfl #[.string x0_2] rfl (by (try simp only [List.map_toArray, List.map_cons, List.map_nil]); first | done | rfl | (simp only [List.length_drop, List.length_take]; rfl)) ?_; (with_reducible refine (tendrilref1_RightTerm.calls kj6 x0_2 t122 _ A14.out).mono ?_); rintro e w' ⟨rfl, ⟨nd, rfl⟩⟩; refine ⟨_, rfl, ?_⟩) | (go_at_call 9; (with_reducible refine (term_Key.calls x0_2 t123 _ A16.out).mono ?_); rintro e w' ⟨rfl, ⟨nd, rfl⟩⟩) | (go_at_call 16; (with_reducible refine (tendrilref1_Key.calls kj6 x0_2 t124 _ A17.out).mono ?_); rintro e w' ⟨rfl, ⟨nd, rfl⟩⟩) | (go_at_call 11; (with_reducible refine (term_Common.calls kj6 x0_2 x1_6 t125 _ A21.out).mono ?_); rintro e w' ⟨rfl, ⟨nd, rfl⟩⟩) | (go_at_call 17; (with_reducible refine (tendrilref1_Common.calls kj6 x0_2 x1_6 t126 _ A22.out).mono ?_); rintro e w' ⟨rfl, ⟨nd, rfl⟩⟩))
                    go_ret
                    exact ⟨by first | rfl | (simp; done) | (simp [*]; done), by repeat (first | exact Drawn0.refl _ | apply Drawn0.step)⟩
                · rw [if_neg c20] at H
                  have c20b0 : (t118 == t120) = false := by simpa using c20
                  (try (have c20b1 : decide (t118 = t120) = false := by simpa using c20))
                  (try (have c20b2 : (t118 == t120) = false := by simpa using c20))
                  (try (have c20b3 : ¬ (t118 = t120) := by simpa using c20))
                  clear c20
                  obtain rfl := Option.some.inj H
                  go_wp2_with (first | ((with_reducible refine gate_callee (f := 10) rfl ?_); refine goesL_ (some 21) rfl rfl Try.func10 (by kernel_rfl) rfl #[.string x1_6] rfl (by (try simp only [List.map_toArray, List.map_cons, List.map_nil]); first | done | rfl | (simp only [List.length_drop, List.length_take]; rfl)) ?_; (with_reducible refine (term_Of.calls x1_6 t117 t118 _ A11.out).mono ?_); rintro e w' ⟨rfl, ⟨nd, rfl⟩⟩; refine ⟨_, rfl, ?_⟩) | ((with_reducible refine gate_callee (f := 14) rfl ?_); refine goesL_ (some 26) rfl rfl Try.func14 (by kernel_rfl) rfl #[.string x1_6] rfl (by (try simp only [List.map_toArray, List.map_cons, List.map_nil]); first | done | rfl | (simp only [List.length_drop, List.length_take]; rfl)) ?_; (with_reducible refine (tendrilref1_Term.calls kj6 x1_6 t119 t120 _ A12.out).mono ?_); rintro e w' ⟨rfl, ⟨nd, rfl⟩⟩; refine ⟨_, rfl, ?_⟩) | ((with_reducible refine gate_callee (f := 12) rfl ?_); refine goesL_ (some 30) rfl rfl Try.func12 (by kernel_rfl) rfl #[.string x0_2] rfl (by (try simp only [List.map_toArray, List.map_cons, List.map_nil]); first | done | rfl | (simp only [List.length_drop, List.length_take]; rfl)) ?_; (with_reducible refine (term_Right.calls x0_2 t121 _ A13.out).mono ?_); rintro e w' ⟨rfl, ⟨nd, rfl⟩⟩; refine ⟨_, rfl, ?_⟩) | ((with_reducible refine gate_callee (f := 15) rfl ?_); refine goesL_ (some 32) rfl rfl Try.func15 (by kernel_rfl) rfl #[.string x0_2] rfl (by (try simp only [List.map_toArray, List.map_cons, List.map_nil]); first | done | rfl | (simp only [List.length_drop, List.length_take]; rfl)) ?_; (with_reducible refine (tendrilref1_RightTerm.calls kj6 x0_2 t122 _ A14.out).mono ?_); rintro e w' ⟨rfl, ⟨nd, rfl⟩⟩; refine ⟨_, rfl, ?_⟩) | (go_at_call 9; (with_reducible refine (term_Key.calls x0_2 t123 _ A16.out).mono ?_); rintro e w' ⟨rfl, ⟨nd, rfl⟩⟩) | (go_at_call 16; (with_reducible refine (tendrilref1_Key.calls kj6 x0_2 t124 _ A17.out).mono ?_); rintro e w' ⟨rfl, ⟨nd, rfl⟩⟩))
                  go_ret
                  exact ⟨by first | rfl | (simp; done) | (simp [*]; done), by repeat (first | exact Drawn0.refl _ | apply Drawn0.step)⟩
              · rw [if_neg c19] at H
                have c19b0 : (t117.toList == t119.toList) = false := beq_eq_false_iff_ne.mpr c19
                have c19b1 : (t117.toList != t119.toList) = true := bne_iff_ne.mpr c19
                obtain rfl := Option.some.inj H
                go_wp2_with (first | ((with_reducible refine gate_callee (f := 10) rfl ?_); refine goesL_ (some 21) rfl rfl Try.func10 (by kernel_rfl) rfl #[.string x1_6] rfl (by (try simp only [List.map_toArray, List.map_cons, List.map_nil]); first | done | rfl | (simp only [List.length_drop, List.length_take]; rfl)) ?_; (with_reducible refine (term_Of.calls x1_6 t117 t118 _ A11.out).mono ?_); rintro e w' ⟨rfl, ⟨nd, rfl⟩⟩; refine ⟨_, rfl, ?_⟩) | ((with_reducible refine gate_callee (f := 14) rfl ?_); refine goesL_ (some 26) rfl rfl Try.func14 (by kernel_rfl) rfl #[.string x1_6] rfl (by (try simp only [List.map_toArray, List.map_cons, List.map_nil]); first | done | rfl | (simp only [List.length_drop, List.length_take]; rfl)) ?_; (with_reducible refine (tendrilref1_Term.calls kj6 x1_6 t119 t120 _ A12.out).mono ?_); rintro e w' ⟨rfl, ⟨nd, rfl⟩⟩; refine ⟨_, rfl, ?_⟩) | ((with_reducible refine gate_callee (f := 12) rfl ?_); refine goesL_ (some 30) rfl rfl Try.func12 (by kernel_rfl) rfl #[.string x0_2] rfl (by (try simp only [List.map_toArray, List.map_cons, List.map_nil]); first | done | rfl | (simp only [List.length_drop, List.length_take]; rfl)) ?_; (with_reducible refine (term_Right.calls x0_2 t121 _ A13.out).mono ?_); rintro e w' ⟨rfl, ⟨nd, rfl⟩⟩; refine ⟨_, rfl, ?_⟩) | ((with_reducible refine gate_callee (f := 15) rfl ?_); refine goesL_ (some 32) rfl rfl Try.func15 (by kernel_rfl) rfl #[.string x0_2] rfl (by (try simp only [List.map_toArray, List.map_cons, List.map_nil]); first | done | rfl | (simp only [List.length_drop, List.length_take]; rfl)) ?_; (with_reducible refine (tendrilref1_RightTerm.calls kj6 x0_2 t122 _ A14.out).mono ?_); rintro e w' ⟨rfl, ⟨nd, rfl⟩⟩; refine ⟨_, rfl, ?_⟩) | (go_at_call 9; (with_reducible refine (term_Key.calls x0_2 t123 _ A16.out).mono ?_); rintro e w' ⟨rfl, ⟨nd, rfl⟩⟩) | (go_at_call 16; (with_reducible refine (tendrilref1_Key.calls kj6 x0_2 t124 _ A17.out).mono ?_); rintro e w' ⟨rfl, ⟨nd, rfl⟩⟩))
                go_ret
                exact ⟨by first | rfl | (simp; done) | (simp [*]; done), by repeat (first | exact Drawn0.refl _ | apply Drawn0.step)⟩
            · rw [if_neg c18] at H
              have c18b0 : (t123.toList == t124.toList) = false := beq_eq_false_iff_ne.mpr c18
              have c18b1 : (t123.toList != t124.toList) = true := bne_iff_ne.mpr c18
              obtain rfl := Option.some.inj H
              go_wp2_with (first | ((with_reducible refine gate_callee (f := 10) rfl ?_); refine goesL_ (some 21) rfl rfl Try.func10 (by kernel_rfl) rfl #[.string x1_6] rfl (by (try simp only [List.map_toArray, List.map_cons, List.map_nil]); first | done | rfl | (simp only [List.length_drop, List.length_take]; rfl)) ?_; (with_reducible refine (term_Of.calls x1_6 t117 t118 _ A11.out).mono ?_); rintro e w' ⟨rfl, ⟨nd, rfl⟩⟩; refine ⟨_, rfl, ?_⟩) | ((with_reducible refine gate_callee (f := 14) rfl ?_); refine goesL_ (some 26) rfl rfl Try.func14 (by kernel_rfl) rfl #[.string x1_6] rfl (by (try simp only [List.map_toArray, List.map_cons, List.map_nil]); first | done | rfl | (simp only [List.length_drop, List.length_take]; rfl)) ?_; (with_reducible refine (tendrilref1_Term.calls kj6 x1_6 t119 t120 _ A12.out).mono ?_); rintro e w' ⟨rfl, ⟨nd, rfl⟩⟩; refine ⟨_, rfl, ?_⟩) | ((with_reducible refine gate_callee (f := 12) rfl ?_); refine goesL_ (some 30) rfl rfl Try.func12 (by kernel_rfl) rfl #[.string x0_2] rfl (by (try simp only [List.map_toArray, List.map_cons, List.map_nil]); first | done | rfl | (simp only [List.length_drop, List.length_take]; rfl)) ?_; (with_reducible refine (term_Right.calls x0_2 t121 _ A13.out).mono ?_); rintro e w' ⟨rfl, ⟨nd, rfl⟩⟩; refine ⟨_, rfl, ?_⟩) | ((with_reducible refine gate_callee (f := 15) rfl ?_); refine goesL_ (some 32) rfl rfl Try.func15 (by kernel_rfl) rfl #[.string x0_2] rfl (by (try simp only [List.map_toArray, List.map_cons, List.map_nil]); first | done | rfl | (simp only [List.length_drop, List.length_take]; rfl)) ?_; (with_reducible refine (tendrilref1_RightTerm.calls kj6 x0_2 t122 _ A14.out).mono ?_); rintro e w' ⟨rfl, ⟨nd, rfl⟩⟩; refine ⟨_, rfl, ?_⟩) | (go_at_call 9; (with_reducible refine (term_Key.calls x0_2 t123 _ A16.out).mono ?_); rintro e w' ⟨rfl, ⟨nd, rfl⟩⟩) | (go_at_call 16; (with_reducible refine (tendrilref1_Key.calls kj6 x0_2 t124 _ A17.out).mono ?_); rintro e w' ⟨rfl, ⟨nd, rfl⟩⟩))
              go_ret
              exact ⟨by first | rfl | (simp; done) | (simp [*]; done), by repeat (first | exact Drawn0.refl _ | apply Drawn0.step)⟩
          · rw [if_neg c15] at H
            have c15b0 : (t121 == t122) = false := by simpa using c15
            (try (have c15b1 : decide (t121 = t122) = false := by simpa using c15))
            (try (have c15b2 : (t121 == t122) = false := by simpa using c15))
            (try (have c15b3 : ¬ (t121 = t122) := by simpa using c15))
            clear c15
            obtain rfl := Option.some.inj H
            go_wp2_with (first | ((with_reducible refine gate_callee (f := 10) rfl ?_); refine goesL_ (some 21) rfl rfl Try.func10 (by kernel_rfl) rfl #[.string x1_6] rfl (by (try simp only [List.map_toArray, List.map_cons, List.map_nil]); first | done | rfl | (simp only [List.length_drop, List.length_take]; rfl)) ?_; (with_reducible refine (term_Of.calls x1_6 t117 t118 _ A11.out).mono ?_); rintro e w' ⟨rfl, ⟨nd, rfl⟩⟩; refine ⟨_, rfl, ?_⟩) | ((with_reducible refine gate_callee (f := 14) rfl ?_); refine goesL_ (some 26) rfl rfl Try.func14 (by kernel_rfl) rfl #[.string x1_6] rfl (by (try simp only [List.map_toArray, List.map_cons, List.map_nil]); first | done | rfl | (simp only [List.length_drop, List.length_take]; rfl)) ?_; (with_reducible refine (tendrilref1_Term.calls kj6 x1_6 t119 t120 _ A12.out).mono ?_); rintro e w' ⟨rfl, ⟨nd, rfl⟩⟩; refine ⟨_, rfl, ?_⟩) | ((with_reducible refine gate_callee (f := 12) rfl ?_); refine goesL_ (some 30) rfl rfl Try.func12 (by kernel_rfl) rfl #[.string x0_2] rfl (by (try simp only [List.map_toArray, List.map_cons, List.map_nil]); first | done | rfl | (simp only [List.length_drop, List.length_take]; rfl)) ?_; (with_reducible refine (term_Right.calls x0_2 t121 _ A13.out).mono ?_); rintro e w' ⟨rfl, ⟨nd, rfl⟩⟩; refine ⟨_, rfl, ?_⟩) | ((with_reducible refine gate_callee (f := 15) rfl ?_); refine goesL_ (some 32) rfl rfl Try.func15 (by kernel_rfl) rfl #[.string x0_2] rfl (by (try simp only [List.map_toArray, List.map_cons, List.map_nil]); first | done | rfl | (simp only [List.length_drop, List.length_take]; rfl)) ?_; (with_reducible refine (tendrilref1_RightTerm.calls kj6 x0_2 t122 _ A14.out).mono ?_); rintro e w' ⟨rfl, ⟨nd, rfl⟩⟩; refine ⟨_, rfl, ?_⟩))
            go_ret
            exact ⟨by first | rfl | (simp; done) | (simp [*]; done), by repeat (first | exact Drawn0.refl _ | apply Drawn0.step)⟩

/-- THE ONE PURE STATEMENT of tendrillaw6_TermTells: yours. -/
def tendrillaw6_TermTells.Pure : Prop := ∀ (a0 : ByteArray) (a1 : ByteArray), a0.size ≤ 140737488351232 → a1.size ≤ 140737488351232 → ∃ k, tendrillaw6_TermTells.f k a0 a1 = some true
theorem tendrillaw6_TermTells.walk (P : tendrillaw6_TermTells.Pure) (a0 : ByteArray) (a1 : ByteArray) (w : World) (w0 : a0.size ≤ 140737488351232) (w1 : a1.size ≤ 140737488351232) :
    Calls Try.prog 6 #[.string a0, .string a1] w fun e w' => e = .returned (.bool true) ∧ Below w.heap.size w w' := by
  obtain ⟨k, h⟩ := P a0 a1 w0 w1
  refine (tendrillaw6_TermTells.calls k a0 a1 true w h).mono ?_
  rintro e w' ⟨rfl, hd⟩
  exact ⟨rfl, hd.below⟩

end Go.Proofs.Ytpcccndeojbinaa.PTermTells
