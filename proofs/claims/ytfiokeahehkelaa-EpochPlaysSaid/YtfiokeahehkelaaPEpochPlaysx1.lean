-- Written by a program of this session (mkprint.py): a printed walk over given contracts.
import Derived.Test.YtfiokeahehkelaaPEpochPlaysx0
namespace Go.Proofs.Ytfiokeahehkelaa.PEpochPlays
open Go.RowKit Go.Proofs.YtfiokeahehkelaaW.PrintWords Go.Proofs.YtfiokeahehkelaaW.PrintLast Go.Proofs.YtfiokeahehkelaaW.PrintMore
attribute [local go_sem] max2_int min2_int max_two min_two max_three min_three max_four min_four   -- for this text's walks alone
set_option linter.unusedVariables false
set_option linter.unusedSimpArgs false

-- NOT PRINTED: function 8 (epoch_New)

-- NOT PRINTED: function 26 (epoch_Epochs_of)

/-! ### word_Ref: function 25 -/
def word_Ref.j0 : Nat → Int → Int → Bool → Bool → Option (Int)
  | 0, _, _, _, _ => none
  | k + 1, x0, x1, x2, x21 => if x21 = true then (some 0) else (if x2 = true then (some (Go.bits .or .i64 (Go.bits .or .i64 (wrap64 (x1 * 65536)) x0) 281474976710656)) else (some (Go.bits .or .i64 (wrap64 (x1 * 65536)) x0)))
def word_Ref.f (k : Nat) (a0 : Int) (a1 : Int) (a2 : Bool) : Option (Int) := if a0 < 0 then (word_Ref.j0 k a0 a1 a2 true) else (if a0 ≥ 1024 then (word_Ref.j0 k a0 a1 a2 true) else (if a1 < 1 then (word_Ref.j0 k a0 a1 a2 true) else (word_Ref.j0 k a0 a1 a2 (decide (a1 > 1073741824)))))
theorem word_Ref.mono_l : ∀ k, (∀ y0 y1 y2 y3, LeO (word_Ref.j0 k y0 y1 y2 y3) (word_Ref.j0 (k + 1) y0 y1 y2 y3))
  | 0 => fun _ _ _ _ r h => by simp [word_Ref.j0] at h
  | k + 1 => by
    have ih0 := word_Ref.mono_l k
    · intro y0 y1 y2 y3
      unfold word_Ref.j0
      repeat' first
      | (with_reducible exact ih0 _ _ _ _)
      | (with_reducible exact LeO.refl _)
      | (with_reducible exact LeO.none _)
      | (with_reducible refine LeO.ite ?_ ?_)
      | (with_reducible refine LeO.bind ?_ (fun _ => ?_))
      | exact ih0 _ _ _ _
      | exact LeO.none _
      | refine LeO.ite ?_ ?_
      | refine LeO.bind ?_ (fun _ => ?_)
theorem word_Ref.mono : ∀ a0 a1 a2 k, LeO (word_Ref.f k a0 a1 a2) (word_Ref.f (k + 1) a0 a1 a2) := by
  intro a0 a1 a2 k
  have ih0 := word_Ref.mono_l k
  unfold word_Ref.f
  repeat' first
      | (with_reducible exact ih0 _ _ _ _)
      | (with_reducible exact LeO.refl _)
      | (with_reducible exact LeO.none _)
      | (with_reducible refine LeO.ite ?_ ?_)
      | (with_reducible refine LeO.bind ?_ (fun _ => ?_))
      | exact ih0 _ _ _ _
      | exact LeO.none _
      | refine LeO.ite ?_ ?_
      | refine LeO.bind ?_ (fun _ => ?_)
set_option maxHeartbeats 8000000 in
set_option maxRecDepth 100000 in
theorem word_Ref.calls (k : Nat) (a0 : Int) (a1 : Int) (a2 : Bool) (r : Int) (w : World) (h : word_Ref.f k a0 a1 a2 = some r) :
    Calls Try.prog 25 #[.int .i64 a0, .int .i64 a1, .bool a2] w fun e w' => e = .returned (.int .i64 r) ∧ Drawn0 w w' := by
  have H : (if a0 < 0 then (word_Ref.j0 k a0 a1 a2 true) else (if a0 ≥ 1024 then (word_Ref.j0 k a0 a1 a2 true) else (if a1 < 1 then (word_Ref.j0 k a0 a1 a2 true) else (word_Ref.j0 k a0 a1 a2 (decide (a1 > 1073741824)))))) = some r := h
  clear h
  have HC4 := Aside0.mk H
  clear H
  go_enter Try.func25, Try.ntmps25
  go_upto_region 1 with (fail)
  go_cut [21] (fun v21 wc => ∃ (kq : Nat) (x21_3 : Bool), v21 = .bool x21_3 ∧ Aside0 (word_Ref.j0 kq a0 a1 a2 x21_3 = some r) ∧ Aside0 (kq ≤ k) ∧ Drawn0 w wc)
  case first =>
    have H := HC4.out
    clear HC4
    by_cases c5 : a0 < 0
    · rw [if_pos c5] at H
      have c5b0 : decide (a0 < 0) = true := decide_eq_true c5
      clear c5
      (first | rw [c5b0] | (simp only [i64_w, i32_w]; rw [c5b0]) | skip)
      have H' := Aside0.mk H
      clear H
      go_wp2
      go_meet
      case rel => exact ⟨_, (true), (by first | rfl | (simp; done) | (simp [*]; done)), H', ⟨by first | omega | exact Nat.le_refl _⟩, by repeat (first | exact Drawn0.refl _ | apply Drawn0.step)⟩
    · rw [if_neg c5] at H
      have c5b0 : decide (a0 < 0) = false := decide_eq_false c5
      clear c5
      (first | rw [c5b0] | (simp only [i64_w, i32_w]; rw [c5b0]) | skip)
      by_cases c6 : a0 ≥ 1024
      · rw [if_pos c6] at H
        have c6b0 : decide (1024 ≤ a0) = true := decide_eq_true c6
        clear c6
        have H' := Aside0.mk H
        clear H
        go_wp2
        go_meet
        case rel => exact ⟨_, (true), (by first | rfl | (simp; done) | (simp [*]; done)), H', ⟨by first | omega | exact Nat.le_refl _⟩, by repeat (first | exact Drawn0.refl _ | apply Drawn0.step)⟩
      · rw [if_neg c6] at H
        have c6b0 : decide (1024 ≤ a0) = false := decide_eq_false c6
        clear c6
        by_cases c7 : a1 < 1
        · rw [if_pos c7] at H
          have c7b0 : decide (a1 < 1) = true := decide_eq_true c7
          clear c7
          have H' := Aside0.mk H
          clear H
          go_wp2
          go_meet
          case rel => exact ⟨_, (true), (by first | rfl | (simp; done) | (simp [*]; done)), H', ⟨by first | omega | exact Nat.le_refl _⟩, by repeat (first | exact Drawn0.refl _ | apply Drawn0.step)⟩
        · rw [if_neg c7] at H
          have c7b0 : decide (a1 < 1) = false := decide_eq_false c7
          clear c7
          have H' := Aside0.mk H
          clear H
          go_wp2
          go_meet
          case rel => exact ⟨_, (decide (a1 > 1073741824)), (by first | rfl | (simp; done) | (simp [*]; done)), H', ⟨by first | omega | exact Nat.le_refl _⟩, by repeat (first | exact Drawn0.refl _ | apply Drawn0.step)⟩
  case rest =>
    clear HC4
    try clear c2
    try clear p2
    try clear c5
    try clear c5b0
    try clear c6
    try clear c6b0
    try clear c7
    try clear c7b0
    obtain ⟨kq, x21_3, rfl, HA, HJ3, ⟨mc3, rfl⟩⟩ := hcut
    cases kq with
    | zero => exact absurd HA.out (by simp [word_Ref.j0])
    | succ kj3 =>
      have H := HA.out
      clear HA
      simp only [word_Ref.j0] at H
      by_cases c8 : x21_3 = true
      · subst c8
        have H1 : (some 0) = some r := by rw [if_pos rfl] at H; exact H
        clear H
        have H := H1
        clear H1
        obtain rfl := Option.some.inj H
        go_wp2
        go_ret
        exact ⟨by first | rfl | (simp; done) | (simp [*]; done), by repeat (first | exact Drawn0.refl _ | apply Drawn0.step)⟩
      · replace c8 := Bool.eq_false_iff.mpr c8
        subst c8
        have H1 : (if a2 = true then (some (Go.bits .or .i64 (Go.bits .or .i64 (wrap64 (a1 * 65536)) a0) 281474976710656)) else (some (Go.bits .or .i64 (wrap64 (a1 * 65536)) a0))) = some r := by rw [if_neg (show ¬ (false = true) by decide)] at H; exact H
        clear H
        have H := H1
        clear H1
        by_cases c9 : a2 = true
        · subst c9
          have H1 : (some (Go.bits .or .i64 (Go.bits .or .i64 (wrap64 (a1 * 65536)) a0) 281474976710656)) = some r := by rw [if_pos rfl] at H; exact H
          clear H
          have H := H1
          clear H1
          obtain rfl := Option.some.inj H
          go_wp2
          go_ret
          exact ⟨by first | rfl | (simp; done) | (simp [*]; done), by repeat (first | exact Drawn0.refl _ | apply Drawn0.step)⟩
        · replace c9 := Bool.eq_false_iff.mpr c9
          subst c9
          have H1 : (some (Go.bits .or .i64 (wrap64 (a1 * 65536)) a0)) = some r := by rw [if_neg (show ¬ (false = true) by decide)] at H; exact H
          clear H
          have H := H1
          clear H1
          obtain rfl := Option.some.inj H
          go_wp2
          go_ret
          exact ⟨by first | rfl | (simp; done) | (simp [*]; done), by repeat (first | exact Drawn0.refl _ | apply Drawn0.step)⟩

/-! ### word_Parts: function 27 -/
def word_Parts.f (k : Nat) (a0 : Int) : Option (Int × Int × Bool × Bool) := if a0 = 0 then (some (0, 0, false, false)) else ((word_Ref.f k (Go.bits .and .i64 a0 65535) (Go.bits .and .i64 (a0 / 65536) 4294967295) ((Go.bits .and .i64 a0 281474976710656) != 0)).bind fun t101 => (if t101 = a0 then (some (Go.bits .and .i64 a0 65535, Go.bits .and .i64 (a0 / 65536) 4294967295, ((Go.bits .and .i64 a0 281474976710656) != 0), true)) else (some (0, 0, false, false))))
theorem word_Parts.mono : ∀ a0 k, LeO (word_Parts.f k a0) (word_Parts.f (k + 1) a0) := by
  intro a0 k
  unfold word_Parts.f
  repeat' first
      | (with_reducible exact word_Ref.mono _ _ _ _)
      | (with_reducible exact LeO.refl _)
      | (with_reducible exact LeO.none _)
      | (with_reducible refine LeO.ite ?_ ?_)
      | (with_reducible refine LeO.bind ?_ (fun _ => ?_))
      | exact word_Ref.mono _ _ _ _
      | exact LeO.none _
      | refine LeO.ite ?_ ?_
      | refine LeO.bind ?_ (fun _ => ?_)
set_option maxHeartbeats 8000000 in
set_option maxRecDepth 100000 in
theorem word_Parts.calls (k : Nat) (a0 : Int) (r1 : Int) (r2 : Int) (r3 : Bool) (r4 : Bool) (w : World) (h : word_Parts.f k a0 = some (r1, r2, r3, r4)) :
    Calls Try.prog 27 #[.int .i64 a0] w fun e w' => e = .returned (.tuple #[.int .i64 r1, .int .i64 r2, .bool r3, .bool r4]) ∧ Drawn0 w w' := by
  have H : (if a0 = 0 then (some (0, 0, false, false)) else ((word_Ref.f k (Go.bits .and .i64 a0 65535) (Go.bits .and .i64 (a0 / 65536) 4294967295) ((Go.bits .and .i64 a0 281474976710656) != 0)).bind fun t101 => (if t101 = a0 then (some (Go.bits .and .i64 a0 65535, Go.bits .and .i64 (a0 / 65536) 4294967295, ((Go.bits .and .i64 a0 281474976710656) != 0), true)) else (some (0, 0, false, false))))) = some (r1, r2, r3, r4) := h
  clear h
  by_cases c2 : a0 = 0
  · rw [if_pos c2] at H
    have c2b0 : (a0 == 0) = true := beq_iff_eq.mpr c2
    have c2b1 : (a0 != 0) = false := bne_eq_false_iff_eq.mpr c2
    clear c2
    simp only [Option.some.injEq, Prod.mk.injEq] at H
    obtain ⟨rfl, rfl, rfl, rfl⟩ := H
    go_enter Try.func27, Try.ntmps27
    go_wp2
    refine bodyPost_ret (results_list (rs := [.tmp 2, .tmp 3, .tmp 4, .tmp 5]) rfl (by simp) (.tmp (.tmp (.tmp (.tmp .nil))))) rfl ?_
    exact ⟨by first | rfl | (simp; done) | (simp [*]; done), by repeat (first | exact Drawn0.refl _ | apply Drawn0.step)⟩
  · rw [if_neg c2] at H
    have c2b0 : (a0 == 0) = false := beq_eq_false_iff_ne.mpr c2
    have c2b1 : (a0 != 0) = true := bne_iff_ne.mpr c2
    replace H := Option.bind_eq_some_iff.mp H
    obtain ⟨t101, A30, H⟩ := H
    replace H : (if t101 = a0 then (some (Go.bits .and .i64 a0 65535, Go.bits .and .i64 (a0 / 65536) 4294967295, ((Go.bits .and .i64 a0 281474976710656) != 0), true)) else (some (0, 0, false, false))) = some (r1, r2, r3, r4) := H
    have A3 := Aside0.mk A30
    clear A30
    by_cases c4 : t101 = a0
    · rw [if_pos c4] at H
      have c4b0 : (t101 == a0) = true := beq_iff_eq.mpr c4
      have c4b1 : (t101 != a0) = false := bne_eq_false_iff_eq.mpr c4
      clear c4
      simp only [Option.some.injEq, Prod.mk.injEq] at H
      obtain ⟨rfl, rfl, rfl, rfl⟩ := H
      go_enter Try.func27, Try.ntmps27
      go_wp2_with (first | (go_at_call 25; (with_reducible refine (word_Ref.calls k (Go.bits .and .i64 a0 65535) (Go.bits .and .i64 (a0 / 65536) 4294967295) ((Go.bits .and .i64 a0 281474976710656) != 0) t101 _ A3.out).mono ?_); rintro e w' ⟨rfl, ⟨nd, rfl⟩⟩))
      refine bodyPost_ret (results_list (rs := [.tmp 2, .tmp 3, .tmp 4, .tmp 5]) rfl (by simp) (.tmp (.tmp (.tmp (.tmp .nil))))) rfl ?_
      exact ⟨by first | rfl | (simp; done) | (simp [*]; done), by repeat (first | exact Drawn0.refl _ | apply Drawn0.step)⟩
    · rw [if_neg c4] at H
      have c4b0 : (t101 == a0) = false := beq_eq_false_iff_ne.mpr c4
      have c4b1 : (t101 != a0) = true := bne_iff_ne.mpr c4
      simp only [Option.some.injEq, Prod.mk.injEq] at H
      obtain ⟨rfl, rfl, rfl, rfl⟩ := H
      go_enter Try.func27, Try.ntmps27
      go_wp2_with (first | (go_at_call 25; (with_reducible refine (word_Ref.calls k (Go.bits .and .i64 a0 65535) (Go.bits .and .i64 (a0 / 65536) 4294967295) ((Go.bits .and .i64 a0 281474976710656) != 0) t101 _ A3.out).mono ?_); rintro e w' ⟨rfl, ⟨nd, rfl⟩⟩))
      refine bodyPost_ret (results_list (rs := [.tmp 2, .tmp 3, .tmp 4, .tmp 5]) rfl (by simp) (.tmp (.tmp (.tmp (.tmp .nil))))) rfl ?_
      exact ⟨by first | rfl | (simp; done) | (simp [*]; done), by repeat (first | exact Drawn0.refl _ | apply Drawn0.step)⟩

-- NOT PRINTED: function 9 (epoch_Epochs_Retire)

/-- A state of type 53 at block g of W; what its slices lead to came in by w0. -/
def IsS53 (w0 W : World) (g : Nat) (f0 : Int) (f1 : Int) (f2 : List (S56)) : Prop := ∃ A2 c2, W.heap[g]? = some (.cells #[.int .i64 f0, .int .i64 f1, .slice A2 f2.length c2] 53 (0, 0)) ∧ w0.heap.size ≤ g ∧ Kd.C k56 w0 A2 f2.length f2
theorem IsS53.grown {w0 W : World} {g : Nat} {f0 : Int} {f1 : Int} {f2 : List (S56)} {W1 : World} {row : Option Nat} (h : IsS53 w0 W g f0 f1 f2) (hw : W.grownBy W1 row) (hne : some g ≠ row) : IsS53 w0 W1 g f0 f1 f2 := by
  obtain ⟨A2, c2, hb, hg, hr2⟩ := h
  exact ⟨A2, c2, blk_grown hb hw hne, hg, hr2⟩
theorem IsS53.own_neN {w0 W : World} {g : Nat} {f0 : Int} {f1 : Int} {f2 : List (S56)} {α : Type} {d : Kd α} {e : Nat} {base : Nat} {ok : Nat → Prop} {v : Value} {xs : List α} (h : IsS53 w0 W g f0 f1 f2) (ho : Kd.N d e W base ok v xs) (ht : e ≠ 53) : some g ≠ v.ownBlock := by
  obtain ⟨A2, c2, hb, hg, hr2⟩ := h
  exact Kd.N_ne ho hb ht
theorem IsS53.fresh {w0 W : World} {g : Nat} {f0 : Int} {f1 : Int} {f2 : List (S56)} (h : IsS53 w0 W g f0 f1 f2) : ∀ k, W.heap.size ≤ k → k ≠ g := by
  obtain ⟨A2, c2, hb, hg, hr2⟩ := h
  exact Kd.freshB hb
theorem IsS53.kept {w0 W : World} {g : Nat} {f0 : Int} {f1 : Int} {f2 : List (S56)} {W1 : World} {S : Nat → Prop} (h : IsS53 w0 W g f0 f1 f2) (hk : Kept W W1 S) (hne : ¬ S g) : IsS53 w0 W1 g f0 f1 f2 := by
  obtain ⟨A2, c2, hb, hg, hr2⟩ := h
  exact ⟨A2, c2, blk_kept hb hk hne, hg, hr2⟩
theorem IsS53.below {w0 W : World} {g : Nat} {f0 : Int} {f1 : Int} {f2 : List (S56)} {W1 : World} (h : IsS53 w0 W g f0 f1 f2) (hw : Below W.heap.size W W1) : IsS53 w0 W1 g f0 f1 f2 := h.grown (grown_of_below hw none) (by simp)
theorem IsS53.alloc {w0 W : World} {g : Nat} {f0 : Int} {f1 : Int} {f2 : List (S56)} (h : IsS53 w0 W g f0 f1 f2) (o : Obj) : IsS53 w0 (W.alloc o) g f0 f1 f2 := h.below (below_alloc (Below.refl _ _) o)
theorem IsS53.drewN {w0 W : World} {g : Nat} {f0 : Int} {f1 : Int} {f2 : List (S56)} (h : IsS53 w0 W g f0 f1 f2) (m : Nat) : IsS53 w0 (W.drewN m) g f0 f1 f2 := h
theorem IsS53.drew {w0 W : World} {g : Nat} {f0 : Int} {f1 : Int} {f2 : List (S56)} (h : IsS53 w0 W g f0 f1 f2) : IsS53 w0 W.drew g f0 f1 f2 := h
theorem IsS53.at_ {w0 W : World} {g : Nat} {f0 : Int} {f1 : Int} {f2 : List (S56)} {w' : World} {m : Nat} (hq : W.drewN m = w') (h : IsS53 w0 W g f0 f1 f2) : IsS53 w0 w' g f0 f1 f2 := by subst hq; exact IsS53.drewN h m
theorem IsS53.apart {w0 W : World} {g : Nat} {f0 : Int} {f1 : Int} {f2 : List (S56)} {α : Type} {d : Kd α} {e : Nat} {base : Nat} {ok : Nat → Prop} {v : Value} {xs : List α} (h : IsS53 w0 W g f0 f1 f2) (ho : d.R e W base ok v xs) (ht : ∀ q, q ∈ e :: d.E → q ≠ 53) : d.R e W base (fun k => ok k ∧ k ≠ g) v xs := by
  obtain ⟨A2, c2, hb, hg, hr2⟩ := h
  exact Kd.R_types ho hb ht
theorem IsS53.own_ne {w0 W : World} {g : Nat} {f0 : Int} {f1 : Int} {f2 : List (S56)} {α : Type} {d : Kd α} {e : Nat} {base : Nat} {ok : Nat → Prop} {v : Value} {xs : List α} (h : IsS53 w0 W g f0 f1 f2) (ho : d.R e W base ok v xs) (ht : e ≠ 53) : some g ≠ v.ownBlock := by
  obtain ⟨A2, c2, hb, hg, hr2⟩ := h
  exact Kd.R_ne ho hb ht
theorem IsS53.apartQ {w0 W : World} {g : Nat} {f0 : Int} {f1 : Int} {f2 : List (S56)} {α : Type} {d : Kd α} {e : Nat} {base : Nat} {ok : Nat → Prop} {v : Value} {xs : List α} (h : IsS53 w0 W g f0 f1 f2) (ho : d.Q e W base ok v xs) (ht : ∀ q, q ∈ e :: d.E → q ≠ 53) : d.Q e W base (fun k => ok k ∧ k ≠ g) v xs := by
  obtain ⟨A2, c2, hb, hg, hr2⟩ := h
  exact Kd.Q_types ho hb ht
theorem IsS53.own_neQ {w0 W : World} {g : Nat} {f0 : Int} {f1 : Int} {f2 : List (S56)} {α : Type} {d : Kd α} {e : Nat} {base : Nat} {ok : Nat → Prop} {v : Value} {xs : List α} (h : IsS53 w0 W g f0 f1 f2) (ho : d.Q e W base ok v xs) (ht : e ≠ 53) : some g ≠ v.ownBlock := by
  obtain ⟨A2, c2, hb, hg, hr2⟩ := h
  exact Kd.Q_ne ho hb ht
theorem IsS53.apartS {w0 W : World} {g : Nat} {f0 : Int} {f1 : Int} {f2 : List (S56)} {α : Type} {d : Kd α} {e : Nat} {base : Nat} {ok : Nat → Prop} {v : Value} {xs : List α} (h : IsS53 w0 W g f0 f1 f2) (ho : d.S e W base ok v xs) (ht : ∀ q, q ∈ e :: d.E → q ≠ 53) : d.S e W base (fun k => ok k ∧ k ≠ g) v xs := by
  obtain ⟨A2, c2, hb, hg, hr2⟩ := h
  exact Kd.S_types ho hb ht
theorem IsS53.own_neS {w0 W : World} {g : Nat} {f0 : Int} {f1 : Int} {f2 : List (S56)} {α : Type} {d : Kd α} {e : Nat} {base : Nat} {ok : Nat → Prop} {v : Value} {xs : List α} (h : IsS53 w0 W g f0 f1 f2) (ho : d.S e W base ok v xs) (ht : e ≠ 53) : some g ≠ v.ownBlock := by
  obtain ⟨A2, c2, hb, hg, hr2⟩ := h
  exact Kd.S_ne ho hb ht
theorem IsS53.lt {w0 W : World} {g : Nat} {f0 : Int} {f1 : Int} {f2 : List (S56)} (h : IsS53 w0 W g f0 f1 f2) : g < W.heap.size := by
  obtain ⟨A2, c2, hb, hg, hr2⟩ := h
  exact blk_lt hb
theorem IsS53.ge {w0 W : World} {g : Nat} {f0 : Int} {f1 : Int} {f2 : List (S56)} (h : IsS53 w0 W g f0 f1 f2) : w0.heap.size ≤ g := by
  obtain ⟨A2, c2, hb, hg, hr2⟩ := h
  exact hg
theorem IsS53.ne_blk {w0 W : World} {g : Nat} {f0 : Int} {f1 : Int} {f2 : List (S56)} {a : Nat} {cs : Array Value} {t : TypeId} {fr : Nat × Nat} (h : IsS53 w0 W g f0 f1 f2) (hb2 : W.heap[a]? = some (.cells cs t fr)) (ht : t ≠ 53) : g ≠ a := by
  obtain ⟨A2, c2, hb, hg, hr2⟩ := h
  rintro rfl
  rw [hb] at hb2
  injection hb2 with hb2
  injection hb2 with _ ht2
  exact ht ht2.symm
theorem IsS53.far {w0 W : World} {g : Nat} {f0 : Int} {f1 : Int} {f2 : List (S56)} {p : Addr} (h : IsS53 w0 W g f0 f1 f2) (hne : g ≠ p.block) (u : Value) : IsS53 w0 (W.setCell p u) g f0 f1 f2 := by
  obtain ⟨A2, c2, hb, hg, hr2⟩ := h
  exact ⟨A2, c2, blk_far hb hne u, hg, hr2⟩
theorem cellS53_0 {W : World} {g : Nat} {A2 : Option Addr} {c2 : Nat} {f0 : Int} {f1 : Int} {f2 : List (S56)} (h : W.heap[g]? = some (.cells #[.int .i64 f0, .int .i64 f1, .slice A2 f2.length c2] 53 (0, 0))) : W.cell? ⟨g, 0, none⟩ = some (.int .i64 f0) := (blk_cell h 0).trans rfl
theorem IsS53.set_0 {w0 W : World} {g : Nat} {f0 : Int} {f1 : Int} {f2 : List (S56)} (h : IsS53 w0 W g f0 f1 f2) (x : Int) : IsS53 w0 (W.setCell ⟨g, 0, none⟩ (.int .i64 x)) g x f1 f2 := by
  obtain ⟨A2, c2, hb, hg, hr2⟩ := h
  exact ⟨A2, c2, by simpa using blk_set hb 0 (.int .i64 x), hg, hr2⟩
theorem cellS53_1 {W : World} {g : Nat} {A2 : Option Addr} {c2 : Nat} {f0 : Int} {f1 : Int} {f2 : List (S56)} (h : W.heap[g]? = some (.cells #[.int .i64 f0, .int .i64 f1, .slice A2 f2.length c2] 53 (0, 0))) : W.cell? ⟨g, 1, none⟩ = some (.int .i64 f1) := (blk_cell h 1).trans rfl
theorem IsS53.set_1 {w0 W : World} {g : Nat} {f0 : Int} {f1 : Int} {f2 : List (S56)} (h : IsS53 w0 W g f0 f1 f2) (x : Int) : IsS53 w0 (W.setCell ⟨g, 1, none⟩ (.int .i64 x)) g f0 x f2 := by
  obtain ⟨A2, c2, hb, hg, hr2⟩ := h
  exact ⟨A2, c2, by simpa using blk_set hb 1 (.int .i64 x), hg, hr2⟩
theorem cellS53_2 {W : World} {g : Nat} {A2 : Option Addr} {c2 : Nat} {f0 : Int} {f1 : Int} {f2 : List (S56)} (h : W.heap[g]? = some (.cells #[.int .i64 f0, .int .i64 f1, .slice A2 f2.length c2] 53 (0, 0))) : W.cell? ⟨g, 2, none⟩ = some (.slice A2 f2.length c2) := (blk_cell h 2).trans rfl
theorem IsS53.new (w0 W : World) (A2 : Option Addr) (c2 : Nat) (f0 : Int) (f1 : Int) (f2 : List (S56)) (hB : Below w0.heap.size w0 W) (hr2 : Kd.C k56 w0 A2 f2.length f2) : IsS53 w0 (W.alloc (.cells #[.int .i64 f0, .int .i64 f1, .slice A2 f2.length c2] 53)) W.heap.size f0 f1 f2 := ⟨A2, c2, by simpa using heap_alloc_new W _, hB.size, hr2⟩

/-! ### epoch_Epochs_Advance: function 10 -/
def epoch_Epochs_Advance.f (s0_0 : Int) (s0_1 : Int) (s0_2 : List (S56)) (a1 : Int) : Option (Bool × Int × Int) := if s0_0 = a1 then (if s0_0 ≥ 1073741824 then (some (false, s0_0, s0_1)) else (some (true, wrap64 (s0_0 + 1), s0_1))) else (some (false, s0_0, s0_1))
set_option maxHeartbeats 8000000 in
set_option maxRecDepth 100000 in
theorem epoch_Epochs_Advance.calls (g : Nat) (s0_0 : Int) (s0_1 : Int) (s0_2 : List (S56)) (a1 : Int) (r1 : Bool) (r2 : Int) (r3 : Int) (w0 w : World) (hI : IsS53 w0 w g s0_0 s0_1 s0_2) (hB : Below w0.heap.size w0 w) (h : epoch_Epochs_Advance.f s0_0 s0_1 s0_2 a1 = some (r1, r2, r3)) :
    Calls Try.prog 10 #[.pointer (some ⟨g, 0, none⟩), .int .i64 a1] w fun e w' => e = .returned (.bool r1) ∧ IsS53 w0 w' g r2 r3 s0_2 ∧ Below w0.heap.size w0 w' ∧ KeepBut w w' g none := by
  have HI0 := Aside0.mk hI
  have HK := Aside0.mk (KeepBut.refl w g none)
  have HL := Aside0.mk hB.size
  clear hI
  have HW0 := Aside0.mk hB.size
  have HB := Aside0.mk hB
  clear hB
  have H : (if s0_0 = a1 then (if s0_0 ≥ 1073741824 then (some (false, s0_0, s0_1)) else (some (true, wrap64 (s0_0 + 1), s0_1))) else (some (false, s0_0, s0_1))) = some (r1, r2, r3) := h
  clear h
  by_cases c3 : s0_0 = a1
  · rw [if_pos c3] at H
    have c3b0 : (s0_0 == a1) = true := beq_iff_eq.mpr c3
    have c3b1 : (s0_0 != a1) = false := bne_eq_false_iff_eq.mpr c3
    clear c3
    by_cases c4 : s0_0 ≥ 1073741824
    · rw [if_pos c4] at H
      have c4b0 : decide (1073741824 ≤ s0_0) = true := decide_eq_true c4
      clear c4
      simp only [Option.some.injEq, Prod.mk.injEq] at H
      obtain ⟨rfl, rfl, rfl⟩ := H
      obtain ⟨ASz5_2, cSz5_2, HGz5, hgz5, HSz5_2⟩ := HI0.out
      have hcz5_0 := cellS53_0 HGz5
      have hcz5_1 := cellS53_1 HGz5
      have hcz5_2 := cellS53_2 HGz5
      have hfz5_0 := blk_frozen HGz5 0
      have hfz5_1 := blk_frozen HGz5 1
      clear HGz5 hgz5
      go_enter Try.func10, Try.ntmps10
      go_wp2
      go_ret
      exact ⟨by first | rfl | (simp [errW_none, errW_some] <;> rfl) | (simp [*, errW_none, errW_some] <;> rfl), by repeat (first | (with_reducible first | exact HI0.out | apply IsS53.alloc | apply IsS53.drewN | apply IsS53.drew | apply IsS53.set_0 | apply IsS53.set_1) | exact HI0.out), by repeat (first | (with_reducible first | exact HB.out | apply below_alloc | apply pw_below_drewN | apply below_drew1 | refine below_set ?_ (IsS53.ge HI0.out)) | exact HB.out), by repeat (first | (with_reducible first | exact HK.out | apply KeepBut.set_ | apply keep_drewN | apply keep_drew | apply keep_alloc) | exact HK.out)⟩
    · rw [if_neg c4] at H
      have c4b0 : decide (1073741824 ≤ s0_0) = false := decide_eq_false c4
      clear c4
      simp only [Option.some.injEq, Prod.mk.injEq] at H
      obtain ⟨rfl, rfl, rfl⟩ := H
      obtain ⟨ASz6_2, cSz6_2, HGz6, hgz6, HSz6_2⟩ := HI0.out
      have hcz6_0 := cellS53_0 HGz6
      have hcz6_1 := cellS53_1 HGz6
      have hcz6_2 := cellS53_2 HGz6
      have hfz6_0 := blk_frozen HGz6 0
      have hfz6_1 := blk_frozen HGz6 1
      clear HGz6 hgz6
      go_enter Try.func10, Try.ntmps10
      go_wp2
      go_ret
      exact ⟨by first | rfl | (simp [errW_none, errW_some] <;> rfl) | (simp [*, errW_none, errW_some] <;> rfl), by repeat (first | (with_reducible first | exact HI0.out | apply IsS53.alloc | apply IsS53.drewN | apply IsS53.drew | apply IsS53.set_0 | apply IsS53.set_1) | exact HI0.out), by repeat (first | (with_reducible first | exact HB.out | apply below_alloc | apply pw_below_drewN | apply below_drew1 | refine below_set ?_ (IsS53.ge HI0.out)) | exact HB.out), by repeat (first | (with_reducible first | exact HK.out | apply KeepBut.set_ | apply keep_drewN | apply keep_drew | apply keep_alloc) | exact HK.out)⟩
  · rw [if_neg c3] at H
    have c3b0 : (s0_0 == a1) = false := beq_eq_false_iff_ne.mpr c3
    have c3b1 : (s0_0 != a1) = true := bne_iff_ne.mpr c3
    simp only [Option.some.injEq, Prod.mk.injEq] at H
    obtain ⟨rfl, rfl, rfl⟩ := H
    obtain ⟨ASz7_2, cSz7_2, HGz7, hgz7, HSz7_2⟩ := HI0.out
    have hcz7_0 := cellS53_0 HGz7
    have hcz7_1 := cellS53_1 HGz7
    have hcz7_2 := cellS53_2 HGz7
    have hfz7_0 := blk_frozen HGz7 0
    have hfz7_1 := blk_frozen HGz7 1
    clear HGz7 hgz7
    go_enter Try.func10, Try.ntmps10
    go_wp2
    go_ret
    exact ⟨by first | rfl | (simp [errW_none, errW_some] <;> rfl) | (simp [*, errW_none, errW_some] <;> rfl), by repeat (first | (with_reducible first | exact HI0.out | apply IsS53.alloc | apply IsS53.drewN | apply IsS53.drew | apply IsS53.set_0 | apply IsS53.set_1) | exact HI0.out), by repeat (first | (with_reducible first | exact HB.out | apply below_alloc | apply pw_below_drewN | apply below_drew1 | refine below_set ?_ (IsS53.ge HI0.out)) | exact HB.out), by repeat (first | (with_reducible first | exact HK.out | apply KeepBut.set_ | apply keep_drewN | apply keep_drew | apply keep_alloc) | exact HK.out)⟩

-- NOT PRINTED: function 28 (epoch_retired)

-- NOT PRINTED: function 11 (epoch_Epochs_Collect)

-- NOT PRINTED: function 12 (epoch_Epochs_Pin)

-- NOT PRINTED: function 13 (epoch_Epochs_PinOf)

-- NOT PRINTED: function 14 (epoch_Epochs_Unpin)

-- NOT PRINTED: function 3 (tendrillaw5_EpochRuns)

/-! ### epoch_Epochs_Now: function 16 -/
def epoch_Epochs_Now.f (s0_0 : Int) (s0_1 : Int) (s0_2 : List (S56)) : Option (Int × Int × Int) := some (s0_0, s0_0, s0_1)
set_option maxHeartbeats 8000000 in
set_option maxRecDepth 100000 in
theorem epoch_Epochs_Now.calls (g : Nat) (s0_0 : Int) (s0_1 : Int) (s0_2 : List (S56)) (r1 : Int) (r2 : Int) (r3 : Int) (w0 w : World) (hI : IsS53 w0 w g s0_0 s0_1 s0_2) (hB : Below w0.heap.size w0 w) (h : epoch_Epochs_Now.f s0_0 s0_1 s0_2 = some (r1, r2, r3)) :
    Calls Try.prog 16 #[.pointer (some ⟨g, 0, none⟩)] w fun e w' => e = .returned (.int .i64 r1) ∧ IsS53 w0 w' g r2 r3 s0_2 ∧ Below w0.heap.size w0 w' ∧ KeepBut w w' g none := by
  have HI0 := Aside0.mk hI
  have HK := Aside0.mk (KeepBut.refl w g none)
  have HL := Aside0.mk hB.size
  clear hI
  have HW0 := Aside0.mk hB.size
  have HB := Aside0.mk hB
  clear hB
  have H : (some (s0_0, s0_0, s0_1)) = some (r1, r2, r3) := h
  clear h
  simp only [Option.some.injEq, Prod.mk.injEq] at H
  obtain ⟨rfl, rfl, rfl⟩ := H
  obtain ⟨ASz2_2, cSz2_2, HGz2, hgz2, HSz2_2⟩ := HI0.out
  have hcz2_0 := cellS53_0 HGz2
  have hcz2_1 := cellS53_1 HGz2
  have hcz2_2 := cellS53_2 HGz2
  have hfz2_0 := blk_frozen HGz2 0
  have hfz2_1 := blk_frozen HGz2 1
  clear HGz2 hgz2
  go_enter Try.func16, Try.ntmps16
  go_wp2
  go_ret
  exact ⟨by first | rfl | (simp [errW_none, errW_some] <;> rfl) | (simp [*, errW_none, errW_some] <;> rfl), by repeat (first | (with_reducible first | exact HI0.out | apply IsS53.alloc | apply IsS53.drewN | apply IsS53.drew | apply IsS53.set_0 | apply IsS53.set_1) | exact HI0.out), by repeat (first | (with_reducible first | exact HB.out | apply below_alloc | apply pw_below_drewN | apply below_drew1 | refine below_set ?_ (IsS53.ge HI0.out)) | exact HB.out), by repeat (first | (with_reducible first | exact HK.out | apply KeepBut.set_ | apply keep_drewN | apply keep_drew | apply keep_alloc) | exact HK.out)⟩

-- NOT PRINTED: function 17 (tendrilref1_NewEpochs)

/-- A state of type 46 at block g of W; what its slices lead to came in by w0. -/
def IsS46 (w0 W : World) (g : Nat) (f0 : Int) (f1 : Int) (f2 : List Int) (f3 : List (List (S65))) : Prop := ∃ A2 c2, ∃ A3 c3, W.heap[g]? = some (.cells #[.int .i64 f0, .int .i64 f1, .slice A2 f2.length c2, .slice A3 f3.length c3] 46 (0, 0)) ∧ w0.heap.size ≤ g ∧ Kd.C (Kd.int .i64) w0 A2 f2.length f2 ∧ Kd.C (Kd.slice 65 k65) w0 A3 f3.length f3
theorem IsS46.grown {w0 W : World} {g : Nat} {f0 : Int} {f1 : Int} {f2 : List Int} {f3 : List (List (S65))} {W1 : World} {row : Option Nat} (h : IsS46 w0 W g f0 f1 f2 f3) (hw : W.grownBy W1 row) (hne : some g ≠ row) : IsS46 w0 W1 g f0 f1 f2 f3 := by
  obtain ⟨A2, c2, A3, c3, hb, hg, hr2, hr3⟩ := h
  exact ⟨A2, c2, A3, c3, blk_grown hb hw hne, hg, hr2, hr3⟩
theorem IsS46.own_neN {w0 W : World} {g : Nat} {f0 : Int} {f1 : Int} {f2 : List Int} {f3 : List (List (S65))} {α : Type} {d : Kd α} {e : Nat} {base : Nat} {ok : Nat → Prop} {v : Value} {xs : List α} (h : IsS46 w0 W g f0 f1 f2 f3) (ho : Kd.N d e W base ok v xs) (ht : e ≠ 46) : some g ≠ v.ownBlock := by
  obtain ⟨A2, c2, A3, c3, hb, hg, hr2, hr3⟩ := h
  exact Kd.N_ne ho hb ht
theorem IsS46.fresh {w0 W : World} {g : Nat} {f0 : Int} {f1 : Int} {f2 : List Int} {f3 : List (List (S65))} (h : IsS46 w0 W g f0 f1 f2 f3) : ∀ k, W.heap.size ≤ k → k ≠ g := by
  obtain ⟨A2, c2, A3, c3, hb, hg, hr2, hr3⟩ := h
  exact Kd.freshB hb
theorem IsS46.kept {w0 W : World} {g : Nat} {f0 : Int} {f1 : Int} {f2 : List Int} {f3 : List (List (S65))} {W1 : World} {S : Nat → Prop} (h : IsS46 w0 W g f0 f1 f2 f3) (hk : Kept W W1 S) (hne : ¬ S g) : IsS46 w0 W1 g f0 f1 f2 f3 := by
  obtain ⟨A2, c2, A3, c3, hb, hg, hr2, hr3⟩ := h
  exact ⟨A2, c2, A3, c3, blk_kept hb hk hne, hg, hr2, hr3⟩
theorem IsS46.below {w0 W : World} {g : Nat} {f0 : Int} {f1 : Int} {f2 : List Int} {f3 : List (List (S65))} {W1 : World} (h : IsS46 w0 W g f0 f1 f2 f3) (hw : Below W.heap.size W W1) : IsS46 w0 W1 g f0 f1 f2 f3 := h.grown (grown_of_below hw none) (by simp)
theorem IsS46.alloc {w0 W : World} {g : Nat} {f0 : Int} {f1 : Int} {f2 : List Int} {f3 : List (List (S65))} (h : IsS46 w0 W g f0 f1 f2 f3) (o : Obj) : IsS46 w0 (W.alloc o) g f0 f1 f2 f3 := h.below (below_alloc (Below.refl _ _) o)
theorem IsS46.drewN {w0 W : World} {g : Nat} {f0 : Int} {f1 : Int} {f2 : List Int} {f3 : List (List (S65))} (h : IsS46 w0 W g f0 f1 f2 f3) (m : Nat) : IsS46 w0 (W.drewN m) g f0 f1 f2 f3 := h
theorem IsS46.drew {w0 W : World} {g : Nat} {f0 : Int} {f1 : Int} {f2 : List Int} {f3 : List (List (S65))} (h : IsS46 w0 W g f0 f1 f2 f3) : IsS46 w0 W.drew g f0 f1 f2 f3 := h
theorem IsS46.at_ {w0 W : World} {g : Nat} {f0 : Int} {f1 : Int} {f2 : List Int} {f3 : List (List (S65))} {w' : World} {m : Nat} (hq : W.drewN m = w') (h : IsS46 w0 W g f0 f1 f2 f3) : IsS46 w0 w' g f0 f1 f2 f3 := by subst hq; exact IsS46.drewN h m
theorem IsS46.apart {w0 W : World} {g : Nat} {f0 : Int} {f1 : Int} {f2 : List Int} {f3 : List (List (S65))} {α : Type} {d : Kd α} {e : Nat} {base : Nat} {ok : Nat → Prop} {v : Value} {xs : List α} (h : IsS46 w0 W g f0 f1 f2 f3) (ho : d.R e W base ok v xs) (ht : ∀ q, q ∈ e :: d.E → q ≠ 46) : d.R e W base (fun k => ok k ∧ k ≠ g) v xs := by
  obtain ⟨A2, c2, A3, c3, hb, hg, hr2, hr3⟩ := h
  exact Kd.R_types ho hb ht
theorem IsS46.own_ne {w0 W : World} {g : Nat} {f0 : Int} {f1 : Int} {f2 : List Int} {f3 : List (List (S65))} {α : Type} {d : Kd α} {e : Nat} {base : Nat} {ok : Nat → Prop} {v : Value} {xs : List α} (h : IsS46 w0 W g f0 f1 f2 f3) (ho : d.R e W base ok v xs) (ht : e ≠ 46) : some g ≠ v.ownBlock := by
  obtain ⟨A2, c2, A3, c3, hb, hg, hr2, hr3⟩ := h
  exact Kd.R_ne ho hb ht
theorem IsS46.apartQ {w0 W : World} {g : Nat} {f0 : Int} {f1 : Int} {f2 : List Int} {f3 : List (List (S65))} {α : Type} {d : Kd α} {e : Nat} {base : Nat} {ok : Nat → Prop} {v : Value} {xs : List α} (h : IsS46 w0 W g f0 f1 f2 f3) (ho : d.Q e W base ok v xs) (ht : ∀ q, q ∈ e :: d.E → q ≠ 46) : d.Q e W base (fun k => ok k ∧ k ≠ g) v xs := by
  obtain ⟨A2, c2, A3, c3, hb, hg, hr2, hr3⟩ := h
  exact Kd.Q_types ho hb ht
theorem IsS46.own_neQ {w0 W : World} {g : Nat} {f0 : Int} {f1 : Int} {f2 : List Int} {f3 : List (List (S65))} {α : Type} {d : Kd α} {e : Nat} {base : Nat} {ok : Nat → Prop} {v : Value} {xs : List α} (h : IsS46 w0 W g f0 f1 f2 f3) (ho : d.Q e W base ok v xs) (ht : e ≠ 46) : some g ≠ v.ownBlock := by
  obtain ⟨A2, c2, A3, c3, hb, hg, hr2, hr3⟩ := h
  exact Kd.Q_ne ho hb ht
theorem IsS46.apartS {w0 W : World} {g : Nat} {f0 : Int} {f1 : Int} {f2 : List Int} {f3 : List (List (S65))} {α : Type} {d : Kd α} {e : Nat} {base : Nat} {ok : Nat → Prop} {v : Value} {xs : List α} (h : IsS46 w0 W g f0 f1 f2 f3) (ho : d.S e W base ok v xs) (ht : ∀ q, q ∈ e :: d.E → q ≠ 46) : d.S e W base (fun k => ok k ∧ k ≠ g) v xs := by
  obtain ⟨A2, c2, A3, c3, hb, hg, hr2, hr3⟩ := h
  exact Kd.S_types ho hb ht
theorem IsS46.own_neS {w0 W : World} {g : Nat} {f0 : Int} {f1 : Int} {f2 : List Int} {f3 : List (List (S65))} {α : Type} {d : Kd α} {e : Nat} {base : Nat} {ok : Nat → Prop} {v : Value} {xs : List α} (h : IsS46 w0 W g f0 f1 f2 f3) (ho : d.S e W base ok v xs) (ht : e ≠ 46) : some g ≠ v.ownBlock := by
  obtain ⟨A2, c2, A3, c3, hb, hg, hr2, hr3⟩ := h
  exact Kd.S_ne ho hb ht
theorem IsS46.lt {w0 W : World} {g : Nat} {f0 : Int} {f1 : Int} {f2 : List Int} {f3 : List (List (S65))} (h : IsS46 w0 W g f0 f1 f2 f3) : g < W.heap.size := by
  obtain ⟨A2, c2, A3, c3, hb, hg, hr2, hr3⟩ := h
  exact blk_lt hb
theorem IsS46.ge {w0 W : World} {g : Nat} {f0 : Int} {f1 : Int} {f2 : List Int} {f3 : List (List (S65))} (h : IsS46 w0 W g f0 f1 f2 f3) : w0.heap.size ≤ g := by
  obtain ⟨A2, c2, A3, c3, hb, hg, hr2, hr3⟩ := h
  exact hg
theorem IsS46.ne_blk {w0 W : World} {g : Nat} {f0 : Int} {f1 : Int} {f2 : List Int} {f3 : List (List (S65))} {a : Nat} {cs : Array Value} {t : TypeId} {fr : Nat × Nat} (h : IsS46 w0 W g f0 f1 f2 f3) (hb2 : W.heap[a]? = some (.cells cs t fr)) (ht : t ≠ 46) : g ≠ a := by
  obtain ⟨A2, c2, A3, c3, hb, hg, hr2, hr3⟩ := h
  rintro rfl
  rw [hb] at hb2
  injection hb2 with hb2
  injection hb2 with _ ht2
  exact ht ht2.symm
theorem IsS46.far {w0 W : World} {g : Nat} {f0 : Int} {f1 : Int} {f2 : List Int} {f3 : List (List (S65))} {p : Addr} (h : IsS46 w0 W g f0 f1 f2 f3) (hne : g ≠ p.block) (u : Value) : IsS46 w0 (W.setCell p u) g f0 f1 f2 f3 := by
  obtain ⟨A2, c2, A3, c3, hb, hg, hr2, hr3⟩ := h
  exact ⟨A2, c2, A3, c3, blk_far hb hne u, hg, hr2, hr3⟩
theorem cellS46_0 {W : World} {g : Nat} {A2 : Option Addr} {c2 : Nat} {A3 : Option Addr} {c3 : Nat} {f0 : Int} {f1 : Int} {f2 : List Int} {f3 : List (List (S65))} (h : W.heap[g]? = some (.cells #[.int .i64 f0, .int .i64 f1, .slice A2 f2.length c2, .slice A3 f3.length c3] 46 (0, 0))) : W.cell? ⟨g, 0, none⟩ = some (.int .i64 f0) := (blk_cell h 0).trans rfl
theorem IsS46.set_0 {w0 W : World} {g : Nat} {f0 : Int} {f1 : Int} {f2 : List Int} {f3 : List (List (S65))} (h : IsS46 w0 W g f0 f1 f2 f3) (x : Int) : IsS46 w0 (W.setCell ⟨g, 0, none⟩ (.int .i64 x)) g x f1 f2 f3 := by
  obtain ⟨A2, c2, A3, c3, hb, hg, hr2, hr3⟩ := h
  exact ⟨A2, c2, A3, c3, by simpa using blk_set hb 0 (.int .i64 x), hg, hr2, hr3⟩
theorem cellS46_1 {W : World} {g : Nat} {A2 : Option Addr} {c2 : Nat} {A3 : Option Addr} {c3 : Nat} {f0 : Int} {f1 : Int} {f2 : List Int} {f3 : List (List (S65))} (h : W.heap[g]? = some (.cells #[.int .i64 f0, .int .i64 f1, .slice A2 f2.length c2, .slice A3 f3.length c3] 46 (0, 0))) : W.cell? ⟨g, 1, none⟩ = some (.int .i64 f1) := (blk_cell h 1).trans rfl
theorem IsS46.set_1 {w0 W : World} {g : Nat} {f0 : Int} {f1 : Int} {f2 : List Int} {f3 : List (List (S65))} (h : IsS46 w0 W g f0 f1 f2 f3) (x : Int) : IsS46 w0 (W.setCell ⟨g, 1, none⟩ (.int .i64 x)) g f0 x f2 f3 := by
  obtain ⟨A2, c2, A3, c3, hb, hg, hr2, hr3⟩ := h
  exact ⟨A2, c2, A3, c3, by simpa using blk_set hb 1 (.int .i64 x), hg, hr2, hr3⟩
theorem cellS46_2 {W : World} {g : Nat} {A2 : Option Addr} {c2 : Nat} {A3 : Option Addr} {c3 : Nat} {f0 : Int} {f1 : Int} {f2 : List Int} {f3 : List (List (S65))} (h : W.heap[g]? = some (.cells #[.int .i64 f0, .int .i64 f1, .slice A2 f2.length c2, .slice A3 f3.length c3] 46 (0, 0))) : W.cell? ⟨g, 2, none⟩ = some (.slice A2 f2.length c2) := (blk_cell h 2).trans rfl
theorem cellS46_3 {W : World} {g : Nat} {A2 : Option Addr} {c2 : Nat} {A3 : Option Addr} {c3 : Nat} {f0 : Int} {f1 : Int} {f2 : List Int} {f3 : List (List (S65))} (h : W.heap[g]? = some (.cells #[.int .i64 f0, .int .i64 f1, .slice A2 f2.length c2, .slice A3 f3.length c3] 46 (0, 0))) : W.cell? ⟨g, 3, none⟩ = some (.slice A3 f3.length c3) := (blk_cell h 3).trans rfl
theorem IsS46.new (w0 W : World) (A2 : Option Addr) (c2 : Nat) (A3 : Option Addr) (c3 : Nat) (f0 : Int) (f1 : Int) (f2 : List Int) (f3 : List (List (S65))) (hB : Below w0.heap.size w0 W) (hr2 : Kd.C (Kd.int .i64) w0 A2 f2.length f2) (hr3 : Kd.C (Kd.slice 65 k65) w0 A3 f3.length f3) : IsS46 w0 (W.alloc (.cells #[.int .i64 f0, .int .i64 f1, .slice A2 f2.length c2, .slice A3 f3.length c3] 46)) W.heap.size f0 f1 f2 f3 := ⟨A2, c2, A3, c3, by simpa using heap_alloc_new W _, hB.size, hr2, hr3⟩

/-! ### tendrilref1_Epochs_Client: function 23 -/
def tendrilref1_Epochs_Client.f (s0_0 : Int) (s0_1 : Int) (s0_2 : List Int) (s0_3 : List (List (S65))) (a1 : Int) : Option (Bool × Int × Int) := if a1 ≥ 0 then (some (decide (a1 < (s0_2.length : Int)), s0_0, s0_1)) else (some (false, s0_0, s0_1))
set_option maxHeartbeats 8000000 in
set_option maxRecDepth 100000 in
theorem tendrilref1_Epochs_Client.calls (g : Nat) (s0_0 : Int) (s0_1 : Int) (s0_2 : List Int) (s0_3 : List (List (S65))) (a1 : Int) (r1 : Bool) (r2 : Int) (r3 : Int) (w0 w : World) (hI : IsS46 w0 w g s0_0 s0_1 s0_2 s0_3) (hB : Below w0.heap.size w0 w) (h : tendrilref1_Epochs_Client.f s0_0 s0_1 s0_2 s0_3 a1 = some (r1, r2, r3)) :
    Calls Try.prog 23 #[.pointer (some ⟨g, 0, none⟩), .int .i64 a1] w fun e w' => e = .returned (.bool r1) ∧ IsS46 w0 w' g r2 r3 s0_2 s0_3 ∧ Below w0.heap.size w0 w' ∧ KeepBut w w' g none := by
  have HI0 := Aside0.mk hI
  have HK := Aside0.mk (KeepBut.refl w g none)
  have HL := Aside0.mk hB.size
  clear hI
  have HW0 := Aside0.mk hB.size
  have HB := Aside0.mk hB
  clear hB
  have H : (if a1 ≥ 0 then (some (decide (a1 < (s0_2.length : Int)), s0_0, s0_1)) else (some (false, s0_0, s0_1))) = some (r1, r2, r3) := h
  clear h
  by_cases c3 : a1 ≥ 0
  · rw [if_pos c3] at H
    have c3b0 : decide (0 ≤ a1) = true := decide_eq_true c3
    clear c3
    simp only [Option.some.injEq, Prod.mk.injEq] at H
    obtain ⟨rfl, rfl, rfl⟩ := H
    obtain ⟨ASz4_2, cSz4_2, ASz4_3, cSz4_3, HGz4, hgz4, HSz4_2, HSz4_3⟩ := HI0.out
    have hcz4_0 := cellS46_0 HGz4
    have hcz4_1 := cellS46_1 HGz4
    have hcz4_2 := cellS46_2 HGz4
    have hcz4_3 := cellS46_3 HGz4
    have hfz4_0 := blk_frozen HGz4 0
    have hfz4_1 := blk_frozen HGz4 1
    clear HGz4 hgz4
    go_enter Try.func23, Try.ntmps23
    go_wp2
    go_ret
    exact ⟨by first | rfl | (simp [errW_none, errW_some] <;> rfl) | (simp [*, errW_none, errW_some] <;> rfl), by repeat (first | (with_reducible first | exact HI0.out | apply IsS46.alloc | apply IsS46.drewN | apply IsS46.drew | apply IsS46.set_0 | apply IsS46.set_1) | exact HI0.out), by repeat (first | (with_reducible first | exact HB.out | apply below_alloc | apply pw_below_drewN | apply below_drew1 | refine below_set ?_ (IsS46.ge HI0.out)) | exact HB.out), by repeat (first | (with_reducible first | exact HK.out | apply KeepBut.set_ | apply keep_drewN | apply keep_drew | apply keep_alloc) | exact HK.out)⟩
  · rw [if_neg c3] at H
    have c3b0 : decide (0 ≤ a1) = false := decide_eq_false c3
    clear c3
    simp only [Option.some.injEq, Prod.mk.injEq] at H
    obtain ⟨rfl, rfl, rfl⟩ := H
    go_enter Try.func23, Try.ntmps23
    go_wp2
    go_ret
    exact ⟨by first | rfl | (simp [errW_none, errW_some] <;> rfl) | (simp [*, errW_none, errW_some] <;> rfl), by repeat (first | (with_reducible first | exact HI0.out | apply IsS46.alloc | apply IsS46.drewN | apply IsS46.drew | apply IsS46.set_0 | apply IsS46.set_1) | exact HI0.out), by repeat (first | (with_reducible first | exact HB.out | apply below_alloc | apply pw_below_drewN | apply below_drew1 | refine below_set ?_ (IsS46.ge HI0.out)) | exact HB.out), by repeat (first | (with_reducible first | exact HK.out | apply KeepBut.set_ | apply keep_drewN | apply keep_drew | apply keep_alloc) | exact HK.out)⟩

-- NOT PRINTED: function 18 (tendrilref1_Epochs_Pin)

-- NOT PRINTED: function 19 (tendrilref1_Epochs_Unpin)

/-! ### tendrilref1_Epochs_Advance: function 20 -/
def tendrilref1_Epochs_Advance.f (s0_0 : Int) (s0_1 : Int) (s0_2 : List Int) (s0_3 : List (List (S65))) (a1 : Int) : Option (Bool × Int × Int) := if s0_0 = a1 then (if s0_0 ≥ 1073741824 then (some (false, s0_0, s0_1)) else (some (true, wrap64 (s0_0 + 1), s0_1))) else (some (false, s0_0, s0_1))
set_option maxHeartbeats 8000000 in
set_option maxRecDepth 100000 in
theorem tendrilref1_Epochs_Advance.calls (g : Nat) (s0_0 : Int) (s0_1 : Int) (s0_2 : List Int) (s0_3 : List (List (S65))) (a1 : Int) (r1 : Bool) (r2 : Int) (r3 : Int) (w0 w : World) (hI : IsS46 w0 w g s0_0 s0_1 s0_2 s0_3) (hB : Below w0.heap.size w0 w) (h : tendrilref1_Epochs_Advance.f s0_0 s0_1 s0_2 s0_3 a1 = some (r1, r2, r3)) :
    Calls Try.prog 20 #[.pointer (some ⟨g, 0, none⟩), .int .i64 a1] w fun e w' => e = .returned (.bool r1) ∧ IsS46 w0 w' g r2 r3 s0_2 s0_3 ∧ Below w0.heap.size w0 w' ∧ KeepBut w w' g none := by
  have HI0 := Aside0.mk hI
  have HK := Aside0.mk (KeepBut.refl w g none)
  have HL := Aside0.mk hB.size
  clear hI
  have HW0 := Aside0.mk hB.size
  have HB := Aside0.mk hB
  clear hB
  have H : (if s0_0 = a1 then (if s0_0 ≥ 1073741824 then (some (false, s0_0, s0_1)) else (some (true, wrap64 (s0_0 + 1), s0_1))) else (some (false, s0_0, s0_1))) = some (r1, r2, r3) := h
  clear h
  by_cases c3 : s0_0 = a1
  · rw [if_pos c3] at H
    have c3b0 : (s0_0 == a1) = true := beq_iff_eq.mpr c3
    have c3b1 : (s0_0 != a1) = false := bne_eq_false_iff_eq.mpr c3
    clear c3
    by_cases c4 : s0_0 ≥ 1073741824
    · rw [if_pos c4] at H
      have c4b0 : decide (1073741824 ≤ s0_0) = true := decide_eq_true c4
      clear c4
      simp only [Option.some.injEq, Prod.mk.injEq] at H
      obtain ⟨rfl, rfl, rfl⟩ := H
      obtain ⟨ASz5_2, cSz5_2, ASz5_3, cSz5_3, HGz5, hgz5, HSz5_2, HSz5_3⟩ := HI0.out
      have hcz5_0 := cellS46_0 HGz5
      have hcz5_1 := cellS46_1 HGz5
      have hcz5_2 := cellS46_2 HGz5
      have hcz5_3 := cellS46_3 HGz5
      have hfz5_0 := blk_frozen HGz5 0
      have hfz5_1 := blk_frozen HGz5 1
      clear HGz5 hgz5
      go_enter Try.func20, Try.ntmps20
      go_wp2
      go_ret
      exact ⟨by first | rfl | (simp [errW_none, errW_some] <;> rfl) | (simp [*, errW_none, errW_some] <;> rfl), by repeat (first | (with_reducible first | exact HI0.out | apply IsS46.alloc | apply IsS46.drewN | apply IsS46.drew | apply IsS46.set_0 | apply IsS46.set_1) | exact HI0.out), by repeat (first | (with_reducible first | exact HB.out | apply below_alloc | apply pw_below_drewN | apply below_drew1 | refine below_set ?_ (IsS46.ge HI0.out)) | exact HB.out), by repeat (first | (with_reducible first | exact HK.out | apply KeepBut.set_ | apply keep_drewN | apply keep_drew | apply keep_alloc) | exact HK.out)⟩
    · rw [if_neg c4] at H
      have c4b0 : decide (1073741824 ≤ s0_0) = false := decide_eq_false c4
      clear c4
      simp only [Option.some.injEq, Prod.mk.injEq] at H
      obtain ⟨rfl, rfl, rfl⟩ := H
      obtain ⟨ASz6_2, cSz6_2, ASz6_3, cSz6_3, HGz6, hgz6, HSz6_2, HSz6_3⟩ := HI0.out
      have hcz6_0 := cellS46_0 HGz6
      have hcz6_1 := cellS46_1 HGz6
      have hcz6_2 := cellS46_2 HGz6
      have hcz6_3 := cellS46_3 HGz6
      have hfz6_0 := blk_frozen HGz6 0
      have hfz6_1 := blk_frozen HGz6 1
      clear HGz6 hgz6
      go_enter Try.func20, Try.ntmps20
      go_wp2
      go_ret
      exact ⟨by first | rfl | (simp [errW_none, errW_some] <;> rfl) | (simp [*, errW_none, errW_some] <;> rfl), by repeat (first | (with_reducible first | exact HI0.out | apply IsS46.alloc | apply IsS46.drewN | apply IsS46.drew | apply IsS46.set_0 | apply IsS46.set_1) | exact HI0.out), by repeat (first | (with_reducible first | exact HB.out | apply below_alloc | apply pw_below_drewN | apply below_drew1 | refine below_set ?_ (IsS46.ge HI0.out)) | exact HB.out), by repeat (first | (with_reducible first | exact HK.out | apply KeepBut.set_ | apply keep_drewN | apply keep_drew | apply keep_alloc) | exact HK.out)⟩
  · rw [if_neg c3] at H
    have c3b0 : (s0_0 == a1) = false := beq_eq_false_iff_ne.mpr c3
    have c3b1 : (s0_0 != a1) = true := bne_iff_ne.mpr c3
    simp only [Option.some.injEq, Prod.mk.injEq] at H
    obtain ⟨rfl, rfl, rfl⟩ := H
    obtain ⟨ASz7_2, cSz7_2, ASz7_3, cSz7_3, HGz7, hgz7, HSz7_2, HSz7_3⟩ := HI0.out
    have hcz7_0 := cellS46_0 HGz7
    have hcz7_1 := cellS46_1 HGz7
    have hcz7_2 := cellS46_2 HGz7
    have hcz7_3 := cellS46_3 HGz7
    have hfz7_0 := blk_frozen HGz7 0
    have hfz7_1 := blk_frozen HGz7 1
    clear HGz7 hgz7
    go_enter Try.func20, Try.ntmps20
    go_wp2
    go_ret
    exact ⟨by first | rfl | (simp [errW_none, errW_some] <;> rfl) | (simp [*, errW_none, errW_some] <;> rfl), by repeat (first | (with_reducible first | exact HI0.out | apply IsS46.alloc | apply IsS46.drewN | apply IsS46.drew | apply IsS46.set_0 | apply IsS46.set_1) | exact HI0.out), by repeat (first | (with_reducible first | exact HB.out | apply below_alloc | apply pw_below_drewN | apply below_drew1 | refine below_set ?_ (IsS46.ge HI0.out)) | exact HB.out), by repeat (first | (with_reducible first | exact HK.out | apply KeepBut.set_ | apply keep_drewN | apply keep_drew | apply keep_alloc) | exact HK.out)⟩

/-! ### tendrilref1_Ref: function 30 -/
def tendrilref1_Ref.j0 : Nat → Int → Int → Bool → Bool → Option (Int)
  | 0, _, _, _, _ => none
  | k + 1, x0, x1, x2, x21 => if x21 = true then (some 0) else (if x2 = true then (some (Go.bits .or .i64 (Go.bits .or .i64 (wrap64 (x1 * 65536)) x0) 281474976710656)) else (some (Go.bits .or .i64 (wrap64 (x1 * 65536)) x0)))
def tendrilref1_Ref.f (k : Nat) (a0 : Int) (a1 : Int) (a2 : Bool) : Option (Int) := if a0 < 0 then (tendrilref1_Ref.j0 k a0 a1 a2 true) else (if a0 ≥ 1024 then (tendrilref1_Ref.j0 k a0 a1 a2 true) else (if a1 < 1 then (tendrilref1_Ref.j0 k a0 a1 a2 true) else (tendrilref1_Ref.j0 k a0 a1 a2 (decide (a1 > 1073741824)))))
theorem tendrilref1_Ref.mono_l : ∀ k, (∀ y0 y1 y2 y3, LeO (tendrilref1_Ref.j0 k y0 y1 y2 y3) (tendrilref1_Ref.j0 (k + 1) y0 y1 y2 y3))
  | 0 => fun _ _ _ _ r h => by simp [tendrilref1_Ref.j0] at h
  | k + 1 => by
    have ih0 := tendrilref1_Ref.mono_l k
    · intro y0 y1 y2 y3
      unfold tendrilref1_Ref.j0
      repeat' first
      | (with_reducible exact ih0 _ _ _ _)
      | (with_reducible exact LeO.refl _)
      | (with_reducible exact LeO.none _)
      | (with_reducible refine LeO.ite ?_ ?_)
      | (with_reducible refine LeO.bind ?_ (fun _ => ?_))
      | exact ih0 _ _ _ _
      | exact LeO.none _
      | refine LeO.ite ?_ ?_
      | refine LeO.bind ?_ (fun _ => ?_)
theorem tendrilref1_Ref.mono : ∀ a0 a1 a2 k, LeO (tendrilref1_Ref.f k a0 a1 a2) (tendrilref1_Ref.f (k + 1) a0 a1 a2) := by
  intro a0 a1 a2 k
  have ih0 := tendrilref1_Ref.mono_l k
  unfold tendrilref1_Ref.f
  repeat' first
      | (with_reducible exact ih0 _ _ _ _)
      | (with_reducible exact LeO.refl _)
      | (with_reducible exact LeO.none _)
      | (with_reducible refine LeO.ite ?_ ?_)
      | (with_reducible refine LeO.bind ?_ (fun _ => ?_))
      | exact ih0 _ _ _ _
      | exact LeO.none _
      | refine LeO.ite ?_ ?_
      | refine LeO.bind ?_ (fun _ => ?_)
set_option maxHeartbeats 8000000 in
set_option maxRecDepth 100000 in
theorem tendrilref1_Ref.calls (k : Nat) (a0 : Int) (a1 : Int) (a2 : Bool) (r : Int) (w : World) (h : tendrilref1_Ref.f k a0 a1 a2 = some r) :
    Calls Try.prog 30 #[.int .i64 a0, .int .i64 a1, .bool a2] w fun e w' => e = .returned (.int .i64 r) ∧ Drawn0 w w' := by
  have H : (if a0 < 0 then (tendrilref1_Ref.j0 k a0 a1 a2 true) else (if a0 ≥ 1024 then (tendrilref1_Ref.j0 k a0 a1 a2 true) else (if a1 < 1 then (tendrilref1_Ref.j0 k a0 a1 a2 true) else (tendrilref1_Ref.j0 k a0 a1 a2 (decide (a1 > 1073741824)))))) = some r := h
  clear h
  have HC4 := Aside0.mk H
  clear H
  go_enter Try.func30, Try.ntmps30
  go_upto_region 1 with (fail)
  go_cut [21] (fun v21 wc => ∃ (kq : Nat) (x21_3 : Bool), v21 = .bool x21_3 ∧ Aside0 (tendrilref1_Ref.j0 kq a0 a1 a2 x21_3 = some r) ∧ Aside0 (kq ≤ k) ∧ Drawn0 w wc)
  case first =>
    have H := HC4.out
    clear HC4
    by_cases c5 : a0 < 0
    · rw [if_pos c5] at H
      have c5b0 : decide (a0 < 0) = true := decide_eq_true c5
      clear c5
      (first | rw [c5b0] | (simp only [i64_w, i32_w]; rw [c5b0]) | skip)
      have H' := Aside0.mk H
      clear H
      go_wp2
      go_meet
      case rel => exact ⟨_, (true), (by first | rfl | (simp; done) | (simp [*]; done)), H', ⟨by first | omega | exact Nat.le_refl _⟩, by repeat (first | exact Drawn0.refl _ | apply Drawn0.step)⟩
    · rw [if_neg c5] at H
      have c5b0 : decide (a0 < 0) = false := decide_eq_false c5
      clear c5
      (first | rw [c5b0] | (simp only [i64_w, i32_w]; rw [c5b0]) | skip)
      by_cases c6 : a0 ≥ 1024
      · rw [if_pos c6] at H
        have c6b0 : decide (1024 ≤ a0) = true := decide_eq_true c6
        clear c6
        have H' := Aside0.mk H
        clear H
        go_wp2
        go_meet
        case rel => exact ⟨_, (true), (by first | rfl | (simp; done) | (simp [*]; done)), H', ⟨by first | omega | exact Nat.le_refl _⟩, by repeat (first | exact Drawn0.refl _ | apply Drawn0.step)⟩
      · rw [if_neg c6] at H
        have c6b0 : decide (1024 ≤ a0) = false := decide_eq_false c6
        clear c6
        by_cases c7 : a1 < 1
        · rw [if_pos c7] at H
          have c7b0 : decide (a1 < 1) = true := decide_eq_true c7
          clear c7
          have H' := Aside0.mk H
          clear H
          go_wp2
          go_meet
          case rel => exact ⟨_, (true), (by first | rfl | (simp; done) | (simp [*]; done)), H', ⟨by first | omega | exact Nat.le_refl _⟩, by repeat (first | exact Drawn0.refl _ | apply Drawn0.step)⟩
        · rw [if_neg c7] at H
          have c7b0 : decide (a1 < 1) = false := decide_eq_false c7
          clear c7
          have H' := Aside0.mk H
          clear H
          go_wp2
          go_meet
          case rel => exact ⟨_, (decide (a1 > 1073741824)), (by first | rfl | (simp; done) | (simp [*]; done)), H', ⟨by first | omega | exact Nat.le_refl _⟩, by repeat (first | exact Drawn0.refl _ | apply Drawn0.step)⟩
  case rest =>
    clear HC4
    try clear p2
    try clear c3
    try clear c5
    try clear c5b0
    try clear c6
    try clear c6b0
    try clear c7
    try clear c7b0
    obtain ⟨kq, x21_3, rfl, HA, HJ3, ⟨mc3, rfl⟩⟩ := hcut
    cases kq with
    | zero => exact absurd HA.out (by simp [tendrilref1_Ref.j0])
    | succ kj3 =>
      have H := HA.out
      clear HA
      simp only [tendrilref1_Ref.j0] at H
      by_cases c8 : x21_3 = true
      · subst c8
        have H1 : (some 0) = some r := by rw [if_pos rfl] at H; exact H
        clear H
        have H := H1
        clear H1
        obtain rfl := Option.some.inj H
        go_wp2
        go_ret
        exact ⟨by first | rfl | (simp; done) | (simp [*]; done), by repeat (first | exact Drawn0.refl _ | apply Drawn0.step)⟩
      · replace c8 := Bool.eq_false_iff.mpr c8
        subst c8
        have H1 : (if a2 = true then (some (Go.bits .or .i64 (Go.bits .or .i64 (wrap64 (a1 * 65536)) a0) 281474976710656)) else (some (Go.bits .or .i64 (wrap64 (a1 * 65536)) a0))) = some r := by rw [if_neg (show ¬ (false = true) by decide)] at H; exact H
        clear H
        have H := H1
        clear H1
        by_cases c9 : a2 = true
        · subst c9
          have H1 : (some (Go.bits .or .i64 (Go.bits .or .i64 (wrap64 (a1 * 65536)) a0) 281474976710656)) = some r := by rw [if_pos rfl] at H; exact H
          clear H
          have H := H1
          clear H1
          obtain rfl := Option.some.inj H
          go_wp2
          go_ret
          exact ⟨by first | rfl | (simp; done) | (simp [*]; done), by repeat (first | exact Drawn0.refl _ | apply Drawn0.step)⟩
        · replace c9 := Bool.eq_false_iff.mpr c9
          subst c9
          have H1 : (some (Go.bits .or .i64 (wrap64 (a1 * 65536)) a0)) = some r := by rw [if_neg (show ¬ (false = true) by decide)] at H; exact H
          clear H
          have H := H1
          clear H1
          obtain rfl := Option.some.inj H
          go_wp2
          go_ret
          exact ⟨by first | rfl | (simp; done) | (simp [*]; done), by repeat (first | exact Drawn0.refl _ | apply Drawn0.step)⟩

/-! ### tendrilref1_Parts: function 29 -/
def tendrilref1_Parts.j0 : Nat → Int → Bool → Option (Int × Int × Bool × Bool)
  | 0, _, _ => none
  | k + 1, x0, x11 => if x11 = true then (some (0, 0, false, false)) else ((tendrilref1_Ref.f k (Go.bits .and .i64 x0 65535) (Go.bits .and .i64 (x0 / 65536) 4294967295) ((x0 / 281474976710656) == 1)).bind fun t108 => (if t108 = x0 then (some (Go.bits .and .i64 x0 65535, Go.bits .and .i64 (x0 / 65536) 4294967295, ((x0 / 281474976710656) == 1), true)) else (some (0, 0, false, false))))
def tendrilref1_Parts.f (k : Nat) (a0 : Int) : Option (Int × Int × Bool × Bool) := if a0 ≤ 0 then (tendrilref1_Parts.j0 k a0 true) else (tendrilref1_Parts.j0 k a0 (decide (a0 ≥ 562949953421312)))
theorem tendrilref1_Parts.mono_l : ∀ k, (∀ y0 y1, LeO (tendrilref1_Parts.j0 k y0 y1) (tendrilref1_Parts.j0 (k + 1) y0 y1))
  | 0 => fun _ _ r h => by simp [tendrilref1_Parts.j0] at h
  | k + 1 => by
    have ih0 := tendrilref1_Parts.mono_l k
    · intro y0 y1
      unfold tendrilref1_Parts.j0
      repeat' first
      | (with_reducible exact ih0 _ _)
      | (with_reducible exact tendrilref1_Ref.mono _ _ _ _)
      | (with_reducible exact LeO.refl _)
      | (with_reducible exact LeO.none _)
      | (with_reducible refine LeO.ite ?_ ?_)
      | (with_reducible refine LeO.bind ?_ (fun _ => ?_))
      | exact ih0 _ _
      | exact tendrilref1_Ref.mono _ _ _ _
      | exact LeO.none _
      | refine LeO.ite ?_ ?_
      | refine LeO.bind ?_ (fun _ => ?_)
theorem tendrilref1_Parts.mono : ∀ a0 k, LeO (tendrilref1_Parts.f k a0) (tendrilref1_Parts.f (k + 1) a0) := by
  intro a0 k
  have ih0 := tendrilref1_Parts.mono_l k
  unfold tendrilref1_Parts.f
  repeat' first
      | (with_reducible exact ih0 _ _)
      | (with_reducible exact tendrilref1_Ref.mono _ _ _ _)
      | (with_reducible exact LeO.refl _)
      | (with_reducible exact LeO.none _)
      | (with_reducible refine LeO.ite ?_ ?_)
      | (with_reducible refine LeO.bind ?_ (fun _ => ?_))
      | exact ih0 _ _
      | exact tendrilref1_Ref.mono _ _ _ _
      | exact LeO.none _
      | refine LeO.ite ?_ ?_
      | refine LeO.bind ?_ (fun _ => ?_)
set_option maxHeartbeats 8000000 in
set_option maxRecDepth 100000 in
theorem tendrilref1_Parts.calls (k : Nat) (a0 : Int) (r1 : Int) (r2 : Int) (r3 : Bool) (r4 : Bool) (w : World) (h : tendrilref1_Parts.f k a0 = some (r1, r2, r3, r4)) :
    Calls Try.prog 29 #[.int .i64 a0] w fun e w' => e = .returned (.tuple #[.int .i64 r1, .int .i64 r2, .bool r3, .bool r4]) ∧ Drawn0 w w' := by
  have H : (if a0 ≤ 0 then (tendrilref1_Parts.j0 k a0 true) else (tendrilref1_Parts.j0 k a0 (decide (a0 ≥ 562949953421312)))) = some (r1, r2, r3, r4) := h
  clear h
  have HC2 := Aside0.mk H
  clear H
  go_enter Try.func29, Try.ntmps29
  go_upto_region 1 with (fail)
  go_cut [11] (fun v11 wc => ∃ (kq : Nat) (x11_1 : Bool), v11 = .bool x11_1 ∧ Aside0 (tendrilref1_Parts.j0 kq a0 x11_1 = some (r1, r2, r3, r4)) ∧ Aside0 (kq ≤ k) ∧ Drawn0 w wc)
  case first =>
    have H := HC2.out
    clear HC2
    by_cases c3 : a0 ≤ 0
    · rw [if_pos c3] at H
      have c3b0 : decide (a0 ≤ 0) = true := decide_eq_true c3
      clear c3
      (first | rw [c3b0] | (simp only [i64_w, i32_w]; rw [c3b0]) | skip)
      have H' := Aside0.mk H
      clear H
      go_wp2
      go_meet
      case rel => exact ⟨_, (true), (by first | rfl | (simp; done) | (simp [*]; done)), H', ⟨by first | omega | exact Nat.le_refl _⟩, by repeat (first | exact Drawn0.refl _ | apply Drawn0.step)⟩
    · rw [if_neg c3] at H
      have c3b0 : decide (a0 ≤ 0) = false := decide_eq_false c3
      clear c3
      (first | rw [c3b0] | (simp only [i64_w, i32_w]; rw [c3b0]) | skip)
      have H' := Aside0.mk H
      clear H
      go_wp2
      go_meet
      case rel => exact ⟨_, (decide (a0 ≥ 562949953421312)), (by first | rfl | (simp; done) | (simp [*]; done)), H', ⟨by first | omega | exact Nat.le_refl _⟩, by repeat (first | exact Drawn0.refl _ | apply Drawn0.step)⟩
  case rest =>
    clear HC2
    try clear c2
    try clear p2
    try clear c3
    try clear c3b0
    obtain ⟨kq, x11_1, rfl, HA, HJ1, ⟨mc1, rfl⟩⟩ := hcut
    cases kq with
    | zero => exact absurd HA.out (by simp [tendrilref1_Parts.j0])
    | succ kj1 =>
      have H := HA.out
      clear HA
      simp only [tendrilref1_Parts.j0] at H
      by_cases c4 : x11_1 = true
      · subst c4
        have H1 : (some (0, 0, false, false)) = some (r1, r2, r3, r4) := by rw [if_pos rfl] at H; exact H
        clear H
        have H := H1
        clear H1
        simp only [Option.some.injEq, Prod.mk.injEq] at H
        obtain ⟨rfl, rfl, rfl, rfl⟩ := H
        go_wp2
        refine bodyPost_ret (results_list (rs := [.tmp 2, .tmp 3, .tmp 4, .tmp 5]) rfl (by simp) (.tmp (.tmp (.tmp (.tmp .nil))))) rfl ?_
        exact ⟨by first | rfl | (simp; done) | (simp [*]; done), by repeat (first | exact Drawn0.refl _ | apply Drawn0.step)⟩
      · replace c4 := Bool.eq_false_iff.mpr c4
        subst c4
        have H1 : ((tendrilref1_Ref.f kj1 (Go.bits .and .i64 a0 65535) (Go.bits .and .i64 (a0 / 65536) 4294967295) ((a0 / 281474976710656) == 1)).bind fun t108 => (if t108 = a0 then (some (Go.bits .and .i64 a0 65535, Go.bits .and .i64 (a0 / 65536) 4294967295, ((a0 / 281474976710656) == 1), true)) else (some (0, 0, false, false)))) = some (r1, r2, r3, r4) := by rw [if_neg (show ¬ (false = true) by decide)] at H; exact H
        clear H
        have H := H1
        clear H1
        replace H := Option.bind_eq_some_iff.mp H
        obtain ⟨t108, A50, H⟩ := H
        replace H : (if t108 = a0 then (some (Go.bits .and .i64 a0 65535, Go.bits .and .i64 (a0 / 65536) 4294967295, ((a0 / 281474976710656) == 1), true)) else (some (0, 0, false, false))) = some (r1, r2, r3, r4) := H
        have A5 := Aside0.mk A50
        clear A50
        by_cases c6 : t108 = a0
        · rw [if_pos c6] at H
          have c6b0 : (t108 == a0) = true := beq_iff_eq.mpr c6
          have c6b1 : (t108 != a0) = false := bne_eq_false_iff_eq.mpr c6
          clear c6
          simp only [Option.some.injEq, Prod.mk.injEq] at H
          obtain ⟨rfl, rfl, rfl, rfl⟩ := H
          go_wp2_with (first | ((with_reducible refine gate_callee (f := 30) rfl ?_); refine goesL_ (some 23) rfl rfl Try.func30 (by kernel_rfl) rfl #[.int .i64 (Go.bits .and .i64 a0 65535), .int .i64 (Go.bits .and .i64 (a0 / 65536) 4294967295), .bool ((a0 / 281474976710656) == 1)] rfl (by (try simp only [List.map_toArray, List.map_cons, List.map_nil]); first | done | rfl | (simp only [List.length_drop, List.length_take]; rfl)) ?_; (with_reducible refine (tendrilref1_Ref.calls kj1 (Go.bits .and .i64 a0 65535) (Go.bits .and .i64 (a0 / 65536) 4294967295) ((a0 / 281474976710656) == 1) t108 _ A5.out).mono ?_); rintro e w' ⟨rfl, ⟨nd, rfl⟩⟩; refine ⟨_, rfl, ?_⟩))
          refine bodyPost_ret (results_list (rs := [.tmp 2, .tmp 3, .tmp 4, .tmp 5]) rfl (by simp) (.tmp (.tmp (.tmp (.tmp .nil))))) rfl ?_
          exact ⟨by first | rfl | (simp; done) | (simp [*]; done), by repeat (first | exact Drawn0.refl _ | apply Drawn0.step)⟩
        · rw [if_neg c6] at H
          have c6b0 : (t108 == a0) = false := beq_eq_false_iff_ne.mpr c6
          have c6b1 : (t108 != a0) = true := bne_iff_ne.mpr c6
          simp only [Option.some.injEq, Prod.mk.injEq] at H
          obtain ⟨rfl, rfl, rfl, rfl⟩ := H
          go_wp2_with (first | ((with_reducible refine gate_callee (f := 30) rfl ?_); refine goesL_ (some 23) rfl rfl Try.func30 (by kernel_rfl) rfl #[.int .i64 (Go.bits .and .i64 a0 65535), .int .i64 (Go.bits .and .i64 (a0 / 65536) 4294967295), .bool ((a0 / 281474976710656) == 1)] rfl (by (try simp only [List.map_toArray, List.map_cons, List.map_nil]); first | done | rfl | (simp only [List.length_drop, List.length_take]; rfl)) ?_; (with_reducible refine (tendrilref1_Ref.calls kj1 (Go.bits .and .i64 a0 65535) (Go.bits .and .i64 (a0 / 65536) 4294967295) ((a0 / 281474976710656) == 1) t108 _ A5.out).mono ?_); rintro e w' ⟨rfl, ⟨nd, rfl⟩⟩; refine ⟨_, rfl, ?_⟩))
          refine bodyPost_ret (results_list (rs := [.tmp 2, .tmp 3, .tmp 4, .tmp 5]) rfl (by simp) (.tmp (.tmp (.tmp (.tmp .nil))))) rfl ?_
          exact ⟨by first | rfl | (simp; done) | (simp [*]; done), by repeat (first | exact Drawn0.refl _ | apply Drawn0.step)⟩

-- NOT PRINTED: function 21 (tendrilref1_Epochs_Retire)

-- NOT PRINTED: function 22 (tendrilref1_Epochs_Collect)

-- NOT PRINTED: function 24 (epoch_Epochs_Limbo)

-- NOT PRINTED: function 5 (tendrillaw5_EpochPlays)

end Go.Proofs.Ytfiokeahehkelaa.PEpochPlays
