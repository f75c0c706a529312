-- Written by a program of this session (mkprint.py): a printed walk over given contracts.
import Derived.Test.YtjfkofomhpokcaaPBlockTellsx0
import Derived.Test.YtjfkofomhpokcaaPBlockTellsx2
import Derived.Test.YtjfkofomhpokcaaPBlockTellsx3
namespace Go.Proofs.Ytjfkofomhpokcaa.PBlockTells
open Go.RowKit Go.Proofs.YtjfkofomhpokcaaW.PrintWords Go.Proofs.YtjfkofomhpokcaaW.PrintLast Go.Proofs.YtjfkofomhpokcaaW.PrintMore
attribute [local go_sem] max2_int min2_int max_two min_two max_three min_three max_four min_four   -- for this text's walks alone
set_option linter.unusedVariables false
set_option linter.unusedSimpArgs false

/-! ### tendrilref19_Encode: function 16 -/
def tendrilref19_Encode.l0 : Nat → List Int → List Int → Int → Option (List Int)
  | 0, _, _, _ => none
  | k + 1, x0, x3, x4 => if x4 < (x0.length : Int) then (if 0 ≤ x4 then (if 0 ≤ (wrap64 (x4 - 1)) then (if (wrap64 (x4 - 1)) < (x0.length : Int) then ((tendrilref19_num.f k x3 (wrap64 ((wrap64 ((rd x0 x4) - (rd x0 (wrap64 (x4 - 1))))) - 1))).bind fun t171 => (tendrilref19_Encode.l0 k x0 t171 (wrap64 (x4 + 1)))) else (none)) else (none)) else (none)) else (some x3)
def tendrilref19_Encode.f (k : Nat) (l0 : List Int) : Option (List Int) := (tendrilref19_RightIds.f k l0).bind fun t164 => (if t164 = true then (if 0 < (l0.length : Int) then ((tendrilref19_num.f k ([] : List Int) (rd l0 0)).bind fun t166 => (tendrilref19_Encode.l0 k l0 t166 1)) else (none)) else (some ([] : List Int)))
theorem tendrilref19_Encode.mono_l : ∀ k, (∀ y0 y1 y2, LeO (tendrilref19_Encode.l0 k y0 y1 y2) (tendrilref19_Encode.l0 (k + 1) y0 y1 y2))
  | 0 => fun _ _ _ r h => by simp [tendrilref19_Encode.l0] at h
  | k + 1 => by
    have ih0 := tendrilref19_Encode.mono_l k
    · intro y0 y1 y2
      unfold tendrilref19_Encode.l0
      repeat' first
      | (with_reducible exact ih0 _ _ _)
      | (with_reducible exact tendrilref19_RightIds.mono _ _)
      | (with_reducible exact tendrilref19_num.mono _ _ _)
      | (with_reducible exact LeO.refl _)
      | (with_reducible exact LeO.none _)
      | (with_reducible refine LeO.ite ?_ ?_)
      | (with_reducible refine LeO.bind ?_ (fun _ => ?_))
      | exact ih0 _ _ _
      | exact tendrilref19_RightIds.mono _ _
      | exact tendrilref19_num.mono _ _ _
      | exact LeO.none _
      | refine LeO.ite ?_ ?_
      | refine LeO.bind ?_ (fun _ => ?_)
theorem tendrilref19_Encode.mono : ∀ a0 k, LeO (tendrilref19_Encode.f k a0) (tendrilref19_Encode.f (k + 1) a0) := by
  intro a0 k
  have ih0 := tendrilref19_Encode.mono_l k
  unfold tendrilref19_Encode.f
  repeat' first
      | (with_reducible exact ih0 _ _ _)
      | (with_reducible exact tendrilref19_RightIds.mono _ _)
      | (with_reducible exact tendrilref19_num.mono _ _ _)
      | (with_reducible exact LeO.refl _)
      | (with_reducible exact LeO.none _)
      | (with_reducible refine LeO.ite ?_ ?_)
      | (with_reducible refine LeO.bind ?_ (fun _ => ?_))
      | exact ih0 _ _ _
      | exact tendrilref19_RightIds.mono _ _
      | exact tendrilref19_num.mono _ _ _
      | exact LeO.none _
      | refine LeO.ite ?_ ?_
      | refine LeO.bind ?_ (fun _ => ?_)
def tendrilref19_Encode.T7 : Bool × List (List Nat × List Nat) := (true, [([], []), ([], []), ([], []), ([1, 2], [1, 2]), ([3], [3]), ([], []), ([], []), ([6], [6]), ([5, 7], [5, 7]), ([8], [8]), ([4, 9], [4, 9]), ([10], [10]), ([0, 11], [0, 11]), ([12, 12, 0, 1, 2, 3, 4, 5, 6, 7, 8, 9, 10, 11, 12], [0, 12])])
def tendrilref19_Encode.B7 : List Nat := [0, 0, 0, 6, 14, 0, 0, 64, 224, 480, 1022, 2046, 4095, 8191]
theorem tendrilref19_Encode.tab7 : rtab .any (opsOf Try.f16 7) = tendrilref19_Encode.T7 := by kernel_rfl
theorem tendrilref19_Encode.bits7 : waitsOk tendrilref19_Encode.T7.2 tendrilref19_Encode.B7 = true := by kernel_rfl
set_option maxHeartbeats 8000000 in
set_option maxRecDepth 100000 in
theorem tendrilref19_Encode.calls (k : Nat) (A0 : Option Addr) (c0 : Nat) (l0 : List Int) (r : List Int) (w : World) (hr0 : Kd.C (Kd.int .i64) w A0 l0.length l0) (hc0 : l0.length ≤ c0) (h : tendrilref19_Encode.f k l0 = some r) :
    Calls Try.prog 16 #[.slice A0 l0.length c0] w fun e w' => ∃ v0_ : Value, e = .returned (v0_) ∧ Kd.R (Kd.int .u8) 5 w' w.heap.size (fun _ => True) v0_ r ∧ Below w.heap.size w w' := by
  have HR0 := Aside0.mk hr0
  have HC0 := Aside0.mk hc0
  clear hr0 hc0
  have HB := Aside0.mk (Below.refl w.heap.size w)
  have H : ((tendrilref19_RightIds.f k l0).bind fun t164 => (if t164 = true then (if 0 < (l0.length : Int) then ((tendrilref19_num.f k ([] : List Int) (rd l0 0)).bind fun t166 => (tendrilref19_Encode.l0 k l0 t166 1)) else (none)) else (some ([] : List Int)))) = some r := h
  clear h
  replace H := Option.bind_eq_some_iff.mp H
  obtain ⟨t164, A20, H⟩ := H
  replace H : (if t164 = true then (if 0 < (l0.length : Int) then ((tendrilref19_num.f k ([] : List Int) (rd l0 0)).bind fun t166 => (tendrilref19_Encode.l0 k l0 t166 1)) else (none)) else (some ([] : List Int))) = some r := H
  have A2 := Aside0.mk A20
  clear A20
  by_cases c3 : t164 = true
  · subst c3
    have H1 : (if 0 < (l0.length : Int) then ((tendrilref19_num.f k ([] : List Int) (rd l0 0)).bind fun t166 => (tendrilref19_Encode.l0 k l0 t166 1)) else (none)) = some r := by rw [if_pos rfl] at H; exact H
    clear H
    have H := H1
    clear H1
    by_cases c4 : 0 < (l0.length : Int)
    · rw [if_pos c4] at H
      have c4b0 : decide (0 < (l0.length : Int)) = true := decide_eq_true c4
      have c4b1 : decide (0 < l0.length) = true := decide_eq_true (by omega)
      clear c4
      replace H := Option.bind_eq_some_iff.mp H
      obtain ⟨t166, A50, H⟩ := H
      replace H : (tendrilref19_Encode.l0 k l0 t166 1) = some r := H
      have A5 := Aside0.mk A50
      clear A50
      have H' := Aside0.mk H
      clear H
      go_enter Try.func16, Try.ntmps16
      go_wp2_with (first | ((with_reducible refine gate_callee (f := 15) rfl ?_); refine goesL_ (some 6) rfl rfl Try.func15 (by kernel_rfl) rfl #[.slice A0 l0.length c0] rfl (by (try simp only [List.map_toArray, List.map_cons, List.map_nil]); first | done | rfl | (simp only [List.length_drop, List.length_take]; rfl)) ?_; (with_reducible refine (tendrilref19_RightIds.calls k _ _ l0 true _ ?side1 ?side2 A2.out).mono ?_); (case side1 => repeat (first | exact HR0.out | (with_reducible refine Kd.C_alloc ?_ _) | (with_reducible refine Kd.C_drewN ?_ _) | (with_reducible refine Kd.C_drew ?_))); (case side2 => exact HC0.out); rintro e w' ⟨rfl, ⟨nd, rfl⟩⟩; refine ⟨_, rfl, ?_⟩; have p165 : 0 ≤ (0 : Int) := (by omega); have q165 : 0 < (l0.length : Int) := of_decide_eq_true (by first | (with_reducible assumption) | assumption); obtain ⟨ad165, e165, hx165_0⟩ := Kd.at_int HR0.out 0 p165 q165; cases e165; have qi165 : (0 < l0.length) = True := eq_true (by omega); (try rw [show ((0 : Int)).toNat = 0 from rfl] at hx165_0); (try rw [Addr.add_zero'] at hx165_0); replace p165 := eq_true p165; replace q165 := eq_true q165) | ((with_reducible refine gate_callee (f := 23) rfl ?_); refine goesL_ (some 11) rfl rfl Try.func23 (by kernel_rfl) rfl #[.slice none 0 0, .int .i64 (rd l0 0)] rfl (by (try simp only [List.map_toArray, List.map_cons, List.map_nil]); first | done | rfl | (simp only [List.length_drop, List.length_take]; rfl)) ?_; (refine (tendrilref19_num.calls k (fun k_ => some k_ = (.slice none 0 0 : Value).ownBlock) (.slice none 0 0) ([] : List Int) (rd l0 0) t166 w _ ?side1 ?side2 A5.out).mono ?_); (case side1 => repeat (first | (with_reducible first | exact HB.out | apply below_alloc | apply pw_below_drewN | apply below_drew1) | exact HB.out)); (case side2 => exact Kd.R_nil _ _ _ _ _); rintro e w6 ⟨v167, rfl, ho0, hb, hkp⟩; refine ⟨_, rfl, ?_⟩; have n0_ := Aside0.mk (Kd.R_mono (ok' := fun k_ => True) ho0 (fun k_ hk_ => trivial)); have n1_ := Aside0.mk (hb); clear HB; have HO168 := n0_; have HB := n1_; clear n0_ n1_; (try clear hb); (try clear hkp); (try clear ho0)))
      go_loopg [3, 4] k (fun kq v3 v4 w' => ∃ (x3_1 : List Int) (x4_1 : Int), v4 = .int .i64 x4_1 ∧ Aside0 (tendrilref19_Encode.l0 kq l0 x3_1 x4_1 = some r) ∧ Aside0 (kq ≤ k) ∧ Aside0 (Kd.R (Kd.int .u8) 5 w' w.heap.size (fun _ => True) v3 x3_1) ∧ Aside0 (Below w.heap.size w w'))
      case atStart => exact ⟨(t166), (1), (by first | rfl | (simp; done) | (simp [*]; done)), H', ⟨Nat.le_refl _⟩, ⟨by (with_reducible repeat (first | apply Kd.R_alloc | apply Kd.R_drewN | apply Kd.R_drew)); exact HO168.out⟩, ⟨by repeat (first | (with_reducible first | exact HB.out | apply below_alloc | apply pw_below_drewN | apply below_drew1) | exact HB.out)⟩⟩
      case round =>
        clear H'
        try clear c1
        try clear p1
        try clear q1
        try clear hx1
        try clear qi1
        try clear c2
        try clear p2
        try clear c3
        try clear c4
        try clear c4b0
        try clear c4b1
        try clear hx165_0
        try clear p165
        try clear q165
        obtain ⟨x3_1, x4_1, rfl, HA, HK1, HO_3, HB⟩ := hrel
        cases gk with
        | zero => exact absurd HA.out (by simp [tendrilref19_Encode.l0])
        | succ k1 =>
          have H := HA.out
          clear HA
          simp only [tendrilref19_Encode.l0] at H
          by_cases c7 : x4_1 < (l0.length : Int)
          · rw [if_pos c7] at H
            have c7b0 : decide (x4_1 < (l0.length : Int)) = true := decide_eq_true c7
            clear c7
            by_cases c8 : 0 ≤ x4_1
            · rw [if_pos c8] at H
              have c8b0 : decide (0 ≤ x4_1) = true := decide_eq_true c8
              clear c8
              obtain ⟨ji9, hji9⟩ : ∃ j_ : Int, (wrap64 (x4_1 - 1)) = j_ := ⟨_, rfl⟩
              replace H : (if 0 ≤ (ji9) then (if (ji9) < (l0.length : Int) then ((tendrilref19_num.f k1 x3_1 (wrap64 ((wrap64 ((rd l0 x4_1) - (rd l0 (ji9)))) - 1))).bind fun t171 => (tendrilref19_Encode.l0 k1 l0 t171 (wrap64 (x4_1 + 1)))) else (none)) else (none)) = some r := by first | (rw [hji9] at H; exact H) | (simp only [hji9] at H ⊢; exact H)
              have hji9w : (IntKind.i64.wrap (x4_1 - 1)) = ji9 := (i64_w _).trans hji9
              by_cases c10 : 0 ≤ (ji9)
              · rw [if_pos c10] at H
                have c10b0 : decide (0 ≤ (ji9)) = true := decide_eq_true c10
                clear c10
                by_cases c11 : (ji9) < (l0.length : Int)
                · rw [if_pos c11] at H
                  have c11b0 : decide ((ji9) < (l0.length : Int)) = true := decide_eq_true c11
                  clear c11
                  replace H := Option.bind_eq_some_iff.mp H
                  obtain ⟨t171, A120, H⟩ := H
                  replace H : (tendrilref19_Encode.l0 k1 l0 t171 (wrap64 (x4_1 + 1))) = some r := H
                  have A12 := Aside0.mk A120
                  clear A120
                  have H' := Aside0.mk H
                  clear H
                  try go_wp2
                  have n0_ := Aside0.mk (Kd.R_drew HO_3.out)
                  have n1_ := Aside0.mk (below_drew1 HB.out)
                  clear HO_3
                  clear HB
                  have HO_3 := n0_
                  have HB := n1_
                  clear n0_ n1_
                  have p169 : 0 ≤ (x4_1 : Int) := of_decide_eq_true (by first | (with_reducible assumption) | assumption)
                  have q169 : x4_1 < (l0.length : Int) := of_decide_eq_true (by first | (with_reducible assumption) | assumption)
                  obtain ⟨ad169, e169, hx169_0⟩ := Kd.at_int HR0.out x4_1 p169 q169
                  have hw169_0 := hx169_0
                  obtain rfl : ad165 = ad169 := (by injection e169)
                  replace hx169_0 := (HB.out.cell (World.block_lt_of_cell? w _ hx169_0)).trans hx169_0
                  replace p169 := eq_true p169
                  replace q169 := eq_true q169
                  have p170 : 0 ≤ ((ji9) : Int) := of_decide_eq_true (by first | (with_reducible assumption) | assumption)
                  have q170 : (ji9) < (l0.length : Int) := of_decide_eq_true (by first | (with_reducible assumption) | assumption)
                  obtain ⟨ad170, e170, hx170_0⟩ := Kd.at_int HR0.out (ji9) p170 q170
                  have hw170_0 := hx170_0
                  obtain rfl : ad165 = ad170 := (by injection e170)
                  replace hx170_0 := (HB.out.cell (World.block_lt_of_cell? w _ hx170_0)).trans hx170_0
                  replace p170 := eq_true p170
                  replace q170 := eq_true q170
                  obtain ⟨Ao14, co14, eo14⟩ := Kd.R_slice HO_3.out
                  (first | subst eo14 | (injection eo14 with f1_ f2_ f3_; have f4_ := f1_.symm; have f5_ := f3_.symm; clear f1_ f2_ f3_; subst f4_; subst f5_))
                  refine start_ (n := 14) (S := fun w' => w'.cell? (ad165.add (x4_1).toNat) = some (.int .i64 (rd l0 x4_1)) ∧ w'.cell? (ad165.add ((ji9)).toNat) = some (.int .i64 (rd l0 (ji9)))) (ds := []) #[false, false, false, false, false, false, false, false, false, false, false, false, false, false] (by kernel_rfl) rfl rfl ⟨((HB.out.cell (World.block_lt_of_cell? w _ hw169_0)).trans hw169_0), ((HB.out.cell (World.block_lt_of_cell? w _ hw170_0)).trans hw170_0)⟩ (fun hHeld => ?_); refine with_tabW tendrilref19_Encode.tab7 tendrilref19_Encode.bits7 (fun HT_ HW_ => ?_)
                  generalize wr.drew = w13 at HO_3 HB hx169_0 hx170_0 hHeld ⊢
                  refine pure_ (i := 0) (N := some 18) (v := ?_) (a' := ?_) #[true, false, false, false, false, false, false, false, false, false, false, false, false, false] rfl rfl (any_of HT_.out (by kernel_rfl)) (fun _ _ _ h => h) (Or.inl ⟨by rfl, ?_⟩) ?_ ?_
                  rotate_left
                  · intro w'
                    go_simp
                    with_reducible rfl
                  rotate_left
                  · simp only [Act.put, List.setIfInBounds_toArray, List.set_cons_zero, List.set_cons_succ, i64_w, i32_w]
                    rfl
                  refine pure_ (i := 1) (N := some 19) (v := ?_) (a' := ?_) #[true, true, false, false, false, false, false, false, false, false, false, false, false, false] rfl rfl (any_of HT_.out (by kernel_rfl)) (fun _ _ _ h => h) (Or.inl ⟨by rfl, ?_⟩) ?_ ?_
                  rotate_left
                  · intro w'
                    go_simp
                    with_reducible rfl
                  rotate_left
                  · simp only [Act.put, List.setIfInBounds_toArray, List.set_cons_zero, List.set_cons_succ, i64_w, i32_w]
                    rfl
                  refine pure_ (i := 2) (N := some 20) (v := ?_) (a' := ?_) #[true, true, true, false, false, false, false, false, false, false, false, false, false, false] rfl rfl (any_of HT_.out (by kernel_rfl)) (fun _ _ _ h => h) (Or.inl ⟨by rfl, ?_⟩) ?_ ?_
                  rotate_left
                  · intro w'
                    go_simp
                    with_reducible rfl
                  rotate_left
                  · simp only [Act.put, List.setIfInBounds_toArray, List.set_cons_zero, List.set_cons_succ, i64_w, i32_w]
                    rfl
                  refine pure_ (i := 3) (N := some 21) (v := ?_) (a' := ?_) #[true, true, true, true, false, false, false, false, false, false, false, false, false, false] rfl rfl (any_of HT_.out (by kernel_rfl)) (fun _ _ _ h => h) (Or.inl ⟨by rfl, ?_⟩) ?_ ?_
                  rotate_left
                  · intro w'
                    go_simp
                    with_reducible rfl
                  rotate_left
                  · simp only [Act.put, List.setIfInBounds_toArray, List.set_cons_zero, List.set_cons_succ, i64_w, i32_w]
                    rfl
                  refine pure_ (i := 5) (N := some 23) (v := ?_) (a' := ?_) #[true, true, true, true, false, true, false, false, false, false, false, false, false, false] rfl rfl (any_of HT_.out (by kernel_rfl)) (fun _ _ _ h => h) (Or.inl ⟨by rfl, ?_⟩) ?_ ?_
                  rotate_left
                  · intro w'
                    go_simp
                    with_reducible rfl
                  rotate_left
                  · simp only [Act.put, List.setIfInBounds_toArray, List.set_cons_zero, List.set_cons_succ, i64_w, i32_w]
                    rfl
                  refine pure_ (i := 6) (N := some 24) (v := ?_) (a' := ?_) #[true, true, true, true, false, true, true, false, false, false, false, false, false, false] rfl rfl (any_of HT_.out (by kernel_rfl)) (fun _ _ _ h => h) (Or.inl ⟨by rfl, ?_⟩) ?_ ?_
                  rotate_left
                  · intro w'
                    go_simp
                    with_reducible rfl
                  rotate_left
                  · simp only [Act.put, List.setIfInBounds_toArray, List.set_cons_zero, List.set_cons_succ, i64_w, i32_w]
                    rfl
                  refine pure_ (i := 7) (N := some 25) (v := ?_) (a' := ?_) #[true, true, true, true, false, true, true, true, false, false, false, false, false, false] rfl rfl (any_of HT_.out (by kernel_rfl)) (fun _ _ _ h => h) (Or.inl ⟨by rfl, ?_⟩) ?_ ?_
                  rotate_left
                  · intro w'
                    go_simp
                    with_reducible rfl
                  rotate_left
                  · simp only [Act.put, List.setIfInBounds_toArray, List.set_cons_zero, List.set_cons_succ, i64_w, i32_w]
                    rfl
                  refine pure_ (i := 8) (N := some 26) (v := ?_) (a' := ?_) #[true, true, true, true, false, true, true, true, true, false, false, false, false, false] rfl rfl (any_of HT_.out (by kernel_rfl)) (fun _ _ _ h => h) (Or.inl ⟨by rfl, ?_⟩) ?_ ?_
                  rotate_left
                  · intro w'
                    go_simp
                    with_reducible rfl
                  rotate_left
                  · simp only [Act.put, List.setIfInBounds_toArray, List.set_cons_zero, List.set_cons_succ, i64_w, i32_w]
                    rfl
                  refine take_ (i := 4) (N := some 22) (v := ?_) (a' := ?_) #[true, true, true, true, true, true, true, true, true, false, false, false, false, false] rfl rfl (take_ofW HT_.out HW_.out (by kernel_rfl)) (fun _ _ _ h => h) (Or.inl ⟨by rfl, ?_⟩) hHeld ?_ ?_
                  rotate_left
                  · rintro w' ⟨s0, s1⟩
                    go_simp
                    with_reducible rfl
                  rotate_left
                  · simp only [Act.put, List.setIfInBounds_toArray, List.set_cons_zero, List.set_cons_succ, i64_w, i32_w]
                    rfl
                  refine take_ (i := 9) (N := some 27) (v := ?_) (a' := ?_) #[true, true, true, true, true, true, true, true, true, true, false, false, false, false] rfl rfl (take_ofW HT_.out HW_.out (by kernel_rfl)) (fun _ _ _ h => h) (Or.inl ⟨by rfl, ?_⟩) hHeld ?_ ?_
                  rotate_left
                  · rintro w' ⟨s0, s1⟩
                    go_simp
                    with_reducible rfl
                  rotate_left
                  · simp only [Act.put, List.setIfInBounds_toArray, List.set_cons_zero, List.set_cons_succ, i64_w, i32_w]
                    rfl
                  refine pure_ (i := 10) (N := some 28) (v := ?_) (a' := ?_) #[true, true, true, true, true, true, true, true, true, true, true, false, false, false] rfl rfl (any_of HT_.out (by kernel_rfl)) (fun _ _ _ h => h) (Or.inl ⟨by rfl, ?_⟩) ?_ ?_
                  rotate_left
                  · intro w'
                    go_simp
                    with_reducible rfl
                  rotate_left
                  · simp only [Act.put, List.setIfInBounds_toArray, List.set_cons_zero, List.set_cons_succ, i64_w, i32_w]
                    rfl
                  refine pure_ (i := 11) (N := some 29) (v := ?_) (a' := ?_) #[true, true, true, true, true, true, true, true, true, true, true, true, false, false] rfl rfl (any_of HT_.out (by kernel_rfl)) (fun _ _ _ h => h) (Or.inl ⟨by rfl, ?_⟩) ?_ ?_
                  rotate_left
                  · intro w'
                    go_simp
                    with_reducible rfl
                  rotate_left
                  · simp only [Act.put, List.setIfInBounds_toArray, List.set_cons_zero, List.set_cons_succ, i64_w, i32_w]
                    rfl
                  refine one_ (i := 12) (N := some 30) #[true, true, true, true, true, true, true, true, true, true, true, true, true, false] rfl rfl (one_of HT_.out (by kernel_rfl)) (by decide) (fun K hK => ?_)
                  refine goes_ Try.func23 (by kernel_rfl) rfl #[.slice Ao14 x3_1.length co14, .int .i64 (wrap64 ((wrap64 ((rd l0 x4_1) - (rd l0 (ji9)))) - 1))] (by rfl) rfl rfl (by (try simp only [List.map_toArray, List.map_cons, List.map_nil]); first | done | (simp only [hji9]; rfl) | rfl | (simp only [List.length_drop, List.length_take]; rfl)) ?_
                  with_reducible refine (tendrilref19_num.calls k1 (fun k_ => some k_ = (.slice Ao14 x3_1.length co14 : Value).ownBlock) (.slice Ao14 x3_1.length co14) x3_1 (wrap64 ((wrap64 ((rd l0 x4_1) - (rd l0 (ji9)))) - 1)) t171 w _ ?side1 ?side2 A12.out).mono ?_
                  (case side1 => repeat (first | (with_reducible first | exact HB.out | apply below_alloc | apply pw_below_drewN | apply below_drew1) | exact HB.out))
                  (case side2 => exact Kd.R_tight rfl HO_3.out)
                  rintro e w15 ⟨v172, rfl, ho0, hb, hkp⟩
                  refine ⟨_, rfl, ?_⟩
                  have n0_ := Aside0.mk (Kd.R_mono (ok' := fun k_ => True) ho0 (fun k_ hk_ => trivial))
                  have n1_ := Aside0.mk (hb)
                  clear HB
                  clear HO_3
                  have HO173 := n0_
                  have HB := n1_
                  clear n0_ n1_
                  (try clear hb)
                  (try clear hkp)
                  (try clear ho0)
                  refine hK.out _ _ ⟨((HB.out.cell (World.block_lt_of_cell? w _ hw169_0)).trans hw169_0), ((HB.out.cell (World.block_lt_of_cell? w _ hw170_0)).trans hw170_0)⟩ (fun hHeld => ?_)
                  clear hK K
                  refine norm_ (a' := ?_) ?_ ?_
                  rotate_left
                  · show Act.put _ (some 30) _ = _
                    simp only [Act.put, List.setIfInBounds_toArray, List.set_cons_zero, List.set_cons_succ, i64_w, i32_w]
                    rfl
                  refine pure_ (i := 13) (N := some 3) (v := ?_) (a' := ?_) #[true, true, true, true, true, true, true, true, true, true, true, true, true, true] rfl rfl (any_of HT_.out (by kernel_rfl)) (fun _ _ _ h => h) (Or.inl ⟨by rfl, ?_⟩) ?_ ?_
                  rotate_left
                  · intro w'
                    go_simp
                    with_reducible rfl
                  rotate_left
                  · simp only [Act.put, List.setIfInBounds_toArray, List.set_cons_zero, List.set_cons_succ, i64_w, i32_w]
                    rfl
                  refine done_ (done_of HT_.out (by kernel_rfl)) ?_
                  try go_wp2
                  go_roundg k1
                  case measure => have := HK1.out; omega
                  case rel => exact ⟨(t171), (wrap64 (x4_1 + 1)), (by first | rfl | (simp; done) | (simp [*]; done)), H', ⟨by have := HK1.out; omega⟩, ⟨by (with_reducible repeat (first | apply Kd.R_alloc | apply Kd.R_drewN | apply Kd.R_drew)); exact HO173.out⟩, ⟨by repeat (first | (with_reducible first | exact HB.out | apply below_alloc | apply pw_below_drewN | apply below_drew1) | exact HB.out)⟩⟩
                · rw [if_neg c11] at H
                  exact absurd H (by simp)
              · rw [if_neg c10] at H
                exact absurd H (by simp)
            · rw [if_neg c8] at H
              exact absurd H (by simp)
          · rw [if_neg c7] at H
            have c7b0 : decide (x4_1 < (l0.length : Int)) = false := decide_eq_false c7
            clear c7
            obtain rfl := Option.some.inj H
            go_wp2
            go_ret
            exact ⟨_, by first | rfl | (simp [errW_none, errW_some] <;> rfl) | (simp [*, errW_none, errW_some] <;> rfl), by (with_reducible repeat (first | apply Kd.R_alloc | apply Kd.R_drewN | apply Kd.R_drew)); exact HO_3.out, by repeat (first | (with_reducible first | exact HB.out | apply below_alloc | apply pw_below_drewN | apply below_drew1) | exact HB.out)⟩
    · rw [if_neg c4] at H
      exact absurd H (by simp)
  · replace c3 := Bool.eq_false_iff.mpr c3
    subst c3
    have H1 : (some ([] : List Int)) = some r := by rw [if_neg (show ¬ (false = true) by decide)] at H; exact H
    clear H
    have H := H1
    clear H1
    obtain rfl := Option.some.inj H
    go_enter Try.func16, Try.ntmps16
    go_wp2_with (first | ((with_reducible refine gate_callee (f := 15) rfl ?_); refine goesL_ (some 6) rfl rfl Try.func15 (by kernel_rfl) rfl #[.slice A0 l0.length c0] rfl (by (try simp only [List.map_toArray, List.map_cons, List.map_nil]); first | done | rfl | (simp only [List.length_drop, List.length_take]; rfl)) ?_; (with_reducible refine (tendrilref19_RightIds.calls k _ _ l0 false _ ?side1 ?side2 A2.out).mono ?_); (case side1 => repeat (first | exact HR0.out | (with_reducible refine Kd.C_alloc ?_ _) | (with_reducible refine Kd.C_drewN ?_ _) | (with_reducible refine Kd.C_drew ?_))); (case side2 => exact HC0.out); rintro e w' ⟨rfl, ⟨nd, rfl⟩⟩; refine ⟨_, rfl, ?_⟩))
    go_ret
    exact ⟨_, by first | rfl | (simp [errW_none, errW_some] <;> rfl) | (simp [*, errW_none, errW_some] <;> rfl), by first | exact Kd.R_nil _ _ _ _ _ | exact Kd.N_nil _ _ _ _ _ | exact Kd.V_nil _ _ _ _ _ | exact Kd.Q_nil _ _ _ _ _ | exact Kd.S_nil _ _ _ _ _, by repeat (first | (with_reducible first | exact HB.out | apply below_alloc | apply pw_below_drewN | apply below_drew1) | exact HB.out)⟩

/-! ### tendrilbook_Intact_int: function 17 -/
theorem tendrilbook_Intact_int.info : (Try.prog.info? 3).map (fun i => (i.zero, i.size, i.bytes)) = some (some (.int .i64 0), 1, 8) := by kernel_rfl
theorem tendrilbook_Intact_int.mark (l : List Int) (m : Int) (i : Int) (h0 : (l.length : Int) ≤ i) (h1 : i < (l.length : Int) + 80) : rd (l ++ List.replicate 80 m) i = m := by
  unfold rd
  rw [List.getD_eq_getElem?_getD, List.getElem?_append_right (by omega), List.getElem?_replicate, if_pos (by omega)]; rfl
set_option maxHeartbeats 8000000 in
set_option maxRecDepth 100000 in
/-- what Roomy made of a list is intact. -/
theorem tendrilbook_Intact_int.yes (A0 : Option Addr) (c0 : Nat) (A1 : Option Addr) (c1 : Nat) (l1 : List Int) (m : Int) (w : World) (hr0 : Kd.C (Kd.int .i64) w A0 (l1 ++ List.replicate 80 m).length (l1 ++ List.replicate 80 m)) (hc0 : l1.length + 80 ≤ c0) (hr1 : Kd.C (Kd.int .i64) w A1 l1.length l1) (hc1 : l1.length ≤ c1) (hm : l1.length ≤ 4611686018427387904) (hsame : tendrilbook_Same_int.f 1000 l1 l1 = some true) :
    Calls Try.prog 17 #[.slice A0 (l1.length + 80) c0, .slice A1 l1.length c1, .int .i64 m] w fun e w' => e = .returned (.bool true) ∧ Drawn0 w w' := by
  have HR0 := Aside0.mk hr0
  have HC0 := Aside0.mk hc0
  have HR1 := Aside0.mk hr1
  have HC1 := Aside0.mk hc1
  have HS := Aside0.mk hsame
  have hl : (l1 ++ List.replicate 80 m).length = l1.length + 80 := by rw [List.length_append, List.length_replicate]
  have HL := Aside0.mk hl
  have ht : (l1 ++ List.replicate 80 m).take l1.length = l1 := by rw [List.take_left']; rfl
  have HT : Aside0 (Kd.C (Kd.int .i64) w A0 l1.length l1) := ⟨by have h_ := Kd.C_take (m := l1.length) hr0 (by omega); rw [ht] at h_; exact h_⟩
  have HTC : Aside0 (l1.length ≤ c0) := ⟨by omega⟩
  obtain ⟨n, hn⟩ : ∃ n : Int, (l1.length : Int) + 80 = n := ⟨_, rfl⟩
  have hnw : IntKind.i64.wrap ((l1.length : Int) + 80) = n := by rw [← hn, IntKind.wrap_i64]; omega
  have hnw2 : wrap64 ((l1.length : Int) + 80) = n := by rw [← hn]; unfold wrap64; omega
  have e1 : (((l1.length : Int) + 80) == n) = true := beq_iff_eq.2 hn
  have e2 : (((l1.length : Int) + 80) != n) = false := bne_eq_false_iff_eq.2 hn
  obtain ⟨i0, hi0, _, hsz, _⟩ := info_parts tendrilbook_Intact_int.info
  have hcut := cut_to (P := Try.prog) 22 3 .i64 Try.underlying22 hi0 A0 (l1.length + 80) c0 (l1.length : Int) (by omega) (by omega) hc0
  rw [Int.toNat_natCast] at hcut
  have HN := Aside0.mk hn
  clear hr0 hc0 hr1 hc1 hsame hl ht hi0 hsz hn
  go_enter Try.func17, Try.ntmps17
  go_wp2_with (first | (go_at_call 10; (with_reducible refine (tendrilbook_Same_int.calls 1000 A0 c0 l1 A1 c1 l1 true _ ?side1 HTC.out ?side2 HC1.out HS.out).mono ?_); (case side1 => repeat (first | exact HT.out | (with_reducible refine Kd.C_alloc ?_ _) | (with_reducible refine Kd.C_drewN ?_ _) | (with_reducible refine Kd.C_drew ?_))); (case side2 => repeat (first | exact HR1.out | (with_reducible refine Kd.C_alloc ?_ _) | (with_reducible refine Kd.C_drewN ?_ _) | (with_reducible refine Kd.C_drew ?_))); rintro e w' ⟨rfl, ⟨nd, rfl⟩⟩))
  clear hcut hnw hnw2 e1 e2
  go_loopg [7] 81 (fun kq v7 w' => ∃ (i : Int), v7 = .int .i64 i ∧ Aside0 ((l1.length : Int) ≤ i) ∧ Aside0 (i + kq = l1.length + 81) ∧ Aside0 (1 ≤ kq) ∧ Drawn0 w w')
  case atStart => exact ⟨(l1.length : Int), rfl, ⟨Int.le_refl _⟩, ⟨by omega⟩, ⟨by decide⟩, by repeat (first | exact Drawn0.refl _ | apply Drawn0.step)⟩
  case round =>
    obtain ⟨i, rfl, H0, HK, HK1, ⟨m1, rfl⟩⟩ := hrel
    have i0 : 0 ≤ i := by have := H0.out; omega
    by_cases hlt : i < (l1.length : Int) + 80
    · have p1 : decide (i < (l1.length : Int) + 80) = true := decide_eq_true hlt
      have p2 : decide (i < ((l1.length + 80 : Nat) : Int)) = true := decide_eq_true (by omega)
      obtain ⟨ad, ead, hx⟩ := Kd.at_int HR0.out i i0 (by rw [HL.out]; omega)
      rw [tendrilbook_Intact_int.mark l1 m i H0.out hlt] at hx
      subst ead
      have i2 : i ≤ 9223372036854775000 := by omega
      have q1 : (0 ≤ i) = True := eq_true i0
      have q2 : (i < (l1.length : Int) + 80) = True := eq_true hlt
      go_wp2
      go_roundg (gk - 1)
      case measure => have := HK1.out; omega
      case rel => exact ⟨i + 1, rfl, ⟨by have := H0.out; omega⟩, ⟨by have := HK.out; have := HK1.out; omega⟩, ⟨by have := HK.out; omega⟩, by repeat (first | exact Drawn0.refl _ | apply Drawn0.step)⟩
    · have p1 : decide (i < (l1.length : Int) + 80) = false := decide_eq_false hlt
      have p2 : decide (i < ((l1.length + 80 : Nat) : Int)) = false := decide_eq_false (by omega)
      go_wp2
      go_ret
      exact ⟨rfl, by repeat (first | exact Drawn0.refl _ | apply Drawn0.step)⟩

/-! ### tendrilbook_Intact_byte: function 18 -/
theorem tendrilbook_Intact_byte.info : (Try.prog.info? 5).map (fun i => (i.zero, i.size, i.bytes)) = some (some (.int .u8 0), 1, 1) := by kernel_rfl
theorem tendrilbook_Intact_byte.mark (l : List Int) (m : Int) (i : Int) (h0 : (l.length : Int) ≤ i) (h1 : i < (l.length : Int) + 80) : rd (l ++ List.replicate 80 m) i = m := by
  unfold rd
  rw [List.getD_eq_getElem?_getD, List.getElem?_append_right (by omega), List.getElem?_replicate, if_pos (by omega)]; rfl
set_option maxHeartbeats 8000000 in
set_option maxRecDepth 100000 in
/-- what Roomy made of a list is intact. -/
theorem tendrilbook_Intact_byte.yes (A0 : Option Addr) (c0 : Nat) (A1 : Option Addr) (c1 : Nat) (l1 : List Int) (m : Int) (w : World) (hr0 : Kd.C (Kd.int .u8) w A0 (l1 ++ List.replicate 80 m).length (l1 ++ List.replicate 80 m)) (hc0 : l1.length + 80 ≤ c0) (hr1 : Kd.C (Kd.int .u8) w A1 l1.length l1) (hc1 : l1.length ≤ c1) (hm : l1.length ≤ 4611686018427387904) (hsame : tendrilbook_Same_byte.f 1000 l1 l1 = some true) :
    Calls Try.prog 18 #[.slice A0 (l1.length + 80) c0, .slice A1 l1.length c1, .int .u8 m] w fun e w' => e = .returned (.bool true) ∧ Drawn0 w w' := by
  have HR0 := Aside0.mk hr0
  have HC0 := Aside0.mk hc0
  have HR1 := Aside0.mk hr1
  have HC1 := Aside0.mk hc1
  have HS := Aside0.mk hsame
  have hl : (l1 ++ List.replicate 80 m).length = l1.length + 80 := by rw [List.length_append, List.length_replicate]
  have HL := Aside0.mk hl
  have ht : (l1 ++ List.replicate 80 m).take l1.length = l1 := by rw [List.take_left']; rfl
  have HT : Aside0 (Kd.C (Kd.int .u8) w A0 l1.length l1) := ⟨by have h_ := Kd.C_take (m := l1.length) hr0 (by omega); rw [ht] at h_; exact h_⟩
  have HTC : Aside0 (l1.length ≤ c0) := ⟨by omega⟩
  obtain ⟨n, hn⟩ : ∃ n : Int, (l1.length : Int) + 80 = n := ⟨_, rfl⟩
  have hnw : IntKind.i64.wrap ((l1.length : Int) + 80) = n := by rw [← hn, IntKind.wrap_i64]; omega
  have hnw2 : wrap64 ((l1.length : Int) + 80) = n := by rw [← hn]; unfold wrap64; omega
  have e1 : (((l1.length : Int) + 80) == n) = true := beq_iff_eq.2 hn
  have e2 : (((l1.length : Int) + 80) != n) = false := bne_eq_false_iff_eq.2 hn
  obtain ⟨i0, hi0, _, hsz, _⟩ := info_parts tendrilbook_Intact_byte.info
  have hcut := cut_to (P := Try.prog) 26 5 .i64 Try.underlying26 hi0 A0 (l1.length + 80) c0 (l1.length : Int) (by omega) (by omega) hc0
  rw [Int.toNat_natCast] at hcut
  have HN := Aside0.mk hn
  clear hr0 hc0 hr1 hc1 hsame hl ht hi0 hsz hn
  go_enter Try.func18, Try.ntmps18
  go_wp2_with (first | (go_at_call 8; (with_reducible refine (tendrilbook_Same_byte.calls 1000 A0 c0 l1 A1 c1 l1 true _ ?side1 HTC.out ?side2 HC1.out HS.out).mono ?_); (case side1 => repeat (first | exact HT.out | (with_reducible refine Kd.C_alloc ?_ _) | (with_reducible refine Kd.C_drewN ?_ _) | (with_reducible refine Kd.C_drew ?_))); (case side2 => repeat (first | exact HR1.out | (with_reducible refine Kd.C_alloc ?_ _) | (with_reducible refine Kd.C_drewN ?_ _) | (with_reducible refine Kd.C_drew ?_))); rintro e w' ⟨rfl, ⟨nd, rfl⟩⟩))
  clear hcut hnw hnw2 e1 e2
  go_loopg [7] 81 (fun kq v7 w' => ∃ (i : Int), v7 = .int .i64 i ∧ Aside0 ((l1.length : Int) ≤ i) ∧ Aside0 (i + kq = l1.length + 81) ∧ Aside0 (1 ≤ kq) ∧ Drawn0 w w')
  case atStart => exact ⟨(l1.length : Int), rfl, ⟨Int.le_refl _⟩, ⟨by omega⟩, ⟨by decide⟩, by repeat (first | exact Drawn0.refl _ | apply Drawn0.step)⟩
  case round =>
    obtain ⟨i, rfl, H0, HK, HK1, ⟨m1, rfl⟩⟩ := hrel
    have i0 : 0 ≤ i := by have := H0.out; omega
    by_cases hlt : i < (l1.length : Int) + 80
    · have p1 : decide (i < (l1.length : Int) + 80) = true := decide_eq_true hlt
      have p2 : decide (i < ((l1.length + 80 : Nat) : Int)) = true := decide_eq_true (by omega)
      obtain ⟨ad, ead, hx⟩ := Kd.at_int HR0.out i i0 (by rw [HL.out]; omega)
      rw [tendrilbook_Intact_byte.mark l1 m i H0.out hlt] at hx
      subst ead
      have i2 : i ≤ 9223372036854775000 := by omega
      have q1 : (0 ≤ i) = True := eq_true i0
      have q2 : (i < (l1.length : Int) + 80) = True := eq_true hlt
      go_wp2
      go_roundg (gk - 1)
      case measure => have := HK1.out; omega
      case rel => exact ⟨i + 1, rfl, ⟨by have := H0.out; omega⟩, ⟨by have := HK.out; have := HK1.out; omega⟩, ⟨by have := HK.out; omega⟩, by repeat (first | exact Drawn0.refl _ | apply Drawn0.step)⟩
    · have p1 : decide (i < (l1.length : Int) + 80) = false := decide_eq_false hlt
      have p2 : decide (i < ((l1.length + 80 : Nat) : Int)) = false := decide_eq_false (by omega)
      go_wp2
      go_ret
      exact ⟨rfl, by repeat (first | exact Drawn0.refl _ | apply Drawn0.step)⟩

-- NOT PRINTED: function 4 (tendrillaw19_BlockTells)

end Go.Proofs.Ytjfkofomhpokcaa.PBlockTells
