/- the law's walk where the list that came in is longer than the law takes: it is cut; no further condition. -/
import Derived.Test.YtckpgbkbbdifmaaPMergeFirstx3
namespace Go.Proofs.Ytckpgbkbbdifmaa.PMergeFirst
open Go.RowKit Go.Proofs.YtckpgbkbbdifmaaW.PrintWords Go.Proofs.YtckpgbkbbdifmaaW.PrintLast Go.Proofs.YtckpgbkbbdifmaaW.PrintMore
attribute [local go_sem] max2_int min2_int max_two min_two max_three min_three max_four min_four
set_option linter.unusedVariables false
set_option linter.unusedSimpArgs false
set_option maxHeartbeats 8000000 in
set_option maxRecDepth 100000 in
theorem tendrillaw21_MergeFirst.calls_cut (k : Nat) (A0 : Option Addr) (c0 : Nat) (l0 : List (List Int)) (a1 : Int) (r : Bool) (w : World) (nn : Nat) (hnn : 10 < nn) (hnc : nn ≤ c0) (hl0 : l0.length = 10) (hr0 : Kd.C (Kd.slice 3 (Kd.int .i64)) w A0 l0.length l0) (hc0 : l0.length ≤ c0) (h : tendrillaw21_MergeFirst.f k l0 a1 = some r) :
    Calls Try.prog 6 #[.slice A0 nn c0, .int .i64 a1] w fun e w' => e = .returned (.bool r) ∧ Below w.heap.size w w' := by
  have HR0 := Aside0.mk hr0
  have HC0 := Aside0.mk hc0
  clear hr0 hc0
  have HB := Aside0.mk (Below.refl w.heap.size w)
  have H : (if (l0.length : Int) > 10 then (none) else (tendrillaw21_MergeFirst.l0 k l0 a1 ([] : List (List Int)) (l0.length : Int) 0)) = some r := h
  clear h
  by_cases c3 : (l0.length : Int) > 10
  · rw [if_pos c3] at H
    exact absurd H (by simp)
  · rw [if_neg c3] at H
    have c3b0 : decide (10 < (l0.length : Int)) = false := decide_eq_false c3
    have c3b1 : decide (10 < l0.length) = false := decide_eq_false (by omega)
    clear c3
    have H' := Aside0.mk H
    clear H
    obtain ⟨i_c, hi_c, -, -, -⟩ := info_parts info22
    have hcut := cut_to (P := Try.prog) 28 22 .i64 Try.underlying28 hi_c A0 nn c0 10 (by omega) (by omega) hnc
    rw [show (10 : Int).toNat = l0.length from by omega] at hcut
    have d1 : decide ((10 : Int) < (nn : Int)) = true := decide_eq_true (by omega)
    have d1n : decide (10 < nn) = true := decide_eq_true hnn
    clear hi_c i_c hl0
    go_enter Try.func6, Try.ntmps6
    go_wp2
    try clear hcut d1 d1n
    go_loopg [5, 25] k (fun kq v5 v25 w' => ∃ (x5_1 : List (List Int)) (x25_1 : Int), v25 = .int .i64 x25_1 ∧ Aside0 (tendrillaw21_MergeFirst.l0 kq l0 a1 x5_1 (l0.length : Int) x25_1 = some r) ∧ Aside0 (kq ≤ k) ∧ Aside0 (Kd.S (Kd.slice 3 (Kd.int .i64)) 22 w' w.heap.size (fun _ => True) v5 x5_1) ∧ Aside0 (Below w.heap.size w w'))
    case atStart => exact ⟨(([] : List (List Int))), (0), (by first | rfl | (simp; done) | (simp [*]; done)), H', ⟨Nat.le_refl _⟩, ⟨by first | exact Kd.S_nil _ _ _ _ _ | exact Kd.N_nil _ _ _ _ _ | exact Kd.V_nil _ _ _ _ _ | exact Kd.Q_nil _ _ _ _ _ | exact Kd.R_nil _ _ _ _ _⟩, ⟨by repeat (first | (with_reducible first | exact HB.out | apply below_alloc | apply pw_below_drewN | apply below_drew1) | exact HB.out)⟩⟩
    case round =>
      clear H'
      try clear p2
      try clear c3
      try clear c3b0
      try clear c3b1
      obtain ⟨x5_1, x25_1, rfl, HA, HK1, HO_5, HB⟩ := hrel
      cases gk with
      | zero => exact absurd HA.out (by simp [tendrillaw21_MergeFirst.l0])
      | succ k1 =>
        have H := HA.out
        clear HA
        simp only [tendrillaw21_MergeFirst.l0] at H
        by_cases c4 : x25_1 < (l0.length : Int)
        · rw [if_pos c4] at H
          have c4b0 : decide (x25_1 < (l0.length : Int)) = true := decide_eq_true c4
          clear c4
          by_cases c5 : 0 ≤ x25_1
          · rw [if_pos c5] at H
            have c5b0 : decide (0 ≤ x25_1) = true := decide_eq_true c5
            clear c5
            by_cases c6 : x25_1 < (l0.length : Int)
            · rw [if_pos c6] at H
              have c6b0 : decide (x25_1 < (l0.length : Int)) = true := decide_eq_true c6
              clear c6
              obtain ⟨ji7, hji7⟩ : ∃ j_ : Int, (mn ((rd_L1 l0 x25_1).length : Int) 30) = j_ := ⟨_, rfl⟩
              replace H : (if 0 ≤ (ji7) then (if (ji7) ≤ ((rd_L1 l0 x25_1).length : Int) then ((tendrillaw21_rising.f k1 ((rd_L1 l0 x25_1).take ((ji7) : Int).toNat)).bind fun t161 => (if x5_1.length < 5864062014805 then (tendrillaw21_MergeFirst.l0 k1 l0 a1 (x5_1 ++ [t161]) (l0.length : Int) (wrap64 (x25_1 + 1))) else (none))) else (none)) else (none)) = some r := by first | (rw [hji7] at H; exact H) | (simp only [hji7] at H ⊢; exact H)
              have hji7_ : (if 30 < ((rd_L1 l0 x25_1).length : Int) then 30 else ((rd_L1 l0 x25_1).length : Int)) = ji7 := hji7
              by_cases c8 : 0 ≤ (ji7)
              · rw [if_pos c8] at H
                have c8b0 := eq_true c8
                have c8b1 : decide (0 ≤ (ji7)) = true := decide_eq_true c8
                clear c8
                by_cases c9 : (ji7) ≤ ((rd_L1 l0 x25_1).length : Int)
                · rw [if_pos c9] at H
                  have c9b0 := eq_true c9
                  have c9b1 : decide ((ji7) ≤ ((rd_L1 l0 x25_1).length : Int)) = true := decide_eq_true c9
                  clear c9
                  replace H := Option.bind_eq_some_iff.mp H
                  obtain ⟨t161, A100, H⟩ := H
                  replace H : (if x5_1.length < 5864062014805 then (tendrillaw21_MergeFirst.l0 k1 l0 a1 (x5_1 ++ [t161]) (l0.length : Int) (wrap64 (x25_1 + 1))) else (none)) = some r := H
                  have A10 := Aside0.mk A100
                  clear A100
                  by_cases c11 : x5_1.length < 5864062014805
                  · rw [if_pos c11] at H
                    have LMc11 := Aside0.mk c11
                    clear c11
                    obtain ⟨y164, hy164⟩ : ∃ y_ : List (List Int), y_ = (x5_1 ++ [t161]) := ⟨_, rfl⟩
                    replace H : (tendrillaw21_MergeFirst.l0 k1 l0 a1 y164 (l0.length : Int) (wrap64 (x25_1 + 1))) = some r := by first | (rw [hy164]; with_reducible exact H) | (have H2_ := (Option.bind_some _ _).symm.trans H; rw [hy164]; with_reducible exact H2_) | (have H2_ := (Option.bind_some _ _).symm.trans H; with_reducible exact H2_) | with_reducible exact H | (rw [hy164]; exact H) | exact H
                    have Ny164 := Aside0.mk hy164
                    clear hy164
                    have H' := Aside0.mk H
                    clear H
                    try go_wp2
                    have n0_ := Aside0.mk (Kd.S_drew HO_5.out)
                    have n1_ := Aside0.mk (below_drew1 HB.out)
                    clear HO_5
                    clear HB
                    have HO_5 := n0_
                    have HB := n1_
                    clear n0_ n1_
                    have p158 : 0 ≤ (x25_1 : Int) := of_decide_eq_true (by first | (with_reducible assumption) | assumption)
                    have q158 : x25_1 < (l0.length : Int) := of_decide_eq_true (by first | (with_reducible assumption) | assumption)
                    obtain ⟨ad158, A158_0, c158_0, e158, hx158_0, hl158_0, hi158_0⟩ := at_L1 HR0.out x25_1 p158 q158
                    have hw158_0 := hx158_0
                    cases e158
                    replace hx158_0 := (HB.out.cell (World.block_lt_of_cell? w _ hx158_0)).trans hx158_0
                    have HR158_0 := Aside0.mk hi158_0
                    have HC158_0 := Aside0.mk hl158_0
                    clear hi158_0 hl158_0
                    replace p158 := eq_true p158
                    replace q158 := eq_true q158
                    have p159 : 0 ≤ (x25_1 : Int) := of_decide_eq_true (by first | (with_reducible assumption) | assumption)
                    have q159 : x25_1 < (l0.length : Int) := of_decide_eq_true (by first | (with_reducible assumption) | assumption)
                    obtain ⟨ad159, A159_0, c159_0, e159, hx159_0, hl159_0, hi159_0⟩ := at_L1 HR0.out x25_1 p159 q159
                    have hw159_0 := hx159_0
                    obtain rfl : ad158 = ad159 := (by injection e159)
                    replace hx159_0 := (HB.out.cell (World.block_lt_of_cell? w _ hx159_0)).trans hx159_0
                    have HR159_0 := Aside0.mk hi159_0
                    have HC159_0 := Aside0.mk hl159_0
                    clear hi159_0 hl159_0
                    replace p159 := eq_true p159
                    replace q159 := eq_true q159
                    have ea_ := Option.some.inj (hx158_0.symm.trans hx159_0)
                    injection ea_ with ea_ en_ ec_
                    subst ea_
                    subst ec_
                    clear en_
                    obtain ⟨i013, hi013, _, hsz13, _⟩ := info_parts info3
                    obtain ⟨hcut13, hA13, hC13⟩ := print_take_of (P := Try.prog) (Value.int .i64) 0 22 3 .i64 Try.underlying22 hi013 hsz13 A158_0 c158_0 (rd_L1 l0 x25_1) (ji7) (of_decide_eq_true (by first | (with_reducible assumption) | assumption)) (of_decide_eq_true (by first | (with_reducible assumption) | assumption)) HC158_0.out
                    have HR160 := Aside0.mk (Kd.C_of_reads (h1 := fun _ => rfl) (hA13 _ (Kd.reads_of_C HR158_0.out)))
                    have HC160 := Aside0.mk hC13
                    clear hA13 hC13 hi013 hsz13
                    refine start_ (n := 16) (S := fun w' => w'.cell? (ad158.add (x25_1).toNat) = some (.slice A158_0 (rd_L1 l0 x25_1).length c158_0) ∧ w'.cell? (ad158.add (x25_1).toNat) = some (.slice A158_0 (rd_L1 l0 x25_1).length c158_0)) (ds := []) #[false, false, false, false, false, false, false, false, false, false, false, false, false, false, false, false] (by kernel_rfl) rfl rfl ⟨((HB.out.cell (World.block_lt_of_cell? w _ hw158_0)).trans hw158_0), ((HB.out.cell (World.block_lt_of_cell? w _ hw159_0)).trans hw159_0)⟩ (fun hHeld => ?_); refine with_tabW tendrillaw21_MergeFirst.tab7 tendrillaw21_MergeFirst.bits7 (fun HT_ HW_ => ?_)
                    generalize wr.drew = w12 at HO_5 HB HR158_0 HR159_0 HR160 hx158_0 hx159_0 hHeld ⊢
                    refine pure_ (i := 0) (N := some 28) (v := ?_) (a' := ?_) #[true, false, false, false, false, false, false, false, false, false, false, false, false, false, false, false] rfl rfl (any_of HT_.out (by kernel_rfl)) (fun _ _ _ h => h) (Or.inl ⟨by rfl, ?_⟩) ?_ ?_
                    rotate_left
                    · intro w'
                      go_simp
                      with_reducible rfl
                    rotate_left
                    · simp only [Act.put, List.setIfInBounds_toArray, List.set_cons_zero, List.set_cons_succ, i64_w, i32_w]
                      rfl
                    refine pure_ (i := 1) (N := some 29) (v := ?_) (a' := ?_) #[true, true, false, false, false, false, false, false, false, false, false, false, false, false, false, false] rfl rfl (any_of HT_.out (by kernel_rfl)) (fun _ _ _ h => h) (Or.inl ⟨by rfl, ?_⟩) ?_ ?_
                    rotate_left
                    · intro w'
                      go_simp
                      with_reducible rfl
                    rotate_left
                    · simp only [Act.put, List.setIfInBounds_toArray, List.set_cons_zero, List.set_cons_succ, i64_w, i32_w]
                      rfl
                    refine pure_ (i := 2) (N := some 30) (v := ?_) (a' := ?_) #[true, true, true, false, false, false, false, false, false, false, false, false, false, false, false, false] rfl rfl (any_of HT_.out (by kernel_rfl)) (fun _ _ _ h => h) (Or.inl ⟨by rfl, ?_⟩) ?_ ?_
                    rotate_left
                    · intro w'
                      go_simp
                      with_reducible rfl
                    rotate_left
                    · simp only [Act.put, List.setIfInBounds_toArray, List.set_cons_zero, List.set_cons_succ, i64_w, i32_w]
                      rfl
                    refine pure_ (i := 3) (N := some 31) (v := ?_) (a' := ?_) #[true, true, true, true, false, false, false, false, false, false, false, false, false, false, false, false] rfl rfl (any_of HT_.out (by kernel_rfl)) (fun _ _ _ h => h) (Or.inl ⟨by rfl, ?_⟩) ?_ ?_
                    rotate_left
                    · intro w'
                      go_simp
                      with_reducible rfl
                    rotate_left
                    · simp only [Act.put, List.setIfInBounds_toArray, List.set_cons_zero, List.set_cons_succ, i64_w, i32_w]
                      rfl
                    refine pure_ (i := 5) (N := some 33) (v := ?_) (a' := ?_) #[true, true, true, true, false, true, false, false, false, false, false, false, false, false, false, false] rfl rfl (any_of HT_.out (by kernel_rfl)) (fun _ _ _ h => h) (Or.inl ⟨by rfl, ?_⟩) ?_ ?_
                    rotate_left
                    · intro w'
                      go_simp
                      with_reducible rfl
                    rotate_left
                    · simp only [Act.put, List.setIfInBounds_toArray, List.set_cons_zero, List.set_cons_succ, i64_w, i32_w]
                      rfl
                    refine pure_ (i := 6) (N := some 34) (v := ?_) (a' := ?_) #[true, true, true, true, false, true, true, false, false, false, false, false, false, false, false, false] rfl rfl (any_of HT_.out (by kernel_rfl)) (fun _ _ _ h => h) (Or.inl ⟨by rfl, ?_⟩) ?_ ?_
                    rotate_left
                    · intro w'
                      go_simp
                      with_reducible rfl
                    rotate_left
                    · simp only [Act.put, List.setIfInBounds_toArray, List.set_cons_zero, List.set_cons_succ, i64_w, i32_w]
                      rfl
                    refine pure_ (i := 7) (N := some 35) (v := ?_) (a' := ?_) #[true, true, true, true, false, true, true, true, false, false, false, false, false, false, false, false] rfl rfl (any_of HT_.out (by kernel_rfl)) (fun _ _ _ h => h) (Or.inl ⟨by rfl, ?_⟩) ?_ ?_
                    rotate_left
                    · intro w'
                      go_simp
                      with_reducible rfl
                    rotate_left
                    · simp only [Act.put, List.setIfInBounds_toArray, List.set_cons_zero, List.set_cons_succ, i64_w, i32_w]
                      rfl
                    refine take_ (i := 4) (N := some 32) (v := ?_) (a' := ?_) #[true, true, true, true, true, true, true, true, false, false, false, false, false, false, false, false] rfl rfl (take_ofW HT_.out HW_.out (by kernel_rfl)) (fun _ _ _ h => h) (Or.inl ⟨by rfl, ?_⟩) hHeld ?_ ?_
                    rotate_left
                    · rintro w' ⟨s0, s1⟩
                      go_simp
                      with_reducible rfl
                    rotate_left
                    · simp only [Act.put, List.setIfInBounds_toArray, List.set_cons_zero, List.set_cons_succ, i64_w, i32_w]
                      rfl
                    refine take_ (i := 8) (N := some 36) (v := ?_) (a' := ?_) #[true, true, true, true, true, true, true, true, true, false, false, false, false, false, false, false] rfl rfl (take_ofW HT_.out HW_.out (by kernel_rfl)) (fun _ _ _ h => h) (Or.inl ⟨by rfl, ?_⟩) hHeld ?_ ?_
                    rotate_left
                    · rintro w' ⟨s0, s1⟩
                      go_simp
                      with_reducible rfl
                    rotate_left
                    · simp only [Act.put, List.setIfInBounds_toArray, List.set_cons_zero, List.set_cons_succ, i64_w, i32_w]
                      rfl
                    refine pure_ (i := 9) (N := some 37) (v := ?_) (a' := ?_) #[true, true, true, true, true, true, true, true, true, true, false, false, false, false, false, false] rfl rfl (any_of HT_.out (by kernel_rfl)) (fun _ _ _ h => h) (Or.inl ⟨by rfl, ?_⟩) ?_ ?_
                    rotate_left
                    · intro w'
                      go_simp
                      with_reducible rfl
                    rotate_left
                    · simp only [Act.put, List.setIfInBounds_toArray, List.set_cons_zero, List.set_cons_succ, i64_w, i32_w]
                      rfl
                    refine pure_ (i := 10) (N := some 38) (v := ?_) (a' := ?_) #[true, true, true, true, true, true, true, true, true, true, true, false, false, false, false, false] rfl rfl (any_of HT_.out (by kernel_rfl)) (fun _ _ _ h => h) (Or.inl ⟨by rfl, ?_⟩) ?_ ?_
                    rotate_left
                    · intro w'
                      go_simp
                      with_reducible rfl
                    rotate_left
                    · simp only [Act.put, List.setIfInBounds_toArray, List.set_cons_zero, List.set_cons_succ, i64_w, i32_w]
                      rfl
                    refine pure_ (i := 11) (N := some 39) (v := ?_) (a' := ?_) #[true, true, true, true, true, true, true, true, true, true, true, true, false, false, false, false] rfl rfl (any_of HT_.out (by kernel_rfl)) (fun _ _ _ h => h) (Or.inl ⟨by rfl, ?_⟩) ?_ ?_
                    rotate_left
                    · intro w'
                      go_simp
                      with_reducible rfl
                    rotate_left
                    · simp only [Act.put, List.setIfInBounds_toArray, List.set_cons_zero, List.set_cons_succ, i64_w, i32_w]
                      rfl
                    refine one_ (i := 12) (N := some 40) #[true, true, true, true, true, true, true, true, true, true, true, true, true, false, false, false] rfl rfl (one_of HT_.out (by kernel_rfl)) (by decide) (fun K hK => ?_)
                    refine goes_ Try.func14 (by kernel_rfl) rfl #[.slice A158_0 ((rd_L1 l0 x25_1).take ((ji7) : Int).toNat).length c158_0] (by rfl) rfl rfl (by (try simp only [List.map_toArray, List.map_cons, List.map_nil]); first | done | (rw [show ((rd_L1 l0 x25_1).take ((ji7) : Int).toNat).length = (ji7).toNat from (by rw [List.length_take]; have h_ : ((ji7) : Int) ≤ ((rd_L1 l0 x25_1).length : Int) := of_decide_eq_true (by first | (with_reducible assumption) | assumption); omega)] <;> rfl) | (simp only [hji7]; rfl) | rfl | (simp only [List.length_drop, List.length_take]; rfl)) ?_
                    with_reducible refine (tendrillaw21_rising.calls k1 _ _ ((rd_L1 l0 x25_1).take ((ji7) : Int).toNat) t161 _ ?side1 ?side2 A10.out).mono ?_
                    (case side1 => repeat (first | exact (Kd.C_below HR160.out HB.out) | (with_reducible refine Kd.C_alloc ?_ _) | (with_reducible refine Kd.C_drewN ?_ _) | (with_reducible refine Kd.C_drew ?_)))
                    (case side2 => exact HC160.out)
                    rintro e w14 ⟨v162, rfl, ho0, hb⟩
                    refine ⟨_, rfl, ?_⟩
                    have n0_ := Aside0.mk (Kd.S_elder' (by (with_reducible repeat (first | apply Kd.S_alloc | apply Kd.S_drewN | apply Kd.S_drew)); exact HO_5.out) (Kd.R_base ho0) hb)
                    have n1_ := Aside0.mk (Kd.R_lower ho0 (below_size (by repeat (first | (with_reducible first | exact HB.out | apply below_alloc | apply pw_below_drewN | apply below_drew1) | exact HB.out))))
                    have n2_ := Aside0.mk (below_step (by repeat (first | (with_reducible first | exact HB.out | apply below_alloc | apply pw_below_drewN | apply below_drew1) | exact HB.out)) hb)
                    clear HO_5
                    clear HB
                    have HO_5 := n0_
                    have HO163 := n1_
                    have HB := n2_
                    clear n0_ n1_ n2_
                    (try clear hb)
                    (try clear hb2)
                    (try clear hk)
                    (try clear hi)
                    (try clear ho0)
                    obtain ⟨Ao16, co16, eo16⟩ := Kd.R_slice HO163.out
                    (first | subst eo16 | (injection eo16 with f1_ f2_ f3_; have f4_ := f1_.symm; have f5_ := f3_.symm; clear f1_ f2_ f3_; subst f4_; subst f5_))
                    refine hK.out _ _ ⟨((HB.out.cell (World.block_lt_of_cell? w _ hw158_0)).trans hw158_0), ((HB.out.cell (World.block_lt_of_cell? w _ hw159_0)).trans hw159_0)⟩ (fun hHeld => ?_)
                    clear hK K
                    refine norm_ (a' := ?_) ?_ ?_
                    rotate_left
                    · show Act.put _ (some 40) _ = _
                      simp only [Act.put, List.setIfInBounds_toArray, List.set_cons_zero, List.set_cons_succ, i64_w, i32_w]
                      rfl
                    refine one_ (i := 13) (N := some 41) #[true, true, true, true, true, true, true, true, true, true, true, true, true, true, false, false] rfl rfl (one_of HT_.out (by kernel_rfl)) (by decide) (fun K hK => ?_)
                    refine value_ (w1 := ?_) (v := ?_) (by rfl) rfl ?_ ?_
                    rotate_left 2
                    · go_simp
                      constructor
                      · rfl
                      · rfl
                    refine hK.out _ _ ⟨(World.cell?_alloc_lt _ _ _ (World.block_lt_of_cell? _ _ (((HB.out.cell (World.block_lt_of_cell? w _ hw158_0)).trans hw158_0)))).trans (((HB.out.cell (World.block_lt_of_cell? w _ hw158_0)).trans hw158_0)), (World.cell?_alloc_lt _ _ _ (World.block_lt_of_cell? _ _ (((HB.out.cell (World.block_lt_of_cell? w _ hw159_0)).trans hw159_0)))).trans (((HB.out.cell (World.block_lt_of_cell? w _ hw159_0)).trans hw159_0))⟩ (fun hHeld => ?_)
                    clear hK K
                    refine norm_ (a' := ?_) ?_ ?_
                    rotate_left
                    · show Act.put _ (some 41) _ = _
                      simp only [Act.put, List.setIfInBounds_toArray, List.set_cons_zero, List.set_cons_succ, i64_w, i32_w]
                      rfl
                    refine one_ (i := 14) (N := some 42) #[true, true, true, true, true, true, true, true, true, true, true, true, true, true, true, false] rfl rfl (one_of HT_.out (by kernel_rfl)) (by decide) (fun K hK => ?_)
                    refine Kd.S_append_step (Kd.slice 3 (Kd.int .i64)) (w0 := w) w.heap.size (by rfl) (.tmp 28) (.tmp 41) 28 22 (.slice none 0 0) 24 rfl Try.underlying28 info22 rfl (by decide) (by omega) u5 x5_1 t161 [.slice Ao16 t161.length co16] (fun _ => True) (fun k_ => some k_ = (.slice Ao16 t161.length co16 : Value).ownBlock) rfl rfl ?aP (fun k_ hk_ => ((Kd.R_mono (ok' := fun k_ => ((fun _ => True)) k_ ∧ some k_ ≠ (u5 : Value).ownBlock) (Kd.R_apart' (HO163.out) (Kd.S_typed HO_5.out) (by decide)) (fun k_ hk => ⟨trivial, hk.2⟩))).1 k_ hk_.symm) ?aF ?aO ?aB ?aS ?aL ?_
                    (case aP => exact Kd.M_row (Kd.R_mono (Kd.R_tight rfl (Kd.R_mono (ok' := fun k_ => ((fun _ => True)) k_ ∧ some k_ ≠ (u5 : Value).ownBlock) (Kd.R_apart' (HO163.out) (Kd.S_typed HO_5.out) (by decide)) (fun k_ hk => ⟨trivial, hk.2⟩))) (fun _ h_ => h_)))
                    (case aB => exact (by repeat (first | (with_reducible first | exact HB.out | apply below_alloc | apply pw_below_drewN | apply below_drew1) | exact HB.out)))
                    (case aF => exact (fun _ _ => trivial))
                    (case aO => exact (by (with_reducible repeat (first | apply Kd.S_alloc | apply Kd.S_drewN | apply Kd.S_drew)); exact Kd.S_mono HO_5.out (fun k_ hk => ⟨trivial, fun e_ => hk.2 e_⟩)))
                    (case aS => exact (below_size (by repeat (first | (with_reducible first | exact HB.out | apply below_alloc | apply pw_below_drewN | apply below_drew1) | exact HB.out))))
                    (case aL => have := LMc11.out; omega)
                    intro v165 w15 ho hb hg hat
                    rw [← Ny164.out] at ho
                    have n0_ := Aside0.mk (hb)
                    have n1_ := Aside0.mk (ho)
                    clear HB
                    clear HO_5
                    clear HO163
                    have HB := n0_
                    have HO166 := n1_
                    clear n0_ n1_
                    clear ho hb hg hat
                    refine hK.out _ _ ⟨((HB.out.cell (World.block_lt_of_cell? w _ hw158_0)).trans hw158_0), ((HB.out.cell (World.block_lt_of_cell? w _ hw159_0)).trans hw159_0)⟩ (fun hHeld => ?_)
                    clear hK K
                    refine norm_ (a' := ?_) ?_ ?_
                    rotate_left
                    · show Act.put _ (some 42) _ = _
                      simp only [Act.put, List.setIfInBounds_toArray, List.set_cons_zero, List.set_cons_succ, i64_w, i32_w]
                      rfl
                    refine pure_ (i := 15) (N := some 5) (v := ?_) (a' := ?_) #[true, true, true, true, true, true, true, true, true, true, true, true, true, true, true, true] rfl rfl (any_of HT_.out (by kernel_rfl)) (fun _ _ _ h => h) (Or.inl ⟨by rfl, ?_⟩) ?_ ?_
                    rotate_left
                    · intro w'
                      go_simp
                      with_reducible rfl
                    rotate_left
                    · simp only [Act.put, List.setIfInBounds_toArray, List.set_cons_zero, List.set_cons_succ, i64_w, i32_w]
                      rfl
                    refine done_ (done_of HT_.out (by kernel_rfl)) ?_
                    try go_wp2
                    go_roundg k1
                    case measure => have := HK1.out; omega
                    case rel => exact ⟨(y164), (wrap64 (x25_1 + 1)), (by first | rfl | (simp; done) | (simp [*]; done)), H', ⟨by have := HK1.out; omega⟩, ⟨by (with_reducible repeat (first | apply Kd.S_alloc | apply Kd.S_drewN | apply Kd.S_drew)); exact HO166.out⟩, ⟨by repeat (first | (with_reducible first | exact HB.out | apply below_alloc | apply pw_below_drewN | apply below_drew1) | exact HB.out)⟩⟩
                  · rw [if_neg c11] at H
                    exact absurd H (by simp)
                · rw [if_neg c9] at H
                  exact absurd H (by simp)
              · rw [if_neg c8] at H
                exact absurd H (by simp)
            · rw [if_neg c6] at H
              exact absurd H (by simp)
          · rw [if_neg c5] at H
            exact absurd H (by simp)
        · rw [if_neg c4] at H
          have c4b0 : decide (x25_1 < (l0.length : Int)) = false := decide_eq_false c4
          clear c4
          replace H := Option.bind_eq_some_iff.mp H
          obtain ⟨t167, A170, H⟩ := H
          replace H : ((merge_Union.f x5_1).bind fun t170 => (if (t167.length : Int) = (mn (mx a1 0) (t170.length : Int)) then (if (t167.length : Int) > (t170.length : Int) then (tendrillaw21_MergeFirst.j1 k1 x5_1 t170 true) else (if 0 ≤ (t167.length : Int) then (if (t167.length : Int) ≤ (t170.length : Int) then ((tendrilbook_Same_int.f k1 t167 (t170.take ((t167.length : Int) : Int).toNat)).bind fun t177 => (tendrillaw21_MergeFirst.j1 k1 x5_1 t170 (!t177))) else (none)) else (none))) else (tendrillaw21_MergeFirst.j1 k1 x5_1 t170 true))) = some r := H
          have A17 := Aside0.mk A170
          clear A170
          replace H := Option.bind_eq_some_iff.mp H
          obtain ⟨t170, A180, H⟩ := H
          replace H : (if (t167.length : Int) = (mn (mx a1 0) (t170.length : Int)) then (if (t167.length : Int) > (t170.length : Int) then (tendrillaw21_MergeFirst.j1 k1 x5_1 t170 true) else (if 0 ≤ (t167.length : Int) then (if (t167.length : Int) ≤ (t170.length : Int) then ((tendrilbook_Same_int.f k1 t167 (t170.take ((t167.length : Int) : Int).toNat)).bind fun t177 => (tendrillaw21_MergeFirst.j1 k1 x5_1 t170 (!t177))) else (none)) else (none))) else (tendrillaw21_MergeFirst.j1 k1 x5_1 t170 true)) = some r := H
          have A18 := Aside0.mk A180
          clear A180
          have HC19 := Aside0.mk H
          clear H
          obtain ⟨Ao20, co20, eo20⟩ := Kd.S_slice HO_5.out
          subst eo20
          go_upto_region 10 with (first | ((with_reducible refine gate_callee (f := 11) rfl ?_); refine goesL_ (some 46) rfl rfl Try.func11 (by kernel_rfl) rfl #[.int .i64 a1, .slice Ao20 x5_1.length co20] rfl (by (try simp only [List.map_toArray, List.map_cons, List.map_nil]); first | done | rfl | (simp only [List.length_drop, List.length_take]; rfl)) ?_; (with_reducible refine (merge_First.calls a1 _ _ x5_1 t167 _ ?side1 ?side2 A17.out).mono ?_); (case side1 => repeat (first | exact (Kd.S_reads' HO_5.out).2.2 | (with_reducible refine Kd.C_alloc ?_ _) | (with_reducible refine Kd.C_drewN ?_ _) | (with_reducible refine Kd.C_drew ?_))); (case side2 => exact (Kd.S_reads' HO_5.out).2.1); rintro e w21 ⟨v168, rfl, ho0, hb⟩; refine ⟨_, rfl, ?_⟩; have n0_ := Aside0.mk (Kd.S_elder' (by (with_reducible repeat (first | apply Kd.S_alloc | apply Kd.S_drewN | apply Kd.S_drew)); exact HO_5.out) (Kd.R_base ho0) hb); have n1_ := Aside0.mk (Kd.R_lower ho0 (below_size (by repeat (first | (with_reducible first | exact HB.out | apply below_alloc | apply pw_below_drewN | apply below_drew1) | exact HB.out)))); have n2_ := Aside0.mk (below_step (by repeat (first | (with_reducible first | exact HB.out | apply below_alloc | apply pw_below_drewN | apply below_drew1) | exact HB.out)) hb); clear HO_5; clear HB; have HO_5 := n0_; have HO169 := n1_; have HB := n2_; clear n0_ n1_ n2_; (try clear hb); (try clear hb2); (try clear hk); (try clear hi); (try clear ho0)) | ((with_reducible refine gate_callee (f := 8) rfl ?_); refine goesL_ (some 48) rfl rfl Try.func8 (by kernel_rfl) rfl #[.slice Ao20 x5_1.length co20] rfl (by (try simp only [List.map_toArray, List.map_cons, List.map_nil]); first | done | rfl | (simp only [List.length_drop, List.length_take]; rfl)) ?_; (with_reducible refine (merge_Union.calls _ _ x5_1 t170 _ ?side1 ?side2 A18.out).mono ?_); (case side1 => repeat (first | exact (Kd.S_reads' HO_5.out).2.2 | (with_reducible refine Kd.C_alloc ?_ _) | (with_reducible refine Kd.C_drewN ?_ _) | (with_reducible refine Kd.C_drew ?_))); (case side2 => exact (Kd.S_reads' HO_5.out).2.1); rintro e w22 ⟨v171, rfl, ho0, hb⟩; refine ⟨_, rfl, ?_⟩; have n0_ := Aside0.mk (Kd.S_elder' (by (with_reducible repeat (first | apply Kd.S_alloc | apply Kd.S_drewN | apply Kd.S_drew)); exact HO_5.out) (Kd.R_base ho0) hb); have n1_ := Aside0.mk (Kd.R_elder' (by (with_reducible repeat (first | apply Kd.R_alloc | apply Kd.R_drewN | apply Kd.R_drew)); exact HO169.out) (Kd.R_base ho0) hb); have n2_ := Aside0.mk (Kd.R_lower (Kd.R_new' ho0 (Kd.R_lt (by (with_reducible repeat (first | apply Kd.R_alloc | apply Kd.R_drewN | apply Kd.R_drew)); exact HO169.out))) (below_size (by repeat (first | (with_reducible first | exact HB.out | apply below_alloc | apply pw_below_drewN | apply below_drew1) | exact HB.out)))); have n3_ := Aside0.mk (below_step (by repeat (first | (with_reducible first | exact HB.out | apply below_alloc | apply pw_below_drewN | apply below_drew1) | exact HB.out)) hb); clear HO_5; clear HO169; clear HB; have HO_5 := n0_; have HO169 := n1_; have HO172 := n2_; have HB := n3_; clear n0_ n1_ n2_ n3_; (try clear hb); (try clear hb2); (try clear hk); (try clear hi); (try clear ho0)))
          (try simp only [Act.put, List.setIfInBounds_toArray, List.set_cons_zero, List.set_cons_succ])
          go_cut [72] (fun v72 wc => ∃ (kq : Nat) (x72_18 : Bool), v72 = .bool x72_18 ∧ Aside0 (tendrillaw21_MergeFirst.j1 kq x5_1 t170 x72_18 = some r) ∧ Aside0 (kq ≤ k1) ∧ Aside0 (Kd.S (Kd.slice 3 (Kd.int .i64)) 22 wc w.heap.size (fun k_ => some k_ ≠ (v171 : Value).ownBlock) (.slice Ao20 x5_1.length co20) x5_1) ∧ Aside0 (Kd.R (Kd.int .i64) 3 wc w.heap.size (fun _ => True) v171 t170) ∧ Aside0 (Below w.heap.size w wc))
          case first =>
            have H := HC19.out
            clear HC19
            obtain ⟨ji23, hji23⟩ : ∃ j_ : Int, (mx a1 0) = j_ := ⟨_, rfl⟩
            replace H : (if (t167.length : Int) = (mn (ji23) (t170.length : Int)) then (if (t167.length : Int) > (t170.length : Int) then (tendrillaw21_MergeFirst.j1 k1 x5_1 t170 true) else (if 0 ≤ (t167.length : Int) then (if (t167.length : Int) ≤ (t170.length : Int) then ((tendrilbook_Same_int.f k1 t167 (t170.take ((t167.length : Int) : Int).toNat)).bind fun t177 => (tendrillaw21_MergeFirst.j1 k1 x5_1 t170 (!t177))) else (none)) else (none))) else (tendrillaw21_MergeFirst.j1 k1 x5_1 t170 true)) = some r := by first | (rw [hji23] at H; exact H) | (simp only [hji23] at H ⊢; exact H)
            have hji23_ : (if a1 < 0 then 0 else a1) = ji23 := hji23
            obtain ⟨ji24, hji24⟩ : ∃ j_ : Int, (mn (ji23) (t170.length : Int)) = j_ := ⟨_, rfl⟩
            replace H : (if (t167.length : Int) = (ji24) then (if (t167.length : Int) > (t170.length : Int) then (tendrillaw21_MergeFirst.j1 k1 x5_1 t170 true) else (if 0 ≤ (t167.length : Int) then (if (t167.length : Int) ≤ (t170.length : Int) then ((tendrilbook_Same_int.f k1 t167 (t170.take ((t167.length : Int) : Int).toNat)).bind fun t177 => (tendrillaw21_MergeFirst.j1 k1 x5_1 t170 (!t177))) else (none)) else (none))) else (tendrillaw21_MergeFirst.j1 k1 x5_1 t170 true)) = some r := by first | (rw [hji24] at H; exact H) | (simp only [hji24] at H ⊢; exact H)
            have hji24_ : (if (t170.length : Int) < (ji23) then (t170.length : Int) else (ji23)) = ji24 := hji24
            by_cases c25 : (t167.length : Int) = (ji24)
            · rw [if_pos c25] at H
              have c25b0 : ((t167.length : Int) == (ji24)) = true := beq_iff_eq.mpr c25
              have c25b1 : ((t167.length : Int) != (ji24)) = false := bne_eq_false_iff_eq.mpr c25
              clear c25
              (first | rw [c25b0] | (simp only [i64_w, i32_w]; rw [c25b0]) | skip)
              by_cases c26 : (t167.length : Int) > (t170.length : Int)
              · rw [if_pos c26] at H
                have c26b0 : decide ((t170.length : Int) < (t167.length : Int)) = true := decide_eq_true c26
                have c26b1 : decide (t170.length < t167.length) = true := decide_eq_true (Int.ofNat_lt.mp c26)
                clear c26
                have H' := Aside0.mk H
                clear H
                obtain ⟨Ao27, co27, eo27⟩ := Kd.R_slice HO169.out
                subst eo27
                obtain ⟨Ao28, co28, eo28⟩ := Kd.R_slice HO172.out
                subst eo28
                go_wp2
                go_meet
                case rel => exact ⟨_, (true), (by first | rfl | (simp; done) | (simp [*]; done)), H', ⟨by have := HK1.out; first | omega | exact Nat.le_refl _⟩, ⟨by (with_reducible repeat (first | apply Kd.S_alloc | apply Kd.S_drewN | apply Kd.S_drew)); exact Kd.S_mono HO_5.out (fun _ hk => hk.2)⟩, ⟨by (with_reducible repeat (first | apply Kd.R_alloc | apply Kd.R_drewN | apply Kd.R_drew)); exact Kd.R_mono HO172.out (fun _ hk => trivial)⟩, ⟨by repeat (first | (with_reducible first | exact HB.out | apply below_alloc | apply pw_below_drewN | apply below_drew1) | exact HB.out)⟩⟩
              · rw [if_neg c26] at H
                have c26b0 : decide ((t170.length : Int) < (t167.length : Int)) = false := decide_eq_false c26
                have c26b1 : decide (t170.length < t167.length) = false := decide_eq_false (fun h => c26 (Int.ofNat_lt.mpr h))
                clear c26
                by_cases c29 : 0 ≤ (t167.length : Int)
                · rw [if_pos c29] at H
                  have c29b0 := eq_true c29
                  have c29b1 : decide (0 ≤ (t167.length : Int)) = true := decide_eq_true c29
                  clear c29
                  by_cases c30 : (t167.length : Int) ≤ (t170.length : Int)
                  · rw [if_pos c30] at H
                    have c30b0 := eq_true c30
                    have c30b1 : decide ((t167.length : Int) ≤ (t170.length : Int)) = true := decide_eq_true c30
                    clear c30
                    obtain ⟨y173, hy173⟩ : ∃ y_ : List Int, y_ = (t170.take ((t167.length : Int) : Int).toNat) := ⟨_, rfl⟩
                    replace H : ((tendrilbook_Same_int.f k1 t167 y173).bind fun t177 => (tendrillaw21_MergeFirst.j1 k1 x5_1 t170 (!t177))) = some r := by first | (rw [hy173]; with_reducible exact H) | (have H2_ := (Option.bind_some _ _).symm.trans H; rw [hy173]; with_reducible exact H2_) | (have H2_ := (Option.bind_some _ _).symm.trans H; with_reducible exact H2_) | with_reducible exact H | (rw [hy173]; exact H) | exact H
                    have Ny173 := Aside0.mk hy173
                    clear hy173
                    replace H := Option.bind_eq_some_iff.mp H
                    obtain ⟨t177, A310, H⟩ := H
                    replace H : (tendrillaw21_MergeFirst.j1 k1 x5_1 t170 (!t177)) = some r := H
                    have A31 := Aside0.mk A310
                    clear A310
                    have H' := Aside0.mk H
                    clear H
                    obtain ⟨Ao32, co32, eo32⟩ := Kd.R_slice HO169.out
                    subst eo32
                    obtain ⟨Ao33, co33, eo33⟩ := Kd.R_slice HO172.out
                    subst eo33
                    have q34 : ((t167.length : Int) : Int) ≤ ((t170.length : Int) : Int) := of_decide_eq_true (by first | (with_reducible assumption) | assumption)
                    obtain ⟨i034, hi034, _, hsz34, _⟩ := info_parts info3
                    have hroom34 : t170.length ≤ co33 := (Kd.R_reads' HO172.out).2.1
                    have hC34 : Kd.C (Kd.int .i64) _ Ao33 t170.length t170 := (Kd.R_reads' HO172.out).2.2
                    have hcut34 := cut_to (P := Try.prog) 22 3 .i64 Try.underlying22 hi034 Ao33 t170.length co33 (t167.length : Int) (of_decide_eq_true (by first | (with_reducible assumption) | assumption)) q34 hroom34
                    have hr34 := Kd.C_take (m := ((t167.length : Int) : Int).toNat) hC34 (by omega)
                    have hy34 : y173.length = ((t167.length : Int) : Int).toNat := (by rw [Ny173.out, List.length_take]; omega)
                    rw [← Ny173.out] at hr34
                    rw [← hy34] at hcut34
                    have HR176 := Aside0.mk hr34
                    have HC176 := Aside0.mk (show y173.length ≤ co33 from by omega)
                    clear hr34 hC34 hroom34 hi034 hsz34
                    have KY34 := Aside0.mk hy34
                    clear hy34
                    have KL34 := Aside0.mk (show ((t167.length : Int) : Int).toNat ≤ t170.length from by omega)
                    replace q34 := eq_true q34
                    go_wp2_with (first | (go_at_call 12; (with_reducible refine (tendrilbook_Same_int.calls k1 _ _ t167 _ _ y173 t177 _ ?side1 ?side2 ?side3 ?side4 A31.out).mono ?_); (case side1 => repeat (first | exact (Kd.R_reads' HO169.out).2.2 | (with_reducible refine Kd.C_alloc ?_ _) | (with_reducible refine Kd.C_drewN ?_ _) | (with_reducible refine Kd.C_drew ?_))); (case side2 => exact (Kd.R_reads' HO169.out).2.1); (case side3 => repeat (first | exact (by repeat (first | (with_reducible exact HR176.out) | (with_reducible refine Kd.C_alloc ?_ _) | (with_reducible refine Kd.C_drewN ?_ _) | (with_reducible refine Kd.C_drew ?_) | exact HR176.out)) | (with_reducible refine Kd.C_alloc ?_ _) | (with_reducible refine Kd.C_drewN ?_ _) | (with_reducible refine Kd.C_drew ?_))); (case side4 => exact HC176.out); rintro e w' ⟨rfl, ⟨nd, rfl⟩⟩))
                    go_meet
                    case rel => exact ⟨_, (!t177), (by first | rfl | (simp; done) | (simp [*]; done)), H', ⟨by have := HK1.out; first | omega | exact Nat.le_refl _⟩, ⟨by (with_reducible repeat (first | apply Kd.S_alloc | apply Kd.S_drewN | apply Kd.S_drew)); exact Kd.S_mono HO_5.out (fun _ hk => hk.2)⟩, ⟨by (with_reducible repeat (first | apply Kd.R_alloc | apply Kd.R_drewN | apply Kd.R_drew)); exact Kd.R_mono HO172.out (fun _ hk => trivial)⟩, ⟨by repeat (first | (with_reducible first | exact HB.out | apply below_alloc | apply pw_below_drewN | apply below_drew1) | exact HB.out)⟩⟩
                  · rw [if_neg c30] at H
                    exact absurd H (by simp)
                · rw [if_neg c29] at H
                  exact absurd H (by simp)
            · rw [if_neg c25] at H
              have c25b0 : ((t167.length : Int) == (ji24)) = false := beq_eq_false_iff_ne.mpr c25
              have c25b1 : ((t167.length : Int) != (ji24)) = true := bne_iff_ne.mpr c25
              (first | rw [c25b0] | (simp only [i64_w, i32_w]; rw [c25b0]) | skip)
              have H' := Aside0.mk H
              clear H
              obtain ⟨Ao35, co35, eo35⟩ := Kd.R_slice HO169.out
              subst eo35
              obtain ⟨Ao36, co36, eo36⟩ := Kd.R_slice HO172.out
              subst eo36
              go_wp2
              go_meet
              case rel => exact ⟨_, (true), (by first | rfl | (simp; done) | (simp [*]; done)), H', ⟨by have := HK1.out; first | omega | exact Nat.le_refl _⟩, ⟨by (with_reducible repeat (first | apply Kd.S_alloc | apply Kd.S_drewN | apply Kd.S_drew)); exact Kd.S_mono HO_5.out (fun _ hk => hk.2)⟩, ⟨by (with_reducible repeat (first | apply Kd.R_alloc | apply Kd.R_drewN | apply Kd.R_drew)); exact Kd.R_mono HO172.out (fun _ hk => trivial)⟩, ⟨by repeat (first | (with_reducible first | exact HB.out | apply below_alloc | apply pw_below_drewN | apply below_drew1) | exact HB.out)⟩⟩
          case rest =>
            clear HC19
            try clear c1
            try clear p1
            try clear q1
            try clear hx1
            try clear c2
            try clear p2
            try clear c3
            try clear c3b0
            try clear c3b1
            try clear q3
            try clear c4
            try clear c4b0
            try clear c5
            try clear c5b0
            try clear c6
            try clear c6b0
            try clear p6
            try clear c8
            try clear c8b0
            try clear c8b1
            try clear c9
            try clear c9b0
            try clear c9b1
            try clear c11
            try clear c14
            try clear c15
            try clear p15
            try clear q15
            try clear hx15
            try clear c25
            try clear c25b0
            try clear c25b1
            try clear c26
            try clear c26b0
            try clear c26b1
            try clear c29
            try clear c29b0
            try clear c29b1
            try clear c30
            try clear c30b0
            try clear c30b1
            try clear q34
            try clear hx158_0
            try clear hx159_0
            try clear p158
            try clear p159
            try clear p2
            try clear q158
            try clear q159
            try clear q34
            obtain ⟨kq, x72_18, rfl, HA, HJ18, HO_5, HO_8, HB⟩ := hcut
            cases kq with
            | zero => exact absurd HA.out (by simp [tendrillaw21_MergeFirst.j1])
            | succ kj18 =>
              have H := HA.out
              clear HA
              simp only [tendrillaw21_MergeFirst.j1] at H
              by_cases c37 : x72_18 = true
              · subst c37
                have H1 : (some false) = some r := by rw [if_pos rfl] at H; exact H
                clear H
                have H := H1
                clear H1
                obtain rfl := Option.some.inj H
                go_wp2
                go_ret
                exact ⟨by first | rfl | (simp [errW_none, errW_some] <;> rfl) | (simp [*, errW_none, errW_some] <;> rfl), by repeat (first | (with_reducible first | exact HB.out | apply below_alloc | apply pw_below_drewN | apply below_drew1) | exact HB.out)⟩
              · replace c37 := Bool.eq_false_iff.mpr c37
                subst c37
                have H1 : (tendrillaw21_MergeFirst.l1 kj18 x5_1 t170 t170 (t170.length : Int) 0) = some r := by rw [if_neg (show ¬ (false = true) by decide)] at H; exact H
                clear H
                have H := H1
                clear H1
                have H' := Aside0.mk H
                clear H
                obtain ⟨Ao38, co38, eo38⟩ := Kd.R_slice HO_8.out
                subst eo38
                go_wp2
                go_loopg [75] kj18 (fun kq v75 w' => ∃ (x75_3 : Int), v75 = .int .i64 x75_3 ∧ Aside0 (tendrillaw21_MergeFirst.l1 kq x5_1 t170 t170 (t170.length : Int) x75_3 = some r) ∧ Aside0 (kq ≤ kj18) ∧ Aside0 (Kd.S (Kd.slice 3 (Kd.int .i64)) 22 w' w.heap.size (fun k_ => some k_ ≠ ((.slice Ao38 t170.length co38) : Value).ownBlock ∧ some k_ ≠ ((.slice Ao38 t170.length co38) : Value).ownBlock) (.slice Ao20 x5_1.length co20) x5_1) ∧ Aside0 (Kd.R (Kd.int .i64) 3 w' w.heap.size (fun _ => True) (.slice Ao38 t170.length co38) t170) ∧ Aside0 (Kd.R (Kd.int .i64) 3 w' w.heap.size (fun _ => True) (.slice Ao38 t170.length co38) t170) ∧ Aside0 (Below w.heap.size w w'))
                case atStart => exact ⟨(0), (by first | rfl | (simp; done) | (simp [*]; done)), H', ⟨Nat.le_refl _⟩, ⟨by (with_reducible repeat (first | apply Kd.S_alloc | apply Kd.S_drewN | apply Kd.S_drew)); exact Kd.S_mono HO_5.out (fun _ hk => ⟨hk, hk⟩)⟩, ⟨by (with_reducible repeat (first | apply Kd.R_alloc | apply Kd.R_drewN | apply Kd.R_drew)); exact HO_8.out⟩, ⟨by (with_reducible repeat (first | apply Kd.R_alloc | apply Kd.R_drewN | apply Kd.R_drew)); exact HO_8.out⟩, ⟨by repeat (first | (with_reducible first | exact HB.out | apply below_alloc | apply pw_below_drewN | apply below_drew1) | exact HB.out)⟩⟩
                case round =>
                  clear H'
                  try clear c1
                  try clear p1
                  try clear q1
                  try clear hx1
                  try clear c2
                  try clear p2
                  try clear c3
                  try clear c3b0
                  try clear c3b1
                  try clear q3
                  try clear c4
                  try clear c4b0
                  try clear c5
                  try clear c5b0
                  try clear c6
                  try clear c6b0
                  try clear p6
                  try clear c8
                  try clear c8b0
                  try clear c8b1
                  try clear c9
                  try clear c9b0
                  try clear c9b1
                  try clear c11
                  try clear c14
                  try clear c15
                  try clear p15
                  try clear q15
                  try clear hx15
                  try clear c25
                  try clear c25b0
                  try clear c25b1
                  try clear c26
                  try clear c26b0
                  try clear c26b1
                  try clear c29
                  try clear c29b0
                  try clear c29b1
                  try clear c30
                  try clear c30b0
                  try clear c30b1
                  try clear q34
                  try clear c37
                  try clear hx158_0
                  try clear hx159_0
                  try clear p1
                  try clear p15
                  try clear p158
                  try clear p159
                  try clear p2
                  try clear p6
                  try clear q1
                  try clear q15
                  try clear q158
                  try clear q159
                  try clear q3
                  try clear q34
                  obtain ⟨x75_3, rfl, HA, HK3, HO_5, HO_8, HO_73, HB⟩ := hrel
                  cases gk with
                  | zero => exact absurd HA.out (by simp [tendrillaw21_MergeFirst.l1])
                  | succ k3 =>
                    have H := HA.out
                    clear HA
                    simp only [tendrillaw21_MergeFirst.l1] at H
                    by_cases c39 : x75_3 < (t170.length : Int)
                    · rw [if_pos c39] at H
                      have c39b0 : decide (x75_3 < (t170.length : Int)) = true := decide_eq_true c39
                      clear c39
                      by_cases c40 : 0 ≤ x75_3
                      · rw [if_pos c40] at H
                        have c40b0 : decide (0 ≤ x75_3) = true := decide_eq_true c40
                        clear c40
                        by_cases c41 : x75_3 < (t170.length : Int)
                        · rw [if_pos c41] at H
                          have c41b0 : decide (x75_3 < (t170.length : Int)) = true := decide_eq_true c41
                          clear c41
                          have H' := Aside0.mk H
                          clear H
                          have p178 : 0 ≤ (x75_3 : Int) := of_decide_eq_true (by first | (with_reducible assumption) | assumption)
                          have q178 : x75_3 < (t170.length : Int) := of_decide_eq_true (by first | (with_reducible assumption) | assumption)
                          obtain ⟨ad178, e178, hx178_0⟩ := Kd.at_int (Kd.R_reads' HO_73.out).2.2 x75_3 p178 q178
                          cases e178
                          replace p178 := eq_true p178
                          replace q178 := eq_true q178
                          go_wp2
                          go_loopg [11, 82] k3 (fun kq v11 v82 w' => ∃ (x11_4 : Bool) (x82_4 : Int), v11 = .bool x11_4 ∧ v82 = .int .i64 x82_4 ∧ Aside0 (tendrillaw21_MergeFirst.l2 kq x5_1 t170 x75_3 (rd t170 x75_3) x11_4 t170 (t170.length : Int) x75_3 x5_1 (x5_1.length : Int) x82_4 = some r) ∧ Aside0 (kq ≤ k3) ∧ Aside0 (Kd.S (Kd.slice 3 (Kd.int .i64)) 22 w' w.heap.size (fun k_ => some k_ ≠ ((.slice (some ad178) t170.length co38) : Value).ownBlock ∧ some k_ ≠ ((.slice (some ad178) t170.length co38) : Value).ownBlock) (.slice Ao20 x5_1.length co20) x5_1) ∧ Aside0 (Kd.R (Kd.int .i64) 3 w' w.heap.size (fun _ => True) (.slice (some ad178) t170.length co38) t170) ∧ Aside0 (Kd.R (Kd.int .i64) 3 w' w.heap.size (fun _ => True) (.slice (some ad178) t170.length co38) t170) ∧ Aside0 (Kd.S (Kd.slice 3 (Kd.int .i64)) 22 w' w.heap.size (fun k_ => some k_ ≠ ((.slice (some ad178) t170.length co38) : Value).ownBlock ∧ some k_ ≠ ((.slice (some ad178) t170.length co38) : Value).ownBlock) (.slice Ao20 x5_1.length co20) x5_1) ∧ Aside0 (Below w.heap.size w w'))
                          case atStart => exact ⟨(false), (0), (by first | rfl | (simp; done) | (simp [*]; done)), (by first | rfl | (simp; done) | (simp [*]; done)), H', ⟨Nat.le_refl _⟩, ⟨by (with_reducible repeat (first | apply Kd.S_alloc | apply Kd.S_drewN | apply Kd.S_drew)); exact HO_5.out⟩, ⟨by (with_reducible repeat (first | apply Kd.R_alloc | apply Kd.R_drewN | apply Kd.R_drew)); exact HO_8.out⟩, ⟨by (with_reducible repeat (first | apply Kd.R_alloc | apply Kd.R_drewN | apply Kd.R_drew)); exact HO_73.out⟩, ⟨by (with_reducible repeat (first | apply Kd.S_alloc | apply Kd.S_drewN | apply Kd.S_drew)); exact HO_5.out⟩, ⟨by repeat (first | (with_reducible first | exact HB.out | apply below_alloc | apply pw_below_drewN | apply below_drew1) | exact HB.out)⟩⟩
                          case round =>
                            clear H'
                            try clear c1
                            try clear p1
                            try clear q1
                            try clear hx1
                            try clear c2
                            try clear p2
                            try clear c3
                            try clear c3b0
                            try clear c3b1
                            try clear q3
                            try clear c4
                            try clear c4b0
                            try clear c5
                            try clear c5b0
                            try clear c6
                            try clear c6b0
                            try clear p6
                            try clear c8
                            try clear c8b0
                            try clear c8b1
                            try clear c9
                            try clear c9b0
                            try clear c9b1
                            try clear c11
                            try clear c14
                            try clear c15
                            try clear p15
                            try clear q15
                            try clear hx15
                            try clear p17
                            try clear q17
                            try clear hx17
                            try clear c25
                            try clear c25b0
                            try clear c25b1
                            try clear c26
                            try clear c26b0
                            try clear c26b1
                            try clear c29
                            try clear c29b0
                            try clear c29b1
                            try clear c30
                            try clear c30b0
                            try clear c30b1
                            try clear q34
                            try clear c37
                            try clear c39
                            try clear c39b0
                            try clear c40
                            try clear c40b0
                            try clear c41
                            try clear c41b0
                            try clear hx158_0
                            try clear hx159_0
                            try clear hx178_0
                            try clear p1
                            try clear p15
                            try clear p158
                            try clear p159
                            try clear p178
                            try clear p2
                            try clear p6
                            try clear q1
                            try clear q15
                            try clear q158
                            try clear q159
                            try clear q178
                            try clear q3
                            try clear q34
                            obtain ⟨x11_4, x82_4, rfl, rfl, HA, HK4, HO_5, HO_8, HO_73, HO_80, HB⟩ := hrel
                            cases gk with
                            | zero => exact absurd HA.out (by simp [tendrillaw21_MergeFirst.l2])
                            | succ k4 =>
                              have H := HA.out
                              clear HA
                              simp only [tendrillaw21_MergeFirst.l2] at H
                              by_cases c42 : x82_4 < (x5_1.length : Int)
                              · rw [if_pos c42] at H
                                have c42b0 : decide (x82_4 < (x5_1.length : Int)) = true := decide_eq_true c42
                                clear c42
                                by_cases c43 : 0 ≤ x82_4
                                · rw [if_pos c43] at H
                                  have c43b0 : decide (0 ≤ x82_4) = true := decide_eq_true c43
                                  clear c43
                                  by_cases c44 : x82_4 < (x5_1.length : Int)
                                  · rw [if_pos c44] at H
                                    have c44b0 : decide (x82_4 < (x5_1.length : Int)) = true := decide_eq_true c44
                                    clear c44
                                    by_cases c45 : x11_4 = true
                                    · subst c45
                                      have H1 : (tendrillaw21_MergeFirst.l2 k4 x5_1 t170 x75_3 (rd t170 x75_3) true t170 (t170.length : Int) x75_3 x5_1 (x5_1.length : Int) (wrap64 (x82_4 + 1))) = some r := by rw [if_pos rfl] at H; exact H
                                      clear H
                                      have H := H1
                                      clear H1
                                      have H' := Aside0.mk H
                                      clear H
                                      have p179 : 0 ≤ (x82_4 : Int) := of_decide_eq_true (by first | (with_reducible assumption) | assumption)
                                      have q179 : x82_4 < (x5_1.length : Int) := of_decide_eq_true (by first | (with_reducible assumption) | assumption)
                                      obtain ⟨ad179, A179_0, c179_0, e179, hx179_0, hl179_0, hi179_0⟩ := at_L1 (Kd.S_reads' HO_80.out).2.2 x82_4 p179 q179
                                      cases e179
                                      obtain ⟨ce179, hce179, hMe179, hcc179⟩ := Kd.S_get HO_80.out [] x82_4 p179 (by first | exact q179 | exact of_decide_eq_true (by first | (with_reducible assumption) | assumption) | (have e_ := (Kd.S_reads' HO_80.out).1; omega))
                                      obtain ⟨ve179_0, rfl, ge179_0⟩ := hMe179
                                      have hv179_0 := hcc179 0 _ rfl
                                      rw [Nat.add_zero, show ((Kd.slice 3 (Kd.int .i64))).sz = 1 from rfl, Nat.mul_one] at hv179_0
                                      replace hv179_0 := Option.some.inj (hv179_0.symm.trans hx179_0)
                                      rw [hv179_0] at ge179_0
                                      have HL179_0 := Aside0.mk (show Kd.R (Kd.int .i64) 3 _ _ _ _ (rd_L1 x5_1 x82_4) from ge179_0)
                                      clear hv179_0 ge179_0
                                      clear hcc179 hce179
                                      have HR179_0 := Aside0.mk hi179_0
                                      have HC179_0 := Aside0.mk hl179_0
                                      clear hi179_0 hl179_0
                                      replace p179 := eq_true p179
                                      replace q179 := eq_true q179
                                      go_wp2
                                      go_roundg k4
                                      case measure => have := HK1.out; have := HJ18.out; have := HK3.out; have := HK4.out; omega
                                      case rel => exact ⟨(true), (wrap64 (x82_4 + 1)), (by first | rfl | (simp; done) | (simp [*]; done)), (by first | rfl | (simp; done) | (simp [*]; done)), H', ⟨by have := HK1.out; have := HJ18.out; have := HK3.out; have := HK4.out; omega⟩, ⟨by (with_reducible repeat (first | apply Kd.S_alloc | apply Kd.S_drewN | apply Kd.S_drew)); exact HO_5.out⟩, ⟨by (with_reducible repeat (first | apply Kd.R_alloc | apply Kd.R_drewN | apply Kd.R_drew)); exact HO_8.out⟩, ⟨by (with_reducible repeat (first | apply Kd.R_alloc | apply Kd.R_drewN | apply Kd.R_drew)); exact HO_73.out⟩, ⟨by (with_reducible repeat (first | apply Kd.S_alloc | apply Kd.S_drewN | apply Kd.S_drew)); exact HO_80.out⟩, ⟨by repeat (first | (with_reducible first | exact HB.out | apply below_alloc | apply pw_below_drewN | apply below_drew1) | exact HB.out)⟩⟩
                                    · replace c45 := Bool.eq_false_iff.mpr c45
                                      subst c45
                                      have H1 : ((tendrilref19_Has.f k4 (rd_L1 x5_1 x82_4) (rd t170 x75_3)).bind fun t180 => (tendrillaw21_MergeFirst.l2 k4 x5_1 t170 x75_3 (rd t170 x75_3) t180 t170 (t170.length : Int) x75_3 x5_1 (x5_1.length : Int) (wrap64 (x82_4 + 1)))) = some r := by rw [if_neg (show ¬ (false = true) by decide)] at H; exact H
                                      clear H
                                      have H := H1
                                      clear H1
                                      replace H := Option.bind_eq_some_iff.mp H
                                      obtain ⟨t180, A460, H⟩ := H
                                      replace H : (tendrillaw21_MergeFirst.l2 k4 x5_1 t170 x75_3 (rd t170 x75_3) t180 t170 (t170.length : Int) x75_3 x5_1 (x5_1.length : Int) (wrap64 (x82_4 + 1))) = some r := H
                                      have A46 := Aside0.mk A460
                                      clear A460
                                      have H' := Aside0.mk H
                                      clear H
                                      have p179 : 0 ≤ (x82_4 : Int) := of_decide_eq_true (by first | (with_reducible assumption) | assumption)
                                      have q179 : x82_4 < (x5_1.length : Int) := of_decide_eq_true (by first | (with_reducible assumption) | assumption)
                                      obtain ⟨ad179, A179_0, c179_0, e179, hx179_0, hl179_0, hi179_0⟩ := at_L1 (Kd.S_reads' HO_80.out).2.2 x82_4 p179 q179
                                      cases e179
                                      obtain ⟨ce179, hce179, hMe179, hcc179⟩ := Kd.S_get HO_80.out [] x82_4 p179 (by first | exact q179 | exact of_decide_eq_true (by first | (with_reducible assumption) | assumption) | (have e_ := (Kd.S_reads' HO_80.out).1; omega))
                                      obtain ⟨ve179_0, rfl, ge179_0⟩ := hMe179
                                      have hv179_0 := hcc179 0 _ rfl
                                      rw [Nat.add_zero, show ((Kd.slice 3 (Kd.int .i64))).sz = 1 from rfl, Nat.mul_one] at hv179_0
                                      replace hv179_0 := Option.some.inj (hv179_0.symm.trans hx179_0)
                                      rw [hv179_0] at ge179_0
                                      have HL179_0 := Aside0.mk (show Kd.R (Kd.int .i64) 3 _ _ _ _ (rd_L1 x5_1 x82_4) from ge179_0)
                                      clear hv179_0 ge179_0
                                      clear hcc179 hce179
                                      have HR179_0 := Aside0.mk hi179_0
                                      have HC179_0 := Aside0.mk hl179_0
                                      clear hi179_0 hl179_0
                                      replace p179 := eq_true p179
                                      replace q179 := eq_true q179
                                      go_wp2_with (first | (go_at_call 16; (with_reducible refine (tendrilref19_Has.calls k4 _ _ (rd_L1 x5_1 x82_4) (rd t170 x75_3) t180 _ ?side1 ?side2 A46.out).mono ?_); (case side1 => repeat (first | exact (by repeat (first | (with_reducible exact HR179_0.out) | (with_reducible refine Kd.C_alloc ?_ _) | (with_reducible refine Kd.C_drewN ?_ _) | (with_reducible refine Kd.C_drew ?_) | exact HR179_0.out)) | (with_reducible refine Kd.C_alloc ?_ _) | (with_reducible refine Kd.C_drewN ?_ _) | (with_reducible refine Kd.C_drew ?_))); (case side2 => exact HC179_0.out); rintro e w' ⟨rfl, ⟨nd, rfl⟩⟩))
                                      go_roundg k4
                                      case measure => have := HK1.out; have := HJ18.out; have := HK3.out; have := HK4.out; omega
                                      case rel => exact ⟨(t180), (wrap64 (x82_4 + 1)), (by first | rfl | (simp; done) | (simp [*]; done)), (by first | rfl | (simp; done) | (simp [*]; done)), H', ⟨by have := HK1.out; have := HJ18.out; have := HK3.out; have := HK4.out; omega⟩, ⟨by (with_reducible repeat (first | apply Kd.S_alloc | apply Kd.S_drewN | apply Kd.S_drew)); exact HO_5.out⟩, ⟨by (with_reducible repeat (first | apply Kd.R_alloc | apply Kd.R_drewN | apply Kd.R_drew)); exact HO_8.out⟩, ⟨by (with_reducible repeat (first | apply Kd.R_alloc | apply Kd.R_drewN | apply Kd.R_drew)); exact HO_73.out⟩, ⟨by (with_reducible repeat (first | apply Kd.S_alloc | apply Kd.S_drewN | apply Kd.S_drew)); exact HO_80.out⟩, ⟨by repeat (first | (with_reducible first | exact HB.out | apply below_alloc | apply pw_below_drewN | apply below_drew1) | exact HB.out)⟩⟩
                                  · rw [if_neg c44] at H
                                    exact absurd H (by simp)
                                · rw [if_neg c43] at H
                                  exact absurd H (by simp)
                              · rw [if_neg c42] at H
                                have c42b0 : decide (x82_4 < (x5_1.length : Int)) = false := decide_eq_false c42
                                clear c42
                                by_cases c47 : x11_4 = true
                                · subst c47
                                  have H1 : (if x75_3 > 0 then (if 0 ≤ (wrap64 (x75_3 - 1)) then (if (wrap64 (x75_3 - 1)) < (t170.length : Int) then (if (rd t170 x75_3) ≤ (rd t170 (wrap64 (x75_3 - 1))) then (some false) else (tendrillaw21_MergeFirst.l1 k4 x5_1 t170 t170 (t170.length : Int) (wrap64 (x75_3 + 1)))) else (none)) else (none)) else (tendrillaw21_MergeFirst.l1 k4 x5_1 t170 t170 (t170.length : Int) (wrap64 (x75_3 + 1)))) = some r := by rw [if_pos rfl] at H; exact H
                                  clear H
                                  have H := H1
                                  clear H1
                                  by_cases c48 : x75_3 > 0
                                  · rw [if_pos c48] at H
                                    have c48b0 : decide (0 < x75_3) = true := decide_eq_true c48
                                    clear c48
                                    obtain ⟨ji49, hji49⟩ : ∃ j_ : Int, (wrap64 (x75_3 - 1)) = j_ := ⟨_, rfl⟩
                                    replace H : (if 0 ≤ (ji49) then (if (ji49) < (t170.length : Int) then (if (rd t170 x75_3) ≤ (rd t170 (ji49)) then (some false) else (tendrillaw21_MergeFirst.l1 k4 x5_1 t170 t170 (t170.length : Int) (wrap64 (x75_3 + 1)))) else (none)) else (none)) = some r := by first | (rw [hji49] at H; exact H) | (simp only [hji49] at H ⊢; exact H)
                                    have hji49w : (IntKind.i64.wrap (x75_3 - 1)) = ji49 := (i64_w _).trans hji49
                                    by_cases c50 : 0 ≤ (ji49)
                                    · rw [if_pos c50] at H
                                      have c50b0 : decide (0 ≤ (ji49)) = true := decide_eq_true c50
                                      clear c50
                                      by_cases c51 : (ji49) < (t170.length : Int)
                                      · rw [if_pos c51] at H
                                        have c51b0 : decide ((ji49) < (t170.length : Int)) = true := decide_eq_true c51
                                        clear c51
                                        by_cases c52 : (rd t170 x75_3) ≤ (rd t170 (ji49))
                                        · rw [if_pos c52] at H
                                          have c52b0 : decide ((rd t170 x75_3) ≤ (rd t170 (ji49))) = true := decide_eq_true c52
                                          clear c52
                                          obtain rfl := Option.some.inj H
                                          have p181 : 0 ≤ ((ji49) : Int) := of_decide_eq_true (by first | (with_reducible assumption) | assumption)
                                          have q181 : (ji49) < (t170.length : Int) := of_decide_eq_true (by first | (with_reducible assumption) | assumption)
                                          obtain ⟨ad181, e181, hx181_0⟩ := Kd.at_int (Kd.R_reads' HO_8.out).2.2 (ji49) p181 q181
                                          obtain rfl : ad178 = ad181 := (by injection e181)
                                          replace p181 := eq_true p181
                                          replace q181 := eq_true q181
                                          go_wp2
                                          go_ret
                                          exact ⟨by first | rfl | (simp [errW_none, errW_some] <;> rfl) | (simp only [← hji49]; first | rfl | (simp [errW_none, errW_some] <;> rfl)) | (simp [*, errW_none, errW_some] <;> rfl), by repeat (first | (with_reducible first | exact HB.out | apply below_alloc | apply pw_below_drewN | apply below_drew1) | exact HB.out)⟩
                                        · rw [if_neg c52] at H
                                          have c52b0 : decide ((rd t170 x75_3) ≤ (rd t170 (ji49))) = false := decide_eq_false c52
                                          clear c52
                                          have H' := Aside0.mk H
                                          clear H
                                          have p181 : 0 ≤ ((ji49) : Int) := of_decide_eq_true (by first | (with_reducible assumption) | assumption)
                                          have q181 : (ji49) < (t170.length : Int) := of_decide_eq_true (by first | (with_reducible assumption) | assumption)
                                          obtain ⟨ad181, e181, hx181_0⟩ := Kd.at_int (Kd.R_reads' HO_8.out).2.2 (ji49) p181 q181
                                          obtain rfl : ad178 = ad181 := (by injection e181)
                                          replace p181 := eq_true p181
                                          replace q181 := eq_true q181
                                          go_wp2
                                          go_roundg k4
                                          case measure => have := HK1.out; have := HJ18.out; have := HK3.out; have := HK4.out; omega
                                          case rel => exact ⟨(wrap64 (x75_3 + 1)), (by first | rfl | (simp; done) | (simp [*]; done)), H', ⟨by have := HK1.out; have := HJ18.out; have := HK3.out; have := HK4.out; omega⟩, ⟨by (with_reducible repeat (first | apply Kd.S_alloc | apply Kd.S_drewN | apply Kd.S_drew)); exact HO_5.out⟩, ⟨by (with_reducible repeat (first | apply Kd.R_alloc | apply Kd.R_drewN | apply Kd.R_drew)); exact HO_8.out⟩, ⟨by (with_reducible repeat (first | apply Kd.R_alloc | apply Kd.R_drewN | apply Kd.R_drew)); exact HO_73.out⟩, ⟨by repeat (first | (with_reducible first | exact HB.out | apply below_alloc | apply pw_below_drewN | apply below_drew1) | exact HB.out)⟩⟩
                                      · rw [if_neg c51] at H
                                        exact absurd H (by simp)
                                    · rw [if_neg c50] at H
                                      exact absurd H (by simp)
                                  · rw [if_neg c48] at H
                                    have c48b0 : decide (0 < x75_3) = false := decide_eq_false c48
                                    clear c48
                                    have H' := Aside0.mk H
                                    clear H
                                    go_wp2
                                    go_roundg k4
                                    case measure => have := HK1.out; have := HJ18.out; have := HK3.out; have := HK4.out; omega
                                    case rel => exact ⟨(wrap64 (x75_3 + 1)), (by first | rfl | (simp; done) | (simp [*]; done)), H', ⟨by have := HK1.out; have := HJ18.out; have := HK3.out; have := HK4.out; omega⟩, ⟨by (with_reducible repeat (first | apply Kd.S_alloc | apply Kd.S_drewN | apply Kd.S_drew)); exact HO_5.out⟩, ⟨by (with_reducible repeat (first | apply Kd.R_alloc | apply Kd.R_drewN | apply Kd.R_drew)); exact HO_8.out⟩, ⟨by (with_reducible repeat (first | apply Kd.R_alloc | apply Kd.R_drewN | apply Kd.R_drew)); exact HO_73.out⟩, ⟨by repeat (first | (with_reducible first | exact HB.out | apply below_alloc | apply pw_below_drewN | apply below_drew1) | exact HB.out)⟩⟩
                                · replace c47 := Bool.eq_false_iff.mpr c47
                                  subst c47
                                  have H1 : (some false) = some r := by rw [if_neg (show ¬ (false = true) by decide)] at H; exact H
                                  clear H
                                  have H := H1
                                  clear H1
                                  obtain rfl := Option.some.inj H
                                  go_wp2
                                  go_ret
                                  exact ⟨by first | rfl | (simp [errW_none, errW_some] <;> rfl) | (simp [*, errW_none, errW_some] <;> rfl), by repeat (first | (with_reducible first | exact HB.out | apply below_alloc | apply pw_below_drewN | apply below_drew1) | exact HB.out)⟩
                        · rw [if_neg c41] at H
                          exact absurd H (by simp)
                      · rw [if_neg c40] at H
                        exact absurd H (by simp)
                    · rw [if_neg c39] at H
                      have c39b0 : decide (x75_3 < (t170.length : Int)) = false := decide_eq_false c39
                      clear c39
                      have H' := Aside0.mk H
                      clear H
                      go_wp2
                      go_loopg [111] k3 (fun kq v111 w' => ∃ (x111_4 : Int), v111 = .int .i64 x111_4 ∧ Aside0 (tendrillaw21_MergeFirst.l3 kq t170 x5_1 (x5_1.length : Int) x111_4 = some r) ∧ Aside0 (kq ≤ k3) ∧ Aside0 (Kd.R (Kd.int .i64) 3 w' w.heap.size (fun _ => True) (.slice Ao38 t170.length co38) t170) ∧ Aside0 (Kd.S (Kd.slice 3 (Kd.int .i64)) 22 w' w.heap.size (fun k_ => some k_ ≠ ((.slice Ao38 t170.length co38) : Value).ownBlock) (.slice Ao20 x5_1.length co20) x5_1) ∧ Aside0 (Below w.heap.size w w'))
                      case atStart => exact ⟨(0), (by first | rfl | (simp; done) | (simp [*]; done)), H', ⟨Nat.le_refl _⟩, ⟨by (with_reducible repeat (first | apply Kd.R_alloc | apply Kd.R_drewN | apply Kd.R_drew)); exact HO_8.out⟩, ⟨by (with_reducible repeat (first | apply Kd.S_alloc | apply Kd.S_drewN | apply Kd.S_drew)); exact Kd.S_mono HO_5.out (fun _ hk => hk.1)⟩, ⟨by repeat (first | (with_reducible first | exact HB.out | apply below_alloc | apply pw_below_drewN | apply below_drew1) | exact HB.out)⟩⟩
                      case round =>
                        clear H'
                        try clear c1
                        try clear p1
                        try clear q1
                        try clear hx1
                        try clear c2
                        try clear p2
                        try clear c3
                        try clear c3b0
                        try clear c3b1
                        try clear q3
                        try clear c4
                        try clear c4b0
                        try clear c5
                        try clear c5b0
                        try clear c6
                        try clear c6b0
                        try clear p6
                        try clear c8
                        try clear c8b0
                        try clear c8b1
                        try clear c9
                        try clear c9b0
                        try clear c9b1
                        try clear c11
                        try clear c14
                        try clear c15
                        try clear p15
                        try clear q15
                        try clear hx15
                        try clear c17
                        try clear p17
                        try clear q17
                        try clear hx17
                        try clear p18
                        try clear q18
                        try clear hx18
                        try clear c25
                        try clear c25b0
                        try clear c25b1
                        try clear c26
                        try clear c26b0
                        try clear c26b1
                        try clear c29
                        try clear c29b0
                        try clear c29b1
                        try clear c30
                        try clear c30b0
                        try clear c30b1
                        try clear q34
                        try clear c37
                        try clear c39
                        try clear c39b0
                        try clear c40
                        try clear c40b0
                        try clear c41
                        try clear c41b0
                        try clear c42
                        try clear c42b0
                        try clear c43
                        try clear c43b0
                        try clear c44
                        try clear c44b0
                        try clear c45
                        try clear c47
                        try clear c48
                        try clear c48b0
                        try clear c50
                        try clear c50b0
                        try clear c51
                        try clear c51b0
                        try clear c52
                        try clear c52b0
                        try clear hx158_0
                        try clear hx159_0
                        try clear hx178_0
                        try clear hx179_0
                        try clear hx181_0
                        try clear p1
                        try clear p15
                        try clear p158
                        try clear p159
                        try clear p17
                        try clear p178
                        try clear p179
                        try clear p181
                        try clear p2
                        try clear p6
                        try clear q1
                        try clear q15
                        try clear q158
                        try clear q159
                        try clear q17
                        try clear q178
                        try clear q179
                        try clear q181
                        try clear q3
                        try clear q34
                        obtain ⟨x111_4, rfl, HA, HK4, HO_8, HO_109, HB⟩ := hrel
                        cases gk with
                        | zero => exact absurd HA.out (by simp [tendrillaw21_MergeFirst.l3])
                        | succ k4 =>
                          have H := HA.out
                          clear HA
                          simp only [tendrillaw21_MergeFirst.l3] at H
                          by_cases c53 : x111_4 < (x5_1.length : Int)
                          · rw [if_pos c53] at H
                            have c53b0 : decide (x111_4 < (x5_1.length : Int)) = true := decide_eq_true c53
                            clear c53
                            by_cases c54 : 0 ≤ x111_4
                            · rw [if_pos c54] at H
                              have c54b0 : decide (0 ≤ x111_4) = true := decide_eq_true c54
                              clear c54
                              by_cases c55 : x111_4 < (x5_1.length : Int)
                              · rw [if_pos c55] at H
                                have c55b0 : decide (x111_4 < (x5_1.length : Int)) = true := decide_eq_true c55
                                clear c55
                                have H' := Aside0.mk H
                                clear H
                                have p183 : 0 ≤ (x111_4 : Int) := of_decide_eq_true (by first | (with_reducible assumption) | assumption)
                                have q183 : x111_4 < (x5_1.length : Int) := of_decide_eq_true (by first | (with_reducible assumption) | assumption)
                                obtain ⟨ad183, A183_0, c183_0, e183, hx183_0, hl183_0, hi183_0⟩ := at_L1 (Kd.S_reads' HO_109.out).2.2 x111_4 p183 q183
                                cases e183
                                obtain ⟨ce183, hce183, hMe183, hcc183⟩ := Kd.S_get HO_109.out [] x111_4 p183 (by first | exact q183 | exact of_decide_eq_true (by first | (with_reducible assumption) | assumption) | (have e_ := (Kd.S_reads' HO_109.out).1; omega))
                                obtain ⟨ve183_0, rfl, ge183_0⟩ := hMe183
                                have hv183_0 := hcc183 0 _ rfl
                                rw [Nat.add_zero, show ((Kd.slice 3 (Kd.int .i64))).sz = 1 from rfl, Nat.mul_one] at hv183_0
                                replace hv183_0 := Option.some.inj (hv183_0.symm.trans hx183_0)
                                rw [hv183_0] at ge183_0
                                have HL183_0 := Aside0.mk (show Kd.R (Kd.int .i64) 3 _ _ _ _ (rd_L1 x5_1 x111_4) from ge183_0)
                                clear hv183_0 ge183_0
                                clear hcc183 hce183
                                have HR183_0 := Aside0.mk hi183_0
                                have HC183_0 := Aside0.mk hl183_0
                                clear hi183_0 hl183_0
                                replace p183 := eq_true p183
                                replace q183 := eq_true q183
                                go_wp2
                                go_loopg [117] k4 (fun kq v117 w' => ∃ (x117_5 : Int), v117 = .int .i64 x117_5 ∧ Aside0 (tendrillaw21_MergeFirst.l4 kq t170 x5_1 (x5_1.length : Int) x111_4 (rd_L1 x5_1 x111_4) ((rd_L1 x5_1 x111_4).length : Int) x117_5 = some r) ∧ Aside0 (kq ≤ k4) ∧ Aside0 (Kd.R (Kd.int .i64) 3 w' w.heap.size (fun _ => True) (.slice Ao38 t170.length co38) t170) ∧ Aside0 (Kd.S (Kd.slice 3 (Kd.int .i64)) 22 w' w.heap.size (fun k_ => some k_ ≠ ((.slice Ao38 t170.length co38) : Value).ownBlock) (.slice (some ad183) x5_1.length co20) x5_1) ∧ Aside0 (Kd.C (Kd.int .i64) w' A183_0 (rd_L1 x5_1 x111_4).length (rd_L1 x5_1 x111_4)) ∧ Aside0 (Below w.heap.size w w'))
                                case atStart => exact ⟨(0), (by first | rfl | (simp; done) | (simp [*]; done)), H', ⟨Nat.le_refl _⟩, ⟨by (with_reducible repeat (first | apply Kd.R_alloc | apply Kd.R_drewN | apply Kd.R_drew)); exact HO_8.out⟩, ⟨by (with_reducible repeat (first | apply Kd.S_alloc | apply Kd.S_drewN | apply Kd.S_drew)); exact HO_109.out⟩, ⟨by repeat (first | (with_reducible exact HR183_0.out) | (with_reducible refine Kd.C_alloc ?_ _) | (with_reducible refine Kd.C_drewN ?_ _) | (with_reducible refine Kd.C_drew ?_) | exact HR183_0.out)⟩, ⟨by repeat (first | (with_reducible first | exact HB.out | apply below_alloc | apply pw_below_drewN | apply below_drew1) | exact HB.out)⟩⟩
                                case round =>
                                  clear H'
                                  try clear c1
                                  try clear p1
                                  try clear q1
                                  try clear hx1
                                  try clear c2
                                  try clear p2
                                  try clear c3
                                  try clear c3b0
                                  try clear c3b1
                                  try clear q3
                                  try clear c4
                                  try clear c4b0
                                  try clear c5
                                  try clear c5b0
                                  try clear c6
                                  try clear c6b0
                                  try clear p6
                                  try clear c8
                                  try clear c8b0
                                  try clear c8b1
                                  try clear c9
                                  try clear c9b0
                                  try clear c9b1
                                  try clear c11
                                  try clear c14
                                  try clear c15
                                  try clear p15
                                  try clear q15
                                  try clear hx15
                                  try clear c17
                                  try clear p17
                                  try clear q17
                                  try clear hx17
                                  try clear c18
                                  try clear p18
                                  try clear q18
                                  try clear hx18
                                  try clear c25
                                  try clear c25b0
                                  try clear c25b1
                                  try clear c26
                                  try clear c26b0
                                  try clear c26b1
                                  try clear c29
                                  try clear c29b0
                                  try clear c29b1
                                  try clear c30
                                  try clear c30b0
                                  try clear c30b1
                                  try clear q34
                                  try clear c37
                                  try clear c39
                                  try clear c39b0
                                  try clear c40
                                  try clear c40b0
                                  try clear c41
                                  try clear c41b0
                                  try clear c42
                                  try clear c42b0
                                  try clear c43
                                  try clear c43b0
                                  try clear c44
                                  try clear c44b0
                                  try clear c45
                                  try clear c47
                                  try clear c48
                                  try clear c48b0
                                  try clear c50
                                  try clear c50b0
                                  try clear c51
                                  try clear c51b0
                                  try clear c52
                                  try clear c52b0
                                  try clear c53
                                  try clear c53b0
                                  try clear c54
                                  try clear c54b0
                                  try clear c55
                                  try clear c55b0
                                  try clear hx158_0
                                  try clear hx159_0
                                  try clear hx178_0
                                  try clear hx179_0
                                  try clear hx181_0
                                  try clear hx183_0
                                  try clear p1
                                  try clear p15
                                  try clear p158
                                  try clear p159
                                  try clear p17
                                  try clear p178
                                  try clear p179
                                  try clear p18
                                  try clear p181
                                  try clear p183
                                  try clear p2
                                  try clear p6
                                  try clear q1
                                  try clear q15
                                  try clear q158
                                  try clear q159
                                  try clear q17
                                  try clear q178
                                  try clear q179
                                  try clear q18
                                  try clear q181
                                  try clear q183
                                  try clear q3
                                  try clear q34
                                  obtain ⟨x117_5, rfl, HA, HK5, HO_8, HO_109, HR183_0, HB⟩ := hrel
                                  cases gk with
                                  | zero => exact absurd HA.out (by simp [tendrillaw21_MergeFirst.l4])
                                  | succ k5 =>
                                    have H := HA.out
                                    clear HA
                                    simp only [tendrillaw21_MergeFirst.l4] at H
                                    by_cases c56 : x117_5 < ((rd_L1 x5_1 x111_4).length : Int)
                                    · rw [if_pos c56] at H
                                      have c56b0 : decide (x117_5 < ((rd_L1 x5_1 x111_4).length : Int)) = true := decide_eq_true c56
                                      clear c56
                                      by_cases c57 : 0 ≤ x117_5
                                      · rw [if_pos c57] at H
                                        have c57b0 : decide (0 ≤ x117_5) = true := decide_eq_true c57
                                        clear c57
                                        by_cases c58 : x117_5 < ((rd_L1 x5_1 x111_4).length : Int)
                                        · rw [if_pos c58] at H
                                          have c58b0 : decide (x117_5 < ((rd_L1 x5_1 x111_4).length : Int)) = true := decide_eq_true c58
                                          clear c58
                                          replace H := Option.bind_eq_some_iff.mp H
                                          obtain ⟨t185, A590, H⟩ := H
                                          replace H : (if t185 = true then (tendrillaw21_MergeFirst.l4 k5 t170 x5_1 (x5_1.length : Int) x111_4 (rd_L1 x5_1 x111_4) ((rd_L1 x5_1 x111_4).length : Int) (wrap64 (x117_5 + 1))) else (some false)) = some r := H
                                          have A59 := Aside0.mk A590
                                          clear A590
                                          by_cases c60 : t185 = true
                                          · subst c60
                                            have H1 : (tendrillaw21_MergeFirst.l4 k5 t170 x5_1 (x5_1.length : Int) x111_4 (rd_L1 x5_1 x111_4) ((rd_L1 x5_1 x111_4).length : Int) (wrap64 (x117_5 + 1))) = some r := by rw [if_pos rfl] at H; exact H
                                            clear H
                                            have H := H1
                                            clear H1
                                            have H' := Aside0.mk H
                                            clear H
                                            have p184 : 0 ≤ (x117_5 : Int) := of_decide_eq_true (by first | (with_reducible assumption) | assumption)
                                            have q184 : x117_5 < ((rd_L1 x5_1 x111_4).length : Int) := of_decide_eq_true (by first | (with_reducible assumption) | assumption)
                                            obtain ⟨ad184, e184, hx184_0⟩ := Kd.at_int HR183_0.out x117_5 p184 q184
                                            cases e184
                                            try replace hx184_0 := (HB.out.cell (World.block_lt_of_cell? w _ hx184_0)).trans hx184_0
                                            replace p184 := eq_true p184
                                            replace q184 := eq_true q184
                                            go_wp2_with (first | ((with_reducible refine gate_callee (f := 16) rfl ?_); refine goesL_ (some 123) rfl rfl Try.func16 (by kernel_rfl) rfl #[.slice Ao38 t170.length co38, .int .i64 (rd (rd_L1 x5_1 x111_4) x117_5)] rfl (by (try simp only [List.map_toArray, List.map_cons, List.map_nil]); first | done | rfl | (simp only [List.length_drop, List.length_take]; rfl)) ?_; (with_reducible refine (tendrilref19_Has.calls k5 _ _ t170 (rd (rd_L1 x5_1 x111_4) x117_5) true _ ?side1 ?side2 A59.out).mono ?_); (case side1 => repeat (first | exact (Kd.R_reads' HO_8.out).2.2 | (with_reducible refine Kd.C_alloc ?_ _) | (with_reducible refine Kd.C_drewN ?_ _) | (with_reducible refine Kd.C_drew ?_))); (case side2 => exact (Kd.R_reads' HO_8.out).2.1); rintro e w' ⟨rfl, ⟨nd, rfl⟩⟩; refine ⟨_, rfl, ?_⟩))
                                            go_roundg k5
                                            case measure => have := HK1.out; have := HJ18.out; have := HK3.out; have := HK4.out; have := HK5.out; omega
                                            case rel => exact ⟨(wrap64 (x117_5 + 1)), (by first | rfl | (simp; done) | (simp [*]; done)), H', ⟨by have := HK1.out; have := HJ18.out; have := HK3.out; have := HK4.out; have := HK5.out; omega⟩, ⟨by (with_reducible repeat (first | apply Kd.R_alloc | apply Kd.R_drewN | apply Kd.R_drew)); exact HO_8.out⟩, ⟨by (with_reducible repeat (first | apply Kd.S_alloc | apply Kd.S_drewN | apply Kd.S_drew)); exact HO_109.out⟩, ⟨by repeat (first | (with_reducible exact HR183_0.out) | (with_reducible refine Kd.C_alloc ?_ _) | (with_reducible refine Kd.C_drewN ?_ _) | (with_reducible refine Kd.C_drew ?_) | exact HR183_0.out)⟩, ⟨by repeat (first | (with_reducible first | exact HB.out | apply below_alloc | apply pw_below_drewN | apply below_drew1) | exact HB.out)⟩⟩
                                          · replace c60 := Bool.eq_false_iff.mpr c60
                                            subst c60
                                            have H1 : (some false) = some r := by rw [if_neg (show ¬ (false = true) by decide)] at H; exact H
                                            clear H
                                            have H := H1
                                            clear H1
                                            obtain rfl := Option.some.inj H
                                            have p184 : 0 ≤ (x117_5 : Int) := of_decide_eq_true (by first | (with_reducible assumption) | assumption)
                                            have q184 : x117_5 < ((rd_L1 x5_1 x111_4).length : Int) := of_decide_eq_true (by first | (with_reducible assumption) | assumption)
                                            obtain ⟨ad184, e184, hx184_0⟩ := Kd.at_int HR183_0.out x117_5 p184 q184
                                            cases e184
                                            try replace hx184_0 := (HB.out.cell (World.block_lt_of_cell? w _ hx184_0)).trans hx184_0
                                            replace p184 := eq_true p184
                                            replace q184 := eq_true q184
                                            go_wp2_with (first | ((with_reducible refine gate_callee (f := 16) rfl ?_); refine goesL_ (some 123) rfl rfl Try.func16 (by kernel_rfl) rfl #[.slice Ao38 t170.length co38, .int .i64 (rd (rd_L1 x5_1 x111_4) x117_5)] rfl (by (try simp only [List.map_toArray, List.map_cons, List.map_nil]); first | done | rfl | (simp only [List.length_drop, List.length_take]; rfl)) ?_; (with_reducible refine (tendrilref19_Has.calls k5 _ _ t170 (rd (rd_L1 x5_1 x111_4) x117_5) false _ ?side1 ?side2 A59.out).mono ?_); (case side1 => repeat (first | exact (Kd.R_reads' HO_8.out).2.2 | (with_reducible refine Kd.C_alloc ?_ _) | (with_reducible refine Kd.C_drewN ?_ _) | (with_reducible refine Kd.C_drew ?_))); (case side2 => exact (Kd.R_reads' HO_8.out).2.1); rintro e w' ⟨rfl, ⟨nd, rfl⟩⟩; refine ⟨_, rfl, ?_⟩))
                                            go_ret
                                            exact ⟨by first | rfl | (simp [errW_none, errW_some] <;> rfl) | (simp [*, errW_none, errW_some] <;> rfl), by repeat (first | (with_reducible first | exact HB.out | apply below_alloc | apply pw_below_drewN | apply below_drew1) | exact HB.out)⟩
                                        · rw [if_neg c58] at H
                                          exact absurd H (by simp)
                                      · rw [if_neg c57] at H
                                        exact absurd H (by simp)
                                    · rw [if_neg c56] at H
                                      have c56b0 : decide (x117_5 < ((rd_L1 x5_1 x111_4).length : Int)) = false := decide_eq_false c56
                                      clear c56
                                      have H' := Aside0.mk H
                                      clear H
                                      go_wp2
                                      go_roundg k5
                                      case measure => have := HK1.out; have := HJ18.out; have := HK3.out; have := HK4.out; have := HK5.out; omega
                                      case rel => exact ⟨(wrap64 (x111_4 + 1)), (by first | rfl | (simp; done) | (simp [*]; done)), H', ⟨by have := HK1.out; have := HJ18.out; have := HK3.out; have := HK4.out; have := HK5.out; omega⟩, ⟨by (with_reducible repeat (first | apply Kd.R_alloc | apply Kd.R_drewN | apply Kd.R_drew)); exact HO_8.out⟩, ⟨by (with_reducible repeat (first | apply Kd.S_alloc | apply Kd.S_drewN | apply Kd.S_drew)); exact HO_109.out⟩, ⟨by repeat (first | (with_reducible first | exact HB.out | apply below_alloc | apply pw_below_drewN | apply below_drew1) | exact HB.out)⟩⟩
                              · rw [if_neg c55] at H
                                exact absurd H (by simp)
                            · rw [if_neg c54] at H
                              exact absurd H (by simp)
                          · rw [if_neg c53] at H
                            have c53b0 : decide (x111_4 < (x5_1.length : Int)) = false := decide_eq_false c53
                            clear c53
                            replace H := Option.bind_eq_some_iff.mp H
                            obtain ⟨t182, A610, H⟩ := H
                            replace H : (some t182) = some r := H
                            have A61 := Aside0.mk A610
                            clear A610
                            obtain rfl := Option.some.inj H
                            go_wp2_with (first | ((with_reducible refine gate_callee (f := 3) rfl ?_); refine goesL_ (some 127) rfl rfl Try.func3 (by kernel_rfl) rfl #[] rfl (by (try simp only [List.map_toArray, List.map_cons, List.map_nil]); first | done | rfl | (simp only [List.length_drop, List.length_take]; rfl)) ?_; (with_reducible refine (tendrillaw21_MergeRuns.calls  t182 _ A61.out).mono ?_); rintro e w62 ⟨rfl, hb⟩; refine ⟨_, rfl, ?_⟩; have n0_ := Aside0.mk (Kd.R_below (by (with_reducible repeat (first | apply Kd.R_alloc | apply Kd.R_drewN | apply Kd.R_drew)); exact HO_8.out) hb); have n1_ := Aside0.mk (Kd.S_below (by (with_reducible repeat (first | apply Kd.S_alloc | apply Kd.S_drewN | apply Kd.S_drew)); exact HO_109.out) hb); have n2_ := Aside0.mk (below_step (by repeat (first | (with_reducible first | exact HB.out | apply below_alloc | apply pw_below_drewN | apply below_drew1) | exact HB.out)) hb); clear HO_8; clear HO_109; clear HB; have HO_8 := n0_; have HO_109 := n1_; have HB := n2_; clear n0_ n1_ n2_; (try clear hb); (try clear hb2); (try clear hk); (try clear hi)))
                            go_ret
                            exact ⟨by first | rfl | (simp [errW_none, errW_some] <;> rfl) | (simp [*, errW_none, errW_some] <;> rfl), by repeat (first | (with_reducible first | exact HB.out | apply below_alloc | apply pw_below_drewN | apply below_drew1) | exact HB.out)⟩

end Go.Proofs.Ytckpgbkbbdifmaa.PMergeFirst
