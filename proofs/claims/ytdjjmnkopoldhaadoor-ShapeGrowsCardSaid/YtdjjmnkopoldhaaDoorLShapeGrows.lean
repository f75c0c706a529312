/- The walk of ShapeGrows: printed, over given contracts; no further condition. -/
import Derived.Test.YtdjjmnkopoldhaaDoorPBasex2
import Derived.Test.YtdjjmnkopoldhaaDoorPBasex3
import Derived.Test.YtdjjmnkopoldhaaDoorPBasex4
import Derived.Test.YtdjjmnkopoldhaaDoorGiv2
namespace Go.Proofs.YtdjjmnkopoldhaaDoor.PLaw
open Go.Proofs.YtdjjmnkopoldhaaDoor.PBase Go.RowKit Go.Proofs.YtdjjmnkopoldhaaDoorW.PrintWords Go.Proofs.YtdjjmnkopoldhaaDoorW.PrintLast Go.Proofs.YtdjjmnkopoldhaaDoorW.PrintMore
attribute [local go_sem] max2_int min2_int max_two min_two max_three min_three max_four min_four   -- for this text's walks alone
attribute [local go_sem high] eqA23
attribute [local go_sem high] geq_str8 leq_str8
set_option linter.unusedVariables false
set_option linter.unusedSimpArgs false
mutual
def tendrillaw8_ShapeGrows.l0 : Nat → List (S23) → List Bool → List (S23) → Int → Int → Option (Bool)
 | 0, _, _, _, _, _ => none
 | k + 1, x0, x1, x5, x6, x7 => if x7 < (x0.length : Int) then (tendrillaw8_ShapeGrows.j1 k x0 x1 x5 x6 x7 (decide (x7 < 50))) else (tendrillaw8_ShapeGrows.j1 k x0 x1 x5 x6 x7 false)
def tendrillaw8_ShapeGrows.j1 : Nat → List (S23) → List Bool → List (S23) → Int → Int → Bool → Option (Bool)
 | 0, _, _, _, _, _, _ => none
 | k + 1, x0, x1, x5, x6, x7, x25 => if x25 = true then (if 0 ≤ x7 then (if x7 < (x0.length : Int) then ((tendrilref1_RightTerm.f k ((rd_T23 x0 x7).f0)).bind fun t159 => (if t159 = true then (if ((rd_T23 x0 x7).f1) < 0 then (tendrillaw8_ShapeGrows.j2 k x0 x1 x5 x6 x7 true) else (tendrillaw8_ShapeGrows.j2 k x0 x1 x5 x6 x7 (decide (((rd_T23 x0 x7).f1) > 1099511627776)))) else (tendrillaw8_ShapeGrows.j2 k x0 x1 x5 x6 x7 true))) else (none)) else (none)) else ((tendrillaw8_ShapeRuns.f).bind fun t157 => (some t157))
def tendrillaw8_ShapeGrows.j2 : Nat → List (S23) → List Bool → List (S23) → Int → Int → Bool → Option (Bool)
 | 0, _, _, _, _, _, _ => none
 | k + 1, x0, x1, x5, x6, x7, x50 => if x50 = true then (tendrillaw8_ShapeGrows.l0 k x0 x1 x5 x6 (wrap64 (x7 + 1))) else (tendrillaw8_ShapeGrows.l1 k x0 x1 x5 x6 x7 (-1) (x5.length : Int) 0)
def tendrillaw8_ShapeGrows.l1 : Nat → List (S23) → List Bool → List (S23) → Int → Int → Int → Int → Int → Option (Bool)
 | 0, _, _, _, _, _, _, _, _ => none
 | k + 1, x0, x1, x5, x6, x7, x8, x52, x53 => if x53 < x52 then (if 0 ≤ x53 then (if x53 < (x5.length : Int) then (if 0 ≤ x7 then (if x7 < (x0.length : Int) then (if ((rd_T23 x5 x53).f0).toList = ((rd_T23 x0 x7).f0).toList then (tendrillaw8_ShapeGrows.l1 k x0 x1 x5 x6 x7 x53 x52 (wrap64 (x53 + 1))) else (tendrillaw8_ShapeGrows.l1 k x0 x1 x5 x6 x7 x8 x52 (wrap64 (x53 + 1)))) else (none)) else (none)) else (none)) else (none)) else (if x7 < (x1.length : Int) then (if 0 ≤ x7 then (tendrillaw8_ShapeGrows.j4 k x0 x1 x5 x6 x7 x8 x5 (rdOf false x1 x7)) else (none)) else (tendrillaw8_ShapeGrows.j4 k x0 x1 x5 x6 x7 x8 x5 false))
def tendrillaw8_ShapeGrows.j4 : Nat → List (S23) → List Bool → List (S23) → Int → Int → Int → List (S23) → Bool → Option (Bool)
 | 0, _, _, _, _, _, _, _, _ => none
 | k + 1, x0, x1, x5, x6, x7, x8, x10, x79 => if x79 = true then (if 0 ≤ x7 then (if x7 < (x0.length : Int) then ((shape_Drop.f x5 ((rd_T23 x0 x7).f0)).bind fun bt166 => (if (bt166.2.2 != (decide (x8 ≥ 0))) = true then (tendrillaw8_ShapeGrows.j5 k x0 x1 x6 x7 bt166.1 bt166.2.2 true) else (if bt166.2.2 = true then (if 0 ≤ x8 then (if x8 < (x10.length : Int) then (if bt166.2.1 = ((rd_T23 x10 x8).f1) then (tendrillaw8_ShapeGrows.j5 k x0 x1 x6 x7 bt166.1 bt166.2.2 false) else (tendrillaw8_ShapeGrows.j5 k x0 x1 x6 x7 bt166.1 bt166.2.2 true)) else (none)) else (none)) else (tendrillaw8_ShapeGrows.j5 k x0 x1 x6 x7 bt166.1 bt166.2.2 (bt166.2.1 != 0))))) else (none)) else (none)) else (if 0 ≤ x7 then (if x7 < (x0.length : Int) then ((shape_Put.f x5 ((rd_T23 x0 x7).f0) ((rd_T23 x0 x7).f1)).bind fun bt173 => (if (bt173.2.2 != (decide (x8 ≥ 0))) = true then (tendrillaw8_ShapeGrows.j6 k x0 x1 x6 x7 bt173.1 bt173.2.2 true) else (if bt173.2.2 = true then (if 0 ≤ x8 then (if x8 < (x10.length : Int) then (if bt173.2.1 = ((rd_T23 x10 x8).f1) then (tendrillaw8_ShapeGrows.j6 k x0 x1 x6 x7 bt173.1 bt173.2.2 false) else (tendrillaw8_ShapeGrows.j6 k x0 x1 x6 x7 bt173.1 bt173.2.2 true)) else (none)) else (none)) else (tendrillaw8_ShapeGrows.j6 k x0 x1 x6 x7 bt173.1 bt173.2.2 (bt173.2.1 != 0))))) else (none)) else (none))
def tendrillaw8_ShapeGrows.j7 : Nat → List (S23) → List Bool → List (S23) → Int → Int → Option (Bool)
 | 0, _, _, _, _, _ => none
 | k + 1, x0, x1, x5, x6, x7 => if (x5.length : Int) = x6 then ((shape_Right.f k x5).bind fun t187 => (if t187 = true then ((tendrillaw8_right.f k x5).bind fun t188 => (if t188 = true then (tendrillaw8_ShapeGrows.l0 k x0 x1 x5 x6 (wrap64 (x7 + 1))) else (some false))) else (some false))) else (some false)
def tendrillaw8_ShapeGrows.j5 : Nat → List (S23) → List Bool → Int → Int → List (S23) → Bool → Bool → Option (Bool)
 | 0, _, _, _, _, _, _, _ => none
 | k + 1, x0, x1, x6, x7, x11, x13, x114 => if x114 = true then (some false) else (if x13 = true then (tendrillaw8_ShapeGrows.j7 k x0 x1 x11 (wrap64 (x6 - 1)) x7) else (tendrillaw8_ShapeGrows.j7 k x0 x1 x11 x6 x7))
def tendrillaw8_ShapeGrows.j6 : Nat → List (S23) → List Bool → Int → Int → List (S23) → Bool → Bool → Option (Bool)
 | 0, _, _, _, _, _, _, _ => none
 | k + 1, x0, x1, x6, x7, x14, x16, x152 => if x152 = true then (some false) else (if x16 = true then (if 0 ≤ x7 then (if x7 < (x0.length : Int) then ((shape_Seek.f k x14 ((rd_T23 x0 x7).f0)).bind fun t180 => (if t180 < 0 then (some false) else (if t180 ≥ (x14.length : Int) then (some false) else (if 0 ≤ t180 then (if t180 < (x14.length : Int) then (if (!((((rd_T23 x14 t180).f0).toList) == (((rd_T23 x0 x7).f0).toList)) || (!(((rd_T23 x14 t180).f1) == ((rd_T23 x0 x7).f1)))) = true then (some false) else (tendrillaw8_ShapeGrows.j7 k x0 x1 x14 x6 x7)) else (none)) else (none))))) else (none)) else (none)) else (if 0 ≤ x7 then (if x7 < (x0.length : Int) then ((shape_Seek.f k x14 ((rd_T23 x0 x7).f0)).bind fun t184 => (if t184 < 0 then (some false) else (if t184 ≥ (x14.length : Int) then (some false) else (if 0 ≤ t184 then (if t184 < (x14.length : Int) then (if (!((((rd_T23 x14 t184).f0).toList) == (((rd_T23 x0 x7).f0).toList)) || (!(((rd_T23 x14 t184).f1) == ((rd_T23 x0 x7).f1)))) = true then (some false) else (tendrillaw8_ShapeGrows.j7 k x0 x1 x14 (wrap64 (x6 + 1)) x7)) else (none)) else (none))))) else (none)) else (none)))
end
def tendrillaw8_ShapeGrows.f (k : Nat) (l0 : List (S23)) (l1 : List Bool) : Option (Bool) := tendrillaw8_ShapeGrows.l0 k l0 l1 ([] : List (S23)) 0 0
set_option maxHeartbeats 8000000 in
set_option maxRecDepth 100000 in
theorem tendrillaw8_ShapeGrows.calls (k : Nat) (A0 : Option Addr) (c0 : Nat) (l0 : List (S23)) (A1 : Option Addr) (c1 : Nat) (l1 : List Bool) (r : Bool) (w : World) (hr0 : Kd.C k23 w A0 l0.length l0) (hc0 : l0.length ≤ c0) (hr1 : Kd.C Kd.bool w A1 l1.length l1) (hc1 : l1.length ≤ c1) (h : tendrillaw8_ShapeGrows.f k l0 l1 = some r) :
  Calls Tryd.prog 7 #[.slice A0 l0.length c0, .slice A1 l1.length c1] w fun e w' => e = .returned (.bool r) ∧ Below w.heap.size w w' := by
 have hu23 := Tryd.underlying23
 have HR0 := Aside0.mk hr0
 have HC0 := Aside0.mk hc0
 clear hr0 hc0
 have HR1 := Aside0.mk hr1
 have HC1 := Aside0.mk hc1
 clear hr1 hc1
 have HB := Aside0.mk (Below.refl w.heap.size w)
 have H : (tendrillaw8_ShapeGrows.l0 k l0 l1 ([] : List (S23)) 0 0) = some r := h
 clear h
 have H' := Aside0.mk H
 clear H
 go_enter Tryd.func7, Tryd.ntmps7
 go_wp2
 repeat (go_quiet (fail); try go_wp2)
 go_loopg [5, 6, 7] k (fun kq v5 v6 v7 w' => ∃ (x5_1 : List (S23)) (x6_1 : Int) (x7_1 : Int), v6 = .int .i64 x6_1 ∧ v7 = .int .i64 x7_1 ∧ Aside0 (tendrillaw8_ShapeGrows.l0 kq l0 l1 x5_1 x6_1 x7_1 = some r) ∧ Aside0 (kq ≤ k) ∧ Aside0 (Kd.R k23 23 w' w.heap.size (fun _ => True) v5 x5_1) ∧ Aside0 (Below w.heap.size w w'))
 case atStart => exact ⟨(([] : List (S23))), (0), (0), (by first | rfl | (simp; done) | (simp [*]; done)), (by first | rfl | (simp; done) | (simp [*]; done)), H', ⟨Nat.le_refl _⟩, ⟨by first | exact Kd.R_nil _ _ _ _ _ | exact Kd.N_nil _ _ _ _ _ | exact Kd.V_nil _ _ _ _ _ | exact Kd.Q_nil _ _ _ _ _ | exact Kd.S_nil _ _ _ _ _⟩, ⟨by repeat (first | (with_reducible first | exact HB.out | apply below_alloc | apply pw_below_drewN | apply below_drew1) | exact HB.out)⟩⟩
 case round =>
  clear H'
  try clear c1
  try clear p2
  obtain ⟨x5_1, x6_1, x7_1, rfl, rfl, HA, HK1, HO_5, HB⟩ := hrel
  cases gk with
  | zero => exact absurd HA.out (by simp [tendrillaw8_ShapeGrows.l0])
  | succ k1 =>
   have H := HA.out
   clear HA
   simp only [tendrillaw8_ShapeGrows.l0] at H
   have HC3 := Aside0.mk H
   clear H
   go_upto_region 4 with (fail)
   repeat (go_quiet (fail); go_upto_region 4 with (fail))
   go_cut [25] (fun v25 wc => ∃ (kq : Nat) (x25_2 : Bool), v25 = .bool x25_2 ∧ Aside0 (tendrillaw8_ShapeGrows.j1 kq l0 l1 x5_1 x6_1 x7_1 x25_2 = some r) ∧ Aside0 (kq ≤ k1) ∧ Aside0 (Kd.R k23 23 wc w.heap.size (fun _ => True) u5 x5_1) ∧ Aside0 (Below w.heap.size w wc))
   case first => as_aux_lemma =>
    have H := HC3.out
    clear HC3
    by_cases c4 : x7_1 < (l0.length : Int)
    ·rw [if_pos c4] at H
     have c4b0 : decide (x7_1 < (l0.length : Int)) = true := decide_eq_true c4
     clear c4
     (first | rw [c4b0] | (simp only [i64_w, i32_w]; rw [c4b0]) | skip)
     have H' := Aside0.mk H
     clear H
     go_wp2
     repeat (go_quiet (fail); try go_wp2)
     go_meet
     case rel => exact ⟨_, (decide (x7_1 < 50)), (by first | rfl | (simp; done) | (simp [*]; done)), H', ⟨by have := HK1.out; first | omega | exact Nat.le_refl _⟩, ⟨by (with_reducible repeat (first | apply Kd.R_alloc | apply Kd.R_drewN | apply Kd.R_drew)); exact HO_5.out⟩, ⟨by repeat (first | (with_reducible first | exact HB.out | apply below_alloc | apply pw_below_drewN | apply below_drew1) | exact HB.out)⟩⟩
    ·rw [if_neg c4] at H
     have c4b0 : decide (x7_1 < (l0.length : Int)) = false := decide_eq_false c4
     clear c4
     (first | rw [c4b0] | (simp only [i64_w, i32_w]; rw [c4b0]) | skip)
     have H' := Aside0.mk H
     clear H
     go_wp2
     repeat (go_quiet (fail); try go_wp2)
     go_meet
     case rel => exact ⟨_, (false), (by first | rfl | (simp; done) | (simp [*]; done)), H', ⟨by have := HK1.out; first | omega | exact Nat.le_refl _⟩, ⟨by (with_reducible repeat (first | apply Kd.R_alloc | apply Kd.R_drewN | apply Kd.R_drew)); exact HO_5.out⟩, ⟨by repeat (first | (with_reducible first | exact HB.out | apply below_alloc | apply pw_below_drewN | apply below_drew1) | exact HB.out)⟩⟩
   case rest => as_aux_lemma =>
    clear HC3
    try clear c1
    try clear p2
    try clear c4
    try clear c4b0
    try clear p2
    obtain ⟨kq, x25_2, rfl, HA, HJ2, HO_5, HB⟩ := hcut
    cases kq with
    | zero => exact absurd HA.out (by simp [tendrillaw8_ShapeGrows.j1])
    | succ kj2 =>
     have H := HA.out
     clear HA
     simp only [tendrillaw8_ShapeGrows.j1] at H
     by_cases c5 : x25_2 = true
     ·subst c5
      have H1 : (if 0 ≤ x7_1 then (if x7_1 < (l0.length : Int) then ((tendrilref1_RightTerm.f kj2 ((rd_T23 l0 x7_1).f0)).bind fun t159 => (if t159 = true then (if ((rd_T23 l0 x7_1).f1) < 0 then (tendrillaw8_ShapeGrows.j2 kj2 l0 l1 x5_1 x6_1 x7_1 true) else (tendrillaw8_ShapeGrows.j2 kj2 l0 l1 x5_1 x6_1 x7_1 (decide (((rd_T23 l0 x7_1).f1) > 1099511627776)))) else (tendrillaw8_ShapeGrows.j2 kj2 l0 l1 x5_1 x6_1 x7_1 true))) else (none)) else (none)) = some r := by rw [if_pos rfl] at H; exact H
      clear H
      have H := H1
      clear H1
      have HC6 := Aside0.mk H
      clear H
      go_upto_region 6 with (fail)
      repeat (go_quiet (fail); go_upto_region 6 with (fail))
      go_cut [50] (fun v50 wc => ∃ (kq : Nat) (x50_5 : Bool), v50 = .bool x50_5 ∧ Aside0 (tendrillaw8_ShapeGrows.j2 kq l0 l1 x5_1 x6_1 x7_1 x50_5 = some r) ∧ Aside0 (kq ≤ kj2) ∧ Aside0 (Kd.R k23 23 wc w.heap.size (fun _ => True) u5 x5_1) ∧ Aside0 (Below w.heap.size w wc))
      case first => as_aux_lemma =>
       have H := HC6.out
       clear HC6
       by_cases c7 : 0 ≤ x7_1
       ·rw [if_pos c7] at H
        have c7b0 : decide (0 ≤ x7_1) = true := decide_eq_true c7
        clear c7
        (first | rw [c7b0] | (simp only [i64_w, i32_w]; rw [c7b0]) | skip)
        by_cases c8 : x7_1 < (l0.length : Int)
        ·rw [if_pos c8] at H
         have c8b0 : decide (x7_1 < (l0.length : Int)) = true := decide_eq_true c8
         clear c8
         replace H := Option.bind_eq_some_iff.mp H
         obtain ⟨t159, A90, H⟩ := H
         replace H : (if t159 = true then (if ((rd_T23 l0 x7_1).f1) < 0 then (tendrillaw8_ShapeGrows.j2 kj2 l0 l1 x5_1 x6_1 x7_1 true) else (tendrillaw8_ShapeGrows.j2 kj2 l0 l1 x5_1 x6_1 x7_1 (decide (((rd_T23 l0 x7_1).f1) > 1099511627776)))) else (tendrillaw8_ShapeGrows.j2 kj2 l0 l1 x5_1 x6_1 x7_1 true)) = some r := H
         have A9 := Aside0.mk A90
         clear A90
         by_cases c10 : t159 = true
         ·subst c10
          have H1 : (if ((rd_T23 l0 x7_1).f1) < 0 then (tendrillaw8_ShapeGrows.j2 kj2 l0 l1 x5_1 x6_1 x7_1 true) else (tendrillaw8_ShapeGrows.j2 kj2 l0 l1 x5_1 x6_1 x7_1 (decide (((rd_T23 l0 x7_1).f1) > 1099511627776)))) = some r := by rw [if_pos rfl] at H; exact H
          clear H
          have H := H1
          clear H1
          by_cases c11 : ((rd_T23 l0 x7_1).f1) < 0
          ·rw [if_pos c11] at H
           have c11b0 : decide (((rd_T23 l0 x7_1).f1) < 0) = true := decide_eq_true c11
           clear c11
           have H' := Aside0.mk H
           clear H
           have p158 : 0 ≤ (x7_1 : Int) := of_decide_eq_true (by first | (with_reducible assumption) | assumption)
           have q158 : x7_1 < (l0.length : Int) := of_decide_eq_true (by first | (with_reducible assumption) | assumption)
           obtain ⟨ad158, e158, hx158_0, hx158_1⟩ := at_T23 HR0.out x7_1 p158 q158
           cases e158
           replace hx158_0 := (HB.out.cell (World.block_lt_of_cell? w _ hx158_0)).trans hx158_0
           replace hx158_1 := (HB.out.cell (World.block_lt_of_cell? w _ hx158_1)).trans hx158_1
           replace p158 := eq_true p158
           replace q158 := eq_true q158
           go_wp2_with (first | (go_at_call 20; (with_reducible refine (tendrilref1_RightTerm.calls kj2 ((rd_T23 l0 x7_1).f0) true _ A9.out).mono ?_); rintro e w' ⟨rfl, ⟨nd, rfl⟩⟩; (try first | exact ⟨rfl, _, World.drewN_drewN _ _ _⟩ | exact ⟨rfl, _, Eq.trans (World.drewN_drewN _ _ _) (congrArg (World.drewN _) (Nat.add_assoc _ _ _))⟩); have p160 : 0 ≤ (x7_1 : Int) := of_decide_eq_true (by first | (with_reducible assumption) | assumption); have q160 : x7_1 < (l0.length : Int) := of_decide_eq_true (by first | (with_reducible assumption) | assumption); obtain ⟨ad160, e160, hx160_0, hx160_1⟩ := at_T23 HR0.out x7_1 p160 q160; obtain rfl : ad158 = ad160 := (by injection e160); replace hx160_0 := (HB.out.cell (World.block_lt_of_cell? w _ hx160_0)).trans hx160_0; replace hx160_1 := (HB.out.cell (World.block_lt_of_cell? w _ hx160_1)).trans hx160_1; replace p160 := eq_true p160; replace q160 := eq_true q160))
           repeat (go_quiet (first | (go_at_call 20; (with_reducible refine (tendrilref1_RightTerm.calls kj2 ((rd_T23 l0 x7_1).f0) true _ A9.out).mono ?_); rintro e w' ⟨rfl, ⟨nd, rfl⟩⟩; (try first | exact ⟨rfl, _, World.drewN_drewN _ _ _⟩ | exact ⟨rfl, _, Eq.trans (World.drewN_drewN _ _ _) (congrArg (World.drewN _) (Nat.add_assoc _ _ _))⟩); have p160 : 0 ≤ (x7_1 : Int) := of_decide_eq_true (by first | (with_reducible assumption) | assumption); have q160 : x7_1 < (l0.length : Int) := of_decide_eq_true (by first | (with_reducible assumption) | assumption); obtain ⟨ad160, e160, hx160_0, hx160_1⟩ := at_T23 HR0.out x7_1 p160 q160; obtain rfl : ad158 = ad160 := (by injection e160); replace hx160_0 := (HB.out.cell (World.block_lt_of_cell? w _ hx160_0)).trans hx160_0; replace hx160_1 := (HB.out.cell (World.block_lt_of_cell? w _ hx160_1)).trans hx160_1; replace p160 := eq_true p160; replace q160 := eq_true q160)); try go_wp2_with (first | (go_at_call 20; (with_reducible refine (tendrilref1_RightTerm.calls kj2 ((rd_T23 l0 x7_1).f0) true _ A9.out).mono ?_); rintro e w' ⟨rfl, ⟨nd, rfl⟩⟩; (try first | exact ⟨rfl, _, World.drewN_drewN _ _ _⟩ | exact ⟨rfl, _, Eq.trans (World.drewN_drewN _ _ _) (congrArg (World.drewN _) (Nat.add_assoc _ _ _))⟩); have p160 : 0 ≤ (x7_1 : Int) := of_decide_eq_true (by first | (with_reducible assumption) | assumption); have q160 : x7_1 < (l0.length : Int) := of_decide_eq_true (by first | (with_reducible assumption) | assumption); obtain ⟨ad160, e160, hx160_0, hx160_1⟩ := at_T23 HR0.out x7_1 p160 q160; obtain rfl : ad158 = ad160 := (by injection e160); replace hx160_0 := (HB.out.cell (World.block_lt_of_cell? w _ hx160_0)).trans hx160_0; replace hx160_1 := (HB.out.cell (World.block_lt_of_cell? w _ hx160_1)).trans hx160_1; replace p160 := eq_true p160; replace q160 := eq_true q160)))
           go_meet
           case rel => exact ⟨_, (true), (by first | rfl | (simp; done) | (simp [*]; done)), H', ⟨by have := HK1.out; have := HJ2.out; first | omega | exact Nat.le_refl _⟩, ⟨by (with_reducible repeat (first | apply Kd.R_alloc | apply Kd.R_drewN | apply Kd.R_drew)); exact HO_5.out⟩, ⟨by repeat (first | (with_reducible first | exact HB.out | apply below_alloc | apply pw_below_drewN | apply below_drew1) | exact HB.out)⟩⟩
          ·rw [if_neg c11] at H
           have c11b0 : decide (((rd_T23 l0 x7_1).f1) < 0) = false := decide_eq_false c11
           clear c11
           have H' := Aside0.mk H
           clear H
           have p158 : 0 ≤ (x7_1 : Int) := of_decide_eq_true (by first | (with_reducible assumption) | assumption)
           have q158 : x7_1 < (l0.length : Int) := of_decide_eq_true (by first | (with_reducible assumption) | assumption)
           obtain ⟨ad158, e158, hx158_0, hx158_1⟩ := at_T23 HR0.out x7_1 p158 q158
           cases e158
           replace hx158_0 := (HB.out.cell (World.block_lt_of_cell? w _ hx158_0)).trans hx158_0
           replace hx158_1 := (HB.out.cell (World.block_lt_of_cell? w _ hx158_1)).trans hx158_1
           replace p158 := eq_true p158
           replace q158 := eq_true q158
           go_wp2_with (first | (go_at_call 20; (with_reducible refine (tendrilref1_RightTerm.calls kj2 ((rd_T23 l0 x7_1).f0) true _ A9.out).mono ?_); rintro e w' ⟨rfl, ⟨nd, rfl⟩⟩; (try first | exact ⟨rfl, _, World.drewN_drewN _ _ _⟩ | exact ⟨rfl, _, Eq.trans (World.drewN_drewN _ _ _) (congrArg (World.drewN _) (Nat.add_assoc _ _ _))⟩); have p160 : 0 ≤ (x7_1 : Int) := of_decide_eq_true (by first | (with_reducible assumption) | assumption); have q160 : x7_1 < (l0.length : Int) := of_decide_eq_true (by first | (with_reducible assumption) | assumption); obtain ⟨ad160, e160, hx160_0, hx160_1⟩ := at_T23 HR0.out x7_1 p160 q160; obtain rfl : ad158 = ad160 := (by injection e160); replace hx160_0 := (HB.out.cell (World.block_lt_of_cell? w _ hx160_0)).trans hx160_0; replace hx160_1 := (HB.out.cell (World.block_lt_of_cell? w _ hx160_1)).trans hx160_1; replace p160 := eq_true p160; replace q160 := eq_true q160; have p161 : 0 ≤ (x7_1 : Int) := of_decide_eq_true (by first | (with_reducible assumption) | assumption); have q161 : x7_1 < (l0.length : Int) := of_decide_eq_true (by first | (with_reducible assumption) | assumption); obtain ⟨ad161, e161, hx161_0, hx161_1⟩ := at_T23 HR0.out x7_1 p161 q161; obtain rfl : ad158 = ad161 := (by injection e161); replace hx161_0 := (HB.out.cell (World.block_lt_of_cell? w _ hx161_0)).trans hx161_0; replace hx161_1 := (HB.out.cell (World.block_lt_of_cell? w _ hx161_1)).trans hx161_1; replace p161 := eq_true p161; replace q161 := eq_true q161))
           repeat (go_quiet (first | (go_at_call 20; (with_reducible refine (tendrilref1_RightTerm.calls kj2 ((rd_T23 l0 x7_1).f0) true _ A9.out).mono ?_); rintro e w' ⟨rfl, ⟨nd, rfl⟩⟩; (try first | exact ⟨rfl, _, World.drewN_drewN _ _ _⟩ | exact ⟨rfl, _, Eq.trans (World.drewN_drewN _ _ _) (congrArg (World.drewN _) (Nat.add_assoc _ _ _))⟩); have p160 : 0 ≤ (x7_1 : Int) := of_decide_eq_true (by first | (with_reducible assumption) | assumption); have q160 : x7_1 < (l0.length : Int) := of_decide_eq_true (by first | (with_reducible assumption) | assumption); obtain ⟨ad160, e160, hx160_0, hx160_1⟩ := at_T23 HR0.out x7_1 p160 q160; obtain rfl : ad158 = ad160 := (by injection e160); replace hx160_0 := (HB.out.cell (World.block_lt_of_cell? w _ hx160_0)).trans hx160_0; replace hx160_1 := (HB.out.cell (World.block_lt_of_cell? w _ hx160_1)).trans hx160_1; replace p160 := eq_true p160; replace q160 := eq_true q160; have p161 : 0 ≤ (x7_1 : Int) := of_decide_eq_true (by first | (with_reducible assumption) | assumption); have q161 : x7_1 < (l0.length : Int) := of_decide_eq_true (by first | (with_reducible assumption) | assumption); obtain ⟨ad161, e161, hx161_0, hx161_1⟩ := at_T23 HR0.out x7_1 p161 q161; obtain rfl : ad158 = ad161 := (by injection e161); replace hx161_0 := (HB.out.cell (World.block_lt_of_cell? w _ hx161_0)).trans hx161_0; replace hx161_1 := (HB.out.cell (World.block_lt_of_cell? w _ hx161_1)).trans hx161_1; replace p161 := eq_true p161; replace q161 := eq_true q161)); try go_wp2_with (first | (go_at_call 20; (with_reducible refine (tendrilref1_RightTerm.calls kj2 ((rd_T23 l0 x7_1).f0) true _ A9.out).mono ?_); rintro e w' ⟨rfl, ⟨nd, rfl⟩⟩; (try first | exact ⟨rfl, _, World.drewN_drewN _ _ _⟩ | exact ⟨rfl, _, Eq.trans (World.drewN_drewN _ _ _) (congrArg (World.drewN _) (Nat.add_assoc _ _ _))⟩); have p160 : 0 ≤ (x7_1 : Int) := of_decide_eq_true (by first | (with_reducible assumption) | assumption); have q160 : x7_1 < (l0.length : Int) := of_decide_eq_true (by first | (with_reducible assumption) | assumption); obtain ⟨ad160, e160, hx160_0, hx160_1⟩ := at_T23 HR0.out x7_1 p160 q160; obtain rfl : ad158 = ad160 := (by injection e160); replace hx160_0 := (HB.out.cell (World.block_lt_of_cell? w _ hx160_0)).trans hx160_0; replace hx160_1 := (HB.out.cell (World.block_lt_of_cell? w _ hx160_1)).trans hx160_1; replace p160 := eq_true p160; replace q160 := eq_true q160; have p161 : 0 ≤ (x7_1 : Int) := of_decide_eq_true (by first | (with_reducible assumption) | assumption); have q161 : x7_1 < (l0.length : Int) := of_decide_eq_true (by first | (with_reducible assumption) | assumption); obtain ⟨ad161, e161, hx161_0, hx161_1⟩ := at_T23 HR0.out x7_1 p161 q161; obtain rfl : ad158 = ad161 := (by injection e161); replace hx161_0 := (HB.out.cell (World.block_lt_of_cell? w _ hx161_0)).trans hx161_0; replace hx161_1 := (HB.out.cell (World.block_lt_of_cell? w _ hx161_1)).trans hx161_1; replace p161 := eq_true p161; replace q161 := eq_true q161)))
           go_meet
           case rel => exact ⟨_, (decide (((rd_T23 l0 x7_1).f1) > 1099511627776)), (by first | rfl | (simp; done) | (simp [*]; done)), H', ⟨by have := HK1.out; have := HJ2.out; first | omega | exact Nat.le_refl _⟩, ⟨by (with_reducible repeat (first | apply Kd.R_alloc | apply Kd.R_drewN | apply Kd.R_drew)); exact HO_5.out⟩, ⟨by repeat (first | (with_reducible first | exact HB.out | apply below_alloc | apply pw_below_drewN | apply below_drew1) | exact HB.out)⟩⟩
         ·replace c10 := Bool.eq_false_iff.mpr c10
          subst c10
          have H1 : (tendrillaw8_ShapeGrows.j2 kj2 l0 l1 x5_1 x6_1 x7_1 true) = some r := by rw [if_neg (show ¬ (false = true) by decide)] at H; exact H
          clear H
          have H := H1
          clear H1
          have H' := Aside0.mk H
          clear H
          have p158 : 0 ≤ (x7_1 : Int) := of_decide_eq_true (by first | (with_reducible assumption) | assumption)
          have q158 : x7_1 < (l0.length : Int) := of_decide_eq_true (by first | (with_reducible assumption) | assumption)
          obtain ⟨ad158, e158, hx158_0, hx158_1⟩ := at_T23 HR0.out x7_1 p158 q158
          cases e158
          replace hx158_0 := (HB.out.cell (World.block_lt_of_cell? w _ hx158_0)).trans hx158_0
          replace hx158_1 := (HB.out.cell (World.block_lt_of_cell? w _ hx158_1)).trans hx158_1
          replace p158 := eq_true p158
          replace q158 := eq_true q158
          go_wp2_with (first | (go_at_call 20; (with_reducible refine (tendrilref1_RightTerm.calls kj2 ((rd_T23 l0 x7_1).f0) false _ A9.out).mono ?_); rintro e w' ⟨rfl, ⟨nd, rfl⟩⟩; (try first | exact ⟨rfl, _, World.drewN_drewN _ _ _⟩ | exact ⟨rfl, _, Eq.trans (World.drewN_drewN _ _ _) (congrArg (World.drewN _) (Nat.add_assoc _ _ _))⟩)))
          repeat (go_quiet (first | (go_at_call 20; (with_reducible refine (tendrilref1_RightTerm.calls kj2 ((rd_T23 l0 x7_1).f0) false _ A9.out).mono ?_); rintro e w' ⟨rfl, ⟨nd, rfl⟩⟩; (try first | exact ⟨rfl, _, World.drewN_drewN _ _ _⟩ | exact ⟨rfl, _, Eq.trans (World.drewN_drewN _ _ _) (congrArg (World.drewN _) (Nat.add_assoc _ _ _))⟩))); try go_wp2_with (first | (go_at_call 20; (with_reducible refine (tendrilref1_RightTerm.calls kj2 ((rd_T23 l0 x7_1).f0) false _ A9.out).mono ?_); rintro e w' ⟨rfl, ⟨nd, rfl⟩⟩; (try first | exact ⟨rfl, _, World.drewN_drewN _ _ _⟩ | exact ⟨rfl, _, Eq.trans (World.drewN_drewN _ _ _) (congrArg (World.drewN _) (Nat.add_assoc _ _ _))⟩))))
          go_meet
          case rel => exact ⟨_, (true), (by first | rfl | (simp; done) | (simp [*]; done)), H', ⟨by have := HK1.out; have := HJ2.out; first | omega | exact Nat.le_refl _⟩, ⟨by (with_reducible repeat (first | apply Kd.R_alloc | apply Kd.R_drewN | apply Kd.R_drew)); exact HO_5.out⟩, ⟨by repeat (first | (with_reducible first | exact HB.out | apply below_alloc | apply pw_below_drewN | apply below_drew1) | exact HB.out)⟩⟩
        ·rw [if_neg c8] at H
         exact absurd H (by simp)
       ·rw [if_neg c7] at H
        exact absurd H (by simp)
      case rest => as_aux_lemma =>
       clear HC6
       try clear c1
       try clear p1
       try clear q1
       try clear hx1
       try clear p2
       try clear c4
       try clear c4b0
       try clear c5
       try clear c7
       try clear c7b0
       try clear c8
       try clear c8b0
       try clear c10
       try clear c11
       try clear c11b0
       try clear hx158_0
       try clear hx158_1
       try clear hx160_0
       try clear hx160_1
       try clear hx161_0
       try clear hx161_1
       try clear p158
       try clear p160
       try clear p161
       try clear p2
       try clear q158
       try clear q160
       try clear q161
       obtain ⟨kq, x50_5, rfl, HA, HJ5, HO_5, HB⟩ := hcut
       cases kq with
       | zero => exact absurd HA.out (by simp [tendrillaw8_ShapeGrows.j2])
       | succ kj5 =>
        have H := HA.out
        clear HA
        simp only [tendrillaw8_ShapeGrows.j2] at H
        by_cases c12 : x50_5 = true
        ·subst c12
         have H1 : (tendrillaw8_ShapeGrows.l0 kj5 l0 l1 x5_1 x6_1 (wrap64 (x7_1 + 1))) = some r := by rw [if_pos rfl] at H; exact H
         clear H
         have H := H1
         clear H1
         have H' := Aside0.mk H
         clear H
         go_wp2
         repeat (go_quiet (fail); try go_wp2)
         go_roundg kj5
         case measure => have := HK1.out; have := HJ2.out; have := HJ5.out; omega
         case rel => exact ⟨(x5_1), (x6_1), (wrap64 (x7_1 + 1)), (by first | rfl | (simp; done) | (simp [*]; done)), (by first | rfl | (simp; done) | (simp [*]; done)), H', ⟨by have := HK1.out; have := HJ2.out; have := HJ5.out; omega⟩, ⟨by (with_reducible repeat (first | apply Kd.R_alloc | apply Kd.R_drewN | apply Kd.R_drew)); exact HO_5.out⟩, ⟨by repeat (first | (with_reducible first | exact HB.out | apply below_alloc | apply pw_below_drewN | apply below_drew1) | exact HB.out)⟩⟩
        ·replace c12 := Bool.eq_false_iff.mpr c12
         subst c12
         have H1 : (tendrillaw8_ShapeGrows.l1 kj5 l0 l1 x5_1 x6_1 x7_1 (-1) (x5_1.length : Int) 0) = some r := by rw [if_neg (show ¬ (false = true) by decide)] at H; exact H
         clear H
         have H := H1
         clear H1
         have H' := Aside0.mk H
         clear H
         obtain ⟨Ao13, co13, eo13⟩ := Kd.R_slice HO_5.out
         subst eo13
         go_wp2
         repeat (go_quiet (fail); try go_wp2)
         go_loopg [8, 53] kj5 (fun kq v8 v53 w' => ∃ (x8_4 : Int) (x53_4 : Int), v8 = .int .i64 x8_4 ∧ v53 = .int .i64 x53_4 ∧ Aside0 (tendrillaw8_ShapeGrows.l1 kq l0 l1 x5_1 x6_1 x7_1 x8_4 (x5_1.length : Int) x53_4 = some r) ∧ Aside0 (kq ≤ kj5) ∧ Aside0 (Kd.R k23 23 w' w.heap.size (fun _ => True) (.slice Ao13 x5_1.length co13) x5_1) ∧ Aside0 (Below w.heap.size w w'))
         case atStart => exact ⟨((-1)), (0), (by first | rfl | (simp; done) | (simp [*]; done)), (by first | rfl | (simp; done) | (simp [*]; done)), H', ⟨Nat.le_refl _⟩, ⟨by (with_reducible repeat (first | apply Kd.R_alloc | apply Kd.R_drewN | apply Kd.R_drew)); exact HO_5.out⟩, ⟨by repeat (first | (with_reducible first | exact HB.out | apply below_alloc | apply pw_below_drewN | apply below_drew1) | exact HB.out)⟩⟩
         case round =>
          clear H'
          try clear c1
          try clear p1
          try clear q1
          try clear hx1
          try clear p2
          try clear c4
          try clear c4b0
          try clear c5
          try clear p6
          try clear c7
          try clear c7b0
          try clear c8
          try clear c8b0
          try clear c10
          try clear c11
          try clear c11b0
          try clear c12
          try clear hx158_0
          try clear hx158_1
          try clear hx160_0
          try clear hx160_1
          try clear hx161_0
          try clear hx161_1
          try clear p1
          try clear p158
          try clear p160
          try clear p161
          try clear p2
          try clear q1
          try clear q158
          try clear q160
          try clear q161
          obtain ⟨x8_4, x53_4, rfl, rfl, HA, HK4, HO_5, HB⟩ := hrel
          cases gk with
          | zero => exact absurd HA.out (by simp [tendrillaw8_ShapeGrows.l1])
          | succ k4 =>
           have H := HA.out
           clear HA
           simp only [tendrillaw8_ShapeGrows.l1] at H
           by_cases c14 : x53_4 < (x5_1.length : Int)
           ·rw [if_pos c14] at H
            have c14b0 : decide (x53_4 < (x5_1.length : Int)) = true := decide_eq_true c14
            clear c14
            by_cases c15 : 0 ≤ x53_4
            ·rw [if_pos c15] at H
             have c15b0 : decide (0 ≤ x53_4) = true := decide_eq_true c15
             clear c15
             by_cases c16 : x53_4 < (x5_1.length : Int)
             ·rw [if_pos c16] at H
              have c16b0 : decide (x53_4 < (x5_1.length : Int)) = true := decide_eq_true c16
              clear c16
              by_cases c17 : 0 ≤ x7_1
              ·rw [if_pos c17] at H
               have c17b0 : decide (0 ≤ x7_1) = true := decide_eq_true c17
               clear c17
               by_cases c18 : x7_1 < (l0.length : Int)
               ·rw [if_pos c18] at H
                have c18b0 : decide (x7_1 < (l0.length : Int)) = true := decide_eq_true c18
                clear c18
                by_cases c19 : ((rd_T23 x5_1 x53_4).f0).toList = ((rd_T23 l0 x7_1).f0).toList
                ·rw [if_pos c19] at H
                 have c19b0 : (((rd_T23 x5_1 x53_4).f0).toList == ((rd_T23 l0 x7_1).f0).toList) = true := beq_iff_eq.mpr c19
                 have c19b1 : (((rd_T23 x5_1 x53_4).f0).toList != ((rd_T23 l0 x7_1).f0).toList) = false := bne_eq_false_iff_eq.mpr c19
                 clear c19
                 have H' := Aside0.mk H
                 clear H
                 have p162 : 0 ≤ (x53_4 : Int) := of_decide_eq_true (by first | (with_reducible assumption) | assumption)
                 have q162 : x53_4 < (x5_1.length : Int) := of_decide_eq_true (by first | (with_reducible assumption) | assumption)
                 obtain ⟨ad162, e162, hx162_0, hx162_1⟩ := at_T23 (Kd.R_reads' HO_5.out).2.2 x53_4 p162 q162
                 cases e162
                 replace p162 := eq_true p162
                 replace q162 := eq_true q162
                 have p163 : 0 ≤ (x7_1 : Int) := of_decide_eq_true (by first | (with_reducible assumption) | assumption)
                 have q163 : x7_1 < (l0.length : Int) := of_decide_eq_true (by first | (with_reducible assumption) | assumption)
                 obtain ⟨ad163, e163, hx163_0, hx163_1⟩ := at_T23 HR0.out x7_1 p163 q163
                 cases e163
                 replace hx163_0 := (HB.out.cell (World.block_lt_of_cell? w _ hx163_0)).trans hx163_0
                 replace hx163_1 := (HB.out.cell (World.block_lt_of_cell? w _ hx163_1)).trans hx163_1
                 replace p163 := eq_true p163
                 replace q163 := eq_true q163
                 go_wp2
                 repeat (go_quiet (fail); try go_wp2)
                 go_roundg k4
                 case measure => have := HK1.out; have := HJ2.out; have := HJ5.out; have := HK4.out; omega
                 case rel => exact ⟨(x53_4), (wrap64 (x53_4 + 1)), (by first | rfl | (simp; done) | (simp [*]; done)), (by first | rfl | (simp; done) | (simp [*]; done)), H', ⟨by have := HK1.out; have := HJ2.out; have := HJ5.out; have := HK4.out; omega⟩, ⟨by (with_reducible repeat (first | apply Kd.R_alloc | apply Kd.R_drewN | apply Kd.R_drew)); exact HO_5.out⟩, ⟨by repeat (first | (with_reducible first | exact HB.out | apply below_alloc | apply pw_below_drewN | apply below_drew1) | exact HB.out)⟩⟩
                ·rw [if_neg c19] at H
                 have c19b0 : (((rd_T23 x5_1 x53_4).f0).toList == ((rd_T23 l0 x7_1).f0).toList) = false := beq_eq_false_iff_ne.mpr c19
                 have c19b1 : (((rd_T23 x5_1 x53_4).f0).toList != ((rd_T23 l0 x7_1).f0).toList) = true := bne_iff_ne.mpr c19
                 have H' := Aside0.mk H
                 clear H
                 have p162 : 0 ≤ (x53_4 : Int) := of_decide_eq_true (by first | (with_reducible assumption) | assumption)
                 have q162 : x53_4 < (x5_1.length : Int) := of_decide_eq_true (by first | (with_reducible assumption) | assumption)
                 obtain ⟨ad162, e162, hx162_0, hx162_1⟩ := at_T23 (Kd.R_reads' HO_5.out).2.2 x53_4 p162 q162
                 cases e162
                 replace p162 := eq_true p162
                 replace q162 := eq_true q162
                 have p163 : 0 ≤ (x7_1 : Int) := of_decide_eq_true (by first | (with_reducible assumption) | assumption)
                 have q163 : x7_1 < (l0.length : Int) := of_decide_eq_true (by first | (with_reducible assumption) | assumption)
                 obtain ⟨ad163, e163, hx163_0, hx163_1⟩ := at_T23 HR0.out x7_1 p163 q163
                 cases e163
                 replace hx163_0 := (HB.out.cell (World.block_lt_of_cell? w _ hx163_0)).trans hx163_0
                 replace hx163_1 := (HB.out.cell (World.block_lt_of_cell? w _ hx163_1)).trans hx163_1
                 replace p163 := eq_true p163
                 replace q163 := eq_true q163
                 go_wp2
                 repeat (go_quiet (fail); try go_wp2)
                 go_roundg k4
                 case measure => have := HK1.out; have := HJ2.out; have := HJ5.out; have := HK4.out; omega
                 case rel => exact ⟨(x8_4), (wrap64 (x53_4 + 1)), (by first | rfl | (simp; done) | (simp [*]; done)), (by first | rfl | (simp; done) | (simp [*]; done)), H', ⟨by have := HK1.out; have := HJ2.out; have := HJ5.out; have := HK4.out; omega⟩, ⟨by (with_reducible repeat (first | apply Kd.R_alloc | apply Kd.R_drewN | apply Kd.R_drew)); exact HO_5.out⟩, ⟨by repeat (first | (with_reducible first | exact HB.out | apply below_alloc | apply pw_below_drewN | apply below_drew1) | exact HB.out)⟩⟩
               ·rw [if_neg c18] at H
                exact absurd H (by simp)
              ·rw [if_neg c17] at H
               exact absurd H (by simp)
             ·rw [if_neg c16] at H
              exact absurd H (by simp)
            ·rw [if_neg c15] at H
             exact absurd H (by simp)
           ·rw [if_neg c14] at H
            have c14b0 : decide (x53_4 < (x5_1.length : Int)) = false := decide_eq_false c14
            clear c14
            have HC20 := Aside0.mk H
            clear H
            go_upto_region 15 with (fail)
            repeat (go_quiet (fail); go_upto_region 15 with (fail))
            go_cut [79] (fun v79 wc => ∃ (kq : Nat) (x79_19 : Bool), v79 = .bool x79_19 ∧ Aside0 (tendrillaw8_ShapeGrows.j4 kq l0 l1 x5_1 x6_1 x7_1 x8_4 x5_1 x79_19 = some r) ∧ Aside0 (kq ≤ k4) ∧ Aside0 (Kd.R k23 23 wc w.heap.size (fun _ => True) (.slice Ao13 x5_1.length co13) x5_1) ∧ Aside0 (Kd.R k23 23 wc w.heap.size (fun _ => True) (.slice Ao13 x5_1.length co13) x5_1) ∧ Aside0 (Below w.heap.size w wc))
            case first => as_aux_lemma =>
             have H := HC20.out
             clear HC20
             by_cases c21 : x7_1 < (l1.length : Int)
             ·rw [if_pos c21] at H
              have c21b0 : decide (x7_1 < (l1.length : Int)) = true := decide_eq_true c21
              clear c21
              (first | rw [c21b0] | (simp only [i64_w, i32_w]; rw [c21b0]) | skip)
              by_cases c22 : 0 ≤ x7_1
              ·rw [if_pos c22] at H
               have c22b0 : decide (0 ≤ x7_1) = true := decide_eq_true c22
               clear c22
               have H' := Aside0.mk H
               clear H
               have p164 : 0 ≤ (x7_1 : Int) := of_decide_eq_true (by first | (with_reducible assumption) | assumption)
               have q164 : x7_1 < (l1.length : Int) := of_decide_eq_true (by first | (with_reducible assumption) | assumption)
               obtain ⟨ad164, e164, hx164_0⟩ := Kd.at_bool HR1.out x7_1 p164 q164
               cases e164
               replace hx164_0 := (HB.out.cell (World.block_lt_of_cell? w _ hx164_0)).trans hx164_0
               replace p164 := eq_true p164
               replace q164 := eq_true q164
               go_wp2
               repeat (go_quiet (fail); try go_wp2)
               go_meet
               case rel => exact ⟨_, (rdOf false l1 x7_1), (by first | rfl | (simp; done) | (simp [*]; done)), H', ⟨by have := HK1.out; have := HJ2.out; have := HJ5.out; have := HK4.out; first | omega | exact Nat.le_refl _⟩, ⟨by (with_reducible repeat (first | apply Kd.R_alloc | apply Kd.R_drewN | apply Kd.R_drew)); exact HO_5.out⟩, ⟨by (with_reducible repeat (first | apply Kd.R_alloc | apply Kd.R_drewN | apply Kd.R_drew)); exact HO_5.out⟩, ⟨by repeat (first | (with_reducible first | exact HB.out | apply below_alloc | apply pw_below_drewN | apply below_drew1) | exact HB.out)⟩⟩
              ·rw [if_neg c22] at H
               exact absurd H (by simp)
             ·rw [if_neg c21] at H
              have c21b0 : decide (x7_1 < (l1.length : Int)) = false := decide_eq_false c21
              clear c21
              (first | rw [c21b0] | (simp only [i64_w, i32_w]; rw [c21b0]) | skip)
              have H' := Aside0.mk H
              clear H
              go_wp2
              repeat (go_quiet (fail); try go_wp2)
              go_meet
              case rel => exact ⟨_, (false), (by first | rfl | (simp; done) | (simp [*]; done)), H', ⟨by have := HK1.out; have := HJ2.out; have := HJ5.out; have := HK4.out; first | omega | exact Nat.le_refl _⟩, ⟨by (with_reducible repeat (first | apply Kd.R_alloc | apply Kd.R_drewN | apply Kd.R_drew)); exact HO_5.out⟩, ⟨by (with_reducible repeat (first | apply Kd.R_alloc | apply Kd.R_drewN | apply Kd.R_drew)); exact HO_5.out⟩, ⟨by repeat (first | (with_reducible first | exact HB.out | apply below_alloc | apply pw_below_drewN | apply below_drew1) | exact HB.out)⟩⟩
            case rest => as_aux_lemma =>
             clear HC20
             try clear c1
             try clear p1
             try clear q1
             try clear hx1
             try clear c2
             try clear p2
             try clear c4
             try clear c4b0
             try clear c5
             try clear p6
             try clear c7
             try clear c7b0
             try clear c8
             try clear c8b0
             try clear c10
             try clear c11
             try clear c11b0
             try clear c12
             try clear c14
             try clear c14b0
             try clear c15
             try clear c15b0
             try clear p15
             try clear q15
             try clear hx15
             try clear c16
             try clear c16b0
             try clear p16
             try clear q16
             try clear hx16
             try clear c17
             try clear c17b0
             try clear c18
             try clear c18b0
             try clear c19
             try clear c19b0
             try clear c19b1
             try clear c21
             try clear c21b0
             try clear c22
             try clear c22b0
             try clear hx158_0
             try clear hx158_1
             try clear hx160_0
             try clear hx160_1
             try clear hx161_0
             try clear hx161_1
             try clear hx162_0
             try clear hx162_1
             try clear hx163_0
             try clear hx163_1
             try clear hx164_0
             try clear p1
             try clear p158
             try clear p160
             try clear p161
             try clear p162
             try clear p163
             try clear p164
             try clear p2
             try clear p6
             try clear q1
             try clear q158
             try clear q160
             try clear q161
             try clear q162
             try clear q163
             try clear q164
             obtain ⟨kq, x79_19, rfl, HA, HJ19, HO_5, HO_10, HB⟩ := hcut
             cases kq with
             | zero => exact absurd HA.out (by simp [tendrillaw8_ShapeGrows.j4])
             | succ kj19 =>
              have H := HA.out
              clear HA
              simp only [tendrillaw8_ShapeGrows.j4] at H
              have HC23 := Aside0.mk H
              clear H
              go_upto_if 79 with (fail)
              repeat (go_quiet (fail); go_upto_if 79 with (fail))
              go_cut [5, 6] (fun v5 v6 wc => ∃ (kq : Nat) (x5_22 : List (S23)) (x6_22 : Int), v6 = .int .i64 x6_22 ∧ Aside0 (tendrillaw8_ShapeGrows.j7 kq l0 l1 x5_22 x6_22 x7_1 = some r) ∧ Aside0 (kq ≤ kj19) ∧ Aside0 (Kd.R k23 23 wc w.heap.size (fun _ => True) v5 x5_22) ∧ Aside0 (Below w.heap.size w wc))
              case first => as_aux_lemma =>
               have H := HC23.out
               clear HC23
               by_cases c24 : x79_19 = true
               ·subst c24
                have H1 : (if 0 ≤ x7_1 then (if x7_1 < (l0.length : Int) then ((shape_Drop.f x5_1 ((rd_T23 l0 x7_1).f0)).bind fun bt166 => (if (bt166.2.2 != (decide (x8_4 ≥ 0))) = true then (tendrillaw8_ShapeGrows.j5 kj19 l0 l1 x6_1 x7_1 bt166.1 bt166.2.2 true) else (if bt166.2.2 = true then (if 0 ≤ x8_4 then (if x8_4 < (x5_1.length : Int) then (if bt166.2.1 = ((rd_T23 x5_1 x8_4).f1) then (tendrillaw8_ShapeGrows.j5 kj19 l0 l1 x6_1 x7_1 bt166.1 bt166.2.2 false) else (tendrillaw8_ShapeGrows.j5 kj19 l0 l1 x6_1 x7_1 bt166.1 bt166.2.2 true)) else (none)) else (none)) else (tendrillaw8_ShapeGrows.j5 kj19 l0 l1 x6_1 x7_1 bt166.1 bt166.2.2 (bt166.2.1 != 0))))) else (none)) else (none)) = some r := by rw [if_pos rfl] at H; exact H
                clear H
                have H := H1
                clear H1
                by_cases c25 : 0 ≤ x7_1
                ·rw [if_pos c25] at H
                 have c25b0 : decide (0 ≤ x7_1) = true := decide_eq_true c25
                 clear c25
                 (first | rw [c25b0] | (simp only [i64_w, i32_w]; rw [c25b0]) | skip)
                 by_cases c26 : x7_1 < (l0.length : Int)
                 ·rw [if_pos c26] at H
                  have c26b0 : decide (x7_1 < (l0.length : Int)) = true := decide_eq_true c26
                  clear c26
                  replace H := Option.bind_eq_some_iff.mp H
                  obtain ⟨⟨t166, t167, t168⟩, A270, H⟩ := H
                  replace H : (if (t168 != (decide (x8_4 ≥ 0))) = true then (tendrillaw8_ShapeGrows.j5 kj19 l0 l1 x6_1 x7_1 t166 t168 true) else (if t168 = true then (if 0 ≤ x8_4 then (if x8_4 < (x5_1.length : Int) then (if t167 = ((rd_T23 x5_1 x8_4).f1) then (tendrillaw8_ShapeGrows.j5 kj19 l0 l1 x6_1 x7_1 t166 t168 false) else (tendrillaw8_ShapeGrows.j5 kj19 l0 l1 x6_1 x7_1 t166 t168 true)) else (none)) else (none)) else (tendrillaw8_ShapeGrows.j5 kj19 l0 l1 x6_1 x7_1 t166 t168 (t167 != 0)))) = some r := H
                  have A27 := Aside0.mk A270
                  clear A270
                  have HC28 := Aside0.mk H
                  clear H
                  have p165 : 0 ≤ (x7_1 : Int) := of_decide_eq_true (by first | (with_reducible assumption) | assumption)
                  have q165 : x7_1 < (l0.length : Int) := of_decide_eq_true (by first | (with_reducible assumption) | assumption)
                  obtain ⟨ad165, e165, hx165_0, hx165_1⟩ := at_T23 HR0.out x7_1 p165 q165
                  cases e165
                  replace hx165_0 := (HB.out.cell (World.block_lt_of_cell? w _ hx165_0)).trans hx165_0
                  replace hx165_1 := (HB.out.cell (World.block_lt_of_cell? w _ hx165_1)).trans hx165_1
                  replace p165 := eq_true p165
                  replace q165 := eq_true q165
                  go_upto_region 17 with (first | (go_at_call 10; (with_reducible refine (shape_Drop.calls _ _ x5_1 ((rd_T23 l0 x7_1).f0) t166 t167 t168 _ ?side1 ?side2 A27.out).mono ?_); (case side1 => repeat (first | exact (Kd.R_reads' HO_5.out).2.2 | (with_reducible refine Kd.C_alloc ?_ _) | (with_reducible refine Kd.C_drewN ?_ _) | (with_reducible refine Kd.C_drew ?_))); (case side2 => exact (Kd.R_reads' HO_5.out).2.1); rintro e w29 ⟨v169, rfl, ho0, hb⟩; have n0_ := Aside0.mk (Kd.R_elder' (by (with_reducible repeat (first | apply Kd.R_alloc | apply Kd.R_drewN | apply Kd.R_drew)); exact HO_5.out) (Kd.R_base ho0) hb); have n1_ := Aside0.mk (Kd.R_elder' (by (with_reducible repeat (first | apply Kd.R_alloc | apply Kd.R_drewN | apply Kd.R_drew)); exact HO_10.out) (Kd.R_base ho0) hb); have n2_ := Aside0.mk (Kd.R_lower (Kd.R_new' (Kd.R_new' ho0 (Kd.R_lt (by (with_reducible repeat (first | apply Kd.R_alloc | apply Kd.R_drewN | apply Kd.R_drew)); exact HO_5.out))) (Kd.R_lt (by (with_reducible repeat (first | apply Kd.R_alloc | apply Kd.R_drewN | apply Kd.R_drew)); exact HO_10.out))) (below_size (by repeat (first | (with_reducible first | exact HB.out | apply below_alloc | apply pw_below_drewN | apply below_drew1) | exact HB.out)))); have n3_ := Aside0.mk (below_step (by repeat (first | (with_reducible first | exact HB.out | apply below_alloc | apply pw_below_drewN | apply below_drew1) | exact HB.out)) hb); clear HO_5; clear HO_10; clear HB; have HO_5 := n0_; have HO_10 := n1_; have HO170 := n2_; have HB := n3_; clear n0_ n1_ n2_ n3_; (try clear hb); (try clear hb2); (try clear hk); (try clear hi); (try clear ho0)))
                  repeat (go_quiet (first | (go_at_call 10; (with_reducible refine (shape_Drop.calls _ _ x5_1 ((rd_T23 l0 x7_1).f0) t166 t167 t168 _ ?side1 ?side2 A27.out).mono ?_); (case side1 => repeat (first | exact (Kd.R_reads' HO_5.out).2.2 | (with_reducible refine Kd.C_alloc ?_ _) | (with_reducible refine Kd.C_drewN ?_ _) | (with_reducible refine Kd.C_drew ?_))); (case side2 => exact (Kd.R_reads' HO_5.out).2.1); rintro e w29 ⟨v169, rfl, ho0, hb⟩; have n0_ := Aside0.mk (Kd.R_elder' (by (with_reducible repeat (first | apply Kd.R_alloc | apply Kd.R_drewN | apply Kd.R_drew)); exact HO_5.out) (Kd.R_base ho0) hb); have n1_ := Aside0.mk (Kd.R_elder' (by (with_reducible repeat (first | apply Kd.R_alloc | apply Kd.R_drewN | apply Kd.R_drew)); exact HO_10.out) (Kd.R_base ho0) hb); have n2_ := Aside0.mk (Kd.R_lower (Kd.R_new' (Kd.R_new' ho0 (Kd.R_lt (by (with_reducible repeat (first | apply Kd.R_alloc | apply Kd.R_drewN | apply Kd.R_drew)); exact HO_5.out))) (Kd.R_lt (by (with_reducible repeat (first | apply Kd.R_alloc | apply Kd.R_drewN | apply Kd.R_drew)); exact HO_10.out))) (below_size (by repeat (first | (with_reducible first | exact HB.out | apply below_alloc | apply pw_below_drewN | apply below_drew1) | exact HB.out)))); have n3_ := Aside0.mk (below_step (by repeat (first | (with_reducible first | exact HB.out | apply below_alloc | apply pw_below_drewN | apply below_drew1) | exact HB.out)) hb); clear HO_5; clear HO_10; clear HB; have HO_5 := n0_; have HO_10 := n1_; have HO170 := n2_; have HB := n3_; clear n0_ n1_ n2_ n3_; (try clear hb); (try clear hb2); (try clear hk); (try clear hi); (try clear ho0))); go_upto_region 17 with (first | (go_at_call 10; (with_reducible refine (shape_Drop.calls _ _ x5_1 ((rd_T23 l0 x7_1).f0) t166 t167 t168 _ ?side1 ?side2 A27.out).mono ?_); (case side1 => repeat (first | exact (Kd.R_reads' HO_5.out).2.2 | (with_reducible refine Kd.C_alloc ?_ _) | (with_reducible refine Kd.C_drewN ?_ _) | (with_reducible refine Kd.C_drew ?_))); (case side2 => exact (Kd.R_reads' HO_5.out).2.1); rintro e w29 ⟨v169, rfl, ho0, hb⟩; have n0_ := Aside0.mk (Kd.R_elder' (by (with_reducible repeat (first | apply Kd.R_alloc | apply Kd.R_drewN | apply Kd.R_drew)); exact HO_5.out) (Kd.R_base ho0) hb); have n1_ := Aside0.mk (Kd.R_elder' (by (with_reducible repeat (first | apply Kd.R_alloc | apply Kd.R_drewN | apply Kd.R_drew)); exact HO_10.out) (Kd.R_base ho0) hb); have n2_ := Aside0.mk (Kd.R_lower (Kd.R_new' (Kd.R_new' ho0 (Kd.R_lt (by (with_reducible repeat (first | apply Kd.R_alloc | apply Kd.R_drewN | apply Kd.R_drew)); exact HO_5.out))) (Kd.R_lt (by (with_reducible repeat (first | apply Kd.R_alloc | apply Kd.R_drewN | apply Kd.R_drew)); exact HO_10.out))) (below_size (by repeat (first | (with_reducible first | exact HB.out | apply below_alloc | apply pw_below_drewN | apply below_drew1) | exact HB.out)))); have n3_ := Aside0.mk (below_step (by repeat (first | (with_reducible first | exact HB.out | apply below_alloc | apply pw_below_drewN | apply below_drew1) | exact HB.out)) hb); clear HO_5; clear HO_10; clear HB; have HO_5 := n0_; have HO_10 := n1_; have HO170 := n2_; have HB := n3_; clear n0_ n1_ n2_ n3_; (try clear hb); (try clear hb2); (try clear hk); (try clear hi); (try clear ho0))))
                  (try simp only [Act.put, List.setIfInBounds_toArray, List.set_cons_zero, List.set_cons_succ])
                  go_cut [114] (fun v114 wc => ∃ (kq : Nat) (x114_27 : Bool), v114 = .bool x114_27 ∧ Aside0 (tendrillaw8_ShapeGrows.j5 kq l0 l1 x6_1 x7_1 t166 t168 x114_27 = some r) ∧ Aside0 (kq ≤ kj19) ∧ Aside0 (Kd.R k23 23 wc w.heap.size (fun _ => True) v169 t166) ∧ Aside0 (Below w.heap.size w wc))
                  case first => as_aux_lemma =>
                   have H := HC28.out
                   clear HC28
                   by_cases c30 : (t168 != (decide (x8_4 ≥ 0))) = true
                   ·rw [if_pos c30] at H
                    have c30b0 : (t168 != (decide (x8_4 ≥ 0))) = true := c30
                    (try (have c30b1 : decide (t168 = (decide (x8_4 ≥ 0))) = false := by simpa using c30))
                    (try (have c30b2 : (t168 == (decide (x8_4 ≥ 0))) = false := by simpa using c30))
                    (try (have c30b3 : ¬ (t168 = (decide (x8_4 ≥ 0))) := by simpa using c30))
                    clear c30
                    (first | rw [c30b0] | (simp only [i64_w, i32_w]; rw [c30b0]) | skip)
                    have H' := Aside0.mk H
                    clear H
                    go_wp2
                    repeat (go_quiet (fail); try go_wp2)
                    go_meet
                    case rel => exact ⟨_, (true), (by first | rfl | (simp; done) | (simp [*]; done)), H', ⟨by have := HK1.out; have := HJ2.out; have := HJ5.out; have := HK4.out; have := HJ19.out; first | omega | exact Nat.le_refl _⟩, ⟨by (with_reducible repeat (first | apply Kd.R_alloc | apply Kd.R_drewN | apply Kd.R_drew)); exact Kd.R_mono HO170.out (fun _ hk => trivial)⟩, ⟨by repeat (first | (with_reducible first | exact HB.out | apply below_alloc | apply pw_below_drewN | apply below_drew1) | exact HB.out)⟩⟩
                   ·rw [if_neg c30] at H
                    have c30b0 : (t168 != (decide (x8_4 ≥ 0))) = false := by simpa using c30
                    (try (have c30b1 : decide (t168 = (decide (x8_4 ≥ 0))) = true := by simpa using c30))
                    (try (have c30b2 : (t168 == (decide (x8_4 ≥ 0))) = true := by simpa using c30))
                    clear c30
                    (first | rw [c30b0] | (simp only [i64_w, i32_w]; rw [c30b0]) | skip)
                    by_cases c31 : t168 = true
                    ·subst c31
                     have H1 : (if 0 ≤ x8_4 then (if x8_4 < (x5_1.length : Int) then (if t167 = ((rd_T23 x5_1 x8_4).f1) then (tendrillaw8_ShapeGrows.j5 kj19 l0 l1 x6_1 x7_1 t166 true false) else (tendrillaw8_ShapeGrows.j5 kj19 l0 l1 x6_1 x7_1 t166 true true)) else (none)) else (none)) = some r := by rw [if_pos rfl] at H; exact H
                     clear H
                     have H := H1
                     clear H1
                     by_cases c32 : 0 ≤ x8_4
                     ·rw [if_pos c32] at H
                      have c32b0 : decide (0 ≤ x8_4) = true := decide_eq_true c32
                      clear c32
                      by_cases c33 : x8_4 < (x5_1.length : Int)
                      ·rw [if_pos c33] at H
                       have c33b0 : decide (x8_4 < (x5_1.length : Int)) = true := decide_eq_true c33
                       clear c33
                       by_cases c34 : t167 = ((rd_T23 x5_1 x8_4).f1)
                       ·rw [if_pos c34] at H
                        have c34b0 : (t167 == ((rd_T23 x5_1 x8_4).f1)) = true := beq_iff_eq.mpr c34
                        have c34b1 : (t167 != ((rd_T23 x5_1 x8_4).f1)) = false := bne_eq_false_iff_eq.mpr c34
                        clear c34
                        have H' := Aside0.mk H
                        clear H
                        have p171 : 0 ≤ (x8_4 : Int) := of_decide_eq_true (by first | (with_reducible assumption) | assumption)
                        have q171 : x8_4 < (x5_1.length : Int) := of_decide_eq_true (by first | (with_reducible assumption) | assumption)
                        obtain ⟨ad171, e171, hx171_0, hx171_1⟩ := at_T23 (Kd.R_reads' HO_10.out).2.2 x8_4 p171 q171
                        cases e171
                        replace p171 := eq_true p171
                        replace q171 := eq_true q171
                        go_wp2
                        repeat (go_quiet (fail); try go_wp2)
                        go_meet
                        case rel => exact ⟨_, (false), (by first | rfl | (simp; done) | (simp [*]; done)), H', ⟨by have := HK1.out; have := HJ2.out; have := HJ5.out; have := HK4.out; have := HJ19.out; first | omega | exact Nat.le_refl _⟩, ⟨by (with_reducible repeat (first | apply Kd.R_alloc | apply Kd.R_drewN | apply Kd.R_drew)); exact Kd.R_mono HO170.out (fun _ hk => trivial)⟩, ⟨by repeat (first | (with_reducible first | exact HB.out | apply below_alloc | apply pw_below_drewN | apply below_drew1) | exact HB.out)⟩⟩
                       ·rw [if_neg c34] at H
                        have c34b0 : (t167 == ((rd_T23 x5_1 x8_4).f1)) = false := beq_eq_false_iff_ne.mpr c34
                        have c34b1 : (t167 != ((rd_T23 x5_1 x8_4).f1)) = true := bne_iff_ne.mpr c34
                        have H' := Aside0.mk H
                        clear H
                        have p171 : 0 ≤ (x8_4 : Int) := of_decide_eq_true (by first | (with_reducible assumption) | assumption)
                        have q171 : x8_4 < (x5_1.length : Int) := of_decide_eq_true (by first | (with_reducible assumption) | assumption)
                        obtain ⟨ad171, e171, hx171_0, hx171_1⟩ := at_T23 (Kd.R_reads' HO_10.out).2.2 x8_4 p171 q171
                        cases e171
                        replace p171 := eq_true p171
                        replace q171 := eq_true q171
                        go_wp2
                        repeat (go_quiet (fail); try go_wp2)
                        go_meet
                        case rel => exact ⟨_, (true), (by first | rfl | (simp; done) | (simp [*]; done)), H', ⟨by have := HK1.out; have := HJ2.out; have := HJ5.out; have := HK4.out; have := HJ19.out; first | omega | exact Nat.le_refl _⟩, ⟨by (with_reducible repeat (first | apply Kd.R_alloc | apply Kd.R_drewN | apply Kd.R_drew)); exact Kd.R_mono HO170.out (fun _ hk => trivial)⟩, ⟨by repeat (first | (with_reducible first | exact HB.out | apply below_alloc | apply pw_below_drewN | apply below_drew1) | exact HB.out)⟩⟩
                      ·rw [if_neg c33] at H
                       exact absurd H (by simp)
                     ·rw [if_neg c32] at H
                      exact absurd H (by simp)
                    ·replace c31 := Bool.eq_false_iff.mpr c31
                     subst c31
                     have H1 : (tendrillaw8_ShapeGrows.j5 kj19 l0 l1 x6_1 x7_1 t166 false (t167 != 0)) = some r := by rw [if_neg (show ¬ (false = true) by decide)] at H; exact H
                     clear H
                     have H := H1
                     clear H1
                     have H' := Aside0.mk H
                     clear H
                     go_wp2
                     repeat (go_quiet (fail); try go_wp2)
                     go_meet
                     case rel => exact ⟨_, ((t167 != 0)), (by first | rfl | (simp; done) | (simp [*]; done)), H', ⟨by have := HK1.out; have := HJ2.out; have := HJ5.out; have := HK4.out; have := HJ19.out; first | omega | exact Nat.le_refl _⟩, ⟨by (with_reducible repeat (first | apply Kd.R_alloc | apply Kd.R_drewN | apply Kd.R_drew)); exact Kd.R_mono HO170.out (fun _ hk => trivial)⟩, ⟨by repeat (first | (with_reducible first | exact HB.out | apply below_alloc | apply pw_below_drewN | apply below_drew1) | exact HB.out)⟩⟩
                  case rest => as_aux_lemma =>
                   clear HC28
                   try clear c1
                   try clear p1
                   try clear q1
                   try clear hx1
                   try clear c2
                   try clear p2
                   try clear c3
                   try clear c4
                   try clear c4b0
                   try clear c5
                   try clear p6
                   try clear c7
                   try clear c7b0
                   try clear c8
                   try clear c8b0
                   try clear c10
                   try clear c11
                   try clear c11b0
                   try clear c12
                   try clear c14
                   try clear c14b0
                   try clear c15
                   try clear c15b0
                   try clear p15
                   try clear q15
                   try clear hx15
                   try clear c16
                   try clear c16b0
                   try clear p16
                   try clear q16
                   try clear hx16
                   try clear c17
                   try clear c17b0
                   try clear p17
                   try clear q17
                   try clear hx17
                   try clear c18
                   try clear c18b0
                   try clear c19
                   try clear c19b0
                   try clear c19b1
                   try clear c21
                   try clear c21b0
                   try clear c22
                   try clear c22b0
                   try clear c24
                   try clear c25
                   try clear c25b0
                   try clear c26
                   try clear c26b0
                   try clear c30
                   try clear c30b0
                   try clear c30b1
                   try clear c30b2
                   try clear c31
                   try clear c32
                   try clear c32b0
                   try clear c33
                   try clear c33b0
                   try clear c34
                   try clear c34b0
                   try clear c34b1
                   try clear hx158_0
                   try clear hx158_1
                   try clear hx160_0
                   try clear hx160_1
                   try clear hx161_0
                   try clear hx161_1
                   try clear hx162_0
                   try clear hx162_1
                   try clear hx163_0
                   try clear hx163_1
                   try clear hx164_0
                   try clear hx165_0
                   try clear hx165_1
                   try clear hx171_0
                   try clear hx171_1
                   try clear p1
                   try clear p15
                   try clear p158
                   try clear p16
                   try clear p160
                   try clear p161
                   try clear p162
                   try clear p163
                   try clear p164
                   try clear p165
                   try clear p171
                   try clear p2
                   try clear p6
                   try clear q1
                   try clear q15
                   try clear q158
                   try clear q16
                   try clear q160
                   try clear q161
                   try clear q162
                   try clear q163
                   try clear q164
                   try clear q165
                   try clear q171
                   obtain ⟨kq, x114_27, rfl, HA, HJ27, HO_11, HB⟩ := hcut
                   cases kq with
                   | zero => exact absurd HA.out (by simp [tendrillaw8_ShapeGrows.j5])
                   | succ kj27 =>
                    have H := HA.out
                    clear HA
                    simp only [tendrillaw8_ShapeGrows.j5] at H
                    by_cases c35 : x114_27 = true
                    ·subst c35
                     have H1 : (some false) = some r := by rw [if_pos rfl] at H; exact H
                     clear H
                     have H := H1
                     clear H1
                     obtain rfl := Option.some.inj H
                     go_wp2
                     repeat (go_quiet (fail); try go_wp2)
                     go_ret
                     exact ⟨by first | rfl | (simp [errW_none, errW_some] <;> rfl) | (simp [*, errW_none, errW_some] <;> rfl), by repeat (first | (with_reducible first | exact HB.out | apply below_alloc | apply pw_below_drewN | apply below_drew1) | exact HB.out)⟩
                    ·replace c35 := Bool.eq_false_iff.mpr c35
                     subst c35
                     have H1 : (if t168 = true then (tendrillaw8_ShapeGrows.j7 kj27 l0 l1 t166 (wrap64 (x6_1 - 1)) x7_1) else (tendrillaw8_ShapeGrows.j7 kj27 l0 l1 t166 x6_1 x7_1)) = some r := by rw [if_neg (show ¬ (false = true) by decide)] at H; exact H
                     clear H
                     have H := H1
                     clear H1
                     by_cases c36 : t168 = true
                     ·subst c36
                      have H1 : (tendrillaw8_ShapeGrows.j7 kj27 l0 l1 t166 (wrap64 (x6_1 - 1)) x7_1) = some r := by rw [if_pos rfl] at H; exact H
                      clear H
                      have H := H1
                      clear H1
                      have H' := Aside0.mk H
                      clear H
                      go_wp2
                      repeat (go_quiet (fail); try go_wp2)
                      go_meet
                      case rel => exact ⟨_, (t166), (wrap64 (x6_1 - 1)), (by first | rfl | (simp; done) | (simp [*]; done)), H', ⟨by have := HK1.out; have := HJ2.out; have := HJ5.out; have := HK4.out; have := HJ19.out; have := HJ27.out; first | omega | exact Nat.le_refl _⟩, ⟨by (with_reducible repeat (first | apply Kd.R_alloc | apply Kd.R_drewN | apply Kd.R_drew)); exact HO_11.out⟩, ⟨by repeat (first | (with_reducible first | exact HB.out | apply below_alloc | apply pw_below_drewN | apply below_drew1) | exact HB.out)⟩⟩
                     ·replace c36 := Bool.eq_false_iff.mpr c36
                      subst c36
                      have H1 : (tendrillaw8_ShapeGrows.j7 kj27 l0 l1 t166 x6_1 x7_1) = some r := by rw [if_neg (show ¬ (false = true) by decide)] at H; exact H
                      clear H
                      have H := H1
                      clear H1
                      have H' := Aside0.mk H
                      clear H
                      go_wp2
                      repeat (go_quiet (fail); try go_wp2)
                      go_meet
                      case rel => exact ⟨_, (t166), (x6_1), (by first | rfl | (simp; done) | (simp [*]; done)), H', ⟨by have := HK1.out; have := HJ2.out; have := HJ5.out; have := HK4.out; have := HJ19.out; have := HJ27.out; first | omega | exact Nat.le_refl _⟩, ⟨by (with_reducible repeat (first | apply Kd.R_alloc | apply Kd.R_drewN | apply Kd.R_drew)); exact HO_11.out⟩, ⟨by repeat (first | (with_reducible first | exact HB.out | apply below_alloc | apply pw_below_drewN | apply below_drew1) | exact HB.out)⟩⟩
                 ·rw [if_neg c26] at H
                  exact absurd H (by simp)
                ·rw [if_neg c25] at H
                 exact absurd H (by simp)
               ·replace c24 := Bool.eq_false_iff.mpr c24
                subst c24
                have H1 : (if 0 ≤ x7_1 then (if x7_1 < (l0.length : Int) then ((shape_Put.f x5_1 ((rd_T23 l0 x7_1).f0) ((rd_T23 l0 x7_1).f1)).bind fun bt173 => (if (bt173.2.2 != (decide (x8_4 ≥ 0))) = true then (tendrillaw8_ShapeGrows.j6 kj19 l0 l1 x6_1 x7_1 bt173.1 bt173.2.2 true) else (if bt173.2.2 = true then (if 0 ≤ x8_4 then (if x8_4 < (x5_1.length : Int) then (if bt173.2.1 = ((rd_T23 x5_1 x8_4).f1) then (tendrillaw8_ShapeGrows.j6 kj19 l0 l1 x6_1 x7_1 bt173.1 bt173.2.2 false) else (tendrillaw8_ShapeGrows.j6 kj19 l0 l1 x6_1 x7_1 bt173.1 bt173.2.2 true)) else (none)) else (none)) else (tendrillaw8_ShapeGrows.j6 kj19 l0 l1 x6_1 x7_1 bt173.1 bt173.2.2 (bt173.2.1 != 0))))) else (none)) else (none)) = some r := by rw [if_neg (show ¬ (false = true) by decide)] at H; exact H
                clear H
                have H := H1
                clear H1
                by_cases c37 : 0 ≤ x7_1
                ·rw [if_pos c37] at H
                 have c37b0 : decide (0 ≤ x7_1) = true := decide_eq_true c37
                 clear c37
                 by_cases c38 : x7_1 < (l0.length : Int)
                 ·rw [if_pos c38] at H
                  have c38b0 : decide (x7_1 < (l0.length : Int)) = true := decide_eq_true c38
                  clear c38
                  replace H := Option.bind_eq_some_iff.mp H
                  obtain ⟨⟨t173, t176, t177⟩, A390, H⟩ := H
                  replace H : (if (t177 != (decide (x8_4 ≥ 0))) = true then (tendrillaw8_ShapeGrows.j6 kj19 l0 l1 x6_1 x7_1 t173 t177 true) else (if t177 = true then (if 0 ≤ x8_4 then (if x8_4 < (x5_1.length : Int) then (if t176 = ((rd_T23 x5_1 x8_4).f1) then (tendrillaw8_ShapeGrows.j6 kj19 l0 l1 x6_1 x7_1 t173 t177 false) else (tendrillaw8_ShapeGrows.j6 kj19 l0 l1 x6_1 x7_1 t173 t177 true)) else (none)) else (none)) else (tendrillaw8_ShapeGrows.j6 kj19 l0 l1 x6_1 x7_1 t173 t177 (t176 != 0)))) = some r := H
                  have A39 := Aside0.mk A390
                  clear A390
                  have HC40 := Aside0.mk H
                  clear H
                  have p172 : 0 ≤ (x7_1 : Int) := of_decide_eq_true (by first | (with_reducible assumption) | assumption)
                  have q172 : x7_1 < (l0.length : Int) := of_decide_eq_true (by first | (with_reducible assumption) | assumption)
                  obtain ⟨ad172, e172, hx172_0, hx172_1⟩ := at_T23 HR0.out x7_1 p172 q172
                  cases e172
                  replace hx172_0 := (HB.out.cell (World.block_lt_of_cell? w _ hx172_0)).trans hx172_0
                  replace hx172_1 := (HB.out.cell (World.block_lt_of_cell? w _ hx172_1)).trans hx172_1
                  replace p172 := eq_true p172
                  replace q172 := eq_true q172
                  go_upto_region 23 with (first | (go_at_call 21; (with_reducible refine (shape_Put.calls _ _ x5_1 ((rd_T23 l0 x7_1).f0) ((rd_T23 l0 x7_1).f1) t173 t176 t177 _ ?side1 ?side2 A39.out).mono ?_); (case side1 => repeat (first | exact (Kd.R_reads' HO_5.out).2.2 | (with_reducible refine Kd.C_alloc ?_ _) | (with_reducible refine Kd.C_drewN ?_ _) | (with_reducible refine Kd.C_drew ?_))); (case side2 => exact (Kd.R_reads' HO_5.out).2.1); rintro e w41 ⟨v174, rfl, ho0, hb⟩; have n0_ := Aside0.mk (Kd.R_elder' (by (with_reducible repeat (first | apply Kd.R_alloc | apply Kd.R_drewN | apply Kd.R_drew)); exact HO_5.out) (Kd.R_base ho0) hb); have n1_ := Aside0.mk (Kd.R_elder' (by (with_reducible repeat (first | apply Kd.R_alloc | apply Kd.R_drewN | apply Kd.R_drew)); exact HO_10.out) (Kd.R_base ho0) hb); have n2_ := Aside0.mk (Kd.R_lower (Kd.R_new' (Kd.R_new' ho0 (Kd.R_lt (by (with_reducible repeat (first | apply Kd.R_alloc | apply Kd.R_drewN | apply Kd.R_drew)); exact HO_5.out))) (Kd.R_lt (by (with_reducible repeat (first | apply Kd.R_alloc | apply Kd.R_drewN | apply Kd.R_drew)); exact HO_10.out))) (below_size (by repeat (first | (with_reducible first | exact HB.out | apply below_alloc | apply pw_below_drewN | apply below_drew1) | exact HB.out)))); have n3_ := Aside0.mk (below_step (by repeat (first | (with_reducible first | exact HB.out | apply below_alloc | apply pw_below_drewN | apply below_drew1) | exact HB.out)) hb); clear HO_5; clear HO_10; clear HB; have HO_5 := n0_; have HO_10 := n1_; have HO175 := n2_; have HB := n3_; clear n0_ n1_ n2_ n3_; (try clear hb); (try clear hb2); (try clear hk); (try clear hi); (try clear ho0)))
                  repeat (go_quiet (first | (go_at_call 21; (with_reducible refine (shape_Put.calls _ _ x5_1 ((rd_T23 l0 x7_1).f0) ((rd_T23 l0 x7_1).f1) t173 t176 t177 _ ?side1 ?side2 A39.out).mono ?_); (case side1 => repeat (first | exact (Kd.R_reads' HO_5.out).2.2 | (with_reducible refine Kd.C_alloc ?_ _) | (with_reducible refine Kd.C_drewN ?_ _) | (with_reducible refine Kd.C_drew ?_))); (case side2 => exact (Kd.R_reads' HO_5.out).2.1); rintro e w41 ⟨v174, rfl, ho0, hb⟩; have n0_ := Aside0.mk (Kd.R_elder' (by (with_reducible repeat (first | apply Kd.R_alloc | apply Kd.R_drewN | apply Kd.R_drew)); exact HO_5.out) (Kd.R_base ho0) hb); have n1_ := Aside0.mk (Kd.R_elder' (by (with_reducible repeat (first | apply Kd.R_alloc | apply Kd.R_drewN | apply Kd.R_drew)); exact HO_10.out) (Kd.R_base ho0) hb); have n2_ := Aside0.mk (Kd.R_lower (Kd.R_new' (Kd.R_new' ho0 (Kd.R_lt (by (with_reducible repeat (first | apply Kd.R_alloc | apply Kd.R_drewN | apply Kd.R_drew)); exact HO_5.out))) (Kd.R_lt (by (with_reducible repeat (first | apply Kd.R_alloc | apply Kd.R_drewN | apply Kd.R_drew)); exact HO_10.out))) (below_size (by repeat (first | (with_reducible first | exact HB.out | apply below_alloc | apply pw_below_drewN | apply below_drew1) | exact HB.out)))); have n3_ := Aside0.mk (below_step (by repeat (first | (with_reducible first | exact HB.out | apply below_alloc | apply pw_below_drewN | apply below_drew1) | exact HB.out)) hb); clear HO_5; clear HO_10; clear HB; have HO_5 := n0_; have HO_10 := n1_; have HO175 := n2_; have HB := n3_; clear n0_ n1_ n2_ n3_; (try clear hb); (try clear hb2); (try clear hk); (try clear hi); (try clear ho0))); go_upto_region 23 with (first | (go_at_call 21; (with_reducible refine (shape_Put.calls _ _ x5_1 ((rd_T23 l0 x7_1).f0) ((rd_T23 l0 x7_1).f1) t173 t176 t177 _ ?side1 ?side2 A39.out).mono ?_); (case side1 => repeat (first | exact (Kd.R_reads' HO_5.out).2.2 | (with_reducible refine Kd.C_alloc ?_ _) | (with_reducible refine Kd.C_drewN ?_ _) | (with_reducible refine Kd.C_drew ?_))); (case side2 => exact (Kd.R_reads' HO_5.out).2.1); rintro e w41 ⟨v174, rfl, ho0, hb⟩; have n0_ := Aside0.mk (Kd.R_elder' (by (with_reducible repeat (first | apply Kd.R_alloc | apply Kd.R_drewN | apply Kd.R_drew)); exact HO_5.out) (Kd.R_base ho0) hb); have n1_ := Aside0.mk (Kd.R_elder' (by (with_reducible repeat (first | apply Kd.R_alloc | apply Kd.R_drewN | apply Kd.R_drew)); exact HO_10.out) (Kd.R_base ho0) hb); have n2_ := Aside0.mk (Kd.R_lower (Kd.R_new' (Kd.R_new' ho0 (Kd.R_lt (by (with_reducible repeat (first | apply Kd.R_alloc | apply Kd.R_drewN | apply Kd.R_drew)); exact HO_5.out))) (Kd.R_lt (by (with_reducible repeat (first | apply Kd.R_alloc | apply Kd.R_drewN | apply Kd.R_drew)); exact HO_10.out))) (below_size (by repeat (first | (with_reducible first | exact HB.out | apply below_alloc | apply pw_below_drewN | apply below_drew1) | exact HB.out)))); have n3_ := Aside0.mk (below_step (by repeat (first | (with_reducible first | exact HB.out | apply below_alloc | apply pw_below_drewN | apply below_drew1) | exact HB.out)) hb); clear HO_5; clear HO_10; clear HB; have HO_5 := n0_; have HO_10 := n1_; have HO175 := n2_; have HB := n3_; clear n0_ n1_ n2_ n3_; (try clear hb); (try clear hb2); (try clear hk); (try clear hi); (try clear ho0))))
                  (try simp only [Act.put, List.setIfInBounds_toArray, List.set_cons_zero, List.set_cons_succ])
                  go_cut [152] (fun v152 wc => ∃ (kq : Nat) (x152_39 : Bool), v152 = .bool x152_39 ∧ Aside0 (tendrillaw8_ShapeGrows.j6 kq l0 l1 x6_1 x7_1 t173 t177 x152_39 = some r) ∧ Aside0 (kq ≤ kj19) ∧ Aside0 (Kd.R k23 23 wc w.heap.size (fun _ => True) v174 t173) ∧ Aside0 (Below w.heap.size w wc))
                  case first => as_aux_lemma =>
                   have H := HC40.out
                   clear HC40
                   by_cases c42 : (t177 != (decide (x8_4 ≥ 0))) = true
                   ·rw [if_pos c42] at H
                    have c42b0 : (t177 != (decide (x8_4 ≥ 0))) = true := c42
                    (try (have c42b1 : decide (t177 = (decide (x8_4 ≥ 0))) = false := by simpa using c42))
                    (try (have c42b2 : (t177 == (decide (x8_4 ≥ 0))) = false := by simpa using c42))
                    (try (have c42b3 : ¬ (t177 = (decide (x8_4 ≥ 0))) := by simpa using c42))
                    clear c42
                    (first | rw [c42b0] | (simp only [i64_w, i32_w]; rw [c42b0]) | skip)
                    have H' := Aside0.mk H
                    clear H
                    go_wp2
                    repeat (go_quiet (fail); try go_wp2)
                    go_meet
                    case rel => exact ⟨_, (true), (by first | rfl | (simp; done) | (simp [*]; done)), H', ⟨by have := HK1.out; have := HJ2.out; have := HJ5.out; have := HK4.out; have := HJ19.out; first | omega | exact Nat.le_refl _⟩, ⟨by (with_reducible repeat (first | apply Kd.R_alloc | apply Kd.R_drewN | apply Kd.R_drew)); exact Kd.R_mono HO175.out (fun _ hk => trivial)⟩, ⟨by repeat (first | (with_reducible first | exact HB.out | apply below_alloc | apply pw_below_drewN | apply below_drew1) | exact HB.out)⟩⟩
                   ·rw [if_neg c42] at H
                    have c42b0 : (t177 != (decide (x8_4 ≥ 0))) = false := by simpa using c42
                    (try (have c42b1 : decide (t177 = (decide (x8_4 ≥ 0))) = true := by simpa using c42))
                    (try (have c42b2 : (t177 == (decide (x8_4 ≥ 0))) = true := by simpa using c42))
                    clear c42
                    (first | rw [c42b0] | (simp only [i64_w, i32_w]; rw [c42b0]) | skip)
                    by_cases c43 : t177 = true
                    ·subst c43
                     have H1 : (if 0 ≤ x8_4 then (if x8_4 < (x5_1.length : Int) then (if t176 = ((rd_T23 x5_1 x8_4).f1) then (tendrillaw8_ShapeGrows.j6 kj19 l0 l1 x6_1 x7_1 t173 true false) else (tendrillaw8_ShapeGrows.j6 kj19 l0 l1 x6_1 x7_1 t173 true true)) else (none)) else (none)) = some r := by rw [if_pos rfl] at H; exact H
                     clear H
                     have H := H1
                     clear H1
                     by_cases c44 : 0 ≤ x8_4
                     ·rw [if_pos c44] at H
                      have c44b0 : decide (0 ≤ x8_4) = true := decide_eq_true c44
                      clear c44
                      by_cases c45 : x8_4 < (x5_1.length : Int)
                      ·rw [if_pos c45] at H
                       have c45b0 : decide (x8_4 < (x5_1.length : Int)) = true := decide_eq_true c45
                       clear c45
                       by_cases c46 : t176 = ((rd_T23 x5_1 x8_4).f1)
                       ·rw [if_pos c46] at H
                        have c46b0 : (t176 == ((rd_T23 x5_1 x8_4).f1)) = true := beq_iff_eq.mpr c46
                        have c46b1 : (t176 != ((rd_T23 x5_1 x8_4).f1)) = false := bne_eq_false_iff_eq.mpr c46
                        clear c46
                        have H' := Aside0.mk H
                        clear H
                        have p178 : 0 ≤ (x8_4 : Int) := of_decide_eq_true (by first | (with_reducible assumption) | assumption)
                        have q178 : x8_4 < (x5_1.length : Int) := of_decide_eq_true (by first | (with_reducible assumption) | assumption)
                        obtain ⟨ad178, e178, hx178_0, hx178_1⟩ := at_T23 (Kd.R_reads' HO_10.out).2.2 x8_4 p178 q178
                        cases e178
                        replace p178 := eq_true p178
                        replace q178 := eq_true q178
                        go_wp2
                        repeat (go_quiet (fail); try go_wp2)
                        go_meet
                        case rel => exact ⟨_, (false), (by first | rfl | (simp; done) | (simp [*]; done)), H', ⟨by have := HK1.out; have := HJ2.out; have := HJ5.out; have := HK4.out; have := HJ19.out; first | omega | exact Nat.le_refl _⟩, ⟨by (with_reducible repeat (first | apply Kd.R_alloc | apply Kd.R_drewN | apply Kd.R_drew)); exact Kd.R_mono HO175.out (fun _ hk => trivial)⟩, ⟨by repeat (first | (with_reducible first | exact HB.out | apply below_alloc | apply pw_below_drewN | apply below_drew1) | exact HB.out)⟩⟩
                       ·rw [if_neg c46] at H
                        have c46b0 : (t176 == ((rd_T23 x5_1 x8_4).f1)) = false := beq_eq_false_iff_ne.mpr c46
                        have c46b1 : (t176 != ((rd_T23 x5_1 x8_4).f1)) = true := bne_iff_ne.mpr c46
                        have H' := Aside0.mk H
                        clear H
                        have p178 : 0 ≤ (x8_4 : Int) := of_decide_eq_true (by first | (with_reducible assumption) | assumption)
                        have q178 : x8_4 < (x5_1.length : Int) := of_decide_eq_true (by first | (with_reducible assumption) | assumption)
                        obtain ⟨ad178, e178, hx178_0, hx178_1⟩ := at_T23 (Kd.R_reads' HO_10.out).2.2 x8_4 p178 q178
                        cases e178
                        replace p178 := eq_true p178
                        replace q178 := eq_true q178
                        go_wp2
                        repeat (go_quiet (fail); try go_wp2)
                        go_meet
                        case rel => exact ⟨_, (true), (by first | rfl | (simp; done) | (simp [*]; done)), H', ⟨by have := HK1.out; have := HJ2.out; have := HJ5.out; have := HK4.out; have := HJ19.out; first | omega | exact Nat.le_refl _⟩, ⟨by (with_reducible repeat (first | apply Kd.R_alloc | apply Kd.R_drewN | apply Kd.R_drew)); exact Kd.R_mono HO175.out (fun _ hk => trivial)⟩, ⟨by repeat (first | (with_reducible first | exact HB.out | apply below_alloc | apply pw_below_drewN | apply below_drew1) | exact HB.out)⟩⟩
                      ·rw [if_neg c45] at H
                       exact absurd H (by simp)
                     ·rw [if_neg c44] at H
                      exact absurd H (by simp)
                    ·replace c43 := Bool.eq_false_iff.mpr c43
                     subst c43
                     have H1 : (tendrillaw8_ShapeGrows.j6 kj19 l0 l1 x6_1 x7_1 t173 false (t176 != 0)) = some r := by rw [if_neg (show ¬ (false = true) by decide)] at H; exact H
                     clear H
                     have H := H1
                     clear H1
                     have H' := Aside0.mk H
                     clear H
                     go_wp2
                     repeat (go_quiet (fail); try go_wp2)
                     go_meet
                     case rel => exact ⟨_, ((t176 != 0)), (by first | rfl | (simp; done) | (simp [*]; done)), H', ⟨by have := HK1.out; have := HJ2.out; have := HJ5.out; have := HK4.out; have := HJ19.out; first | omega | exact Nat.le_refl _⟩, ⟨by (with_reducible repeat (first | apply Kd.R_alloc | apply Kd.R_drewN | apply Kd.R_drew)); exact Kd.R_mono HO175.out (fun _ hk => trivial)⟩, ⟨by repeat (first | (with_reducible first | exact HB.out | apply below_alloc | apply pw_below_drewN | apply below_drew1) | exact HB.out)⟩⟩
                  case rest => as_aux_lemma =>
                   clear HC40
                   try clear c1
                   try clear p1
                   try clear q1
                   try clear hx1
                   try clear c2
                   try clear p2
                   try clear c3
                   try clear c4
                   try clear c4b0
                   try clear c5
                   try clear p6
                   try clear c7
                   try clear c7b0
                   try clear c8
                   try clear c8b0
                   try clear c10
                   try clear c11
                   try clear c11b0
                   try clear c12
                   try clear c14
                   try clear c14b0
                   try clear c15
                   try clear c15b0
                   try clear p15
                   try clear q15
                   try clear hx15
                   try clear c16
                   try clear c16b0
                   try clear p16
                   try clear q16
                   try clear hx16
                   try clear c17
                   try clear c17b0
                   try clear p17
                   try clear q17
                   try clear hx17
                   try clear c18
                   try clear c18b0
                   try clear c19
                   try clear c19b0
                   try clear c19b1
                   try clear c21
                   try clear c21b0
                   try clear c22
                   try clear c22b0
                   try clear c24
                   try clear c25
                   try clear c25b0
                   try clear c26
                   try clear c26b0
                   try clear c30
                   try clear c30b0
                   try clear c30b1
                   try clear c30b2
                   try clear c31
                   try clear c32
                   try clear c32b0
                   try clear c33
                   try clear c33b0
                   try clear c34
                   try clear c34b0
                   try clear c34b1
                   try clear c35
                   try clear c36
                   try clear c37
                   try clear c37b0
                   try clear c38
                   try clear c38b0
                   try clear c42
                   try clear c42b0
                   try clear c42b1
                   try clear c42b2
                   try clear c43
                   try clear c44
                   try clear c44b0
                   try clear c45
                   try clear c45b0
                   try clear c46
                   try clear c46b0
                   try clear c46b1
                   try clear hx158_0
                   try clear hx158_1
                   try clear hx160_0
                   try clear hx160_1
                   try clear hx161_0
                   try clear hx161_1
                   try clear hx162_0
                   try clear hx162_1
                   try clear hx163_0
                   try clear hx163_1
                   try clear hx164_0
                   try clear hx165_0
                   try clear hx165_1
                   try clear hx171_0
                   try clear hx171_1
                   try clear hx172_0
                   try clear hx172_1
                   try clear hx178_0
                   try clear hx178_1
                   try clear p1
                   try clear p15
                   try clear p158
                   try clear p16
                   try clear p160
                   try clear p161
                   try clear p162
                   try clear p163
                   try clear p164
                   try clear p165
                   try clear p17
                   try clear p171
                   try clear p172
                   try clear p178
                   try clear p2
                   try clear p6
                   try clear q1
                   try clear q15
                   try clear q158
                   try clear q16
                   try clear q160
                   try clear q161
                   try clear q162
                   try clear q163
                   try clear q164
                   try clear q165
                   try clear q17
                   try clear q171
                   try clear q172
                   try clear q178
                   obtain ⟨kq, x152_39, rfl, HA, HJ39, HO_14, HB⟩ := hcut
                   cases kq with
                   | zero => exact absurd HA.out (by simp [tendrillaw8_ShapeGrows.j6])
                   | succ kj39 =>
                    have H := HA.out
                    clear HA
                    simp only [tendrillaw8_ShapeGrows.j6] at H
                    by_cases c47 : x152_39 = true
                    ·subst c47
                     have H1 : (some false) = some r := by rw [if_pos rfl] at H; exact H
                     clear H
                     have H := H1
                     clear H1
                     obtain rfl := Option.some.inj H
                     go_wp2
                     repeat (go_quiet (fail); try go_wp2)
                     go_ret
                     exact ⟨by first | rfl | (simp [errW_none, errW_some] <;> rfl) | (simp [*, errW_none, errW_some] <;> rfl), by repeat (first | (with_reducible first | exact HB.out | apply below_alloc | apply pw_below_drewN | apply below_drew1) | exact HB.out)⟩
                    ·replace c47 := Bool.eq_false_iff.mpr c47
                     subst c47
                     have H1 : (if t177 = true then (if 0 ≤ x7_1 then (if x7_1 < (l0.length : Int) then ((shape_Seek.f kj39 t173 ((rd_T23 l0 x7_1).f0)).bind fun t180 => (if t180 < 0 then (some false) else (if t180 ≥ (t173.length : Int) then (some false) else (if 0 ≤ t180 then (if t180 < (t173.length : Int) then (if (!((((rd_T23 t173 t180).f0).toList) == (((rd_T23 l0 x7_1).f0).toList)) || (!(((rd_T23 t173 t180).f1) == ((rd_T23 l0 x7_1).f1)))) = true then (some false) else (tendrillaw8_ShapeGrows.j7 kj39 l0 l1 t173 x6_1 x7_1)) else (none)) else (none))))) else (none)) else (none)) else (if 0 ≤ x7_1 then (if x7_1 < (l0.length : Int) then ((shape_Seek.f kj39 t173 ((rd_T23 l0 x7_1).f0)).bind fun t184 => (if t184 < 0 then (some false) else (if t184 ≥ (t173.length : Int) then (some false) else (if 0 ≤ t184 then (if t184 < (t173.length : Int) then (if (!((((rd_T23 t173 t184).f0).toList) == (((rd_T23 l0 x7_1).f0).toList)) || (!(((rd_T23 t173 t184).f1) == ((rd_T23 l0 x7_1).f1)))) = true then (some false) else (tendrillaw8_ShapeGrows.j7 kj39 l0 l1 t173 (wrap64 (x6_1 + 1)) x7_1)) else (none)) else (none))))) else (none)) else (none))) = some r := by rw [if_neg (show ¬ (false = true) by decide)] at H; exact H
                     clear H
                     have H := H1
                     clear H1
                     by_cases c48 : t177 = true
                     ·subst c48
                      have H1 : (if 0 ≤ x7_1 then (if x7_1 < (l0.length : Int) then ((shape_Seek.f kj39 t173 ((rd_T23 l0 x7_1).f0)).bind fun t180 => (if t180 < 0 then (some false) else (if t180 ≥ (t173.length : Int) then (some false) else (if 0 ≤ t180 then (if t180 < (t173.length : Int) then (if (!((((rd_T23 t173 t180).f0).toList) == (((rd_T23 l0 x7_1).f0).toList)) || (!(((rd_T23 t173 t180).f1) == ((rd_T23 l0 x7_1).f1)))) = true then (some false) else (tendrillaw8_ShapeGrows.j7 kj39 l0 l1 t173 x6_1 x7_1)) else (none)) else (none))))) else (none)) else (none)) = some r := by rw [if_pos rfl] at H; exact H
                      clear H
                      have H := H1
                      clear H1
                      by_cases c49 : 0 ≤ x7_1
                      ·rw [if_pos c49] at H
                       have c49b0 : decide (0 ≤ x7_1) = true := decide_eq_true c49
                       clear c49
                       by_cases c50 : x7_1 < (l0.length : Int)
                       ·rw [if_pos c50] at H
                        have c50b0 : decide (x7_1 < (l0.length : Int)) = true := decide_eq_true c50
                        clear c50
                        replace H := Option.bind_eq_some_iff.mp H
                        obtain ⟨t180, A510, H⟩ := H
                        replace H : (if t180 < 0 then (some false) else (if t180 ≥ (t173.length : Int) then (some false) else (if 0 ≤ t180 then (if t180 < (t173.length : Int) then (if (!((((rd_T23 t173 t180).f0).toList) == (((rd_T23 l0 x7_1).f0).toList)) || (!(((rd_T23 t173 t180).f1) == ((rd_T23 l0 x7_1).f1)))) = true then (some false) else (tendrillaw8_ShapeGrows.j7 kj39 l0 l1 t173 x6_1 x7_1)) else (none)) else (none)))) = some r := H
                        have A51 := Aside0.mk A510
                        clear A510
                        by_cases c52 : t180 < 0
                        ·rw [if_pos c52] at H
                         have c52b0 : decide (t180 < 0) = true := decide_eq_true c52
                         clear c52
                         obtain rfl := Option.some.inj H
                         have p179 : 0 ≤ (x7_1 : Int) := of_decide_eq_true (by first | (with_reducible assumption) | assumption)
                         have q179 : x7_1 < (l0.length : Int) := of_decide_eq_true (by first | (with_reducible assumption) | assumption)
                         obtain ⟨ad179, e179, hx179_0, hx179_1⟩ := at_T23 HR0.out x7_1 p179 q179
                         obtain rfl : ad172 = ad179 := (by injection e179)
                         replace hx179_0 := (HB.out.cell (World.block_lt_of_cell? w _ hx179_0)).trans hx179_0
                         replace hx179_1 := (HB.out.cell (World.block_lt_of_cell? w _ hx179_1)).trans hx179_1
                         replace p179 := eq_true p179
                         replace q179 := eq_true q179
                         obtain ⟨Ao53, co53, eo53⟩ := Kd.R_slice HO_14.out
                         subst eo53
                         go_wp2_with (first | (go_at_call 12; (with_reducible refine (shape_Seek.calls kj39 _ _ t173 ((rd_T23 l0 x7_1).f0) t180 _ ?side1 ?side2 A51.out).mono ?_); (case side1 => repeat (first | exact (Kd.R_reads' HO_14.out).2.2 | (with_reducible refine Kd.C_alloc ?_ _) | (with_reducible refine Kd.C_drewN ?_ _) | (with_reducible refine Kd.C_drew ?_))); (case side2 => exact (Kd.R_reads' HO_14.out).2.1); rintro e w54 ⟨rfl, hb⟩; have n0_ := Aside0.mk (Kd.R_below (by (with_reducible repeat (first | apply Kd.R_alloc | apply Kd.R_drewN | apply Kd.R_drew)); exact HO_14.out) hb); have n1_ := Aside0.mk (below_step (by repeat (first | (with_reducible first | exact HB.out | apply below_alloc | apply pw_below_drewN | apply below_drew1) | exact HB.out)) hb); clear HO_14; clear HB; have HO_14 := n0_; have HB := n1_; clear n0_ n1_; (try clear hb); (try clear hb2); (try clear hk); (try clear hi)))
                         repeat (go_quiet (first | (go_at_call 12; (with_reducible refine (shape_Seek.calls kj39 _ _ t173 ((rd_T23 l0 x7_1).f0) t180 _ ?side1 ?side2 A51.out).mono ?_); (case side1 => repeat (first | exact (Kd.R_reads' HO_14.out).2.2 | (with_reducible refine Kd.C_alloc ?_ _) | (with_reducible refine Kd.C_drewN ?_ _) | (with_reducible refine Kd.C_drew ?_))); (case side2 => exact (Kd.R_reads' HO_14.out).2.1); rintro e w54 ⟨rfl, hb⟩; have n0_ := Aside0.mk (Kd.R_below (by (with_reducible repeat (first | apply Kd.R_alloc | apply Kd.R_drewN | apply Kd.R_drew)); exact HO_14.out) hb); have n1_ := Aside0.mk (below_step (by repeat (first | (with_reducible first | exact HB.out | apply below_alloc | apply pw_below_drewN | apply below_drew1) | exact HB.out)) hb); clear HO_14; clear HB; have HO_14 := n0_; have HB := n1_; clear n0_ n1_; (try clear hb); (try clear hb2); (try clear hk); (try clear hi))); try go_wp2_with (first | (go_at_call 12; (with_reducible refine (shape_Seek.calls kj39 _ _ t173 ((rd_T23 l0 x7_1).f0) t180 _ ?side1 ?side2 A51.out).mono ?_); (case side1 => repeat (first | exact (Kd.R_reads' HO_14.out).2.2 | (with_reducible refine Kd.C_alloc ?_ _) | (with_reducible refine Kd.C_drewN ?_ _) | (with_reducible refine Kd.C_drew ?_))); (case side2 => exact (Kd.R_reads' HO_14.out).2.1); rintro e w54 ⟨rfl, hb⟩; have n0_ := Aside0.mk (Kd.R_below (by (with_reducible repeat (first | apply Kd.R_alloc | apply Kd.R_drewN | apply Kd.R_drew)); exact HO_14.out) hb); have n1_ := Aside0.mk (below_step (by repeat (first | (with_reducible first | exact HB.out | apply below_alloc | apply pw_below_drewN | apply below_drew1) | exact HB.out)) hb); clear HO_14; clear HB; have HO_14 := n0_; have HB := n1_; clear n0_ n1_; (try clear hb); (try clear hb2); (try clear hk); (try clear hi))))
                         go_ret
                         exact ⟨by first | rfl | (simp [errW_none, errW_some] <;> rfl) | (simp [*, errW_none, errW_some] <;> rfl), by repeat (first | (with_reducible first | exact HB.out | apply below_alloc | apply pw_below_drewN | apply below_drew1) | exact HB.out)⟩
                        ·rw [if_neg c52] at H
                         have c52b0 : decide (t180 < 0) = false := decide_eq_false c52
                         clear c52
                         by_cases c55 : t180 ≥ (t173.length : Int)
                         ·rw [if_pos c55] at H
                          have c55b0 : decide ((t173.length : Int) ≤ t180) = true := decide_eq_true c55
                          clear c55
                          obtain rfl := Option.some.inj H
                          have p179 : 0 ≤ (x7_1 : Int) := of_decide_eq_true (by first | (with_reducible assumption) | assumption)
                          have q179 : x7_1 < (l0.length : Int) := of_decide_eq_true (by first | (with_reducible assumption) | assumption)
                          obtain ⟨ad179, e179, hx179_0, hx179_1⟩ := at_T23 HR0.out x7_1 p179 q179
                          obtain rfl : ad172 = ad179 := (by injection e179)
                          replace hx179_0 := (HB.out.cell (World.block_lt_of_cell? w _ hx179_0)).trans hx179_0
                          replace hx179_1 := (HB.out.cell (World.block_lt_of_cell? w _ hx179_1)).trans hx179_1
                          replace p179 := eq_true p179
                          replace q179 := eq_true q179
                          obtain ⟨Ao56, co56, eo56⟩ := Kd.R_slice HO_14.out
                          subst eo56
                          go_wp2_with (first | (go_at_call 12; (with_reducible refine (shape_Seek.calls kj39 _ _ t173 ((rd_T23 l0 x7_1).f0) t180 _ ?side1 ?side2 A51.out).mono ?_); (case side1 => repeat (first | exact (Kd.R_reads' HO_14.out).2.2 | (with_reducible refine Kd.C_alloc ?_ _) | (with_reducible refine Kd.C_drewN ?_ _) | (with_reducible refine Kd.C_drew ?_))); (case side2 => exact (Kd.R_reads' HO_14.out).2.1); rintro e w57 ⟨rfl, hb⟩; have n0_ := Aside0.mk (Kd.R_below (by (with_reducible repeat (first | apply Kd.R_alloc | apply Kd.R_drewN | apply Kd.R_drew)); exact HO_14.out) hb); have n1_ := Aside0.mk (below_step (by repeat (first | (with_reducible first | exact HB.out | apply below_alloc | apply pw_below_drewN | apply below_drew1) | exact HB.out)) hb); clear HO_14; clear HB; have HO_14 := n0_; have HB := n1_; clear n0_ n1_; (try clear hb); (try clear hb2); (try clear hk); (try clear hi)))
                          repeat (go_quiet (first | (go_at_call 12; (with_reducible refine (shape_Seek.calls kj39 _ _ t173 ((rd_T23 l0 x7_1).f0) t180 _ ?side1 ?side2 A51.out).mono ?_); (case side1 => repeat (first | exact (Kd.R_reads' HO_14.out).2.2 | (with_reducible refine Kd.C_alloc ?_ _) | (with_reducible refine Kd.C_drewN ?_ _) | (with_reducible refine Kd.C_drew ?_))); (case side2 => exact (Kd.R_reads' HO_14.out).2.1); rintro e w57 ⟨rfl, hb⟩; have n0_ := Aside0.mk (Kd.R_below (by (with_reducible repeat (first | apply Kd.R_alloc | apply Kd.R_drewN | apply Kd.R_drew)); exact HO_14.out) hb); have n1_ := Aside0.mk (below_step (by repeat (first | (with_reducible first | exact HB.out | apply below_alloc | apply pw_below_drewN | apply below_drew1) | exact HB.out)) hb); clear HO_14; clear HB; have HO_14 := n0_; have HB := n1_; clear n0_ n1_; (try clear hb); (try clear hb2); (try clear hk); (try clear hi))); try go_wp2_with (first | (go_at_call 12; (with_reducible refine (shape_Seek.calls kj39 _ _ t173 ((rd_T23 l0 x7_1).f0) t180 _ ?side1 ?side2 A51.out).mono ?_); (case side1 => repeat (first | exact (Kd.R_reads' HO_14.out).2.2 | (with_reducible refine Kd.C_alloc ?_ _) | (with_reducible refine Kd.C_drewN ?_ _) | (with_reducible refine Kd.C_drew ?_))); (case side2 => exact (Kd.R_reads' HO_14.out).2.1); rintro e w57 ⟨rfl, hb⟩; have n0_ := Aside0.mk (Kd.R_below (by (with_reducible repeat (first | apply Kd.R_alloc | apply Kd.R_drewN | apply Kd.R_drew)); exact HO_14.out) hb); have n1_ := Aside0.mk (below_step (by repeat (first | (with_reducible first | exact HB.out | apply below_alloc | apply pw_below_drewN | apply below_drew1) | exact HB.out)) hb); clear HO_14; clear HB; have HO_14 := n0_; have HB := n1_; clear n0_ n1_; (try clear hb); (try clear hb2); (try clear hk); (try clear hi))))
                          go_ret
                          exact ⟨by first | rfl | (simp [errW_none, errW_some] <;> rfl) | (simp [*, errW_none, errW_some] <;> rfl), by repeat (first | (with_reducible first | exact HB.out | apply below_alloc | apply pw_below_drewN | apply below_drew1) | exact HB.out)⟩
                         ·rw [if_neg c55] at H
                          have c55b0 : decide ((t173.length : Int) ≤ t180) = false := decide_eq_false c55
                          clear c55
                          by_cases c58 : 0 ≤ t180
                          ·rw [if_pos c58] at H
                           have c58b0 : decide (0 ≤ t180) = true := decide_eq_true c58
                           clear c58
                           by_cases c59 : t180 < (t173.length : Int)
                           ·rw [if_pos c59] at H
                            have c59b0 : decide (t180 < (t173.length : Int)) = true := decide_eq_true c59
                            clear c59
                            by_cases c60 : (!((((rd_T23 t173 t180).f0).toList) == (((rd_T23 l0 x7_1).f0).toList)) || (!(((rd_T23 t173 t180).f1) == ((rd_T23 l0 x7_1).f1)))) = true
                            ·rw [if_pos c60] at H
                             have c60b0 : (!((((rd_T23 t173 t180).f0).toList) == (((rd_T23 l0 x7_1).f0).toList)) || (!(((rd_T23 t173 t180).f1) == ((rd_T23 l0 x7_1).f1)))) = true := c60
                             clear c60
                             obtain rfl := Option.some.inj H
                             have p179 : 0 ≤ (x7_1 : Int) := of_decide_eq_true (by first | (with_reducible assumption) | assumption)
                             have q179 : x7_1 < (l0.length : Int) := of_decide_eq_true (by first | (with_reducible assumption) | assumption)
                             obtain ⟨ad179, e179, hx179_0, hx179_1⟩ := at_T23 HR0.out x7_1 p179 q179
                             obtain rfl : ad172 = ad179 := (by injection e179)
                             replace hx179_0 := (HB.out.cell (World.block_lt_of_cell? w _ hx179_0)).trans hx179_0
                             replace hx179_1 := (HB.out.cell (World.block_lt_of_cell? w _ hx179_1)).trans hx179_1
                             replace p179 := eq_true p179
                             replace q179 := eq_true q179
                             obtain ⟨Ao61, co61, eo61⟩ := Kd.R_slice HO_14.out
                             subst eo61
                             go_wp2_with (first | (go_at_call 12; (with_reducible refine (shape_Seek.calls kj39 _ _ t173 ((rd_T23 l0 x7_1).f0) t180 _ ?side1 ?side2 A51.out).mono ?_); (case side1 => repeat (first | exact (Kd.R_reads' HO_14.out).2.2 | (with_reducible refine Kd.C_alloc ?_ _) | (with_reducible refine Kd.C_drewN ?_ _) | (with_reducible refine Kd.C_drew ?_))); (case side2 => exact (Kd.R_reads' HO_14.out).2.1); rintro e w62 ⟨rfl, hb⟩; have n0_ := Aside0.mk (Kd.R_below (by (with_reducible repeat (first | apply Kd.R_alloc | apply Kd.R_drewN | apply Kd.R_drew)); exact HO_14.out) hb); have n1_ := Aside0.mk (below_step (by repeat (first | (with_reducible first | exact HB.out | apply below_alloc | apply pw_below_drewN | apply below_drew1) | exact HB.out)) hb); clear HO_14; clear HB; have HO_14 := n0_; have HB := n1_; clear n0_ n1_; (try clear hb); (try clear hb2); (try clear hk); (try clear hi); have p181 : 0 ≤ (t180 : Int) := of_decide_eq_true (by first | (with_reducible assumption) | assumption); have q181 : t180 < (t173.length : Int) := of_decide_eq_true (by first | (with_reducible assumption) | assumption); obtain ⟨ad181, e181, hx181_0, hx181_1⟩ := at_T23 (Kd.R_reads' HO_14.out).2.2 t180 p181 q181; cases e181; replace p181 := eq_true p181; replace q181 := eq_true q181; have p182 : 0 ≤ (x7_1 : Int) := of_decide_eq_true (by first | (with_reducible assumption) | assumption); have q182 : x7_1 < (l0.length : Int) := of_decide_eq_true (by first | (with_reducible assumption) | assumption); obtain ⟨ad182, e182, hx182_0, hx182_1⟩ := at_T23 HR0.out x7_1 p182 q182; obtain rfl : ad172 = ad182 := (by injection e182); replace hx182_0 := (HB.out.cell (World.block_lt_of_cell? w _ hx182_0)).trans hx182_0; replace hx182_1 := (HB.out.cell (World.block_lt_of_cell? w _ hx182_1)).trans hx182_1; replace p182 := eq_true p182; replace q182 := eq_true q182))
                             repeat (go_quiet (first | (go_at_call 12; (with_reducible refine (shape_Seek.calls kj39 _ _ t173 ((rd_T23 l0 x7_1).f0) t180 _ ?side1 ?side2 A51.out).mono ?_); (case side1 => repeat (first | exact (Kd.R_reads' HO_14.out).2.2 | (with_reducible refine Kd.C_alloc ?_ _) | (with_reducible refine Kd.C_drewN ?_ _) | (with_reducible refine Kd.C_drew ?_))); (case side2 => exact (Kd.R_reads' HO_14.out).2.1); rintro e w62 ⟨rfl, hb⟩; have n0_ := Aside0.mk (Kd.R_below (by (with_reducible repeat (first | apply Kd.R_alloc | apply Kd.R_drewN | apply Kd.R_drew)); exact HO_14.out) hb); have n1_ := Aside0.mk (below_step (by repeat (first | (with_reducible first | exact HB.out | apply below_alloc | apply pw_below_drewN | apply below_drew1) | exact HB.out)) hb); clear HO_14; clear HB; have HO_14 := n0_; have HB := n1_; clear n0_ n1_; (try clear hb); (try clear hb2); (try clear hk); (try clear hi); have p181 : 0 ≤ (t180 : Int) := of_decide_eq_true (by first | (with_reducible assumption) | assumption); have q181 : t180 < (t173.length : Int) := of_decide_eq_true (by first | (with_reducible assumption) | assumption); obtain ⟨ad181, e181, hx181_0, hx181_1⟩ := at_T23 (Kd.R_reads' HO_14.out).2.2 t180 p181 q181; cases e181; replace p181 := eq_true p181; replace q181 := eq_true q181; have p182 : 0 ≤ (x7_1 : Int) := of_decide_eq_true (by first | (with_reducible assumption) | assumption); have q182 : x7_1 < (l0.length : Int) := of_decide_eq_true (by first | (with_reducible assumption) | assumption); obtain ⟨ad182, e182, hx182_0, hx182_1⟩ := at_T23 HR0.out x7_1 p182 q182; obtain rfl : ad172 = ad182 := (by injection e182); replace hx182_0 := (HB.out.cell (World.block_lt_of_cell? w _ hx182_0)).trans hx182_0; replace hx182_1 := (HB.out.cell (World.block_lt_of_cell? w _ hx182_1)).trans hx182_1; replace p182 := eq_true p182; replace q182 := eq_true q182)); try go_wp2_with (first | (go_at_call 12; (with_reducible refine (shape_Seek.calls kj39 _ _ t173 ((rd_T23 l0 x7_1).f0) t180 _ ?side1 ?side2 A51.out).mono ?_); (case side1 => repeat (first | exact (Kd.R_reads' HO_14.out).2.2 | (with_reducible refine Kd.C_alloc ?_ _) | (with_reducible refine Kd.C_drewN ?_ _) | (with_reducible refine Kd.C_drew ?_))); (case side2 => exact (Kd.R_reads' HO_14.out).2.1); rintro e w62 ⟨rfl, hb⟩; have n0_ := Aside0.mk (Kd.R_below (by (with_reducible repeat (first | apply Kd.R_alloc | apply Kd.R_drewN | apply Kd.R_drew)); exact HO_14.out) hb); have n1_ := Aside0.mk (below_step (by repeat (first | (with_reducible first | exact HB.out | apply below_alloc | apply pw_below_drewN | apply below_drew1) | exact HB.out)) hb); clear HO_14; clear HB; have HO_14 := n0_; have HB := n1_; clear n0_ n1_; (try clear hb); (try clear hb2); (try clear hk); (try clear hi); have p181 : 0 ≤ (t180 : Int) := of_decide_eq_true (by first | (with_reducible assumption) | assumption); have q181 : t180 < (t173.length : Int) := of_decide_eq_true (by first | (with_reducible assumption) | assumption); obtain ⟨ad181, e181, hx181_0, hx181_1⟩ := at_T23 (Kd.R_reads' HO_14.out).2.2 t180 p181 q181; cases e181; replace p181 := eq_true p181; replace q181 := eq_true q181; have p182 : 0 ≤ (x7_1 : Int) := of_decide_eq_true (by first | (with_reducible assumption) | assumption); have q182 : x7_1 < (l0.length : Int) := of_decide_eq_true (by first | (with_reducible assumption) | assumption); obtain ⟨ad182, e182, hx182_0, hx182_1⟩ := at_T23 HR0.out x7_1 p182 q182; obtain rfl : ad172 = ad182 := (by injection e182); replace hx182_0 := (HB.out.cell (World.block_lt_of_cell? w _ hx182_0)).trans hx182_0; replace hx182_1 := (HB.out.cell (World.block_lt_of_cell? w _ hx182_1)).trans hx182_1; replace p182 := eq_true p182; replace q182 := eq_true q182)))
                             go_ret
                             exact ⟨by first | rfl | (simp [errW_none, errW_some] <;> rfl) | (simp [*, errW_none, errW_some] <;> rfl), by repeat (first | (with_reducible first | exact HB.out | apply below_alloc | apply pw_below_drewN | apply below_drew1) | exact HB.out)⟩
                            ·rw [if_neg c60] at H
                             have c60b0 : (!((((rd_T23 t173 t180).f0).toList) == (((rd_T23 l0 x7_1).f0).toList)) || (!(((rd_T23 t173 t180).f1) == ((rd_T23 l0 x7_1).f1)))) = false := by simpa using c60
                             clear c60
                             have H' := Aside0.mk H
                             clear H
                             have p179 : 0 ≤ (x7_1 : Int) := of_decide_eq_true (by first | (with_reducible assumption) | assumption)
                             have q179 : x7_1 < (l0.length : Int) := of_decide_eq_true (by first | (with_reducible assumption) | assumption)
                             obtain ⟨ad179, e179, hx179_0, hx179_1⟩ := at_T23 HR0.out x7_1 p179 q179
                             obtain rfl : ad172 = ad179 := (by injection e179)
                             replace hx179_0 := (HB.out.cell (World.block_lt_of_cell? w _ hx179_0)).trans hx179_0
                             replace hx179_1 := (HB.out.cell (World.block_lt_of_cell? w _ hx179_1)).trans hx179_1
                             replace p179 := eq_true p179
                             replace q179 := eq_true q179
                             obtain ⟨Ao63, co63, eo63⟩ := Kd.R_slice HO_14.out
                             subst eo63
                             go_wp2_with (first | (go_at_call 12; (with_reducible refine (shape_Seek.calls kj39 _ _ t173 ((rd_T23 l0 x7_1).f0) t180 _ ?side1 ?side2 A51.out).mono ?_); (case side1 => repeat (first | exact (Kd.R_reads' HO_14.out).2.2 | (with_reducible refine Kd.C_alloc ?_ _) | (with_reducible refine Kd.C_drewN ?_ _) | (with_reducible refine Kd.C_drew ?_))); (case side2 => exact (Kd.R_reads' HO_14.out).2.1); rintro e w64 ⟨rfl, hb⟩; have n0_ := Aside0.mk (Kd.R_below (by (with_reducible repeat (first | apply Kd.R_alloc | apply Kd.R_drewN | apply Kd.R_drew)); exact HO_14.out) hb); have n1_ := Aside0.mk (below_step (by repeat (first | (with_reducible first | exact HB.out | apply below_alloc | apply pw_below_drewN | apply below_drew1) | exact HB.out)) hb); clear HO_14; clear HB; have HO_14 := n0_; have HB := n1_; clear n0_ n1_; (try clear hb); (try clear hb2); (try clear hk); (try clear hi); have p181 : 0 ≤ (t180 : Int) := of_decide_eq_true (by first | (with_reducible assumption) | assumption); have q181 : t180 < (t173.length : Int) := of_decide_eq_true (by first | (with_reducible assumption) | assumption); obtain ⟨ad181, e181, hx181_0, hx181_1⟩ := at_T23 (Kd.R_reads' HO_14.out).2.2 t180 p181 q181; cases e181; replace p181 := eq_true p181; replace q181 := eq_true q181; have p182 : 0 ≤ (x7_1 : Int) := of_decide_eq_true (by first | (with_reducible assumption) | assumption); have q182 : x7_1 < (l0.length : Int) := of_decide_eq_true (by first | (with_reducible assumption) | assumption); obtain ⟨ad182, e182, hx182_0, hx182_1⟩ := at_T23 HR0.out x7_1 p182 q182; obtain rfl : ad172 = ad182 := (by injection e182); replace hx182_0 := (HB.out.cell (World.block_lt_of_cell? w _ hx182_0)).trans hx182_0; replace hx182_1 := (HB.out.cell (World.block_lt_of_cell? w _ hx182_1)).trans hx182_1; replace p182 := eq_true p182; replace q182 := eq_true q182))
                             repeat (go_quiet (first | (go_at_call 12; (with_reducible refine (shape_Seek.calls kj39 _ _ t173 ((rd_T23 l0 x7_1).f0) t180 _ ?side1 ?side2 A51.out).mono ?_); (case side1 => repeat (first | exact (Kd.R_reads' HO_14.out).2.2 | (with_reducible refine Kd.C_alloc ?_ _) | (with_reducible refine Kd.C_drewN ?_ _) | (with_reducible refine Kd.C_drew ?_))); (case side2 => exact (Kd.R_reads' HO_14.out).2.1); rintro e w64 ⟨rfl, hb⟩; have n0_ := Aside0.mk (Kd.R_below (by (with_reducible repeat (first | apply Kd.R_alloc | apply Kd.R_drewN | apply Kd.R_drew)); exact HO_14.out) hb); have n1_ := Aside0.mk (below_step (by repeat (first | (with_reducible first | exact HB.out | apply below_alloc | apply pw_below_drewN | apply below_drew1) | exact HB.out)) hb); clear HO_14; clear HB; have HO_14 := n0_; have HB := n1_; clear n0_ n1_; (try clear hb); (try clear hb2); (try clear hk); (try clear hi); have p181 : 0 ≤ (t180 : Int) := of_decide_eq_true (by first | (with_reducible assumption) | assumption); have q181 : t180 < (t173.length : Int) := of_decide_eq_true (by first | (with_reducible assumption) | assumption); obtain ⟨ad181, e181, hx181_0, hx181_1⟩ := at_T23 (Kd.R_reads' HO_14.out).2.2 t180 p181 q181; cases e181; replace p181 := eq_true p181; replace q181 := eq_true q181; have p182 : 0 ≤ (x7_1 : Int) := of_decide_eq_true (by first | (with_reducible assumption) | assumption); have q182 : x7_1 < (l0.length : Int) := of_decide_eq_true (by first | (with_reducible assumption) | assumption); obtain ⟨ad182, e182, hx182_0, hx182_1⟩ := at_T23 HR0.out x7_1 p182 q182; obtain rfl : ad172 = ad182 := (by injection e182); replace hx182_0 := (HB.out.cell (World.block_lt_of_cell? w _ hx182_0)).trans hx182_0; replace hx182_1 := (HB.out.cell (World.block_lt_of_cell? w _ hx182_1)).trans hx182_1; replace p182 := eq_true p182; replace q182 := eq_true q182)); try go_wp2_with (first | (go_at_call 12; (with_reducible refine (shape_Seek.calls kj39 _ _ t173 ((rd_T23 l0 x7_1).f0) t180 _ ?side1 ?side2 A51.out).mono ?_); (case side1 => repeat (first | exact (Kd.R_reads' HO_14.out).2.2 | (with_reducible refine Kd.C_alloc ?_ _) | (with_reducible refine Kd.C_drewN ?_ _) | (with_reducible refine Kd.C_drew ?_))); (case side2 => exact (Kd.R_reads' HO_14.out).2.1); rintro e w64 ⟨rfl, hb⟩; have n0_ := Aside0.mk (Kd.R_below (by (with_reducible repeat (first | apply Kd.R_alloc | apply Kd.R_drewN | apply Kd.R_drew)); exact HO_14.out) hb); have n1_ := Aside0.mk (below_step (by repeat (first | (with_reducible first | exact HB.out | apply below_alloc | apply pw_below_drewN | apply below_drew1) | exact HB.out)) hb); clear HO_14; clear HB; have HO_14 := n0_; have HB := n1_; clear n0_ n1_; (try clear hb); (try clear hb2); (try clear hk); (try clear hi); have p181 : 0 ≤ (t180 : Int) := of_decide_eq_true (by first | (with_reducible assumption) | assumption); have q181 : t180 < (t173.length : Int) := of_decide_eq_true (by first | (with_reducible assumption) | assumption); obtain ⟨ad181, e181, hx181_0, hx181_1⟩ := at_T23 (Kd.R_reads' HO_14.out).2.2 t180 p181 q181; cases e181; replace p181 := eq_true p181; replace q181 := eq_true q181; have p182 : 0 ≤ (x7_1 : Int) := of_decide_eq_true (by first | (with_reducible assumption) | assumption); have q182 : x7_1 < (l0.length : Int) := of_decide_eq_true (by first | (with_reducible assumption) | assumption); obtain ⟨ad182, e182, hx182_0, hx182_1⟩ := at_T23 HR0.out x7_1 p182 q182; obtain rfl : ad172 = ad182 := (by injection e182); replace hx182_0 := (HB.out.cell (World.block_lt_of_cell? w _ hx182_0)).trans hx182_0; replace hx182_1 := (HB.out.cell (World.block_lt_of_cell? w _ hx182_1)).trans hx182_1; replace p182 := eq_true p182; replace q182 := eq_true q182)))
                             go_meet
                             case rel => exact ⟨_, (t173), (x6_1), (by first | rfl | (simp; done) | (simp [*]; done)), H', ⟨by have := HK1.out; have := HJ2.out; have := HJ5.out; have := HK4.out; have := HJ19.out; have := HJ39.out; first | omega | exact Nat.le_refl _⟩, ⟨by (with_reducible repeat (first | apply Kd.R_alloc | apply Kd.R_drewN | apply Kd.R_drew)); exact HO_14.out⟩, ⟨by repeat (first | (with_reducible first | exact HB.out | apply below_alloc | apply pw_below_drewN | apply below_drew1) | exact HB.out)⟩⟩
                           ·rw [if_neg c59] at H
                            exact absurd H (by simp)
                          ·rw [if_neg c58] at H
                           exact absurd H (by simp)
                       ·rw [if_neg c50] at H
                        exact absurd H (by simp)
                      ·rw [if_neg c49] at H
                       exact absurd H (by simp)
                     ·replace c48 := Bool.eq_false_iff.mpr c48
                      subst c48
                      have H1 : (if 0 ≤ x7_1 then (if x7_1 < (l0.length : Int) then ((shape_Seek.f kj39 t173 ((rd_T23 l0 x7_1).f0)).bind fun t184 => (if t184 < 0 then (some false) else (if t184 ≥ (t173.length : Int) then (some false) else (if 0 ≤ t184 then (if t184 < (t173.length : Int) then (if (!((((rd_T23 t173 t184).f0).toList) == (((rd_T23 l0 x7_1).f0).toList)) || (!(((rd_T23 t173 t184).f1) == ((rd_T23 l0 x7_1).f1)))) = true then (some false) else (tendrillaw8_ShapeGrows.j7 kj39 l0 l1 t173 (wrap64 (x6_1 + 1)) x7_1)) else (none)) else (none))))) else (none)) else (none)) = some r := by rw [if_neg (show ¬ (false = true) by decide)] at H; exact H
                      clear H
                      have H := H1
                      clear H1
                      by_cases c65 : 0 ≤ x7_1
                      ·rw [if_pos c65] at H
                       have c65b0 : decide (0 ≤ x7_1) = true := decide_eq_true c65
                       clear c65
                       by_cases c66 : x7_1 < (l0.length : Int)
                       ·rw [if_pos c66] at H
                        have c66b0 : decide (x7_1 < (l0.length : Int)) = true := decide_eq_true c66
                        clear c66
                        replace H := Option.bind_eq_some_iff.mp H
                        obtain ⟨t184, A670, H⟩ := H
                        replace H : (if t184 < 0 then (some false) else (if t184 ≥ (t173.length : Int) then (some false) else (if 0 ≤ t184 then (if t184 < (t173.length : Int) then (if (!((((rd_T23 t173 t184).f0).toList) == (((rd_T23 l0 x7_1).f0).toList)) || (!(((rd_T23 t173 t184).f1) == ((rd_T23 l0 x7_1).f1)))) = true then (some false) else (tendrillaw8_ShapeGrows.j7 kj39 l0 l1 t173 (wrap64 (x6_1 + 1)) x7_1)) else (none)) else (none)))) = some r := H
                        have A67 := Aside0.mk A670
                        clear A670
                        by_cases c68 : t184 < 0
                        ·rw [if_pos c68] at H
                         have c68b0 : decide (t184 < 0) = true := decide_eq_true c68
                         clear c68
                         obtain rfl := Option.some.inj H
                         have p183 : 0 ≤ (x7_1 : Int) := of_decide_eq_true (by first | (with_reducible assumption) | assumption)
                         have q183 : x7_1 < (l0.length : Int) := of_decide_eq_true (by first | (with_reducible assumption) | assumption)
                         obtain ⟨ad183, e183, hx183_0, hx183_1⟩ := at_T23 HR0.out x7_1 p183 q183
                         obtain rfl : ad172 = ad183 := (by injection e183)
                         replace hx183_0 := (HB.out.cell (World.block_lt_of_cell? w _ hx183_0)).trans hx183_0
                         replace hx183_1 := (HB.out.cell (World.block_lt_of_cell? w _ hx183_1)).trans hx183_1
                         replace p183 := eq_true p183
                         replace q183 := eq_true q183
                         obtain ⟨Ao69, co69, eo69⟩ := Kd.R_slice HO_14.out
                         subst eo69
                         go_wp2_with (first | (go_at_call 12; (with_reducible refine (shape_Seek.calls kj39 _ _ t173 ((rd_T23 l0 x7_1).f0) t184 _ ?side1 ?side2 A67.out).mono ?_); (case side1 => repeat (first | exact (Kd.R_reads' HO_14.out).2.2 | (with_reducible refine Kd.C_alloc ?_ _) | (with_reducible refine Kd.C_drewN ?_ _) | (with_reducible refine Kd.C_drew ?_))); (case side2 => exact (Kd.R_reads' HO_14.out).2.1); rintro e w70 ⟨rfl, hb⟩; have n0_ := Aside0.mk (Kd.R_below (by (with_reducible repeat (first | apply Kd.R_alloc | apply Kd.R_drewN | apply Kd.R_drew)); exact HO_14.out) hb); have n1_ := Aside0.mk (below_step (by repeat (first | (with_reducible first | exact HB.out | apply below_alloc | apply pw_below_drewN | apply below_drew1) | exact HB.out)) hb); clear HO_14; clear HB; have HO_14 := n0_; have HB := n1_; clear n0_ n1_; (try clear hb); (try clear hb2); (try clear hk); (try clear hi)))
                         repeat (go_quiet (first | (go_at_call 12; (with_reducible refine (shape_Seek.calls kj39 _ _ t173 ((rd_T23 l0 x7_1).f0) t184 _ ?side1 ?side2 A67.out).mono ?_); (case side1 => repeat (first | exact (Kd.R_reads' HO_14.out).2.2 | (with_reducible refine Kd.C_alloc ?_ _) | (with_reducible refine Kd.C_drewN ?_ _) | (with_reducible refine Kd.C_drew ?_))); (case side2 => exact (Kd.R_reads' HO_14.out).2.1); rintro e w70 ⟨rfl, hb⟩; have n0_ := Aside0.mk (Kd.R_below (by (with_reducible repeat (first | apply Kd.R_alloc | apply Kd.R_drewN | apply Kd.R_drew)); exact HO_14.out) hb); have n1_ := Aside0.mk (below_step (by repeat (first | (with_reducible first | exact HB.out | apply below_alloc | apply pw_below_drewN | apply below_drew1) | exact HB.out)) hb); clear HO_14; clear HB; have HO_14 := n0_; have HB := n1_; clear n0_ n1_; (try clear hb); (try clear hb2); (try clear hk); (try clear hi))); try go_wp2_with (first | (go_at_call 12; (with_reducible refine (shape_Seek.calls kj39 _ _ t173 ((rd_T23 l0 x7_1).f0) t184 _ ?side1 ?side2 A67.out).mono ?_); (case side1 => repeat (first | exact (Kd.R_reads' HO_14.out).2.2 | (with_reducible refine Kd.C_alloc ?_ _) | (with_reducible refine Kd.C_drewN ?_ _) | (with_reducible refine Kd.C_drew ?_))); (case side2 => exact (Kd.R_reads' HO_14.out).2.1); rintro e w70 ⟨rfl, hb⟩; have n0_ := Aside0.mk (Kd.R_below (by (with_reducible repeat (first | apply Kd.R_alloc | apply Kd.R_drewN | apply Kd.R_drew)); exact HO_14.out) hb); have n1_ := Aside0.mk (below_step (by repeat (first | (with_reducible first | exact HB.out | apply below_alloc | apply pw_below_drewN | apply below_drew1) | exact HB.out)) hb); clear HO_14; clear HB; have HO_14 := n0_; have HB := n1_; clear n0_ n1_; (try clear hb); (try clear hb2); (try clear hk); (try clear hi))))
                         go_ret
                         exact ⟨by first | rfl | (simp [errW_none, errW_some] <;> rfl) | (simp [*, errW_none, errW_some] <;> rfl), by repeat (first | (with_reducible first | exact HB.out | apply below_alloc | apply pw_below_drewN | apply below_drew1) | exact HB.out)⟩
                        ·rw [if_neg c68] at H
                         have c68b0 : decide (t184 < 0) = false := decide_eq_false c68
                         clear c68
                         by_cases c71 : t184 ≥ (t173.length : Int)
                         ·rw [if_pos c71] at H
                          have c71b0 : decide ((t173.length : Int) ≤ t184) = true := decide_eq_true c71
                          clear c71
                          obtain rfl := Option.some.inj H
                          have p183 : 0 ≤ (x7_1 : Int) := of_decide_eq_true (by first | (with_reducible assumption) | assumption)
                          have q183 : x7_1 < (l0.length : Int) := of_decide_eq_true (by first | (with_reducible assumption) | assumption)
                          obtain ⟨ad183, e183, hx183_0, hx183_1⟩ := at_T23 HR0.out x7_1 p183 q183
                          obtain rfl : ad172 = ad183 := (by injection e183)
                          replace hx183_0 := (HB.out.cell (World.block_lt_of_cell? w _ hx183_0)).trans hx183_0
                          replace hx183_1 := (HB.out.cell (World.block_lt_of_cell? w _ hx183_1)).trans hx183_1
                          replace p183 := eq_true p183
                          replace q183 := eq_true q183
                          obtain ⟨Ao72, co72, eo72⟩ := Kd.R_slice HO_14.out
                          subst eo72
                          go_wp2_with (first | (go_at_call 12; (with_reducible refine (shape_Seek.calls kj39 _ _ t173 ((rd_T23 l0 x7_1).f0) t184 _ ?side1 ?side2 A67.out).mono ?_); (case side1 => repeat (first | exact (Kd.R_reads' HO_14.out).2.2 | (with_reducible refine Kd.C_alloc ?_ _) | (with_reducible refine Kd.C_drewN ?_ _) | (with_reducible refine Kd.C_drew ?_))); (case side2 => exact (Kd.R_reads' HO_14.out).2.1); rintro e w73 ⟨rfl, hb⟩; have n0_ := Aside0.mk (Kd.R_below (by (with_reducible repeat (first | apply Kd.R_alloc | apply Kd.R_drewN | apply Kd.R_drew)); exact HO_14.out) hb); have n1_ := Aside0.mk (below_step (by repeat (first | (with_reducible first | exact HB.out | apply below_alloc | apply pw_below_drewN | apply below_drew1) | exact HB.out)) hb); clear HO_14; clear HB; have HO_14 := n0_; have HB := n1_; clear n0_ n1_; (try clear hb); (try clear hb2); (try clear hk); (try clear hi)))
                          repeat (go_quiet (first | (go_at_call 12; (with_reducible refine (shape_Seek.calls kj39 _ _ t173 ((rd_T23 l0 x7_1).f0) t184 _ ?side1 ?side2 A67.out).mono ?_); (case side1 => repeat (first | exact (Kd.R_reads' HO_14.out).2.2 | (with_reducible refine Kd.C_alloc ?_ _) | (with_reducible refine Kd.C_drewN ?_ _) | (with_reducible refine Kd.C_drew ?_))); (case side2 => exact (Kd.R_reads' HO_14.out).2.1); rintro e w73 ⟨rfl, hb⟩; have n0_ := Aside0.mk (Kd.R_below (by (with_reducible repeat (first | apply Kd.R_alloc | apply Kd.R_drewN | apply Kd.R_drew)); exact HO_14.out) hb); have n1_ := Aside0.mk (below_step (by repeat (first | (with_reducible first | exact HB.out | apply below_alloc | apply pw_below_drewN | apply below_drew1) | exact HB.out)) hb); clear HO_14; clear HB; have HO_14 := n0_; have HB := n1_; clear n0_ n1_; (try clear hb); (try clear hb2); (try clear hk); (try clear hi))); try go_wp2_with (first | (go_at_call 12; (with_reducible refine (shape_Seek.calls kj39 _ _ t173 ((rd_T23 l0 x7_1).f0) t184 _ ?side1 ?side2 A67.out).mono ?_); (case side1 => repeat (first | exact (Kd.R_reads' HO_14.out).2.2 | (with_reducible refine Kd.C_alloc ?_ _) | (with_reducible refine Kd.C_drewN ?_ _) | (with_reducible refine Kd.C_drew ?_))); (case side2 => exact (Kd.R_reads' HO_14.out).2.1); rintro e w73 ⟨rfl, hb⟩; have n0_ := Aside0.mk (Kd.R_below (by (with_reducible repeat (first | apply Kd.R_alloc | apply Kd.R_drewN | apply Kd.R_drew)); exact HO_14.out) hb); have n1_ := Aside0.mk (below_step (by repeat (first | (with_reducible first | exact HB.out | apply below_alloc | apply pw_below_drewN | apply below_drew1) | exact HB.out)) hb); clear HO_14; clear HB; have HO_14 := n0_; have HB := n1_; clear n0_ n1_; (try clear hb); (try clear hb2); (try clear hk); (try clear hi))))
                          go_ret
                          exact ⟨by first | rfl | (simp [errW_none, errW_some] <;> rfl) | (simp [*, errW_none, errW_some] <;> rfl), by repeat (first | (with_reducible first | exact HB.out | apply below_alloc | apply pw_below_drewN | apply below_drew1) | exact HB.out)⟩
                         ·rw [if_neg c71] at H
                          have c71b0 : decide ((t173.length : Int) ≤ t184) = false := decide_eq_false c71
                          clear c71
                          by_cases c74 : 0 ≤ t184
                          ·rw [if_pos c74] at H
                           have c74b0 : decide (0 ≤ t184) = true := decide_eq_true c74
                           clear c74
                           by_cases c75 : t184 < (t173.length : Int)
                           ·rw [if_pos c75] at H
                            have c75b0 : decide (t184 < (t173.length : Int)) = true := decide_eq_true c75
                            clear c75
                            by_cases c76 : (!((((rd_T23 t173 t184).f0).toList) == (((rd_T23 l0 x7_1).f0).toList)) || (!(((rd_T23 t173 t184).f1) == ((rd_T23 l0 x7_1).f1)))) = true
                            ·rw [if_pos c76] at H
                             have c76b0 : (!((((rd_T23 t173 t184).f0).toList) == (((rd_T23 l0 x7_1).f0).toList)) || (!(((rd_T23 t173 t184).f1) == ((rd_T23 l0 x7_1).f1)))) = true := c76
                             clear c76
                             obtain rfl := Option.some.inj H
                             have p183 : 0 ≤ (x7_1 : Int) := of_decide_eq_true (by first | (with_reducible assumption) | assumption)
                             have q183 : x7_1 < (l0.length : Int) := of_decide_eq_true (by first | (with_reducible assumption) | assumption)
                             obtain ⟨ad183, e183, hx183_0, hx183_1⟩ := at_T23 HR0.out x7_1 p183 q183
                             obtain rfl : ad172 = ad183 := (by injection e183)
                             replace hx183_0 := (HB.out.cell (World.block_lt_of_cell? w _ hx183_0)).trans hx183_0
                             replace hx183_1 := (HB.out.cell (World.block_lt_of_cell? w _ hx183_1)).trans hx183_1
                             replace p183 := eq_true p183
                             replace q183 := eq_true q183
                             obtain ⟨Ao77, co77, eo77⟩ := Kd.R_slice HO_14.out
                             subst eo77
                             go_wp2_with (first | (go_at_call 12; (with_reducible refine (shape_Seek.calls kj39 _ _ t173 ((rd_T23 l0 x7_1).f0) t184 _ ?side1 ?side2 A67.out).mono ?_); (case side1 => repeat (first | exact (Kd.R_reads' HO_14.out).2.2 | (with_reducible refine Kd.C_alloc ?_ _) | (with_reducible refine Kd.C_drewN ?_ _) | (with_reducible refine Kd.C_drew ?_))); (case side2 => exact (Kd.R_reads' HO_14.out).2.1); rintro e w78 ⟨rfl, hb⟩; have n0_ := Aside0.mk (Kd.R_below (by (with_reducible repeat (first | apply Kd.R_alloc | apply Kd.R_drewN | apply Kd.R_drew)); exact HO_14.out) hb); have n1_ := Aside0.mk (below_step (by repeat (first | (with_reducible first | exact HB.out | apply below_alloc | apply pw_below_drewN | apply below_drew1) | exact HB.out)) hb); clear HO_14; clear HB; have HO_14 := n0_; have HB := n1_; clear n0_ n1_; (try clear hb); (try clear hb2); (try clear hk); (try clear hi); have p185 : 0 ≤ (t184 : Int) := of_decide_eq_true (by first | (with_reducible assumption) | assumption); have q185 : t184 < (t173.length : Int) := of_decide_eq_true (by first | (with_reducible assumption) | assumption); obtain ⟨ad185, e185, hx185_0, hx185_1⟩ := at_T23 (Kd.R_reads' HO_14.out).2.2 t184 p185 q185; cases e185; replace p185 := eq_true p185; replace q185 := eq_true q185; have p186 : 0 ≤ (x7_1 : Int) := of_decide_eq_true (by first | (with_reducible assumption) | assumption); have q186 : x7_1 < (l0.length : Int) := of_decide_eq_true (by first | (with_reducible assumption) | assumption); obtain ⟨ad186, e186, hx186_0, hx186_1⟩ := at_T23 HR0.out x7_1 p186 q186; obtain rfl : ad172 = ad186 := (by injection e186); replace hx186_0 := (HB.out.cell (World.block_lt_of_cell? w _ hx186_0)).trans hx186_0; replace hx186_1 := (HB.out.cell (World.block_lt_of_cell? w _ hx186_1)).trans hx186_1; replace p186 := eq_true p186; replace q186 := eq_true q186))
                             repeat (go_quiet (first | (go_at_call 12; (with_reducible refine (shape_Seek.calls kj39 _ _ t173 ((rd_T23 l0 x7_1).f0) t184 _ ?side1 ?side2 A67.out).mono ?_); (case side1 => repeat (first | exact (Kd.R_reads' HO_14.out).2.2 | (with_reducible refine Kd.C_alloc ?_ _) | (with_reducible refine Kd.C_drewN ?_ _) | (with_reducible refine Kd.C_drew ?_))); (case side2 => exact (Kd.R_reads' HO_14.out).2.1); rintro e w78 ⟨rfl, hb⟩; have n0_ := Aside0.mk (Kd.R_below (by (with_reducible repeat (first | apply Kd.R_alloc | apply Kd.R_drewN | apply Kd.R_drew)); exact HO_14.out) hb); have n1_ := Aside0.mk (below_step (by repeat (first | (with_reducible first | exact HB.out | apply below_alloc | apply pw_below_drewN | apply below_drew1) | exact HB.out)) hb); clear HO_14; clear HB; have HO_14 := n0_; have HB := n1_; clear n0_ n1_; (try clear hb); (try clear hb2); (try clear hk); (try clear hi); have p185 : 0 ≤ (t184 : Int) := of_decide_eq_true (by first | (with_reducible assumption) | assumption); have q185 : t184 < (t173.length : Int) := of_decide_eq_true (by first | (with_reducible assumption) | assumption); obtain ⟨ad185, e185, hx185_0, hx185_1⟩ := at_T23 (Kd.R_reads' HO_14.out).2.2 t184 p185 q185; cases e185; replace p185 := eq_true p185; replace q185 := eq_true q185; have p186 : 0 ≤ (x7_1 : Int) := of_decide_eq_true (by first | (with_reducible assumption) | assumption); have q186 : x7_1 < (l0.length : Int) := of_decide_eq_true (by first | (with_reducible assumption) | assumption); obtain ⟨ad186, e186, hx186_0, hx186_1⟩ := at_T23 HR0.out x7_1 p186 q186; obtain rfl : ad172 = ad186 := (by injection e186); replace hx186_0 := (HB.out.cell (World.block_lt_of_cell? w _ hx186_0)).trans hx186_0; replace hx186_1 := (HB.out.cell (World.block_lt_of_cell? w _ hx186_1)).trans hx186_1; replace p186 := eq_true p186; replace q186 := eq_true q186)); try go_wp2_with (first | (go_at_call 12; (with_reducible refine (shape_Seek.calls kj39 _ _ t173 ((rd_T23 l0 x7_1).f0) t184 _ ?side1 ?side2 A67.out).mono ?_); (case side1 => repeat (first | exact (Kd.R_reads' HO_14.out).2.2 | (with_reducible refine Kd.C_alloc ?_ _) | (with_reducible refine Kd.C_drewN ?_ _) | (with_reducible refine Kd.C_drew ?_))); (case side2 => exact (Kd.R_reads' HO_14.out).2.1); rintro e w78 ⟨rfl, hb⟩; have n0_ := Aside0.mk (Kd.R_below (by (with_reducible repeat (first | apply Kd.R_alloc | apply Kd.R_drewN | apply Kd.R_drew)); exact HO_14.out) hb); have n1_ := Aside0.mk (below_step (by repeat (first | (with_reducible first | exact HB.out | apply below_alloc | apply pw_below_drewN | apply below_drew1) | exact HB.out)) hb); clear HO_14; clear HB; have HO_14 := n0_; have HB := n1_; clear n0_ n1_; (try clear hb); (try clear hb2); (try clear hk); (try clear hi); have p185 : 0 ≤ (t184 : Int) := of_decide_eq_true (by first | (with_reducible assumption) | assumption); have q185 : t184 < (t173.length : Int) := of_decide_eq_true (by first | (with_reducible assumption) | assumption); obtain ⟨ad185, e185, hx185_0, hx185_1⟩ := at_T23 (Kd.R_reads' HO_14.out).2.2 t184 p185 q185; cases e185; replace p185 := eq_true p185; replace q185 := eq_true q185; have p186 : 0 ≤ (x7_1 : Int) := of_decide_eq_true (by first | (with_reducible assumption) | assumption); have q186 : x7_1 < (l0.length : Int) := of_decide_eq_true (by first | (with_reducible assumption) | assumption); obtain ⟨ad186, e186, hx186_0, hx186_1⟩ := at_T23 HR0.out x7_1 p186 q186; obtain rfl : ad172 = ad186 := (by injection e186); replace hx186_0 := (HB.out.cell (World.block_lt_of_cell? w _ hx186_0)).trans hx186_0; replace hx186_1 := (HB.out.cell (World.block_lt_of_cell? w _ hx186_1)).trans hx186_1; replace p186 := eq_true p186; replace q186 := eq_true q186)))
                             go_ret
                             exact ⟨by first | rfl | (simp [errW_none, errW_some] <;> rfl) | (simp [*, errW_none, errW_some] <;> rfl), by repeat (first | (with_reducible first | exact HB.out | apply below_alloc | apply pw_below_drewN | apply below_drew1) | exact HB.out)⟩
                            ·rw [if_neg c76] at H
                             have c76b0 : (!((((rd_T23 t173 t184).f0).toList) == (((rd_T23 l0 x7_1).f0).toList)) || (!(((rd_T23 t173 t184).f1) == ((rd_T23 l0 x7_1).f1)))) = false := by simpa using c76
                             clear c76
                             have H' := Aside0.mk H
                             clear H
                             have p183 : 0 ≤ (x7_1 : Int) := of_decide_eq_true (by first | (with_reducible assumption) | assumption)
                             have q183 : x7_1 < (l0.length : Int) := of_decide_eq_true (by first | (with_reducible assumption) | assumption)
                             obtain ⟨ad183, e183, hx183_0, hx183_1⟩ := at_T23 HR0.out x7_1 p183 q183
                             obtain rfl : ad172 = ad183 := (by injection e183)
                             replace hx183_0 := (HB.out.cell (World.block_lt_of_cell? w _ hx183_0)).trans hx183_0
                             replace hx183_1 := (HB.out.cell (World.block_lt_of_cell? w _ hx183_1)).trans hx183_1
                             replace p183 := eq_true p183
                             replace q183 := eq_true q183
                             obtain ⟨Ao79, co79, eo79⟩ := Kd.R_slice HO_14.out
                             subst eo79
                             go_wp2_with (first | (go_at_call 12; (with_reducible refine (shape_Seek.calls kj39 _ _ t173 ((rd_T23 l0 x7_1).f0) t184 _ ?side1 ?side2 A67.out).mono ?_); (case side1 => repeat (first | exact (Kd.R_reads' HO_14.out).2.2 | (with_reducible refine Kd.C_alloc ?_ _) | (with_reducible refine Kd.C_drewN ?_ _) | (with_reducible refine Kd.C_drew ?_))); (case side2 => exact (Kd.R_reads' HO_14.out).2.1); rintro e w80 ⟨rfl, hb⟩; have n0_ := Aside0.mk (Kd.R_below (by (with_reducible repeat (first | apply Kd.R_alloc | apply Kd.R_drewN | apply Kd.R_drew)); exact HO_14.out) hb); have n1_ := Aside0.mk (below_step (by repeat (first | (with_reducible first | exact HB.out | apply below_alloc | apply pw_below_drewN | apply below_drew1) | exact HB.out)) hb); clear HO_14; clear HB; have HO_14 := n0_; have HB := n1_; clear n0_ n1_; (try clear hb); (try clear hb2); (try clear hk); (try clear hi); have p185 : 0 ≤ (t184 : Int) := of_decide_eq_true (by first | (with_reducible assumption) | assumption); have q185 : t184 < (t173.length : Int) := of_decide_eq_true (by first | (with_reducible assumption) | assumption); obtain ⟨ad185, e185, hx185_0, hx185_1⟩ := at_T23 (Kd.R_reads' HO_14.out).2.2 t184 p185 q185; cases e185; replace p185 := eq_true p185; replace q185 := eq_true q185; have p186 : 0 ≤ (x7_1 : Int) := of_decide_eq_true (by first | (with_reducible assumption) | assumption); have q186 : x7_1 < (l0.length : Int) := of_decide_eq_true (by first | (with_reducible assumption) | assumption); obtain ⟨ad186, e186, hx186_0, hx186_1⟩ := at_T23 HR0.out x7_1 p186 q186; obtain rfl : ad172 = ad186 := (by injection e186); replace hx186_0 := (HB.out.cell (World.block_lt_of_cell? w _ hx186_0)).trans hx186_0; replace hx186_1 := (HB.out.cell (World.block_lt_of_cell? w _ hx186_1)).trans hx186_1; replace p186 := eq_true p186; replace q186 := eq_true q186))
                             repeat (go_quiet (first | (go_at_call 12; (with_reducible refine (shape_Seek.calls kj39 _ _ t173 ((rd_T23 l0 x7_1).f0) t184 _ ?side1 ?side2 A67.out).mono ?_); (case side1 => repeat (first | exact (Kd.R_reads' HO_14.out).2.2 | (with_reducible refine Kd.C_alloc ?_ _) | (with_reducible refine Kd.C_drewN ?_ _) | (with_reducible refine Kd.C_drew ?_))); (case side2 => exact (Kd.R_reads' HO_14.out).2.1); rintro e w80 ⟨rfl, hb⟩; have n0_ := Aside0.mk (Kd.R_below (by (with_reducible repeat (first | apply Kd.R_alloc | apply Kd.R_drewN | apply Kd.R_drew)); exact HO_14.out) hb); have n1_ := Aside0.mk (below_step (by repeat (first | (with_reducible first | exact HB.out | apply below_alloc | apply pw_below_drewN | apply below_drew1) | exact HB.out)) hb); clear HO_14; clear HB; have HO_14 := n0_; have HB := n1_; clear n0_ n1_; (try clear hb); (try clear hb2); (try clear hk); (try clear hi); have p185 : 0 ≤ (t184 : Int) := of_decide_eq_true (by first | (with_reducible assumption) | assumption); have q185 : t184 < (t173.length : Int) := of_decide_eq_true (by first | (with_reducible assumption) | assumption); obtain ⟨ad185, e185, hx185_0, hx185_1⟩ := at_T23 (Kd.R_reads' HO_14.out).2.2 t184 p185 q185; cases e185; replace p185 := eq_true p185; replace q185 := eq_true q185; have p186 : 0 ≤ (x7_1 : Int) := of_decide_eq_true (by first | (with_reducible assumption) | assumption); have q186 : x7_1 < (l0.length : Int) := of_decide_eq_true (by first | (with_reducible assumption) | assumption); obtain ⟨ad186, e186, hx186_0, hx186_1⟩ := at_T23 HR0.out x7_1 p186 q186; obtain rfl : ad172 = ad186 := (by injection e186); replace hx186_0 := (HB.out.cell (World.block_lt_of_cell? w _ hx186_0)).trans hx186_0; replace hx186_1 := (HB.out.cell (World.block_lt_of_cell? w _ hx186_1)).trans hx186_1; replace p186 := eq_true p186; replace q186 := eq_true q186)); try go_wp2_with (first | (go_at_call 12; (with_reducible refine (shape_Seek.calls kj39 _ _ t173 ((rd_T23 l0 x7_1).f0) t184 _ ?side1 ?side2 A67.out).mono ?_); (case side1 => repeat (first | exact (Kd.R_reads' HO_14.out).2.2 | (with_reducible refine Kd.C_alloc ?_ _) | (with_reducible refine Kd.C_drewN ?_ _) | (with_reducible refine Kd.C_drew ?_))); (case side2 => exact (Kd.R_reads' HO_14.out).2.1); rintro e w80 ⟨rfl, hb⟩; have n0_ := Aside0.mk (Kd.R_below (by (with_reducible repeat (first | apply Kd.R_alloc | apply Kd.R_drewN | apply Kd.R_drew)); exact HO_14.out) hb); have n1_ := Aside0.mk (below_step (by repeat (first | (with_reducible first | exact HB.out | apply below_alloc | apply pw_below_drewN | apply below_drew1) | exact HB.out)) hb); clear HO_14; clear HB; have HO_14 := n0_; have HB := n1_; clear n0_ n1_; (try clear hb); (try clear hb2); (try clear hk); (try clear hi); have p185 : 0 ≤ (t184 : Int) := of_decide_eq_true (by first | (with_reducible assumption) | assumption); have q185 : t184 < (t173.length : Int) := of_decide_eq_true (by first | (with_reducible assumption) | assumption); obtain ⟨ad185, e185, hx185_0, hx185_1⟩ := at_T23 (Kd.R_reads' HO_14.out).2.2 t184 p185 q185; cases e185; replace p185 := eq_true p185; replace q185 := eq_true q185; have p186 : 0 ≤ (x7_1 : Int) := of_decide_eq_true (by first | (with_reducible assumption) | assumption); have q186 : x7_1 < (l0.length : Int) := of_decide_eq_true (by first | (with_reducible assumption) | assumption); obtain ⟨ad186, e186, hx186_0, hx186_1⟩ := at_T23 HR0.out x7_1 p186 q186; obtain rfl : ad172 = ad186 := (by injection e186); replace hx186_0 := (HB.out.cell (World.block_lt_of_cell? w _ hx186_0)).trans hx186_0; replace hx186_1 := (HB.out.cell (World.block_lt_of_cell? w _ hx186_1)).trans hx186_1; replace p186 := eq_true p186; replace q186 := eq_true q186)))
                             go_meet
                             case rel => exact ⟨_, (t173), (wrap64 (x6_1 + 1)), (by first | rfl | (simp; done) | (simp [*]; done)), H', ⟨by have := HK1.out; have := HJ2.out; have := HJ5.out; have := HK4.out; have := HJ19.out; have := HJ39.out; first | omega | exact Nat.le_refl _⟩, ⟨by (with_reducible repeat (first | apply Kd.R_alloc | apply Kd.R_drewN | apply Kd.R_drew)); exact HO_14.out⟩, ⟨by repeat (first | (with_reducible first | exact HB.out | apply below_alloc | apply pw_below_drewN | apply below_drew1) | exact HB.out)⟩⟩
                           ·rw [if_neg c75] at H
                            exact absurd H (by simp)
                          ·rw [if_neg c74] at H
                           exact absurd H (by simp)
                       ·rw [if_neg c66] at H
                        exact absurd H (by simp)
                      ·rw [if_neg c65] at H
                       exact absurd H (by simp)
                 ·rw [if_neg c38] at H
                  exact absurd H (by simp)
                ·rw [if_neg c37] at H
                 exact absurd H (by simp)
              case rest => as_aux_lemma =>
               clear HC23
               try clear c1
               try clear p1
               try clear q1
               try clear hx1
               try clear c2
               try clear p2
               try clear c3
               try clear c4
               try clear c4b0
               try clear c5
               try clear c6
               try clear p6
               try clear c7
               try clear c7b0
               try clear c8
               try clear c8b0
               try clear c10
               try clear c11
               try clear c11b0
               try clear c12
               try clear c14
               try clear c14b0
               try clear c15
               try clear c15b0
               try clear p15
               try clear q15
               try clear hx15
               try clear c16
               try clear c16b0
               try clear p16
               try clear q16
               try clear hx16
               try clear c17
               try clear c17b0
               try clear p17
               try clear q17
               try clear hx17
               try clear c18
               try clear c18b0
               try clear p18
               try clear q18
               try clear hx18
               try clear c19
               try clear c19b0
               try clear c19b1
               try clear c21
               try clear c21b0
               try clear c22
               try clear c22b0
               try clear c24
               try clear c25
               try clear c25b0
               try clear c26
               try clear c26b0
               try clear c30
               try clear c30b0
               try clear c30b1
               try clear c30b2
               try clear c31
               try clear c32
               try clear c32b0
               try clear c33
               try clear c33b0
               try clear c34
               try clear c34b0
               try clear c34b1
               try clear c35
               try clear c36
               try clear c37
               try clear c37b0
               try clear c38
               try clear c38b0
               try clear c42
               try clear c42b0
               try clear c42b1
               try clear c42b2
               try clear c43
               try clear c44
               try clear c44b0
               try clear c45
               try clear c45b0
               try clear c46
               try clear c46b0
               try clear c46b1
               try clear c47
               try clear c48
               try clear c49
               try clear c49b0
               try clear c50
               try clear c50b0
               try clear c52
               try clear c52b0
               try clear c55
               try clear c55b0
               try clear c58
               try clear c58b0
               try clear c59
               try clear c59b0
               try clear c60
               try clear c60b0
               try clear p64
               try clear c65
               try clear c65b0
               try clear c66
               try clear c66b0
               try clear c68
               try clear c68b0
               try clear c71
               try clear c71b0
               try clear c74
               try clear c74b0
               try clear c75
               try clear c75b0
               try clear c76
               try clear c76b0
               try clear hx158_0
               try clear hx158_1
               try clear hx160_0
               try clear hx160_1
               try clear hx161_0
               try clear hx161_1
               try clear hx162_0
               try clear hx162_1
               try clear hx163_0
               try clear hx163_1
               try clear hx164_0
               try clear hx165_0
               try clear hx165_1
               try clear hx171_0
               try clear hx171_1
               try clear hx172_0
               try clear hx172_1
               try clear hx178_0
               try clear hx178_1
               try clear hx179_0
               try clear hx179_1
               try clear hx181_0
               try clear hx181_1
               try clear hx182_0
               try clear hx182_1
               try clear hx183_0
               try clear hx183_1
               try clear hx185_0
               try clear hx185_1
               try clear hx186_0
               try clear hx186_1
               try clear p1
               try clear p15
               try clear p158
               try clear p16
               try clear p160
               try clear p161
               try clear p162
               try clear p163
               try clear p164
               try clear p165
               try clear p17
               try clear p171
               try clear p172
               try clear p178
               try clear p179
               try clear p181
               try clear p182
               try clear p183
               try clear p185
               try clear p186
               try clear p2
               try clear p6
               try clear q1
               try clear q15
               try clear q158
               try clear q16
               try clear q160
               try clear q161
               try clear q162
               try clear q163
               try clear q164
               try clear q165
               try clear q17
               try clear q171
               try clear q172
               try clear q178
               try clear q179
               try clear q181
               try clear q182
               try clear q183
               try clear q185
               try clear q186
               obtain ⟨kq, x5_22, x6_22, rfl, HA, HJ22, HO_5, HB⟩ := hcut
               cases kq with
               | zero => exact absurd HA.out (by simp [tendrillaw8_ShapeGrows.j7])
               | succ kj22 =>
                have H := HA.out
                clear HA
                simp only [tendrillaw8_ShapeGrows.j7] at H
                by_cases c81 : (x5_22.length : Int) = x6_22
                ·rw [if_pos c81] at H
                 have c81b0 : ((x5_22.length : Int) == x6_22) = true := beq_iff_eq.mpr c81
                 have c81b1 : ((x5_22.length : Int) != x6_22) = false := bne_eq_false_iff_eq.mpr c81
                 clear c81
                 replace H := Option.bind_eq_some_iff.mp H
                 obtain ⟨t187, A820, H⟩ := H
                 replace H : (if t187 = true then ((tendrillaw8_right.f kj22 x5_22).bind fun t188 => (if t188 = true then (tendrillaw8_ShapeGrows.l0 kj22 l0 l1 x5_22 x6_22 (wrap64 (x7_1 + 1))) else (some false))) else (some false)) = some r := H
                 have A82 := Aside0.mk A820
                 clear A820
                 by_cases c83 : t187 = true
                 ·subst c83
                  have H1 : ((tendrillaw8_right.f kj22 x5_22).bind fun t188 => (if t188 = true then (tendrillaw8_ShapeGrows.l0 kj22 l0 l1 x5_22 x6_22 (wrap64 (x7_1 + 1))) else (some false))) = some r := by rw [if_pos rfl] at H; exact H
                  clear H
                  have H := H1
                  clear H1
                  replace H := Option.bind_eq_some_iff.mp H
                  obtain ⟨t188, A840, H⟩ := H
                  replace H : (if t188 = true then (tendrillaw8_ShapeGrows.l0 kj22 l0 l1 x5_22 x6_22 (wrap64 (x7_1 + 1))) else (some false)) = some r := H
                  have A84 := Aside0.mk A840
                  clear A840
                  by_cases c85 : t188 = true
                  ·subst c85
                   have H1 : (tendrillaw8_ShapeGrows.l0 kj22 l0 l1 x5_22 x6_22 (wrap64 (x7_1 + 1))) = some r := by rw [if_pos rfl] at H; exact H
                   clear H
                   have H := H1
                   clear H1
                   have H' := Aside0.mk H
                   clear H
                   obtain ⟨Ao86, co86, eo86⟩ := Kd.R_slice HO_5.out
                   subst eo86
                   go_wp2_with (first | (go_at_call 17; (with_reducible refine (shape_Right.calls kj22 _ _ x5_22 true _ ?side1 ?side2 A82.out).mono ?_); (case side1 => repeat (first | exact (Kd.R_reads' HO_5.out).2.2 | (with_reducible refine Kd.C_alloc ?_ _) | (with_reducible refine Kd.C_drewN ?_ _) | (with_reducible refine Kd.C_drew ?_))); (case side2 => exact (Kd.R_reads' HO_5.out).2.1); rintro e w87 ⟨rfl, hb⟩; have n0_ := Aside0.mk (Kd.R_below (by (with_reducible repeat (first | apply Kd.R_alloc | apply Kd.R_drewN | apply Kd.R_drew)); exact HO_5.out) hb); have n1_ := Aside0.mk (below_step (by repeat (first | (with_reducible first | exact HB.out | apply below_alloc | apply pw_below_drewN | apply below_drew1) | exact HB.out)) hb); clear HO_5; clear HB; have HO_5 := n0_; have HB := n1_; clear n0_ n1_; (try clear hb); (try clear hb2); (try clear hk); (try clear hi)) | (go_at_call 15; (with_reducible refine (tendrillaw8_right.calls kj22 _ _ x5_22 true _ ?side1 ?side2 A84.out).mono ?_); (case side1 => repeat (first | exact (Kd.R_reads' HO_5.out).2.2 | (with_reducible refine Kd.C_alloc ?_ _) | (with_reducible refine Kd.C_drewN ?_ _) | (with_reducible refine Kd.C_drew ?_))); (case side2 => exact (Kd.R_reads' HO_5.out).2.1); rintro e w88 ⟨rfl, hb⟩; have n0_ := Aside0.mk (Kd.R_below (by (with_reducible repeat (first | apply Kd.R_alloc | apply Kd.R_drewN | apply Kd.R_drew)); exact HO_5.out) hb); have n1_ := Aside0.mk (below_step (by repeat (first | (with_reducible first | exact HB.out | apply below_alloc | apply pw_below_drewN | apply below_drew1) | exact HB.out)) hb); clear HO_5; clear HB; have HO_5 := n0_; have HB := n1_; clear n0_ n1_; (try clear hb); (try clear hb2); (try clear hk); (try clear hi)))
                   repeat (go_quiet (first | (go_at_call 17; (with_reducible refine (shape_Right.calls kj22 _ _ x5_22 true _ ?side1 ?side2 A82.out).mono ?_); (case side1 => repeat (first | exact (Kd.R_reads' HO_5.out).2.2 | (with_reducible refine Kd.C_alloc ?_ _) | (with_reducible refine Kd.C_drewN ?_ _) | (with_reducible refine Kd.C_drew ?_))); (case side2 => exact (Kd.R_reads' HO_5.out).2.1); rintro e w87 ⟨rfl, hb⟩; have n0_ := Aside0.mk (Kd.R_below (by (with_reducible repeat (first | apply Kd.R_alloc | apply Kd.R_drewN | apply Kd.R_drew)); exact HO_5.out) hb); have n1_ := Aside0.mk (below_step (by repeat (first | (with_reducible first | exact HB.out | apply below_alloc | apply pw_below_drewN | apply below_drew1) | exact HB.out)) hb); clear HO_5; clear HB; have HO_5 := n0_; have HB := n1_; clear n0_ n1_; (try clear hb); (try clear hb2); (try clear hk); (try clear hi)) | (go_at_call 15; (with_reducible refine (tendrillaw8_right.calls kj22 _ _ x5_22 true _ ?side1 ?side2 A84.out).mono ?_); (case side1 => repeat (first | exact (Kd.R_reads' HO_5.out).2.2 | (with_reducible refine Kd.C_alloc ?_ _) | (with_reducible refine Kd.C_drewN ?_ _) | (with_reducible refine Kd.C_drew ?_))); (case side2 => exact (Kd.R_reads' HO_5.out).2.1); rintro e w88 ⟨rfl, hb⟩; have n0_ := Aside0.mk (Kd.R_below (by (with_reducible repeat (first | apply Kd.R_alloc | apply Kd.R_drewN | apply Kd.R_drew)); exact HO_5.out) hb); have n1_ := Aside0.mk (below_step (by repeat (first | (with_reducible first | exact HB.out | apply below_alloc | apply pw_below_drewN | apply below_drew1) | exact HB.out)) hb); clear HO_5; clear HB; have HO_5 := n0_; have HB := n1_; clear n0_ n1_; (try clear hb); (try clear hb2); (try clear hk); (try clear hi))); try go_wp2_with (first | (go_at_call 17; (with_reducible refine (shape_Right.calls kj22 _ _ x5_22 true _ ?side1 ?side2 A82.out).mono ?_); (case side1 => repeat (first | exact (Kd.R_reads' HO_5.out).2.2 | (with_reducible refine Kd.C_alloc ?_ _) | (with_reducible refine Kd.C_drewN ?_ _) | (with_reducible refine Kd.C_drew ?_))); (case side2 => exact (Kd.R_reads' HO_5.out).2.1); rintro e w87 ⟨rfl, hb⟩; have n0_ := Aside0.mk (Kd.R_below (by (with_reducible repeat (first | apply Kd.R_alloc | apply Kd.R_drewN | apply Kd.R_drew)); exact HO_5.out) hb); have n1_ := Aside0.mk (below_step (by repeat (first | (with_reducible first | exact HB.out | apply below_alloc | apply pw_below_drewN | apply below_drew1) | exact HB.out)) hb); clear HO_5; clear HB; have HO_5 := n0_; have HB := n1_; clear n0_ n1_; (try clear hb); (try clear hb2); (try clear hk); (try clear hi)) | (go_at_call 15; (with_reducible refine (tendrillaw8_right.calls kj22 _ _ x5_22 true _ ?side1 ?side2 A84.out).mono ?_); (case side1 => repeat (first | exact (Kd.R_reads' HO_5.out).2.2 | (with_reducible refine Kd.C_alloc ?_ _) | (with_reducible refine Kd.C_drewN ?_ _) | (with_reducible refine Kd.C_drew ?_))); (case side2 => exact (Kd.R_reads' HO_5.out).2.1); rintro e w88 ⟨rfl, hb⟩; have n0_ := Aside0.mk (Kd.R_below (by (with_reducible repeat (first | apply Kd.R_alloc | apply Kd.R_drewN | apply Kd.R_drew)); exact HO_5.out) hb); have n1_ := Aside0.mk (below_step (by repeat (first | (with_reducible first | exact HB.out | apply below_alloc | apply pw_below_drewN | apply below_drew1) | exact HB.out)) hb); clear HO_5; clear HB; have HO_5 := n0_; have HB := n1_; clear n0_ n1_; (try clear hb); (try clear hb2); (try clear hk); (try clear hi))))
                   go_roundg kj22
                   case measure => have := HK1.out; have := HJ2.out; have := HJ5.out; have := HK4.out; have := HJ19.out; have := HJ22.out; omega
                   case rel => exact ⟨(x5_22), (x6_22), (wrap64 (x7_1 + 1)), (by first | rfl | (simp; done) | (simp [*]; done)), (by first | rfl | (simp; done) | (simp [*]; done)), H', ⟨by have := HK1.out; have := HJ2.out; have := HJ5.out; have := HK4.out; have := HJ19.out; have := HJ22.out; omega⟩, ⟨by (with_reducible repeat (first | apply Kd.R_alloc | apply Kd.R_drewN | apply Kd.R_drew)); exact HO_5.out⟩, ⟨by repeat (first | (with_reducible first | exact HB.out | apply below_alloc | apply pw_below_drewN | apply below_drew1) | exact HB.out)⟩⟩
                  ·replace c85 := Bool.eq_false_iff.mpr c85
                   subst c85
                   have H1 : (some false) = some r := by rw [if_neg (show ¬ (false = true) by decide)] at H; exact H
                   clear H
                   have H := H1
                   clear H1
                   obtain rfl := Option.some.inj H
                   obtain ⟨Ao89, co89, eo89⟩ := Kd.R_slice HO_5.out
                   subst eo89
                   go_wp2_with (first | (go_at_call 17; (with_reducible refine (shape_Right.calls kj22 _ _ x5_22 true _ ?side1 ?side2 A82.out).mono ?_); (case side1 => repeat (first | exact (Kd.R_reads' HO_5.out).2.2 | (with_reducible refine Kd.C_alloc ?_ _) | (with_reducible refine Kd.C_drewN ?_ _) | (with_reducible refine Kd.C_drew ?_))); (case side2 => exact (Kd.R_reads' HO_5.out).2.1); rintro e w90 ⟨rfl, hb⟩; have n0_ := Aside0.mk (Kd.R_below (by (with_reducible repeat (first | apply Kd.R_alloc | apply Kd.R_drewN | apply Kd.R_drew)); exact HO_5.out) hb); have n1_ := Aside0.mk (below_step (by repeat (first | (with_reducible first | exact HB.out | apply below_alloc | apply pw_below_drewN | apply below_drew1) | exact HB.out)) hb); clear HO_5; clear HB; have HO_5 := n0_; have HB := n1_; clear n0_ n1_; (try clear hb); (try clear hb2); (try clear hk); (try clear hi)) | (go_at_call 15; (with_reducible refine (tendrillaw8_right.calls kj22 _ _ x5_22 false _ ?side1 ?side2 A84.out).mono ?_); (case side1 => repeat (first | exact (Kd.R_reads' HO_5.out).2.2 | (with_reducible refine Kd.C_alloc ?_ _) | (with_reducible refine Kd.C_drewN ?_ _) | (with_reducible refine Kd.C_drew ?_))); (case side2 => exact (Kd.R_reads' HO_5.out).2.1); rintro e w91 ⟨rfl, hb⟩; have n0_ := Aside0.mk (Kd.R_below (by (with_reducible repeat (first | apply Kd.R_alloc | apply Kd.R_drewN | apply Kd.R_drew)); exact HO_5.out) hb); have n1_ := Aside0.mk (below_step (by repeat (first | (with_reducible first | exact HB.out | apply below_alloc | apply pw_below_drewN | apply below_drew1) | exact HB.out)) hb); clear HO_5; clear HB; have HO_5 := n0_; have HB := n1_; clear n0_ n1_; (try clear hb); (try clear hb2); (try clear hk); (try clear hi)))
                   repeat (go_quiet (first | (go_at_call 17; (with_reducible refine (shape_Right.calls kj22 _ _ x5_22 true _ ?side1 ?side2 A82.out).mono ?_); (case side1 => repeat (first | exact (Kd.R_reads' HO_5.out).2.2 | (with_reducible refine Kd.C_alloc ?_ _) | (with_reducible refine Kd.C_drewN ?_ _) | (with_reducible refine Kd.C_drew ?_))); (case side2 => exact (Kd.R_reads' HO_5.out).2.1); rintro e w90 ⟨rfl, hb⟩; have n0_ := Aside0.mk (Kd.R_below (by (with_reducible repeat (first | apply Kd.R_alloc | apply Kd.R_drewN | apply Kd.R_drew)); exact HO_5.out) hb); have n1_ := Aside0.mk (below_step (by repeat (first | (with_reducible first | exact HB.out | apply below_alloc | apply pw_below_drewN | apply below_drew1) | exact HB.out)) hb); clear HO_5; clear HB; have HO_5 := n0_; have HB := n1_; clear n0_ n1_; (try clear hb); (try clear hb2); (try clear hk); (try clear hi)) | (go_at_call 15; (with_reducible refine (tendrillaw8_right.calls kj22 _ _ x5_22 false _ ?side1 ?side2 A84.out).mono ?_); (case side1 => repeat (first | exact (Kd.R_reads' HO_5.out).2.2 | (with_reducible refine Kd.C_alloc ?_ _) | (with_reducible refine Kd.C_drewN ?_ _) | (with_reducible refine Kd.C_drew ?_))); (case side2 => exact (Kd.R_reads' HO_5.out).2.1); rintro e w91 ⟨rfl, hb⟩; have n0_ := Aside0.mk (Kd.R_below (by (with_reducible repeat (first | apply Kd.R_alloc | apply Kd.R_drewN | apply Kd.R_drew)); exact HO_5.out) hb); have n1_ := Aside0.mk (below_step (by repeat (first | (with_reducible first | exact HB.out | apply below_alloc | apply pw_below_drewN | apply below_drew1) | exact HB.out)) hb); clear HO_5; clear HB; have HO_5 := n0_; have HB := n1_; clear n0_ n1_; (try clear hb); (try clear hb2); (try clear hk); (try clear hi))); try go_wp2_with (first | (go_at_call 17; (with_reducible refine (shape_Right.calls kj22 _ _ x5_22 true _ ?side1 ?side2 A82.out).mono ?_); (case side1 => repeat (first | exact (Kd.R_reads' HO_5.out).2.2 | (with_reducible refine Kd.C_alloc ?_ _) | (with_reducible refine Kd.C_drewN ?_ _) | (with_reducible refine Kd.C_drew ?_))); (case side2 => exact (Kd.R_reads' HO_5.out).2.1); rintro e w90 ⟨rfl, hb⟩; have n0_ := Aside0.mk (Kd.R_below (by (with_reducible repeat (first | apply Kd.R_alloc | apply Kd.R_drewN | apply Kd.R_drew)); exact HO_5.out) hb); have n1_ := Aside0.mk (below_step (by repeat (first | (with_reducible first | exact HB.out | apply below_alloc | apply pw_below_drewN | apply below_drew1) | exact HB.out)) hb); clear HO_5; clear HB; have HO_5 := n0_; have HB := n1_; clear n0_ n1_; (try clear hb); (try clear hb2); (try clear hk); (try clear hi)) | (go_at_call 15; (with_reducible refine (tendrillaw8_right.calls kj22 _ _ x5_22 false _ ?side1 ?side2 A84.out).mono ?_); (case side1 => repeat (first | exact (Kd.R_reads' HO_5.out).2.2 | (with_reducible refine Kd.C_alloc ?_ _) | (with_reducible refine Kd.C_drewN ?_ _) | (with_reducible refine Kd.C_drew ?_))); (case side2 => exact (Kd.R_reads' HO_5.out).2.1); rintro e w91 ⟨rfl, hb⟩; have n0_ := Aside0.mk (Kd.R_below (by (with_reducible repeat (first | apply Kd.R_alloc | apply Kd.R_drewN | apply Kd.R_drew)); exact HO_5.out) hb); have n1_ := Aside0.mk (below_step (by repeat (first | (with_reducible first | exact HB.out | apply below_alloc | apply pw_below_drewN | apply below_drew1) | exact HB.out)) hb); clear HO_5; clear HB; have HO_5 := n0_; have HB := n1_; clear n0_ n1_; (try clear hb); (try clear hb2); (try clear hk); (try clear hi))))
                   go_ret
                   exact ⟨by first | rfl | (simp [errW_none, errW_some] <;> rfl) | (simp [*, errW_none, errW_some] <;> rfl), by repeat (first | (with_reducible first | exact HB.out | apply below_alloc | apply pw_below_drewN | apply below_drew1) | exact HB.out)⟩
                 ·replace c83 := Bool.eq_false_iff.mpr c83
                  subst c83
                  have H1 : (some false) = some r := by rw [if_neg (show ¬ (false = true) by decide)] at H; exact H
                  clear H
                  have H := H1
                  clear H1
                  obtain rfl := Option.some.inj H
                  obtain ⟨Ao92, co92, eo92⟩ := Kd.R_slice HO_5.out
                  subst eo92
                  go_wp2_with (first | (go_at_call 17; (with_reducible refine (shape_Right.calls kj22 _ _ x5_22 false _ ?side1 ?side2 A82.out).mono ?_); (case side1 => repeat (first | exact (Kd.R_reads' HO_5.out).2.2 | (with_reducible refine Kd.C_alloc ?_ _) | (with_reducible refine Kd.C_drewN ?_ _) | (with_reducible refine Kd.C_drew ?_))); (case side2 => exact (Kd.R_reads' HO_5.out).2.1); rintro e w93 ⟨rfl, hb⟩; have n0_ := Aside0.mk (Kd.R_below (by (with_reducible repeat (first | apply Kd.R_alloc | apply Kd.R_drewN | apply Kd.R_drew)); exact HO_5.out) hb); have n1_ := Aside0.mk (below_step (by repeat (first | (with_reducible first | exact HB.out | apply below_alloc | apply pw_below_drewN | apply below_drew1) | exact HB.out)) hb); clear HO_5; clear HB; have HO_5 := n0_; have HB := n1_; clear n0_ n1_; (try clear hb); (try clear hb2); (try clear hk); (try clear hi)))
                  repeat (go_quiet (first | (go_at_call 17; (with_reducible refine (shape_Right.calls kj22 _ _ x5_22 false _ ?side1 ?side2 A82.out).mono ?_); (case side1 => repeat (first | exact (Kd.R_reads' HO_5.out).2.2 | (with_reducible refine Kd.C_alloc ?_ _) | (with_reducible refine Kd.C_drewN ?_ _) | (with_reducible refine Kd.C_drew ?_))); (case side2 => exact (Kd.R_reads' HO_5.out).2.1); rintro e w93 ⟨rfl, hb⟩; have n0_ := Aside0.mk (Kd.R_below (by (with_reducible repeat (first | apply Kd.R_alloc | apply Kd.R_drewN | apply Kd.R_drew)); exact HO_5.out) hb); have n1_ := Aside0.mk (below_step (by repeat (first | (with_reducible first | exact HB.out | apply below_alloc | apply pw_below_drewN | apply below_drew1) | exact HB.out)) hb); clear HO_5; clear HB; have HO_5 := n0_; have HB := n1_; clear n0_ n1_; (try clear hb); (try clear hb2); (try clear hk); (try clear hi))); try go_wp2_with (first | (go_at_call 17; (with_reducible refine (shape_Right.calls kj22 _ _ x5_22 false _ ?side1 ?side2 A82.out).mono ?_); (case side1 => repeat (first | exact (Kd.R_reads' HO_5.out).2.2 | (with_reducible refine Kd.C_alloc ?_ _) | (with_reducible refine Kd.C_drewN ?_ _) | (with_reducible refine Kd.C_drew ?_))); (case side2 => exact (Kd.R_reads' HO_5.out).2.1); rintro e w93 ⟨rfl, hb⟩; have n0_ := Aside0.mk (Kd.R_below (by (with_reducible repeat (first | apply Kd.R_alloc | apply Kd.R_drewN | apply Kd.R_drew)); exact HO_5.out) hb); have n1_ := Aside0.mk (below_step (by repeat (first | (with_reducible first | exact HB.out | apply below_alloc | apply pw_below_drewN | apply below_drew1) | exact HB.out)) hb); clear HO_5; clear HB; have HO_5 := n0_; have HB := n1_; clear n0_ n1_; (try clear hb); (try clear hb2); (try clear hk); (try clear hi))))
                  go_ret
                  exact ⟨by first | rfl | (simp [errW_none, errW_some] <;> rfl) | (simp [*, errW_none, errW_some] <;> rfl), by repeat (first | (with_reducible first | exact HB.out | apply below_alloc | apply pw_below_drewN | apply below_drew1) | exact HB.out)⟩
                ·rw [if_neg c81] at H
                 have c81b0 : ((x5_22.length : Int) == x6_22) = false := beq_eq_false_iff_ne.mpr c81
                 have c81b1 : ((x5_22.length : Int) != x6_22) = true := bne_iff_ne.mpr c81
                 obtain rfl := Option.some.inj H
                 obtain ⟨Ao94, co94, eo94⟩ := Kd.R_slice HO_5.out
                 subst eo94
                 go_wp2
                 repeat (go_quiet (fail); try go_wp2)
                 go_ret
                 exact ⟨by first | rfl | (simp [errW_none, errW_some] <;> rfl) | (simp [*, errW_none, errW_some] <;> rfl), by repeat (first | (with_reducible first | exact HB.out | apply below_alloc | apply pw_below_drewN | apply below_drew1) | exact HB.out)⟩
     ·replace c5 := Bool.eq_false_iff.mpr c5
      subst c5
      have H1 : ((tendrillaw8_ShapeRuns.f).bind fun t157 => (some t157)) = some r := by rw [if_neg (show ¬ (false = true) by decide)] at H; exact H
      clear H
      have H := H1
      clear H1
      replace H := Option.bind_eq_some_iff.mp H
      obtain ⟨t157, A950, H⟩ := H
      replace H : (some t157) = some r := H
      have A95 := Aside0.mk A950
      clear A950
      obtain rfl := Option.some.inj H
      go_wp2_with (first | (go_at_call 3; (with_reducible refine (tendrillaw8_ShapeRuns.calls  t157 _ A95.out).mono ?_); rintro e w96 ⟨rfl, hb⟩; have n0_ := Aside0.mk (Kd.R_below (by (with_reducible repeat (first | apply Kd.R_alloc | apply Kd.R_drewN | apply Kd.R_drew)); exact HO_5.out) hb); have n1_ := Aside0.mk (below_step (by repeat (first | (with_reducible first | exact HB.out | apply below_alloc | apply pw_below_drewN | apply below_drew1) | exact HB.out)) hb); clear HO_5; clear HB; have HO_5 := n0_; have HB := n1_; clear n0_ n1_; (try clear hb); (try clear hb2); (try clear hk); (try clear hi)))
      repeat (go_quiet (first | (go_at_call 3; (with_reducible refine (tendrillaw8_ShapeRuns.calls  t157 _ A95.out).mono ?_); rintro e w96 ⟨rfl, hb⟩; have n0_ := Aside0.mk (Kd.R_below (by (with_reducible repeat (first | apply Kd.R_alloc | apply Kd.R_drewN | apply Kd.R_drew)); exact HO_5.out) hb); have n1_ := Aside0.mk (below_step (by repeat (first | (with_reducible first | exact HB.out | apply below_alloc | apply pw_below_drewN | apply below_drew1) | exact HB.out)) hb); clear HO_5; clear HB; have HO_5 := n0_; have HB := n1_; clear n0_ n1_; (try clear hb); (try clear hb2); (try clear hk); (try clear hi))); try go_wp2_with (first | (go_at_call 3; (with_reducible refine (tendrillaw8_ShapeRuns.calls  t157 _ A95.out).mono ?_); rintro e w96 ⟨rfl, hb⟩; have n0_ := Aside0.mk (Kd.R_below (by (with_reducible repeat (first | apply Kd.R_alloc | apply Kd.R_drewN | apply Kd.R_drew)); exact HO_5.out) hb); have n1_ := Aside0.mk (below_step (by repeat (first | (with_reducible first | exact HB.out | apply below_alloc | apply pw_below_drewN | apply below_drew1) | exact HB.out)) hb); clear HO_5; clear HB; have HO_5 := n0_; have HB := n1_; clear n0_ n1_; (try clear hb); (try clear hb2); (try clear hk); (try clear hi))))
      go_ret
      exact ⟨by first | rfl | (simp [errW_none, errW_some] <;> rfl) | (simp [*, errW_none, errW_some] <;> rfl), by repeat (first | (with_reducible first | exact HB.out | apply below_alloc | apply pw_below_drewN | apply below_drew1) | exact HB.out)⟩

end Go.Proofs.YtdjjmnkopoldhaaDoor.PLaw
