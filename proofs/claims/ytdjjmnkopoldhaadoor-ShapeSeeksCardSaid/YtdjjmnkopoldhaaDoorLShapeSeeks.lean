/- The walk of ShapeSeeks: printed, over given contracts; no further condition. -/
import Derived.Test.YtdjjmnkopoldhaaDoorPBasex2
import Derived.Test.YtdjjmnkopoldhaaDoorPBasex3
import Derived.Test.YtdjjmnkopoldhaaDoorGiv2
namespace Go.Proofs.YtdjjmnkopoldhaaDoor.PLaw
open Go.Proofs.YtdjjmnkopoldhaaDoor.PBase Go.RowKit Go.Proofs.YtdjjmnkopoldhaaDoorW.PrintWords Go.Proofs.YtdjjmnkopoldhaaDoorW.PrintLast Go.Proofs.YtdjjmnkopoldhaaDoorW.PrintMore
attribute [local go_sem] max2_int min2_int max_two min_two max_three min_three max_four min_four   -- for this text's walks alone
attribute [local go_sem high] eqA23
attribute [local go_sem high] geq_str8 leq_str8
set_option linter.unusedVariables false
set_option linter.unusedSimpArgs false
mutual
def tendrillaw8_ShapeSeeks.j0 : Nat → List (S23) → ByteArray → Int → Bool → Option (Bool)
 | 0, _, _, _, _ => none
 | k + 1, x0, x1, x5, x26 => if x26 = true then (some false) else (tendrillaw8_ShapeSeeks.l0 k x0 x1 x5 (x0.length : Int) 0)
def tendrillaw8_ShapeSeeks.l0 : Nat → List (S23) → ByteArray → Int → Int → Int → Option (Bool)
 | 0, _, _, _, _, _ => none
 | k + 1, x0, x1, x5, x28, x29 => if x29 < x28 then (if 0 ≤ x29 then (if x29 < (x0.length : Int) then (if ((Op.bytesLess (((rd_T23 x0 x29).f0).toList) x1.toList) != (decide (x29 < x5))) = true then (some false) else (tendrillaw8_ShapeSeeks.l0 k x0 x1 x5 x28 (wrap64 (x29 + 1)))) else (none)) else (none)) else ((shape_Seek.f k x0 (⟨#[]⟩ : ByteArray)).bind fun t140 => (if t140 = 0 then ((tendrillaw8_ShapeRuns.f).bind fun t141 => (some t141)) else (some false)))
end
def tendrillaw8_ShapeSeeks.f (k : Nat) (l0 : List (S23)) (a1 : ByteArray) : Option (Bool) := if (l0.length : Int) > 40 then (none) else ((shape_Right.f k l0).bind fun t136 => (if t136 = true then ((shape_Seek.f k l0 a1).bind fun t138 => (if t138 < 0 then (tendrillaw8_ShapeSeeks.j0 k l0 a1 t138 true) else (tendrillaw8_ShapeSeeks.j0 k l0 a1 t138 (decide (t138 > (l0.length : Int)))))) else ((tendrillaw8_ShapeRuns.f).bind fun t137 => (some t137))))
theorem tendrillaw8_ShapeSeeks.mono_l : ∀ k, (∀ y0 y1 y2 y3, LeO (tendrillaw8_ShapeSeeks.j0 k y0 y1 y2 y3) (tendrillaw8_ShapeSeeks.j0 (k + 1) y0 y1 y2 y3)) ∧ (∀ y0 y1 y2 y3 y4, LeO (tendrillaw8_ShapeSeeks.l0 k y0 y1 y2 y3 y4) (tendrillaw8_ShapeSeeks.l0 (k + 1) y0 y1 y2 y3 y4))
 | 0 => ⟨fun _ _ _ _ r h => by simp [tendrillaw8_ShapeSeeks.j0] at h, fun _ _ _ _ _ r h => by simp [tendrillaw8_ShapeSeeks.l0] at h⟩
 | k + 1 => by
  obtain ⟨ih0, ih1⟩ := tendrillaw8_ShapeSeeks.mono_l k
  refine ⟨?_, ?_⟩
  ·intro y0 y1 y2 y3
   unfold tendrillaw8_ShapeSeeks.j0
   repeat' first
   | (with_reducible exact ih0 _ _ _ _)
   | (with_reducible exact ih1 _ _ _ _ _)
   | (with_reducible exact shape_Right.mono _ _)
   | (with_reducible exact shape_Seek.mono _ _ _)
   | (with_reducible exact LeO.refl _)
   | (with_reducible exact LeO.none _)
   | (with_reducible refine LeO.ite ?_ ?_)
   | (with_reducible refine LeO.bind ?_ (fun _ => ?_))
   | exact ih0 _ _ _ _
   | exact ih1 _ _ _ _ _
   | exact shape_Right.mono _ _
   | exact shape_Seek.mono _ _ _
   | exact LeO.none _
   | refine LeO.ite ?_ ?_
   | refine LeO.bind ?_ (fun _ => ?_)
  ·intro y0 y1 y2 y3 y4
   unfold tendrillaw8_ShapeSeeks.l0
   repeat' first
   | (with_reducible exact ih0 _ _ _ _)
   | (with_reducible exact ih1 _ _ _ _ _)
   | (with_reducible exact shape_Right.mono _ _)
   | (with_reducible exact shape_Seek.mono _ _ _)
   | (with_reducible exact LeO.refl _)
   | (with_reducible exact LeO.none _)
   | (with_reducible refine LeO.ite ?_ ?_)
   | (with_reducible refine LeO.bind ?_ (fun _ => ?_))
   | exact ih0 _ _ _ _
   | exact ih1 _ _ _ _ _
   | exact shape_Right.mono _ _
   | exact shape_Seek.mono _ _ _
   | exact LeO.none _
   | refine LeO.ite ?_ ?_
   | refine LeO.bind ?_ (fun _ => ?_)
theorem tendrillaw8_ShapeSeeks.mono : ∀ a0 a1 k, LeO (tendrillaw8_ShapeSeeks.f k a0 a1) (tendrillaw8_ShapeSeeks.f (k + 1) a0 a1) := by
 intro a0 a1 k
 obtain ⟨ih0, ih1⟩ := tendrillaw8_ShapeSeeks.mono_l k
 unfold tendrillaw8_ShapeSeeks.f
 repeat' first
   | (with_reducible exact ih0 _ _ _ _)
   | (with_reducible exact ih1 _ _ _ _ _)
   | (with_reducible exact shape_Right.mono _ _)
   | (with_reducible exact shape_Seek.mono _ _ _)
   | (with_reducible exact LeO.refl _)
   | (with_reducible exact LeO.none _)
   | (with_reducible refine LeO.ite ?_ ?_)
   | (with_reducible refine LeO.bind ?_ (fun _ => ?_))
   | exact ih0 _ _ _ _
   | exact ih1 _ _ _ _ _
   | exact shape_Right.mono _ _
   | exact shape_Seek.mono _ _ _
   | exact LeO.none _
   | refine LeO.ite ?_ ?_
   | refine LeO.bind ?_ (fun _ => ?_)
set_option maxHeartbeats 8000000 in
set_option maxRecDepth 100000 in
theorem tendrillaw8_ShapeSeeks.calls_cut (k : Nat) (A0 : Option Addr) (c0 : Nat) (l0 : List (S23)) (a1 : ByteArray) (r : Bool) (w : World) (n0 : Nat) (hn0 : (l0.length = n0 ∧ n0 ≤ 40) ∨ (40 < n0 ∧ l0.length = 40)) (hnc0 : n0 ≤ c0) (hr0 : Kd.C k23 w A0 l0.length l0) (hc0 : l0.length ≤ c0) (h : tendrillaw8_ShapeSeeks.f k l0 a1 = some r) :
  Calls Tryd.prog 6 #[.slice A0 n0 c0, .string a1] w fun e w' => e = .returned (.bool r) ∧ Below w.heap.size w w' := by
 obtain ⟨i_c0, hi_c0, -, -, -⟩ := info_parts info23
 have hcut0 := cut_to (P := Tryd.prog) 25 23 .i64 Tryd.underlying25 hi_c0 A0 n0 c0
 clear hi_c0 i_c0
 rcases hn0 with ⟨rfl, hle0⟩ | ⟨hnn0, hl0⟩
 all_goals (first | (clear hcut0; have d10 : decide ((40 : Int) < (l0.length : Int)) = false := decide_eq_false (by omega); have d20 : decide (40 < l0.length) = false := decide_eq_false (by omega); clear hle0) | (replace hcut0 := hcut0 40 (by omega) (by omega) hnc0; rw [show ((40 : Int)).toNat = l0.length from by omega] at hcut0; have d10 : decide ((40 : Int) < (n0 : Int)) = true := decide_eq_true (by omega); have d20 : decide (40 < n0) = true := decide_eq_true hnn0; clear hl0))
 all_goals
  have HR0 := Aside0.mk hr0
  have HC0 := Aside0.mk hc0
  clear hr0 hc0
  have HB := Aside0.mk (Below.refl w.heap.size w)
  have H : (if (l0.length : Int) > 40 then (none) else ((shape_Right.f k l0).bind fun t136 => (if t136 = true then ((shape_Seek.f k l0 a1).bind fun t138 => (if t138 < 0 then (tendrillaw8_ShapeSeeks.j0 k l0 a1 t138 true) else (tendrillaw8_ShapeSeeks.j0 k l0 a1 t138 (decide (t138 > (l0.length : Int)))))) else ((tendrillaw8_ShapeRuns.f).bind fun t137 => (some t137))))) = some r := h
  clear h
  by_cases c3 : (l0.length : Int) > 40
  ·rw [if_pos c3] at H
   exact absurd H (by simp)
  ·rw [if_neg c3] at H
   have c3b0 : decide (40 < (l0.length : Int)) = false := decide_eq_false c3
   have c3b1 : decide (40 < l0.length) = false := decide_eq_false (by omega)
   clear c3
   replace H := Option.bind_eq_some_iff.mp H
   obtain ⟨t136, A40, H⟩ := H
   replace H : (if t136 = true then ((shape_Seek.f k l0 a1).bind fun t138 => (if t138 < 0 then (tendrillaw8_ShapeSeeks.j0 k l0 a1 t138 true) else (tendrillaw8_ShapeSeeks.j0 k l0 a1 t138 (decide (t138 > (l0.length : Int)))))) else ((tendrillaw8_ShapeRuns.f).bind fun t137 => (some t137))) = some r := H
   have A4 := Aside0.mk A40
   clear A40
   by_cases c5 : t136 = true
   ·subst c5
    have H1 : ((shape_Seek.f k l0 a1).bind fun t138 => (if t138 < 0 then (tendrillaw8_ShapeSeeks.j0 k l0 a1 t138 true) else (tendrillaw8_ShapeSeeks.j0 k l0 a1 t138 (decide (t138 > (l0.length : Int)))))) = some r := by rw [if_pos rfl] at H; exact H
    clear H
    have H := H1
    clear H1
    replace H := Option.bind_eq_some_iff.mp H
    obtain ⟨t138, A60, H⟩ := H
    replace H : (if t138 < 0 then (tendrillaw8_ShapeSeeks.j0 k l0 a1 t138 true) else (tendrillaw8_ShapeSeeks.j0 k l0 a1 t138 (decide (t138 > (l0.length : Int))))) = some r := H
    have A6 := Aside0.mk A60
    clear A60
    have HC7 := Aside0.mk H
    clear H
    go_enter Tryd.func6, Tryd.ntmps6
    go_upto_region 6 with (first | ((with_reducible refine gate_callee (f := 17) rfl ?_); refine goesL_ (some 13) rfl rfl Tryd.func17 (by kernel_rfl) rfl #[.slice A0 l0.length c0] rfl (by (try simp only [List.map_toArray, List.map_cons, List.map_nil]); first | done | rfl | (simp only [List.length_drop, List.length_take]; rfl)) ?_; (with_reducible refine (shape_Right.calls k _ _ l0 true _ ?side1 ?side2 A4.out).mono ?_); (case side1 => repeat (first | exact HR0.out | (with_reducible refine Kd.C_alloc ?_ _) | (with_reducible refine Kd.C_drewN ?_ _) | (with_reducible refine Kd.C_drew ?_))); (case side2 => exact HC0.out); rintro e w8 ⟨rfl, hb⟩; refine ⟨_, rfl, ?_⟩; have n0_ := Aside0.mk (below_step (by repeat (first | (with_reducible first | exact HB.out | apply below_alloc | apply pw_below_drewN | apply below_drew1) | exact HB.out)) hb); clear HB; have HB := n0_; clear n0_; (try clear hb); (try clear hb2); (try clear hk); (try clear hi)) | ((with_reducible refine gate_callee (f := 12) rfl ?_); refine goesL_ (some 18) rfl rfl Tryd.func12 (by kernel_rfl) rfl #[.slice A0 l0.length c0, .string a1] rfl (by (try simp only [List.map_toArray, List.map_cons, List.map_nil]); first | done | rfl | (simp only [List.length_drop, List.length_take]; rfl)) ?_; (with_reducible refine (shape_Seek.calls k _ _ l0 a1 t138 _ ?side1 ?side2 A6.out).mono ?_); (case side1 => repeat (first | exact (Kd.C_below HR0.out HB.out) | (with_reducible refine Kd.C_alloc ?_ _) | (with_reducible refine Kd.C_drewN ?_ _) | (with_reducible refine Kd.C_drew ?_))); (case side2 => exact HC0.out); rintro e w9 ⟨rfl, hb⟩; refine ⟨_, rfl, ?_⟩; have n0_ := Aside0.mk (below_step (by repeat (first | (with_reducible first | exact HB.out | apply below_alloc | apply pw_below_drewN | apply below_drew1) | exact HB.out)) hb); clear HB; have HB := n0_; clear n0_; (try clear hb); (try clear hb2); (try clear hk); (try clear hi)))
    (try simp only [Act.put, List.setIfInBounds_toArray, List.set_cons_zero, List.set_cons_succ])
    go_cut [26] (fun v26 wc => ∃ (kq : Nat) (x26_6 : Bool), v26 = .bool x26_6 ∧ Aside0 (tendrillaw8_ShapeSeeks.j0 kq l0 a1 t138 x26_6 = some r) ∧ Aside0 (kq ≤ k) ∧ Aside0 (Below w.heap.size w wc))
    case first =>
     have H := HC7.out
     clear HC7
     by_cases c10 : t138 < 0
     ·rw [if_pos c10] at H
      have c10b0 : decide (t138 < 0) = true := decide_eq_true c10
      clear c10
      (first | rw [c10b0] | (simp only [i64_w, i32_w]; rw [c10b0]) | skip)
      have H' := Aside0.mk H
      clear H
      go_wp2
      go_meet
      case rel => exact ⟨_, (true), (by first | rfl | (simp; done) | (simp [*]; done)), H', ⟨by first | omega | exact Nat.le_refl _⟩, ⟨by repeat (first | (with_reducible first | exact HB.out | apply below_alloc | apply pw_below_drewN | apply below_drew1) | exact HB.out)⟩⟩
     ·rw [if_neg c10] at H
      have c10b0 : decide (t138 < 0) = false := decide_eq_false c10
      clear c10
      (first | rw [c10b0] | (simp only [i64_w, i32_w]; rw [c10b0]) | skip)
      have H' := Aside0.mk H
      clear H
      go_wp2
      go_meet
      case rel => exact ⟨_, (decide (t138 > (l0.length : Int))), (by first | rfl | (simp; done) | (simp [*]; done)), H', ⟨by first | omega | exact Nat.le_refl _⟩, ⟨by repeat (first | (with_reducible first | exact HB.out | apply below_alloc | apply pw_below_drewN | apply below_drew1) | exact HB.out)⟩⟩
    case rest =>
     clear HC7
     try clear c1
     try clear p2
     try clear c3
     try clear c3b0
     try clear c3b1
     try clear c5
     try clear c6
     try clear c10
     try clear c10b0
     obtain ⟨kq, x26_6, rfl, HA, HJ6, HB⟩ := hcut
     cases kq with
     | zero => exact absurd HA.out (by simp [tendrillaw8_ShapeSeeks.j0])
     | succ kj6 =>
      have H := HA.out
      clear HA
      simp only [tendrillaw8_ShapeSeeks.j0] at H
      by_cases c11 : x26_6 = true
      ·subst c11
       have H1 : (some false) = some r := by rw [if_pos rfl] at H; exact H
       clear H
       have H := H1
       clear H1
       obtain rfl := Option.some.inj H
       go_wp2
       go_ret
       exact ⟨by first | rfl | (simp [errW_none, errW_some] <;> rfl) | (simp [*, errW_none, errW_some] <;> rfl), by repeat (first | (with_reducible first | exact HB.out | apply below_alloc | apply pw_below_drewN | apply below_drew1) | exact HB.out)⟩
      ·replace c11 := Bool.eq_false_iff.mpr c11
       subst c11
       have H1 : (tendrillaw8_ShapeSeeks.l0 kj6 l0 a1 t138 (l0.length : Int) 0) = some r := by rw [if_neg (show ¬ (false = true) by decide)] at H; exact H
       clear H
       have H := H1
       clear H1
       have H' := Aside0.mk H
       clear H
       go_wp2
       go_loopg [29] kj6 (fun kq v29 w' => ∃ (x29_2 : Int), v29 = .int .i64 x29_2 ∧ Aside0 (tendrillaw8_ShapeSeeks.l0 kq l0 a1 t138 (l0.length : Int) x29_2 = some r) ∧ Aside0 (kq ≤ kj6) ∧ Aside0 (Below w.heap.size w w'))
       case atStart => exact ⟨(0), (by first | rfl | (simp; done) | (simp [*]; done)), H', ⟨Nat.le_refl _⟩, ⟨by repeat (first | (with_reducible first | exact HB.out | apply below_alloc | apply pw_below_drewN | apply below_drew1) | exact HB.out)⟩⟩
       case round =>
        clear H'
        try clear c1
        try clear p2
        try clear c3
        try clear c3b0
        try clear c3b1
        try clear c5
        try clear c6
        try clear c10
        try clear c10b0
        try clear c11
        try clear p2
        obtain ⟨x29_2, rfl, HA, HK2, HB⟩ := hrel
        cases gk with
        | zero => exact absurd HA.out (by simp [tendrillaw8_ShapeSeeks.l0])
        | succ k2 =>
         have H := HA.out
         clear HA
         simp only [tendrillaw8_ShapeSeeks.l0] at H
         by_cases c12 : x29_2 < (l0.length : Int)
         ·rw [if_pos c12] at H
          have c12b0 : decide (x29_2 < (l0.length : Int)) = true := decide_eq_true c12
          clear c12
          by_cases c13 : 0 ≤ x29_2
          ·rw [if_pos c13] at H
           have c13b0 : decide (0 ≤ x29_2) = true := decide_eq_true c13
           clear c13
           by_cases c14 : x29_2 < (l0.length : Int)
           ·rw [if_pos c14] at H
            have c14b0 : decide (x29_2 < (l0.length : Int)) = true := decide_eq_true c14
            clear c14
            by_cases c15 : ((Op.bytesLess (((rd_T23 l0 x29_2).f0).toList) a1.toList) != (decide (x29_2 < t138))) = true
            ·rw [if_pos c15] at H
             have c15b0 : ((Op.bytesLess (((rd_T23 l0 x29_2).f0).toList) a1.toList) != (decide (x29_2 < t138))) = true := c15
             (try (have c15b1 : decide ((Op.bytesLess (((rd_T23 l0 x29_2).f0).toList) a1.toList) = (decide (x29_2 < t138))) = false := by simpa using c15))
             (try (have c15b2 : ((Op.bytesLess (((rd_T23 l0 x29_2).f0).toList) a1.toList) == (decide (x29_2 < t138))) = false := by simpa using c15))
             (try (have c15b3 : ¬ ((Op.bytesLess (((rd_T23 l0 x29_2).f0).toList) a1.toList) = (decide (x29_2 < t138))) := by simpa using c15))
             clear c15
             obtain rfl := Option.some.inj H
             have p139 : 0 ≤ (x29_2 : Int) := of_decide_eq_true (by first | (with_reducible assumption) | assumption)
             have q139 : x29_2 < (l0.length : Int) := of_decide_eq_true (by first | (with_reducible assumption) | assumption)
             obtain ⟨ad139, e139, hx139_0, hx139_1⟩ := at_T23 HR0.out x29_2 p139 q139
             cases e139
             replace hx139_0 := (HB.out.cell (World.block_lt_of_cell? w _ hx139_0)).trans hx139_0
             replace hx139_1 := (HB.out.cell (World.block_lt_of_cell? w _ hx139_1)).trans hx139_1
             replace p139 := eq_true p139
             replace q139 := eq_true q139
             go_wp2
             go_ret
             exact ⟨by first | rfl | (simp [errW_none, errW_some] <;> rfl) | (simp [*, errW_none, errW_some] <;> rfl), by repeat (first | (with_reducible first | exact HB.out | apply below_alloc | apply pw_below_drewN | apply below_drew1) | exact HB.out)⟩
            ·rw [if_neg c15] at H
             have c15b0 : ((Op.bytesLess (((rd_T23 l0 x29_2).f0).toList) a1.toList) != (decide (x29_2 < t138))) = false := by simpa using c15
             (try (have c15b1 : decide ((Op.bytesLess (((rd_T23 l0 x29_2).f0).toList) a1.toList) = (decide (x29_2 < t138))) = true := by simpa using c15))
             (try (have c15b2 : ((Op.bytesLess (((rd_T23 l0 x29_2).f0).toList) a1.toList) == (decide (x29_2 < t138))) = true := by simpa using c15))
             clear c15
             have H' := Aside0.mk H
             clear H
             have p139 : 0 ≤ (x29_2 : Int) := of_decide_eq_true (by first | (with_reducible assumption) | assumption)
             have q139 : x29_2 < (l0.length : Int) := of_decide_eq_true (by first | (with_reducible assumption) | assumption)
             obtain ⟨ad139, e139, hx139_0, hx139_1⟩ := at_T23 HR0.out x29_2 p139 q139
             cases e139
             replace hx139_0 := (HB.out.cell (World.block_lt_of_cell? w _ hx139_0)).trans hx139_0
             replace hx139_1 := (HB.out.cell (World.block_lt_of_cell? w _ hx139_1)).trans hx139_1
             replace p139 := eq_true p139
             replace q139 := eq_true q139
             go_wp2
             go_roundg k2
             case measure => have := HJ6.out; have := HK2.out; omega
             case rel => exact ⟨(wrap64 (x29_2 + 1)), (by first | rfl | (simp; done) | (simp [*]; done)), H', ⟨by have := HJ6.out; have := HK2.out; omega⟩, ⟨by repeat (first | (with_reducible first | exact HB.out | apply below_alloc | apply pw_below_drewN | apply below_drew1) | exact HB.out)⟩⟩
           ·rw [if_neg c14] at H
            exact absurd H (by simp)
          ·rw [if_neg c13] at H
           exact absurd H (by simp)
         ·rw [if_neg c12] at H
          have c12b0 : decide (x29_2 < (l0.length : Int)) = false := decide_eq_false c12
          clear c12
          replace H := Option.bind_eq_some_iff.mp H
          obtain ⟨t140, A160, H⟩ := H
          replace H : (if t140 = 0 then ((tendrillaw8_ShapeRuns.f).bind fun t141 => (some t141)) else (some false)) = some r := H
          have A16 := Aside0.mk A160
          clear A160
          by_cases c17 : t140 = 0
          ·rw [if_pos c17] at H
           have c17b0 : (t140 == 0) = true := beq_iff_eq.mpr c17
           have c17b1 : (t140 != 0) = false := bne_eq_false_iff_eq.mpr c17
           clear c17
           replace H := Option.bind_eq_some_iff.mp H
           obtain ⟨t141, A180, H⟩ := H
           replace H : (some t141) = some r := H
           have A18 := Aside0.mk A180
           clear A180
           obtain rfl := Option.some.inj H
           go_wp2_with (first | ((with_reducible refine gate_callee (f := 12) rfl ?_); refine goesL_ (some 45) rfl rfl Tryd.func12 (by kernel_rfl) rfl #[.slice A0 l0.length c0, .string (⟨#[]⟩ : ByteArray)] rfl (by (try simp only [List.map_toArray, List.map_cons, List.map_nil]); first | done | rfl | (simp only [List.length_drop, List.length_take]; rfl)) ?_; (with_reducible refine (shape_Seek.calls k2 _ _ l0 (⟨#[]⟩ : ByteArray) t140 _ ?side1 ?side2 A16.out).mono ?_); (case side1 => repeat (first | exact (Kd.C_below HR0.out HB.out) | (with_reducible refine Kd.C_alloc ?_ _) | (with_reducible refine Kd.C_drewN ?_ _) | (with_reducible refine Kd.C_drew ?_))); (case side2 => exact HC0.out); rintro e w19 ⟨rfl, hb⟩; refine ⟨_, rfl, ?_⟩; have n0_ := Aside0.mk (below_step (by repeat (first | (with_reducible first | exact HB.out | apply below_alloc | apply pw_below_drewN | apply below_drew1) | exact HB.out)) hb); clear HB; have HB := n0_; clear n0_; (try clear hb); (try clear hb2); (try clear hk); (try clear hi)) | (go_at_call 3; (with_reducible refine (tendrillaw8_ShapeRuns.calls  t141 _ A18.out).mono ?_); rintro e w20 ⟨rfl, hb⟩; have n0_ := Aside0.mk (below_step (by repeat (first | (with_reducible first | exact HB.out | apply below_alloc | apply pw_below_drewN | apply below_drew1) | exact HB.out)) hb); clear HB; have HB := n0_; clear n0_; (try clear hb); (try clear hb2); (try clear hk); (try clear hi)))
           go_ret
           exact ⟨by first | rfl | (simp [errW_none, errW_some] <;> rfl) | (simp [*, errW_none, errW_some] <;> rfl), by repeat (first | (with_reducible first | exact HB.out | apply below_alloc | apply pw_below_drewN | apply below_drew1) | exact HB.out)⟩
          ·rw [if_neg c17] at H
           have c17b0 : (t140 == 0) = false := beq_eq_false_iff_ne.mpr c17
           have c17b1 : (t140 != 0) = true := bne_iff_ne.mpr c17
           obtain rfl := Option.some.inj H
           go_wp2_with (first | ((with_reducible refine gate_callee (f := 12) rfl ?_); refine goesL_ (some 45) rfl rfl Tryd.func12 (by kernel_rfl) rfl #[.slice A0 l0.length c0, .string (⟨#[]⟩ : ByteArray)] rfl (by (try simp only [List.map_toArray, List.map_cons, List.map_nil]); first | done | rfl | (simp only [List.length_drop, List.length_take]; rfl)) ?_; (with_reducible refine (shape_Seek.calls k2 _ _ l0 (⟨#[]⟩ : ByteArray) t140 _ ?side1 ?side2 A16.out).mono ?_); (case side1 => repeat (first | exact (Kd.C_below HR0.out HB.out) | (with_reducible refine Kd.C_alloc ?_ _) | (with_reducible refine Kd.C_drewN ?_ _) | (with_reducible refine Kd.C_drew ?_))); (case side2 => exact HC0.out); rintro e w21 ⟨rfl, hb⟩; refine ⟨_, rfl, ?_⟩; have n0_ := Aside0.mk (below_step (by repeat (first | (with_reducible first | exact HB.out | apply below_alloc | apply pw_below_drewN | apply below_drew1) | exact HB.out)) hb); clear HB; have HB := n0_; clear n0_; (try clear hb); (try clear hb2); (try clear hk); (try clear hi)))
           go_ret
           exact ⟨by first | rfl | (simp [errW_none, errW_some] <;> rfl) | (simp [*, errW_none, errW_some] <;> rfl), by repeat (first | (with_reducible first | exact HB.out | apply below_alloc | apply pw_below_drewN | apply below_drew1) | exact HB.out)⟩
   ·replace c5 := Bool.eq_false_iff.mpr c5
    subst c5
    have H1 : ((tendrillaw8_ShapeRuns.f).bind fun t137 => (some t137)) = some r := by rw [if_neg (show ¬ (false = true) by decide)] at H; exact H
    clear H
    have H := H1
    clear H1
    replace H := Option.bind_eq_some_iff.mp H
    obtain ⟨t137, A220, H⟩ := H
    replace H : (some t137) = some r := H
    have A22 := Aside0.mk A220
    clear A220
    obtain rfl := Option.some.inj H
    go_enter Tryd.func6, Tryd.ntmps6
    go_wp2_with (first | ((with_reducible refine gate_callee (f := 17) rfl ?_); refine goesL_ (some 13) rfl rfl Tryd.func17 (by kernel_rfl) rfl #[.slice A0 l0.length c0] rfl (by (try simp only [List.map_toArray, List.map_cons, List.map_nil]); first | done | rfl | (simp only [List.length_drop, List.length_take]; rfl)) ?_; (with_reducible refine (shape_Right.calls k _ _ l0 false _ ?side1 ?side2 A4.out).mono ?_); (case side1 => repeat (first | exact HR0.out | (with_reducible refine Kd.C_alloc ?_ _) | (with_reducible refine Kd.C_drewN ?_ _) | (with_reducible refine Kd.C_drew ?_))); (case side2 => exact HC0.out); rintro e w23 ⟨rfl, hb⟩; refine ⟨_, rfl, ?_⟩; have n0_ := Aside0.mk (below_step (by repeat (first | (with_reducible first | exact HB.out | apply below_alloc | apply pw_below_drewN | apply below_drew1) | exact HB.out)) hb); clear HB; have HB := n0_; clear n0_; (try clear hb); (try clear hb2); (try clear hk); (try clear hi)) | ((with_reducible refine gate_callee (f := 3) rfl ?_); refine goesL_ (some 15) rfl rfl Tryd.func3 (by kernel_rfl) rfl #[] rfl (by (try simp only [List.map_toArray, List.map_cons, List.map_nil]); first | done | rfl | (simp only [List.length_drop, List.length_take]; rfl)) ?_; (with_reducible refine (tendrillaw8_ShapeRuns.calls  t137 _ A22.out).mono ?_); rintro e w24 ⟨rfl, hb⟩; refine ⟨_, rfl, ?_⟩; have n0_ := Aside0.mk (below_step (by repeat (first | (with_reducible first | exact HB.out | apply below_alloc | apply pw_below_drewN | apply below_drew1) | exact HB.out)) hb); clear HB; have HB := n0_; clear n0_; (try clear hb); (try clear hb2); (try clear hk); (try clear hi)))
    go_ret
    exact ⟨by first | rfl | (simp [errW_none, errW_some] <;> rfl) | (simp [*, errW_none, errW_some] <;> rfl), by repeat (first | (with_reducible first | exact HB.out | apply below_alloc | apply pw_below_drewN | apply below_drew1) | exact HB.out)⟩
end Go.Proofs.YtdjjmnkopoldhaaDoor.PLaw
