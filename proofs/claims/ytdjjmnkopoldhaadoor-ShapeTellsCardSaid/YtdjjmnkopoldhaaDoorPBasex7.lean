-- Written by a program of this session (mkprint.py): a printed walk over given contracts.
import Derived.Test.YtdjjmnkopoldhaaDoorPBasex0
import Derived.Test.YtdjjmnkopoldhaaDoorPBasex1
import Derived.Test.YtdjjmnkopoldhaaDoorPBasex3
namespace Go.Proofs.YtdjjmnkopoldhaaDoor.PBase
open Go.RowKit Go.Proofs.YtdjjmnkopoldhaaDoorW.PrintWords Go.Proofs.YtdjjmnkopoldhaaDoorW.PrintLast Go.Proofs.YtdjjmnkopoldhaaDoorW.PrintMore
attribute [local go_sem] max2_int min2_int max_two min_two max_three min_three max_four min_four   -- for this text's walks alone
set_option linter.unusedVariables false
set_option linter.unusedSimpArgs false
attribute [local go_sem high] geq_str8 leq_str8

attribute [local go_sem high] eqA23
/-! ### api_Entry_18: function 18 -/
mutual
def api_Entry_18.j0 : Nat → List (S23) → List (S23) → Bool → ByteArray → Int → Option (Bool)
 | 0, _, _, _, _, _ => none
 | k + 1, x0, x1, x22, x192000, x192001 => if x22 = true then (some false) else (api_Entry_18.l0 k x0 (x1.length : Int) x192000 x192001)
def api_Entry_18.l0 : Nat → List (S23) → Int → ByteArray → Int → Option (Bool)
 | 0, _, _, _, _ => none
 | k + 1, x0, x7, x192000, x192001 => if x7 < (x0.length : Int) then (if 0 ≤ x7 then (if (!((((rd_T23 x0 x7).f0).toList) == x192000.toList) || (!(((rd_T23 x0 x7).f1) == x192001))) = true then (some false) else (api_Entry_18.l0 k x0 (wrap64 (x7 + 1)) x192000 x192001)) else (none)) else (some true)
end
def api_Entry_18.f (k : Nat) (l0 : List (S23)) (l1 : List (S23)) (a2_0 : ByteArray) (a2_1 : Int) : Option (Bool) := if (l0.length : Int) = (wrap64 ((l1.length : Int) + 80)) then (if 0 ≤ (l1.length : Int) then (if (l1.length : Int) ≤ (l0.length : Int) then ((api_Entry_13.f k (l0.take ((l1.length : Int) : Int).toNat) l1).bind fun t196 => (api_Entry_18.j0 k l0 l1 (!t196) a2_0 a2_1)) else (none)) else (none)) else (api_Entry_18.j0 k l0 l1 true a2_0 a2_1)
set_option maxHeartbeats 8000000 in
set_option maxRecDepth 100000 in
theorem api_Entry_18.calls (k : Nat) (A0 : Option Addr) (c0 : Nat) (l0 : List (S23)) (A1 : Option Addr) (c1 : Nat) (l1 : List (S23)) (a2_0 : ByteArray) (a2_1 : Int) (r : Bool) (w : World) (hr0 : Kd.C k23 w A0 l0.length l0) (hc0 : l0.length ≤ c0) (hr1 : Kd.C k23 w A1 l1.length l1) (hc1 : l1.length ≤ c1) (h : api_Entry_18.f k l0 l1 a2_0 a2_1 = some r) :
  Calls Tryd.prog 18 #[.slice A0 l0.length c0, .slice A1 l1.length c1, .agg #[.string a2_0, .int .i64 a2_1]] w fun e w' => e = .returned (.bool r) ∧ Below w.heap.size w w' := by
 have hu23 := Tryd.underlying23
 have HR0 := Aside0.mk hr0
 have HC0 := Aside0.mk hc0
 clear hr0 hc0
 have HR1 := Aside0.mk hr1
 have HC1 := Aside0.mk hc1
 clear hr1 hc1
 have HB := Aside0.mk (Below.refl w.heap.size w)
 have H : (if (l0.length : Int) = (wrap64 ((l1.length : Int) + 80)) then (if 0 ≤ (l1.length : Int) then (if (l1.length : Int) ≤ (l0.length : Int) then ((api_Entry_13.f k (l0.take ((l1.length : Int) : Int).toNat) l1).bind fun t196 => (api_Entry_18.j0 k l0 l1 (!t196) a2_0 a2_1)) else (none)) else (none)) else (api_Entry_18.j0 k l0 l1 true a2_0 a2_1)) = some r := h
 clear h
 have HC4 := Aside0.mk H
 clear H
 go_enter Tryd.func18, Tryd.ntmps18
 go_upto_region 1 with (first | ((with_reducible refine gate_dst (N := 5) rfl ?_); (try (refine gate_guard (by rfl) ?_; dsimp only)); refine box_event ?hg (N := 5) ?hd (cs := #[.string a2_0, .int .i64 a2_1]) (t := 23) ?hr ?_; (case hd => rfl); (case hg => rfl); (case hr => first | (go_simp; done) | (go_simp; rfl)); intro gb191 hg w5 hbox hb; have n0_ := Aside0.mk (below_step (by repeat (first | (with_reducible first | exact HB.out | apply below_alloc | apply pw_below_drewN | apply below_drew1) | exact HB.out)) hb); have n1_ := Aside0.mk (hbox); have n2_ := Aside0.mk ((by rw [hg]; exact (below_size (by repeat (first | (with_reducible first | exact HB.out | apply below_alloc | apply pw_below_drewN | apply below_drew1) | exact HB.out))) : w.heap.size ≤ gb191)); have n3_ := Aside0.mk ((by rw [hg]; exact (below_size (by repeat (first | (with_reducible first | exact HB.out | apply below_alloc | apply pw_below_drewN | apply below_drew1) | exact HB.out))) : w.heap.size ≤ gb191)); clear HB; have HB := n0_; have BK191 := n1_; have GW191 := n2_; have GE191 := n3_; clear n0_ n1_ n2_ n3_; clear hb hbox hg))
 repeat (go_quiet (first | ((with_reducible refine gate_dst (N := 5) rfl ?_); (try (refine gate_guard (by rfl) ?_; dsimp only)); refine box_event ?hg (N := 5) ?hd (cs := #[.string a2_0, .int .i64 a2_1]) (t := 23) ?hr ?_; (case hd => rfl); (case hg => rfl); (case hr => first | (go_simp; done) | (go_simp; rfl)); intro gb191 hg w5 hbox hb; have n0_ := Aside0.mk (below_step (by repeat (first | (with_reducible first | exact HB.out | apply below_alloc | apply pw_below_drewN | apply below_drew1) | exact HB.out)) hb); have n1_ := Aside0.mk (hbox); have n2_ := Aside0.mk ((by rw [hg]; exact (below_size (by repeat (first | (with_reducible first | exact HB.out | apply below_alloc | apply pw_below_drewN | apply below_drew1) | exact HB.out))) : w.heap.size ≤ gb191)); have n3_ := Aside0.mk ((by rw [hg]; exact (below_size (by repeat (first | (with_reducible first | exact HB.out | apply below_alloc | apply pw_below_drewN | apply below_drew1) | exact HB.out))) : w.heap.size ≤ gb191)); clear HB; have HB := n0_; have BK191 := n1_; have GW191 := n2_; have GE191 := n3_; clear n0_ n1_ n2_ n3_; clear hb hbox hg)); go_upto_region 1 with (first | ((with_reducible refine gate_dst (N := 5) rfl ?_); (try (refine gate_guard (by rfl) ?_; dsimp only)); refine box_event ?hg (N := 5) ?hd (cs := #[.string a2_0, .int .i64 a2_1]) (t := 23) ?hr ?_; (case hd => rfl); (case hg => rfl); (case hr => first | (go_simp; done) | (go_simp; rfl)); intro gb191 hg w5 hbox hb; have n0_ := Aside0.mk (below_step (by repeat (first | (with_reducible first | exact HB.out | apply below_alloc | apply pw_below_drewN | apply below_drew1) | exact HB.out)) hb); have n1_ := Aside0.mk (hbox); have n2_ := Aside0.mk ((by rw [hg]; exact (below_size (by repeat (first | (with_reducible first | exact HB.out | apply below_alloc | apply pw_below_drewN | apply below_drew1) | exact HB.out))) : w.heap.size ≤ gb191)); have n3_ := Aside0.mk ((by rw [hg]; exact (below_size (by repeat (first | (with_reducible first | exact HB.out | apply below_alloc | apply pw_below_drewN | apply below_drew1) | exact HB.out))) : w.heap.size ≤ gb191)); clear HB; have HB := n0_; have BK191 := n1_; have GW191 := n2_; have GE191 := n3_; clear n0_ n1_ n2_ n3_; clear hb hbox hg)))
 (try simp only [Act.put, List.setIfInBounds_toArray, List.set_cons_zero, List.set_cons_succ])
 go_cut [22] (fun v22 wc => ∃ (kq : Nat) (x22_3 : Bool), v22 = .bool x22_3 ∧ Aside0 (api_Entry_18.j0 kq l0 l1 x22_3 a2_0 a2_1 = some r) ∧ Aside0 (kq ≤ k) ∧ Aside0 (wc.heap[gb191]? = some (.cells #[.string a2_0, .int .i64 a2_1] 23 (0, 0))) ∧ Aside0 (Below w.heap.size w wc))
 case first =>
  have H := HC4.out
  clear HC4
  by_cases c6 : (l0.length : Int) = (wrap64 ((l1.length : Int) + 80))
  ·rw [if_pos c6] at H
   have c6b0 : ((l0.length : Int) == (wrap64 ((l1.length : Int) + 80))) = true := beq_iff_eq.mpr c6
   have c6b1 : ((l0.length : Int) != (wrap64 ((l1.length : Int) + 80))) = false := bne_eq_false_iff_eq.mpr c6
   clear c6
   (first | rw [c6b0] | (simp only [i64_w, i32_w]; rw [c6b0]) | skip)
   by_cases c7 : 0 ≤ (l1.length : Int)
   ·rw [if_pos c7] at H
    have c7b0 := eq_true c7
    have c7b1 : decide (0 ≤ (l1.length : Int)) = true := decide_eq_true c7
    clear c7
    by_cases c8 : (l1.length : Int) ≤ (l0.length : Int)
    ·rw [if_pos c8] at H
     have c8b0 := eq_true c8
     have c8b1 : decide ((l1.length : Int) ≤ (l0.length : Int)) = true := decide_eq_true c8
     clear c8
     obtain ⟨y192, hy192⟩ : ∃ y_ : List (S23), y_ = (l0.take ((l1.length : Int) : Int).toNat) := ⟨_, rfl⟩
     replace H : ((api_Entry_13.f k y192 l1).bind fun t196 => (api_Entry_18.j0 k l0 l1 (!t196) a2_0 a2_1)) = some r := by first | (rw [hy192]; with_reducible exact H) | (have H2_ := (Option.bind_some _ _).symm.trans H; rw [hy192]; with_reducible exact H2_) | (have H2_ := (Option.bind_some _ _).symm.trans H; with_reducible exact H2_) | with_reducible exact H | (rw [hy192]; exact H) | exact H
     have Ny192 := Aside0.mk hy192
     clear hy192
     replace H := Option.bind_eq_some_iff.mp H
     obtain ⟨t196, A90, H⟩ := H
     replace H : (api_Entry_18.j0 k l0 l1 (!t196) a2_0 a2_1) = some r := H
     have A9 := Aside0.mk A90
     clear A90
     have H' := Aside0.mk H
     clear H
     have q10 : ((l1.length : Int) : Int) ≤ ((l0.length : Int) : Int) := of_decide_eq_true (by first | (with_reducible assumption) | assumption)
     obtain ⟨i010, hi010, _, hsz10, _⟩ := info_parts info23
     have hroom10 : l0.length ≤ c0 := HC0.out
     have hC10 : Kd.C k23 _ A0 l0.length l0 := HR0.out
     have hcut10 := cut_to (P := Tryd.prog) 25 23 .i64 Tryd.underlying25 hi010 A0 l0.length c0 (l1.length : Int) (of_decide_eq_true (by first | (with_reducible assumption) | assumption)) q10 hroom10
     have hr10 := Kd.C_take (m := ((l1.length : Int) : Int).toNat) hC10 (by omega)
     have hy10 : y192.length = ((l1.length : Int) : Int).toNat := (by rw [Ny192.out, List.length_take]; omega)
     rw [← Ny192.out] at hr10
     rw [← hy10] at hcut10
     have HR195 := Aside0.mk hr10
     have HC195 := Aside0.mk (show y192.length ≤ c0 from by omega)
     clear hr10 hC10 hroom10 hi010 hsz10
     have KY10 := Aside0.mk hy10
     clear hy10
     replace q10 := eq_true q10
     go_wp2_with (first | (go_at_call 13; (with_reducible refine (api_Entry_13.calls k _ _ y192 _ _ l1 t196 _ ?side1 ?side2 ?side3 ?side4 A9.out).mono ?_); (case side1 => repeat (first | exact (Kd.C_below HR195.out HB.out) | (with_reducible refine Kd.C_alloc ?_ _) | (with_reducible refine Kd.C_drewN ?_ _) | (with_reducible refine Kd.C_drew ?_))); (case side2 => exact HC195.out); (case side3 => repeat (first | exact (Kd.C_below HR1.out HB.out) | (with_reducible refine Kd.C_alloc ?_ _) | (with_reducible refine Kd.C_drewN ?_ _) | (with_reducible refine Kd.C_drew ?_))); (case side4 => exact HC1.out); rintro e w' ⟨rfl, ⟨nd, rfl⟩⟩; (try first | exact ⟨rfl, _, World.drewN_drewN _ _ _⟩ | exact ⟨rfl, _, Eq.trans (World.drewN_drewN _ _ _) (congrArg (World.drewN _) (Nat.add_assoc _ _ _))⟩)))
     repeat (go_quiet (first | (go_at_call 13; (with_reducible refine (api_Entry_13.calls k _ _ y192 _ _ l1 t196 _ ?side1 ?side2 ?side3 ?side4 A9.out).mono ?_); (case side1 => repeat (first | exact (Kd.C_below HR195.out HB.out) | (with_reducible refine Kd.C_alloc ?_ _) | (with_reducible refine Kd.C_drewN ?_ _) | (with_reducible refine Kd.C_drew ?_))); (case side2 => exact HC195.out); (case side3 => repeat (first | exact (Kd.C_below HR1.out HB.out) | (with_reducible refine Kd.C_alloc ?_ _) | (with_reducible refine Kd.C_drewN ?_ _) | (with_reducible refine Kd.C_drew ?_))); (case side4 => exact HC1.out); rintro e w' ⟨rfl, ⟨nd, rfl⟩⟩; (try first | exact ⟨rfl, _, World.drewN_drewN _ _ _⟩ | exact ⟨rfl, _, Eq.trans (World.drewN_drewN _ _ _) (congrArg (World.drewN _) (Nat.add_assoc _ _ _))⟩))); try go_wp2_with (first | (go_at_call 13; (with_reducible refine (api_Entry_13.calls k _ _ y192 _ _ l1 t196 _ ?side1 ?side2 ?side3 ?side4 A9.out).mono ?_); (case side1 => repeat (first | exact (Kd.C_below HR195.out HB.out) | (with_reducible refine Kd.C_alloc ?_ _) | (with_reducible refine Kd.C_drewN ?_ _) | (with_reducible refine Kd.C_drew ?_))); (case side2 => exact HC195.out); (case side3 => repeat (first | exact (Kd.C_below HR1.out HB.out) | (with_reducible refine Kd.C_alloc ?_ _) | (with_reducible refine Kd.C_drewN ?_ _) | (with_reducible refine Kd.C_drew ?_))); (case side4 => exact HC1.out); rintro e w' ⟨rfl, ⟨nd, rfl⟩⟩; (try first | exact ⟨rfl, _, World.drewN_drewN _ _ _⟩ | exact ⟨rfl, _, Eq.trans (World.drewN_drewN _ _ _) (congrArg (World.drewN _) (Nat.add_assoc _ _ _))⟩))))
     go_meet
     case rel => exact ⟨_, (!t196), (by first | rfl | (simp; done) | (simp [*]; done)), H', ⟨by first | omega | exact Nat.le_refl _⟩, ⟨by (with_reducible repeat (first | refine blk_drewN ?_ _ | refine blk_drew ?_ | refine blk_alloc ?_ _)); exact BK191.out⟩, ⟨by repeat (first | (with_reducible first | exact HB.out | apply below_alloc | apply pw_below_drewN | apply below_drew1 | refine below_set ?_ GE191.out) | exact HB.out)⟩⟩
    ·rw [if_neg c8] at H
     exact absurd H (by simp)
   ·rw [if_neg c7] at H
    exact absurd H (by simp)
  ·rw [if_neg c6] at H
   have c6b0 : ((l0.length : Int) == (wrap64 ((l1.length : Int) + 80))) = false := beq_eq_false_iff_ne.mpr c6
   have c6b1 : ((l0.length : Int) != (wrap64 ((l1.length : Int) + 80))) = true := bne_iff_ne.mpr c6
   (first | rw [c6b0] | (simp only [i64_w, i32_w]; rw [c6b0]) | skip)
   have H' := Aside0.mk H
   clear H
   go_wp2
   repeat (go_quiet (fail); try go_wp2)
   go_meet
   case rel => exact ⟨_, (true), (by first | rfl | (simp; done) | (simp [*]; done)), H', ⟨by first | omega | exact Nat.le_refl _⟩, ⟨by (with_reducible repeat (first | refine blk_drewN ?_ _ | refine blk_drew ?_ | refine blk_alloc ?_ _)); exact BK191.out⟩, ⟨by repeat (first | (with_reducible first | exact HB.out | apply below_alloc | apply pw_below_drewN | apply below_drew1 | refine below_set ?_ GE191.out) | exact HB.out)⟩⟩
 case rest =>
  clear HC4
  try clear c1
  try clear q1
  try clear p2
  try clear c6
  try clear c6b0
  try clear c6b1
  try clear p6
  try clear c7
  try clear c7b0
  try clear c7b1
  try clear c8
  try clear c8b0
  try clear c8b1
  try clear q10
  try clear q10
  obtain ⟨kq, x22_3, rfl, HA, HJ3, BK191, HB⟩ := hcut
  cases kq with
  | zero => exact absurd HA.out (by simp [api_Entry_18.j0])
  | succ kj3 =>
   have H := HA.out
   clear HA
   simp only [api_Entry_18.j0] at H
   by_cases c11 : x22_3 = true
   ·subst c11
    have H1 : (some false) = some r := by rw [if_pos rfl] at H; exact H
    clear H
    have H := H1
    clear H1
    obtain rfl := Option.some.inj H
    go_wp2
    repeat (go_quiet (fail); try go_wp2)
    go_ret
    exact ⟨by first | rfl | (simp [errW_none, errW_some] <;> rfl) | (simp [*, errW_none, errW_some] <;> rfl), by repeat (first | (with_reducible first | exact HB.out | apply below_alloc | apply pw_below_drewN | apply below_drew1 | refine below_set ?_ GE191.out) | exact HB.out)⟩
   ·replace c11 := Bool.eq_false_iff.mpr c11
    subst c11
    have H1 : (api_Entry_18.l0 kj3 l0 (l1.length : Int) a2_0 a2_1) = some r := by rw [if_neg (show ¬ (false = true) by decide)] at H; exact H
    clear H
    have H := H1
    clear H1
    have H' := Aside0.mk H
    clear H
    go_wp2
    repeat (go_quiet (fail); try go_wp2)
    go_loopg [7] kj3 (fun kq v7 w' => ∃ (x7_2 : Int), v7 = .int .i64 x7_2 ∧ Aside0 (api_Entry_18.l0 kq l0 x7_2 a2_0 a2_1 = some r) ∧ Aside0 (kq ≤ kj3) ∧ Aside0 (w'.heap[gb191]? = some (.cells #[.string a2_0, .int .i64 a2_1] 23 (0, 0))) ∧ Aside0 (Below w.heap.size w w'))
    case atStart => exact ⟨((l1.length : Int)), (by first | rfl | (simp; done) | (simp [*]; done)), H', ⟨Nat.le_refl _⟩, ⟨by (with_reducible repeat (first | refine blk_drewN ?_ _ | refine blk_drew ?_ | refine blk_alloc ?_ _)); exact BK191.out⟩, ⟨by repeat (first | (with_reducible first | exact HB.out | apply below_alloc | apply pw_below_drewN | apply below_drew1 | refine below_set ?_ GE191.out) | exact HB.out)⟩⟩
    case round =>
     clear H'
     try clear c1
     try clear q1
     try clear p2
     try clear c6
     try clear c6b0
     try clear c6b1
     try clear p6
     try clear c7
     try clear c7b0
     try clear c7b1
     try clear c8
     try clear c8b0
     try clear c8b1
     try clear q10
     try clear c11
     try clear p2
     try clear p6
     try clear q1
     try clear q10
     obtain ⟨x7_2, rfl, HA, HK2, BK191, HB⟩ := hrel
     cases gk with
     | zero => exact absurd HA.out (by simp [api_Entry_18.l0])
     | succ k2 =>
      have H := HA.out
      clear HA
      simp only [api_Entry_18.l0] at H
      by_cases c12 : x7_2 < (l0.length : Int)
      ·rw [if_pos c12] at H
       have c12b0 : decide (x7_2 < (l0.length : Int)) = true := decide_eq_true c12
       clear c12
       by_cases c13 : 0 ≤ x7_2
       ·rw [if_pos c13] at H
        have c13b0 : decide (0 ≤ x7_2) = true := decide_eq_true c13
        clear c13
        by_cases c14 : (!((((rd_T23 l0 x7_2).f0).toList) == a2_0.toList) || (!(((rd_T23 l0 x7_2).f1) == a2_1))) = true
        ·rw [if_pos c14] at H
         have c14b0 : (!((((rd_T23 l0 x7_2).f0).toList) == a2_0.toList) || (!(((rd_T23 l0 x7_2).f1) == a2_1))) = true := c14
         clear c14
         obtain rfl := Option.some.inj H
         have p197 : 0 ≤ (x7_2 : Int) := of_decide_eq_true (by first | (with_reducible assumption) | assumption)
         have q197 : x7_2 < (l0.length : Int) := of_decide_eq_true (by first | (with_reducible assumption) | assumption)
         obtain ⟨ad197, e197, hx197_0, hx197_1⟩ := at_T23 HR0.out x7_2 p197 q197
         cases e197
         replace hx197_0 := (HB.out.cell (World.block_lt_of_cell? w _ hx197_0)).trans hx197_0
         replace hx197_1 := (HB.out.cell (World.block_lt_of_cell? w _ hx197_1)).trans hx197_1
         replace p197 := eq_true p197
         replace q197 := eq_true q197
         have hcz15_0 : wr.cell? ⟨gb191, 0, none⟩ = some (.string a2_0) := (blk_cell BK191.out 0).trans rfl
         have hcz15_1 : wr.cell? ⟨gb191, 1, none⟩ = some (.int .i64 a2_1) := (blk_cell BK191.out 1).trans rfl
         have hfz15_0 := blk_frozen BK191.out 0
         have hfz15_1 := blk_frozen BK191.out 1
         go_wp2
         repeat (go_quiet (fail); try go_wp2)
         go_ret
         exact ⟨by first | rfl | (simp [errW_none, errW_some] <;> rfl) | (simp [*, errW_none, errW_some] <;> rfl), by repeat (first | (with_reducible first | exact HB.out | apply below_alloc | apply pw_below_drewN | apply below_drew1 | refine below_set ?_ GE191.out) | exact HB.out)⟩
        ·rw [if_neg c14] at H
         have c14b0 : (!((((rd_T23 l0 x7_2).f0).toList) == a2_0.toList) || (!(((rd_T23 l0 x7_2).f1) == a2_1))) = false := by simpa using c14
         clear c14
         have H' := Aside0.mk H
         clear H
         have p197 : 0 ≤ (x7_2 : Int) := of_decide_eq_true (by first | (with_reducible assumption) | assumption)
         have q197 : x7_2 < (l0.length : Int) := of_decide_eq_true (by first | (with_reducible assumption) | assumption)
         obtain ⟨ad197, e197, hx197_0, hx197_1⟩ := at_T23 HR0.out x7_2 p197 q197
         cases e197
         replace hx197_0 := (HB.out.cell (World.block_lt_of_cell? w _ hx197_0)).trans hx197_0
         replace hx197_1 := (HB.out.cell (World.block_lt_of_cell? w _ hx197_1)).trans hx197_1
         replace p197 := eq_true p197
         replace q197 := eq_true q197
         have hcz16_0 : wr.cell? ⟨gb191, 0, none⟩ = some (.string a2_0) := (blk_cell BK191.out 0).trans rfl
         have hcz16_1 : wr.cell? ⟨gb191, 1, none⟩ = some (.int .i64 a2_1) := (blk_cell BK191.out 1).trans rfl
         have hfz16_0 := blk_frozen BK191.out 0
         have hfz16_1 := blk_frozen BK191.out 1
         go_wp2
         repeat (go_quiet (fail); try go_wp2)
         go_roundg k2
         case measure => have := HJ3.out; have := HK2.out; omega
         case rel => exact ⟨(wrap64 (x7_2 + 1)), (by first | rfl | (simp; done) | (simp [*]; done)), H', ⟨by have := HJ3.out; have := HK2.out; omega⟩, ⟨by (with_reducible repeat (first | refine blk_drewN ?_ _ | refine blk_drew ?_ | refine blk_alloc ?_ _)); exact BK191.out⟩, ⟨by repeat (first | (with_reducible first | exact HB.out | apply below_alloc | apply pw_below_drewN | apply below_drew1 | refine below_set ?_ GE191.out) | exact HB.out)⟩⟩
       ·rw [if_neg c13] at H
        exact absurd H (by simp)
      ·rw [if_neg c12] at H
       have c12b0 : decide (x7_2 < (l0.length : Int)) = false := decide_eq_false c12
       clear c12
       obtain rfl := Option.some.inj H
       go_wp2
       repeat (go_quiet (fail); try go_wp2)
       go_ret
       exact ⟨by first | rfl | (simp [errW_none, errW_some] <;> rfl) | (simp [*, errW_none, errW_some] <;> rfl), by repeat (first | (with_reducible first | exact HB.out | apply below_alloc | apply pw_below_drewN | apply below_drew1 | refine below_set ?_ GE191.out) | exact HB.out)⟩

-- NOT PRINTED: function 4 (tendrillaw8_ShapeTells)

end Go.Proofs.YtdjjmnkopoldhaaDoor.PBase
