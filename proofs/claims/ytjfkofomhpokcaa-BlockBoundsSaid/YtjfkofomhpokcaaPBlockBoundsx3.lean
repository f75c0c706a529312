-- Written by a program of this session (mkprint.py): a printed walk over given contracts.
import Derived.Test.YtjfkofomhpokcaaKeep
import Derived.Test.YtjfkofomhpokcaaPBlockBoundsx0
import Derived.Test.YtjfkofomhpokcaaPBlockBoundsx1
import Derived.Test.YtjfkofomhpokcaaPBlockBoundsx2
namespace Go.Proofs.Ytjfkofomhpokcaa.PBlockBounds
open Go.RowKit Go.Proofs.YtjfkofomhpokcaaW.PrintWords Go.Proofs.YtjfkofomhpokcaaW.PrintLast Go.Proofs.YtjfkofomhpokcaaW.PrintMore
attribute [local go_sem] max2_int min2_int max_two min_two max_three min_three max_four min_four   -- for this text's walks alone
set_option linter.unusedVariables false
set_option linter.unusedSimpArgs false

/-! ### tendrillaw19_BlockBounds: function 6 -/
mutual
def tendrillaw19_BlockBounds.j1 : Nat → Int → Int → List Int → Option (Bool)
  | 0, _, _, _ => none
  | k + 1, x2, x7, x8 => (block_Encode.f k x8).bind fun t157 => ((block_Right.f k x8).bind fun t160 => (if t160 = true then (if (t157.length : Int) < (x8.length : Int) then (tendrillaw19_BlockBounds.j2 k x2 x7 x8 t157 true) else ((block_Right.f k ([] : List Int)).bind fun t161 => (if t161 = true then (tendrillaw19_BlockBounds.j2 k x2 x7 x8 t157 true) else ((some (([] : List Int) : List Int)).bind fun y162 => (if y162.length + x8.length < 17592186044416 then ((some (y162 ++ x8 : List Int)).bind fun y165 => (if y165.length < 17592186044416 then ((block_Right.f k (y165 ++ [x7])).bind fun t171 => (tendrillaw19_BlockBounds.j2 k x2 x7 x8 t157 t171)) else (none))) else (none)))))) else (tendrillaw19_BlockBounds.j2 k x2 x7 x8 t157 true)))
def tendrillaw19_BlockBounds.j2 : Nat → Int → Int → List Int → List Int → Bool → Option (Bool)
  | 0, _, _, _, _, _ => none
  | k + 1, x2, x7, x8, x10, x64 => if x64 = true then (some false) else ((tendrilbook_Within.f x2 0 (x10.length : Int)).bind fun t172 => (if 0 ≤ t172 then (if t172 ≤ (x10.length : Int) then ((block_Decode.f (x10.take (t172 : Int).toNat)).bind fun bt177 => (if bt177.2 = 0 then (if (bt177.1.length : Int) > (x8.length : Int) then (tendrillaw19_BlockBounds.j3 k x7 x8 true) else (if 0 ≤ (bt177.1.length : Int) then (if (bt177.1.length : Int) ≤ (x8.length : Int) then ((tendrilbook_Same_int.f k bt177.1 (x8.take ((bt177.1.length : Int) : Int).toNat)).bind fun t185 => (if t185 = true then (tendrillaw19_BlockBounds.j3 k x7 x8 false) else (tendrillaw19_BlockBounds.j3 k x7 x8 true))) else (none)) else (none))) else (tendrillaw19_BlockBounds.j3 k x7 x8 ((bt177.1.length : Int) != 0)))) else (none)) else (none)))
def tendrillaw19_BlockBounds.j3 : Nat → Int → List Int → Bool → Option (Bool)
  | 0, _, _, _ => none
  | k + 1, x7, x8, x102 => if x102 = true then (some false) else ((some (([] : List Int) : List Int)).bind fun y186 => (if y186.length + x8.length < 17592186044416 then (tendrillaw19_BlockBounds.l1 k x7 (y186 ++ x8)) else (none)))
def tendrillaw19_BlockBounds.l1 : Nat → Int → List Int → Option (Bool)
  | 0, _, _ => none
  | k + 1, x7, x14 => if (x14.length : Int) < 16 then (if x14.length < 17592186044416 then (tendrillaw19_BlockBounds.l1 k (wrap64 (x7 + 1)) (x14 ++ [wrap64 (x7 + 1)])) else (none)) else ((block_Right.f k x14).bind fun t195 => (if t195 = true then (if x14.length < 17592186044416 then ((block_Right.f k (x14 ++ [wrap64 (x7 + 1)])).bind fun t199 => (if t199 = true then (some false) else ((block_Encode.f k (x14 ++ [wrap64 (x7 + 1)])).bind fun t203 => (if (t203.length : Int) = 0 then ((tendrillaw19_BlockRuns.f k).bind fun t206 => (some t206)) else (some false))))) else (none)) else (some false)))
def tendrillaw19_BlockBounds.l0 : Nat → List Int → Int → Int → List Int → Int → Option (Bool)
  | 0, _, _, _, _, _ => none
  | k + 1, x1, x2, x7, x8, x9 => if x9 < (x1.length : Int) then (if x9 < 15 then (if 0 ≤ x9 then ((tendrilbook_Within.f (rd x1 x9) 0 100000).bind fun t153 => (if x8.length < 17592186044416 then (tendrillaw19_BlockBounds.l0 k x1 x2 (wrap64 ((wrap64 (x7 + 1)) + t153)) (x8 ++ [wrap64 ((wrap64 (x7 + 1)) + t153)]) (wrap64 (x9 + 1))) else (none))) else (none)) else (tendrillaw19_BlockBounds.j1 k x2 x7 x8)) else (tendrillaw19_BlockBounds.j1 k x2 x7 x8)
end
def tendrillaw19_BlockBounds.f (k : Nat) (a0 : Int) (l1 : List Int) (a2 : Int) : Option (Bool) := (tendrilbook_Within.f a0 0 1000).bind fun t148 => (tendrillaw19_BlockBounds.l0 k l1 a2 t148 (([t148] : List Int)) 0)
theorem tendrillaw19_BlockBounds.mono_l : ∀ k, (∀ y0 y1 y2, LeO (tendrillaw19_BlockBounds.j1 k y0 y1 y2) (tendrillaw19_BlockBounds.j1 (k + 1) y0 y1 y2)) ∧ (∀ y0 y1 y2 y3 y4, LeO (tendrillaw19_BlockBounds.j2 k y0 y1 y2 y3 y4) (tendrillaw19_BlockBounds.j2 (k + 1) y0 y1 y2 y3 y4)) ∧ (∀ y0 y1 y2, LeO (tendrillaw19_BlockBounds.j3 k y0 y1 y2) (tendrillaw19_BlockBounds.j3 (k + 1) y0 y1 y2)) ∧ (∀ y0 y1, LeO (tendrillaw19_BlockBounds.l1 k y0 y1) (tendrillaw19_BlockBounds.l1 (k + 1) y0 y1)) ∧ (∀ y0 y1 y2 y3 y4, LeO (tendrillaw19_BlockBounds.l0 k y0 y1 y2 y3 y4) (tendrillaw19_BlockBounds.l0 (k + 1) y0 y1 y2 y3 y4))
  | 0 => ⟨fun _ _ _ r h => by simp [tendrillaw19_BlockBounds.j1] at h, fun _ _ _ _ _ r h => by simp [tendrillaw19_BlockBounds.j2] at h, fun _ _ _ r h => by simp [tendrillaw19_BlockBounds.j3] at h, fun _ _ r h => by simp [tendrillaw19_BlockBounds.l1] at h, fun _ _ _ _ _ r h => by simp [tendrillaw19_BlockBounds.l0] at h⟩
  | k + 1 => by
    obtain ⟨ih0, ih1, ih2, ih3, ih4⟩ := tendrillaw19_BlockBounds.mono_l k
    refine ⟨?_, ?_, ?_, ?_, ?_⟩
    · intro y0 y1 y2
      unfold tendrillaw19_BlockBounds.j1
      repeat' first
      | (with_reducible exact ih0 _ _ _)
      | (with_reducible exact ih1 _ _ _ _ _)
      | (with_reducible exact ih2 _ _ _)
      | (with_reducible exact ih3 _ _)
      | (with_reducible exact ih4 _ _ _ _ _)
      | (with_reducible exact block_Encode.mono _ _)
      | (with_reducible exact block_Right.mono _ _)
      | (with_reducible exact tendrilbook_Same_int.mono _ _ _)
      | (with_reducible exact tendrillaw19_BlockRuns.mono _)
      | (with_reducible exact LeO.refl _)
      | (with_reducible exact LeO.none _)
      | (with_reducible refine LeO.ite ?_ ?_)
      | (with_reducible refine LeO.bind ?_ (fun _ => ?_))
      | exact ih0 _ _ _
      | exact ih1 _ _ _ _ _
      | exact ih2 _ _ _
      | exact ih3 _ _
      | exact ih4 _ _ _ _ _
      | exact block_Encode.mono _ _
      | exact block_Right.mono _ _
      | exact tendrilbook_Same_int.mono _ _ _
      | exact tendrillaw19_BlockRuns.mono _
      | exact LeO.none _
      | refine LeO.ite ?_ ?_
      | refine LeO.bind ?_ (fun _ => ?_)
    · intro y0 y1 y2 y3 y4
      unfold tendrillaw19_BlockBounds.j2
      repeat' first
      | (with_reducible exact ih0 _ _ _)
      | (with_reducible exact ih1 _ _ _ _ _)
      | (with_reducible exact ih2 _ _ _)
      | (with_reducible exact ih3 _ _)
      | (with_reducible exact ih4 _ _ _ _ _)
      | (with_reducible exact block_Encode.mono _ _)
      | (with_reducible exact block_Right.mono _ _)
      | (with_reducible exact tendrilbook_Same_int.mono _ _ _)
      | (with_reducible exact tendrillaw19_BlockRuns.mono _)
      | (with_reducible exact LeO.refl _)
      | (with_reducible exact LeO.none _)
      | (with_reducible refine LeO.ite ?_ ?_)
      | (with_reducible refine LeO.bind ?_ (fun _ => ?_))
      | exact ih0 _ _ _
      | exact ih1 _ _ _ _ _
      | exact ih2 _ _ _
      | exact ih3 _ _
      | exact ih4 _ _ _ _ _
      | exact block_Encode.mono _ _
      | exact block_Right.mono _ _
      | exact tendrilbook_Same_int.mono _ _ _
      | exact tendrillaw19_BlockRuns.mono _
      | exact LeO.none _
      | refine LeO.ite ?_ ?_
      | refine LeO.bind ?_ (fun _ => ?_)
    · intro y0 y1 y2
      unfold tendrillaw19_BlockBounds.j3
      repeat' first
      | (with_reducible exact ih0 _ _ _)
      | (with_reducible exact ih1 _ _ _ _ _)
      | (with_reducible exact ih2 _ _ _)
      | (with_reducible exact ih3 _ _)
      | (with_reducible exact ih4 _ _ _ _ _)
      | (with_reducible exact block_Encode.mono _ _)
      | (with_reducible exact block_Right.mono _ _)
      | (with_reducible exact tendrilbook_Same_int.mono _ _ _)
      | (with_reducible exact tendrillaw19_BlockRuns.mono _)
      | (with_reducible exact LeO.refl _)
      | (with_reducible exact LeO.none _)
      | (with_reducible refine LeO.ite ?_ ?_)
      | (with_reducible refine LeO.bind ?_ (fun _ => ?_))
      | exact ih0 _ _ _
      | exact ih1 _ _ _ _ _
      | exact ih2 _ _ _
      | exact ih3 _ _
      | exact ih4 _ _ _ _ _
      | exact block_Encode.mono _ _
      | exact block_Right.mono _ _
      | exact tendrilbook_Same_int.mono _ _ _
      | exact tendrillaw19_BlockRuns.mono _
      | exact LeO.none _
      | refine LeO.ite ?_ ?_
      | refine LeO.bind ?_ (fun _ => ?_)
    · intro y0 y1
      unfold tendrillaw19_BlockBounds.l1
      repeat' first
      | (with_reducible exact ih0 _ _ _)
      | (with_reducible exact ih1 _ _ _ _ _)
      | (with_reducible exact ih2 _ _ _)
      | (with_reducible exact ih3 _ _)
      | (with_reducible exact ih4 _ _ _ _ _)
      | (with_reducible exact block_Encode.mono _ _)
      | (with_reducible exact block_Right.mono _ _)
      | (with_reducible exact tendrilbook_Same_int.mono _ _ _)
      | (with_reducible exact tendrillaw19_BlockRuns.mono _)
      | (with_reducible exact LeO.refl _)
      | (with_reducible exact LeO.none _)
      | (with_reducible refine LeO.ite ?_ ?_)
      | (with_reducible refine LeO.bind ?_ (fun _ => ?_))
      | exact ih0 _ _ _
      | exact ih1 _ _ _ _ _
      | exact ih2 _ _ _
      | exact ih3 _ _
      | exact ih4 _ _ _ _ _
      | exact block_Encode.mono _ _
      | exact block_Right.mono _ _
      | exact tendrilbook_Same_int.mono _ _ _
      | exact tendrillaw19_BlockRuns.mono _
      | exact LeO.none _
      | refine LeO.ite ?_ ?_
      | refine LeO.bind ?_ (fun _ => ?_)
    · intro y0 y1 y2 y3 y4
      unfold tendrillaw19_BlockBounds.l0
      repeat' first
      | (with_reducible exact ih0 _ _ _)
      | (with_reducible exact ih1 _ _ _ _ _)
      | (with_reducible exact ih2 _ _ _)
      | (with_reducible exact ih3 _ _)
      | (with_reducible exact ih4 _ _ _ _ _)
      | (with_reducible exact block_Encode.mono _ _)
      | (with_reducible exact block_Right.mono _ _)
      | (with_reducible exact tendrilbook_Same_int.mono _ _ _)
      | (with_reducible exact tendrillaw19_BlockRuns.mono _)
      | (with_reducible exact LeO.refl _)
      | (with_reducible exact LeO.none _)
      | (with_reducible refine LeO.ite ?_ ?_)
      | (with_reducible refine LeO.bind ?_ (fun _ => ?_))
      | exact ih0 _ _ _
      | exact ih1 _ _ _ _ _
      | exact ih2 _ _ _
      | exact ih3 _ _
      | exact ih4 _ _ _ _ _
      | exact block_Encode.mono _ _
      | exact block_Right.mono _ _
      | exact tendrilbook_Same_int.mono _ _ _
      | exact tendrillaw19_BlockRuns.mono _
      | exact LeO.none _
      | refine LeO.ite ?_ ?_
      | refine LeO.bind ?_ (fun _ => ?_)
theorem tendrillaw19_BlockBounds.mono : ∀ a0 a1 a2 k, LeO (tendrillaw19_BlockBounds.f k a0 a1 a2) (tendrillaw19_BlockBounds.f (k + 1) a0 a1 a2) := by
  intro a0 a1 a2 k
  obtain ⟨ih0, ih1, ih2, ih3, ih4⟩ := tendrillaw19_BlockBounds.mono_l k
  unfold tendrillaw19_BlockBounds.f
  repeat' first
      | (with_reducible exact ih0 _ _ _)
      | (with_reducible exact ih1 _ _ _ _ _)
      | (with_reducible exact ih2 _ _ _)
      | (with_reducible exact ih3 _ _)
      | (with_reducible exact ih4 _ _ _ _ _)
      | (with_reducible exact block_Encode.mono _ _)
      | (with_reducible exact block_Right.mono _ _)
      | (with_reducible exact tendrilbook_Same_int.mono _ _ _)
      | (with_reducible exact tendrillaw19_BlockRuns.mono _)
      | (with_reducible exact LeO.refl _)
      | (with_reducible exact LeO.none _)
      | (with_reducible refine LeO.ite ?_ ?_)
      | (with_reducible refine LeO.bind ?_ (fun _ => ?_))
      | exact ih0 _ _ _
      | exact ih1 _ _ _ _ _
      | exact ih2 _ _ _
      | exact ih3 _ _
      | exact ih4 _ _ _ _ _
      | exact block_Encode.mono _ _
      | exact block_Right.mono _ _
      | exact tendrilbook_Same_int.mono _ _ _
      | exact tendrillaw19_BlockRuns.mono _
      | exact LeO.none _
      | refine LeO.ite ?_ ?_
      | refine LeO.bind ?_ (fun _ => ?_)
set_option maxHeartbeats 8000000 in
set_option maxRecDepth 100000 in
theorem tendrillaw19_BlockBounds.calls (k : Nat) (a0 : Int) (A1 : Option Addr) (c1 : Nat) (l1 : List Int) (a2 : Int) (r : Bool) (w : World) (hr1 : Kd.C (Kd.int .i64) w A1 l1.length l1) (hc1 : l1.length ≤ c1) (h : tendrillaw19_BlockBounds.f k a0 l1 a2 = some r) :
    Calls Try.prog 6 #[.int .i64 a0, .slice A1 l1.length c1, .int .i64 a2] w fun e w' => e = .returned (.bool r) ∧ Below w.heap.size w w' := by
  have HR1 := Aside0.mk hr1
  have HC1 := Aside0.mk hc1
  clear hr1 hc1
  have HB := Aside0.mk (Below.refl w.heap.size w)
  have H : ((tendrilbook_Within.f a0 0 1000).bind fun t148 => (tendrillaw19_BlockBounds.l0 k l1 a2 t148 (([t148] : List Int)) 0)) = some r := h
  clear h
  replace H := Option.bind_eq_some_iff.mp H
  obtain ⟨t148, A40, H⟩ := H
  replace H : (tendrillaw19_BlockBounds.l0 k l1 a2 t148 (([t148] : List Int)) 0) = some r := H
  have A4 := Aside0.mk A40
  clear A40
  obtain ⟨y149, hy149⟩ : ∃ y_ : List Int, y_ = (([t148] : List Int)) := ⟨_, rfl⟩
  replace H : (tendrillaw19_BlockBounds.l0 k l1 a2 t148 y149 0) = some r := by first | (rw [hy149]; with_reducible exact H) | (have H2_ := (Option.bind_some _ _).symm.trans H; rw [hy149]; with_reducible exact H2_) | (have H2_ := (Option.bind_some _ _).symm.trans H; with_reducible exact H2_) | with_reducible exact H | (rw [hy149]; exact H) | exact H
  have Ny149 := Aside0.mk hy149
  clear hy149
  have HC5 := Aside0.mk H
  clear H
  go_enter Try.func6, Try.ntmps6
  go_upto_block 0 with (first | ((with_reducible refine gate_callee (f := 19) rfl ?_); refine goesL_ (some 16) rfl rfl Try.func19 (by kernel_rfl) rfl #[.int .i64 a0, .int .i64 0, .int .i64 1000] rfl (by (try simp only [List.map_toArray, List.map_cons, List.map_nil]); first | done | rfl | (simp only [List.length_drop, List.length_take]; rfl)) ?_; (with_reducible refine (tendrilbook_Within.calls a0 0 1000 t148 _ A4.out).mono ?_); rintro e w' ⟨rfl, ⟨nd, rfl⟩⟩; refine ⟨_, rfl, ?_⟩) | ((with_reducible refine gate_dst (N := 18) rfl ?_); (try (refine gate_guard (by rfl) ?_; dsimp only)); refine Kd.R_lit (Kd.int .i64) _ 3 ?hg (N := 18) ?hd (xs := ([t148] : List Int)) (inner := [.int .i64 t148]) (ok := fun _ => True) (okp := fun _ => True) ?hr ?hp (fun _ hk => hk) trivial (Below.refl _ _) (Nat.le_refl _) (by simp) ?_; (case hd => rfl); (case hg => rfl); (case hr => first | (go_simp; done) | (go_simp; rfl)); (case hp => exact (Reps.one (show Kd.M (Kd.int .i64) _ _ _ t148 [.int .i64 t148] from rfl) (Reps.none _ _))); intro v150 w6 ho7 hb hg_ hnew_; clear hg_ hnew_; (first | rw [← Ny149.out] at ho7 | (simp only [Int.reduceToNat] at ho7; rw [← Ny149.out] at ho7)); have n0_ := Aside0.mk (Kd.R_lower ho7 (below_size (by repeat (first | (with_reducible first | exact HB.out | apply below_alloc | apply pw_below_drewN | apply below_drew1) | exact HB.out)))); have n1_ := Aside0.mk (below_step (by repeat (first | (with_reducible first | exact HB.out | apply below_alloc | apply pw_below_drewN | apply below_drew1) | exact HB.out)) hb); clear HB; have HO151 := n0_; have HB := n1_; clear n0_ n1_; clear hb ho7))
  (try simp only [Act.put, List.setIfInBounds_toArray, List.set_cons_zero, List.set_cons_succ])
  go_cut [7, 8] (fun v7 v8 wc => ∃ (kq : Nat) (x7_4 : Int) (x8_4 : List Int), v7 = .int .i64 x7_4 ∧ Aside0 (tendrillaw19_BlockBounds.j1 kq a2 x7_4 x8_4 = some r) ∧ Aside0 (kq ≤ k) ∧ Aside0 (Kd.R (Kd.int .i64) 3 wc w.heap.size (fun _ => True) v8 x8_4) ∧ Aside0 (Below w.heap.size w wc))
  case first =>
    have H := HC5.out
    clear HC5
    have H' := Aside0.mk H
    clear H
    go_wp2
    go_loopg [7, 8, 9] k (fun kq v7 v8 v9 w' => ∃ (x7_1 : Int) (x8_1 : List Int) (x9_1 : Int), v7 = .int .i64 x7_1 ∧ v9 = .int .i64 x9_1 ∧ Aside0 (tendrillaw19_BlockBounds.l0 kq l1 a2 x7_1 x8_1 x9_1 = some r) ∧ Aside0 (kq ≤ k) ∧ Aside0 (Kd.R (Kd.int .i64) 3 w' w.heap.size (fun _ => True) v8 x8_1) ∧ Aside0 (Below w.heap.size w w'))
    case atStart => exact ⟨(t148), (y149), (0), (by first | rfl | (simp; done) | (simp [*]; done)), (by first | rfl | (simp; done) | (simp [*]; done)), H', ⟨Nat.le_refl _⟩, ⟨by (with_reducible repeat (first | apply Kd.R_alloc | apply Kd.R_drewN | apply Kd.R_drew)); exact HO151.out⟩, ⟨by repeat (first | (with_reducible first | exact HB.out | apply below_alloc | apply pw_below_drewN | apply below_drew1) | exact HB.out)⟩⟩
    case round =>
      clear H'
      try clear c1
      try clear p2
      try clear c6
      obtain ⟨x7_1, x8_1, x9_1, rfl, rfl, HA, HK1, HO_8, HB⟩ := hrel
      cases gk with
      | zero => exact absurd HA.out (by simp [tendrillaw19_BlockBounds.l0])
      | succ k1 =>
        have H := HA.out
        clear HA
        simp only [tendrillaw19_BlockBounds.l0] at H
        by_cases c8 : x9_1 < (l1.length : Int)
        · rw [if_pos c8] at H
          have c8b0 : decide (x9_1 < (l1.length : Int)) = true := decide_eq_true c8
          clear c8
          (first | rw [c8b0] | (simp only [i64_w, i32_w]; rw [c8b0]) | skip)
          by_cases c9 : x9_1 < 15
          · rw [if_pos c9] at H
            have c9b0 : decide (x9_1 < 15) = true := decide_eq_true c9
            clear c9
            by_cases c10 : 0 ≤ x9_1
            · rw [if_pos c10] at H
              have c10b0 : decide (0 ≤ x9_1) = true := decide_eq_true c10
              clear c10
              replace H := Option.bind_eq_some_iff.mp H
              obtain ⟨t153, A110, H⟩ := H
              replace H : (if x8_1.length < 17592186044416 then (tendrillaw19_BlockBounds.l0 k1 l1 a2 (wrap64 ((wrap64 (x7_1 + 1)) + t153)) (x8_1 ++ [wrap64 ((wrap64 (x7_1 + 1)) + t153)]) (wrap64 (x9_1 + 1))) else (none)) = some r := H
              have A11 := Aside0.mk A110
              clear A110
              by_cases c12 : x8_1.length < 17592186044416
              · rw [if_pos c12] at H
                have LMc12 := Aside0.mk c12
                clear c12
                obtain ⟨y154, hy154⟩ : ∃ y_ : List Int, y_ = (x8_1 ++ [wrap64 ((wrap64 (x7_1 + 1)) + t153)]) := ⟨_, rfl⟩
                replace H : (tendrillaw19_BlockBounds.l0 k1 l1 a2 (wrap64 ((wrap64 (x7_1 + 1)) + t153)) y154 (wrap64 (x9_1 + 1))) = some r := by first | (rw [hy154]; with_reducible exact H) | (have H2_ := (Option.bind_some _ _).symm.trans H; rw [hy154]; with_reducible exact H2_) | (have H2_ := (Option.bind_some _ _).symm.trans H; with_reducible exact H2_) | with_reducible exact H | (rw [hy154]; exact H) | exact H
                have Ny154 := Aside0.mk hy154
                clear hy154
                have H' := Aside0.mk H
                clear H
                have p152 : 0 ≤ (x9_1 : Int) := of_decide_eq_true (by first | (with_reducible assumption) | assumption)
                have q152 : x9_1 < (l1.length : Int) := of_decide_eq_true (by first | (with_reducible assumption) | assumption)
                obtain ⟨ad152, e152, hx152_0⟩ := Kd.at_int HR1.out x9_1 p152 q152
                cases e152
                replace hx152_0 := (HB.out.cell (World.block_lt_of_cell? w _ hx152_0)).trans hx152_0
                replace p152 := eq_true p152
                replace q152 := eq_true q152
                go_wp2_with (first | ((with_reducible refine gate_callee (f := 19) rfl ?_); refine goesL_ (some 35) rfl rfl Try.func19 (by kernel_rfl) rfl #[.int .i64 (rd l1 x9_1), .int .i64 0, .int .i64 100000] rfl (by (try simp only [List.map_toArray, List.map_cons, List.map_nil]); first | done | rfl | (simp only [List.length_drop, List.length_take]; rfl)) ?_; (with_reducible refine (tendrilbook_Within.calls (rd l1 x9_1) 0 100000 t153 _ A11.out).mono ?_); rintro e w' ⟨rfl, ⟨nd, rfl⟩⟩; refine ⟨_, rfl, ?_⟩) | ((with_reducible refine gate_builtin (b := .append) (xs := #[.tmp 37, .tmp 39]) rfl ?_); (try (refine gate_guard (by rfl) ?_; dsimp only)); at_builtin; refine Kd.R_append (Kd.int .i64) (w0 := w) w.heap.size rfl (.tmp 37) (.tmp 39) 22 3 (.int .i64 0) 8 rfl Try.underlying22 info3 rfl (by decide) (by omega) u8 x8_1 (wrap64 ((wrap64 (x7_1 + 1)) + t153)) [.int .i64 (wrap64 ((wrap64 (x7_1 + 1)) + t153))] (fun _ => True) (fun _ => False) rfl rfl ?aP (fun _ hk => hk.elim) ?aF ?aO ?aB ?aS ?aL ?_; (case aP => exact rfl); (case aB => exact (by repeat (first | (with_reducible first | exact HB.out | apply below_alloc | apply pw_below_drewN | apply below_drew1) | exact HB.out))); (case aF => exact (fun _ _ => trivial)); (case aO => exact (by (with_reducible repeat (first | apply Kd.R_alloc | apply Kd.R_drewN | apply Kd.R_drew)); exact HO_8.out)); (case aS => exact (below_size (by repeat (first | (with_reducible first | exact HB.out | apply below_alloc | apply pw_below_drewN | apply below_drew1) | exact HB.out)))); (case aL => have := LMc12.out; omega); intro v155 w13 ho hb hg hat; rw [← Ny154.out] at ho; have n0_ := Aside0.mk (hb); have n1_ := Aside0.mk (ho); clear HB; clear HO_8; have HB := n0_; have HO156 := n1_; clear n0_ n1_; clear ho hb hg hat))
                go_roundg k1
                case measure => have := HK1.out; omega
                case rel => exact ⟨(wrap64 ((wrap64 (x7_1 + 1)) + t153)), (y154), (wrap64 (x9_1 + 1)), (by first | rfl | (simp; done) | (simp [*]; done)), (by first | rfl | (simp; done) | (simp [*]; done)), H', ⟨by have := HK1.out; omega⟩, ⟨by (with_reducible repeat (first | apply Kd.R_alloc | apply Kd.R_drewN | apply Kd.R_drew)); exact HO156.out⟩, ⟨by repeat (first | (with_reducible first | exact HB.out | apply below_alloc | apply pw_below_drewN | apply below_drew1) | exact HB.out)⟩⟩
              · rw [if_neg c12] at H
                exact absurd H (by simp)
            · rw [if_neg c10] at H
              exact absurd H (by simp)
          · rw [if_neg c9] at H
            have c9b0 : decide (x9_1 < 15) = false := decide_eq_false c9
            clear c9
            have H' := Aside0.mk H
            clear H
            go_wp2
            go_meet
            case rel => exact ⟨_, (x7_1), (x8_1), (by first | rfl | (simp; done) | (simp [*]; done)), H', ⟨by have := HK1.out; first | omega | exact Nat.le_refl _⟩, ⟨by (with_reducible repeat (first | apply Kd.R_alloc | apply Kd.R_drewN | apply Kd.R_drew)); exact HO_8.out⟩, ⟨by repeat (first | (with_reducible first | exact HB.out | apply below_alloc | apply pw_below_drewN | apply below_drew1) | exact HB.out)⟩⟩
        · rw [if_neg c8] at H
          have c8b0 : decide (x9_1 < (l1.length : Int)) = false := decide_eq_false c8
          clear c8
          (first | rw [c8b0] | (simp only [i64_w, i32_w]; rw [c8b0]) | skip)
          have H' := Aside0.mk H
          clear H
          go_wp2
          go_meet
          case rel => exact ⟨_, (x7_1), (x8_1), (by first | rfl | (simp; done) | (simp [*]; done)), H', ⟨by have := HK1.out; first | omega | exact Nat.le_refl _⟩, ⟨by (with_reducible repeat (first | apply Kd.R_alloc | apply Kd.R_drewN | apply Kd.R_drew)); exact HO_8.out⟩, ⟨by repeat (first | (with_reducible first | exact HB.out | apply below_alloc | apply pw_below_drewN | apply below_drew1) | exact HB.out)⟩⟩
  case rest =>
    clear HC5
    try clear c1
    try clear p1
    try clear q1
    try clear hx1
    try clear p2
    try clear c6
    try clear p6
    try clear c8
    try clear c8b0
    try clear c9
    try clear c9b0
    try clear c10
    try clear c10b0
    try clear c12
    try clear hx152_0
    try clear p152
    try clear p2
    try clear q152
    obtain ⟨kq, x7_4, x8_4, rfl, HA, HJ4, HO_8, HB⟩ := hcut
    cases kq with
    | zero => exact absurd HA.out (by simp [tendrillaw19_BlockBounds.j1])
    | succ kj4 =>
      have H := HA.out
      clear HA
      simp only [tendrillaw19_BlockBounds.j1] at H
      replace H := Option.bind_eq_some_iff.mp H
      obtain ⟨t157, A140, H⟩ := H
      replace H : ((block_Right.f kj4 x8_4).bind fun t160 => (if t160 = true then (if (t157.length : Int) < (x8_4.length : Int) then (tendrillaw19_BlockBounds.j2 kj4 a2 x7_4 x8_4 t157 true) else ((block_Right.f kj4 ([] : List Int)).bind fun t161 => (if t161 = true then (tendrillaw19_BlockBounds.j2 kj4 a2 x7_4 x8_4 t157 true) else ((some (([] : List Int) : List Int)).bind fun y162 => (if y162.length + x8_4.length < 17592186044416 then ((some (y162 ++ x8_4 : List Int)).bind fun y165 => (if y165.length < 17592186044416 then ((block_Right.f kj4 (y165 ++ [x7_4])).bind fun t171 => (tendrillaw19_BlockBounds.j2 kj4 a2 x7_4 x8_4 t157 t171)) else (none))) else (none)))))) else (tendrillaw19_BlockBounds.j2 kj4 a2 x7_4 x8_4 t157 true))) = some r := H
      have A14 := Aside0.mk A140
      clear A140
      have HC15 := Aside0.mk H
      clear H
      obtain ⟨Ao16, co16, eo16⟩ := Kd.R_slice HO_8.out
      subst eo16
      go_upto_region 9 with (first | ((with_reducible refine gate_callee (f := 9) rfl ?_); refine goesL_ (some 42) rfl rfl Try.func9 (by kernel_rfl) rfl #[.slice Ao16 x8_4.length co16] rfl (by (try simp only [List.map_toArray, List.map_cons, List.map_nil]); first | done | rfl | (simp only [List.length_drop, List.length_take]; rfl)) ?_; (with_reducible refine (block_Encode.calls kj4 _ _ x8_4 t157 _ ?side1 ?side2 A14.out).mono ?_); (case side1 => repeat (first | exact (Kd.R_reads' HO_8.out).2.2 | (with_reducible refine Kd.C_alloc ?_ _) | (with_reducible refine Kd.C_drewN ?_ _) | (with_reducible refine Kd.C_drew ?_))); (case side2 => exact (Kd.R_reads' HO_8.out).2.1); rintro e w17 ⟨v158, rfl, ho0, hb⟩; refine ⟨_, rfl, ?_⟩; have n0_ := Aside0.mk (Kd.R_below (by (with_reducible repeat (first | apply Kd.R_alloc | apply Kd.R_drewN | apply Kd.R_drew)); exact HO_8.out) hb); have n1_ := Aside0.mk (Kd.R_lower ho0 (below_size (by repeat (first | (with_reducible first | exact HB.out | apply below_alloc | apply pw_below_drewN | apply below_drew1) | exact HB.out)))); have n2_ := Aside0.mk (below_step (by repeat (first | (with_reducible first | exact HB.out | apply below_alloc | apply pw_below_drewN | apply below_drew1) | exact HB.out)) hb); clear HO_8; clear HB; have HO_8 := n0_; have HO159 := n1_; have HB := n2_; clear n0_ n1_ n2_; (try clear hb); (try clear hb2); (try clear hk); (try clear hi); (try clear ho0)))
      (try simp only [Act.put, List.setIfInBounds_toArray, List.set_cons_zero, List.set_cons_succ])
      go_cut [64] (fun v64 wc => ∃ (kq : Nat) (x64_14 : Bool), v64 = .bool x64_14 ∧ Aside0 (tendrillaw19_BlockBounds.j2 kq a2 x7_4 x8_4 t157 x64_14 = some r) ∧ Aside0 (kq ≤ kj4) ∧ Aside0 (Kd.R (Kd.int .i64) 3 wc w.heap.size (fun _ => True) (.slice Ao16 x8_4.length co16) x8_4) ∧ Aside0 (Kd.R (Kd.int .u8) 5 wc w.heap.size (fun _ => True) v158 t157) ∧ Aside0 (Below w.heap.size w wc))
      case first =>
        have H := HC15.out
        clear HC15
        replace H := Option.bind_eq_some_iff.mp H
        obtain ⟨t160, A180, H⟩ := H
        replace H : (if t160 = true then (if (t157.length : Int) < (x8_4.length : Int) then (tendrillaw19_BlockBounds.j2 kj4 a2 x7_4 x8_4 t157 true) else ((block_Right.f kj4 ([] : List Int)).bind fun t161 => (if t161 = true then (tendrillaw19_BlockBounds.j2 kj4 a2 x7_4 x8_4 t157 true) else ((some (([] : List Int) : List Int)).bind fun y162 => (if y162.length + x8_4.length < 17592186044416 then ((some (y162 ++ x8_4 : List Int)).bind fun y165 => (if y165.length < 17592186044416 then ((block_Right.f kj4 (y165 ++ [x7_4])).bind fun t171 => (tendrillaw19_BlockBounds.j2 kj4 a2 x7_4 x8_4 t157 t171)) else (none))) else (none)))))) else (tendrillaw19_BlockBounds.j2 kj4 a2 x7_4 x8_4 t157 true)) = some r := H
        have A18 := Aside0.mk A180
        clear A180
        by_cases c19 : t160 = true
        · subst c19
          have H1 : (if (t157.length : Int) < (x8_4.length : Int) then (tendrillaw19_BlockBounds.j2 kj4 a2 x7_4 x8_4 t157 true) else ((block_Right.f kj4 ([] : List Int)).bind fun t161 => (if t161 = true then (tendrillaw19_BlockBounds.j2 kj4 a2 x7_4 x8_4 t157 true) else ((some (([] : List Int) : List Int)).bind fun y162 => (if y162.length + x8_4.length < 17592186044416 then ((some (y162 ++ x8_4 : List Int)).bind fun y165 => (if y165.length < 17592186044416 then ((block_Right.f kj4 (y165 ++ [x7_4])).bind fun t171 => (tendrillaw19_BlockBounds.j2 kj4 a2 x7_4 x8_4 t157 t171)) else (none))) else (none)))))) = some r := by rw [if_pos rfl] at H; exact H
          clear H
          have H := H1
          clear H1
          by_cases c20 : (t157.length : Int) < (x8_4.length : Int)
          · rw [if_pos c20] at H
            have c20b0 : decide ((t157.length : Int) < (x8_4.length : Int)) = true := decide_eq_true c20
            have c20b1 : decide (t157.length < x8_4.length) = true := decide_eq_true (Int.ofNat_lt.mp c20)
            clear c20
            (first | rw [c20b0] | (simp only [i64_w, i32_w]; rw [c20b0]) | skip)
            have H' := Aside0.mk H
            clear H
            go_wp2_with (first | ((with_reducible refine gate_callee (f := 14) rfl ?_); refine goesL_ (some 44) rfl rfl Try.func14 (by kernel_rfl) rfl #[.slice Ao16 x8_4.length co16] rfl (by (try simp only [List.map_toArray, List.map_cons, List.map_nil]); first | done | rfl | (simp only [List.length_drop, List.length_take]; rfl)) ?_; (with_reducible refine (block_Right.calls kj4 _ _ x8_4 true _ ?side1 ?side2 A18.out).mono ?_); (case side1 => repeat (first | exact (Kd.R_reads' HO_8.out).2.2 | (with_reducible refine Kd.C_alloc ?_ _) | (with_reducible refine Kd.C_drewN ?_ _) | (with_reducible refine Kd.C_drew ?_))); (case side2 => exact (Kd.R_reads' HO_8.out).2.1); rintro e w' ⟨rfl, ⟨nd, rfl⟩⟩; refine ⟨_, rfl, ?_⟩; obtain ⟨Ao21, co21, eo21⟩ := Kd.R_slice HO159.out; subst eo21))
            go_meet
            case rel => exact ⟨_, (true), (by first | rfl | (simp; done) | (simp [*]; done)), H', ⟨by have := HJ4.out; first | omega | exact Nat.le_refl _⟩, ⟨by (with_reducible repeat (first | apply Kd.R_alloc | apply Kd.R_drewN | apply Kd.R_drew)); exact HO_8.out⟩, ⟨by (with_reducible repeat (first | apply Kd.R_alloc | apply Kd.R_drewN | apply Kd.R_drew)); exact HO159.out⟩, ⟨by repeat (first | (with_reducible first | exact HB.out | apply below_alloc | apply pw_below_drewN | apply below_drew1) | exact HB.out)⟩⟩
          · rw [if_neg c20] at H
            have c20b0 : decide ((t157.length : Int) < (x8_4.length : Int)) = false := decide_eq_false c20
            have c20b1 : decide (t157.length < x8_4.length) = false := decide_eq_false (fun h => c20 (Int.ofNat_lt.mpr h))
            clear c20
            (first | rw [c20b0] | (simp only [i64_w, i32_w]; rw [c20b0]) | skip)
            replace H := Option.bind_eq_some_iff.mp H
            obtain ⟨t161, A220, H⟩ := H
            replace H : (if t161 = true then (tendrillaw19_BlockBounds.j2 kj4 a2 x7_4 x8_4 t157 true) else ((some (([] : List Int) : List Int)).bind fun y162 => (if y162.length + x8_4.length < 17592186044416 then ((some (y162 ++ x8_4 : List Int)).bind fun y165 => (if y165.length < 17592186044416 then ((block_Right.f kj4 (y165 ++ [x7_4])).bind fun t171 => (tendrillaw19_BlockBounds.j2 kj4 a2 x7_4 x8_4 t157 t171)) else (none))) else (none)))) = some r := H
            have A22 := Aside0.mk A220
            clear A220
            by_cases c23 : t161 = true
            · subst c23
              have H1 : (tendrillaw19_BlockBounds.j2 kj4 a2 x7_4 x8_4 t157 true) = some r := by rw [if_pos rfl] at H; exact H
              clear H
              have H := H1
              clear H1
              have H' := Aside0.mk H
              clear H
              go_wp2_with (first | ((with_reducible refine gate_callee (f := 14) rfl ?_); refine goesL_ (some 44) rfl rfl Try.func14 (by kernel_rfl) rfl #[.slice Ao16 x8_4.length co16] rfl (by (try simp only [List.map_toArray, List.map_cons, List.map_nil]); first | done | rfl | (simp only [List.length_drop, List.length_take]; rfl)) ?_; (with_reducible refine (block_Right.calls kj4 _ _ x8_4 true _ ?side1 ?side2 A18.out).mono ?_); (case side1 => repeat (first | exact (Kd.R_reads' HO_8.out).2.2 | (with_reducible refine Kd.C_alloc ?_ _) | (with_reducible refine Kd.C_drewN ?_ _) | (with_reducible refine Kd.C_drew ?_))); (case side2 => exact (Kd.R_reads' HO_8.out).2.1); rintro e w' ⟨rfl, ⟨nd, rfl⟩⟩; refine ⟨_, rfl, ?_⟩; obtain ⟨Ao24, co24, eo24⟩ := Kd.R_slice HO159.out; subst eo24) | (go_at_call 14; (refine (block_Right.calls kj4 _ _ ([] : List Int) true _ ?side1 ?side2 A22.out).mono ?_); (case side1 => exact Kd.C_nil _ _); (case side2 => exact Nat.le_refl _); rintro e w' ⟨rfl, ⟨nd, rfl⟩⟩))
              go_meet
              case rel => exact ⟨_, (true), (by first | rfl | (simp; done) | (simp [*]; done)), H', ⟨by have := HJ4.out; first | omega | exact Nat.le_refl _⟩, ⟨by (with_reducible repeat (first | apply Kd.R_alloc | apply Kd.R_drewN | apply Kd.R_drew)); exact HO_8.out⟩, ⟨by (with_reducible repeat (first | apply Kd.R_alloc | apply Kd.R_drewN | apply Kd.R_drew)); exact HO159.out⟩, ⟨by repeat (first | (with_reducible first | exact HB.out | apply below_alloc | apply pw_below_drewN | apply below_drew1) | exact HB.out)⟩⟩
            · replace c23 := Bool.eq_false_iff.mpr c23
              subst c23
              have H1 : ((some (([] : List Int) : List Int)).bind fun y162 => (if y162.length + x8_4.length < 17592186044416 then ((some (y162 ++ x8_4 : List Int)).bind fun y165 => (if y165.length < 17592186044416 then ((block_Right.f kj4 (y165 ++ [x7_4])).bind fun t171 => (tendrillaw19_BlockBounds.j2 kj4 a2 x7_4 x8_4 t157 t171)) else (none))) else (none))) = some r := by rw [if_neg (show ¬ (false = true) by decide)] at H; exact H
              clear H
              have H := H1
              clear H1
              obtain ⟨y162, hy162⟩ : ∃ y_ : List Int, y_ = (([] : List Int)) := ⟨_, rfl⟩
              replace H : (if y162.length + x8_4.length < 17592186044416 then ((some (y162 ++ x8_4 : List Int)).bind fun y165 => (if y165.length < 17592186044416 then ((block_Right.f kj4 (y165 ++ [x7_4])).bind fun t171 => (tendrillaw19_BlockBounds.j2 kj4 a2 x7_4 x8_4 t157 t171)) else (none))) else (none)) = some r := by first | (rw [hy162]; with_reducible exact H) | (have H2_ := (Option.bind_some _ _).symm.trans H; rw [hy162]; with_reducible exact H2_) | (have H2_ := (Option.bind_some _ _).symm.trans H; with_reducible exact H2_) | with_reducible exact H | (rw [hy162]; exact H) | exact H
              have Ny162 := Aside0.mk hy162
              clear hy162
              by_cases c25 : y162.length + x8_4.length < 17592186044416
              · rw [if_pos c25] at H
                have LMc25 := Aside0.mk c25
                clear c25
                obtain ⟨y165, hy165⟩ : ∃ y_ : List Int, y_ = (y162 ++ x8_4) := ⟨_, rfl⟩
                replace H : (if y165.length < 17592186044416 then ((block_Right.f kj4 (y165 ++ [x7_4])).bind fun t171 => (tendrillaw19_BlockBounds.j2 kj4 a2 x7_4 x8_4 t157 t171)) else (none)) = some r := by first | (rw [hy165]; with_reducible exact H) | (have H2_ := (Option.bind_some _ _).symm.trans H; rw [hy165]; with_reducible exact H2_) | (have H2_ := (Option.bind_some _ _).symm.trans H; with_reducible exact H2_) | with_reducible exact H | (rw [hy165]; exact H) | exact H
                have Ny165 := Aside0.mk hy165
                clear hy165
                by_cases c26 : y165.length < 17592186044416
                · rw [if_pos c26] at H
                  have LMc26 := Aside0.mk c26
                  clear c26
                  obtain ⟨y168, hy168⟩ : ∃ y_ : List Int, y_ = (y165 ++ [x7_4]) := ⟨_, rfl⟩
                  replace H : ((block_Right.f kj4 y168).bind fun t171 => (tendrillaw19_BlockBounds.j2 kj4 a2 x7_4 x8_4 t157 t171)) = some r := by first | (rw [hy168]; with_reducible exact H) | (have H2_ := (Option.bind_some _ _).symm.trans H; rw [hy168]; with_reducible exact H2_) | (have H2_ := (Option.bind_some _ _).symm.trans H; with_reducible exact H2_) | with_reducible exact H | (rw [hy168]; exact H) | exact H
                  have Ny168 := Aside0.mk hy168
                  clear hy168
                  replace H := Option.bind_eq_some_iff.mp H
                  obtain ⟨t171, A270, H⟩ := H
                  replace H : (tendrillaw19_BlockBounds.j2 kj4 a2 x7_4 x8_4 t157 t171) = some r := H
                  have A27 := Aside0.mk A270
                  clear A270
                  have H' := Aside0.mk H
                  clear H
                  go_wp2_with (first | ((with_reducible refine gate_callee (f := 14) rfl ?_); refine goesL_ (some 44) rfl rfl Try.func14 (by kernel_rfl) rfl #[.slice Ao16 x8_4.length co16] rfl (by (try simp only [List.map_toArray, List.map_cons, List.map_nil]); first | done | rfl | (simp only [List.length_drop, List.length_take]; rfl)) ?_; (with_reducible refine (block_Right.calls kj4 _ _ x8_4 true _ ?side1 ?side2 A18.out).mono ?_); (case side1 => repeat (first | exact (Kd.R_reads' HO_8.out).2.2 | (with_reducible refine Kd.C_alloc ?_ _) | (with_reducible refine Kd.C_drewN ?_ _) | (with_reducible refine Kd.C_drew ?_))); (case side2 => exact (Kd.R_reads' HO_8.out).2.1); rintro e w' ⟨rfl, ⟨nd, rfl⟩⟩; refine ⟨_, rfl, ?_⟩; obtain ⟨Ao28, co28, eo28⟩ := Kd.R_slice HO159.out; subst eo28) | ((with_reducible refine gate_dst (N := 57) rfl ?_); (try (refine gate_guard (by rfl) ?_; dsimp only)); refine Kd.R_lit (Kd.int .i64) _ 3 ?hg (N := 57) ?hd (xs := ([] : List Int)) (inner := []) (ok := fun _ => True) (okp := fun _ => True) ?hr ?hp (fun _ hk => hk) trivial (Below.refl _ _) (Nat.le_refl _) (by simp) ?_; (case hd => rfl); (case hg => rfl); (case hr => first | (go_simp; done) | (go_simp; rfl)); (case hp => exact (Reps.none _ _)); intro v163 w29 ho30 hb hg_ hnew_; clear hg_ hnew_; (first | rw [← Ny162.out] at ho30 | (simp only [Int.reduceToNat] at ho30; rw [← Ny162.out] at ho30)); have n0_ := Aside0.mk (Kd.R_elder' (by (with_reducible repeat (first | apply Kd.R_alloc | apply Kd.R_drewN | apply Kd.R_drew)); exact HO_8.out) (Kd.R_base ho30) hb); have n1_ := Aside0.mk (Kd.R_below (by (with_reducible repeat (first | apply Kd.R_alloc | apply Kd.R_drewN | apply Kd.R_drew)); exact HO159.out) hb); have n2_ := Aside0.mk (Kd.R_lower (Kd.R_new' ho30 (Kd.R_lt (by (with_reducible repeat (first | apply Kd.R_alloc | apply Kd.R_drewN | apply Kd.R_drew)); exact HO_8.out))) (below_size (by repeat (first | (with_reducible first | exact HB.out | apply below_alloc | apply pw_below_drewN | apply below_drew1) | exact HB.out)))); have n3_ := Aside0.mk (below_step (by repeat (first | (with_reducible first | exact HB.out | apply below_alloc | apply pw_below_drewN | apply below_drew1) | exact HB.out)) hb); clear HO_8; clear HO159; clear HB; have HO_8 := n0_; have HO159 := n1_; have HO164 := n2_; have HB := n3_; clear n0_ n1_ n2_ n3_; clear hb ho30) | ((with_reducible refine gate_builtin (b := .append) (xs := #[.tmp 57, .tmp 58]) rfl ?_); (try (refine gate_guard (by rfl) ?_; dsimp only)); at_builtin; refine Kd.R_append_rows (Kd.int .i64) (w0 := w) w.heap.size rfl (.tmp 57) (.tmp 58) 22 3 (.int .i64 0) 8 rfl Try.underlying22 info3 rfl (by decide) (by omega) v163 y162 x8_4 _ _ _ (fun k_ => some k_ ≠ (.slice Ao16 x8_4.length co16 : Value).ownBlock) (fun _ => False) rfl rfl ?aO ?aR (fun _ _ h => h) (fun _ h => h.elim) ?aF ?aB ?aS ?aL ?_; (case aR => repeat (first | exact (Kd.R_reads' HO_8.out).2.2 | (with_reducible refine Kd.C_alloc ?_ _) | (with_reducible refine Kd.C_drewN ?_ _) | (with_reducible refine Kd.C_drew ?_))); (case aB => exact (by repeat (first | (with_reducible first | exact HB.out | apply below_alloc | apply pw_below_drewN | apply below_drew1) | exact HB.out))); (case aF => exact (fun k_ hk => Kd.fresh' (Kd.R_lt (by (with_reducible repeat (first | apply Kd.R_alloc | apply Kd.R_drewN | apply Kd.R_drew)); exact HO_8.out)) k_ hk)); (case aO => exact (by (with_reducible repeat (first | apply Kd.R_alloc | apply Kd.R_drewN | apply Kd.R_drew)); exact Kd.R_mono HO164.out (fun _ hk => hk.2))); (case aS => exact (below_size (by repeat (first | (with_reducible first | exact HB.out | apply below_alloc | apply pw_below_drewN | apply below_drew1) | exact HB.out)))); (case aL => have := LMc25.out; omega); intro v166 w31 ho hb hg hat; rw [← Ny165.out] at ho; have n0_ := Aside0.mk (Kd.R_after (ok := (fun _ => True)) (by (with_reducible repeat (first | apply Kd.R_alloc | apply Kd.R_drewN | apply Kd.R_drew)); exact HO_8.out) hg hat); have n1_ := Aside0.mk (Kd.R_over' (by (with_reducible repeat (first | apply Kd.R_alloc | apply Kd.R_drewN | apply Kd.R_drew)); exact HO159.out) (Kd.R_typed (by (with_reducible repeat (first | apply Kd.R_alloc | apply Kd.R_drewN | apply Kd.R_drew)); exact HO164.out)) (by decide) hg); have n2_ := Aside0.mk (hb); have n3_ := Aside0.mk (ho); clear HO_8; clear HO159; clear HB; clear HO164; have HO_8 := n0_; have HO159 := n1_; have HB := n2_; have HO167 := n3_; clear n0_ n1_ n2_ n3_; clear ho hb hg hat) | ((with_reducible refine gate_builtin (b := .append) (xs := #[.tmp 59, .tmp 61]) rfl ?_); (try (refine gate_guard (by rfl) ?_; dsimp only)); at_builtin; refine Kd.R_append (Kd.int .i64) (w0 := w) w.heap.size rfl (.tmp 59) (.tmp 61) 22 3 (.int .i64 0) 8 rfl Try.underlying22 info3 rfl (by decide) (by omega) v166 y165 x7_4 [.int .i64 x7_4] (fun k_ => some k_ ≠ (.slice Ao16 x8_4.length co16 : Value).ownBlock) (fun _ => False) rfl rfl ?aP (fun _ hk => hk.elim) ?aF ?aO ?aB ?aS ?aL ?_; (case aP => exact rfl); (case aB => exact (by repeat (first | (with_reducible first | exact HB.out | apply below_alloc | apply pw_below_drewN | apply below_drew1) | exact HB.out))); (case aF => exact (fun k_ hk => Kd.fresh' (Kd.R_lt (by (with_reducible repeat (first | apply Kd.R_alloc | apply Kd.R_drewN | apply Kd.R_drew)); exact HO_8.out)) k_ hk)); (case aO => exact (by (with_reducible repeat (first | apply Kd.R_alloc | apply Kd.R_drewN | apply Kd.R_drew)); exact HO167.out)); (case aS => exact (below_size (by repeat (first | (with_reducible first | exact HB.out | apply below_alloc | apply pw_below_drewN | apply below_drew1) | exact HB.out)))); (case aL => have := LMc26.out; omega); intro v169 w32 ho hb hg hat; rw [← Ny168.out] at ho; have n0_ := Aside0.mk (Kd.R_after (ok := (fun _ => True)) (by (with_reducible repeat (first | apply Kd.R_alloc | apply Kd.R_drewN | apply Kd.R_drew)); exact HO_8.out) hg hat); have n1_ := Aside0.mk (Kd.R_over' (by (with_reducible repeat (first | apply Kd.R_alloc | apply Kd.R_drewN | apply Kd.R_drew)); exact HO159.out) (Kd.R_typed (by (with_reducible repeat (first | apply Kd.R_alloc | apply Kd.R_drewN | apply Kd.R_drew)); exact HO167.out)) (by decide) hg); have n2_ := Aside0.mk (hb); have n3_ := Aside0.mk (ho); clear HO_8; clear HO159; clear HB; clear HO167; have HO_8 := n0_; have HO159 := n1_; have HB := n2_; have HO170 := n3_; clear n0_ n1_ n2_ n3_; clear ho hb hg hat; obtain ⟨Ao33, co33, eo33⟩ := Kd.R_slice HO170.out; subst eo33) | (go_at_call 14; (with_reducible refine (block_Right.calls kj4 _ _ y168 t171 _ ?side1 ?side2 A27.out).mono ?_); (case side1 => repeat (first | exact (Kd.R_reads' HO170.out).2.2 | (with_reducible refine Kd.C_alloc ?_ _) | (with_reducible refine Kd.C_drewN ?_ _) | (with_reducible refine Kd.C_drew ?_))); (case side2 => exact (Kd.R_reads' HO170.out).2.1); rintro e w' ⟨rfl, ⟨nd, rfl⟩⟩) | (go_at_call 14; (refine (block_Right.calls kj4 _ _ ([] : List Int) false _ ?side1 ?side2 A22.out).mono ?_); (case side1 => exact Kd.C_nil _ _); (case side2 => exact Nat.le_refl _); rintro e w' ⟨rfl, ⟨nd, rfl⟩⟩))
                  go_meet
                  case rel => exact ⟨_, (t171), (by first | rfl | (simp; done) | (simp [*]; done)), H', ⟨by have := HJ4.out; first | omega | exact Nat.le_refl _⟩, ⟨by (with_reducible repeat (first | apply Kd.R_alloc | apply Kd.R_drewN | apply Kd.R_drew)); exact Kd.R_mono HO_8.out (fun _ hk => trivial)⟩, ⟨by (with_reducible repeat (first | apply Kd.R_alloc | apply Kd.R_drewN | apply Kd.R_drew)); exact HO159.out⟩, ⟨by repeat (first | (with_reducible first | exact HB.out | apply below_alloc | apply pw_below_drewN | apply below_drew1) | exact HB.out)⟩⟩
                · rw [if_neg c26] at H
                  exact absurd H (by simp)
              · rw [if_neg c25] at H
                exact absurd H (by simp)
        · replace c19 := Bool.eq_false_iff.mpr c19
          subst c19
          have H1 : (tendrillaw19_BlockBounds.j2 kj4 a2 x7_4 x8_4 t157 true) = some r := by rw [if_neg (show ¬ (false = true) by decide)] at H; exact H
          clear H
          have H := H1
          clear H1
          have H' := Aside0.mk H
          clear H
          go_wp2_with (first | ((with_reducible refine gate_callee (f := 14) rfl ?_); refine goesL_ (some 44) rfl rfl Try.func14 (by kernel_rfl) rfl #[.slice Ao16 x8_4.length co16] rfl (by (try simp only [List.map_toArray, List.map_cons, List.map_nil]); first | done | rfl | (simp only [List.length_drop, List.length_take]; rfl)) ?_; (with_reducible refine (block_Right.calls kj4 _ _ x8_4 false _ ?side1 ?side2 A18.out).mono ?_); (case side1 => repeat (first | exact (Kd.R_reads' HO_8.out).2.2 | (with_reducible refine Kd.C_alloc ?_ _) | (with_reducible refine Kd.C_drewN ?_ _) | (with_reducible refine Kd.C_drew ?_))); (case side2 => exact (Kd.R_reads' HO_8.out).2.1); rintro e w' ⟨rfl, ⟨nd, rfl⟩⟩; refine ⟨_, rfl, ?_⟩))
          go_meet
          case rel => exact ⟨_, (true), (by first | rfl | (simp; done) | (simp [*]; done)), H', ⟨by have := HJ4.out; first | omega | exact Nat.le_refl _⟩, ⟨by (with_reducible repeat (first | apply Kd.R_alloc | apply Kd.R_drewN | apply Kd.R_drew)); exact HO_8.out⟩, ⟨by (with_reducible repeat (first | apply Kd.R_alloc | apply Kd.R_drewN | apply Kd.R_drew)); exact HO159.out⟩, ⟨by repeat (first | (with_reducible first | exact HB.out | apply below_alloc | apply pw_below_drewN | apply below_drew1) | exact HB.out)⟩⟩
      case rest =>
        clear HC15
        try clear c1
        try clear p1
        try clear q1
        try clear hx1
        try clear c2
        try clear p2
        try clear c6
        try clear p6
        try clear c8
        try clear c8b0
        try clear c9
        try clear c9b0
        try clear c10
        try clear c10b0
        try clear c12
        try clear c14
        try clear p15
        try clear q15
        try clear hx15
        try clear c19
        try clear c20
        try clear c20b0
        try clear c20b1
        try clear c23
        try clear c25
        try clear c26
        try clear hx152_0
        try clear p1
        try clear p152
        try clear p2
        try clear p6
        try clear q1
        try clear q152
        obtain ⟨kq, x64_14, rfl, HA, HJ14, HO_8, HO_10, HB⟩ := hcut
        cases kq with
        | zero => exact absurd HA.out (by simp [tendrillaw19_BlockBounds.j2])
        | succ kj14 =>
          have H := HA.out
          clear HA
          simp only [tendrillaw19_BlockBounds.j2] at H
          by_cases c34 : x64_14 = true
          · subst c34
            have H1 : (some false) = some r := by rw [if_pos rfl] at H; exact H
            clear H
            have H := H1
            clear H1
            obtain rfl := Option.some.inj H
            go_wp2
            go_ret
            exact ⟨by first | rfl | (simp [errW_none, errW_some] <;> rfl) | (simp [*, errW_none, errW_some] <;> rfl), by repeat (first | (with_reducible first | exact HB.out | apply below_alloc | apply pw_below_drewN | apply below_drew1) | exact HB.out)⟩
          · replace c34 := Bool.eq_false_iff.mpr c34
            subst c34
            have H1 : ((tendrilbook_Within.f a2 0 (t157.length : Int)).bind fun t172 => (if 0 ≤ t172 then (if t172 ≤ (t157.length : Int) then ((block_Decode.f (t157.take (t172 : Int).toNat)).bind fun bt177 => (if bt177.2 = 0 then (if (bt177.1.length : Int) > (x8_4.length : Int) then (tendrillaw19_BlockBounds.j3 kj14 x7_4 x8_4 true) else (if 0 ≤ (bt177.1.length : Int) then (if (bt177.1.length : Int) ≤ (x8_4.length : Int) then ((tendrilbook_Same_int.f kj14 bt177.1 (x8_4.take ((bt177.1.length : Int) : Int).toNat)).bind fun t185 => (if t185 = true then (tendrillaw19_BlockBounds.j3 kj14 x7_4 x8_4 false) else (tendrillaw19_BlockBounds.j3 kj14 x7_4 x8_4 true))) else (none)) else (none))) else (tendrillaw19_BlockBounds.j3 kj14 x7_4 x8_4 ((bt177.1.length : Int) != 0)))) else (none)) else (none))) = some r := by rw [if_neg (show ¬ (false = true) by decide)] at H; exact H
            clear H
            have H := H1
            clear H1
            replace H := Option.bind_eq_some_iff.mp H
            obtain ⟨t172, A350, H⟩ := H
            replace H : (if 0 ≤ t172 then (if t172 ≤ (t157.length : Int) then ((block_Decode.f (t157.take (t172 : Int).toNat)).bind fun bt177 => (if bt177.2 = 0 then (if (bt177.1.length : Int) > (x8_4.length : Int) then (tendrillaw19_BlockBounds.j3 kj14 x7_4 x8_4 true) else (if 0 ≤ (bt177.1.length : Int) then (if (bt177.1.length : Int) ≤ (x8_4.length : Int) then ((tendrilbook_Same_int.f kj14 bt177.1 (x8_4.take ((bt177.1.length : Int) : Int).toNat)).bind fun t185 => (if t185 = true then (tendrillaw19_BlockBounds.j3 kj14 x7_4 x8_4 false) else (tendrillaw19_BlockBounds.j3 kj14 x7_4 x8_4 true))) else (none)) else (none))) else (tendrillaw19_BlockBounds.j3 kj14 x7_4 x8_4 ((bt177.1.length : Int) != 0)))) else (none)) else (none)) = some r := H
            have A35 := Aside0.mk A350
            clear A350
            by_cases c36 : 0 ≤ t172
            · rw [if_pos c36] at H
              have c36b0 := eq_true c36
              have c36b1 : decide (0 ≤ t172) = true := decide_eq_true c36
              clear c36
              by_cases c37 : t172 ≤ (t157.length : Int)
              · rw [if_pos c37] at H
                have c37b0 := eq_true c37
                have c37b1 : decide (t172 ≤ (t157.length : Int)) = true := decide_eq_true c37
                clear c37
                obtain ⟨y173, hy173⟩ : ∃ y_ : List Int, y_ = (t157.take (t172 : Int).toNat) := ⟨_, rfl⟩
                replace H : ((block_Decode.f y173).bind fun bt177 => (if bt177.2 = 0 then (if (bt177.1.length : Int) > (x8_4.length : Int) then (tendrillaw19_BlockBounds.j3 kj14 x7_4 x8_4 true) else (if 0 ≤ (bt177.1.length : Int) then (if (bt177.1.length : Int) ≤ (x8_4.length : Int) then ((tendrilbook_Same_int.f kj14 bt177.1 (x8_4.take ((bt177.1.length : Int) : Int).toNat)).bind fun t185 => (if t185 = true then (tendrillaw19_BlockBounds.j3 kj14 x7_4 x8_4 false) else (tendrillaw19_BlockBounds.j3 kj14 x7_4 x8_4 true))) else (none)) else (none))) else (tendrillaw19_BlockBounds.j3 kj14 x7_4 x8_4 ((bt177.1.length : Int) != 0)))) = some r := by first | (rw [hy173]; with_reducible exact H) | (have H2_ := (Option.bind_some _ _).symm.trans H; rw [hy173]; with_reducible exact H2_) | (have H2_ := (Option.bind_some _ _).symm.trans H; with_reducible exact H2_) | with_reducible exact H | (rw [hy173]; exact H) | exact H
                have Ny173 := Aside0.mk hy173
                clear hy173
                replace H := Option.bind_eq_some_iff.mp H
                obtain ⟨⟨t177, t178⟩, A380, H⟩ := H
                replace H : (if t178 = 0 then (if (t177.length : Int) > (x8_4.length : Int) then (tendrillaw19_BlockBounds.j3 kj14 x7_4 x8_4 true) else (if 0 ≤ (t177.length : Int) then (if (t177.length : Int) ≤ (x8_4.length : Int) then ((tendrilbook_Same_int.f kj14 t177 (x8_4.take ((t177.length : Int) : Int).toNat)).bind fun t185 => (if t185 = true then (tendrillaw19_BlockBounds.j3 kj14 x7_4 x8_4 false) else (tendrillaw19_BlockBounds.j3 kj14 x7_4 x8_4 true))) else (none)) else (none))) else (tendrillaw19_BlockBounds.j3 kj14 x7_4 x8_4 ((t177.length : Int) != 0))) = some r := H
                have A38 := Aside0.mk A380
                clear A380
                have HC39 := Aside0.mk H
                clear H
                obtain ⟨Ao40, co40, eo40⟩ := Kd.R_slice HO_10.out
                subst eo40
                go_upto_region 13 with (first | ((with_reducible refine gate_callee (f := 19) rfl ?_); refine goesL_ (some 68) rfl rfl Try.func19 (by kernel_rfl) rfl #[.int .i64 a2, .int .i64 0, .int .i64 (t157.length : Int)] rfl (by (try simp only [List.map_toArray, List.map_cons, List.map_nil]); first | done | rfl | (simp only [List.length_drop, List.length_take]; rfl)) ?_; (with_reducible refine (tendrilbook_Within.calls a2 0 (t157.length : Int) t172 _ A35.out).mono ?_); rintro e w' ⟨rfl, ⟨nd, rfl⟩⟩; refine ⟨_, rfl, ?_⟩; have q41 : (t172 : Int) ≤ ((t157.length : Int) : Int) := of_decide_eq_true (by first | (with_reducible assumption) | assumption); obtain ⟨i041, hi041, _, hsz41, _⟩ := info_parts info5; have hroom41 : t157.length ≤ co40 := (Kd.R_reads' HO_10.out).2.1; have hC41 : Kd.C (Kd.int .u8) _ Ao40 t157.length t157 := (Kd.R_reads' HO_10.out).2.2; have hcut41 := cut_to (P := Try.prog) 26 5 .i64 Try.underlying26 hi041 Ao40 t157.length co40 t172 (of_decide_eq_true (by first | (with_reducible assumption) | assumption)) q41 hroom41; have hr41 := Kd.C_take (m := (t172 : Int).toNat) hC41 (by omega); have hy41 : y173.length = (t172 : Int).toNat := (by rw [Ny173.out, List.length_take]; omega); rw [← Ny173.out] at hr41; rw [← hy41] at hcut41; have HR176 := Aside0.mk hr41; have HC176 := Aside0.mk (show y173.length ≤ co40 from by omega); clear hr41 hC41 hroom41 hi041 hsz41; have KY41 := Aside0.mk hy41; clear hy41; have KL41 := Aside0.mk (show (t172 : Int).toNat ≤ t157.length from by omega); replace q41 := eq_true q41) | ((with_reducible refine gate_callee (f := 7) rfl ?_); refine goesL_ (some 73) rfl rfl Try.func7 (by kernel_rfl) rfl #[.slice Ao40 y173.length co40] rfl (by (try simp only [List.map_toArray, List.map_cons, List.map_nil]); first | done | rfl | (simp only [List.length_drop, List.length_take]; rfl)) ?_; (with_reducible refine (block_Decode.calls _ _ y173 t177 t178 _ ?side1 ?side2 A38.out).mono ?_); (case side1 => repeat (first | exact (by repeat (first | (with_reducible exact HR176.out) | (with_reducible refine Kd.C_alloc ?_ _) | (with_reducible refine Kd.C_drewN ?_ _) | (with_reducible refine Kd.C_drew ?_) | exact HR176.out)) | (with_reducible refine Kd.C_alloc ?_ _) | (with_reducible refine Kd.C_drewN ?_ _) | (with_reducible refine Kd.C_drew ?_))); (case side2 => exact HC176.out); rintro e w42 ⟨v179, rfl, ho0, hb⟩; refine ⟨_, rfl, ?_⟩; have n0_ := Aside0.mk (Kd.R_elder' (by (with_reducible repeat (first | apply Kd.R_alloc | apply Kd.R_drewN | apply Kd.R_drew)); exact HO_8.out) (Kd.R_base ho0) hb); have n1_ := Aside0.mk (Kd.R_below (by (with_reducible repeat (first | apply Kd.R_alloc | apply Kd.R_drewN | apply Kd.R_drew)); exact HO_10.out) hb); have n2_ := Aside0.mk (Kd.R_lower (Kd.R_new' ho0 (Kd.R_lt (by (with_reducible repeat (first | apply Kd.R_alloc | apply Kd.R_drewN | apply Kd.R_drew)); exact HO_8.out))) (below_size (by repeat (first | (with_reducible first | exact HB.out | apply below_alloc | apply pw_below_drewN | apply below_drew1) | exact HB.out)))); have n3_ := Aside0.mk (Kd.C_below (by repeat (first | (with_reducible exact HR176.out) | (with_reducible refine Kd.C_alloc ?_ _) | (with_reducible refine Kd.C_drewN ?_ _) | (with_reducible refine Kd.C_drew ?_) | exact HR176.out)) hb); have n4_ := Aside0.mk (below_step (by repeat (first | (with_reducible first | exact HB.out | apply below_alloc | apply pw_below_drewN | apply below_drew1) | exact HB.out)) hb); clear HO_8; clear HO_10; clear HR176; clear HB; have HO_8 := n0_; have HO_10 := n1_; have HO180 := n2_; have HR176 := n3_; have HB := n4_; clear n0_ n1_ n2_ n3_ n4_; (try clear hb); (try clear hb2); (try clear hk); (try clear hi); (try clear ho0)))
                (try simp only [Act.put, List.setIfInBounds_toArray, List.set_cons_zero, List.set_cons_succ])
                go_cut [102] (fun v102 wc => ∃ (kq : Nat) (x102_38 : Bool), v102 = .bool x102_38 ∧ Aside0 (tendrillaw19_BlockBounds.j3 kq x7_4 x8_4 x102_38 = some r) ∧ Aside0 (kq ≤ kj14) ∧ Aside0 (Kd.R (Kd.int .i64) 3 wc w.heap.size (fun _ => True) (.slice Ao16 x8_4.length co16) x8_4) ∧ Aside0 (Kd.C (Kd.int .u8) wc Ao40 y173.length y173) ∧ Aside0 (Below w.heap.size w wc))
                case first =>
                  have H := HC39.out
                  clear HC39
                  by_cases c43 : t178 = 0
                  · rw [if_pos c43] at H
                    have c43b0 : (t178 == 0) = true := beq_iff_eq.mpr c43
                    have c43b1 : (t178 != 0) = false := bne_eq_false_iff_eq.mpr c43
                    clear c43
                    (first | rw [c43b0] | (simp only [i64_w, i32_w]; rw [c43b0]) | skip)
                    by_cases c44 : (t177.length : Int) > (x8_4.length : Int)
                    · rw [if_pos c44] at H
                      have c44b0 : decide ((x8_4.length : Int) < (t177.length : Int)) = true := decide_eq_true c44
                      have c44b1 : decide (x8_4.length < t177.length) = true := decide_eq_true (Int.ofNat_lt.mp c44)
                      clear c44
                      have H' := Aside0.mk H
                      clear H
                      obtain ⟨Ao45, co45, eo45⟩ := Kd.R_slice HO180.out
                      subst eo45
                      go_wp2
                      go_meet
                      case rel => exact ⟨_, (true), (by first | rfl | (simp; done) | (simp [*]; done)), H', ⟨by have := HJ4.out; have := HJ14.out; first | omega | exact Nat.le_refl _⟩, ⟨by (with_reducible repeat (first | apply Kd.R_alloc | apply Kd.R_drewN | apply Kd.R_drew)); exact Kd.R_mono HO_8.out (fun _ hk => trivial)⟩, ⟨by repeat (first | (with_reducible exact HR176.out) | (with_reducible refine Kd.C_alloc ?_ _) | (with_reducible refine Kd.C_drewN ?_ _) | (with_reducible refine Kd.C_drew ?_) | exact HR176.out)⟩, ⟨by repeat (first | (with_reducible first | exact HB.out | apply below_alloc | apply pw_below_drewN | apply below_drew1) | exact HB.out)⟩⟩
                    · rw [if_neg c44] at H
                      have c44b0 : decide ((x8_4.length : Int) < (t177.length : Int)) = false := decide_eq_false c44
                      have c44b1 : decide (x8_4.length < t177.length) = false := decide_eq_false (fun h => c44 (Int.ofNat_lt.mpr h))
                      clear c44
                      by_cases c46 : 0 ≤ (t177.length : Int)
                      · rw [if_pos c46] at H
                        have c46b0 := eq_true c46
                        have c46b1 : decide (0 ≤ (t177.length : Int)) = true := decide_eq_true c46
                        clear c46
                        by_cases c47 : (t177.length : Int) ≤ (x8_4.length : Int)
                        · rw [if_pos c47] at H
                          have c47b0 := eq_true c47
                          have c47b1 : decide ((t177.length : Int) ≤ (x8_4.length : Int)) = true := decide_eq_true c47
                          clear c47
                          obtain ⟨y181, hy181⟩ : ∃ y_ : List Int, y_ = (x8_4.take ((t177.length : Int) : Int).toNat) := ⟨_, rfl⟩
                          replace H : ((tendrilbook_Same_int.f kj14 t177 y181).bind fun t185 => (if t185 = true then (tendrillaw19_BlockBounds.j3 kj14 x7_4 x8_4 false) else (tendrillaw19_BlockBounds.j3 kj14 x7_4 x8_4 true))) = some r := by first | (rw [hy181]; with_reducible exact H) | (have H2_ := (Option.bind_some _ _).symm.trans H; rw [hy181]; with_reducible exact H2_) | (have H2_ := (Option.bind_some _ _).symm.trans H; with_reducible exact H2_) | with_reducible exact H | (rw [hy181]; exact H) | exact H
                          have Ny181 := Aside0.mk hy181
                          clear hy181
                          replace H := Option.bind_eq_some_iff.mp H
                          obtain ⟨t185, A480, H⟩ := H
                          replace H : (if t185 = true then (tendrillaw19_BlockBounds.j3 kj14 x7_4 x8_4 false) else (tendrillaw19_BlockBounds.j3 kj14 x7_4 x8_4 true)) = some r := H
                          have A48 := Aside0.mk A480
                          clear A480
                          by_cases c49 : t185 = true
                          · subst c49
                            have H1 : (tendrillaw19_BlockBounds.j3 kj14 x7_4 x8_4 false) = some r := by rw [if_pos rfl] at H; exact H
                            clear H
                            have H := H1
                            clear H1
                            have H' := Aside0.mk H
                            clear H
                            obtain ⟨Ao50, co50, eo50⟩ := Kd.R_slice HO180.out
                            subst eo50
                            have q51 : ((t177.length : Int) : Int) ≤ ((x8_4.length : Int) : Int) := of_decide_eq_true (by first | (with_reducible assumption) | assumption)
                            obtain ⟨i051, hi051, _, hsz51, _⟩ := info_parts info3
                            have hroom51 : x8_4.length ≤ co16 := (Kd.R_reads' HO_8.out).2.1
                            have hC51 : Kd.C (Kd.int .i64) _ Ao16 x8_4.length x8_4 := (Kd.R_reads' HO_8.out).2.2
                            have hcut51 := cut_to (P := Try.prog) 22 3 .i64 Try.underlying22 hi051 Ao16 x8_4.length co16 (t177.length : Int) (of_decide_eq_true (by first | (with_reducible assumption) | assumption)) q51 hroom51
                            have hr51 := Kd.C_take (m := ((t177.length : Int) : Int).toNat) hC51 (by omega)
                            have hy51 : y181.length = ((t177.length : Int) : Int).toNat := (by rw [Ny181.out, List.length_take]; omega)
                            rw [← Ny181.out] at hr51
                            rw [← hy51] at hcut51
                            have HR184 := Aside0.mk hr51
                            have HC184 := Aside0.mk (show y181.length ≤ co16 from by omega)
                            clear hr51 hC51 hroom51 hi051 hsz51
                            have KY51 := Aside0.mk hy51
                            clear hy51
                            have KL51 := Aside0.mk (show ((t177.length : Int) : Int).toNat ≤ x8_4.length from by omega)
                            replace q51 := eq_true q51
                            go_wp2_with (first | (go_at_call 10; (with_reducible refine (tendrilbook_Same_int.calls kj14 _ _ t177 _ _ y181 true _ ?side1 ?side2 ?side3 ?side4 A48.out).mono ?_); (case side1 => repeat (first | exact (Kd.R_reads' HO180.out).2.2 | (with_reducible refine Kd.C_alloc ?_ _) | (with_reducible refine Kd.C_drewN ?_ _) | (with_reducible refine Kd.C_drew ?_))); (case side2 => exact (Kd.R_reads' HO180.out).2.1); (case side3 => repeat (first | exact (by repeat (first | (with_reducible exact HR184.out) | (with_reducible refine Kd.C_alloc ?_ _) | (with_reducible refine Kd.C_drewN ?_ _) | (with_reducible refine Kd.C_drew ?_) | exact HR184.out)) | (with_reducible refine Kd.C_alloc ?_ _) | (with_reducible refine Kd.C_drewN ?_ _) | (with_reducible refine Kd.C_drew ?_))); (case side4 => exact HC184.out); rintro e w' ⟨rfl, ⟨nd, rfl⟩⟩))
                            go_meet
                            case rel => exact ⟨_, (false), (by first | rfl | (simp; done) | (simp [*]; done)), H', ⟨by have := HJ4.out; have := HJ14.out; first | omega | exact Nat.le_refl _⟩, ⟨by (with_reducible repeat (first | apply Kd.R_alloc | apply Kd.R_drewN | apply Kd.R_drew)); exact Kd.R_mono HO_8.out (fun _ hk => trivial)⟩, ⟨by repeat (first | (with_reducible exact HR176.out) | (with_reducible refine Kd.C_alloc ?_ _) | (with_reducible refine Kd.C_drewN ?_ _) | (with_reducible refine Kd.C_drew ?_) | exact HR176.out)⟩, ⟨by repeat (first | (with_reducible first | exact HB.out | apply below_alloc | apply pw_below_drewN | apply below_drew1) | exact HB.out)⟩⟩
                          · replace c49 := Bool.eq_false_iff.mpr c49
                            subst c49
                            have H1 : (tendrillaw19_BlockBounds.j3 kj14 x7_4 x8_4 true) = some r := by rw [if_neg (show ¬ (false = true) by decide)] at H; exact H
                            clear H
                            have H := H1
                            clear H1
                            have H' := Aside0.mk H
                            clear H
                            obtain ⟨Ao52, co52, eo52⟩ := Kd.R_slice HO180.out
                            subst eo52
                            have q53 : ((t177.length : Int) : Int) ≤ ((x8_4.length : Int) : Int) := of_decide_eq_true (by first | (with_reducible assumption) | assumption)
                            obtain ⟨i053, hi053, _, hsz53, _⟩ := info_parts info3
                            have hroom53 : x8_4.length ≤ co16 := (Kd.R_reads' HO_8.out).2.1
                            have hC53 : Kd.C (Kd.int .i64) _ Ao16 x8_4.length x8_4 := (Kd.R_reads' HO_8.out).2.2
                            have hcut53 := cut_to (P := Try.prog) 22 3 .i64 Try.underlying22 hi053 Ao16 x8_4.length co16 (t177.length : Int) (of_decide_eq_true (by first | (with_reducible assumption) | assumption)) q53 hroom53
                            have hr53 := Kd.C_take (m := ((t177.length : Int) : Int).toNat) hC53 (by omega)
                            have hy53 : y181.length = ((t177.length : Int) : Int).toNat := (by rw [Ny181.out, List.length_take]; omega)
                            rw [← Ny181.out] at hr53
                            rw [← hy53] at hcut53
                            have HR184 := Aside0.mk hr53
                            have HC184 := Aside0.mk (show y181.length ≤ co16 from by omega)
                            clear hr53 hC53 hroom53 hi053 hsz53
                            have KY53 := Aside0.mk hy53
                            clear hy53
                            have KL53 := Aside0.mk (show ((t177.length : Int) : Int).toNat ≤ x8_4.length from by omega)
                            replace q53 := eq_true q53
                            go_wp2_with (first | (go_at_call 10; (with_reducible refine (tendrilbook_Same_int.calls kj14 _ _ t177 _ _ y181 false _ ?side1 ?side2 ?side3 ?side4 A48.out).mono ?_); (case side1 => repeat (first | exact (Kd.R_reads' HO180.out).2.2 | (with_reducible refine Kd.C_alloc ?_ _) | (with_reducible refine Kd.C_drewN ?_ _) | (with_reducible refine Kd.C_drew ?_))); (case side2 => exact (Kd.R_reads' HO180.out).2.1); (case side3 => repeat (first | exact (by repeat (first | (with_reducible exact HR184.out) | (with_reducible refine Kd.C_alloc ?_ _) | (with_reducible refine Kd.C_drewN ?_ _) | (with_reducible refine Kd.C_drew ?_) | exact HR184.out)) | (with_reducible refine Kd.C_alloc ?_ _) | (with_reducible refine Kd.C_drewN ?_ _) | (with_reducible refine Kd.C_drew ?_))); (case side4 => exact HC184.out); rintro e w' ⟨rfl, ⟨nd, rfl⟩⟩))
                            go_meet
                            case rel => exact ⟨_, (true), (by first | rfl | (simp; done) | (simp [*]; done)), H', ⟨by have := HJ4.out; have := HJ14.out; first | omega | exact Nat.le_refl _⟩, ⟨by (with_reducible repeat (first | apply Kd.R_alloc | apply Kd.R_drewN | apply Kd.R_drew)); exact Kd.R_mono HO_8.out (fun _ hk => trivial)⟩, ⟨by repeat (first | (with_reducible exact HR176.out) | (with_reducible refine Kd.C_alloc ?_ _) | (with_reducible refine Kd.C_drewN ?_ _) | (with_reducible refine Kd.C_drew ?_) | exact HR176.out)⟩, ⟨by repeat (first | (with_reducible first | exact HB.out | apply below_alloc | apply pw_below_drewN | apply below_drew1) | exact HB.out)⟩⟩
                        · rw [if_neg c47] at H
                          exact absurd H (by simp)
                      · rw [if_neg c46] at H
                        exact absurd H (by simp)
                  · rw [if_neg c43] at H
                    have c43b0 : (t178 == 0) = false := beq_eq_false_iff_ne.mpr c43
                    have c43b1 : (t178 != 0) = true := bne_iff_ne.mpr c43
                    (first | rw [c43b0] | (simp only [i64_w, i32_w]; rw [c43b0]) | skip)
                    have H' := Aside0.mk H
                    clear H
                    obtain ⟨Ao54, co54, eo54⟩ := Kd.R_slice HO180.out
                    subst eo54
                    go_wp2
                    go_meet
                    case rel => exact ⟨_, (((t177.length : Int) != 0)), (by first | rfl | (simp; done) | (simp [*]; done)), H', ⟨by have := HJ4.out; have := HJ14.out; first | omega | exact Nat.le_refl _⟩, ⟨by (with_reducible repeat (first | apply Kd.R_alloc | apply Kd.R_drewN | apply Kd.R_drew)); exact Kd.R_mono HO_8.out (fun _ hk => trivial)⟩, ⟨by repeat (first | (with_reducible exact HR176.out) | (with_reducible refine Kd.C_alloc ?_ _) | (with_reducible refine Kd.C_drewN ?_ _) | (with_reducible refine Kd.C_drew ?_) | exact HR176.out)⟩, ⟨by repeat (first | (with_reducible first | exact HB.out | apply below_alloc | apply pw_below_drewN | apply below_drew1) | exact HB.out)⟩⟩
                case rest =>
                  clear HC39
                  try clear c1
                  try clear p1
                  try clear q1
                  try clear hx1
                  try clear c2
                  try clear p2
                  try clear c3
                  try clear c4
                  try clear q4
                  try clear q5
                  try clear c6
                  try clear p6
                  try clear c7
                  try clear c8
                  try clear c8b0
                  try clear c9
                  try clear c9b0
                  try clear c10
                  try clear c10b0
                  try clear c12
                  try clear c14
                  try clear p15
                  try clear q15
                  try clear hx15
                  try clear c19
                  try clear c20
                  try clear c20b0
                  try clear c20b1
                  try clear c23
                  try clear c25
                  try clear c26
                  try clear c34
                  try clear c36
                  try clear c36b0
                  try clear c36b1
                  try clear c37
                  try clear c37b0
                  try clear c37b1
                  try clear q41
                  try clear c43
                  try clear c43b0
                  try clear c43b1
                  try clear c44
                  try clear c44b0
                  try clear c44b1
                  try clear c46
                  try clear c46b0
                  try clear c46b1
                  try clear c47
                  try clear c47b0
                  try clear c47b1
                  try clear c49
                  try clear q51
                  try clear q53
                  try clear hx152_0
                  try clear p1
                  try clear p15
                  try clear p152
                  try clear p2
                  try clear p6
                  try clear q1
                  try clear q15
                  try clear q152
                  try clear q41
                  try clear q51
                  try clear q53
                  obtain ⟨kq, x102_38, rfl, HA, HJ38, HO_8, HR176, HB⟩ := hcut
                  cases kq with
                  | zero => exact absurd HA.out (by simp [tendrillaw19_BlockBounds.j3])
                  | succ kj38 =>
                    have H := HA.out
                    clear HA
                    simp only [tendrillaw19_BlockBounds.j3] at H
                    by_cases c55 : x102_38 = true
                    · subst c55
                      have H1 : (some false) = some r := by rw [if_pos rfl] at H; exact H
                      clear H
                      have H := H1
                      clear H1
                      obtain rfl := Option.some.inj H
                      go_wp2
                      go_ret
                      exact ⟨by first | rfl | (simp [errW_none, errW_some] <;> rfl) | (simp [*, errW_none, errW_some] <;> rfl), by repeat (first | (with_reducible first | exact HB.out | apply below_alloc | apply pw_below_drewN | apply below_drew1) | exact HB.out)⟩
                    · replace c55 := Bool.eq_false_iff.mpr c55
                      subst c55
                      have H1 : ((some (([] : List Int) : List Int)).bind fun y186 => (if y186.length + x8_4.length < 17592186044416 then (tendrillaw19_BlockBounds.l1 kj38 x7_4 (y186 ++ x8_4)) else (none))) = some r := by rw [if_neg (show ¬ (false = true) by decide)] at H; exact H
                      clear H
                      have H := H1
                      clear H1
                      obtain ⟨y186, hy186⟩ : ∃ y_ : List Int, y_ = (([] : List Int)) := ⟨_, rfl⟩
                      replace H : (if y186.length + x8_4.length < 17592186044416 then (tendrillaw19_BlockBounds.l1 kj38 x7_4 (y186 ++ x8_4)) else (none)) = some r := by first | (rw [hy186]; with_reducible exact H) | (have H2_ := (Option.bind_some _ _).symm.trans H; rw [hy186]; with_reducible exact H2_) | (have H2_ := (Option.bind_some _ _).symm.trans H; with_reducible exact H2_) | with_reducible exact H | (rw [hy186]; exact H) | exact H
                      have Ny186 := Aside0.mk hy186
                      clear hy186
                      by_cases c56 : y186.length + x8_4.length < 17592186044416
                      · rw [if_pos c56] at H
                        have LMc56 := Aside0.mk c56
                        clear c56
                        obtain ⟨y189, hy189⟩ : ∃ y_ : List Int, y_ = (y186 ++ x8_4) := ⟨_, rfl⟩
                        replace H : (tendrillaw19_BlockBounds.l1 kj38 x7_4 y189) = some r := by first | (rw [hy189]; with_reducible exact H) | (have H2_ := (Option.bind_some _ _).symm.trans H; rw [hy189]; with_reducible exact H2_) | (have H2_ := (Option.bind_some _ _).symm.trans H; with_reducible exact H2_) | with_reducible exact H | (rw [hy189]; exact H) | exact H
                        have Ny189 := Aside0.mk hy189
                        clear hy189
                        have H' := Aside0.mk H
                        clear H
                        go_wp2_with (first | ((with_reducible refine gate_dst (N := 103) rfl ?_); (try (refine gate_guard (by rfl) ?_; dsimp only)); refine Kd.R_lit (Kd.int .i64) _ 3 ?hg (N := 103) ?hd (xs := ([] : List Int)) (inner := []) (ok := fun _ => True) (okp := fun _ => True) ?hr ?hp (fun _ hk => hk) trivial (Below.refl _ _) (Nat.le_refl _) (by simp) ?_; (case hd => rfl); (case hg => rfl); (case hr => first | (go_simp; done) | (go_simp; rfl)); (case hp => exact (Reps.none _ _)); intro v187 w57 ho58 hb hg_ hnew_; clear hg_ hnew_; (first | rw [← Ny186.out] at ho58 | (simp only [Int.reduceToNat] at ho58; rw [← Ny186.out] at ho58)); have n0_ := Aside0.mk (Kd.R_elder' (by (with_reducible repeat (first | apply Kd.R_alloc | apply Kd.R_drewN | apply Kd.R_drew)); exact HO_8.out) (Kd.R_base ho58) hb); have n1_ := Aside0.mk (Kd.R_lower (Kd.R_new' ho58 (Kd.R_lt (by (with_reducible repeat (first | apply Kd.R_alloc | apply Kd.R_drewN | apply Kd.R_drew)); exact HO_8.out))) (below_size (by repeat (first | (with_reducible first | exact HB.out | apply below_alloc | apply pw_below_drewN | apply below_drew1) | exact HB.out)))); have n2_ := Aside0.mk (Kd.C_below (by repeat (first | (with_reducible exact HR176.out) | (with_reducible refine Kd.C_alloc ?_ _) | (with_reducible refine Kd.C_drewN ?_ _) | (with_reducible refine Kd.C_drew ?_) | exact HR176.out)) hb); have n3_ := Aside0.mk (below_step (by repeat (first | (with_reducible first | exact HB.out | apply below_alloc | apply pw_below_drewN | apply below_drew1) | exact HB.out)) hb); clear HO_8; clear HR176; clear HB; have HO_8 := n0_; have HO188 := n1_; have HR176 := n2_; have HB := n3_; clear n0_ n1_ n2_ n3_; clear hb ho58) | ((with_reducible refine gate_builtin (b := .append) (xs := #[.tmp 103, .tmp 104]) rfl ?_); (try (refine gate_guard (by rfl) ?_; dsimp only)); at_builtin; refine Kd.R_append_rows (Kd.int .i64) (w0 := w) w.heap.size rfl (.tmp 103) (.tmp 104) 22 3 (.int .i64 0) 8 rfl Try.underlying22 info3 rfl (by decide) (by omega) v187 y186 x8_4 _ _ _ (fun k_ => some k_ ≠ (.slice Ao16 x8_4.length co16 : Value).ownBlock) (fun _ => False) rfl rfl ?aO ?aR (fun _ _ h => h) (fun _ h => h.elim) ?aF ?aB ?aS ?aL ?_; (case aR => repeat (first | exact (Kd.R_reads' HO_8.out).2.2 | (with_reducible refine Kd.C_alloc ?_ _) | (with_reducible refine Kd.C_drewN ?_ _) | (with_reducible refine Kd.C_drew ?_))); (case aB => exact (by repeat (first | (with_reducible first | exact HB.out | apply below_alloc | apply pw_below_drewN | apply below_drew1) | exact HB.out))); (case aF => exact (fun k_ hk => Kd.fresh' (Kd.R_lt (by (with_reducible repeat (first | apply Kd.R_alloc | apply Kd.R_drewN | apply Kd.R_drew)); exact HO_8.out)) k_ hk)); (case aO => exact (by (with_reducible repeat (first | apply Kd.R_alloc | apply Kd.R_drewN | apply Kd.R_drew)); exact Kd.R_mono HO188.out (fun _ hk => hk.2))); (case aS => exact (below_size (by repeat (first | (with_reducible first | exact HB.out | apply below_alloc | apply pw_below_drewN | apply below_drew1) | exact HB.out)))); (case aL => have := LMc56.out; omega); intro v190 w59 ho hb hg hat; rw [← Ny189.out] at ho; have n0_ := Aside0.mk (Kd.R_after (ok := (fun _ => True)) (by (with_reducible repeat (first | apply Kd.R_alloc | apply Kd.R_drewN | apply Kd.R_drew)); exact HO_8.out) hg hat); have n1_ := Aside0.mk (hb); have n2_ := Aside0.mk (ho); clear HO_8; clear HB; clear HO188; have HO_8 := n0_; have HB := n1_; have HO191 := n2_; clear n0_ n1_ n2_; clear ho hb hg hat))
                        go_loopg [7, 14] kj38 (fun kq v7 v14 w' => ∃ (x7_4 : Int) (x14_4 : List Int), v7 = .int .i64 x7_4 ∧ Aside0 (tendrillaw19_BlockBounds.l1 kq x7_4 x14_4 = some r) ∧ Aside0 (kq ≤ kj38) ∧ Aside0 (Kd.R (Kd.int .i64) 3 w' w.heap.size (fun _ => True) v14 x14_4) ∧ Aside0 (Below w.heap.size w w'))
                        case atStart => exact ⟨(x7_4), (y189), (by first | rfl | (simp; done) | (simp [*]; done)), H', ⟨Nat.le_refl _⟩, ⟨by (with_reducible repeat (first | apply Kd.R_alloc | apply Kd.R_drewN | apply Kd.R_drew)); exact Kd.R_mono HO191.out (fun _ hk => trivial)⟩, ⟨by repeat (first | (with_reducible first | exact HB.out | apply below_alloc | apply pw_below_drewN | apply below_drew1) | exact HB.out)⟩⟩
                        case round =>
                          clear H'
                          try clear c1
                          try clear p1
                          try clear q1
                          try clear hx1
                          try clear c2
                          try clear p2
                          try clear c3
                          try clear c4
                          try clear q4
                          try clear c5
                          try clear q5
                          try clear c6
                          try clear p6
                          try clear c7
                          try clear c8
                          try clear c8b0
                          try clear c9
                          try clear c9b0
                          try clear c10
                          try clear c10b0
                          try clear c12
                          try clear c14
                          try clear p15
                          try clear q15
                          try clear hx15
                          try clear c19
                          try clear c20
                          try clear c20b0
                          try clear c20b1
                          try clear c23
                          try clear c25
                          try clear c26
                          try clear c34
                          try clear c36
                          try clear c36b0
                          try clear c36b1
                          try clear c37
                          try clear c37b0
                          try clear c37b1
                          try clear q41
                          try clear c43
                          try clear c43b0
                          try clear c43b1
                          try clear c44
                          try clear c44b0
                          try clear c44b1
                          try clear c46
                          try clear c46b0
                          try clear c46b1
                          try clear c47
                          try clear c47b0
                          try clear c47b1
                          try clear c49
                          try clear q51
                          try clear q53
                          try clear c55
                          try clear c56
                          try clear hx152_0
                          try clear p1
                          try clear p15
                          try clear p152
                          try clear p2
                          try clear p6
                          try clear q1
                          try clear q15
                          try clear q152
                          try clear q4
                          try clear q41
                          try clear q5
                          try clear q51
                          try clear q53
                          obtain ⟨x7_4, x14_4, rfl, HA, HK4, HO_14, HB⟩ := hrel
                          cases gk with
                          | zero => exact absurd HA.out (by simp [tendrillaw19_BlockBounds.l1])
                          | succ k4 =>
                            have H := HA.out
                            clear HA
                            simp only [tendrillaw19_BlockBounds.l1] at H
                            by_cases c60 : (x14_4.length : Int) < 16
                            · rw [if_pos c60] at H
                              have c60b0 : decide ((x14_4.length : Int) < 16) = true := decide_eq_true c60
                              have c60b1 : decide (x14_4.length < 16) = true := decide_eq_true (by omega)
                              clear c60
                              by_cases c61 : x14_4.length < 17592186044416
                              · rw [if_pos c61] at H
                                have LMc61 := Aside0.mk c61
                                clear c61
                                obtain ⟨y192, hy192⟩ : ∃ y_ : List Int, y_ = (x14_4 ++ [wrap64 (x7_4 + 1)]) := ⟨_, rfl⟩
                                replace H : (tendrillaw19_BlockBounds.l1 k4 (wrap64 (x7_4 + 1)) y192) = some r := by first | (rw [hy192]; with_reducible exact H) | (have H2_ := (Option.bind_some _ _).symm.trans H; rw [hy192]; with_reducible exact H2_) | (have H2_ := (Option.bind_some _ _).symm.trans H; with_reducible exact H2_) | with_reducible exact H | (rw [hy192]; exact H) | exact H
                                have Ny192 := Aside0.mk hy192
                                clear hy192
                                have H' := Aside0.mk H
                                clear H
                                obtain ⟨Ao62, co62, eo62⟩ := Kd.R_slice HO_14.out
                                subst eo62
                                go_wp2_with (first | ((with_reducible refine gate_builtin (b := .append) (xs := #[.tmp 111, .tmp 113]) rfl ?_); (try (refine gate_guard (by rfl) ?_; dsimp only)); at_builtin; refine Kd.R_append (Kd.int .i64) (w0 := w) w.heap.size rfl (.tmp 111) (.tmp 113) 22 3 (.int .i64 0) 8 rfl Try.underlying22 info3 rfl (by decide) (by omega) (.slice Ao62 x14_4.length co62) x14_4 (wrap64 (x7_4 + 1)) [.int .i64 (wrap64 (x7_4 + 1))] (fun _ => True) (fun _ => False) rfl rfl ?aP (fun _ hk => hk.elim) ?aF ?aO ?aB ?aS ?aL ?_; (case aP => exact rfl); (case aB => exact (by repeat (first | (with_reducible first | exact HB.out | apply below_alloc | apply pw_below_drewN | apply below_drew1) | exact HB.out))); (case aF => exact (fun _ _ => trivial)); (case aO => exact (by (with_reducible repeat (first | apply Kd.R_alloc | apply Kd.R_drewN | apply Kd.R_drew)); exact HO_14.out)); (case aS => exact (below_size (by repeat (first | (with_reducible first | exact HB.out | apply below_alloc | apply pw_below_drewN | apply below_drew1) | exact HB.out)))); (case aL => have := LMc61.out; omega); intro v193 w63 ho hb hg hat; rw [← Ny192.out] at ho; have n0_ := Aside0.mk (hb); have n1_ := Aside0.mk (ho); clear HB; clear HO_14; have HB := n0_; have HO194 := n1_; clear n0_ n1_; clear ho hb hg hat))
                                go_roundg k4
                                case measure => have := HJ4.out; have := HJ14.out; have := HJ38.out; have := HK4.out; omega
                                case rel => exact ⟨(wrap64 (x7_4 + 1)), (y192), (by first | rfl | (simp; done) | (simp [*]; done)), H', ⟨by have := HJ4.out; have := HJ14.out; have := HJ38.out; have := HK4.out; omega⟩, ⟨by (with_reducible repeat (first | apply Kd.R_alloc | apply Kd.R_drewN | apply Kd.R_drew)); exact HO194.out⟩, ⟨by repeat (first | (with_reducible first | exact HB.out | apply below_alloc | apply pw_below_drewN | apply below_drew1) | exact HB.out)⟩⟩
                              · rw [if_neg c61] at H
                                exact absurd H (by simp)
                            · rw [if_neg c60] at H
                              have c60b0 : decide ((x14_4.length : Int) < 16) = false := decide_eq_false c60
                              have hl14 : Aside0 (0 < x14_4.length) := ⟨by omega⟩
                              have c60b1 : decide (x14_4.length < 16) = false := decide_eq_false (by omega)
                              clear c60
                              replace H := Option.bind_eq_some_iff.mp H
                              obtain ⟨t195, A640, H⟩ := H
                              replace H : (if t195 = true then (if x14_4.length < 17592186044416 then ((block_Right.f k4 (x14_4 ++ [wrap64 (x7_4 + 1)])).bind fun t199 => (if t199 = true then (some false) else ((block_Encode.f k4 (x14_4 ++ [wrap64 (x7_4 + 1)])).bind fun t203 => (if (t203.length : Int) = 0 then ((tendrillaw19_BlockRuns.f k4).bind fun t206 => (some t206)) else (some false))))) else (none)) else (some false)) = some r := H
                              have A64 := Aside0.mk A640
                              clear A640
                              by_cases c65 : t195 = true
                              · subst c65
                                have H1 : (if x14_4.length < 17592186044416 then ((block_Right.f k4 (x14_4 ++ [wrap64 (x7_4 + 1)])).bind fun t199 => (if t199 = true then (some false) else ((block_Encode.f k4 (x14_4 ++ [wrap64 (x7_4 + 1)])).bind fun t203 => (if (t203.length : Int) = 0 then ((tendrillaw19_BlockRuns.f k4).bind fun t206 => (some t206)) else (some false))))) else (none)) = some r := by rw [if_pos rfl] at H; exact H
                                clear H
                                have H := H1
                                clear H1
                                by_cases c66 : x14_4.length < 17592186044416
                                · rw [if_pos c66] at H
                                  have LMc66 := Aside0.mk c66
                                  clear c66
                                  obtain ⟨y196, hy196⟩ : ∃ y_ : List Int, y_ = (x14_4 ++ [wrap64 (x7_4 + 1)]) := ⟨_, rfl⟩
                                  replace H : ((block_Right.f k4 y196).bind fun t199 => (if t199 = true then (some false) else ((block_Encode.f k4 (x14_4 ++ [wrap64 (x7_4 + 1)])).bind fun t203 => (if (t203.length : Int) = 0 then ((tendrillaw19_BlockRuns.f k4).bind fun t206 => (some t206)) else (some false))))) = some r := by first | (rw [hy196]; with_reducible exact H) | (have H2_ := (Option.bind_some _ _).symm.trans H; rw [hy196]; with_reducible exact H2_) | (have H2_ := (Option.bind_some _ _).symm.trans H; with_reducible exact H2_) | with_reducible exact H | (rw [hy196]; exact H) | exact H
                                  have Ny196 := Aside0.mk hy196
                                  clear hy196
                                  replace H := Option.bind_eq_some_iff.mp H
                                  obtain ⟨t199, A670, H⟩ := H
                                  replace H : (if t199 = true then (some false) else ((block_Encode.f k4 (x14_4 ++ [wrap64 (x7_4 + 1)])).bind fun t203 => (if (t203.length : Int) = 0 then ((tendrillaw19_BlockRuns.f k4).bind fun t206 => (some t206)) else (some false)))) = some r := H
                                  have A67 := Aside0.mk A670
                                  clear A670
                                  by_cases c68 : t199 = true
                                  · subst c68
                                    have H1 : (some false) = some r := by rw [if_pos rfl] at H; exact H
                                    clear H
                                    have H := H1
                                    clear H1
                                    obtain rfl := Option.some.inj H
                                    obtain ⟨Ao69, co69, eo69⟩ := Kd.R_slice HO_14.out
                                    subst eo69
                                    go_wp2_with (first | ((with_reducible refine gate_callee (f := 14) rfl ?_); refine goesL_ (some 116) rfl rfl Try.func14 (by kernel_rfl) rfl #[.slice Ao69 x14_4.length co69] rfl (by (try simp only [List.map_toArray, List.map_cons, List.map_nil]); first | done | rfl | (simp only [List.length_drop, List.length_take]; rfl)) ?_; (with_reducible refine (block_Right.calls k4 _ _ x14_4 true _ ?side1 ?side2 A64.out).mono ?_); (case side1 => repeat (first | exact (Kd.R_reads' HO_14.out).2.2 | (with_reducible refine Kd.C_alloc ?_ _) | (with_reducible refine Kd.C_drewN ?_ _) | (with_reducible refine Kd.C_drew ?_))); (case side2 => exact (Kd.R_reads' HO_14.out).2.1); rintro e w' ⟨rfl, ⟨nd, rfl⟩⟩; refine ⟨_, rfl, ?_⟩) | ((with_reducible refine gate_builtin (b := .append) (xs := #[.tmp 118, .tmp 121]) rfl ?_); (try (refine gate_guard (by rfl) ?_; dsimp only)); at_builtin; refine Kd.R_append (Kd.int .i64) (w0 := w) w.heap.size rfl (.tmp 118) (.tmp 121) 22 3 (.int .i64 0) 8 rfl Try.underlying22 info3 rfl (by decide) (by omega) (.slice Ao69 x14_4.length co69) x14_4 (wrap64 (x7_4 + 1)) [.int .i64 (wrap64 (x7_4 + 1))] (fun _ => True) (fun _ => False) rfl rfl ?aP (fun _ hk => hk.elim) ?aF ?aO ?aB ?aS ?aL ?_; (case aP => exact rfl); (case aB => exact (by repeat (first | (with_reducible first | exact HB.out | apply below_alloc | apply pw_below_drewN | apply below_drew1) | exact HB.out))); (case aF => exact (fun _ _ => trivial)); (case aO => exact (by (with_reducible repeat (first | apply Kd.R_alloc | apply Kd.R_drewN | apply Kd.R_drew)); exact HO_14.out)); (case aS => exact (below_size (by repeat (first | (with_reducible first | exact HB.out | apply below_alloc | apply pw_below_drewN | apply below_drew1) | exact HB.out)))); (case aL => have := LMc66.out; omega); intro v197 w70 ho hb hg hat; rw [← Ny196.out] at ho; have n0_ := Aside0.mk (hb); have n1_ := Aside0.mk (ho); clear HB; clear HO_14; have HB := n0_; have HO198 := n1_; clear n0_ n1_; clear ho hb hg hat; obtain ⟨Ao71, co71, eo71⟩ := Kd.R_slice HO198.out; subst eo71) | (go_at_call 14; (with_reducible refine (block_Right.calls k4 _ _ y196 true _ ?side1 ?side2 A67.out).mono ?_); (case side1 => repeat (first | exact (Kd.R_reads' HO198.out).2.2 | (with_reducible refine Kd.C_alloc ?_ _) | (with_reducible refine Kd.C_drewN ?_ _) | (with_reducible refine Kd.C_drew ?_))); (case side2 => exact (Kd.R_reads' HO198.out).2.1); rintro e w' ⟨rfl, ⟨nd, rfl⟩⟩))
                                    go_ret
                                    exact ⟨by first | rfl | (simp [errW_none, errW_some] <;> rfl) | (simp [*, errW_none, errW_some] <;> rfl), by repeat (first | (with_reducible first | exact HB.out | apply below_alloc | apply pw_below_drewN | apply below_drew1) | exact HB.out)⟩
                                  · replace c68 := Bool.eq_false_iff.mpr c68
                                    subst c68
                                    have H1 : ((block_Encode.f k4 (x14_4 ++ [wrap64 (x7_4 + 1)])).bind fun t203 => (if (t203.length : Int) = 0 then ((tendrillaw19_BlockRuns.f k4).bind fun t206 => (some t206)) else (some false))) = some r := by rw [if_neg (show ¬ (false = true) by decide)] at H; exact H
                                    clear H
                                    have H := H1
                                    clear H1
                                    obtain ⟨y200, hy200⟩ : ∃ y_ : List Int, y_ = (x14_4 ++ [wrap64 (x7_4 + 1)]) := ⟨_, rfl⟩
                                    replace H : ((block_Encode.f k4 y200).bind fun t203 => (if (t203.length : Int) = 0 then ((tendrillaw19_BlockRuns.f k4).bind fun t206 => (some t206)) else (some false))) = some r := by first | (rw [hy200]; with_reducible exact H) | (have H2_ := (Option.bind_some _ _).symm.trans H; rw [hy200]; with_reducible exact H2_) | (have H2_ := (Option.bind_some _ _).symm.trans H; with_reducible exact H2_) | with_reducible exact H | (rw [hy200]; exact H) | exact H
                                    have Ny200 := Aside0.mk hy200
                                    clear hy200
                                    replace H := Option.bind_eq_some_iff.mp H
                                    obtain ⟨t203, A720, H⟩ := H
                                    replace H : (if (t203.length : Int) = 0 then ((tendrillaw19_BlockRuns.f k4).bind fun t206 => (some t206)) else (some false)) = some r := H
                                    have A72 := Aside0.mk A720
                                    clear A720
                                    by_cases c73 : (t203.length : Int) = 0
                                    · rw [if_pos c73] at H
                                      have c73b0 : ((t203.length : Int) == 0) = true := beq_iff_eq.mpr c73
                                      have c73b1 : ((t203.length : Int) != 0) = false := bne_eq_false_iff_eq.mpr c73
                                      clear c73
                                      replace H := Option.bind_eq_some_iff.mp H
                                      obtain ⟨t206, A740, H⟩ := H
                                      replace H : (some t206) = some r := H
                                      have A74 := Aside0.mk A740
                                      clear A740
                                      obtain rfl := Option.some.inj H
                                      obtain ⟨Ao75, co75, eo75⟩ := Kd.R_slice HO_14.out
                                      subst eo75
                                      have HL14 : Aside0 (0 < x14_4.length) := ⟨hl14.out⟩
                                      go_wp2_with (first | ((with_reducible refine gate_callee (f := 14) rfl ?_); refine goesL_ (some 116) rfl rfl Try.func14 (by kernel_rfl) rfl #[.slice Ao75 x14_4.length co75] rfl (by (try simp only [List.map_toArray, List.map_cons, List.map_nil]); first | done | rfl | (simp only [List.length_drop, List.length_take]; rfl)) ?_; (with_reducible refine (block_Right.calls k4 _ _ x14_4 true _ ?side1 ?side2 A64.out).mono ?_); (case side1 => repeat (first | exact (Kd.R_reads' HO_14.out).2.2 | (with_reducible refine Kd.C_alloc ?_ _) | (with_reducible refine Kd.C_drewN ?_ _) | (with_reducible refine Kd.C_drew ?_))); (case side2 => exact (Kd.R_reads' HO_14.out).2.1); rintro e w' ⟨rfl, ⟨nd, rfl⟩⟩; refine ⟨_, rfl, ?_⟩) | ((with_reducible refine gate_builtin (b := .append) (xs := #[.tmp 118, .tmp 121]) rfl ?_); (try (refine gate_guard (by rfl) ?_; dsimp only)); at_builtin; refine Keep.keep_int .i64 (w0 := w) w.heap.size rfl (.tmp 118) (.tmp 121) 22 3 (.int .i64 0) 8 rfl Try.underlying22 info3 rfl (by decide) (.slice Ao75 x14_4.length co75) x14_4 (wrap64 (x7_4 + 1)) rfl ?aX ?aO ?aB ?aS ?aL ?aN ?_; (case aX => exact rfl); (case aB => exact (by repeat (first | (with_reducible first | exact HB.out | apply below_alloc | apply pw_below_drewN | apply below_drew1) | exact HB.out))); (case aO => exact (by (with_reducible repeat (first | apply Kd.R_alloc | apply Kd.R_drewN | apply Kd.R_drew)); exact HO_14.out)); (case aS => exact (below_size (by repeat (first | (with_reducible first | exact HB.out | apply below_alloc | apply pw_below_drewN | apply below_drew1) | exact HB.out)))); (case aL => have := LMc66.out; omega); (case aN => have := HL14.out; omega); intro va931 va931w ho hkp hb; rw [← Ny196.out] at ho; have n0_ := Aside0.mk hb; have n1_ := Aside0.mk ho; have n2_ := Aside0.mk hkp; clear HB HO_14; have HB := n0_; have HO198 := n1_; have HO_14 := n2_; clear n0_ n1_ n2_; clear ho hkp hb; obtain ⟨va931A, va931c, va931e⟩ := Kd.R_slice HO198.out; subst va931e) | (go_at_call 14; (with_reducible refine (block_Right.calls k4 _ _ y196 false _ ?side1 ?side2 A67.out).mono ?_); (case side1 => repeat (first | exact (Kd.R_reads' HO198.out).2.2 | (with_reducible refine Kd.C_alloc ?_ _) | (with_reducible refine Kd.C_drewN ?_ _) | (with_reducible refine Kd.C_drew ?_))); (case side2 => exact (Kd.R_reads' HO198.out).2.1); rintro e w' ⟨rfl, ⟨nd, rfl⟩⟩) | ((with_reducible refine gate_builtin (b := .append) (xs := #[.tmp 127, .tmp 130]) rfl ?_); (try (refine gate_guard (by rfl) ?_; dsimp only)); at_builtin; refine Keep.keep_int .i64 (w0 := w) w.heap.size rfl (.tmp 127) (.tmp 130) 22 3 (.int .i64 0) 8 rfl Try.underlying22 info3 rfl (by decide) (.slice Ao75 x14_4.length co75) x14_4 (wrap64 (x7_4 + 1)) rfl ?aX ?aO ?aB ?aS ?aL ?aN ?_; (case aX => exact rfl); (case aB => exact (by repeat (first | (with_reducible first | exact HB.out | apply below_alloc | apply pw_below_drewN | apply below_drew1) | exact HB.out))); (case aO => exact (by (with_reducible repeat (first | apply Kd.R_alloc | apply Kd.R_drewN | apply Kd.R_drew)); exact HO_14.out)); (case aS => exact (below_size (by repeat (first | (with_reducible first | exact HB.out | apply below_alloc | apply pw_below_drewN | apply below_drew1) | exact HB.out)))); (case aL => have := LMc66.out; omega); (case aN => have := HL14.out; omega); intro vb931 vb931w ho hkp hb; rw [← Ny200.out] at ho; have n0_ := Aside0.mk hb; have n1_ := Aside0.mk ho; have n2_ := Aside0.mk hkp; clear HB HO_14; have HB := n0_; have HO202 := n1_; have HO_14 := n2_; clear n0_ n1_ n2_; clear ho hkp hb; obtain ⟨vb931A, vb931c, vb931e⟩ := Kd.R_slice HO202.out; subst vb931e) | (go_at_call 9; (with_reducible refine (block_Encode.calls k4 _ _ y200 t203 _ ?side1 ?side2 A72.out).mono ?_); (case side1 => repeat (first | exact (Kd.R_reads' HO202.out).2.2 | (with_reducible refine Kd.C_alloc ?_ _) | (with_reducible refine Kd.C_drewN ?_ _) | (with_reducible refine Kd.C_drew ?_))); (case side2 => exact (Kd.R_reads' HO202.out).2.1); rintro e wq ⟨v204, rfl, ho0, hb⟩; obtain ⟨vcA, vcc, vce⟩ := Kd.R_slice ho0; subst vce; have n3_ := Aside0.mk (below_step (by repeat (first | (with_reducible first | exact HB.out | apply below_alloc | apply pw_below_drewN | apply below_drew1) | exact HB.out)) hb); clear HB; have HB := n3_; clear n3_ ho0 hb) | (go_at_call 3; (with_reducible refine (tendrillaw19_BlockRuns.calls k4 t206 _ A74.out).mono ?_); rintro e wr2 ⟨rfl, hb⟩; have n3_ := Aside0.mk (below_step (by repeat (first | (with_reducible first | exact HB.out | apply below_alloc | apply pw_below_drewN | apply below_drew1) | exact HB.out)) hb); clear HB; have HB := n3_; clear n3_ hb))
                                      go_ret
                                      exact ⟨by first | rfl | (simp [errW_none, errW_some] <;> rfl) | (simp [*, errW_none, errW_some] <;> rfl), by repeat (first | (with_reducible first | exact HB.out | apply below_alloc | apply pw_below_drewN | apply below_drew1) | exact HB.out)⟩
                                    · rw [if_neg c73] at H
                                      have c73b0 : ((t203.length : Int) == 0) = false := beq_eq_false_iff_ne.mpr c73
                                      have c73b1 : ((t203.length : Int) != 0) = true := bne_iff_ne.mpr c73
                                      have c73b2 : ¬ (t203 = []) := fun h_ => c73 (by rw [h_]; rfl)
                                      obtain rfl := Option.some.inj H
                                      obtain ⟨Ao83, co83, eo83⟩ := Kd.R_slice HO_14.out
                                      subst eo83
                                      have HL14 : Aside0 (0 < x14_4.length) := ⟨hl14.out⟩
                                      go_wp2_with (first | ((with_reducible refine gate_callee (f := 14) rfl ?_); refine goesL_ (some 116) rfl rfl Try.func14 (by kernel_rfl) rfl #[.slice Ao83 x14_4.length co83] rfl (by (try simp only [List.map_toArray, List.map_cons, List.map_nil]); first | done | rfl | (simp only [List.length_drop, List.length_take]; rfl)) ?_; (with_reducible refine (block_Right.calls k4 _ _ x14_4 true _ ?side1 ?side2 A64.out).mono ?_); (case side1 => repeat (first | exact (Kd.R_reads' HO_14.out).2.2 | (with_reducible refine Kd.C_alloc ?_ _) | (with_reducible refine Kd.C_drewN ?_ _) | (with_reducible refine Kd.C_drew ?_))); (case side2 => exact (Kd.R_reads' HO_14.out).2.1); rintro e w' ⟨rfl, ⟨nd, rfl⟩⟩; refine ⟨_, rfl, ?_⟩) | ((with_reducible refine gate_builtin (b := .append) (xs := #[.tmp 118, .tmp 121]) rfl ?_); (try (refine gate_guard (by rfl) ?_; dsimp only)); at_builtin; refine Keep.keep_int .i64 (w0 := w) w.heap.size rfl (.tmp 118) (.tmp 121) 22 3 (.int .i64 0) 8 rfl Try.underlying22 info3 rfl (by decide) (.slice Ao83 x14_4.length co83) x14_4 (wrap64 (x7_4 + 1)) rfl ?aX ?aO ?aB ?aS ?aL ?aN ?_; (case aX => exact rfl); (case aB => exact (by repeat (first | (with_reducible first | exact HB.out | apply below_alloc | apply pw_below_drewN | apply below_drew1) | exact HB.out))); (case aO => exact (by (with_reducible repeat (first | apply Kd.R_alloc | apply Kd.R_drewN | apply Kd.R_drew)); exact HO_14.out)); (case aS => exact (below_size (by repeat (first | (with_reducible first | exact HB.out | apply below_alloc | apply pw_below_drewN | apply below_drew1) | exact HB.out)))); (case aL => have := LMc66.out; omega); (case aN => have := HL14.out; omega); intro va941 va941w ho hkp hb; rw [← Ny196.out] at ho; have n0_ := Aside0.mk hb; have n1_ := Aside0.mk ho; have n2_ := Aside0.mk hkp; clear HB HO_14; have HB := n0_; have HO198 := n1_; have HO_14 := n2_; clear n0_ n1_ n2_; clear ho hkp hb; obtain ⟨va941A, va941c, va941e⟩ := Kd.R_slice HO198.out; subst va941e) | (go_at_call 14; (with_reducible refine (block_Right.calls k4 _ _ y196 false _ ?side1 ?side2 A67.out).mono ?_); (case side1 => repeat (first | exact (Kd.R_reads' HO198.out).2.2 | (with_reducible refine Kd.C_alloc ?_ _) | (with_reducible refine Kd.C_drewN ?_ _) | (with_reducible refine Kd.C_drew ?_))); (case side2 => exact (Kd.R_reads' HO198.out).2.1); rintro e w' ⟨rfl, ⟨nd, rfl⟩⟩) | ((with_reducible refine gate_builtin (b := .append) (xs := #[.tmp 127, .tmp 130]) rfl ?_); (try (refine gate_guard (by rfl) ?_; dsimp only)); at_builtin; refine Keep.keep_int .i64 (w0 := w) w.heap.size rfl (.tmp 127) (.tmp 130) 22 3 (.int .i64 0) 8 rfl Try.underlying22 info3 rfl (by decide) (.slice Ao83 x14_4.length co83) x14_4 (wrap64 (x7_4 + 1)) rfl ?aX ?aO ?aB ?aS ?aL ?aN ?_; (case aX => exact rfl); (case aB => exact (by repeat (first | (with_reducible first | exact HB.out | apply below_alloc | apply pw_below_drewN | apply below_drew1) | exact HB.out))); (case aO => exact (by (with_reducible repeat (first | apply Kd.R_alloc | apply Kd.R_drewN | apply Kd.R_drew)); exact HO_14.out)); (case aS => exact (below_size (by repeat (first | (with_reducible first | exact HB.out | apply below_alloc | apply pw_below_drewN | apply below_drew1) | exact HB.out)))); (case aL => have := LMc66.out; omega); (case aN => have := HL14.out; omega); intro vb941 vb941w ho hkp hb; rw [← Ny200.out] at ho; have n0_ := Aside0.mk hb; have n1_ := Aside0.mk ho; have n2_ := Aside0.mk hkp; clear HB HO_14; have HB := n0_; have HO202 := n1_; have HO_14 := n2_; clear n0_ n1_ n2_; clear ho hkp hb; obtain ⟨vb941A, vb941c, vb941e⟩ := Kd.R_slice HO202.out; subst vb941e) | (go_at_call 9; (with_reducible refine (block_Encode.calls k4 _ _ y200 t203 _ ?side1 ?side2 A72.out).mono ?_); (case side1 => repeat (first | exact (Kd.R_reads' HO202.out).2.2 | (with_reducible refine Kd.C_alloc ?_ _) | (with_reducible refine Kd.C_drewN ?_ _) | (with_reducible refine Kd.C_drew ?_))); (case side2 => exact (Kd.R_reads' HO202.out).2.1); rintro e wq ⟨v204, rfl, ho0, hb⟩; obtain ⟨vcA, vcc, vce⟩ := Kd.R_slice ho0; subst vce; have n3_ := Aside0.mk (below_step (by repeat (first | (with_reducible first | exact HB.out | apply below_alloc | apply pw_below_drewN | apply below_drew1) | exact HB.out)) hb); clear HB; have HB := n3_; clear n3_ ho0 hb))
                                      go_ret
                                      exact ⟨by first | rfl | (simp [errW_none, errW_some] <;> rfl) | (simp [*, errW_none, errW_some] <;> rfl), by repeat (first | (with_reducible first | exact HB.out | apply below_alloc | apply pw_below_drewN | apply below_drew1) | exact HB.out)⟩
                                · rw [if_neg c66] at H
                                  exact absurd H (by simp)
                              · replace c65 := Bool.eq_false_iff.mpr c65
                                subst c65
                                have H1 : (some false) = some r := by rw [if_neg (show ¬ (false = true) by decide)] at H; exact H
                                clear H
                                have H := H1
                                clear H1
                                obtain rfl := Option.some.inj H
                                obtain ⟨Ao90, co90, eo90⟩ := Kd.R_slice HO_14.out
                                subst eo90
                                go_wp2_with (first | ((with_reducible refine gate_callee (f := 14) rfl ?_); refine goesL_ (some 116) rfl rfl Try.func14 (by kernel_rfl) rfl #[.slice Ao90 x14_4.length co90] rfl (by (try simp only [List.map_toArray, List.map_cons, List.map_nil]); first | done | rfl | (simp only [List.length_drop, List.length_take]; rfl)) ?_; (with_reducible refine (block_Right.calls k4 _ _ x14_4 false _ ?side1 ?side2 A64.out).mono ?_); (case side1 => repeat (first | exact (Kd.R_reads' HO_14.out).2.2 | (with_reducible refine Kd.C_alloc ?_ _) | (with_reducible refine Kd.C_drewN ?_ _) | (with_reducible refine Kd.C_drew ?_))); (case side2 => exact (Kd.R_reads' HO_14.out).2.1); rintro e w' ⟨rfl, ⟨nd, rfl⟩⟩; refine ⟨_, rfl, ?_⟩))
                                go_ret
                                exact ⟨by first | rfl | (simp [errW_none, errW_some] <;> rfl) | (simp [*, errW_none, errW_some] <;> rfl), by repeat (first | (with_reducible first | exact HB.out | apply below_alloc | apply pw_below_drewN | apply below_drew1) | exact HB.out)⟩
                      · rw [if_neg c56] at H
                        exact absurd H (by simp)
              · rw [if_neg c37] at H
                exact absurd H (by simp)
            · rw [if_neg c36] at H
              exact absurd H (by simp)

/-- THE ONE PURE STATEMENT of tendrillaw19_BlockBounds: yours. -/
def tendrillaw19_BlockBounds.Pure : Prop := ∀ (a0 : Int) (l1 : List Int) (a2 : Int), (Lit.int .i64 a0).wf = true → l1.length ≤ maxLen → l1.length * 8 ≤ 140737488351232 → (∀ x ∈ l1, (Lit.int .i64 x).wf = true) → (Lit.int .i64 a2).wf = true → ∃ k, tendrillaw19_BlockBounds.f k a0 l1 a2 = some true
theorem tendrillaw19_BlockBounds.walk (P : tendrillaw19_BlockBounds.Pure) (a0 : Int) (a1 : Option Addr) (len1 cap1 : Nat) (z1 : List Int) (a2 : Int) (w : World) (w0 : (Lit.int .i64 a0).wf = true) (w1 : (a1 = none ∧ len1 = 0 ∧ cap1 = 0 ∧ z1 = []) ∨ ∃ x, a1 = some x ∧ len1 ≤ cap1 ∧ cap1 ≤ maxLen ∧ z1.length = cap1 ∧ (∀ i, i < z1.length → w.cell? (x.add i) = some (.int .i64 (z1.getD i 0))) ∧ ∀ n ∈ z1, (Lit.int .i64 n).wf = true) (y1 : len1 * 8 ≤ 140737488351232) (w2 : (Lit.int .i64 a2).wf = true) :
    Calls Try.prog 6 #[.int .i64 a0, .slice a1 len1 cap1, .int .i64 a2] w fun e w' => e = .returned (.bool true) ∧ Below w.heap.size w w' := by
  obtain ⟨l1, rfl, hr1, hm1, hw1, hc1⟩ := ReadsInt.ofRowC w1
  obtain ⟨k, h⟩ := P a0 l1 a2 w0 hm1 y1 hw1 w2
  refine (tendrillaw19_BlockBounds.calls k a0 _ _ l1 a2 true w (Kd.C_of_reads (d := (0 : Int)) (h1 := fun _ => rfl) hr1) hc1 h).mono ?_
  rintro e w' ⟨rfl, hd⟩
  exact ⟨rfl, hd⟩

end Go.Proofs.Ytjfkofomhpokcaa.PBlockBounds
