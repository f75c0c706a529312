import Derived.Test.YtckpgbkbbdifmaaMgT2
import Derived.WalkKit
import Derived.ProofKit
import Derived.Below
import Derived.WalkLawsBesides
import Derived.Deep.QuietTactic
import Derived.BigQuiet
import Derived.StillTailTactics
import Derived.Deep.AppendLies
import Derived.Deep.RegionHeld3
import Derived.KernelRfl
import Derived.BigRegion
import Derived.WalkSpells
import Derived.Deep.Slices
import Derived.Deep.Fields
import Derived.ChangeSame
import Derived.Deep.RegionLaw
import Derived.Deep.DrawnRows
import Derived.Deep.Upon
import Derived.Laws.CopyOwn
namespace Go.Proofs.Ytckpgbkbbdifmaa.Ep
open Go Go.RowKit Go.Proofs.YtckpgbkbbdifmaaW.PrintWords Go.Proofs.YtckpgbkbbdifmaaW.PrintLast Go.Proofs.YtckpgbkbbdifmaaW.PrintMore Go.Proofs.Ytckpgbkbbdifmaa.PMergeTells Go.Proofs.Ytckpgbkbbdifmaa.Keep
set_option linter.unusedVariables false
set_option linter.unusedSimpArgs false
attribute [local go_sem] max2_int min2_int max_two min_two
section
attribute [local go_sem ↓ high] app_hide
set_option maxHeartbeats 16000000 in
set_option maxRecDepth 100000 in
theorem tells_in (w : World) (A0 : Option Addr) (c0 : Nat) (l0 : List (List Int)) (a1 : Int) (n : Nat) (hn : l0.length = n) (hr0 : MC w A0 n l0) (hc0 : n ≤ c0) (hn8 : n ≤ 8) (hwf : (Lit.int .i64 a1).wf = true) :
    Calls Try.prog 4 #[.slice A0 n c0, .int .i64 a1] w fun e w' => e = .returned (.bool true) ∧ Below w.heap.size w w' := by
  have HR0 := Aside0.mk hr0
  have HN := Aside0.mk hn
  have HC0 := Aside0.mk hc0
  obtain ⟨i3, hi3, hz3, hs3, hb3_⟩ := info_parts info3_
  clear hz3 hs3 hb3_
  have d1 : decide ((8 : Int) < (n : Int)) = false := decide_eq_false (by omega)
  have d1n : decide (8 < n) = false := decide_eq_false (by omega)
  clear hr0 hn hc0 
  go_enter Try.func4, Try.ntmps4
  go_wp2
  clear d1 d1n 
  go_loopg [5, 6, 7, 31] (n + 1) (fun kq v5 v6 v7 v31 w' => ∃ (i : Nat) (LO LF : List Qd) (ALL : List Int), v31 = .int .i64 (i : Int) ∧ Aside0 (i + kq = n + 1) ∧ Aside0 (T2 w w' i v5 v6 v7 LO LF ALL l0))
  case atStart => exact ⟨0, [], [], [], rfl, ⟨by omega⟩, ⟨⟨T1.start w, by simp, by simp, by simp, trivial, Nat.zero_le _⟩⟩⟩
  case round =>
    obtain ⟨i, LO, LF, ALL, rfl, HK, HT⟩ := hrel
    obtain ⟨hlo, hlf, hal⟩ := HT.out.lens
    obtain ⟨Ao, co, hvo, hco⟩ := q_slice HT.out.t.own
    obtain ⟨Af, cf, hvf, hcf⟩ := q_slice HT.out.t.full
    obtain ⟨Aa, ca, hva, hca⟩ := q_slice HT.out.t.all
    rw [hlo] at hvo hco
    rw [hlf] at hvf hcf
    obtain ⟨na, hna⟩ : ∃ k, ALL.length = k := ⟨_, rfl⟩
    have HNA := Aside0.mk hna
    rw [hna] at hva hca hal
    have hle := HT.out.le
    rw [HN.out] at hle
    clear hlo hlf hna
    by_cases hin : i < n
    · subst hvo hvf hva
      have p1 : decide (i < n) = true := decide_eq_true hin
      obtain ⟨ad, A1, c1, l, hA, hl, hcell, hlc, hlC⟩ := at_L1_ HR0.out i hin HN.out
      subst hA
      replace hcell := (HT.out.t.below.cell (World.block_lt_of_cell? w _ hcell)).trans hcell
      have hq0 : (0 : Int) ≤ (i : Int) := by omega
      have hq1 : (i : Int) < (n : Int) := by omega
      obtain ⟨x, hx⟩ : ∃ x, cut40 l = x := ⟨_, rfl⟩
      obtain ⟨m, hm⟩ : ∃ m, x.length = m := ⟨_, rfl⟩
      have hml : m = min 40 l.length := by rw [← hm, ← hx]; unfold cut40; rw [List.length_take]
      have HL := Aside0.mk hl
      have HX := Aside0.mk hx
      have HXM := Aside0.mk hm
      have HXC : Aside0 (LC w A1 x) := ⟨by rw [← hx]; exact cut40_C hlC⟩
      have hmc : m ≤ c1 := by omega
      have hm40 : m ≤ 40 := by omega
      clear hlC hl hx hm
      by_cases h40 : l.length ≤ 40
      · have hll : l.length = m := by omega
        rw [hll] at hcell
        have d2 : decide (40 < m) = false := decide_eq_false (by omega)
        have d2i : decide ((40 : Int) < (m : Int)) = false := decide_eq_false (by omega)
        clear hml h40 hll hlc
        obtain ⟨v5b, w2, hr1, hq1, hg1, ha1⟩ := own_append1 wr w.heap.size (.slice Ao i co) i _ (A1, c1, x) HT.out.own1 HT.out.t.below.size (by omega)
        rw [app_hide] at hr1
        rw [hv_eq HXM.out] at hr1
        have HB2 := Aside0.mk (HT.out.b2 hg1)
        have HQ1 := Aside0.mk (And.intro hq1 (And.intro hg1 ha1))
        clear hq1 hg1 ha1
        obtain ⟨r13, h13⟩ : ∃ r, x ++ List.replicate 80 (-5) = r := ⟨_, rfl⟩
        obtain ⟨m13, hm13⟩ : ∃ k, r13.length = k := ⟨_, rfl⟩
        obtain ⟨r14, h14⟩ : ∃ r, rise x = r := ⟨_, rfl⟩
        obtain ⟨m14, hm14⟩ : ∃ k, r14.length = k := ⟨_, rfl⟩
        have hm149 : m14 ≤ 40 := by rw [← hm14, ← h14]; have := rise_length x; have := HXM.out; omega
        have H13 := Aside0.mk h13
        have HM13 := Aside0.mk hm13
        have H14 := Aside0.mk h14
        have HM14 := Aside0.mk hm14
        clear h13 hm13 h14 hm14
        go_wp2_with (first
          | (go_at_call 13; (with_reducible refine (roomy_m _ A1 c1 x m r13 m13 HXM.out (HXC.out.below HB2.out) hmc (by omega) H13.out HM13.out).mono ?_); rintro e w3 ⟨A3, c3, rfl, hq3, hl3, hb3⟩; have HQ3 := Aside0.mk (And.intro hq3 hb3); clear hq3 hb3; obtain ⟨v6b, w4, hr2, hq4, hg4, ha4⟩ := own_append1 w3 w.heap.size (.slice Af i cf) i _ (A3, c3, r13) (HT.out.full3 HQ1.out.2.1 HQ3.out.2) (Nat.le_trans HB2.out.size HQ3.out.2.size) (by omega); rw [app_hide] at hr2; rw [hv_eq HM13.out] at hr2; have HB4 := Aside0.mk (HT.out.b4 HQ1.out.2.1 HQ3.out.2 hg4); have HQ4 := Aside0.mk (And.intro hq4 (And.intro hg4 ha4)); clear hq4 hg4 ha4)
          | (go_at_call 14; (with_reducible refine (rising_m _ A1 c1 x m r14 m14 HXM.out (HXC.out.below HB4.out) hmc (by omega) H14.out HM14.out).mono ?_); rintro e w5 ⟨A5, c5, rfl, hq5, hl5, hb5⟩; have HB5 := Aside0.mk hb5; clear hb5; obtain ⟨v7b, w6, hr3, hq6, hg6, ha6⟩ := int_append w5 w.heap.size w4.heap.size (.slice Aa na ca) na _ A5 m14 c5 r14 (by have h9 := HT.out.all5 HQ1.out.2.1 HQ3.out.2 HQ4.out.2.1 HB5.out; rw [HNA.out] at h9; exact h9) hq5 (Nat.le_trans HB4.out.size HB5.out.size) (by omega) (by omega); rw [app_hide] at hr3; have HQ6 := Aside0.mk (And.intro hq6 (And.intro hg6 ha6)); clear hq6 hg6 ha6))
        go_roundg (gk - 1)
        case measure => have := HK.out; omega
        case rel => exact ⟨i + 1, _, _, _, by go_num, ⟨by have := HK.out; omega⟩, ⟨T2.step HT.out HL.out HX.out HXM.out HXC.out hmc H13.out HM13.out H14.out HM14.out HQ1.out.1 HQ1.out.2.1 HQ1.out.2.2 HQ3.out.1 HQ3.out.2 HQ4.out.1 HQ4.out.2.1 HQ4.out.2.2 HB5.out (by rw [HNA.out]; exact HQ6.out.1) HQ6.out.2.1 HQ6.out.2.2⟩⟩

      · obtain ⟨ll, hll⟩ : ∃ ll, l.length = ll := ⟨_, rfl⟩
        rw [hll] at hcell hml h40 hlc
        have d2 : decide (40 < ll) = true := decide_eq_true (by omega)
        have d2i : decide ((40 : Int) < (ll : Int)) = true := decide_eq_true (by omega)
        have hct := cut_to (P := Try.prog) 22 3 .i64 Try.underlying22 hi3 A1 ll c1 40 (by omega) (by omega) hlc
        rw [show (40 : Int).toNat = m from by omega] at hct
        clear hml h40 hll hlc
        obtain ⟨v5b, w2, hr1, hq1, hg1, ha1⟩ := own_append1 wr w.heap.size (.slice Ao i co) i _ (A1, c1, x) HT.out.own1 HT.out.t.below.size (by omega)
        rw [app_hide] at hr1
        rw [hv_eq HXM.out] at hr1
        have HB2 := Aside0.mk (HT.out.b2 hg1)
        have HQ1 := Aside0.mk (And.intro hq1 (And.intro hg1 ha1))
        clear hq1 hg1 ha1
        obtain ⟨r13, h13⟩ : ∃ r, x ++ List.replicate 80 (-5) = r := ⟨_, rfl⟩
        obtain ⟨m13, hm13⟩ : ∃ k, r13.length = k := ⟨_, rfl⟩
        obtain ⟨r14, h14⟩ : ∃ r, rise x = r := ⟨_, rfl⟩
        obtain ⟨m14, hm14⟩ : ∃ k, r14.length = k := ⟨_, rfl⟩
        have hm149 : m14 ≤ 40 := by rw [← hm14, ← h14]; have := rise_length x; have := HXM.out; omega
        have H13 := Aside0.mk h13
        have HM13 := Aside0.mk hm13
        have H14 := Aside0.mk h14
        have HM14 := Aside0.mk hm14
        clear h13 hm13 h14 hm14
        go_wp2_with (first
          | (go_at_call 13; (with_reducible refine (roomy_m _ A1 c1 x m r13 m13 HXM.out (HXC.out.below HB2.out) hmc (by omega) H13.out HM13.out).mono ?_); rintro e w3 ⟨A3, c3, rfl, hq3, hl3, hb3⟩; have HQ3 := Aside0.mk (And.intro hq3 hb3); clear hq3 hb3; obtain ⟨v6b, w4, hr2, hq4, hg4, ha4⟩ := own_append1 w3 w.heap.size (.slice Af i cf) i _ (A3, c3, r13) (HT.out.full3 HQ1.out.2.1 HQ3.out.2) (Nat.le_trans HB2.out.size HQ3.out.2.size) (by omega); rw [app_hide] at hr2; rw [hv_eq HM13.out] at hr2; have HB4 := Aside0.mk (HT.out.b4 HQ1.out.2.1 HQ3.out.2 hg4); have HQ4 := Aside0.mk (And.intro hq4 (And.intro hg4 ha4)); clear hq4 hg4 ha4)
          | (go_at_call 14; (with_reducible refine (rising_m _ A1 c1 x m r14 m14 HXM.out (HXC.out.below HB4.out) hmc (by omega) H14.out HM14.out).mono ?_); rintro e w5 ⟨A5, c5, rfl, hq5, hl5, hb5⟩; have HB5 := Aside0.mk hb5; clear hb5; obtain ⟨v7b, w6, hr3, hq6, hg6, ha6⟩ := int_append w5 w.heap.size w4.heap.size (.slice Aa na ca) na _ A5 m14 c5 r14 (by have h9 := HT.out.all5 HQ1.out.2.1 HQ3.out.2 HQ4.out.2.1 HB5.out; rw [HNA.out] at h9; exact h9) hq5 (Nat.le_trans HB4.out.size HB5.out.size) (by omega) (by omega); rw [app_hide] at hr3; have HQ6 := Aside0.mk (And.intro hq6 (And.intro hg6 ha6)); clear hq6 hg6 ha6))
        go_roundg (gk - 1)
        case measure => have := HK.out; omega
        case rel => exact ⟨i + 1, _, _, _, by go_num, ⟨by have := HK.out; omega⟩, ⟨T2.step HT.out HL.out HX.out HXM.out HXC.out hmc H13.out HM13.out H14.out HM14.out HQ1.out.1 HQ1.out.2.1 HQ1.out.2.2 HQ3.out.1 HQ3.out.2 HQ4.out.1 HQ4.out.2.1 HQ4.out.2.2 HB5.out (by rw [HNA.out]; exact HQ6.out.1) HQ6.out.2.1 HQ6.out.2.2⟩⟩

    · have p1 : decide (i < n) = false := decide_eq_false hin
      obtain rfl : i = n := by omega
      obtain ⟨X, hX⟩ : ∃ X, l0.map cut40 = X := ⟨_, rfl⟩
      have HS : Aside0 (T3 w wr i Ao Af Aa co cf ca na LO LF ALL X) := ⟨by rw [← hX]; exact HT.out.fin hvo hvf hva HNA.out HN.out⟩
      subst hvo hvf hva
      clear hX HT HK hin hle
      obtain ⟨n, rfl⟩ : ∃ n, n = i := ⟨_, rfl⟩
      obtain ⟨w1, rfl⟩ : ∃ w1 : World, w1 = wr := ⟨_, rfl⟩
      go_wp2
      clear p1
      go_loopg [10, 59] (n + 1) (fun kq v10 v59 w' => ∃ (j : Nat) (LG : List Qd), v59 = .int .i64 (j : Int) ∧ Aside0 (j + kq = n + 1) ∧ Aside0 (j ≤ n) ∧ Aside0 (GQ w1 w' v10 j LG X))
      case atStart => exact ⟨0, [], rfl, ⟨by omega⟩, ⟨Nat.zero_le _⟩, ⟨GQ.start w1 X⟩⟩
      case round =>
        obtain ⟨j, LG, rfl, HK, HJ, HG⟩ := hrel
        obtain ⟨Ag, cg, hvg, hgc⟩ := q_slice HG.out.row
        subst hvg
        by_cases hjn : j < n
        · have p1 : decide (j < n) = true := decide_eq_true hjn
          obtain ⟨ao, af, A1, A2, c1, c2, x, eo, ef, hxj, hx40, hc1, hc2, hC1, hl1, hC2, hl2⟩ := HS.out.at j hjn
          subst eo ef
          obtain ⟨m, hm⟩ : ∃ m, x.length = m := ⟨_, rfl⟩
          have HXM := Aside0.mk hm
          rw [hm] at hx40 hc1 hc2 hl1 hl2
          have hd1 := (HG.out.below.cell (World.block_lt_of_cell? w1 _ hc1)).trans hc1
          have hd2 := (HG.out.below.cell (World.block_lt_of_cell? w1 _ hc2)).trans hc2
          have HCC : Aside0 (wr.drew.cell? (ao.add j) = some (.slice A1 m c1) ∧ wr.drew.cell? (af.add j) = some (.slice A2 (m + 80) c2)) := ⟨hd1, hd2⟩
          have HCA : Aside0 ((wr.drew.alloc (.cells #[.slice A2 m c2] 22)).cell? (ao.add j) = some (.slice A1 m c1) ∧ (wr.drew.alloc (.cells #[.slice A2 m c2] 22)).cell? (af.add j) = some (.slice A2 (m + 80) c2)) := ⟨(World.cell?_of_block (heap_alloc_old wr.drew _ (World.block_lt_of_cell? wr.drew _ hd1))).trans hd1, (World.cell?_of_block (heap_alloc_old wr.drew _ (World.block_lt_of_cell? wr.drew _ hd2))).trans hd2⟩
          have HGD : Aside0 (GQ w1 wr.drew (.slice Ag j cg) j LG X) := ⟨⟨below_drew1 HG.out.below, q_move HG.out.row fun _ _ => rfl, HG.out.ac, HG.out.lg⟩⟩
          have HXJ := Aside0.mk hxj
          have HCX : Aside0 (LC w1 A2 x ∧ x.length ≤ c2) := ⟨rep80_C hC2, by rw [HXM.out]; omega⟩
          have hj0 : (0 : Int) ≤ (j : Int) := by omega
          have hji : (j : Int) < (n : Int) := by omega
          have hmc2 : m ≤ c2 := by omega
          have hm8 : m ≤ m + 80 := by omega
          clear hxj hc1 hc2 hC1 hC2 hd1 hd2 hm
          go_wp2
          refine L_region (d1 := 12) (C1 := (fun w' => w'.cell? (ao.add j) = some (.slice A1 m c1) ∧ w'.cell? (af.add j) = some (.slice A2 (m + 80) c2))) (d2 := 12) (C2 := (fun _ => True)) (by kernel_rfl) (SL2.mk HCC.out trivial) (fun hS0 => ?_)
          generalize hWd : World.drew wr = Wd at *
          have HWd := Aside0.mk hWd
          clear hWd
          refine L_pure 0 (v := ?vrg_1) (get0) (by kernel_rfl) (by kernel_rfl) (by kernel_rfl) (fun _ _ _ h => h) (by decide) (by decide) (by rfl) ?hyrg_1 hS0 (fun hS1 => ?rerg_1)
          case hyrg_1 => (intro w9; go_simp; try with_reducible rfl)
          clear hS0
          have hS0 := hS1
          clear hS1
          try simp only [Act.put, List.setIfInBounds_toArray, List.set_cons_zero, List.set_cons_succ]
          refine L_pure 1 (v := ?vrg_2) (getS (get0)) (by kernel_rfl) (by kernel_rfl) (by kernel_rfl) (fun _ _ _ h => h) (by decide) (by decide) (by rfl) ?hyrg_2 hS0 (fun hS1 => ?rerg_2)
          case hyrg_2 => (intro w9; go_simp; try with_reducible rfl)
          clear hS0
          have hS0 := hS1
          clear hS1
          try simp only [Act.put, List.setIfInBounds_toArray, List.set_cons_zero, List.set_cons_succ]
          refine L_pure 2 (v := ?vrg_3) (getS (getS (get0))) (by kernel_rfl) (by kernel_rfl) (by kernel_rfl) (fun _ _ _ h => h) (by decide) (by decide) (by rfl) ?hyrg_3 hS0 (fun hS1 => ?rerg_3)
          case hyrg_3 => (intro w9; go_simp; try with_reducible rfl)
          clear hS0
          have hS0 := hS1
          clear hS1
          try simp only [Act.put, List.setIfInBounds_toArray, List.set_cons_zero, List.set_cons_succ]
          refine L_pure 3 (v := ?vrg_4) (getS (getS (getS (get0)))) (by kernel_rfl) (by kernel_rfl) (by kernel_rfl) (fun _ _ _ h => h) (by decide) (by decide) (by rfl) ?hyrg_4 hS0 (fun hS1 => ?rerg_4)
          case hyrg_4 => (intro w9; go_simp; try with_reducible rfl)
          clear hS0
          have hS0 := hS1
          clear hS1
          try simp only [Act.put, List.setIfInBounds_toArray, List.set_cons_zero, List.set_cons_succ]
          refine L_pure 5 (v := ?vrg_5) (getS (getS (getS (getS (getS (get0)))))) (by kernel_rfl) (by kernel_rfl) (by kernel_rfl) (fun _ _ _ h => h) (by decide) (by decide) (by rfl) ?hyrg_5 hS0 (fun hS1 => ?rerg_5)
          case hyrg_5 => (intro w9; go_simp; try with_reducible rfl)
          clear hS0
          have hS0 := hS1
          clear hS1
          try simp only [Act.put, List.setIfInBounds_toArray, List.set_cons_zero, List.set_cons_succ]
          refine L_pure 6 (v := ?vrg_6) (getS (getS (getS (getS (getS (getS (get0))))))) (by kernel_rfl) (by kernel_rfl) (by kernel_rfl) (fun _ _ _ h => h) (by decide) (by decide) (by rfl) ?hyrg_6 hS0 (fun hS1 => ?rerg_6)
          case hyrg_6 => (intro w9; go_simp; try with_reducible rfl)
          clear hS0
          have hS0 := hS1
          clear hS1
          try simp only [Act.put, List.setIfInBounds_toArray, List.set_cons_zero, List.set_cons_succ]
          refine L_pure 7 (v := ?vrg_7) (getS (getS (getS (getS (getS (getS (getS (get0)))))))) (by kernel_rfl) (by kernel_rfl) (by kernel_rfl) (fun _ _ _ h => h) (by decide) (by decide) (by rfl) ?hyrg_7 hS0 (fun hS1 => ?rerg_7)
          case hyrg_7 => (intro w9; go_simp; try with_reducible rfl)
          clear hS0
          have hS0 := hS1
          clear hS1
          try simp only [Act.put, List.setIfInBounds_toArray, List.set_cons_zero, List.set_cons_succ]
          refine L_loadZ [10, 11, 12] 4 (v := ?vrg_8) (getS (getS (getS (getS (get0))))) (by kernel_rfl) (by kernel_rfl) (by kernel_rfl) (fun _ _ _ h => h) (by decide) (by decide) (by kernel_rfl) (by kernel_rfl) (by kernel_rfl) (by rfl) ?hyrg_8 hS0 (fun hS1 => ?rerg_8)
          case hyrg_8 => (intro w9 hSw; obtain ⟨hS1_, hS2_⟩ := hSw; go_simp; try with_reducible rfl)
          clear hS0
          have hS0 := hS1
          clear hS1
          try simp only [Act.put, List.setIfInBounds_toArray, List.set_cons_zero, List.set_cons_succ]
          refine L_loadZ [9, 10, 11, 12] 8 (v := ?vrg_9) (getS (getS (getS (getS (getS (getS (getS (getS (get0))))))))) (by kernel_rfl) (by kernel_rfl) (by kernel_rfl) (fun _ _ _ h => h) (by decide) (by decide) (by kernel_rfl) (by kernel_rfl) (by kernel_rfl) (by rfl) ?hyrg_9 hS0 (fun hS1 => ?rerg_9)
          case hyrg_9 => (intro w9 hSw; obtain ⟨hS1_, hS2_⟩ := hSw; go_simp; try with_reducible rfl)
          clear hS0
          have hS0 := hS1
          clear hS1
          try simp only [Act.put, List.setIfInBounds_toArray, List.set_cons_zero, List.set_cons_succ]
          refine L_pure 9 (v := ?vrg_10) (getS (getS (getS (getS (getS (getS (getS (getS (getS (get0)))))))))) (by kernel_rfl) (by kernel_rfl) (by kernel_rfl) (fun _ _ _ h => h) (by decide) (by decide) (by rfl) ?hyrg_10 hS0 (fun hS1 => ?rerg_10)
          case hyrg_10 => (intro w9; go_simp; try with_reducible rfl)
          clear hS0
          have hS0 := hS1
          clear hS1
          try simp only [Act.put, List.setIfInBounds_toArray, List.set_cons_zero, List.set_cons_succ]
          refine L_pure 10 (v := ?vrg_11) (getS (getS (getS (getS (getS (getS (getS (getS (getS (getS (get0))))))))))) (by kernel_rfl) (by kernel_rfl) (by kernel_rfl) (fun _ _ _ h => h) (by decide) (by decide) (by rfl) ?hyrg_11 hS0 (fun hS1 => ?rerg_11)
          case hyrg_11 => (intro w9; go_simp; try with_reducible rfl)
          clear hS0
          have hS0 := hS1
          clear hS1
          try simp only [Act.put, List.setIfInBounds_toArray, List.set_cons_zero, List.set_cons_succ]
          obtain ⟨vgb, w5, hr5, hq5, hg5, -⟩ := own_append1 Wd w1.heap.size (.slice Ag j cg) j _ (A2, c2, x) HGD.out.row HGD.out.below.size (by omega)
          rw [app_hide] at hr5
          rw [hv_eq HXM.out] at hr5
          have HQ5 := Aside0.mk (And.intro hq5 hg5)
          clear hq5 hg5
          refine L_step 11 (by kernel_rfl) (getS (getS (getS (getS (getS (getS (getS (getS (getS (getS (getS (get0)))))))))))) (fun K hK => ?_)
          go_simp
          refine hK.out _ _ (SL2.mk HCA.out trivial) (fun hS1 => ?_)
          clear hK K hS0
          have hS0 := hS1
          clear hS1
          try simp only [Act.put, List.setIfInBounds_toArray, List.set_cons_zero, List.set_cons_succ]
          refine L_step 12 (by kernel_rfl) (getS (getS (getS (getS (getS (getS (getS (getS (getS (getS (getS (getS (get0))))))))))))) (fun K hK => ?_)
          go_simp
          refine hK.out _ _ (SL2.mk0 (by kernel_rfl) (by kernel_rfl)) (fun hS1 => ?_)
          clear hK K hS0
          have hS0 := hS1
          clear hS1
          try simp only [Act.put, List.setIfInBounds_toArray, List.set_cons_zero, List.set_cons_succ]
          refine L_pure 13 (v := ?vrg_12) (getS (getS (getS (getS (getS (getS (getS (getS (getS (getS (getS (getS (getS (get0)))))))))))))) (by kernel_rfl) (by kernel_rfl) (by kernel_rfl) (fun _ _ _ h => h) (by decide) (by decide) (by rfl) ?hyrg_12 hS0 (fun hS1 => ?rerg_12)
          case hyrg_12 => (intro w9; go_simp; try with_reducible rfl)
          clear hS0
          have hS0 := hS1
          clear hS1
          try simp only [Act.put, List.setIfInBounds_toArray, List.set_cons_zero, List.set_cons_succ]
          refine L_done (by kernel_rfl) ?_
          clear hS0
          go_wp2
          go_roundg (gk - 1)
          case measure => have := HK.out; omega
          case rel => exact ⟨j + 1, _, by go_num, ⟨by have := HK.out; omega⟩, ⟨by omega⟩, ⟨GQ.app HGD.out HXJ.out HCX.out HQ5.out.1 HQ5.out.2⟩⟩
        · have p1 : decide (j < n) = false := decide_eq_false hjn
          obtain rfl : j = n := by have := HJ.out; omega
          clear hjn
          have HLG : Aside0 (LG.map (·.2.2) = X) := ⟨by have h9 := HG.out.lg; rw [List.take_of_length_le (by rw [HS.out.xn]; exact Nat.le_refl _)] at h9; exact h9⟩
          have HLN : Aside0 (LG.length = j) := ⟨by have h9 := congrArg List.length HLG.out; rw [List.length_map, HS.out.xn] at h9; exact h9⟩
          have HGM : Aside0 (MC wr Ag j X) := ⟨by have h9 := MC_of HG.out.row HLN.out (HG.out.ac.below HG.out.below); rw [HLG.out] at h9; exact h9⟩
          have HS2 := Aside0.mk (HS.out.mono HG.out.below)
          have HUE : Aside0 (asSet ALL = uni X) := ⟨by rw [HS.out.al]; rfl⟩
          obtain ⟨U, hU⟩ : ∃ U, uni X = U := ⟨_, rfl⟩
          have HUU := Aside0.mk hU
          have HU9 : Aside0 (U.length ≤ 320) := ⟨by rw [← hU, ← HUE.out]; have := asSet_length ALL; have := HNA.out; omega⟩
          clear hU
          go_wp2_with (go_at_call 15; (with_reducible refine (set_c _ Aa ca ALL na U HNA.out HS2.out.all hca (by omega) (HUE.out.trans HUU.out)).mono ?_); rintro e w3 ⟨AU, cU, rfl, hUC, hUl, hUb⟩; have HUC : Aside0 (LC w3 AU U) := ⟨hUC⟩; have HUB := Aside0.mk hUb; clear hUC hUb)
          obtain ⟨mu, hmu⟩ : ∃ k, U.length = k := ⟨_, rfl⟩
          have HMU := Aside0.mk hmu
          have hmu9 : mu ≤ 320 := by rw [← hmu]; exact HU9.out
          simp only [hmu]
          rw [hmu] at hUl
          clear hmu
          have HS3 := Aside0.mk (HS2.out.mono HUB.out)
          have HGM3 : Aside0 (MC w3 Ag j X) := ⟨Kd.C_below HGM.out HUB.out⟩
          clear HS HS2 HG HGM HUB
          obtain ⟨n, rfl⟩ : ∃ n, n = j := ⟨_, rfl⟩
          go_loopg [13, 80] (mu + 1) (fun kq v13 v80 w' => ∃ (i : Nat) (I : List Int), v80 = .int .i64 (i : Int) ∧ Aside0 (i + kq = mu + 1) ∧ Aside0 (i ≤ mu) ∧ Aside0 (IQ w3 w' v13 I) ∧ Aside0 (I = (U.take i).filter (inAll X)))
          case atStart => exact ⟨0, [], rfl, ⟨by omega⟩, ⟨Nat.zero_le _⟩, ⟨IQ.start w3⟩, ⟨by simp⟩⟩
          case round =>
            obtain ⟨i, I, rfl, HK, HI, HQ, HE⟩ := hrel
            obtain ⟨A13, c13, hv13, hc13⟩ := q_slice HQ.out.row
            subst hv13
            obtain ⟨mi, hmi⟩ : ∃ k, I.length = k := ⟨_, rfl⟩
            have HMI := Aside0.mk hmi
            have hmi9 : mi ≤ 320 := by rw [← hmi, HE.out]; have h1 := List.length_filter_le (inAll X) (U.take i); rw [List.length_take] at h1; have := HMU.out; omega
            simp only [hmi]
            rw [hmi] at hc13 HQ
            clear hmi
            by_cases hin : i < mu
            · have p1 : decide (i < mu) = true := decide_eq_true hin
              have hlx : U[i]? = some (U[i]'(by have := HMU.out; omega)) := List.getElem?_eq_getElem _
              generalize U[i]'_ = x at hlx
              have HLX := Aside0.mk hlx
              obtain ⟨adU, eadU, hcell⟩ := Kd.at_int HUC.out (i : Int) (by omega) (by have := HMU.out; omega)
              subst eadU
              have hrd : rd U (i : Int) = x := by unfold rd; rw [Int.toNat_natCast, List.getD, hlx]; rfl
              rw [hrd, Int.toNat_natCast] at hcell
              replace hcell := (HQ.out.below.cell (World.block_lt_of_cell? w3 _ hcell)).trans hcell
              have hq0 : (0 : Int) ≤ (i : Int) := by omega
              have hq1 : (i : Int) < (mu : Int) := by omega
              have HIN := Aside0.mk hin
              have hi9 : i ≤ 320 := by omega
              clear hlx hrd hin
              obtain ⟨K3, rfl⟩ : ∃ K, K = gk := ⟨_, rfl⟩
              go_wp2
              clear hcell hq0 hq1 p1
              go_loopg [17, 86] (n + 1) (fun kq v17 v86 w' => ∃ (j many : Nat), v17 = .int .i64 (many : Int) ∧ v86 = .int .i64 (j : Int) ∧ Aside0 (j + kq = n + 1) ∧ Aside0 (j ≤ n) ∧ Aside0 (many = cnt (X.take j) x) ∧ Aside0 (IQ w3 w' (.slice A13 mi c13) I))
              case atStart => exact ⟨0, 0, rfl, rfl, ⟨by omega⟩, ⟨Nat.zero_le _⟩, ⟨by simp [cnt]⟩, HQ⟩
              case round =>
                clear HQ
                obtain ⟨j, many, rfl, rfl, HKj, HJ, HMY, HQ⟩ := hrel
                have hmany : many ≤ 8 := by have h1 := cnt_le (X.take j) x; rw [← HMY.out, List.length_take] at h1; have := HJ.out; omega
                by_cases hjn : j < n
                · have p1 : decide (j < n) = true := decide_eq_true hjn
                  obtain ⟨ao, af, A1, A2, c1, c2, y, eo, ef, hxj, hx40, hc1, hc2, hC1, hl1, hC2, hl2⟩ := HS3.out.at j hjn
                  subst eo ef
                  obtain ⟨m, hm⟩ : ∃ m, y.length = m := ⟨_, rfl⟩
                  have HXM := Aside0.mk hm
                  rw [hm] at hx40 hc1 hl1
                  have hd1 := (HQ.out.below.cell (World.block_lt_of_cell? w3 _ hc1)).trans hc1
                  have HC1 : Aside0 (LC wr A1 y) := ⟨hC1.below HQ.out.below⟩
                  have HXJ := Aside0.mk hxj
                  have hj0 : (0 : Int) ≤ (j : Int) := by omega
                  have hji : (j : Int) < (n : Int) := by omega
                  obtain ⟨ry, hry⟩ : ∃ r, rise y = r := ⟨_, rfl⟩
                  obtain ⟨my, hmy⟩ : ∃ k, ry.length = k := ⟨_, rfl⟩
                  have hmy9 : my ≤ 40 := by rw [← hmy, ← hry]; have := rise_length y; omega
                  have HRY := Aside0.mk hry
                  have HMYL := Aside0.mk hmy
                  have HCS := Aside0.mk (cnt_snoc (X.take j) y x)
                  rw [← take_snoc_ hxj, hry] at HCS
                  have HJN := Aside0.mk hjn
                  clear hxj hc1 hc2 hC1 hC2 hm hry hmy hl2 hjn
                  by_cases hxr : x ∈ ry
                  all_goals
                    have HXR := Aside0.mk hxr
                    clear hxr
                    go_wp2_with (first
                      | (go_at_call 14; (with_reducible refine (rising_m _ A1 c1 y m ry my HXM.out HC1.out hl1 (by omega) HRY.out HMYL.out).mono ?_); rintro e w5 ⟨A5, c5, rfl, hq5, hl5, hb5⟩; have HQ5 := Aside0.mk (HQ.out.all hb5); have HC5 := Aside0.mk (LC_of_q hq5 HMYL.out); clear hq5 hb5)
                      | (go_at_call 16; (with_reducible refine (has_c _ A5 c5 ry x my true HMYL.out HC5.out hl5 (by omega) (decide_eq_true HXR.out)).mono ?_); rintro e w' ⟨rfl, ⟨nd, rfl⟩⟩)
                      | (go_at_call 16; (with_reducible refine (has_c _ A5 c5 ry x my false HMYL.out HC5.out hl5 (by omega) (decide_eq_false HXR.out)).mono ?_); rintro e w' ⟨rfl, ⟨nd, rfl⟩⟩))
                    go_roundg (gk - 1)
                    case measure => have := HKj.out; have := HJN.out; omega
                    case rel =>
                      first
                      | exact ⟨j + 1, many + 1, by go_num, by go_num, ⟨by have := HKj.out; have := HJN.out; omega⟩, ⟨by have := HJN.out; omega⟩, ⟨by rw [HCS.out, if_pos HXR.out, HMY.out]⟩, ⟨HQ5.out.all (pw_below_drewN (Below.refl _ _) nd)⟩⟩
                      | exact ⟨j + 1, many, rfl, by go_num, ⟨by have := HKj.out; have := HJN.out; omega⟩, ⟨by have := HJN.out; omega⟩, ⟨by rw [HCS.out, if_neg HXR.out, HMY.out, Nat.add_zero]⟩, ⟨HQ5.out.all (pw_below_drewN (Below.refl _ _) nd)⟩⟩
                · have p1 : decide (j < n) = false := decide_eq_false hjn
                  have hj : j = n := by have := HJ.out; omega
                  have HCN : Aside0 (many = cnt X x) := ⟨by rw [HMY.out, List.take_of_length_le (by rw [HS3.out.xn]; omega)]⟩
                  have HTK : Aside0 ((U.take (i + 1)).filter (inAll X) = I ++ if inAll X x = true then [x] else []) := ⟨by rw [take_snoc_ HLX.out, List.filter_append, ← HE.out]; congr 1; by_cases h : inAll X x = true <;> simp [h]⟩
                  clear hjn hj
                  by_cases hall : inAll X x = true
                  · have hmn : many = n := by rw [HCN.out, (cnt_all X x).2 hall, HS3.out.xn]
                    have e1 : ((many : Int) == (n : Int)) = true := beq_iff_eq.mpr (by omega)
                    have e1n : (many == n) = true := beq_iff_eq.mpr hmn
                    have HAL := Aside0.mk hall
                    obtain ⟨v13b, w6, hr6, hq6, hg6⟩ := int_append1 wr w3.heap.size (.slice A13 mi c13) mi _ x (by have h9 := HQ.out.row; rw [HMI.out] at h9; exact h9) HQ.out.below.size (by omega)
                    rw [app_hide] at hr6
                    have HQ6 := Aside0.mk (And.intro hq6 hg6)
                    clear hq6 hg6 hall hmn
                    go_wp2
                    go_roundg (K3 - 1)
                    case measure => have := HK.out; have := HIN.out; omega
                    case rel => exact ⟨i + 1, I ++ [x], by go_num, ⟨by have := HK.out; have := HIN.out; omega⟩, ⟨by have := HIN.out; omega⟩, ⟨HQ.out.app (by rw [HMI.out]; exact HQ6.out.1) HQ6.out.2⟩, ⟨by rw [HTK.out, if_pos HAL.out]⟩⟩
                  · have hmn : many ≠ n := fun e => hall ((cnt_all X x).1 (by rw [← HCN.out, HS3.out.xn]; exact e))
                    have e1 : ((many : Int) == (n : Int)) = false := beq_eq_false_iff_ne.mpr (by omega)
                    have e1n : (many == n) = false := beq_eq_false_iff_ne.mpr hmn
                    have HAL := Aside0.mk hall
                    clear hall hmn
                    go_wp2
                    go_roundg (K3 - 1)
                    case measure => have := HK.out; have := HIN.out; omega
                    case rel => exact ⟨i + 1, I, by go_num, ⟨by have := HK.out; have := HIN.out; omega⟩, ⟨by have := HIN.out; omega⟩, HQ, ⟨by rw [HTK.out, if_neg HAL.out, List.append_nil]⟩⟩
            · have p1 : decide (i < mu) = false := decide_eq_false hin
              have HIE : Aside0 (inter X = I) := ⟨by rw [HE.out, List.take_of_length_le (by have := HMU.out; have := HI.out; omega), ← HUU.out]; exact (inter_eq X).symm⟩
              have HS4 := Aside0.mk (HS3.out.mono HQ.out.below)
              have HGM4 : Aside0 (MC wr Ag n X) := ⟨Kd.C_below HGM3.out HQ.out.below⟩
              have HUC4 : Aside0 (LC wr AU U) := ⟨HUC.out.below HQ.out.below⟩
              have HIC4 : Aside0 (LC wr A13 I) := ⟨LC_of_q (base := w3.heap.size) (by have h9 := HQ.out.row; rw [HMI.out] at h9; exact h9) HMI.out⟩
              clear hin HS3 HGM3 HUC HQ HE HK HI
              by_cases h2 : 2 ≤ n
              · have p2 : decide (2 ≤ n) = true := decide_eq_true h2
                have p2i : decide ((2 : Int) ≤ (n : Int)) = true := decide_eq_true (by omega)
                have p2n : (2 : Int) ≤ (n : Int) := by omega
                obtain ⟨ao0, af0, A10, A20, c10, c20, x0, eo0, ef0, hx0, hx040, hc10, hc20, hC10, hl10, hC20, hl20⟩ := HS4.out.at 0 (by omega)
                subst eo0 ef0
                obtain ⟨ao1, af1, A11, A21, c11, c21, x1, eo1, ef1, hx1, hx140, hc11, hc21, hC11, hl11, hC21, hl21⟩ := HS4.out.at 1 (by omega)
                injection eo1 with eo1
                injection ef1 with ef1
                subst eo1 ef1
                obtain ⟨m0, hm0⟩ : ∃ m, x0.length = m := ⟨_, rfl⟩
                obtain ⟨m1, hm1⟩ : ∃ m, x1.length = m := ⟨_, rfl⟩
                rw [hm0] at hx040 hc10 hl10
                rw [hm1] at hx140 hc11 hl11
                have HM0 := Aside0.mk hm0
                have HM1 := Aside0.mk hm1
                have HX0 := Aside0.mk hx0
                have HX1 := Aside0.mk hx1
                have HC10 := Aside0.mk hC10
                have HC11 := Aside0.mk hC11
                rw [show ao0.add 1 = ⟨ao0.block, ao0.off + 1, none⟩ by simp [Addr.add]] at hc11
                have HCC1 := Aside0.mk hc11
                have hc10b : wr.cell? ao0 = some (.slice A10 m0 c10) := by have h9 := hc10; rw [show ao0.add 0 = ao0 by simp [Addr.add]] at h9; exact h9
                obtain ⟨R0, hR0⟩ : ∃ r, rise x0 = r := ⟨_, rfl⟩
                obtain ⟨R1, hR1⟩ : ∃ r, rise x1 = r := ⟨_, rfl⟩
                obtain ⟨k0, hk0⟩ : ∃ k, R0.length = k := ⟨_, rfl⟩
                obtain ⟨k1, hk1⟩ : ∃ k, R1.length = k := ⟨_, rfl⟩
                have hk09 : k0 ≤ 40 := by rw [← hk0, ← hR0]; have := rise_length x0; omega
                have hk19 : k1 ≤ 40 := by rw [← hk1, ← hR1]; have := rise_length x1; omega
                have HR0_ := Aside0.mk hR0
                have HR1_ := Aside0.mk hR1
                have HK0_ := Aside0.mk hk0
                have HK1_ := Aside0.mk hk1
                have h0n : (0 : Int) < (n : Int) := by omega
                have h0nn : 0 < n := by omega
                have h1nn : 1 < n := by omega
                have hb0 : decide (0 < n) = true := decide_eq_true h0nn
                have hb1 : decide (1 < n) = true := decide_eq_true h1nn
                have h1n : (1 : Int) < (n : Int) := by omega
                clear hm0 hm1 hx0 hx1 hC10 hC11 hc20 hc21 hC20 hC21 hl20 hl21 hR0 hR1 hk0 hk1 hc11
                go_wp2_with (go_at_call 14; (with_reducible refine (rising_m _ A10 c10 x0 m0 R0 k0 HM0.out HC10.out hl10 (by omega) HR0_.out HK0_.out).mono ?_); rintro e w5 ⟨A5, c5, rfl, hq5, hl5, hb5⟩; have HC5 := Aside0.mk (LC_of_q hq5 HK0_.out); have HB5 := Aside0.mk hb5; clear hq5 hb5)
                have HS5 := Aside0.mk (HS4.out.mono HB5.out)
                have HGM5 : Aside0 (MC w5 Ag n X) := ⟨Kd.C_below HGM4.out HB5.out⟩
                have HUC5 : Aside0 (LC w5 AU U) := ⟨HUC4.out.below HB5.out⟩
                have HIC5 : Aside0 (LC w5 A13 I) := ⟨HIC4.out.below HB5.out⟩
                have HC115 : Aside0 (LC w5 A11 x1) := ⟨HC11.out.below HB5.out⟩
                have HC105 : Aside0 (LC w5 A10 x0) := ⟨HC10.out.below HB5.out⟩
                have HCE1 : Aside0 (w5.cell? ⟨ao0.block, ao0.off + 1, none⟩ = some (.slice A11 m1 c11)) := ⟨(HB5.out.cell (World.block_lt_of_cell? wr _ HCC1.out)).trans HCC1.out⟩
                clear HS4 HGM4 HUC4 HIC4 HC10 HC11 HCC1 HB5 hc10 hc10b
                go_loopg [14, 114] (k0 + 1) (fun kq v14 v114 w' => ∃ (p : Nat) (M : List Int), v114 = .int .i64 (p : Int) ∧ Aside0 (p + kq = k0 + 1) ∧ Aside0 (p ≤ k0) ∧ Aside0 (IQ w5 w' v14 M) ∧ Aside0 (M = (R0.take p).filter (fun y => !decide (y ∈ R1))))
                case atStart => exact ⟨0, [], rfl, ⟨by omega⟩, ⟨Nat.zero_le _⟩, ⟨IQ.start w5⟩, ⟨by simp⟩⟩
                case round =>
                  obtain ⟨p, M, rfl, HKp, HP, HQ, HE⟩ := hrel
                  obtain ⟨A14, c14, hv14, hc14⟩ := q_slice HQ.out.row
                  subst hv14
                  obtain ⟨mm, hmm⟩ : ∃ k, M.length = k := ⟨_, rfl⟩
                  have HMM := Aside0.mk hmm
                  have hmm9 : mm ≤ 40 := by rw [← hmm, HE.out]; have h1 := List.length_filter_le (fun y => !decide (y ∈ R1)) (R0.take p); rw [List.length_take] at h1; have := HK0_.out; omega
                  simp only [hmm]
                  rw [hmm] at hc14 HQ
                  clear hmm
                  by_cases hpk : p < k0
                  · have q1 : decide (p < k0) = true := decide_eq_true hpk
                    have hly : R0[p]? = some (R0[p]'(by have := HK0_.out; omega)) := List.getElem?_eq_getElem _
                    generalize R0[p]'_ = y at hly
                    have HLY := Aside0.mk hly
                    obtain ⟨ad5, ead5, hcell⟩ := Kd.at_int HC5.out (p : Int) (by omega) (by have := HK0_.out; omega)
                    subst ead5
                    have hrd : rd R0 (p : Int) = y := by unfold rd; rw [Int.toNat_natCast, List.getD, hly]; rfl
                    rw [hrd, Int.toNat_natCast] at hcell
                    replace hcell := (HQ.out.below.cell (World.block_lt_of_cell? w5 _ hcell)).trans hcell
                    have hp0 : (0 : Int) ≤ (p : Int) := by omega
                    have hpi : (p : Int) < (k0 : Int) := by omega
                    have hce1 : wr.cell? ⟨ao0.block, ao0.off + 1, none⟩ = some (.slice A11 m1 c11) := (HQ.out.below.cell (World.block_lt_of_cell? w5 _ HCE1.out)).trans HCE1.out
                    have HC11r : Aside0 (LC wr A11 x1) := ⟨HC115.out.below HQ.out.below⟩
                    have HTK : Aside0 ((R0.take (p + 1)).filter (fun y => !decide (y ∈ R1)) = M ++ if y ∈ R1 then [] else [y]) := ⟨by rw [take_snoc_ hly, List.filter_append, ← HE.out]; congr 1; by_cases h : y ∈ R1 <;> simp [h]⟩
                    have HPK := Aside0.mk hpk
                    have hp9 : p ≤ 40 := by omega
                    clear hly hrd hpk
                    by_cases hyr : y ∈ R1
                    · have HYR := Aside0.mk hyr
                      clear hyr
                      go_wp2_with (first
                        | (go_at_call 14; (with_reducible refine (rising_m _ A11 c11 x1 m1 R1 k1 HM1.out HC11r.out hl11 (by omega) HR1_.out HK1_.out).mono ?_); rintro e w6 ⟨A6, c6, rfl, hq6, hl6, hb6⟩; have HQ6 := Aside0.mk (HQ.out.all hb6); have HC6 := Aside0.mk (LC_of_q hq6 HK1_.out); clear hq6 hb6)
                        | (go_at_call 16; (with_reducible refine (has_c _ A6 c6 R1 y k1 true HK1_.out HC6.out hl6 (by omega) (decide_eq_true HYR.out)).mono ?_); rintro e w' ⟨rfl, ⟨nd, rfl⟩⟩))
                      go_roundg (gk - 1)
                      case measure => have := HKp.out; have := HPK.out; omega
                      case rel => exact ⟨p + 1, M, by go_num, ⟨by have := HKp.out; have := HPK.out; omega⟩, ⟨by have := HPK.out; omega⟩, ⟨by have h9 := HQ6.out.all (pw_below_drewN (Below.refl _ _) nd); exact h9⟩, ⟨by rw [HTK.out, if_pos HYR.out, List.append_nil]⟩⟩
                    · have HYR := Aside0.mk hyr
                      clear hyr
                      go_wp2_with (first
                        | (go_at_call 14; (with_reducible refine (rising_m _ A11 c11 x1 m1 R1 k1 HM1.out HC11r.out hl11 (by omega) HR1_.out HK1_.out).mono ?_); rintro e w6 ⟨A6, c6, rfl, hq6, hl6, hb6⟩; have HQ6 := Aside0.mk (HQ.out.all hb6); have HC6 := Aside0.mk (LC_of_q hq6 HK1_.out); clear hq6 hb6)
                        | (go_at_call 16; (with_reducible refine (has_c _ A6 c6 R1 y k1 false HK1_.out HC6.out hl6 (by omega) (decide_eq_false HYR.out)).mono ?_); rintro e w' ⟨rfl, ⟨nd, rfl⟩⟩; have HQ7 := Aside0.mk (HQ6.out.all (pw_below_drewN (Below.refl _ _) nd)); obtain ⟨v14b, w8, hr8, hq8, hg8⟩ := int_append1 (w6.drewN nd) w5.heap.size (.slice A14 mm c14) mm _ y (by have h9 := HQ7.out.row; rw [HMM.out] at h9; exact h9) HQ7.out.below.size (by omega); have hr8 : (Builtin.append_ #[22, 22] 22 #[.slice A14 mm c14, .slice (some ⟨w6.heap.size, 0, none⟩) 1 1]).run Try.prog ((w6.drewN nd).alloc (.cells #[.int .i64 y] 3)) = .ok v14b w8 := hr8; rw [app_hide] at hr8; have HQ8 := Aside0.mk (And.intro hq8 hg8); clear hq8 hg8))
                      go_roundg (gk - 1)
                      case measure => have := HKp.out; have := HPK.out; omega
                      case rel => exact ⟨p + 1, M ++ [y], by go_num, ⟨by have := HKp.out; have := HPK.out; omega⟩, ⟨by have := HPK.out; omega⟩, ⟨HQ7.out.app (by rw [HMM.out]; exact HQ8.out.1) HQ8.out.2⟩, ⟨by rw [HTK.out, if_neg HYR.out]⟩⟩
                  · have q1 : decide (p < k0) = false := decide_eq_false hpk
                    have HME : Aside0 (minus x0 x1 = M) := ⟨by rw [HE.out, List.take_of_length_le (by have := HK0_.out; have := HP.out; omega), ← HR0_.out, ← HR1_.out]; exact (minus_eq x0 x1).symm⟩
                    have HS6 := Aside0.mk (HS5.out.mono HQ.out.below)
                    have HGM6 : Aside0 (MC wr Ag n X) := ⟨Kd.C_below HGM5.out HQ.out.below⟩
                    have HUC6 : Aside0 (LC wr AU U) := ⟨HUC5.out.below HQ.out.below⟩
                    have HIC6 : Aside0 (LC wr A13 I) := ⟨HIC5.out.below HQ.out.below⟩
                    have HMC6 : Aside0 (LC wr A14 M) := ⟨LC_of_q (base := w5.heap.size) (by have h9 := HQ.out.row; rw [HMM.out] at h9; exact h9) HMM.out⟩
                    clear hpk HS5 HGM5 HUC5 HIC5 HC115 HC105 HCE1 HQ HE HKp HP
                    obtain ⟨g0, B0, d0, y0, eg0, hy0, hcg0, hd0, hB0⟩ := at_L1_ HGM6.out 0 (by omega) HS6.out.xn
                    obtain ⟨g1, B1, d1, y1, eg1, hy1, hcg1, hd1, hB1⟩ := at_L1_ HGM6.out 1 (by omega) HS6.out.xn
                    subst eg0
                    injection eg1 with eg1
                    subst eg1
                    rw [HX0.out] at hy0
                    rw [HX1.out] at hy1
                    injection hy0 with hy0
                    injection hy1 with hy1
                    subst hy0 hy1
                    rw [HM0.out] at hcg0 hd0
                    rw [HM1.out] at hcg1 hd1
                    rw [show g0.add 0 = g0 by simp [Addr.add]] at hcg0
                    rw [show g0.add 1 = ⟨g0.block, g0.off + 1, none⟩ by simp [Addr.add]] at hcg1
                    have HB0 : Aside0 (LC wr.drew B0 x0) := ⟨Kd.C_drew hB0⟩
                    have HB1 : Aside0 (LC wr.drew B1 x1) := ⟨Kd.C_drew hB1⟩
                    have HCG : Aside0 (wr.drew.cell? g0 = some (.slice B0 m0 d0) ∧ wr.drew.cell? ⟨g0.block, g0.off + 1, none⟩ = some (.slice B1 m1 d1)) := ⟨hcg0, hcg1⟩
                    have rcS := HCG.out
                    clear hB0 hB1
                    go_wp2
                    go_region_held3 (fun w' => w'.cell? g0 = some (.slice B0 m0 d0) ∧ w'.cell? ⟨g0.block, g0.off + 1, none⟩ = some (.slice B1 m1 d1)) (first | exact rcS | go_keep)
                      (first
                        | (go_at_call 10; (with_reducible refine (minus_c _ B0 d0 x0 B1 d1 x1 m0 m1 M HM0.out HM1.out HB0.out hd0 HB1.out hd1 (by omega) (by omega) HME.out).mono ?_); rintro e w7 ⟨A7, c7, rfl, hC7, hl7, hb7⟩; have HB7 := Aside0.mk (below_trans2 (below_drew1 (Below.refl wr.heap.size wr)) hb7); have HC7 := Aside0.mk hC7; have rcS := And.intro ((hb7.cell (World.block_lt_of_cell? wr.drew _ HCG.out.1)).trans HCG.out.1) ((hb7.cell (World.block_lt_of_cell? wr.drew _ HCG.out.2)).trans HCG.out.2); clear hC7 hb7)
                        | (go_at_call 12; (with_reducible refine (same_c _ A7 c7 A14 c14 M _ mm ?sx HMM.out HC7.out ?sa (HMC6.out.below HB7.out) hc14 ?sb).mono ?_); (case sx => first | rfl | exact HMM.out); (case sa => first | exact hl7 | (rw [HMM.out] at hl7; exact hl7)); (case sb => first | omega | (rw [HMM.out]; omega)); rintro e w' ⟨rfl, ⟨nd, rfl⟩⟩; have rcS := And.intro (show (w7.drewN nd).cell? g0 = _ from rcS.1) (show (w7.drewN nd).cell? ⟨g0.block, g0.off + 1, none⟩ = _ from rcS.2)))
                    all_goals
                      have HB8 := Aside0.mk (below_trans2 HB7.out (pw_below_drewN (Below.refl w7.heap.size w7) nd))
                      have HS7 := Aside0.mk (HS6.out.mono HB8.out)
                      have HGM7 : Aside0 (MC (w7.drewN nd) (some g0) n X) := ⟨Kd.C_below HGM6.out HB8.out⟩
                      have HUC7 : Aside0 (LC (w7.drewN nd) AU U) := ⟨HUC6.out.below HB8.out⟩
                      have HIC7 : Aside0 (LC (w7.drewN nd) A13 I) := ⟨HIC6.out.below HB8.out⟩
                      clear HS6 HGM6 HUC6 HIC6 HMC6 HB7 HB8 HC7 HB0 HB1 HCG rcS
                      obtain ⟨w9, hw9⟩ : ∃ w9, w7.drewN nd = w9 := ⟨_, rfl⟩
                      rw [hw9] at HS7 HGM7 HUC7 HIC7
                      simp only [hw9]
                      clear hw9
                      obtain ⟨z1, hz1⟩ : ∃ z : Int, (if a1 < 0 then (0 : Int) else a1) = z := ⟨_, rfl⟩
                      have hz0 : 0 ≤ z1 := by rw [← hz1]; split <;> omega
                      obtain ⟨kk, hkk⟩ : ∃ k : Nat, (if (mu : Int) < z1 then (mu : Int) else z1) = (k : Int) := ⟨(if (mu : Int) < z1 then (mu : Int) else z1).toNat, by split <;> omega⟩
                      have hkmu : kk ≤ mu := by have := hkk; split at this <;> omega
                      have HTK : Aside0 (U.take a1.toNat = U.take kk) := ⟨by
                        have h1 := hkk
                        have h2 := hz1
                        have h3 := HMU.out
                        split at h2
                        · have hk0 : kk = 0 := by split at h1 <;> omega
                          rw [hk0, show a1.toNat = 0 by omega]
                        · split at h1
                          · rw [List.take_of_length_le (by omega), List.take_of_length_le (by omega)]
                          · rw [show a1.toNat = kk by omega]⟩
                      obtain ⟨Ut, hut⟩ : ∃ u, U.take a1.toNat = u := ⟨_, rfl⟩
                      have HUt := Aside0.mk hut
                      have HUtl : Aside0 (Ut.length = kk) := ⟨by rw [← hut, HTK.out, List.length_take, HMU.out]; omega⟩
                      have HUtC : Aside0 (LC w9 AU Ut) := ⟨by rw [← hut, HTK.out]; exact Kd.C_take HUC7.out (by rw [HMU.out]; exact hkmu)⟩
                      have HLT : Aside0 (ltot X ≤ 100000) := ⟨by have := ltot_le40 X HS7.out.x40; have := HS7.out.xn; omega⟩
                      have HX4 : Aside0 (∀ l ∈ X, l.length ≤ 100000) := ⟨fun l hl => Nat.le_trans (HS7.out.x40 l hl) (by decide)⟩
                      have hcU := cut_to (P := Try.prog) 22 3 .i64 Try.underlying22 hi3 AU mu cU (kk : Int) (by omega) (by omega) hUl
                      rw [show ((kk : Int)).toNat = kk from rfl] at hcU
                      have hkI : (0 : Int) ≤ (kk : Int) := by omega
                      have hkc : kk ≤ cU := by omega
                      clear hut
                      go_wp2
                      have HBt : Aside0 (Below w9.heap.size w9 w9.drew) := ⟨below_drew1 (Below.refl _ _)⟩
                      go_region_held3 (fun _ => True) (exact trivial)
                        (first
                          | (go_at_call 8; (with_reducible refine (union_c _ (some g0) n cg X U HS7.out.xn (Kd.C_below HGM7.out HBt.out) hgc (by omega) HLT.out HUU.out).mono ?_); rintro e w10 ⟨A20, c20, rfl, hC, hl, hb⟩; have HBt2 := Aside0.mk (below_trans2 HBt.out hb); clear HBt; have HBt := HBt2; clear HBt2; have HR1 : Aside0 (LC w10 A20 U ∧ U.length ≤ c20) := ⟨hC, hl⟩; clear hC hl hb)
                          | (go_at_call 12; (with_reducible refine (same_c _ A20 c20 AU cU U _ mu ?sx1 HMU.out HR1.out.1 ?sy1 (LC.below HUC7.out HBt.out) hUl ?sz1).mono ?_); (case sx1 => first | rfl | exact HMU.out); (case sy1 => first | exact HR1.out.2 | (have := HR1.out.2; have := HMU.out; omega)); (case sz1 => have := HMU.out; omega); rintro e w' ⟨rfl, ⟨nd, rfl⟩⟩; have HBt2 := Aside0.mk (below_trans2 HBt.out (pw_below_drewN (Below.refl _ _) nd)); clear HBt; have HBt := HBt2; clear HBt2)
                          | (go_at_call 9; (with_reducible refine (inter_c _ (some g0) n cg X I HS7.out.xn (Kd.C_below HGM7.out HBt.out) hgc (by omega) HX4.out HIE.out).mono ?_); rintro e w11 ⟨A21, c21, rfl, hC, hl, hb⟩; have HBt2 := Aside0.mk (below_trans2 HBt.out hb); clear HBt; have HBt := HBt2; clear HBt2; have HR2 : Aside0 (LC w11 A21 I ∧ I.length ≤ c21) := ⟨hC, hl⟩; clear hC hl hb)
                          | (go_at_call 12; (with_reducible refine (same_c _ A21 c21 A13 c13 I _ mi ?sx2 HMI.out HR2.out.1 ?sy2 (LC.below HIC7.out HBt.out) hc13 ?sz2).mono ?_); (case sx2 => first | rfl | exact HMI.out); (case sy2 => first | exact HR2.out.2 | (have := HR2.out.2; have := HMI.out; omega)); (case sz2 => have := HMI.out; omega); rintro e w' ⟨rfl, ⟨nd, rfl⟩⟩; have HBt2 := Aside0.mk (below_trans2 HBt.out (pw_below_drewN (Below.refl _ _) nd)); clear HBt; have HBt := HBt2; clear HBt2)
                          | (go_at_call 11; (with_reducible refine (first_c _ a1 (some g0) n cg X Ut HS7.out.xn (Kd.C_below HGM7.out HBt.out) hgc (by omega) HLT.out (by rw [HUU.out]; exact HUt.out)).mono ?_); rintro e w12 ⟨A22, c22, rfl, hC, hl, hb⟩; have HBt2 := Aside0.mk (below_trans2 HBt.out hb); clear HBt; have HBt := HBt2; clear HBt2; have HR3 : Aside0 (LC w12 A22 Ut ∧ Ut.length ≤ c22) := ⟨hC, hl⟩; clear hC hl hb)
                          | (go_at_call 12; (with_reducible refine (same_c _ A22 c22 AU cU Ut _ kk ?sx3 HUtl.out HR3.out.1 ?sy3 (LC.below HUtC.out HBt.out) hkc ?sz3).mono ?_); (case sx3 => first | rfl | exact HUtl.out); (case sy3 => first | exact HR3.out.2 | (have := HR3.out.2; have := HUtl.out; omega)); (case sz3 => have := HUtl.out; omega); rintro e w' ⟨rfl, ⟨nd, rfl⟩⟩; have HBt2 := Aside0.mk (below_trans2 HBt.out (pw_below_drewN (Below.refl _ _) nd)); clear HBt; have HBt := HBt2; clear HBt2))
                      all_goals
                        have HS8 := Aside0.mk (HS7.out.mono HBt.out)
                        clear HS7 HGM7 HUC7 HIC7 HBt HR1 HR2 HR3 HUtC hz1 hkk hcU
                        obtain ⟨w8, hw8⟩ : ∃ w8, w12.drewN nd = w8 := ⟨_, rfl⟩
                        rw [hw8] at HS8
                        simp only [hw8]
                        clear hw8
                        go_wp2
                        go_loopg [169] (n + 1) (fun kq v169 w' => ∃ (j : Nat), v169 = .int .i64 (j : Int) ∧ Aside0 (j + kq = n + 1) ∧ Aside0 (j ≤ n) ∧ Aside0 (T3 w w' n _ _ _ co cf ca na LO LF ALL X))
                        case atStart => exact ⟨0, rfl, ⟨by omega⟩, ⟨Nat.zero_le _⟩, HS8⟩
                        case round =>
                          clear HS8
                          obtain ⟨j, rfl, HKj, HJ, HS9⟩ := hrel
                          by_cases hjn : j < n
                          · have p3 : decide (j < n) = true := decide_eq_true hjn
                            obtain ⟨ao, af, A1, A2, c1, c2, x, eo, ef, hxj, hx40, hc1, hc2, hC1, hl1, hC2, hl2⟩ := HS9.out.at j hjn
                            injection eo with eo
                            injection ef with ef
                            subst eo ef
                            have hj0 : (0 : Int) ≤ (j : Int) := by omega
                            have hji : (j : Int) < (n : Int) := by omega
                            have HC1 : Aside0 (LC wr.drew A1 x) := ⟨Kd.C_drew hC1⟩
                            have HC2 : Aside0 (LC wr.drew A2 (x ++ rep80)) := ⟨Kd.C_drew hC2⟩
                            have rcS : wr.drew.cell? (ao0.add j) = some (.slice A1 x.length c1) ∧ wr.drew.cell? (af0.add j) = some (.slice A2 (x.length + 80) c2) := ⟨hc1, hc2⟩
                            clear hC1 hC2 hxj
                            go_wp2
                            go_region_held3 (fun w' => w'.cell? (ao0.add j) = some (.slice A1 x.length c1) ∧ w'.cell? (af0.add j) = some (.slice A2 (x.length + 80) c2)) (first | exact rcS | go_keep)
                              (first | (go_at_call 17; (with_reducible refine (intactI.yes A2 c2 A1 c1 x (-5) _ HC2.out hl2 HC1.out hl1 ?im ?is).mono ?_); (case im => omega); (case is => exact same_f 1000 x (by omega) (by omega)); rintro e w' ⟨rfl, ⟨nd, rfl⟩⟩; have rcS := And.intro (show (wr.drew.drewN nd).cell? (ao0.add j) = _ from rcS.1) (show (wr.drew.drewN nd).cell? (af0.add j) = _ from rcS.2)))
                            all_goals
                              go_wp2
                              go_roundg (gk - 1)
                              case measure => have := HKj.out; omega
                              case rel => exact ⟨j + 1, by go_num, ⟨by have := HKj.out; omega⟩, ⟨by omega⟩, ⟨HS9.out.mono (by first | exact below_trans2 (below_drew1 (Below.refl _ _)) (pw_below_drewN (Below.refl _ _) _) | exact pw_below_drewN (Below.refl _ _) _)⟩⟩
                          · have p3 : decide (j < n) = false := decide_eq_false hjn
                            go_wp2_with (go_at_call 3; (with_reducible refine (runs_ _).mono ?_); rintro e w13 ⟨rfl, hb⟩)
                            go_ret
                            exact ⟨rfl, HS9.out.below.trans (hb.mono HS9.out.below.size)⟩
              · have p2 : decide (2 ≤ n) = false := decide_eq_false h2
                have p2i : decide ((2 : Int) ≤ (n : Int)) = false := decide_eq_false (by omega)
                clear h2
                have HS7 := HS4
                have HGM7 := HGM4
                have HUC7 := HUC4
                have HIC7 := HIC4
                clear HS4 HGM4 HUC4 HIC4
                obtain ⟨w7, rfl⟩ : ∃ w7 : World, w7 = wr := ⟨_, rfl⟩
                obtain ⟨z1, hz1⟩ : ∃ z : Int, (if a1 < 0 then (0 : Int) else a1) = z := ⟨_, rfl⟩
                have hz0 : 0 ≤ z1 := by rw [← hz1]; split <;> omega
                obtain ⟨kk, hkk⟩ : ∃ k : Nat, (if (mu : Int) < z1 then (mu : Int) else z1) = (k : Int) := ⟨(if (mu : Int) < z1 then (mu : Int) else z1).toNat, by split <;> omega⟩
                have hkmu : kk ≤ mu := by have := hkk; split at this <;> omega
                have HTK : Aside0 (U.take a1.toNat = U.take kk) := ⟨by
                  have h1 := hkk
                  have h2 := hz1
                  have h3 := HMU.out
                  split at h2
                  · have hk0 : kk = 0 := by split at h1 <;> omega
                    rw [hk0, show a1.toNat = 0 by omega]
                  · split at h1
                    · rw [List.take_of_length_le (by omega), List.take_of_length_le (by omega)]
                    · rw [show a1.toNat = kk by omega]⟩
                obtain ⟨Ut, hut⟩ : ∃ u, U.take a1.toNat = u := ⟨_, rfl⟩
                have HUt := Aside0.mk hut
                have HUtl : Aside0 (Ut.length = kk) := ⟨by rw [← hut, HTK.out, List.length_take, HMU.out]; omega⟩
                have HUtC : Aside0 (LC w7 AU Ut) := ⟨by rw [← hut, HTK.out]; exact Kd.C_take HUC7.out (by rw [HMU.out]; exact hkmu)⟩
                have HLT : Aside0 (ltot X ≤ 100000) := ⟨by have := ltot_le40 X HS7.out.x40; have := HS7.out.xn; omega⟩
                have HX4 : Aside0 (∀ l ∈ X, l.length ≤ 100000) := ⟨fun l hl => Nat.le_trans (HS7.out.x40 l hl) (by decide)⟩
                have hcU := cut_to (P := Try.prog) 22 3 .i64 Try.underlying22 hi3 AU mu cU (kk : Int) (by omega) (by omega) hUl
                rw [show ((kk : Int)).toNat = kk from rfl] at hcU
                have hkI : (0 : Int) ≤ (kk : Int) := by omega
                have hkc : kk ≤ cU := by omega
                clear hut
                go_wp2
                have HBt : Aside0 (Below w7.heap.size w7 w7.drew) := ⟨below_drew1 (Below.refl _ _)⟩
                go_region_held3 (fun _ => True) (exact trivial)
                  (first
                    | (go_at_call 8; (with_reducible refine (union_c _ Ag n cg X U HS7.out.xn (Kd.C_below HGM7.out HBt.out) hgc (by omega) HLT.out HUU.out).mono ?_); rintro e w10 ⟨A20, c20, rfl, hC, hl, hb⟩; have HBt2 := Aside0.mk (below_trans2 HBt.out hb); clear HBt; have HBt := HBt2; clear HBt2; have HR1 : Aside0 (LC w10 A20 U ∧ U.length ≤ c20) := ⟨hC, hl⟩; clear hC hl hb)
                    | (go_at_call 12; (with_reducible refine (same_c _ A20 c20 AU cU U _ mu ?sx1 HMU.out HR1.out.1 ?sy1 (LC.below HUC7.out HBt.out) hUl ?sz1).mono ?_); (case sx1 => first | rfl | exact HMU.out); (case sy1 => first | exact HR1.out.2 | (have := HR1.out.2; have := HMU.out; omega)); (case sz1 => have := HMU.out; omega); rintro e w' ⟨rfl, ⟨nd, rfl⟩⟩; have HBt2 := Aside0.mk (below_trans2 HBt.out (pw_below_drewN (Below.refl _ _) nd)); clear HBt; have HBt := HBt2; clear HBt2)
                    | (go_at_call 9; (with_reducible refine (inter_c _ Ag n cg X I HS7.out.xn (Kd.C_below HGM7.out HBt.out) hgc (by omega) HX4.out HIE.out).mono ?_); rintro e w11 ⟨A21, c21, rfl, hC, hl, hb⟩; have HBt2 := Aside0.mk (below_trans2 HBt.out hb); clear HBt; have HBt := HBt2; clear HBt2; have HR2 : Aside0 (LC w11 A21 I ∧ I.length ≤ c21) := ⟨hC, hl⟩; clear hC hl hb)
                    | (go_at_call 12; (with_reducible refine (same_c _ A21 c21 A13 c13 I _ mi ?sx2 HMI.out HR2.out.1 ?sy2 (LC.below HIC7.out HBt.out) hc13 ?sz2).mono ?_); (case sx2 => first | rfl | exact HMI.out); (case sy2 => first | exact HR2.out.2 | (have := HR2.out.2; have := HMI.out; omega)); (case sz2 => have := HMI.out; omega); rintro e w' ⟨rfl, ⟨nd, rfl⟩⟩; have HBt2 := Aside0.mk (below_trans2 HBt.out (pw_below_drewN (Below.refl _ _) nd)); clear HBt; have HBt := HBt2; clear HBt2)
                    | (go_at_call 11; (with_reducible refine (first_c _ a1 Ag n cg X Ut HS7.out.xn (Kd.C_below HGM7.out HBt.out) hgc (by omega) HLT.out (by rw [HUU.out]; exact HUt.out)).mono ?_); rintro e w12 ⟨A22, c22, rfl, hC, hl, hb⟩; have HBt2 := Aside0.mk (below_trans2 HBt.out hb); clear HBt; have HBt := HBt2; clear HBt2; have HR3 : Aside0 (LC w12 A22 Ut ∧ Ut.length ≤ c22) := ⟨hC, hl⟩; clear hC hl hb)
                    | (go_at_call 12; (with_reducible refine (same_c _ A22 c22 AU cU Ut _ kk ?sx3 HUtl.out HR3.out.1 ?sy3 (LC.below HUtC.out HBt.out) hkc ?sz3).mono ?_); (case sx3 => first | rfl | exact HUtl.out); (case sy3 => first | exact HR3.out.2 | (have := HR3.out.2; have := HUtl.out; omega)); (case sz3 => have := HUtl.out; omega); rintro e w' ⟨rfl, ⟨nd, rfl⟩⟩; have HBt2 := Aside0.mk (below_trans2 HBt.out (pw_below_drewN (Below.refl _ _) nd)); clear HBt; have HBt := HBt2; clear HBt2))
                all_goals
                  have HS8 := Aside0.mk (HS7.out.mono HBt.out)
                  clear HS7 HGM7 HUC7 HIC7 HBt HR1 HR2 HR3 HUtC hz1 hkk hcU
                  obtain ⟨w8, hw8⟩ : ∃ w8, w12.drewN nd = w8 := ⟨_, rfl⟩
                  rw [hw8] at HS8
                  simp only [hw8]
                  clear hw8
                  go_wp2
                  go_loopg [169] (n + 1) (fun kq v169 w' => ∃ (j : Nat), v169 = .int .i64 (j : Int) ∧ Aside0 (j + kq = n + 1) ∧ Aside0 (j ≤ n) ∧ Aside0 (T3 w w' n _ _ _ co cf ca na LO LF ALL X))
                  case atStart => exact ⟨0, rfl, ⟨by omega⟩, ⟨Nat.zero_le _⟩, HS8⟩
                  case round =>
                    clear HS8
                    obtain ⟨j, rfl, HKj, HJ, HS9⟩ := hrel
                    by_cases hjn : j < n
                    · have p3 : decide (j < n) = true := decide_eq_true hjn
                      obtain ⟨ao, af, A1, A2, c1, c2, x, eo, ef, hxj, hx40, hc1, hc2, hC1, hl1, hC2, hl2⟩ := HS9.out.at j hjn
                      subst eo ef
                      have hj0 : (0 : Int) ≤ (j : Int) := by omega
                      have hji : (j : Int) < (n : Int) := by omega
                      have HC1 : Aside0 (LC wr.drew A1 x) := ⟨Kd.C_drew hC1⟩
                      have HC2 : Aside0 (LC wr.drew A2 (x ++ rep80)) := ⟨Kd.C_drew hC2⟩
                      have rcS : wr.drew.cell? (ao.add j) = some (.slice A1 x.length c1) ∧ wr.drew.cell? (af.add j) = some (.slice A2 (x.length + 80) c2) := ⟨hc1, hc2⟩
                      clear hC1 hC2 hxj
                      go_wp2
                      go_region_held3 (fun w' => w'.cell? (ao.add j) = some (.slice A1 x.length c1) ∧ w'.cell? (af.add j) = some (.slice A2 (x.length + 80) c2)) (first | exact rcS | go_keep)
                        (first | (go_at_call 17; (with_reducible refine (intactI.yes A2 c2 A1 c1 x (-5) _ HC2.out hl2 HC1.out hl1 ?im ?is).mono ?_); (case im => omega); (case is => exact same_f 1000 x (by omega) (by omega)); rintro e w' ⟨rfl, ⟨nd, rfl⟩⟩; have rcS := And.intro (show (wr.drew.drewN nd).cell? (ao.add j) = _ from rcS.1) (show (wr.drew.drewN nd).cell? (af.add j) = _ from rcS.2)))
                      all_goals
                        go_wp2
                        go_roundg (gk - 1)
                        case measure => have := HKj.out; omega
                        case rel => exact ⟨j + 1, by go_num, ⟨by have := HKj.out; omega⟩, ⟨by omega⟩, ⟨HS9.out.mono (by first | exact below_trans2 (below_drew1 (Below.refl _ _)) (pw_below_drewN (Below.refl _ _) _) | exact pw_below_drewN (Below.refl _ _) _)⟩⟩
                    · have p3 : decide (j < n) = false := decide_eq_false hjn
                      go_wp2_with (go_at_call 3; (with_reducible refine (runs_ _).mono ?_); rintro e w13 ⟨rfl, hb⟩)
                      go_ret
                      exact ⟨rfl, HS9.out.below.trans (hb.mono HS9.out.below.size)⟩
end
end Go.Proofs.Ytckpgbkbbdifmaa.Ep
