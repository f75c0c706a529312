import Derived.Test.YtckpgbkbbdifmaaMgS
import Derived.WalkKit
import Derived.ProofKit
import Derived.Below
import Derived.WalkLawsBesides
import Derived.Deep.QuietTactic
import Derived.BigQuiet
import Derived.StillTailTactics
import Derived.Deep.AppendLies
import Derived.Deep.RegionHeld3
import Derived.KernelRfl
import Derived.BigRegion
import Derived.WalkSpells
import Derived.Deep.Slices
import Derived.Deep.Fields
import Derived.ChangeSame
import Derived.Deep.RegionLaw
import Derived.Deep.DrawnRows
import Derived.Deep.Upon
namespace Go.Proofs.Ytckpgbkbbdifmaa.Ep
open Go Go.RowKit Go.Proofs.YtckpgbkbbdifmaaW.PrintWords Go.Proofs.YtckpgbkbbdifmaaW.PrintLast Go.Proofs.YtckpgbkbbdifmaaW.PrintMore Go.Proofs.Ytckpgbkbbdifmaa.PMergeTells Go.Proofs.Ytckpgbkbbdifmaa.Keep
set_option linter.unusedVariables false
set_option linter.unusedSimpArgs false
theorem LC_of_q {w : World} {base : Nat} {A : Option Addr} {n c : Nat} {xs : List Int} (h : QRow w base 3 1 (.slice A n c) n (xs.map (Value.int .i64))) (hn : xs.length = n) : LC w A xs := by
  have hm := q_max h
  refine ⟨rfl, by omega, fun hp => ?_⟩
  obtain ⟨ad, e, hc⟩ := q_cells h (by omega)
  refine ⟨ad, e, fun j p hp => ⟨[.int .i64 p], rfl, rfl, fun i u hu => ?_⟩⟩
  cases i with
  | succ i => simp at hu
  | zero =>
    injection hu with hu; subst hu
    show w.cell? (ad.add (j * 1 + 0)) = _
    rw [show j * 1 + 0 = j by omega]; exact hc j _ (by rw [List.getElem?_map, hp]; rfl)
structure SQ (w w' : World) (v : Value) (L : List Int) : Prop where
  below : Below w.heap.size w w'
  row : QRow w' w.heap.size 3 1 v L.length (L.map (Value.int .i64))
theorem SQ.all {w w' w2 : World} {v : Value} {L : List Int} (h : SQ w w' v L) (hb : Below w'.heap.size w' w2) : SQ w w2 v L :=
  ⟨h.below.trans (hb.mono h.below.size), q_move h.row fun k hk => hb.block k (q_lt h.row k hk)⟩
theorem SQ.put {w Wd wc : World} {v v' : Value} {L : List Int} {x : Int} {m j : Nat} (h : SQ w Wd v L) (ha : AS Wd wc 3 v' (0 + j + 1 + (m - j)) (([] ++ (L.take j).map (Value.int .i64) ++ [.int .i64 x]) ++ (L.drop j).map (Value.int .i64))) (hx : x ∉ L) (hm : L.length = m) (hj : kOf x L = j) : SQ w wc v' (ins x L) := by
  have hle := kOf_le x L
  refine ⟨h.below.trans (ha.below.mono h.below.size), ?_⟩
  have hr := q_lower ha.row h.below.size
  rw [show (ins x L).length = 0 + j + 1 + (m - j) by rw [ins_length]; omega]
  rw [ins_kOf x L hx, hj, List.map_append, List.map_append]; exact hr
section
attribute [local go_sem ↓ high] app_hide
set_option maxHeartbeats 8000000 in
set_option maxRecDepth 100000 in
theorem set_c (w : World) (A0 : Option Addr) (c0 : Nat) (l : List Int) (n0 : Nat) (r : List Int) (hn0 : l.length = n0) (hr0 : LC w A0 l) (hc0 : n0 ≤ c0) (h0 : n0 ≤ 1000) (hr : asSet l = r) :
    Calls Try.prog 15 #[.slice A0 n0 c0] w (RetS w r) := by
  have HR0 := Aside0.mk hr0
  have HN0 := Aside0.mk hn0
  have HRR := Aside0.mk hr
  obtain ⟨i0, hi0, hz0, hz1, hz2⟩ := info_parts info3_
  clear hr0 hn0 hr
  go_enter Try.func15, Try.ntmps15
  go_wp2
  go_loopg [3, 9] (n0 + 1) (fun kq v3 v9 w' => ∃ (i : Nat) (L : List Int), v9 = .int .i64 (i : Int) ∧ Aside0 (i + kq = n0 + 1) ∧ Aside0 (i ≤ n0) ∧ Aside0 (SQ w w' v3 L) ∧ Aside0 (L.Pairwise (· < ·)) ∧ Aside0 (∀ y, y ∈ L ↔ y ∈ l.take i))
  case atStart => exact ⟨0, [], rfl, ⟨by omega⟩, ⟨Nat.zero_le _⟩, ⟨⟨Below.refl _ _, rfl, .inl ⟨rfl, none, rfl, fun a ha => by cases ha⟩⟩⟩, ⟨List.Pairwise.nil⟩, ⟨fun y => by simp⟩⟩
  case round =>
    obtain ⟨i, L, rfl, HK, HI, HQ, HSR, HMM⟩ := hrel
    obtain ⟨A, c, hv3, hmc⟩ := q_slice HQ.out.row
    subst hv3
    obtain ⟨m, hm⟩ : ∃ m, L.length = m := ⟨_, rfl⟩
    have HM := Aside0.mk hm
    have hrow := HQ.out.row
    have HLN : Aside0 (L.length ≤ i) := ⟨by
      have h9 : L = asSet (l.take i) := sorted_ext _ _ HSR.out (asSet_sorted _) fun y => by rw [HMM.out y, asSet_mem]
      rw [h9]; have := asSet_length (l.take i); rw [List.length_take] at this; omega⟩
    have hmm9 : m ≤ 1000 := by have := HLN.out; have := HI.out; omega
    rw [hm] at hrow hmc
    have HRW := Aside0.mk hrow
    have hcx := q_max hrow
    clear hrow
    simp only [hm]
    clear hm
    by_cases hin : i < n0
    · have p1 : decide (i < n0) = true := decide_eq_true hin
      have hlx : l[i]? = some (l[i]'(by have := HN0.out; omega)) := List.getElem?_eq_getElem _
      generalize l[i]'_ = x at hlx
      have HLX := Aside0.mk hlx
      obtain ⟨ad, ead, hcell⟩ := Kd.at_int HR0.out (i : Int) (by omega) (by have := HN0.out; omega)
      subst ead
      have hrd : rd l (i : Int) = x := by unfold rd; rw [Int.toNat_natCast, List.getD, hlx]; rfl
      rw [hrd, Int.toNat_natCast] at hcell
      replace hcell := (HQ.out.below.cell (World.block_lt_of_cell? w _ hcell)).trans hcell
      have hq0 : (0 : Int) ≤ (i : Int) := by omega
      have hq1 : (i : Int) < (n0 : Int) := by omega
      clear hlx hrd
      by_cases hxL : x ∈ L
      · have HXL := Aside0.mk hxL
        clear hxL
        go_wp2_with (go_at_call 16; (with_reducible refine (has_c _ A c L x m true HM.out (LC_of_q HRW.out HM.out) hmc (by omega) (decide_eq_true HXL.out)).mono ?_); rintro e w' ⟨rfl, ⟨nd, rfl⟩⟩)
        go_roundg (gk - 1)
        case measure => have := HK.out; omega
        case rel =>
          refine ⟨i + 1, L, by go_num, ⟨by have := HK.out; omega⟩, ⟨by omega⟩, ⟨by have h9 := HQ.out.all (pw_below_drewN (Below.refl _ _) nd); rw [← HM.out]; exact h9⟩, HSR, ⟨fun y => ?_⟩⟩
          rw [HMM.out y, take_snoc_ HLX.out, List.mem_append, List.mem_singleton]
          exact ⟨.inl, fun h => h.elim id (fun e => by rw [e]; exact (HMM.out x).1 HXL.out)⟩
      · have HNX := Aside0.mk hxL
        clear hxL
        go_wp2_with (go_at_call 16; (with_reducible refine (has_c _ A c L x m false HM.out (LC_of_q HRW.out HM.out) hmc (by omega) (decide_eq_false HNX.out)).mono ?_); rintro e w' ⟨rfl, ⟨nd, rfl⟩⟩)
        obtain ⟨W1, hW1⟩ : ∃ W1, wr.drewN nd = W1 := ⟨_, rfl⟩
        have HQ1 : Aside0 (SQ w W1 (.slice A m c) L) := ⟨by rw [← hW1]; have h9 := HQ.out.all (pw_below_drewN (Below.refl _ _) nd); rw [HM.out] at h9; exact h9⟩
        have HRW1 : Aside0 (QRow W1 w.heap.size 3 1 (.slice A m c) m (L.map (Value.int .i64))) := ⟨by have h9 := HQ1.out.row; rw [HM.out] at h9; exact h9⟩
        simp only [hW1]
        clear hW1 hcell HRW HQ
        obtain ⟨k, hk⟩ : ∃ k, kOf x L = k := ⟨_, rfl⟩
        have hkm : k ≤ m := by rw [← hk, ← HM.out]; exact kOf_le x L
        have HKK := Aside0.mk hk
        clear hk
        obtain ⟨K, rfl⟩ : ∃ K, K = gk := ⟨_, rfl⟩
        go_loopg [6] (k + 1) (fun kq v6 w' => ∃ (j : Nat), v6 = .int .i64 (j : Int) ∧ Aside0 (j + kq = k + 1) ∧ Aside0 (j ≤ k) ∧ Aside0 (w' = W1))
        case atStart => exact ⟨0, rfl, ⟨by omega⟩, ⟨Nat.zero_le _⟩, ⟨rfl⟩⟩
        case round =>
          obtain ⟨j, rfl, HKj, HJ, HW⟩ := hrel
          obtain rfl := HW.out
          clear HW
          have hjk : j ≤ k := HJ.out
          have hj0 : (0 : Int) ≤ (j : Int) := by omega
          by_cases hjk2 : j < k
          · have hj1 : j < m := by omega
            have hji : (j : Int) < (m : Int) := by omega
            have hLj : L[j]? = some (L[j]'(by have := HM.out; omega)) := List.getElem?_eq_getElem _
            generalize L[j]'_ = y at hLj
            obtain ⟨ad2, ead2, hcl⟩ := q_cells HRW1.out (by omega)
            subst ead2
            have hcy := hcl j (.int .i64 y) (by rw [List.getElem?_map, hLj]; rfl)
            have hyx := kOf_lt x L j y (by rw [HKK.out]; exact hjk2) hLj
            have p3 : decide (j < m) = true := decide_eq_true hj1
            have p2 : decide (y < x) = true := decide_eq_true hyx
            clear hcl hLj hyx
            go_wp2
            go_roundg (gk - 1)
            case measure => have := HKj.out; omega
            case rel => exact ⟨j + 1, by go_num, ⟨by have := HKj.out; omega⟩, ⟨by omega⟩, ⟨rfl⟩⟩
          · obtain rfl : j = k := by omega
            have HQD : Aside0 (SQ w wr.drew (.slice A m c) L) := ⟨HQ1.out.all (below_drew1 (Below.refl _ _))⟩
            have hjc : j ≤ c := Nat.le_trans hkm hmc
            have hjm : (j : Int) ≤ (m : Int) := by omega
            have hcf := cut_from (P := Try.prog) 22 3 .i64 Try.underlying22 hi0 1 hz1 A m c (j : Int) hj0 hjm
            rw [show ((j : Int)).toNat = j from rfl] at hcf
            obtain ⟨S, hS⟩ : ∃ S : Option Addr, (if c = j then A else A.map (·.add (j * 1))) = S := ⟨_, rfl⟩
            rw [hS] at hcf
            have HX1 : Aside0 (QRow wr.drew w.heap.size 3 1 (.slice A j c) j ((L.take j).map (Value.int .i64))) := ⟨by have h1 := q_take (m := j) (q_move (w1 := wr.drew) HRW1.out fun _ _ => rfl) hkm; rw [Nat.mul_one, ← List.map_take] at h1; exact h1⟩
            have HX2 : Aside0 (QRow wr.drew w.heap.size 3 1 (.slice S (m - j) (c - j)) (m - j) ((L.drop j).map (Value.int .i64))) := ⟨by have h1 := q_drop (k := j) (q_move (w1 := wr.drew) HRW1.out fun _ _ => rfl) hkm; rw [hS, Nat.mul_one, ← List.map_drop] at h1; exact h1⟩
            clear hS
            by_cases hjm2 : j < m
            · have hLj : L[j]? = some (L[j]'(by have := HM.out; omega)) := List.getElem?_eq_getElem _
              generalize L[j]'_ = y at hLj
              obtain ⟨ad2, ead2, hcl⟩ := q_cells HRW1.out (by omega)
              subst ead2
              have hcy := hcl j (.int .i64 y) (by rw [List.getElem?_map, hLj]; rfl)
              have hyx := kOf_ge x L y (by rw [HKK.out]; exact hLj)
              have p3 : decide (j < m) = true := decide_eq_true hjm2
              have p2 : decide (y < x) = false := decide_eq_false hyx
              have hji : (j : Int) < (m : Int) := by omega
              clear hcl hLj hyx hjm2
              go_wp2
              clear hcy p2 p3
              refine L_region (d1 := 11) (C1 := (fun _ => True)) (d2 := 11) (C2 := (fun _ => True)) (by kernel_rfl) (SL2.mk trivial trivial) (fun hS0 => ?_)
              generalize hWd : World.drew (wr) = Wd at *
              have HWd := Aside0.mk hWd
              clear hWd
              refine L_pure 1 (v := ?vra_1) (getS (get0)) (by kernel_rfl) (by kernel_rfl) (by kernel_rfl) (fun _ _ _ h => h) (by decide) (by decide) (by rfl) ?hyra_1 hS0 (fun hS1 => ?rera_1)
              case hyra_1 => (intro w9; go_simp; try with_reducible rfl)
              clear hS0
              have hS0 := hS1
              clear hS1
              try simp only [Act.put, List.setIfInBounds_toArray, List.set_cons_zero, List.set_cons_succ]
              refine L_pure 2 (v := ?vra_2) (getS (getS (get0))) (by kernel_rfl) (by kernel_rfl) (by kernel_rfl) (fun _ _ _ h => h) (by decide) (by decide) (by rfl) ?hyra_2 hS0 (fun hS1 => ?rera_2)
              case hyra_2 => (intro w9; go_simp; try with_reducible rfl)
              clear hS0
              have hS0 := hS1
              clear hS1
              try simp only [Act.put, List.setIfInBounds_toArray, List.set_cons_zero, List.set_cons_succ]
              refine L_pure 3 (v := ?vra_3) (getS (getS (getS (get0)))) (by kernel_rfl) (by kernel_rfl) (by kernel_rfl) (fun _ _ _ h => h) (by decide) (by decide) (by rfl) ?hyra_3 hS0 (fun hS1 => ?rera_3)
              case hyra_3 => (intro w9; go_simp; try with_reducible rfl)
              clear hS0
              have hS0 := hS1
              clear hS1
              try simp only [Act.put, List.setIfInBounds_toArray, List.set_cons_zero, List.set_cons_succ]
              refine L_pure 5 (v := ?vra_4) (getS (getS (getS (getS (getS (get0)))))) (by kernel_rfl) (by kernel_rfl) (by kernel_rfl) (fun _ _ _ h => h) (by decide) (by decide) (by rfl) ?hyra_4 hS0 (fun hS1 => ?rera_4)
              case hyra_4 => (intro w9; go_simp; try with_reducible rfl)
              clear hS0
              have hS0 := hS1
              clear hS1
              try simp only [Act.put, List.setIfInBounds_toArray, List.set_cons_zero, List.set_cons_succ]
              refine L_pure 8 (v := ?vra_5) (getS (getS (getS (getS (getS (getS (getS (getS (get0))))))))) (by kernel_rfl) (by kernel_rfl) (by kernel_rfl) (fun _ _ _ h => h) (by decide) (by decide) (by rfl) ?hyra_5 hS0 (fun hS1 => ?rera_5)
              case hyra_5 => (intro w9; go_simp; try with_reducible rfl)
              clear hS0
              have hS0 := hS1
              clear hS1
              try simp only [Act.put, List.setIfInBounds_toArray, List.set_cons_zero, List.set_cons_succ]
              refine L_pure 9 (v := ?vra_6) (getS (getS (getS (getS (getS (getS (getS (getS (getS (get0)))))))))) (by kernel_rfl) (by kernel_rfl) (by kernel_rfl) (fun _ _ _ h => h) (by decide) (by decide) (by rfl) ?hyra_6 hS0 (fun hS1 => ?rera_6)
              case hyra_6 => (intro w9; go_simp; try with_reducible rfl)
              clear hS0
              have hS0 := hS1
              clear hS1
              try simp only [Act.put, List.setIfInBounds_toArray, List.set_cons_zero, List.set_cons_succ]
              refine L_pure 10 (v := ?vra_7) (getS (getS (getS (getS (getS (getS (getS (getS (getS (getS (get0))))))))))) (by kernel_rfl) (by kernel_rfl) (by kernel_rfl) (fun _ _ _ h => h) (by decide) (by decide) (by rfl) ?hyra_7 hS0 (fun hS1 => ?rera_7)
              case hyra_7 => (intro w9; go_simp; try with_reducible rfl)
              clear hS0
              have hS0 := hS1
              clear hS1
              try simp only [Act.put, List.setIfInBounds_toArray, List.set_cons_zero, List.set_cons_succ]
              refine L_step2 0 6 (by kernel_rfl) (get0) (getS (getS (getS (getS (getS (getS (get0))))))) ?_ ?_
              · intro K hK
                go_simp
                have HA : Aside0 (AS Wd (Wd.alloc (.cells #[] 3)) 3 (.slice (some ⟨Wd.heap.size, 0, none⟩) 0 0) 0 []) := ⟨AS.new (Below.refl _ _)⟩
                refine hK.out _ _ (SL2.mk trivial trivial) (fun hS1 => ?_)
                clear hK K hS0
                have hS0 := hS1
                clear hS1
                try simp only [Act.put, List.setIfInBounds_toArray, List.set_cons_zero, List.set_cons_succ]
                refine L_step2 4 6 (by kernel_rfl) (getS (getS (getS (getS (get0))))) (getS (getS (getS (getS (getS (getS (get0))))))) ?_ ?_
                · intro K hK
                  refine step_append_q (by rfl) (.tmp 30) (.tmp 33) 22 (by rfl) Wd.heap.size w.heap.size 3 i0 (.int .i64 0) 8 Try.underlying22 hi0 hz0 hz1 hz2 rfl _ _ _ (by rfl) HA.out.row _ j _ _ (by rfl) (HA.out.src HX1.out) (one_ints (L.take j)) (by unfold maxLen; omega) (by omega) HA.out.below.size ?_
                  intro va wa qa ga oa
                  have HA_ := Aside0.mk (HA.out.app ga qa)
                  clear HA
                  have HA := HA_
                  clear HA_ qa ga oa
                  refine hK.out _ _ (SL2.mk trivial trivial) (fun hS1 => ?_)
                  clear hK K hS0
                  have hS0 := hS1
                  clear hS1
                  try simp only [Act.put, List.setIfInBounds_toArray, List.set_cons_zero, List.set_cons_succ]
                  refine L_step 6 (by kernel_rfl) (getS (getS (getS (getS (getS (getS (get0))))))) (fun K hK => ?_)
                  go_simp
                  have HB1 := AN.new HA.out (.int .i64 x)
                  try simp only [alloc_size] at HB1
                  clear HA
                  have HA := Aside0.mk HB1.1
                  have HN1 := Aside0.mk HB1.2
                  clear HB1
                  refine hK.out _ _ (SL2.mk trivial trivial) (fun hS1 => ?_)
                  clear hK K hS0
                  have hS0 := hS1
                  clear hS1
                  try simp only [Act.put, List.setIfInBounds_toArray, List.set_cons_zero, List.set_cons_succ]
                  refine L_step 7 (by kernel_rfl) (getS (getS (getS (getS (getS (getS (getS (get0)))))))) (fun K hK => ?_)
                  refine step_append_q (by rfl) (.tmp 34) (.tmp 36) 22 (by rfl) Wd.heap.size Wd.heap.size 3 i0 (.int .i64 0) 8 Try.underlying22 hi0 hz0 hz1 hz2 rfl _ _ _ (by rfl) HA.out.row _ 1 _ _ (by rfl) HN1.out.row (one_ints [x]) (by unfold maxLen; omega) (by omega) HA.out.below.size ?_
                  intro vb wb qb gb ob
                  have HA_ := Aside0.mk (HA.out.app gb qb)
                  clear HA
                  have HA := HA_
                  clear HA_ qb gb ob
                  clear HN1
                  refine hK.out _ _ (SL2.mk trivial trivial) (fun hS1 => ?_)
                  clear hK K hS0
                  have hS0 := hS1
                  clear hS1
                  try simp only [Act.put, List.setIfInBounds_toArray, List.set_cons_zero, List.set_cons_succ]
                  refine L_step 11 (by kernel_rfl) (getS (getS (getS (getS (getS (getS (getS (getS (getS (getS (getS (get0)))))))))))) (fun K hK => ?_)
                  refine step_append_q (by rfl) (.tmp 37) (.tmp 40) 22 (by rfl) Wd.heap.size w.heap.size 3 i0 (.int .i64 0) 8 Try.underlying22 hi0 hz0 hz1 hz2 rfl _ _ _ (by rfl) HA.out.row _ (m - j) _ _ (by rfl) (HA.out.src HX2.out) (one_ints (L.drop j)) (by unfold maxLen; omega) (by omega) HA.out.below.size ?_
                  intro vc wc qc gc oc
                  have HA_ := Aside0.mk (HA.out.app gc qc)
                  clear HA
                  have HA := HA_
                  clear HA_ qc gc oc
                  refine hK.out _ _ (SL2.mk trivial trivial) (fun hS1 => ?_)
                  clear hK K hS0
                  have hS0 := hS1
                  clear hS1
                  try simp only [Act.put, List.setIfInBounds_toArray, List.set_cons_zero, List.set_cons_succ]
                  refine L_pure 12 (v := ?vra_8) (getS (getS (getS (getS (getS (getS (getS (getS (getS (getS (getS (getS (get0))))))))))))) (by kernel_rfl) (by kernel_rfl) (by kernel_rfl) (fun _ _ _ h => h) (by decide) (by decide) (by rfl) ?hyra_8 hS0 (fun hS1 => ?rera_8)
                  case hyra_8 => (intro w9; go_simp; try with_reducible rfl)
                  clear hS0
                  have hS0 := hS1
                  clear hS1
                  try simp only [Act.put, List.setIfInBounds_toArray, List.set_cons_zero, List.set_cons_succ]
                  refine L_done (by kernel_rfl) ?_
                  clear hS0
                  go_wp2
                  go_roundg (K - 1)
                  case measure => have := HK.out; omega
                  case rel =>
                    refine ⟨i + 1, ins x L, by go_num, ⟨by have := HK.out; omega⟩, ⟨by omega⟩, ⟨SQ.put HQD.out HA.out HNX.out HM.out HKK.out⟩, ⟨ins_sorted x L HSR.out HNX.out⟩, ⟨fun y => ?_⟩⟩
                    rw [ins_mem, HMM.out y, take_snoc_ HLX.out, List.mem_append, List.mem_singleton]; exact or_comm
                · intro K hK
                  go_simp
                  have HB1 := AN.new HA.out (.int .i64 x)
                  try simp only [alloc_size] at HB1
                  clear HA
                  have HA := Aside0.mk HB1.1
                  have HN1 := Aside0.mk HB1.2
                  clear HB1
                  refine hK.out _ _ (SL2.mk trivial trivial) (fun hS1 => ?_)
                  clear hK K hS0
                  have hS0 := hS1
                  clear hS1
                  try simp only [Act.put, List.setIfInBounds_toArray, List.set_cons_zero, List.set_cons_succ]
                  refine L_step 4 (by kernel_rfl) (getS (getS (getS (getS (get0))))) (fun K hK => ?_)
                  refine step_append_q (by rfl) (.tmp 30) (.tmp 33) 22 (by rfl) Wd.heap.size w.heap.size 3 i0 (.int .i64 0) 8 Try.underlying22 hi0 hz0 hz1 hz2 rfl _ _ _ (by rfl) HA.out.row _ j _ _ (by rfl) (HA.out.src HX1.out) (one_ints (L.take j)) (by unfold maxLen; omega) (by omega) HA.out.below.size ?_
                  intro va wa qa ga oa
                  have HA_ := Aside0.mk (HA.out.app ga qa)
                  clear HA
                  have HN2 := Aside0.mk (HN1.out.app ga oa)
                  clear HN1
                  have HA := HA_
                  clear HA_ qa ga oa
                  have HN1 := HN2
                  clear HN2
                  refine hK.out _ _ (SL2.mk trivial trivial) (fun hS1 => ?_)
                  clear hK K hS0
                  have hS0 := hS1
                  clear hS1
                  try simp only [Act.put, List.setIfInBounds_toArray, List.set_cons_zero, List.set_cons_succ]
                  refine L_step 7 (by kernel_rfl) (getS (getS (getS (getS (getS (getS (getS (get0)))))))) (fun K hK => ?_)
                  refine step_append_q (by rfl) (.tmp 34) (.tmp 36) 22 (by rfl) Wd.heap.size Wd.heap.size 3 i0 (.int .i64 0) 8 Try.underlying22 hi0 hz0 hz1 hz2 rfl _ _ _ (by rfl) HA.out.row _ 1 _ _ (by rfl) HN1.out.row (one_ints [x]) (by unfold maxLen; omega) (by omega) HA.out.below.size ?_
                  intro vb wb qb gb ob
                  have HA_ := Aside0.mk (HA.out.app gb qb)
                  clear HA
                  have HA := HA_
                  clear HA_ qb gb ob
                  clear HN1
                  refine hK.out _ _ (SL2.mk trivial trivial) (fun hS1 => ?_)
                  clear hK K hS0
                  have hS0 := hS1
                  clear hS1
                  try simp only [Act.put, List.setIfInBounds_toArray, List.set_cons_zero, List.set_cons_succ]
                  refine L_step 11 (by kernel_rfl) (getS (getS (getS (getS (getS (getS (getS (getS (getS (getS (getS (get0)))))))))))) (fun K hK => ?_)
                  refine step_append_q (by rfl) (.tmp 37) (.tmp 40) 22 (by rfl) Wd.heap.size w.heap.size 3 i0 (.int .i64 0) 8 Try.underlying22 hi0 hz0 hz1 hz2 rfl _ _ _ (by rfl) HA.out.row _ (m - j) _ _ (by rfl) (HA.out.src HX2.out) (one_ints (L.drop j)) (by unfold maxLen; omega) (by omega) HA.out.below.size ?_
                  intro vc wc qc gc oc
                  have HA_ := Aside0.mk (HA.out.app gc qc)
                  clear HA
                  have HA := HA_
                  clear HA_ qc gc oc
                  refine hK.out _ _ (SL2.mk trivial trivial) (fun hS1 => ?_)
                  clear hK K hS0
                  have hS0 := hS1
                  clear hS1
                  try simp only [Act.put, List.setIfInBounds_toArray, List.set_cons_zero, List.set_cons_succ]
                  refine L_pure 12 (v := ?vra_9) (getS (getS (getS (getS (getS (getS (getS (getS (getS (getS (getS (getS (get0))))))))))))) (by kernel_rfl) (by kernel_rfl) (by kernel_rfl) (fun _ _ _ h => h) (by decide) (by decide) (by rfl) ?hyra_9 hS0 (fun hS1 => ?rera_9)
                  case hyra_9 => (intro w9; go_simp; try with_reducible rfl)
                  clear hS0
                  have hS0 := hS1
                  clear hS1
                  try simp only [Act.put, List.setIfInBounds_toArray, List.set_cons_zero, List.set_cons_succ]
                  refine L_done (by kernel_rfl) ?_
                  clear hS0
                  go_wp2
                  go_roundg (K - 1)
                  case measure => have := HK.out; omega
                  case rel =>
                    refine ⟨i + 1, ins x L, by go_num, ⟨by have := HK.out; omega⟩, ⟨by omega⟩, ⟨SQ.put HQD.out HA.out HNX.out HM.out HKK.out⟩, ⟨ins_sorted x L HSR.out HNX.out⟩, ⟨fun y => ?_⟩⟩
                    rw [ins_mem, HMM.out y, take_snoc_ HLX.out, List.mem_append, List.mem_singleton]; exact or_comm
              · intro K hK
                go_simp
                have HB0 : Aside0 (Below Wd.heap.size Wd (Wd.alloc (.cells #[.int .i64 x] 3)) ∧ QRow (Wd.alloc (.cells #[.int .i64 x] 3)) Wd.heap.size 3 1 (.slice (some ⟨Wd.heap.size, 0, none⟩) 1 1) 1 [.int .i64 x]) := ⟨(Below.refl _ _).alloc (Nat.le_refl _) _, an_row (Below.refl _ _) _⟩
                refine hK.out _ _ (SL2.mk trivial trivial) (fun hS1 => ?_)
                clear hK K hS0
                have hS0 := hS1
                clear hS1
                try simp only [Act.put, List.setIfInBounds_toArray, List.set_cons_zero, List.set_cons_succ]
                refine L_step 0 (by kernel_rfl) (get0) (fun K hK => ?_)
                go_simp
                have HB1 := AS.new (e := 3) HB0.out.1
                have HB2 := AN.behind (e := 3) HB0.out.2
                simp only [alloc_size] at HB1 HB2
                have HA := Aside0.mk HB1
                have HN1 := Aside0.mk HB2
                clear HB1 HB2 HB0
                refine hK.out _ _ (SL2.mk trivial trivial) (fun hS1 => ?_)
                clear hK K hS0
                have hS0 := hS1
                clear hS1
                try simp only [Act.put, List.setIfInBounds_toArray, List.set_cons_zero, List.set_cons_succ]
                refine L_step 4 (by kernel_rfl) (getS (getS (getS (getS (get0))))) (fun K hK => ?_)
                refine step_append_q (by rfl) (.tmp 30) (.tmp 33) 22 (by rfl) Wd.heap.size w.heap.size 3 i0 (.int .i64 0) 8 Try.underlying22 hi0 hz0 hz1 hz2 rfl _ _ _ (by rfl) HA.out.row _ j _ _ (by rfl) (HA.out.src HX1.out) (one_ints (L.take j)) (by unfold maxLen; omega) (by omega) HA.out.below.size ?_
                intro va wa qa ga oa
                have HA_ := Aside0.mk (HA.out.app ga qa)
                clear HA
                have HN2 := Aside0.mk (HN1.out.app ga oa)
                clear HN1
                have HA := HA_
                clear HA_ qa ga oa
                have HN1 := HN2
                clear HN2
                refine hK.out _ _ (SL2.mk trivial trivial) (fun hS1 => ?_)
                clear hK K hS0
                have hS0 := hS1
                clear hS1
                try simp only [Act.put, List.setIfInBounds_toArray, List.set_cons_zero, List.set_cons_succ]
                refine L_step 7 (by kernel_rfl) (getS (getS (getS (getS (getS (getS (getS (get0)))))))) (fun K hK => ?_)
                refine step_append_q (by rfl) (.tmp 34) (.tmp 36) 22 (by rfl) Wd.heap.size Wd.heap.size 3 i0 (.int .i64 0) 8 Try.underlying22 hi0 hz0 hz1 hz2 rfl _ _ _ (by rfl) HA.out.row _ 1 _ _ (by rfl) HN1.out.row (one_ints [x]) (by unfold maxLen; omega) (by omega) HA.out.below.size ?_
                intro vb wb qb gb ob
                have HA_ := Aside0.mk (HA.out.app gb qb)
                clear HA
                have HA := HA_
                clear HA_ qb gb ob
                clear HN1
                refine hK.out _ _ (SL2.mk trivial trivial) (fun hS1 => ?_)
                clear hK K hS0
                have hS0 := hS1
                clear hS1
                try simp only [Act.put, List.setIfInBounds_toArray, List.set_cons_zero, List.set_cons_succ]
                refine L_step 11 (by kernel_rfl) (getS (getS (getS (getS (getS (getS (getS (getS (getS (getS (getS (get0)))))))))))) (fun K hK => ?_)
                refine step_append_q (by rfl) (.tmp 37) (.tmp 40) 22 (by rfl) Wd.heap.size w.heap.size 3 i0 (.int .i64 0) 8 Try.underlying22 hi0 hz0 hz1 hz2 rfl _ _ _ (by rfl) HA.out.row _ (m - j) _ _ (by rfl) (HA.out.src HX2.out) (one_ints (L.drop j)) (by unfold maxLen; omega) (by omega) HA.out.below.size ?_
                intro vc wc qc gc oc
                have HA_ := Aside0.mk (HA.out.app gc qc)
                clear HA
                have HA := HA_
                clear HA_ qc gc oc
                refine hK.out _ _ (SL2.mk trivial trivial) (fun hS1 => ?_)
                clear hK K hS0
                have hS0 := hS1
                clear hS1
                try simp only [Act.put, List.setIfInBounds_toArray, List.set_cons_zero, List.set_cons_succ]
                refine L_pure 12 (v := ?vra_10) (getS (getS (getS (getS (getS (getS (getS (getS (getS (getS (getS (getS (get0))))))))))))) (by kernel_rfl) (by kernel_rfl) (by kernel_rfl) (fun _ _ _ h => h) (by decide) (by decide) (by rfl) ?hyra_10 hS0 (fun hS1 => ?rera_10)
                case hyra_10 => (intro w9; go_simp; try with_reducible rfl)
                clear hS0
                have hS0 := hS1
                clear hS1
                try simp only [Act.put, List.setIfInBounds_toArray, List.set_cons_zero, List.set_cons_succ]
                refine L_done (by kernel_rfl) ?_
                clear hS0
                go_wp2
                go_roundg (K - 1)
                case measure => have := HK.out; omega
                case rel =>
                  refine ⟨i + 1, ins x L, by go_num, ⟨by have := HK.out; omega⟩, ⟨by omega⟩, ⟨SQ.put HQD.out HA.out HNX.out HM.out HKK.out⟩, ⟨ins_sorted x L HSR.out HNX.out⟩, ⟨fun y => ?_⟩⟩
                  rw [ins_mem, HMM.out y, take_snoc_ HLX.out, List.mem_append, List.mem_singleton]; exact or_comm

            · have p3 : decide (j < m) = false := decide_eq_false hjm2
              clear hjm2
              go_wp2
              clear p3
              refine L_region (d1 := 11) (C1 := (fun _ => True)) (d2 := 11) (C2 := (fun _ => True)) (by kernel_rfl) (SL2.mk trivial trivial) (fun hS0 => ?_)
              generalize hWd : World.drew (wr) = Wd at *
              have HWd := Aside0.mk hWd
              clear hWd
              refine L_pure 1 (v := ?vrb_1) (getS (get0)) (by kernel_rfl) (by kernel_rfl) (by kernel_rfl) (fun _ _ _ h => h) (by decide) (by decide) (by rfl) ?hyrb_1 hS0 (fun hS1 => ?rerb_1)
              case hyrb_1 => (intro w9; go_simp; try with_reducible rfl)
              clear hS0
              have hS0 := hS1
              clear hS1
              try simp only [Act.put, List.setIfInBounds_toArray, List.set_cons_zero, List.set_cons_succ]
              refine L_pure 2 (v := ?vrb_2) (getS (getS (get0))) (by kernel_rfl) (by kernel_rfl) (by kernel_rfl) (fun _ _ _ h => h) (by decide) (by decide) (by rfl) ?hyrb_2 hS0 (fun hS1 => ?rerb_2)
              case hyrb_2 => (intro w9; go_simp; try with_reducible rfl)
              clear hS0
              have hS0 := hS1
              clear hS1
              try simp only [Act.put, List.setIfInBounds_toArray, List.set_cons_zero, List.set_cons_succ]
              refine L_pure 3 (v := ?vrb_3) (getS (getS (getS (get0)))) (by kernel_rfl) (by kernel_rfl) (by kernel_rfl) (fun _ _ _ h => h) (by decide) (by decide) (by rfl) ?hyrb_3 hS0 (fun hS1 => ?rerb_3)
              case hyrb_3 => (intro w9; go_simp; try with_reducible rfl)
              clear hS0
              have hS0 := hS1
              clear hS1
              try simp only [Act.put, List.setIfInBounds_toArray, List.set_cons_zero, List.set_cons_succ]
              refine L_pure 5 (v := ?vrb_4) (getS (getS (getS (getS (getS (get0)))))) (by kernel_rfl) (by kernel_rfl) (by kernel_rfl) (fun _ _ _ h => h) (by decide) (by decide) (by rfl) ?hyrb_4 hS0 (fun hS1 => ?rerb_4)
              case hyrb_4 => (intro w9; go_simp; try with_reducible rfl)
              clear hS0
              have hS0 := hS1
              clear hS1
              try simp only [Act.put, List.setIfInBounds_toArray, List.set_cons_zero, List.set_cons_succ]
              refine L_pure 8 (v := ?vrb_5) (getS (getS (getS (getS (getS (getS (getS (getS (get0))))))))) (by kernel_rfl) (by kernel_rfl) (by kernel_rfl) (fun _ _ _ h => h) (by decide) (by decide) (by rfl) ?hyrb_5 hS0 (fun hS1 => ?rerb_5)
              case hyrb_5 => (intro w9; go_simp; try with_reducible rfl)
              clear hS0
              have hS0 := hS1
              clear hS1
              try simp only [Act.put, List.setIfInBounds_toArray, List.set_cons_zero, List.set_cons_succ]
              refine L_pure 9 (v := ?vrb_6) (getS (getS (getS (getS (getS (getS (getS (getS (getS (get0)))))))))) (by kernel_rfl) (by kernel_rfl) (by kernel_rfl) (fun _ _ _ h => h) (by decide) (by decide) (by rfl) ?hyrb_6 hS0 (fun hS1 => ?rerb_6)
              case hyrb_6 => (intro w9; go_simp; try with_reducible rfl)
              clear hS0
              have hS0 := hS1
              clear hS1
              try simp only [Act.put, List.setIfInBounds_toArray, List.set_cons_zero, List.set_cons_succ]
              refine L_pure 10 (v := ?vrb_7) (getS (getS (getS (getS (getS (getS (getS (getS (getS (getS (get0))))))))))) (by kernel_rfl) (by kernel_rfl) (by kernel_rfl) (fun _ _ _ h => h) (by decide) (by decide) (by rfl) ?hyrb_7 hS0 (fun hS1 => ?rerb_7)
              case hyrb_7 => (intro w9; go_simp; try with_reducible rfl)
              clear hS0
              have hS0 := hS1
              clear hS1
              try simp only [Act.put, List.setIfInBounds_toArray, List.set_cons_zero, List.set_cons_succ]
              refine L_step2 0 6 (by kernel_rfl) (get0) (getS (getS (getS (getS (getS (getS (get0))))))) ?_ ?_
              · intro K hK
                go_simp
                have HA : Aside0 (AS Wd (Wd.alloc (.cells #[] 3)) 3 (.slice (some ⟨Wd.heap.size, 0, none⟩) 0 0) 0 []) := ⟨AS.new (Below.refl _ _)⟩
                refine hK.out _ _ (SL2.mk trivial trivial) (fun hS1 => ?_)
                clear hK K hS0
                have hS0 := hS1
                clear hS1
                try simp only [Act.put, List.setIfInBounds_toArray, List.set_cons_zero, List.set_cons_succ]
                refine L_step2 4 6 (by kernel_rfl) (getS (getS (getS (getS (get0))))) (getS (getS (getS (getS (getS (getS (get0))))))) ?_ ?_
                · intro K hK
                  refine step_append_q (by rfl) (.tmp 30) (.tmp 33) 22 (by rfl) Wd.heap.size w.heap.size 3 i0 (.int .i64 0) 8 Try.underlying22 hi0 hz0 hz1 hz2 rfl _ _ _ (by rfl) HA.out.row _ j _ _ (by rfl) (HA.out.src HX1.out) (one_ints (L.take j)) (by unfold maxLen; omega) (by omega) HA.out.below.size ?_
                  intro va wa qa ga oa
                  have HA_ := Aside0.mk (HA.out.app ga qa)
                  clear HA
                  have HA := HA_
                  clear HA_ qa ga oa
                  refine hK.out _ _ (SL2.mk trivial trivial) (fun hS1 => ?_)
                  clear hK K hS0
                  have hS0 := hS1
                  clear hS1
                  try simp only [Act.put, List.setIfInBounds_toArray, List.set_cons_zero, List.set_cons_succ]
                  refine L_step 6 (by kernel_rfl) (getS (getS (getS (getS (getS (getS (get0))))))) (fun K hK => ?_)
                  go_simp
                  have HB1 := AN.new HA.out (.int .i64 x)
                  try simp only [alloc_size] at HB1
                  clear HA
                  have HA := Aside0.mk HB1.1
                  have HN1 := Aside0.mk HB1.2
                  clear HB1
                  refine hK.out _ _ (SL2.mk trivial trivial) (fun hS1 => ?_)
                  clear hK K hS0
                  have hS0 := hS1
                  clear hS1
                  try simp only [Act.put, List.setIfInBounds_toArray, List.set_cons_zero, List.set_cons_succ]
                  refine L_step 7 (by kernel_rfl) (getS (getS (getS (getS (getS (getS (getS (get0)))))))) (fun K hK => ?_)
                  refine step_append_q (by rfl) (.tmp 34) (.tmp 36) 22 (by rfl) Wd.heap.size Wd.heap.size 3 i0 (.int .i64 0) 8 Try.underlying22 hi0 hz0 hz1 hz2 rfl _ _ _ (by rfl) HA.out.row _ 1 _ _ (by rfl) HN1.out.row (one_ints [x]) (by unfold maxLen; omega) (by omega) HA.out.below.size ?_
                  intro vb wb qb gb ob
                  have HA_ := Aside0.mk (HA.out.app gb qb)
                  clear HA
                  have HA := HA_
                  clear HA_ qb gb ob
                  clear HN1
                  refine hK.out _ _ (SL2.mk trivial trivial) (fun hS1 => ?_)
                  clear hK K hS0
                  have hS0 := hS1
                  clear hS1
                  try simp only [Act.put, List.setIfInBounds_toArray, List.set_cons_zero, List.set_cons_succ]
                  refine L_step 11 (by kernel_rfl) (getS (getS (getS (getS (getS (getS (getS (getS (getS (getS (getS (get0)))))))))))) (fun K hK => ?_)
                  refine step_append_q (by rfl) (.tmp 37) (.tmp 40) 22 (by rfl) Wd.heap.size w.heap.size 3 i0 (.int .i64 0) 8 Try.underlying22 hi0 hz0 hz1 hz2 rfl _ _ _ (by rfl) HA.out.row _ (m - j) _ _ (by rfl) (HA.out.src HX2.out) (one_ints (L.drop j)) (by unfold maxLen; omega) (by omega) HA.out.below.size ?_
                  intro vc wc qc gc oc
                  have HA_ := Aside0.mk (HA.out.app gc qc)
                  clear HA
                  have HA := HA_
                  clear HA_ qc gc oc
                  refine hK.out _ _ (SL2.mk trivial trivial) (fun hS1 => ?_)
                  clear hK K hS0
                  have hS0 := hS1
                  clear hS1
                  try simp only [Act.put, List.setIfInBounds_toArray, List.set_cons_zero, List.set_cons_succ]
                  refine L_pure 12 (v := ?vrb_8) (getS (getS (getS (getS (getS (getS (getS (getS (getS (getS (getS (getS (get0))))))))))))) (by kernel_rfl) (by kernel_rfl) (by kernel_rfl) (fun _ _ _ h => h) (by decide) (by decide) (by rfl) ?hyrb_8 hS0 (fun hS1 => ?rerb_8)
                  case hyrb_8 => (intro w9; go_simp; try with_reducible rfl)
                  clear hS0
                  have hS0 := hS1
                  clear hS1
                  try simp only [Act.put, List.setIfInBounds_toArray, List.set_cons_zero, List.set_cons_succ]
                  refine L_done (by kernel_rfl) ?_
                  clear hS0
                  go_wp2
                  go_roundg (K - 1)
                  case measure => have := HK.out; omega
                  case rel =>
                    refine ⟨i + 1, ins x L, by go_num, ⟨by have := HK.out; omega⟩, ⟨by omega⟩, ⟨SQ.put HQD.out HA.out HNX.out HM.out HKK.out⟩, ⟨ins_sorted x L HSR.out HNX.out⟩, ⟨fun y => ?_⟩⟩
                    rw [ins_mem, HMM.out y, take_snoc_ HLX.out, List.mem_append, List.mem_singleton]; exact or_comm
                · intro K hK
                  go_simp
                  have HB1 := AN.new HA.out (.int .i64 x)
                  try simp only [alloc_size] at HB1
                  clear HA
                  have HA := Aside0.mk HB1.1
                  have HN1 := Aside0.mk HB1.2
                  clear HB1
                  refine hK.out _ _ (SL2.mk trivial trivial) (fun hS1 => ?_)
                  clear hK K hS0
                  have hS0 := hS1
                  clear hS1
                  try simp only [Act.put, List.setIfInBounds_toArray, List.set_cons_zero, List.set_cons_succ]
                  refine L_step 4 (by kernel_rfl) (getS (getS (getS (getS (get0))))) (fun K hK => ?_)
                  refine step_append_q (by rfl) (.tmp 30) (.tmp 33) 22 (by rfl) Wd.heap.size w.heap.size 3 i0 (.int .i64 0) 8 Try.underlying22 hi0 hz0 hz1 hz2 rfl _ _ _ (by rfl) HA.out.row _ j _ _ (by rfl) (HA.out.src HX1.out) (one_ints (L.take j)) (by unfold maxLen; omega) (by omega) HA.out.below.size ?_
                  intro va wa qa ga oa
                  have HA_ := Aside0.mk (HA.out.app ga qa)
                  clear HA
                  have HN2 := Aside0.mk (HN1.out.app ga oa)
                  clear HN1
                  have HA := HA_
                  clear HA_ qa ga oa
                  have HN1 := HN2
                  clear HN2
                  refine hK.out _ _ (SL2.mk trivial trivial) (fun hS1 => ?_)
                  clear hK K hS0
                  have hS0 := hS1
                  clear hS1
                  try simp only [Act.put, List.setIfInBounds_toArray, List.set_cons_zero, List.set_cons_succ]
                  refine L_step 7 (by kernel_rfl) (getS (getS (getS (getS (getS (getS (getS (get0)))))))) (fun K hK => ?_)
                  refine step_append_q (by rfl) (.tmp 34) (.tmp 36) 22 (by rfl) Wd.heap.size Wd.heap.size 3 i0 (.int .i64 0) 8 Try.underlying22 hi0 hz0 hz1 hz2 rfl _ _ _ (by rfl) HA.out.row _ 1 _ _ (by rfl) HN1.out.row (one_ints [x]) (by unfold maxLen; omega) (by omega) HA.out.below.size ?_
                  intro vb wb qb gb ob
                  have HA_ := Aside0.mk (HA.out.app gb qb)
                  clear HA
                  have HA := HA_
                  clear HA_ qb gb ob
                  clear HN1
                  refine hK.out _ _ (SL2.mk trivial trivial) (fun hS1 => ?_)
                  clear hK K hS0
                  have hS0 := hS1
                  clear hS1
                  try simp only [Act.put, List.setIfInBounds_toArray, List.set_cons_zero, List.set_cons_succ]
                  refine L_step 11 (by kernel_rfl) (getS (getS (getS (getS (getS (getS (getS (getS (getS (getS (getS (get0)))))))))))) (fun K hK => ?_)
                  refine step_append_q (by rfl) (.tmp 37) (.tmp 40) 22 (by rfl) Wd.heap.size w.heap.size 3 i0 (.int .i64 0) 8 Try.underlying22 hi0 hz0 hz1 hz2 rfl _ _ _ (by rfl) HA.out.row _ (m - j) _ _ (by rfl) (HA.out.src HX2.out) (one_ints (L.drop j)) (by unfold maxLen; omega) (by omega) HA.out.below.size ?_
                  intro vc wc qc gc oc
                  have HA_ := Aside0.mk (HA.out.app gc qc)
                  clear HA
                  have HA := HA_
                  clear HA_ qc gc oc
                  refine hK.out _ _ (SL2.mk trivial trivial) (fun hS1 => ?_)
                  clear hK K hS0
                  have hS0 := hS1
                  clear hS1
                  try simp only [Act.put, List.setIfInBounds_toArray, List.set_cons_zero, List.set_cons_succ]
                  refine L_pure 12 (v := ?vrb_9) (getS (getS (getS (getS (getS (getS (getS (getS (getS (getS (getS (getS (get0))))))))))))) (by kernel_rfl) (by kernel_rfl) (by kernel_rfl) (fun _ _ _ h => h) (by decide) (by decide) (by rfl) ?hyrb_9 hS0 (fun hS1 => ?rerb_9)
                  case hyrb_9 => (intro w9; go_simp; try with_reducible rfl)
                  clear hS0
                  have hS0 := hS1
                  clear hS1
                  try simp only [Act.put, List.setIfInBounds_toArray, List.set_cons_zero, List.set_cons_succ]
                  refine L_done (by kernel_rfl) ?_
                  clear hS0
                  go_wp2
                  go_roundg (K - 1)
                  case measure => have := HK.out; omega
                  case rel =>
                    refine ⟨i + 1, ins x L, by go_num, ⟨by have := HK.out; omega⟩, ⟨by omega⟩, ⟨SQ.put HQD.out HA.out HNX.out HM.out HKK.out⟩, ⟨ins_sorted x L HSR.out HNX.out⟩, ⟨fun y => ?_⟩⟩
                    rw [ins_mem, HMM.out y, take_snoc_ HLX.out, List.mem_append, List.mem_singleton]; exact or_comm
              · intro K hK
                go_simp
                have HB0 : Aside0 (Below Wd.heap.size Wd (Wd.alloc (.cells #[.int .i64 x] 3)) ∧ QRow (Wd.alloc (.cells #[.int .i64 x] 3)) Wd.heap.size 3 1 (.slice (some ⟨Wd.heap.size, 0, none⟩) 1 1) 1 [.int .i64 x]) := ⟨(Below.refl _ _).alloc (Nat.le_refl _) _, an_row (Below.refl _ _) _⟩
                refine hK.out _ _ (SL2.mk trivial trivial) (fun hS1 => ?_)
                clear hK K hS0
                have hS0 := hS1
                clear hS1
                try simp only [Act.put, List.setIfInBounds_toArray, List.set_cons_zero, List.set_cons_succ]
                refine L_step 0 (by kernel_rfl) (get0) (fun K hK => ?_)
                go_simp
                have HB1 := AS.new (e := 3) HB0.out.1
                have HB2 := AN.behind (e := 3) HB0.out.2
                simp only [alloc_size] at HB1 HB2
                have HA := Aside0.mk HB1
                have HN1 := Aside0.mk HB2
                clear HB1 HB2 HB0
                refine hK.out _ _ (SL2.mk trivial trivial) (fun hS1 => ?_)
                clear hK K hS0
                have hS0 := hS1
                clear hS1
                try simp only [Act.put, List.setIfInBounds_toArray, List.set_cons_zero, List.set_cons_succ]
                refine L_step 4 (by kernel_rfl) (getS (getS (getS (getS (get0))))) (fun K hK => ?_)
                refine step_append_q (by rfl) (.tmp 30) (.tmp 33) 22 (by rfl) Wd.heap.size w.heap.size 3 i0 (.int .i64 0) 8 Try.underlying22 hi0 hz0 hz1 hz2 rfl _ _ _ (by rfl) HA.out.row _ j _ _ (by rfl) (HA.out.src HX1.out) (one_ints (L.take j)) (by unfold maxLen; omega) (by omega) HA.out.below.size ?_
                intro va wa qa ga oa
                have HA_ := Aside0.mk (HA.out.app ga qa)
                clear HA
                have HN2 := Aside0.mk (HN1.out.app ga oa)
                clear HN1
                have HA := HA_
                clear HA_ qa ga oa
                have HN1 := HN2
                clear HN2
                refine hK.out _ _ (SL2.mk trivial trivial) (fun hS1 => ?_)
                clear hK K hS0
                have hS0 := hS1
                clear hS1
                try simp only [Act.put, List.setIfInBounds_toArray, List.set_cons_zero, List.set_cons_succ]
                refine L_step 7 (by kernel_rfl) (getS (getS (getS (getS (getS (getS (getS (get0)))))))) (fun K hK => ?_)
                refine step_append_q (by rfl) (.tmp 34) (.tmp 36) 22 (by rfl) Wd.heap.size Wd.heap.size 3 i0 (.int .i64 0) 8 Try.underlying22 hi0 hz0 hz1 hz2 rfl _ _ _ (by rfl) HA.out.row _ 1 _ _ (by rfl) HN1.out.row (one_ints [x]) (by unfold maxLen; omega) (by omega) HA.out.below.size ?_
                intro vb wb qb gb ob
                have HA_ := Aside0.mk (HA.out.app gb qb)
                clear HA
                have HA := HA_
                clear HA_ qb gb ob
                clear HN1
                refine hK.out _ _ (SL2.mk trivial trivial) (fun hS1 => ?_)
                clear hK K hS0
                have hS0 := hS1
                clear hS1
                try simp only [Act.put, List.setIfInBounds_toArray, List.set_cons_zero, List.set_cons_succ]
                refine L_step 11 (by kernel_rfl) (getS (getS (getS (getS (getS (getS (getS (getS (getS (getS (getS (get0)))))))))))) (fun K hK => ?_)
                refine step_append_q (by rfl) (.tmp 37) (.tmp 40) 22 (by rfl) Wd.heap.size w.heap.size 3 i0 (.int .i64 0) 8 Try.underlying22 hi0 hz0 hz1 hz2 rfl _ _ _ (by rfl) HA.out.row _ (m - j) _ _ (by rfl) (HA.out.src HX2.out) (one_ints (L.drop j)) (by unfold maxLen; omega) (by omega) HA.out.below.size ?_
                intro vc wc qc gc oc
                have HA_ := Aside0.mk (HA.out.app gc qc)
                clear HA
                have HA := HA_
                clear HA_ qc gc oc
                refine hK.out _ _ (SL2.mk trivial trivial) (fun hS1 => ?_)
                clear hK K hS0
                have hS0 := hS1
                clear hS1
                try simp only [Act.put, List.setIfInBounds_toArray, List.set_cons_zero, List.set_cons_succ]
                refine L_pure 12 (v := ?vrb_10) (getS (getS (getS (getS (getS (getS (getS (getS (getS (getS (getS (getS (get0))))))))))))) (by kernel_rfl) (by kernel_rfl) (by kernel_rfl) (fun _ _ _ h => h) (by decide) (by decide) (by rfl) ?hyrb_10 hS0 (fun hS1 => ?rerb_10)
                case hyrb_10 => (intro w9; go_simp; try with_reducible rfl)
                clear hS0
                have hS0 := hS1
                clear hS1
                try simp only [Act.put, List.setIfInBounds_toArray, List.set_cons_zero, List.set_cons_succ]
                refine L_done (by kernel_rfl) ?_
                clear hS0
                go_wp2
                go_roundg (K - 1)
                case measure => have := HK.out; omega
                case rel =>
                  refine ⟨i + 1, ins x L, by go_num, ⟨by have := HK.out; omega⟩, ⟨by omega⟩, ⟨SQ.put HQD.out HA.out HNX.out HM.out HKK.out⟩, ⟨ins_sorted x L HSR.out HNX.out⟩, ⟨fun y => ?_⟩⟩
                  rw [ins_mem, HMM.out y, take_snoc_ HLX.out, List.mem_append, List.mem_singleton]; exact or_comm

    · have p1 : decide (i < n0) = false := decide_eq_false hin
      have HF : Aside0 (L = r) := ⟨by
        rw [← HRR.out]
        refine sorted_ext _ _ HSR.out (asSet_sorted _) fun y => ?_
        rw [HMM.out y, asSet_mem, List.take_of_length_le (by have := HN0.out; omega)]⟩
      go_wp2
      go_ret
      refine ⟨A, c, ?_, ?_, ?_, HQ.out.below⟩
      · show Ending.returned (.slice A m c) = _
        rw [← HF.out, HM.out]
      · rw [← HF.out]; exact LC_of_q HRW.out HM.out
      · rw [← HF.out, HM.out]; exact hmc
end
end Go.Proofs.Ytckpgbkbbdifmaa.Ep
