/- tendrillaw5.EpochPins returns true for every input; no condition. -/
import Derived.Test.YtfiokeahehkelaaRows
import Derived.Test.YtfiokeahehkelaaWSized
import Derived.Test.YtfiokeahehkelaaEp
import Derived.Test.YtfiokeahehkelaaEpLaw
import Derived.WalkKit
import Derived.ProofKit
import Derived.OpenShut
import Derived.ShutString
import Derived.ChangeOld
import Derived.Below
import Derived.SizedLaws
import Derived.Deep.Slices
import Derived.Deep.Fields
import Derived.ChangeSame
namespace Go.Proofs.Ytfiokeahehkelaa.epochPins
open Go.ChangeShapes Go.WideShapes Go.ChangeAt Go.RowKit Go.Deep
open Go.ChangeMaps (open_string shut_string)
open Go Go.Proofs.YtfiokeahehkelaaW.PrintWords Go.Proofs.YtfiokeahehkelaaW.PrintLast Go.Proofs.YtfiokeahehkelaaW.PrintMore Go.Proofs.Ytfiokeahehkelaa.PEpochRuns Go.Proofs.Ytfiokeahehkelaa.Ep
set_option linter.unusedVariables false
set_option linter.unusedSimpArgs false

set_option maxHeartbeats 8000000 in
set_option maxRecDepth 100000 in
theorem walk (a0 : Int) (a1 : Option Addr) (len1 cap1 : Nat) (z : List (Int × Int × Int)) (w : World) (_h0 : (Lit.int .i64 a0).wf = true) (hz : Asks w a1 len1 z) :
    Calls Try.prog 4 #[.int .i64 a0, .slice a1 len1 cap1] w fun e w' => e = .returned (.bool true) ∧ Below w.heap.size w w' := by
  have hwi := within_bd a0 0 7 (by decide)
  obtain ⟨m, hm⟩ : ∃ m : Int, within a0 0 7 = m := ⟨_, rfl⟩
  rw [hm] at hwi
  obtain ⟨N, hn⟩ : ∃ N : Nat, 1 + m = (N : Int) := ⟨(1 + m).toNat, by omega⟩
  have hnw : IntKind.i64.wrap (1 + m) = (N : Int) := by rw [← hn, IntKind.wrap_i64]; omega
  have hn1 : 1 ≤ (N : Int) := by omega
  have hn8 : (N : Int) ≤ 8 := by omega
  have HZ := Aside0.mk hz
  have HM := Aside0.mk hm
  have HN := Aside0.mk hn
  obtain ⟨i3, hi3, hz30, hz31, hz32⟩ := info_parts info3_
  clear hm hz hwi
  go_enter Try.func4, Try.ntmps4
  go_wp2_with (first
    | (go_at_call 15; (with_reducible refine (within_c a0 0 7 m _ (by decide) (by decide) (by decide) HM.out).mono ?_); rintro e w' ⟨rfl, rfl⟩)
    | (go_at_call 8; (with_reducible refine (new_c _ (N : Int) 8 hn1 hn8 (by decide) (by decide) _ rfl).mono ?_); rintro e w1 ⟨rfl, H1, T1⟩)
    | (at_make; refine wpList_make_full _ rfl (.tmp 29) (.tmp 29) 35 rfl w.heap.size 3 i3 (.int .i64 0) 1 Try.underlying35 hi3 hz30 hz31 .i64 .i64 (N : Int) (N : Int) N rfl rfl rfl rfl (by rw [hz32]; omega) (by unfold maxLen; omega) H1.base_le ?_; intro w2 hr2 hg2))

  have hO2 : IntRow w2 w.heap.size w1.heap.size N N (List.replicate 0 (-1) ++ List.replicate (N - 0) 0) := by
    have e : (madeCells (Value.int .i64 0).cells (N * 1)).toList = List.map (Value.int .i64) (List.replicate 0 (-1) ++ List.replicate (N - 0) 0) := by
      rw [Nat.mul_one, Nat.sub_zero, List.replicate_zero, List.nil_append, List.map_replicate]
      exact toList_madeCells_one _ _
    unfold IntRow; rw [← e]; exact hr2
  have hT2 : TF w.heap.size w1 w2 := ⟨(Below.refl _ _).grown hg2 H1.base_le (by simp), fun k o ho _ => (hg2.block k (Array.getElem?_eq_some_iff.1 ho).1 (by simp)).trans ho⟩
  have H2 : Held w2 w.heap.size w.heap.size ⟨0, 8, List.replicate N (-1), List.replicate N []⟩ := by
    have : ((N : Int)).toNat = N := rfl
    rw [this] at H1
    obtain ⟨cs, h, e⟩ := H1
    exact ⟨cs, h.move fun k o ho _ => (hg2.block k (Array.getElem?_eq_some_iff.1 ho).1 (by simp)).trans ho, e⟩
  have HB := Aside0.mk (T1.trans hT2.below)
  have HH := Aside0.mk H2
  have HR := Aside0.mk hO2
  obtain ⟨ga, hga⟩ : ∃ ga, w1.heap.size = ga := ⟨_, rfl⟩
  rw [hga] at HR
  simp only [hga]
  clear H1 T1 hr2 hg2 hT2 H2 hO2 hnw hga
  go_loopg [33] N (fun kq v33 w' => ∃ (j : Nat), v33 = .int .i64 (j : Int) ∧ Aside0 (j + kq = N) ∧ Aside0 (Held w' w.heap.size w.heap.size ⟨0, 8, List.replicate N (-1), List.replicate N []⟩) ∧ Aside0 (IntRow w' w.heap.size ga N N (List.replicate j (-1) ++ List.replicate (N - j) 0)) ∧ Aside0 (Below w.heap.size w w'))
  case atStart => exact ⟨0, rfl, ⟨by omega⟩, HH, HR, HB⟩
  case round =>
    clear HH HR HB
    obtain ⟨j, rfl, HK, HH, HR, HB⟩ := hrel
    by_cases hjn : j < N
    · have p3 : decide (j < N) = true := decide_eq_true hjn
      have hc := HR.out.cell j hjn
      have hf := HR.out.free j
      have hj0 : (0 : Int) ≤ (j : Int) := by omega
      have hj1 : (j : Int) < (N : Int) := by omega
      go_wp2
      go_roundg (gk - 1)
      case measure => have := HK.out; omega
      case rel =>
        refine ⟨j + 1, by go_num, ⟨by have := HK.out; omega⟩, ⟨HH.out.row HR.out j _⟩, ⟨?_⟩, ⟨HR.out.below (Nat.le_refl _) _ HB.out j _⟩⟩
        have := HR.out.store j (-1)
        obtain ⟨q, hq⟩ : ∃ q, N - j = q + 1 := ⟨N - j - 1, by omega⟩
        rw [hq, List.set_append_right _ _ (by simp), List.length_replicate, Nat.sub_self, List.replicate_succ (n := q), List.set_cons_zero] at this
        rw [show N - (j + 1) = q from by omega, List.replicate_succ' (n := j), List.append_assoc, List.singleton_append]; exact this
    · have p3 : decide (j < N) = false := decide_eq_false hjn
      obtain rfl : N = j := by have := HK.out; omega
      rw [Nat.sub_self, List.replicate_zero, List.append_nil] at HR
      clear HK p3 hjn
      go_wp2
      have hS0 : ∃ s0 : St, s0 = ⟨0, 8, List.replicate N (-1), List.replicate N []⟩ := ⟨_, rfl⟩
      obtain ⟨s0, hs0⟩ := hS0
      have HS0 : Aside0 (s0.pins.length = N ∧ s0.now = ((0 : Nat) : Int)) := ⟨by rw [hs0]; simp⟩
      have e0 : s0.now = 0 := HS0.out.2
      rw [← hs0] at HH
      have HR' : Aside0 (IntRow wr w.heap.size ga N N s0.pins) := by rw [hs0]; exact HR
      clear hs0 HR
      go_loopg [10, 11] 81 (fun kq v10 v11 w' => ∃ (s : St) (i : Nat), v10 = .int .i64 s.now ∧ v11 = .int .i64 (i : Int) ∧ Aside0 (i + kq = 81) ∧ Aside0 (s.pins.length = N ∧ 0 ≤ s.now ∧ s.now ≤ (i : Int) ∧ i ≤ 80) ∧ Aside0 (Held w' w.heap.size w.heap.size s) ∧ Aside0 (IntRow w' w.heap.size ga N N s.pins) ∧ Aside0 (Below w.heap.size w w'))
      case atStart => exact ⟨s0, 0, by rw [e0], rfl, ⟨rfl⟩, ⟨HS0.out.1, by omega, by omega, by decide⟩, HH, HR', HB⟩
      case round =>
        clear HH HR' HB HS0 e0
        clear s0
        obtain ⟨s, i, rfl, rfl, HK, HS, HH, HR, HB⟩ := hrel
        obtain ⟨K, rfl⟩ : ∃ K, K = gk := ⟨_, rfl⟩
        by_cases hil : i < len1
        · have p1 : decide (i < len1) = true := decide_eq_true hil
          by_cases hi80 : i < 80
          · have p2 : decide ((i : Int) < 80) = true := decide_eq_true (by omega)
            have hq : z[i]? = some (z[i]'(by have := HZ.out.eq; omega)) := List.getElem?_eq_getElem _
            generalize z[i]'_ = q at hq
            obtain ⟨x, rfl, hxl, hc0, hc1, hc2⟩ := (HZ.out.below HB.out).cell i q hq
            have hi0 : (0 : Int) ≤ (i : Int) := by omega
            have hi1 : (i : Int) < (len1 : Int) := by omega
            have hlm : len1 ≤ 9223372036854775807 := HZ.out.max
            obtain ⟨c, hcq⟩ : ∃ c : Int, within q.2.1 0 ((N : Int) - 1) = c := ⟨_, rfl⟩
            have hcb := within_bd q.2.1 0 ((N : Int) - 1) (by omega)
            rw [hcq] at hcb
            have HC := Aside0.mk hcq
            clear hcq
            have hkb := within_bd q.1 0 2 (by decide)
            have hn0 : 0 ≤ s.now := HS.out.2.1
            have hn9 : s.now ≤ 80 := by have := HS.out; omega
            have hpos : 0 < s.pins.length := by have := HS.out; omega
            have hp8 : s.pins.length ≤ 8 := by have := HS.out; omega
            by_cases hk0 : within q.1 0 2 = 0
            · have HKV := Aside0.mk hk0
              clear hk0 hkb
              obtain ⟨k, hkq⟩ : ∃ k : Int, within q.2.2 0 (s.now + 1) = k := ⟨_, rfl⟩
              have hkk := within_bd q.2.2 0 (s.now + 1) (by omega)
              rw [hkq] at hkk
              have HKN := Aside0.mk hkq
              clear hkq
              by_cases hkn : k ≤ s.now
              · skip
                obtain ⟨s1, hs1⟩ : ∃ s1 : St, { s with pins := s.pins.set c.toNat k } = s1 := ⟨_, rfl⟩
                have HS1 : Aside0 (s1.pins.length = N ∧ 0 ≤ s1.now ∧ s1.now ≤ ((i + 1 : Nat) : Int) ∧ i + 1 ≤ 80 ∧ 0 < s1.pins.length ∧ s1.pins.length ≤ 8) := ⟨by rw [← hs1]; have := HS.out; simp only [List.length_set]; omega⟩
                have hh : s.has c ∧ 0 ≤ k ∧ k ≤ s.now := ⟨⟨hcb.1, by have := HS.out; omega⟩, hkk.1, hkn⟩
                have hpb : s.pinB c k = true := decide_eq_true hh
                have hps : s.pinS c k = s1 := (if_pos hh).trans hs1
                have HPB := Aside0.mk hpb
                have HPS := Aside0.mk hps
                have hcc : c < (N : Int) := by omega
                have hrc := fun W (h : IntRow W w.heap.size ga N N s.pins) => h.cell c.toNat (by omega)
                have HRC := Aside0.mk hrc
                have d1 : decide (k ≤ s.now) = true := decide_eq_true hkn
                clear hh hpb hps hrc
                go_wp2_with (first
                  | (go_at_call 15; (with_reducible refine (within_c q.2.1 0 ((N : Int) - 1) c _ (by decide) (by omega) (by omega) HC.out).mono ?_); rintro e W' ⟨rfl, rfl⟩)
                  | (go_at_call 15; (with_reducible refine (within_c q.1 0 2 0 _ (by decide) (by omega) (by omega) HKV.out).mono ?_); rintro e W' ⟨rfl, rfl⟩)
                  | (go_at_call 15; (with_reducible refine (within_c q.2.2 0 (s.now + 1) k _ (by decide) (by omega) (by omega) HKN.out).mono ?_); rintro e W' ⟨rfl, rfl⟩)
                  | (go_at_call 12; (with_reducible refine (pin_c _ _ _ s c k HH.out hpos hp8 true s1 HPB.out HPS.out).mono ?_); rintro e W1 ⟨rfl, HH_, HT_⟩; have hR_ := HR.out.tf HT_; have hcl := hR_.cell c.toNat (by omega); have hfr := hR_.free c.toNat))
                have HH1 := Aside0.mk (HH_.row hR_ c.toNat (.int .i64 k))
                have HR1 : Aside0 (IntRow (W1.setCell ⟨ga, c.toNat, none⟩ (.int .i64 k)) w.heap.size ga N N s1.pins) := ⟨by rw [← hs1]; exact hR_.store c.toNat k⟩
                have HB1 := Aside0.mk (hR_.below (Nat.le_refl _) _ (HB.out.trans HT_.below) c.toNat (.int .i64 k))
                clear hcl hfr hR_ HH_ HT_ HH HR HB
                go_loopg [114] N (fun kq v114 w' => ∃ (j : Nat), v114 = .int .i64 (j : Int) ∧ Aside0 (j + kq = N) ∧ Aside0 (Held w' w.heap.size w.heap.size s1) ∧ Aside0 (IntRow w' w.heap.size ga N N s1.pins) ∧ Aside0 (Below w.heap.size w w'))
                case atStart => exact ⟨0, rfl, ⟨by omega⟩, HH1, HR1, HB1⟩
                case round =>
                  clear HH1 HR1 HB1
                  obtain ⟨j, rfl, HKj, HH1, HR1, HB1⟩ := hrel
                  by_cases hjn : j < N
                  · have p3 : decide (j < N) = true := decide_eq_true hjn
                    have hcj := HR1.out.cell j hjn
                    have hj0 : (0 : Int) ≤ (j : Int) := by omega
                    have hj1 : (j : Int) < (N : Int) := by omega
                    have HPO : Aside0 (s1.pinOf (j : Int) = s1.pins[j]?.getD (-1)) := ⟨St.pinOf_in s1 j hj0⟩
                    generalize s1.pins[j]?.getD (-1) = pv at *
                    go_wp2
                    go_quiet ((go_at_call 13; exact pinof_q _ _ _ s1 _ _ HH1.out HS1.out.2.2.2.2.1 HS1.out.2.2.2.2.2 pv HPO.out))
                    go_wp2
                    go_roundg (gk - 1)
                    case measure => have := HKj.out; omega
                    case rel => exact ⟨j + 1, by go_num, ⟨by have := HKj.out; omega⟩, ⟨HH1.out.drawn (by repeat (first | exact Drawn0.refl _ | apply Drawn0.step))⟩, ⟨HR1.out⟩, ⟨pw_below_drewN HB1.out _⟩⟩
                  · have p3 : decide (j < N) = false := decide_eq_false hjn
                    go_wp2
                    go_roundg (K - 1)
                    case measure => have := HK.out; omega
                    case rel => exact ⟨s1, i + 1, by rw [← hs1], by go_num, ⟨by have := HK.out; omega⟩, ⟨⟨HS1.out.1, HS1.out.2.1, HS1.out.2.2.1, HS1.out.2.2.2.1⟩⟩, HH1, HR1, HB1⟩

              · skip
                obtain ⟨s1, hs1⟩ : ∃ s1 : St, s = s1 := ⟨_, rfl⟩
                have HS1 : Aside0 (s1.pins.length = N ∧ 0 ≤ s1.now ∧ s1.now ≤ ((i + 1 : Nat) : Int) ∧ i + 1 ≤ 80 ∧ 0 < s1.pins.length ∧ s1.pins.length ≤ 8) := ⟨by rw [← hs1]; have := HS.out; omega⟩
                have hh : ¬ (s.has c ∧ 0 ≤ k ∧ k ≤ s.now) := fun h => hkn h.2.2
                have hpb : s.pinB c k = false := decide_eq_false hh
                have hps : s.pinS c k = s1 := (if_neg hh).trans hs1
                have HPB := Aside0.mk hpb
                have HPS := Aside0.mk hps
                have d1 : decide (k ≤ s.now) = false := decide_eq_false hkn
                have HS1E := Aside0.mk hs1
                clear hh hpb hps hs1
                go_wp2_with (first
                  | (go_at_call 15; (with_reducible refine (within_c q.2.1 0 ((N : Int) - 1) c _ (by decide) (by omega) (by omega) HC.out).mono ?_); rintro e W' ⟨rfl, rfl⟩)
                  | (go_at_call 15; (with_reducible refine (within_c q.1 0 2 0 _ (by decide) (by omega) (by omega) HKV.out).mono ?_); rintro e W' ⟨rfl, rfl⟩)
                  | (go_at_call 15; (with_reducible refine (within_c q.2.2 0 (s.now + 1) k _ (by decide) (by omega) (by omega) HKN.out).mono ?_); rintro e W' ⟨rfl, rfl⟩)
                  | (go_at_call 12; (with_reducible refine (pin_c _ _ _ s c k HH.out hpos hp8 false s1 HPB.out HPS.out).mono ?_); rintro e W1 ⟨rfl, HH_, HT_⟩))
                have HH1 := Aside0.mk HH_
                have HR1 : Aside0 (IntRow W1 w.heap.size ga N N s1.pins) := ⟨by rw [← HS1E.out]; exact HR.out.tf HT_⟩
                have HB1 := Aside0.mk (HB.out.trans HT_.below)
                clear HH_ HT_ HH HR HB
                go_loopg [114] N (fun kq v114 w' => ∃ (j : Nat), v114 = .int .i64 (j : Int) ∧ Aside0 (j + kq = N) ∧ Aside0 (Held w' w.heap.size w.heap.size s1) ∧ Aside0 (IntRow w' w.heap.size ga N N s1.pins) ∧ Aside0 (Below w.heap.size w w'))
                case atStart => exact ⟨0, rfl, ⟨by omega⟩, HH1, HR1, HB1⟩
                case round =>
                  clear HH1 HR1 HB1
                  obtain ⟨j, rfl, HKj, HH1, HR1, HB1⟩ := hrel
                  by_cases hjn : j < N
                  · have p3 : decide (j < N) = true := decide_eq_true hjn
                    have hcj := HR1.out.cell j hjn
                    have hj0 : (0 : Int) ≤ (j : Int) := by omega
                    have hj1 : (j : Int) < (N : Int) := by omega
                    have HPO : Aside0 (s1.pinOf (j : Int) = s1.pins[j]?.getD (-1)) := ⟨St.pinOf_in s1 j hj0⟩
                    generalize s1.pins[j]?.getD (-1) = pv at *
                    go_wp2
                    go_quiet ((go_at_call 13; exact pinof_q _ _ _ s1 _ _ HH1.out HS1.out.2.2.2.2.1 HS1.out.2.2.2.2.2 pv HPO.out))
                    go_wp2
                    go_roundg (gk - 1)
                    case measure => have := HKj.out; omega
                    case rel => exact ⟨j + 1, by go_num, ⟨by have := HKj.out; omega⟩, ⟨HH1.out.drawn (by repeat (first | exact Drawn0.refl _ | apply Drawn0.step))⟩, ⟨HR1.out⟩, ⟨pw_below_drewN HB1.out _⟩⟩
                  · have p3 : decide (j < N) = false := decide_eq_false hjn
                    go_wp2
                    go_roundg (K - 1)
                    case measure => have := HK.out; omega
                    case rel => exact ⟨s1, i + 1, by rw [← HS1E.out], by go_num, ⟨by have := HK.out; omega⟩, ⟨⟨HS1.out.1, HS1.out.2.1, HS1.out.2.2.1, HS1.out.2.2.2.1⟩⟩, HH1, HR1, HB1⟩

            · by_cases hk1 : within q.1 0 2 = 1
              · have HKV := Aside0.mk hk1
                clear hk1 hk0 hkb
                obtain ⟨s1, hs1⟩ : ∃ s1 : St, { s with pins := s.pins.set c.toNat (-1) } = s1 := ⟨_, rfl⟩
                have HS1 : Aside0 (s1.pins.length = N ∧ 0 ≤ s1.now ∧ s1.now ≤ ((i + 1 : Nat) : Int) ∧ i + 1 ≤ 80 ∧ 0 < s1.pins.length ∧ s1.pins.length ≤ 8) := ⟨by rw [← hs1]; have := HS.out; simp only [List.length_set]; omega⟩
                have hh : s.has c := ⟨hcb.1, by have := HS.out; omega⟩
                have hpb : s.unpinB c = true := decide_eq_true hh
                have hps : s.unpinS c = s1 := (if_pos hh).trans hs1
                have HPB := Aside0.mk hpb
                have HPS := Aside0.mk hps
                have hcc : c < (N : Int) := by omega
                clear hh hpb hps
                go_wp2_with (first
                  | (go_at_call 15; (with_reducible refine (within_c q.2.1 0 ((N : Int) - 1) c _ (by decide) (by omega) (by omega) HC.out).mono ?_); rintro e W' ⟨rfl, rfl⟩)
                  | (go_at_call 15; (with_reducible refine (within_c q.1 0 2 1 _ (by decide) (by omega) (by omega) HKV.out).mono ?_); rintro e W' ⟨rfl, rfl⟩)
                  | (go_at_call 14; (with_reducible refine (unpin_c _ _ _ s c HH.out hpos hp8 true s1 HPB.out HPS.out).mono ?_); rintro e W1 ⟨rfl, HH_, HT_⟩; have hR_ := HR.out.tf HT_; have hcl := hR_.cell c.toNat (by omega); have hfr := hR_.free c.toNat))
                have HH1 := Aside0.mk (HH_.row hR_ c.toNat (.int .i64 (-1)))
                have HR1 : Aside0 (IntRow (W1.setCell ⟨ga, c.toNat, none⟩ (.int .i64 (-1))) w.heap.size ga N N s1.pins) := ⟨by rw [← hs1]; exact hR_.store c.toNat (-1)⟩
                have HB1 := Aside0.mk (hR_.below (Nat.le_refl _) _ (HB.out.trans HT_.below) c.toNat (.int .i64 (-1)))
                clear hcl hfr hR_ HH_ HT_ HH HR HB
                go_loopg [114] N (fun kq v114 w' => ∃ (j : Nat), v114 = .int .i64 (j : Int) ∧ Aside0 (j + kq = N) ∧ Aside0 (Held w' w.heap.size w.heap.size s1) ∧ Aside0 (IntRow w' w.heap.size ga N N s1.pins) ∧ Aside0 (Below w.heap.size w w'))
                case atStart => exact ⟨0, rfl, ⟨by omega⟩, HH1, HR1, HB1⟩
                case round =>
                  clear HH1 HR1 HB1
                  obtain ⟨j, rfl, HKj, HH1, HR1, HB1⟩ := hrel
                  by_cases hjn : j < N
                  · have p3 : decide (j < N) = true := decide_eq_true hjn
                    have hcj := HR1.out.cell j hjn
                    have hj0 : (0 : Int) ≤ (j : Int) := by omega
                    have hj1 : (j : Int) < (N : Int) := by omega
                    have HPO : Aside0 (s1.pinOf (j : Int) = s1.pins[j]?.getD (-1)) := ⟨St.pinOf_in s1 j hj0⟩
                    generalize s1.pins[j]?.getD (-1) = pv at *
                    go_wp2
                    go_quiet ((go_at_call 13; exact pinof_q _ _ _ s1 _ _ HH1.out HS1.out.2.2.2.2.1 HS1.out.2.2.2.2.2 pv HPO.out))
                    go_wp2
                    go_roundg (gk - 1)
                    case measure => have := HKj.out; omega
                    case rel => exact ⟨j + 1, by go_num, ⟨by have := HKj.out; omega⟩, ⟨HH1.out.drawn (by repeat (first | exact Drawn0.refl _ | apply Drawn0.step))⟩, ⟨HR1.out⟩, ⟨pw_below_drewN HB1.out _⟩⟩
                  · have p3 : decide (j < N) = false := decide_eq_false hjn
                    go_wp2
                    go_roundg (K - 1)
                    case measure => have := HK.out; omega
                    case rel => exact ⟨s1, i + 1, by rw [← hs1], by go_num, ⟨by have := HK.out; omega⟩, ⟨⟨HS1.out.1, HS1.out.2.1, HS1.out.2.2.1, HS1.out.2.2.2.1⟩⟩, HH1, HR1, HB1⟩

              · have hk2 : within q.1 0 2 = 2 := by omega
                have HKV := Aside0.mk hk2
                clear hk2 hk1 hk0 hkb
                obtain ⟨s1, hs1⟩ : ∃ s1 : St, { s with now := s.now + 1 } = s1 := ⟨_, rfl⟩
                have HS1 : Aside0 (s1.pins.length = N ∧ 0 ≤ s1.now ∧ s1.now ≤ ((i + 1 : Nat) : Int) ∧ i + 1 ≤ 80 ∧ 0 < s1.pins.length ∧ s1.pins.length ≤ 8) := ⟨by rw [← hs1]; have := HS.out; simp only [List.length_set]; omega⟩
                have hpb : s.advB s.now = true := decide_eq_true ⟨rfl, by omega⟩
                have hps : s.advS s.now = s1 := (if_pos ⟨rfl, by omega⟩).trans hs1
                have hpb2 : s.advB (s.now + 1) = false := decide_eq_false (by omega)
                have hps2 : s.advS (s.now + 1) = s := if_neg (by omega)
                have HPB := Aside0.mk hpb
                have HPS := Aside0.mk hps
                have HPB2 := Aside0.mk hpb2
                have HPS2 := Aside0.mk hps2
                clear hpb hps hpb2 hps2
                go_wp2_with (first
                  | (go_at_call 15; (with_reducible refine (within_c q.2.1 0 ((N : Int) - 1) c _ (by decide) (by omega) (by omega) HC.out).mono ?_); rintro e W' ⟨rfl, rfl⟩)
                  | (go_at_call 15; (with_reducible refine (within_c q.1 0 2 2 _ (by decide) (by omega) (by omega) HKV.out).mono ?_); rintro e W' ⟨rfl, rfl⟩)
                  | (go_at_call 10; (with_reducible refine (adv_c _ _ _ s (s.now + 1) HH.out hpos hn0 (by omega) false s HPB2.out HPS2.out).mono ?_); rintro e W1 ⟨rfl, HHa_, HTa_⟩)
                  | (go_at_call 10; (with_reducible refine (adv_c _ _ _ s s.now HHa_ hpos hn0 (by omega) true s1 HPB.out HPS.out).mono ?_); rintro e W2 ⟨rfl, HH_, HT_⟩))
                have HH1 := Aside0.mk HH_
                have HR1 : Aside0 (IntRow W2 w.heap.size ga N N s1.pins) := ⟨by rw [← hs1]; exact (HR.out.tf HTa_).tf HT_⟩
                have HB1 := Aside0.mk ((HB.out.trans HTa_.below).trans HT_.below)
                clear HH_ HT_ HHa_ HTa_ HH HR HB
                go_loopg [114] N (fun kq v114 w' => ∃ (j : Nat), v114 = .int .i64 (j : Int) ∧ Aside0 (j + kq = N) ∧ Aside0 (Held w' w.heap.size w.heap.size s1) ∧ Aside0 (IntRow w' w.heap.size ga N N s1.pins) ∧ Aside0 (Below w.heap.size w w'))
                case atStart => exact ⟨0, rfl, ⟨by omega⟩, HH1, HR1, HB1⟩
                case round =>
                  clear HH1 HR1 HB1
                  obtain ⟨j, rfl, HKj, HH1, HR1, HB1⟩ := hrel
                  by_cases hjn : j < N
                  · have p3 : decide (j < N) = true := decide_eq_true hjn
                    have hcj := HR1.out.cell j hjn
                    have hj0 : (0 : Int) ≤ (j : Int) := by omega
                    have hj1 : (j : Int) < (N : Int) := by omega
                    have HPO : Aside0 (s1.pinOf (j : Int) = s1.pins[j]?.getD (-1)) := ⟨St.pinOf_in s1 j hj0⟩
                    generalize s1.pins[j]?.getD (-1) = pv at *
                    go_wp2
                    go_quiet ((go_at_call 13; exact pinof_q _ _ _ s1 _ _ HH1.out HS1.out.2.2.2.2.1 HS1.out.2.2.2.2.2 pv HPO.out))
                    go_wp2
                    go_roundg (gk - 1)
                    case measure => have := HKj.out; omega
                    case rel => exact ⟨j + 1, by go_num, ⟨by have := HKj.out; omega⟩, ⟨HH1.out.drawn (by repeat (first | exact Drawn0.refl _ | apply Drawn0.step))⟩, ⟨HR1.out⟩, ⟨pw_below_drewN HB1.out _⟩⟩
                  · have p3 : decide (j < N) = false := decide_eq_false hjn
                    go_wp2
                    go_roundg (K - 1)
                    case measure => have := HK.out; omega
                    case rel => exact ⟨s1, i + 1, by rw [← hs1], by go_num, ⟨by have := HK.out; omega⟩, ⟨⟨HS1.out.1, HS1.out.2.1, HS1.out.2.2.1, HS1.out.2.2.2.1⟩⟩, HH1, HR1, HB1⟩

          · have p2 : decide ((i : Int) < 80) = false := decide_eq_false (by omega)
            have hn0 : 0 ≤ s.now := HS.out.2.1
            have hpos : 0 < s.pins.length := by have := HS.out; omega
            have hp8 : s.pins.length ≤ 8 := by have := HS.out; omega
            have HE1 : Aside0 (s.pinB (N : Int) 0 = false ∧ s.pinS (N : Int) 0 = s) := ⟨decide_eq_false (by have := HS.out; unfold St.has; omega), if_neg (by have := HS.out; unfold St.has; omega)⟩
            have HE2 : Aside0 (s.unpinB (-1) = false ∧ s.unpinS (-1) = s) := ⟨decide_eq_false (by unfold St.has; omega), if_neg (by unfold St.has; omega)⟩
            have HE3 : Aside0 (s.pinOf (N : Int) = -1) := ⟨St.pinOf_out s _ (.inr (by have := HS.out; omega))⟩
            go_wp2_with (first
              | (go_at_call 16; (with_reducible refine (now_c _ _ _ s HH.out hpos s.now rfl).mono ?_); rintro e W1 ⟨rfl, HHa, HTa⟩)
              | (go_at_call 12; (with_reducible refine (pin_c _ _ _ s (N : Int) 0 HHa hpos hp8 false s HE1.out.1 HE1.out.2).mono ?_); rintro e W2 ⟨rfl, HHb, HTb⟩)
              | (go_at_call 14; (with_reducible refine (unpin_c _ _ _ s (-1) HHb hpos hp8 false s HE2.out.1 HE2.out.2).mono ?_); rintro e W3 ⟨rfl, HHc, HTc⟩)
              | (go_at_call 13; (with_reducible refine (pinof_c _ _ _ s (N : Int) HHc hpos hp8 (-1) HE3.out).mono ?_); rintro e W4 ⟨rfl, HHd, HTd⟩)
              | (go_at_call 3; (with_reducible refine (runs_ _).mono ?_); rintro e W5 ⟨rfl, HX⟩))
            go_ret
            exact ⟨rfl, ((((HB.out.trans HTa.below).trans HTb.below).trans HTc.below).trans HTd.below).trans (HX.mono (HHd.base_le))⟩

        · have p1 : decide (i < len1) = false := decide_eq_false hil
          have hn0 : 0 ≤ s.now := HS.out.2.1
          have hpos : 0 < s.pins.length := by have := HS.out; omega
          have hp8 : s.pins.length ≤ 8 := by have := HS.out; omega
          have HE1 : Aside0 (s.pinB (N : Int) 0 = false ∧ s.pinS (N : Int) 0 = s) := ⟨decide_eq_false (by have := HS.out; unfold St.has; omega), if_neg (by have := HS.out; unfold St.has; omega)⟩
          have HE2 : Aside0 (s.unpinB (-1) = false ∧ s.unpinS (-1) = s) := ⟨decide_eq_false (by unfold St.has; omega), if_neg (by unfold St.has; omega)⟩
          have HE3 : Aside0 (s.pinOf (N : Int) = -1) := ⟨St.pinOf_out s _ (.inr (by have := HS.out; omega))⟩
          go_wp2_with (first
            | (go_at_call 16; (with_reducible refine (now_c _ _ _ s HH.out hpos s.now rfl).mono ?_); rintro e W1 ⟨rfl, HHa, HTa⟩)
            | (go_at_call 12; (with_reducible refine (pin_c _ _ _ s (N : Int) 0 HHa hpos hp8 false s HE1.out.1 HE1.out.2).mono ?_); rintro e W2 ⟨rfl, HHb, HTb⟩)
            | (go_at_call 14; (with_reducible refine (unpin_c _ _ _ s (-1) HHb hpos hp8 false s HE2.out.1 HE2.out.2).mono ?_); rintro e W3 ⟨rfl, HHc, HTc⟩)
            | (go_at_call 13; (with_reducible refine (pinof_c _ _ _ s (N : Int) HHc hpos hp8 (-1) HE3.out).mono ?_); rintro e W4 ⟨rfl, HHd, HTd⟩)
            | (go_at_call 3; (with_reducible refine (runs_ _).mono ?_); rintro e W5 ⟨rfl, HX⟩))
          go_ret
          exact ⟨rfl, ((((HB.out.trans HTa.below).trans HTb.below).trans HTc.below).trans HTd.below).trans (HX.mono (HHd.base_le))⟩


theorem own : ownKnob Try.prog.godebug = none := by kernel_rfl
theorem laidOut : laidOutB Try.prog = true := by kernel_rfl
set_option maxRecDepth 100000 in
theorem lifted (os : Os) (started : os.Started) (H : Type) (enc : TypeId × Value → H) :
    ReturnsInHanded {} Try.checked os 4 .any (Rows.epochPinsSpec.pre6 enc Try.prog Try.f4 Rows.epochPinsRow.domain false) (Rows.epochPinsSpec.post enc Try.prog Try.f4 false true false false) := by
  refine returnsInHanded_of_change_sized (C := Try.checked) own started (by kernel_rfl) Try.func4
    (ChangeSpec.witness6 (enc := enc) (C := Try.checked) false ⟨#[], #[.int .i64 0, .slice none 0 0], []⟩ 8 (by kernel_rfl) (by kernel_rfl) (by kernel_rfl) (by kernel_rfl)) ?_
  intro W base args ds gs before hval0 hW hcnd hsz0 _
  have hsz : (DataW.weightsEach Try.prog (Try.f4.params.toList ++ Rows.epochPinsSpec.plain.varTypes Try.prog) (ds ++ gs)).all (· ≤ reachBytes) = true := hsz0
  have hval : ∀ (j : Nat) t v, Try.f4.params[j]? = some t → args[j]? = some v → Value.okWide Try.prog W .any base t v := hval0
  have hW' := hW
  obtain ⟨p, q, hA0, hV, rfl, hfz, hnd⟩ := hW
  have hA : DataW.TrodAll enc Try.prog W 0 (fun _ => true) true Try.f4.params.toList args.toList ds p := hA0
  rw [Try.params4] at hA hval hsz
  obtain ⟨v0, vs0, d0, ds0, p0, q0, hargs, rfl, rfl, h0, r0⟩ := trodAll_cons hA
  obtain ⟨v1, vs1, d1, ds1, p1, q1, rfl, rfl, rfl, h1, r1⟩ := trodAll_cons r0
  obtain ⟨rfl, rfl, rfl⟩ := trodAll_nil r1
  obtain rfl : args = #[v0, v1] := by cases args; simp_all
  obtain ⟨rfl, rfl⟩ := trodVars_none hV
  obtain ⟨a0, rfl, rfl, rfl, w0⟩ := open_int Try.underlying3 (hval 0 3 v0 rfl rfl) h0
  obtain ⟨a1, len1, cap1, rfl⟩ := okWide_slice Try.underlying33 (hval 1 33 v1 rfl rfl)
  have k1 := h1
  have lt1 : ∀ x ∈ p1, x.block < W.heap.size := by obtain ⟨m, hm⟩ := k1; exact DataW.trod_lt m _ _ _ hm
  obtain ⟨z1, w1⟩ : ∃ zs, Asks W a1 len1 zs := open_asks Try.underlying33 Try.underlying37 (by kernel_rfl) (by kernel_rfl) Try.underlying3 Try.underlying3 Try.underlying3 h1
  clear hA0 hval0 hsz0 hsz
  refine (walk a0 a1 len1 cap1 z1 W w0 w1).mono fun e W' ⟨he, bel⟩ => ?_
  subst he
  exact ⟨_, rfl, _, _, _, [], _, [], hW', trodAll_mk1 (shut_bool Try.underlying4 _), (trodAll_cons_mk (shut_int Try.underlying3 w0) (trodAll_cons_mk (Below.trod laidOut (by kernel_rfl) (of_decide_eq_true (by kernel_rfl)) k1 bel lt1) trodAll_mk0)), rfl, bel.frame _, fun h => by cases h⟩
theorem over : Rows.epochPinsRow.holds Try.pinned (OpenSpec.ofChange Rows.epochPinsSpec) :=
  OpenClaim.holds_of_wide 4 Try.f4 rfl rfl rfl rfl rfl rfl rfl ⟨rfl, rfl, rfl, rfl, rfl⟩ rfl rfl rfl rfl rfl (by kernel_rfl) Try.func4 (by kernel_rfl)
    (of_decide_eq_true (by kernel_rfl)) (by unfold Func.isWrapper; first | (rw [if_pos (by decide +kernel)]; kernel_rfl) | (rw [if_neg (by decide +kernel)]; exact ⟨rfl, rfl⟩))
    (fun os started H enc _ => lifted os started H enc)
theorem proved : Rows.EpochPinsSaid := over
#print axioms proved
end Go.Proofs.Ytfiokeahehkelaa.epochPins
namespace Go.Proofs.Ytfiokeahehkelaa
/-- The row, under a short name, for the claim. -/
theorem epochPins_holds : Rows.EpochPinsSaid := epochPins.proved
end Go.Proofs.Ytfiokeahehkelaa
