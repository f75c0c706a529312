/- tendrillaw5.EpochApart returns true for every input; no condition. -/
import Derived.Test.YtfiokeahehkelaaRows
import Derived.Test.YtfiokeahehkelaaWSized
import Derived.Test.YtfiokeahehkelaaEp
import Derived.Test.YtfiokeahehkelaaEpLaw
import Derived.WalkKit
import Derived.ProofKit
import Derived.OpenShut
import Derived.ShutString
import Derived.ChangeOld
import Derived.Below
import Derived.SizedLaws
import Derived.Deep.Slices
import Derived.Deep.Fields
import Derived.ChangeSame
namespace Go.Proofs.Ytfiokeahehkelaa.epochApart
open Go.ChangeShapes Go.WideShapes Go.ChangeAt Go.RowKit Go.Deep
open Go.ChangeMaps (open_string shut_string)
open Go Go.Proofs.YtfiokeahehkelaaW.PrintWords Go.Proofs.YtfiokeahehkelaaW.PrintLast Go.Proofs.YtfiokeahehkelaaW.PrintMore Go.Proofs.Ytfiokeahehkelaa.PEpochRuns Go.Proofs.Ytfiokeahehkelaa.Ep
set_option linter.unusedVariables false
set_option linter.unusedSimpArgs false
theorem refs_ : ∀ c : Fin 200, word_Ref.f 100 (c.val : Int) 1 false = some (65536 + (c.val : Int)) ∧ word_Parts.f 100 (65536 + (c.val : Int)) = some ((c.val : Int), 1, false, true) := by decide +kernel
theorem refs_i (c : Int) (h0 : 0 ≤ c) (h1 : c < 200) : word_Ref.f 100 c 1 false = some (65536 + c) ∧ word_Parts.f 100 (65536 + c) = some (c, 1, false, true) := by
  have := refs_ ⟨c.toNat, by omega⟩
  simp only [Int.toNat_of_nonneg h0] at this
  exact this
theorem ref_c (w : World) (base g : Nat) (s : St) (c v : Int) (h : Held w base g s) (h0 : 0 ≤ c) (h1 : c < 200) (hv : 65536 + c = v) :
    Calls Try.prog 25 #[.int .i64 c, .int .i64 1, .bool false] w fun e w' => e = .returned (.int .i64 v) ∧ Held w' base g s ∧ TF base w w' := by
  subst hv; exact (word_Ref.calls 100 c 1 false _ w (refs_i c h0 h1).1).mono fun e w' ⟨he, hd⟩ => ⟨he, h.drawn hd, TF.drawn hd⟩
/-- the epochs of EpochApart: what the others retired waits. -/
structure Ain (s : St) (n kk c : Nat) : Prop where
  pl : s.pins.length = n
  ll : s.lim.length = n
  rm : s.room = 6
  nw : s.now = 0
  ahead : ∀ j, j < c → j ≠ kk → j < n → s.lim[j]? = some [(65536 + (j : Int), 0)]
  rest : ∀ j, (c ≤ j ∨ j = kk) → j < n → s.lim[j]? = some []
theorem Ain.skip {s : St} {n kk c : Nat} (h : Ain s n kk c) (hc : c = kk) : Ain s n kk (c + 1) :=
  ⟨h.pl, h.ll, h.rm, h.nw, fun j hj hk hn => h.ahead j (by omega) hk hn, fun j hj hn => h.rest j (by omega) hn⟩
theorem Ain.retire {s : St} {n kk c : Nat} (h : Ain s n kk c) (hc : c ≠ kk) (hn : c < n) : s.retE (c : Int) true = 0 ∧ Ain (s.retS (c : Int) (65536 + (c : Int)) true) n kk (c + 1) := by
  have hw : s.wait (c : Int) = [] := by unfold St.wait; rw [show ((c : Int)).toNat = c from rfl, h.rest c (.inl (Nat.le_refl _)) hn]; rfl
  have hh : ¬ (¬ s.has (c : Int) ∨ true = false) := by have := h.pl; unfold St.has; simp; omega
  have hf : ¬ s.room ≤ ((s.wait (c : Int)).length : Int) := by rw [hw, h.rm]; decide
  refine ⟨(if_neg hh).trans (if_neg hf), ?_⟩
  rw [show s.retS (c : Int) (65536 + (c : Int)) true = _ from (if_neg hh).trans (if_neg hf), hw, h.nw, show ((c : Int)).toNat = c from rfl]
  refine ⟨h.pl, by rw [List.length_set]; exact h.ll, h.rm, rfl, fun j hj hk hjn => ?_, fun j hj hjn => ?_⟩
  · by_cases e : j = c
    · subst e; rw [List.getElem?_set_self (by rw [h.ll]; exact hn)]; rfl
    · rw [List.getElem?_set_ne (Ne.symm e)]; exact h.ahead j (by omega) hk hjn
  · rw [List.getElem?_set_ne (by omega)]; exact h.rest j (by omega) hjn
structure Aps (s : St) (n kk i : Nat) : Prop where
  pl : s.pins.length = n
  ll : s.lim.length = n
  rm : s.room = 6
  nl : 0 ≤ s.now
  nh : s.now ≤ (i : Int)
  at_ : ∀ j, j ≠ kk → j < n → s.lim[j]? = some [(65536 + (j : Int), 0)]
  wt : ∀ l ∈ s.wait (kk : Int), 0 ≤ l.2 ∧ l.2 ≤ s.now
  wl : (s.wait (kk : Int)).length ≤ 6
theorem Ain.aps {s : St} {n kk : Nat} (h : Ain s n kk n) (hk : kk < n) : Aps s n kk 0 := by
  have hw : s.wait (kk : Int) = [] := by unfold St.wait; rw [show ((kk : Int)).toNat = kk from rfl, h.rest kk (.inr rfl) hk]; rfl
  exact ⟨h.pl, h.ll, h.rm, by rw [h.nw]; decide, by rw [h.nw]; decide, fun j hj hn => h.ahead j hn hj hn, by rw [hw]; simp, by rw [hw]; decide⟩
theorem Aps.next {s : St} {n kk i : Nat} (h : Aps s n kk i) : Aps s n kk (i + 1) := ⟨h.pl, h.ll, h.rm, h.nl, by have := h.nh; omega, h.at_, h.wt, h.wl⟩
theorem Aps.setK {s : St} {n kk i : Nat} (h : Aps s n kk i) (hk : kk < n) (l' : List (Int × Int)) (hw : ∀ l ∈ l', 0 ≤ l.2 ∧ l.2 ≤ s.now) (hl : l'.length ≤ 6) : Aps { s with lim := s.lim.set kk l' } n kk i := by
  have e : ({ s with lim := s.lim.set kk l' } : St).wait (kk : Int) = l' := by
    show ((s.lim.set kk l')[((kk : Int)).toNat]?).getD [] = l'
    rw [show ((kk : Int)).toNat = kk from rfl, List.getElem?_set_self (by rw [h.ll]; exact hk)]; rfl
  refine ⟨h.pl, by rw [List.length_set]; exact h.ll, h.rm, h.nl, h.nh, fun j hj hn => ?_, by rw [e]; exact hw, by rw [e]; exact hl⟩
  rw [List.getElem?_set_ne (Ne.symm hj)]; exact h.at_ j hj hn
theorem Aps.retire {s : St} {n kk i : Nat} (h : Aps s n kk i) (hk : kk < n) (ref : Int) : Aps (s.retS (kk : Int) ref true) n kk i := by
  unfold St.retS
  split
  · exact h
  · split
    · exact h
    · next hf =>
      rw [h.rm] at hf
      refine h.setK hk _ (fun l hl => ?_) (by rw [List.length_append, List.length_singleton]; omega)
      rcases List.mem_append.1 hl with hl | hl
      · exact h.wt l hl
      · rw [List.mem_singleton] at hl; subst hl; exact ⟨h.nl, Int.le_refl _⟩
theorem Aps.adv {s : St} {n kk i : Nat} (h : Aps s n kk i) (hi : i ≤ 100) : s.advB s.now = true ∧ Aps (s.advS s.now) n kk (i + 1) ∧ (s.advS s.now).now = s.now + 1 := by
  have hh : s.now = s.now ∧ s.now < 1073741824 := ⟨rfl, by have := h.nh; omega⟩
  refine ⟨decide_eq_true hh, ?_, by rw [show s.advS s.now = _ from if_pos hh]⟩
  rw [show s.advS s.now = _ from if_pos hh]
  exact ⟨h.pl, h.ll, h.rm, by show 0 ≤ s.now + 1; have := h.nl; omega, by show s.now + 1 ≤ _; have := h.nh; omega, h.at_, fun l hl => by have := h.wt l hl; show _ ∧ l.2 ≤ s.now + 1; omega, h.wl⟩
theorem Aps.col {s : St} {n kk i : Nat} (h : Aps s n kk i) (hk : kk < n) : Aps (s.colS (kk : Int)) n kk i := by
  unfold St.colS
  split
  · split
    · exact h
    · next l ls hl =>
      split
      · exact h
      · have hw := h.wt
        have hwl := h.wl
        rw [hl] at hw hwl
        exact h.setK hk ls (fun x hx => hw x (List.mem_cons_of_mem _ hx)) (by simp only [List.length_cons] at hwl; omega)
  · exact h
theorem Aps.limbo {s : St} {n kk i : Nat} (h : Aps s n kk i) (c : Nat) (hc : c ≠ kk) (hn : c < n) : s.limbo (c : Int) = 1 := by
  rw [St.limbo_in s _ (by omega), show ((c : Int)).toNat = c from rfl, h.at_ c hc hn]; rfl
structure Afin (s : St) (n kk c : Nat) : Prop where
  pl : s.pins.length = n
  ll : s.lim.length = n
  nl : 2 ≤ s.now
  nh : s.now ≤ 200
  at_ : ∀ j, c ≤ j → j ≠ kk → j < n → s.lim[j]? = some [(65536 + (j : Int), 0)]
theorem Aps.fin {s : St} {n kk i : Nat} (h : Aps s n kk i) (hi : i ≤ 100) (h2 : 2 ≤ s.now) : Afin s n kk 0 := ⟨h.pl, h.ll, h2, by have := h.nh; omega, fun j _ hj hn => h.at_ j hj hn⟩
theorem Afin.skip {s : St} {n kk c : Nat} (h : Afin s n kk c) : Afin s n kk (c + 1) := ⟨h.pl, h.ll, h.nl, h.nh, fun j hj hk hn => h.at_ j (by omega) hk hn⟩
theorem Afin.wait {s : St} {n kk c : Nat} (h : Afin s n kk c) (hc : c ≠ kk) (hn : c < n) : s.wait (c : Int) = [(65536 + (c : Int), 0)] := by
  unfold St.wait; rw [show ((c : Int)).toNat = c from rfl, h.at_ c (Nat.le_refl _) hc hn]; rfl
theorem Afin.col {s : St} {n kk c : Nat} (h : Afin s n kk c) (hc : c ≠ kk) (hn : c < n) : s.colV (c : Int) = (65536 + (c : Int), true) ∧ Afin (s.colS (c : Int)) n kk (c + 1) := by
  have hw := h.wait hc hn
  have hh : s.has (c : Int) := by have := h.pl; unfold St.has; omega
  have hno : ¬ s.now - 0 < 2 := by have := h.nl; omega
  have e1 : s.colV (c : Int) = (65536 + (c : Int), true) := by unfold St.colV; rw [if_pos hh, hw]; exact if_neg hno
  have e2 : s.colS (c : Int) = { s with lim := s.lim.set c [] } := by unfold St.colS; rw [if_pos hh, hw]; exact if_neg hno
  refine ⟨e1, ?_⟩
  rw [e2]
  exact ⟨h.pl, by rw [List.length_set]; exact h.ll, h.nl, h.nh, fun j hj hk hjn => by rw [List.getElem?_set_ne (by omega)]; exact h.at_ j (by omega) hk hjn⟩

set_option maxHeartbeats 8000000 in
set_option maxRecDepth 100000 in
theorem walk (a0 a1 : Int) (a2 : Option Addr) (len2 cap2 : Nat) (z : List (Int × Int × Int)) (w : World) (_h0 : (Lit.int .i64 a0).wf = true) (_h1 : (Lit.int .i64 a1).wf = true) (hz : Asks w a2 len2 z) :
    Calls Try.prog 7 #[.int .i64 a0, .int .i64 a1, .slice a2 len2 cap2] w fun e w' => e = .returned (.bool true) ∧ Below w.heap.size w w' := by
  have hwi := within_bd a0 0 6 (by decide)
  obtain ⟨m, hm⟩ : ∃ m : Int, within a0 0 6 = m := ⟨_, rfl⟩
  rw [hm] at hwi
  obtain ⟨N, hn⟩ : ∃ N : Nat, 2 + m = (N : Int) := ⟨(2 + m).toNat, by omega⟩
  have hnw : IntKind.i64.wrap (2 + m) = (N : Int) := by rw [← hn, IntKind.wrap_i64]; omega
  have hn1 : 2 ≤ (N : Int) := by omega
  have hn8 : (N : Int) ≤ 8 := by omega
  have hwk := within_bd a1 0 ((N : Int) - 1) (by omega)
  obtain ⟨kk, hk⟩ : ∃ kk : Nat, within a1 0 ((N : Int) - 1) = (kk : Int) := ⟨(within a1 0 ((N : Int) - 1)).toNat, by omega⟩
  have hkn : kk < N := by omega
  have HZ := Aside0.mk hz
  have HM := Aside0.mk hm
  have HN := Aside0.mk hn
  have HKK := Aside0.mk hk
  clear hm hz hwi hk hwk
  go_enter Try.func7, Try.ntmps7
  go_wp2_with (first
    | (go_at_call 15; (with_reducible refine (within_c a0 0 6 m _ (by decide) (by decide) (by decide) HM.out).mono ?_); rintro e w' ⟨rfl, rfl⟩)
    | (go_at_call 15; (with_reducible refine (within_c a1 0 ((N : Int) - 1) (kk : Int) _ (by decide) (by omega) (by omega) HKK.out).mono ?_); rintro e w' ⟨rfl, rfl⟩)
    | (go_at_call 8; (with_reducible refine (new_c _ (N : Int) 6 (by omega) hn8 (by decide) (by decide) _ rfl).mono ?_); rintro e w1 ⟨rfl, H1, T1⟩))
  have hS0 : ∃ s0 : St, s0 = ⟨0, 6, List.replicate ((N : Int)).toNat (-1), List.replicate ((N : Int)).toNat []⟩ := ⟨_, rfl⟩
  obtain ⟨s0, hs0⟩ := hS0
  rw [← hs0] at H1
  have HS0 : Aside0 (Ain s0 N kk 0) := ⟨by rw [hs0]; exact ⟨by simp, by simp, rfl, rfl, fun j hj => by omega, fun j _ hj => by simp [hj]⟩⟩
  have HB := Aside0.mk T1
  have HH := Aside0.mk H1
  clear H1 T1 hnw hs0
  go_loopg [11] N (fun kq v11 w' => ∃ (s : St) (c : Nat), v11 = .int .i64 (c : Int) ∧ Aside0 (c + kq = N) ∧ Aside0 (Ain s N kk c) ∧ Aside0 (Held w' w.heap.size w.heap.size s) ∧ Aside0 (Below w.heap.size w w'))
  case atStart => exact ⟨s0, 0, rfl, ⟨by omega⟩, HS0, HH, HB⟩
  case round =>
    clear HH HB HS0
    obtain ⟨s, c, rfl, HK, HS, HH, HB⟩ := hrel
    have hpos : 0 < s.pins.length := by have := HS.out.pl; omega
    have hp8 : s.pins.length ≤ 8 := by have := HS.out.pl; omega
    by_cases hcn : c < N
    · have p1 : decide (c < N) = true := decide_eq_true hcn
      by_cases hck : c = kk
      · have HCK := Aside0.mk hck
        have t1 : ((c : Int) != (kk : Int)) = false := by simp [hck]
        have t2 : (c != kk) = false := by simp [hck]
        have t3 : ((c : Int) == (kk : Int)) = true := by simp [hck]
        have t4 : (c == kk) = true := by simp [hck]
        clear hck
        go_wp2
        go_roundg (gk - 1)
        case measure => have := HK.out; omega
        case rel => exact ⟨s, c + 1, by go_num, ⟨by have := HK.out; omega⟩, ⟨HS.out.skip HCK.out⟩, HH, HB⟩
      · obtain ⟨hr1, hr2⟩ := HS.out.retire hck hcn
        have t1 : ((c : Int) != (kk : Int)) = true := bne_iff_ne.mpr (by omega)
        have t2 : (c != kk) = true := bne_iff_ne.mpr hck
        have t3 : ((c : Int) == (kk : Int)) = false := beq_eq_false_iff_ne.mpr (by omega)
        have t4 : (c == kk) = false := beq_eq_false_iff_ne.mpr hck
        obtain ⟨s2, hs2⟩ : ∃ s2, s.retS (c : Int) (65536 + (c : Int)) true = s2 := ⟨_, rfl⟩
        rw [hs2] at hr2
        have HR1 := Aside0.mk hr1
        have HR2 := Aside0.mk hr2
        have HR3 := Aside0.mk hs2
        clear hr1 hr2 hs2 hck
        go_wp2_with (first
          | (go_at_call 25; (with_reducible refine (ref_c _ _ _ s (c : Int) (65536 + (c : Int)) HH.out (by omega) (by omega) rfl).mono ?_); rintro e W1 ⟨rfl, HHa, HTa⟩)
          | (go_at_call 9; (with_reducible refine (retire_c _ _ _ s (c : Int) (65536 + (c : Int)) HHa hpos hp8 100 _ _ _ _ (refs_i (c : Int) (by omega) (by omega)).2 (by rw [HS.out.rm]; decide) HHa.base_le 0 s2 HR1.out HR3.out).mono ?_); rintro e W2 ⟨rfl, HHb, HTb⟩))
        go_roundg (gk - 1)
        case measure => have := HK.out; omega
        case rel => exact ⟨s2, c + 1, by go_num, ⟨by have := HK.out; omega⟩, HR2, ⟨HHb⟩, ⟨(HB.out.trans HTa.below).trans HTb.below⟩⟩
    · have p1 : decide (c < N) = false := decide_eq_false hcn
      obtain rfl : N = c := by have := HK.out; omega
      go_wp2
      have HSB : Aside0 (Aps s N kk 0) := ⟨HS.out.aps hkn⟩
      clear HS HK p1 hcn hpos hp8
      obtain ⟨s0, rfl⟩ : ∃ s0, s0 = s := ⟨_, rfl⟩
      go_loopg [12] 61 (fun kq v12 w' => ∃ (s : St) (i : Nat), v12 = .int .i64 (i : Int) ∧ Aside0 (i + kq = 61) ∧ Aside0 (Aps s N kk i ∧ i ≤ 60) ∧ Aside0 (Held w' w.heap.size w.heap.size s) ∧ Aside0 (Below w.heap.size w w'))
      case atStart => exact ⟨s0, 0, rfl, ⟨rfl⟩, ⟨HSB.out, by decide⟩, HH, HB⟩
      case round =>
        clear HH HB HSB
        obtain ⟨s, i, rfl, HK, HS, HH, HB⟩ := hrel
        obtain ⟨K, rfl⟩ : ∃ K, K = gk := ⟨_, rfl⟩
        have hpos : 0 < s.pins.length := by have := HS.out.1.pl; omega
        have hp8 : s.pins.length ≤ 8 := by have := HS.out.1.pl; omega
        by_cases hil : i < len2
        · have p1 : decide (i < len2) = true := decide_eq_true hil
          by_cases hi80 : i < 60
          · have p2 : decide ((i : Int) < 60) = true := decide_eq_true (by omega)
            have hq : z[i]? = some (z[i]'(by have := HZ.out.eq; omega)) := List.getElem?_eq_getElem _
            generalize z[i]'_ = q at hq
            obtain ⟨x, rfl, hxl, hc0, hc1, hc2⟩ := (HZ.out.below HB.out).cell i q hq
            have hi0 : (0 : Int) ≤ (i : Int) := by omega
            have hi1 : (i : Int) < (len2 : Int) := by omega
            have hlm : len2 ≤ 9223372036854775807 := HZ.out.max
            clear hq
            by_cases hm2 : q.1.tmod 2 = 0
            · skip
              have b1 : (q.1.tmod 2 == 0) = true := beq_iff_eq.mpr hm2
              obtain ⟨s1, hs1⟩ : ∃ s1, s.retS (kk : Int) (65536 + (100 + (i : Int))) true = s1 := ⟨_, rfl⟩
              have HS1 := Aside0.mk (HS.out.1.retire hkn (65536 + (100 + (i : Int)))).next
              rw [hs1] at HS1
              have HRS := Aside0.mk hs1
              clear hs1
              go_wp2_with (first
                | (go_at_call 25; (with_reducible refine (ref_c _ _ _ s (100 + (i : Int)) (65536 + (100 + (i : Int))) HH.out (by omega) (by omega) rfl).mono ?_); rintro e W1 ⟨rfl, HHa, HTa⟩)
                | (go_at_call 9; (with_reducible refine (retire_c _ _ _ s (kk : Int) (65536 + (100 + (i : Int))) HHa hpos hp8 100 _ _ _ _ (refs_i (100 + (i : Int)) (by omega) (by omega)).2 (by rw [HS.out.1.rm]; decide) HHa.base_le _ s1 rfl HRS.out).mono ?_); rintro e W2 ⟨rfl, HHb, HTb⟩))
              have HH1 := Aside0.mk HHb
              have HB1 := Aside0.mk ((HB.out.trans HTa.below).trans HTb.below)
              have HP1 : Aside0 (0 < s1.pins.length ∧ s1.pins.length ≤ 8) := ⟨by have := HS1.out.pl; omega⟩
              clear HHa HHb HTa HTb HH HB
              go_loopg [13] N (fun kq v13 w' => ∃ (j : Nat), v13 = .int .i64 (j : Int) ∧ Aside0 (j + kq = N) ∧ Aside0 (Held w' w.heap.size w.heap.size s1) ∧ Aside0 (Below w.heap.size w w'))
              case atStart => exact ⟨0, rfl, ⟨by omega⟩, HH1, HB1⟩
              case round =>
                clear HH1 HB1
                obtain ⟨j, rfl, HKj, HH1, HB1⟩ := hrel
                by_cases hjn : j < N
                · have p3 : decide (j < N) = true := decide_eq_true hjn
                  by_cases hck : j = kk
                  · have HCK := Aside0.mk hck
                    have t1 : ((j : Int) != (kk : Int)) = false := by simp [hck]
                    have t2 : (j != kk) = false := by simp [hck]
                    have t3 : ((j : Int) == (kk : Int)) = true := by simp [hck]
                    have t4 : (j == kk) = true := by simp [hck]
                    clear hck
                    go_wp2
                    go_roundg (gk - 1)
                    case measure => have := HKj.out; omega
                    case rel => exact ⟨j + 1, by go_num, ⟨by have := HKj.out; omega⟩, HH1, HB1⟩
                  · have hlm := HS1.out.limbo j hck hjn
                    have HLM := Aside0.mk hlm
                    have t1 : ((j : Int) != (kk : Int)) = true := bne_iff_ne.mpr (by omega)
                    have t2 : (j != kk) = true := bne_iff_ne.mpr hck
                    have t3 : ((j : Int) == (kk : Int)) = false := beq_eq_false_iff_ne.mpr (by omega)
                    have t4 : (j == kk) = false := beq_eq_false_iff_ne.mpr hck
                    clear hlm
                    go_wp2_with (go_at_call 24; (with_reducible refine (limbo_c _ _ _ s1 (j : Int) HH1.out HP1.out.1 HP1.out.2 1 HLM.out).mono ?_); rintro e W1 ⟨rfl, HHa, HTa⟩)
                    go_roundg (gk - 1)
                    case measure => have := HKj.out; omega
                    case rel => exact ⟨j + 1, by go_num, ⟨by have := HKj.out; omega⟩, ⟨HHa⟩, ⟨HB1.out.trans HTa.below⟩⟩
                · have p3 : decide (j < N) = false := decide_eq_false hjn
                  go_wp2
                  go_roundg (K - 1)
                  case measure => have := HK.out; omega
                  case rel => exact ⟨s1, i + 1, by go_num, ⟨by have := HK.out; omega⟩, ⟨HS1.out, by have := HS.out.2; omega⟩, HH1, HB1⟩

            · skip
              have b1 : (q.1.tmod 2 == 0) = false := beq_eq_false_iff_ne.mpr hm2
              obtain ⟨ha1, ha2, -⟩ := HS.out.1.adv (by have := HS.out.2; omega)
              have HA1 := Aside0.mk ha1
              obtain ⟨sm, hsm⟩ : ∃ sm, s.advS s.now = sm := ⟨_, rfl⟩
              rw [hsm] at ha2
              have HSM := Aside0.mk hsm
              obtain ⟨s1, hs1⟩ : ∃ s1, sm.colS (kk : Int) = s1 := ⟨_, rfl⟩
              have HS1 := Aside0.mk (ha2.col hkn)
              rw [hs1] at HS1
              have HRS := Aside0.mk hs1
              have HA2 := Aside0.mk ha2
              have hn0 : 0 ≤ s.now := HS.out.1.nl
              have hn9 : s.now ≤ 1073741824 := by have := HS.out; have := this.1.nh; omega
              clear hs1 hsm ha1 ha2
              go_wp2_with (first
                | (go_at_call 16; (with_reducible refine (now_c _ _ _ s HH.out hpos s.now rfl).mono ?_); rintro e W1 ⟨rfl, HHa, HTa⟩)
                | (go_at_call 10; (with_reducible refine (adv_c _ _ _ s s.now HHa hpos hn0 hn9 true sm HA1.out HSM.out).mono ?_); rintro e W2 ⟨rfl, HHb, HTb⟩)
                | (go_at_call 11; (with_reducible refine (collect_c _ _ _ sm (kk : Int) HHb (by have := HA2.out.pl; omega) (by have := HA2.out.pl; omega) HHb.base_le (fun l hl => by have := HA2.out.wt l hl; have := HA2.out.nh; have := HS.out.2; omega) HA2.out.nl (by have := HA2.out.nh; have := HS.out.2; omega) (by have := HA2.out.wl; omega) _ _ s1 rfl HRS.out).mono ?_); rintro e W3 ⟨rfl, HHc, HTc⟩))
              have HH1 := Aside0.mk HHc
              have HB1 := Aside0.mk (((HB.out.trans HTa.below).trans HTb.below).trans HTc.below)
              have HP1 : Aside0 (0 < s1.pins.length ∧ s1.pins.length ≤ 8) := ⟨by have := HS1.out.pl; omega⟩
              clear HHa HHb HHc HTa HTb HTc HH HB hn0 hn9
              go_loopg [13] N (fun kq v13 w' => ∃ (j : Nat), v13 = .int .i64 (j : Int) ∧ Aside0 (j + kq = N) ∧ Aside0 (Held w' w.heap.size w.heap.size s1) ∧ Aside0 (Below w.heap.size w w'))
              case atStart => exact ⟨0, rfl, ⟨by omega⟩, HH1, HB1⟩
              case round =>
                clear HH1 HB1
                obtain ⟨j, rfl, HKj, HH1, HB1⟩ := hrel
                by_cases hjn : j < N
                · have p3 : decide (j < N) = true := decide_eq_true hjn
                  by_cases hck : j = kk
                  · have HCK := Aside0.mk hck
                    have t1 : ((j : Int) != (kk : Int)) = false := by simp [hck]
                    have t2 : (j != kk) = false := by simp [hck]
                    have t3 : ((j : Int) == (kk : Int)) = true := by simp [hck]
                    have t4 : (j == kk) = true := by simp [hck]
                    clear hck
                    go_wp2
                    go_roundg (gk - 1)
                    case measure => have := HKj.out; omega
                    case rel => exact ⟨j + 1, by go_num, ⟨by have := HKj.out; omega⟩, HH1, HB1⟩
                  · have hlm := HS1.out.limbo j hck hjn
                    have HLM := Aside0.mk hlm
                    have t1 : ((j : Int) != (kk : Int)) = true := bne_iff_ne.mpr (by omega)
                    have t2 : (j != kk) = true := bne_iff_ne.mpr hck
                    have t3 : ((j : Int) == (kk : Int)) = false := beq_eq_false_iff_ne.mpr (by omega)
                    have t4 : (j == kk) = false := beq_eq_false_iff_ne.mpr hck
                    clear hlm
                    go_wp2_with (go_at_call 24; (with_reducible refine (limbo_c _ _ _ s1 (j : Int) HH1.out HP1.out.1 HP1.out.2 1 HLM.out).mono ?_); rintro e W1 ⟨rfl, HHa, HTa⟩)
                    go_roundg (gk - 1)
                    case measure => have := HKj.out; omega
                    case rel => exact ⟨j + 1, by go_num, ⟨by have := HKj.out; omega⟩, ⟨HHa⟩, ⟨HB1.out.trans HTa.below⟩⟩
                · have p3 : decide (j < N) = false := decide_eq_false hjn
                  go_wp2
                  go_roundg (K - 1)
                  case measure => have := HK.out; omega
                  case rel => exact ⟨s1, i + 1, by go_num, ⟨by have := HK.out; omega⟩, ⟨HS1.out, by have := HS.out.2; omega⟩, HH1, HB1⟩

          · have p2 : decide ((i : Int) < 60) = false := decide_eq_false (by omega)
            obtain ⟨ha1, ha2, ha3⟩ := HS.out.1.adv (by have := HS.out.2; omega)
            obtain ⟨hb1, hb2, hb3⟩ := ha2.adv (by have := HS.out.2; omega)
            obtain ⟨sm, hsm⟩ : ∃ sm, s.advS s.now = sm := ⟨_, rfl⟩
            rw [hsm] at ha2 ha3 hb1 hb2 hb3
            obtain ⟨sf, hsf⟩ : ∃ sf, sm.advS sm.now = sf := ⟨_, rfl⟩
            rw [hsf] at hb2 hb3
            have HSF := Aside0.mk (hb2.fin (by have := HS.out.2; omega) (by have := HS.out.1.nl; omega))
            have hn0 : 0 ≤ s.now := HS.out.1.nl
            have hn9 : s.now ≤ 1073741824 := by have := HS.out; have := this.1.nh; omega
            have hm0 : 0 ≤ sm.now := ha2.nl
            have hm9 : sm.now ≤ 1073741824 := by have := ha2.nh; have := HS.out.2; omega
            have hmp : 0 < sm.pins.length := by have := ha2.pl; omega
            have HA1 := Aside0.mk ha1
            have HSM := Aside0.mk hsm
            have HB1 := Aside0.mk hb1
            have HSG := Aside0.mk hsf
            clear ha1 ha2 ha3 hb1 hb2 hb3 hsm hsf
            go_wp2_with (first
              | (go_at_call 16; (with_reducible refine (now_c _ _ _ s HH.out hpos s.now rfl).mono ?_); rintro e W1 ⟨rfl, HHa, HTa⟩)
              | (go_at_call 10; (with_reducible refine (adv_c _ _ _ s s.now HHa hpos hn0 hn9 true sm HA1.out HSM.out).mono ?_); rintro e W2 ⟨rfl, HHb, HTb⟩)
              | (go_at_call 16; (with_reducible refine (now_c _ _ _ sm HHb hmp sm.now rfl).mono ?_); rintro e W3 ⟨rfl, HHc, HTc⟩)
              | (go_at_call 10; (with_reducible refine (adv_c _ _ _ sm sm.now HHc hmp hm0 hm9 true sf HB1.out HSG.out).mono ?_); rintro e W4 ⟨rfl, HHd, HTd⟩))
            have HHF := Aside0.mk HHd
            have HBF := Aside0.mk ((((HB.out.trans HTa.below).trans HTb.below).trans HTc.below).trans HTd.below)
            clear HHa HHb HHc HHd HTa HTb HTc HTd HH HB hn0 hn9 hm0 hm9 hmp
            go_loopg [14] N (fun kq v14 w' => ∃ (s : St) (c : Nat), v14 = .int .i64 (c : Int) ∧ Aside0 (c + kq = N) ∧ Aside0 (Afin s N kk c) ∧ Aside0 (Held w' w.heap.size w.heap.size s) ∧ Aside0 (Below w.heap.size w w'))
            case atStart => exact ⟨sf, 0, rfl, ⟨by omega⟩, HSF, HHF, HBF⟩
            case round =>
              clear HHF HBF HSF
              obtain ⟨s, c, rfl, HKc, HS, HH, HB⟩ := hrel
              by_cases hcn : c < N
              · have p1 : decide (c < N) = true := decide_eq_true hcn
                by_cases hck : c = kk
                · have HCK := Aside0.mk hck
                  have t1 : ((c : Int) != (kk : Int)) = false := by simp [hck]
                  have t2 : (c != kk) = false := by simp [hck]
                  have t3 : ((c : Int) == (kk : Int)) = true := by simp [hck]
                  have t4 : (c == kk) = true := by simp [hck]
                  clear hck
                  go_wp2
                  go_roundg (gk - 1)
                  case measure => have := HKc.out; omega
                  case rel => exact ⟨s, c + 1, by go_num, ⟨by have := HKc.out; omega⟩, ⟨HS.out.skip⟩, HH, HB⟩
                · obtain ⟨hr1, hr2⟩ := HS.out.col hck hcn
                  have HWT : Aside0 ((∀ l ∈ s.wait (c : Int), 0 ≤ l.2 ∧ l.2 ≤ 1073741824) ∧ (s.wait (c : Int)).length ≤ 65) := ⟨by rw [HS.out.wait hck hcn]; exact ⟨fun l hl => by rw [List.mem_singleton] at hl; subst hl; exact ⟨Int.le_refl _, by omega⟩, by show 1 ≤ 65; decide⟩⟩
                  have t1 : ((c : Int) != (kk : Int)) = true := bne_iff_ne.mpr (by omega)
                  have t2 : (c != kk) = true := bne_iff_ne.mpr hck
                  have t3 : ((c : Int) == (kk : Int)) = false := beq_eq_false_iff_ne.mpr (by omega)
                  have t4 : (c == kk) = false := beq_eq_false_iff_ne.mpr hck
                  obtain ⟨s2, hs2⟩ : ∃ s2, s.colS (c : Int) = s2 := ⟨_, rfl⟩
                  rw [hs2] at hr2
                  have HR1 := Aside0.mk hr1
                  have HR2 := Aside0.mk hr2
                  have HR3 := Aside0.mk hs2
                  have hp0 : 0 < s.pins.length := by have := HS.out.pl; omega
                  have hp8 : s.pins.length ≤ 8 := by have := HS.out.pl; omega
                  have hnl : 0 ≤ s.now := by have := HS.out.nl; omega
                  have hnh : s.now ≤ 1073741824 := by have := HS.out.nh; omega
                  clear hr1 hr2 hs2 hck
                  go_wp2_with (first
                    | (go_at_call 11; (with_reducible refine (collect_c _ _ _ s (c : Int) HH.out hp0 hp8 HH.out.base_le HWT.out.1 hnl hnh HWT.out.2 (65536 + (c : Int)) true s2 HR1.out HR3.out).mono ?_); rintro e W1 ⟨rfl, HHa, HTa⟩)
                    | (go_at_call 25; (with_reducible refine (ref_c _ _ _ s2 (c : Int) (65536 + (c : Int)) HHa (by omega) (by omega) rfl).mono ?_); rintro e W2 ⟨rfl, HHb, HTb⟩))
                  go_roundg (gk - 1)
                  case measure => have := HKc.out; omega
                  case rel => exact ⟨s2, c + 1, by go_num, ⟨by have := HKc.out; omega⟩, HR2, ⟨HHb⟩, ⟨(HB.out.trans HTa.below).trans HTb.below⟩⟩
              · have p1 : decide (c < N) = false := decide_eq_false hcn
                go_wp2_with (go_at_call 3; (with_reducible refine (runs_ _).mono ?_); rintro e W5 ⟨rfl, HX⟩)
                go_ret
                exact ⟨rfl, HB.out.trans (HX.mono HH.out.base_le)⟩

        · have p1 : decide (i < len2) = false := decide_eq_false hil
          obtain ⟨ha1, ha2, ha3⟩ := HS.out.1.adv (by have := HS.out.2; omega)
          obtain ⟨hb1, hb2, hb3⟩ := ha2.adv (by have := HS.out.2; omega)
          obtain ⟨sm, hsm⟩ : ∃ sm, s.advS s.now = sm := ⟨_, rfl⟩
          rw [hsm] at ha2 ha3 hb1 hb2 hb3
          obtain ⟨sf, hsf⟩ : ∃ sf, sm.advS sm.now = sf := ⟨_, rfl⟩
          rw [hsf] at hb2 hb3
          have HSF := Aside0.mk (hb2.fin (by have := HS.out.2; omega) (by have := HS.out.1.nl; omega))
          have hn0 : 0 ≤ s.now := HS.out.1.nl
          have hn9 : s.now ≤ 1073741824 := by have := HS.out; have := this.1.nh; omega
          have hm0 : 0 ≤ sm.now := ha2.nl
          have hm9 : sm.now ≤ 1073741824 := by have := ha2.nh; have := HS.out.2; omega
          have hmp : 0 < sm.pins.length := by have := ha2.pl; omega
          have HA1 := Aside0.mk ha1
          have HSM := Aside0.mk hsm
          have HB1 := Aside0.mk hb1
          have HSG := Aside0.mk hsf
          clear ha1 ha2 ha3 hb1 hb2 hb3 hsm hsf
          go_wp2_with (first
            | (go_at_call 16; (with_reducible refine (now_c _ _ _ s HH.out hpos s.now rfl).mono ?_); rintro e W1 ⟨rfl, HHa, HTa⟩)
            | (go_at_call 10; (with_reducible refine (adv_c _ _ _ s s.now HHa hpos hn0 hn9 true sm HA1.out HSM.out).mono ?_); rintro e W2 ⟨rfl, HHb, HTb⟩)
            | (go_at_call 16; (with_reducible refine (now_c _ _ _ sm HHb hmp sm.now rfl).mono ?_); rintro e W3 ⟨rfl, HHc, HTc⟩)
            | (go_at_call 10; (with_reducible refine (adv_c _ _ _ sm sm.now HHc hmp hm0 hm9 true sf HB1.out HSG.out).mono ?_); rintro e W4 ⟨rfl, HHd, HTd⟩))
          have HHF := Aside0.mk HHd
          have HBF := Aside0.mk ((((HB.out.trans HTa.below).trans HTb.below).trans HTc.below).trans HTd.below)
          clear HHa HHb HHc HHd HTa HTb HTc HTd HH HB hn0 hn9 hm0 hm9 hmp
          go_loopg [14] N (fun kq v14 w' => ∃ (s : St) (c : Nat), v14 = .int .i64 (c : Int) ∧ Aside0 (c + kq = N) ∧ Aside0 (Afin s N kk c) ∧ Aside0 (Held w' w.heap.size w.heap.size s) ∧ Aside0 (Below w.heap.size w w'))
          case atStart => exact ⟨sf, 0, rfl, ⟨by omega⟩, HSF, HHF, HBF⟩
          case round =>
            clear HHF HBF HSF
            obtain ⟨s, c, rfl, HKc, HS, HH, HB⟩ := hrel
            by_cases hcn : c < N
            · have p1 : decide (c < N) = true := decide_eq_true hcn
              by_cases hck : c = kk
              · have HCK := Aside0.mk hck
                have t1 : ((c : Int) != (kk : Int)) = false := by simp [hck]
                have t2 : (c != kk) = false := by simp [hck]
                have t3 : ((c : Int) == (kk : Int)) = true := by simp [hck]
                have t4 : (c == kk) = true := by simp [hck]
                clear hck
                go_wp2
                go_roundg (gk - 1)
                case measure => have := HKc.out; omega
                case rel => exact ⟨s, c + 1, by go_num, ⟨by have := HKc.out; omega⟩, ⟨HS.out.skip⟩, HH, HB⟩
              · obtain ⟨hr1, hr2⟩ := HS.out.col hck hcn
                have HWT : Aside0 ((∀ l ∈ s.wait (c : Int), 0 ≤ l.2 ∧ l.2 ≤ 1073741824) ∧ (s.wait (c : Int)).length ≤ 65) := ⟨by rw [HS.out.wait hck hcn]; exact ⟨fun l hl => by rw [List.mem_singleton] at hl; subst hl; exact ⟨Int.le_refl _, by omega⟩, by show 1 ≤ 65; decide⟩⟩
                have t1 : ((c : Int) != (kk : Int)) = true := bne_iff_ne.mpr (by omega)
                have t2 : (c != kk) = true := bne_iff_ne.mpr hck
                have t3 : ((c : Int) == (kk : Int)) = false := beq_eq_false_iff_ne.mpr (by omega)
                have t4 : (c == kk) = false := beq_eq_false_iff_ne.mpr hck
                obtain ⟨s2, hs2⟩ : ∃ s2, s.colS (c : Int) = s2 := ⟨_, rfl⟩
                rw [hs2] at hr2
                have HR1 := Aside0.mk hr1
                have HR2 := Aside0.mk hr2
                have HR3 := Aside0.mk hs2
                have hp0 : 0 < s.pins.length := by have := HS.out.pl; omega
                have hp8 : s.pins.length ≤ 8 := by have := HS.out.pl; omega
                have hnl : 0 ≤ s.now := by have := HS.out.nl; omega
                have hnh : s.now ≤ 1073741824 := by have := HS.out.nh; omega
                clear hr1 hr2 hs2 hck
                go_wp2_with (first
                  | (go_at_call 11; (with_reducible refine (collect_c _ _ _ s (c : Int) HH.out hp0 hp8 HH.out.base_le HWT.out.1 hnl hnh HWT.out.2 (65536 + (c : Int)) true s2 HR1.out HR3.out).mono ?_); rintro e W1 ⟨rfl, HHa, HTa⟩)
                  | (go_at_call 25; (with_reducible refine (ref_c _ _ _ s2 (c : Int) (65536 + (c : Int)) HHa (by omega) (by omega) rfl).mono ?_); rintro e W2 ⟨rfl, HHb, HTb⟩))
                go_roundg (gk - 1)
                case measure => have := HKc.out; omega
                case rel => exact ⟨s2, c + 1, by go_num, ⟨by have := HKc.out; omega⟩, HR2, ⟨HHb⟩, ⟨(HB.out.trans HTa.below).trans HTb.below⟩⟩
            · have p1 : decide (c < N) = false := decide_eq_false hcn
              go_wp2_with (go_at_call 3; (with_reducible refine (runs_ _).mono ?_); rintro e W5 ⟨rfl, HX⟩)
              go_ret
              exact ⟨rfl, HB.out.trans (HX.mono HH.out.base_le)⟩


theorem own : ownKnob Try.prog.godebug = none := by kernel_rfl
theorem laidOut : laidOutB Try.prog = true := by kernel_rfl
set_option maxRecDepth 100000 in
theorem lifted (os : Os) (started : os.Started) (H : Type) (enc : TypeId × Value → H) :
    ReturnsInHanded {} Try.checked os 7 .any (Rows.epochApartSpec.pre6 enc Try.prog Try.f7 Rows.epochApartRow.domain false) (Rows.epochApartSpec.post enc Try.prog Try.f7 false true false false) := by
  refine returnsInHanded_of_change_sized (C := Try.checked) own started (by kernel_rfl) Try.func7
    (ChangeSpec.witness6 (enc := enc) (C := Try.checked) false ⟨#[], #[.int .i64 0, .int .i64 0, .slice none 0 0], []⟩ 8 (by kernel_rfl) (by kernel_rfl) (by kernel_rfl) (by kernel_rfl)) ?_
  intro W base args ds gs before hval0 hW hcnd hsz0 _
  have hsz : (DataW.weightsEach Try.prog (Try.f7.params.toList ++ Rows.epochApartSpec.plain.varTypes Try.prog) (ds ++ gs)).all (· ≤ reachBytes) = true := hsz0
  have hval : ∀ (j : Nat) t v, Try.f7.params[j]? = some t → args[j]? = some v → Value.okWide Try.prog W .any base t v := hval0
  have hW' := hW
  obtain ⟨p, q, hA0, hV, rfl, hfz, hnd⟩ := hW
  have hA : DataW.TrodAll enc Try.prog W 0 (fun _ => true) true Try.f7.params.toList args.toList ds p := hA0
  rw [Try.params7] at hA hval hsz
  obtain ⟨v0, vs0, d0, ds0, p0, q0, hargs, rfl, rfl, h0, r0⟩ := trodAll_cons hA
  obtain ⟨v1, vs1, d1, ds1, p1, q1, rfl, rfl, rfl, h1, r1⟩ := trodAll_cons r0
  obtain ⟨v2, vs2, d2, ds2, p2, q2, rfl, rfl, rfl, h2, r2⟩ := trodAll_cons r1
  obtain ⟨rfl, rfl, rfl⟩ := trodAll_nil r2
  obtain rfl : args = #[v0, v1, v2] := by cases args; simp_all
  obtain ⟨rfl, rfl⟩ := trodVars_none hV
  obtain ⟨a0, rfl, rfl, rfl, w0⟩ := open_int Try.underlying3 (hval 0 3 v0 rfl rfl) h0
  obtain ⟨a1, rfl, rfl, rfl, w1⟩ := open_int Try.underlying3 (hval 1 3 v1 rfl rfl) h1
  obtain ⟨a2, len2, cap2, rfl⟩ := okWide_slice Try.underlying33 (hval 2 33 v2 rfl rfl)
  have k2 := h2
  have lt2 : ∀ x ∈ p2, x.block < W.heap.size := by obtain ⟨m, hm⟩ := k2; exact DataW.trod_lt m _ _ _ hm
  obtain ⟨z2, w2⟩ : ∃ zs, Asks W a2 len2 zs := open_asks Try.underlying33 Try.underlying37 (by kernel_rfl) (by kernel_rfl) Try.underlying3 Try.underlying3 Try.underlying3 h2
  clear hA0 hval0 hsz0 hsz
  refine (walk a0 a1 a2 len2 cap2 z2 W w0 w1 w2).mono fun e W' ⟨he, bel⟩ => ?_
  subst he
  exact ⟨_, rfl, _, _, _, [], _, [], hW', trodAll_mk1 (shut_bool Try.underlying4 _), (trodAll_cons_mk (shut_int Try.underlying3 w0) (trodAll_cons_mk (shut_int Try.underlying3 w1) (trodAll_cons_mk (Below.trod laidOut (by kernel_rfl) (of_decide_eq_true (by kernel_rfl)) k2 bel lt2) trodAll_mk0))), rfl, bel.frame _, fun h => by cases h⟩
theorem over : Rows.epochApartRow.holds Try.pinned (OpenSpec.ofChange Rows.epochApartSpec) :=
  OpenClaim.holds_of_wide 7 Try.f7 rfl rfl rfl rfl rfl rfl rfl ⟨rfl, rfl, rfl, rfl, rfl⟩ rfl rfl rfl rfl rfl (by kernel_rfl) Try.func7 (by kernel_rfl)
    (of_decide_eq_true (by kernel_rfl)) (by unfold Func.isWrapper; first | (rw [if_pos (by decide +kernel)]; kernel_rfl) | (rw [if_neg (by decide +kernel)]; exact ⟨rfl, rfl⟩))
    (fun os started H enc _ => lifted os started H enc)
theorem proved : Rows.EpochApartSaid := over
#print axioms proved
end Go.Proofs.Ytfiokeahehkelaa.epochApart
namespace Go.Proofs.Ytfiokeahehkelaa
/-- The row, under a short name, for the claim. -/
theorem epochApart_holds : Rows.EpochApartSaid := epochApart.proved
end Go.Proofs.Ytfiokeahehkelaa
