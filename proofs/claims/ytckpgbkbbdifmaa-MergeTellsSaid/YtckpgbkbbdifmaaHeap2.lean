import Derived.Test.YtckpgbkbbdifmaaHeap1
import Derived.WalkKit
import Derived.ProofKit
import Derived.Below
import Derived.WalkLawsBesides
import Derived.Deep.QuietTactic
import Derived.BigQuiet
import Derived.StillTailTactics
import Derived.Deep.AppendLies
import Derived.Deep.RegionHeld3
import Derived.KernelRfl
import Derived.BigRegion
import Derived.WalkSpells
import Derived.Deep.Slices
import Derived.Deep.Fields
import Derived.ChangeSame
import Derived.Deep.RegionLaw
import Derived.Deep.DrawnRows
namespace Go.Proofs.Ytckpgbkbbdifmaa.Ep
open Go Go.RowKit Go.Proofs.YtckpgbkbbdifmaaW.PrintWords Go.Proofs.YtckpgbkbbdifmaaW.PrintLast Go.Proofs.YtckpgbkbbdifmaaW.PrintMore 
set_option linter.unusedVariables false
set_option linter.unusedSimpArgs false
def DownP (w : World) (p : Addr) (base ga n cap bd N : Nat) (l : List En) (e : Ending) (w' : World) : Prop := ∃ l' b, e = .returned (.bool b) ∧ HM w' p base ga n cap bd N l' ∧ w.grownBy w' (some ga) ∧ l'.Perm l ∧ Heap En.key l' N ∧ (∀ k, N ≤ k → l'[k]? = l[k]?) ∧ (b = false → l' = l)
theorem DownP.mk {w : World} {p : Addr} {base ga n cap bd N : Nat} {l : List En} {e : Ending} {w' : World} (l' : List En) (b : Bool) (he : e = .returned (.bool b)) (h1 : HM w' p base ga n cap bd N l') (h2 : w.grownBy w' (some ga)) (h3 : l'.Perm l) (h4 : Heap En.key l' N) (h5 : ∀ k, N ≤ k → l'[k]? = l[k]?) (h6 : b = false → l' = l) : DownP w p base ga n cap bd N l e w' := ⟨l', b, he, h1, h2, h3, h4, h5, h6⟩
set_option maxHeartbeats 4000000 in
set_option maxRecDepth 100000 in
theorem down_ (w : World) (p : Addr) (base ga n cap bd N : Nat) (l : List En) (h : HM w p base ga n cap bd N l) (hN : N ≤ n) (h0n : 0 < n) (hn : n ≤ 70000) (hu : DownH En.key l N 0) :
    Calls Try.prog 28 #[.iface 36 (.pointer (some p)), .int .i64 0, .int .i64 (N : Int)] w (DownP w p base ga n cap bd N l) := by
  have HH := Aside0.mk h
  have HU := Aside0.mk hu
  clear h hu
  go_enter Try.func28, Try.ntmps28
  go_wp2
  go_loopg [7] (n + 1) (fun kq v7 w' => ∃ (i : Nat) (l' : List En), v7 = .int .i64 (i : Int) ∧ Aside0 (i + kq ≥ n + 1) ∧ Aside0 (i < n) ∧ Aside0 (HM w' p base ga n cap bd N l') ∧ Aside0 (w.grownBy w' (some ga)) ∧ Aside0 (l'.Perm l) ∧ Aside0 (DownH En.key l' N i) ∧ Aside0 (∀ k, N ≤ k → l'[k]? = l[k]?) ∧ Aside0 (i = 0 → l' = l))
  case atStart => exact ⟨0, l, rfl, ⟨by omega⟩, ⟨h0n⟩, HH, ⟨World.grownBy.refl _ _⟩, ⟨List.Perm.refl _⟩, HU, ⟨fun _ _ => rfl⟩, ⟨fun _ => rfl⟩⟩
  case round =>
    clear HH HU
    obtain ⟨i, l', rfl, HK, HI, HH, HG, HP, HU, HT, HZ⟩ := hrel
    have hin := HI.out
    have hm := meth_less p wr _ HH.out.hd
    have hms := meth_swap p wr _ HH.out.hd
    have w1_ : IntKind.i64.wrap (2 * (i : Int)) = 2 * (i : Int) := by rw [IntKind.wrap_i64]; omega
    have w2_ : IntKind.i64.wrap (2 * (i : Int) + 1) = ((2 * i + 1 : Nat) : Int) := by rw [IntKind.wrap_i64]; omega
    have w3_ : IntKind.i64.wrap (((2 * i + 1 : Nat) : Int) + 1) = ((2 * i + 2 : Nat) : Int) := by rw [IntKind.wrap_i64]; omega
    have hch : ∀ k, k < N → 0 < k → (k - 1) / 2 = i → k = 2 * i + 1 ∨ k = 2 * i + 2 := fun k _ h0 e => by omega
    have HCH := Aside0.mk hch
    clear hch
    by_cases h1 : 2 * i + 1 < N
    · by_cases h2 : 2 * i + 2 < N
      · by_cases hl2 : kAt En.key l' (2 * i + 2) < kAt En.key l' (2 * i + 1)
        · have HB2 : Aside0 (decide (kAt En.key l' (2 * i + 2) < kAt En.key l' (2 * i + 1)) = true) := ⟨decide_eq_true hl2⟩
          have HMIN : Aside0 (∀ k, k < N → 0 < k → (k - 1) / 2 = i → kAt En.key l' (2 * i + 2) ≤ kAt En.key l' k) := ⟨fun k hk h0 e => by rcases HCH.out k hk h0 e with rfl | rfl <;> omega⟩
          clear hl2
          have hjn : (2 * i + 2) < N := by omega
          have hjm : (2 * i + 2) < n := by omega
          have hm3 := fun W (h : HM W p base ga n cap bd N l') => meth_less p W _ h.hd
          by_cases hlt : kAt En.key l' (2 * i + 2) < kAt En.key l' i
          · have HL := Aside0.mk hlt
            have HD : Aside0 (decide (kAt En.key l' (2 * i + 2) < kAt En.key l' i) = true) := ⟨decide_eq_true hlt⟩
            clear hlt
            go_wp2_with (first
              | (go_at_call 48; (with_reducible refine (less_x _ p base ga n cap bd N l' (2 * i + 2) (2 * i + 1) _ _ true (by omega) (by omega) HH.out hN (by omega) (by omega) HB2.out).mono ?_); rintro e w1 ⟨rfl, ⟨na, rfl⟩⟩; have hm4 := meth_less p (wr.drewN na) _ (HH.out.drewN na).hd)
              | (go_at_call 48; (with_reducible refine (less_x _ p base ga n cap bd N l' (2 * i + 2) i _ _ true (by omega) (by omega) (HH.out.drewN _) hN (by omega) (by omega) HD.out).mono ?_); rintro e w1 ⟨rfl, ⟨nb, rfl⟩⟩; have hms2 := meth_swap p ((wr.drewN na).drewN nb) _ ((HH.out.drewN na).drewN nb).hd; have hms3 := meth_swap p (wr.drewN (na + nb)) _ (HH.out.drewN (na + nb)).hd)
              | (go_at_call 48; (with_reducible refine (less_x _ p base ga n cap bd N l' (2 * i + 2) i _ _ true (by omega) (by omega) HH.out hN (by omega) (by omega) HD.out).mono ?_); rintro e w1 ⟨rfl, ⟨nd, rfl⟩⟩; have hms2 := meth_swap p (wr.drewN nd) _ (HH.out.drewN nd).hd)
              | (go_at_call 51; (with_reducible refine (swap_x _ p base ga n cap bd N N l' i (2 * i + 2) _ _ (by omega) (by omega) (HH.out.drewN _) hin hjm (HH.out.ne_swp hN (by omega) hjn)).mono ?_); rintro e w2 ⟨rfl, H2, G2⟩))
            go_roundg (gk - 1)
            case measure => have := HK.out; omega
            case rel =>
              have hl := HH.out.len
              have hs := down_step En.key (l := l') (n := N) (i := i) (j := (2 * i + 2)) (by omega) hjn (by omega) (by omega) HU.out HL.out HMIN.out
              exact ⟨(2 * i + 2), swp l' i (2 * i + 2), by first | rfl | go_num | (congr 1; omega), ⟨by have := HK.out; omega⟩, ⟨hjm⟩, ⟨H2⟩, ⟨World.grownBy.trans HG.out (grown_drewN G2)⟩, ⟨(swp_perm (by omega) (by omega)).trans HP.out⟩, ⟨hs⟩, ⟨fun k hk => by rw [swp_get (by omega) (by omega), if_neg (by omega), if_neg (by omega)]; exact HT.out k hk⟩, ⟨fun e => by omega⟩⟩
          · have HD : Aside0 (decide (kAt En.key l' (2 * i + 2) < kAt En.key l' i) = false) := ⟨decide_eq_false hlt⟩
            have hfin := down_stop En.key HU.out (fun k hk h0 hki => by have := HMIN.out k hk h0 hki; omega)
            have HF := Aside0.mk hfin
            clear hfin hlt
            go_wp2_with (first
              | (go_at_call 48; (with_reducible refine (less_x _ p base ga n cap bd N l' (2 * i + 2) (2 * i + 1) _ _ true (by omega) (by omega) HH.out hN (by omega) (by omega) HB2.out).mono ?_); rintro e w1 ⟨rfl, ⟨na, rfl⟩⟩; have hm4 := meth_less p (wr.drewN na) _ (HH.out.drewN na).hd)
              | (go_at_call 48; (with_reducible refine (less_x _ p base ga n cap bd N l' (2 * i + 2) i _ _ false (by omega) (by omega) (HH.out.drewN _) hN (by omega) (by omega) HD.out).mono ?_); rintro e w1 ⟨rfl, ⟨nd, rfl⟩⟩)
              | (go_at_call 48; (with_reducible refine (less_x _ p base ga n cap bd N l' (2 * i + 2) i _ _ false (by omega) (by omega) HH.out hN (by omega) (by omega) HD.out).mono ?_); rintro e w1 ⟨rfl, ⟨nd, rfl⟩⟩))
            go_ret
            exact DownP.mk l' _ rfl (HH.out.drewN _) (grown_drewN2 HG.out _) HP.out HF.out HT.out (fun e => HZ.out (by simpa using e))

        · have HB2 : Aside0 (decide (kAt En.key l' (2 * i + 2) < kAt En.key l' (2 * i + 1)) = false) := ⟨decide_eq_false hl2⟩
          have HMIN : Aside0 (∀ k, k < N → 0 < k → (k - 1) / 2 = i → kAt En.key l' (2 * i + 1) ≤ kAt En.key l' k) := ⟨fun k hk h0 e => by rcases HCH.out k hk h0 e with rfl | rfl <;> omega⟩
          clear hl2
          have hjn : (2 * i + 1) < N := by omega
          have hjm : (2 * i + 1) < n := by omega
          have hm3 := fun W (h : HM W p base ga n cap bd N l') => meth_less p W _ h.hd
          by_cases hlt : kAt En.key l' (2 * i + 1) < kAt En.key l' i
          · have HL := Aside0.mk hlt
            have HD : Aside0 (decide (kAt En.key l' (2 * i + 1) < kAt En.key l' i) = true) := ⟨decide_eq_true hlt⟩
            clear hlt
            go_wp2_with (first
              | (go_at_call 48; (with_reducible refine (less_x _ p base ga n cap bd N l' (2 * i + 2) (2 * i + 1) _ _ false (by omega) (by omega) HH.out hN (by omega) (by omega) HB2.out).mono ?_); rintro e w1 ⟨rfl, ⟨na, rfl⟩⟩; have hm4 := meth_less p (wr.drewN na) _ (HH.out.drewN na).hd)
              | (go_at_call 48; (with_reducible refine (less_x _ p base ga n cap bd N l' (2 * i + 1) i _ _ true (by omega) (by omega) (HH.out.drewN _) hN (by omega) (by omega) HD.out).mono ?_); rintro e w1 ⟨rfl, ⟨nb, rfl⟩⟩; have hms2 := meth_swap p ((wr.drewN na).drewN nb) _ ((HH.out.drewN na).drewN nb).hd; have hms3 := meth_swap p (wr.drewN (na + nb)) _ (HH.out.drewN (na + nb)).hd)
              | (go_at_call 48; (with_reducible refine (less_x _ p base ga n cap bd N l' (2 * i + 1) i _ _ true (by omega) (by omega) HH.out hN (by omega) (by omega) HD.out).mono ?_); rintro e w1 ⟨rfl, ⟨nd, rfl⟩⟩; have hms2 := meth_swap p (wr.drewN nd) _ (HH.out.drewN nd).hd)
              | (go_at_call 51; (with_reducible refine (swap_x _ p base ga n cap bd N N l' i (2 * i + 1) _ _ (by omega) (by omega) (HH.out.drewN _) hin hjm (HH.out.ne_swp hN (by omega) hjn)).mono ?_); rintro e w2 ⟨rfl, H2, G2⟩))
            go_roundg (gk - 1)
            case measure => have := HK.out; omega
            case rel =>
              have hl := HH.out.len
              have hs := down_step En.key (l := l') (n := N) (i := i) (j := (2 * i + 1)) (by omega) hjn (by omega) (by omega) HU.out HL.out HMIN.out
              exact ⟨(2 * i + 1), swp l' i (2 * i + 1), by first | rfl | go_num | (congr 1; omega), ⟨by have := HK.out; omega⟩, ⟨hjm⟩, ⟨H2⟩, ⟨World.grownBy.trans HG.out (grown_drewN G2)⟩, ⟨(swp_perm (by omega) (by omega)).trans HP.out⟩, ⟨hs⟩, ⟨fun k hk => by rw [swp_get (by omega) (by omega), if_neg (by omega), if_neg (by omega)]; exact HT.out k hk⟩, ⟨fun e => by omega⟩⟩
          · have HD : Aside0 (decide (kAt En.key l' (2 * i + 1) < kAt En.key l' i) = false) := ⟨decide_eq_false hlt⟩
            have hfin := down_stop En.key HU.out (fun k hk h0 hki => by have := HMIN.out k hk h0 hki; omega)
            have HF := Aside0.mk hfin
            clear hfin hlt
            go_wp2_with (first
              | (go_at_call 48; (with_reducible refine (less_x _ p base ga n cap bd N l' (2 * i + 2) (2 * i + 1) _ _ false (by omega) (by omega) HH.out hN (by omega) (by omega) HB2.out).mono ?_); rintro e w1 ⟨rfl, ⟨na, rfl⟩⟩; have hm4 := meth_less p (wr.drewN na) _ (HH.out.drewN na).hd)
              | (go_at_call 48; (with_reducible refine (less_x _ p base ga n cap bd N l' (2 * i + 1) i _ _ false (by omega) (by omega) (HH.out.drewN _) hN (by omega) (by omega) HD.out).mono ?_); rintro e w1 ⟨rfl, ⟨nd, rfl⟩⟩)
              | (go_at_call 48; (with_reducible refine (less_x _ p base ga n cap bd N l' (2 * i + 1) i _ _ false (by omega) (by omega) HH.out hN (by omega) (by omega) HD.out).mono ?_); rintro e w1 ⟨rfl, ⟨nd, rfl⟩⟩))
            go_ret
            exact DownP.mk l' _ rfl (HH.out.drewN _) (grown_drewN2 HG.out _) HP.out HF.out HT.out (fun e => HZ.out (by simpa using e))

      · have HMIN : Aside0 (∀ k, k < N → 0 < k → (k - 1) / 2 = i → kAt En.key l' (2 * i + 1) ≤ kAt En.key l' k) := ⟨fun k hk h0 e => by rcases HCH.out k hk h0 e with rfl | rfl <;> omega⟩
        have hjn : (2 * i + 1) < N := by omega
        have hjm : (2 * i + 1) < n := by omega
        have hm3 := fun W (h : HM W p base ga n cap bd N l') => meth_less p W _ h.hd
        by_cases hlt : kAt En.key l' (2 * i + 1) < kAt En.key l' i
        · have HL := Aside0.mk hlt
          have HD : Aside0 (decide (kAt En.key l' (2 * i + 1) < kAt En.key l' i) = true) := ⟨decide_eq_true hlt⟩
          clear hlt
          go_wp2_with (first
            | (go_at_call 48; (with_reducible refine (less_x _ p base ga n cap bd N l' (2 * i + 1) i _ _ true (by omega) (by omega) (HH.out.drewN _) hN (by omega) (by omega) HD.out).mono ?_); rintro e w1 ⟨rfl, ⟨nb, rfl⟩⟩; have hms2 := meth_swap p ((wr.drewN na).drewN nb) _ ((HH.out.drewN na).drewN nb).hd; have hms3 := meth_swap p (wr.drewN (na + nb)) _ (HH.out.drewN (na + nb)).hd)
            | (go_at_call 48; (with_reducible refine (less_x _ p base ga n cap bd N l' (2 * i + 1) i _ _ true (by omega) (by omega) HH.out hN (by omega) (by omega) HD.out).mono ?_); rintro e w1 ⟨rfl, ⟨nd, rfl⟩⟩; have hms2 := meth_swap p (wr.drewN nd) _ (HH.out.drewN nd).hd)
            | (go_at_call 51; (with_reducible refine (swap_x _ p base ga n cap bd N N l' i (2 * i + 1) _ _ (by omega) (by omega) (HH.out.drewN _) hin hjm (HH.out.ne_swp hN (by omega) hjn)).mono ?_); rintro e w2 ⟨rfl, H2, G2⟩))
          go_roundg (gk - 1)
          case measure => have := HK.out; omega
          case rel =>
            have hl := HH.out.len
            have hs := down_step En.key (l := l') (n := N) (i := i) (j := (2 * i + 1)) (by omega) hjn (by omega) (by omega) HU.out HL.out HMIN.out
            exact ⟨(2 * i + 1), swp l' i (2 * i + 1), by first | rfl | go_num | (congr 1; omega), ⟨by have := HK.out; omega⟩, ⟨hjm⟩, ⟨H2⟩, ⟨World.grownBy.trans HG.out (grown_drewN G2)⟩, ⟨(swp_perm (by omega) (by omega)).trans HP.out⟩, ⟨hs⟩, ⟨fun k hk => by rw [swp_get (by omega) (by omega), if_neg (by omega), if_neg (by omega)]; exact HT.out k hk⟩, ⟨fun e => by omega⟩⟩
        · have HD : Aside0 (decide (kAt En.key l' (2 * i + 1) < kAt En.key l' i) = false) := ⟨decide_eq_false hlt⟩
          have hfin := down_stop En.key HU.out (fun k hk h0 hki => by have := HMIN.out k hk h0 hki; omega)
          have HF := Aside0.mk hfin
          clear hfin hlt
          go_wp2_with (first
            | (go_at_call 48; (with_reducible refine (less_x _ p base ga n cap bd N l' (2 * i + 1) i _ _ false (by omega) (by omega) (HH.out.drewN _) hN (by omega) (by omega) HD.out).mono ?_); rintro e w1 ⟨rfl, ⟨nd, rfl⟩⟩)
            | (go_at_call 48; (with_reducible refine (less_x _ p base ga n cap bd N l' (2 * i + 1) i _ _ false (by omega) (by omega) HH.out hN (by omega) (by omega) HD.out).mono ?_); rintro e w1 ⟨rfl, ⟨nd, rfl⟩⟩))
          go_ret
          exact DownP.mk l' _ rfl (HH.out.drewN _) (grown_drewN2 HG.out _) HP.out HF.out HT.out (fun e => HZ.out (by simpa using e))

    · have hfin := down_stop En.key HU.out (fun k hk h0 hki => by rcases HCH.out k hk h0 hki with rfl | rfl <;> omega)
      have HF := Aside0.mk hfin
      clear hfin
      go_wp2
      go_ret
      exact DownP.mk l' _ rfl HH.out HG.out HP.out HF.out HT.out (fun e => HZ.out (by simpa using e))
end Go.Proofs.Ytckpgbkbbdifmaa.Ep
