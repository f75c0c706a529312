import Derived.Test.YtdjjmnkopoldhaaDoorPla
import Derived.WalkKit
import Derived.ProofKit
import Derived.Below
import Derived.WalkLawsBesides
import Derived.Deep.QuietTactic
import Derived.BigQuiet
import Derived.StillTailTactics
import Derived.Deep.AppendLies
import Derived.Deep.RegionHeld3
import Derived.KernelRfl
import Derived.BigRegion
import Derived.WalkSpells
import Derived.Deep.Slices
import Derived.Deep.Fields
import Derived.ChangeSame
import Derived.Deep.RegionLaw
import Derived.Deep.DrawnRows
import Derived.OwnWalk
namespace Go.Proofs.YtdjjmnkopoldhaaDoor.Ep
open Go Go.RowKit Go.Proofs.YtdjjmnkopoldhaaDoorW.PrintWords Go.Proofs.YtdjjmnkopoldhaaDoorW.PrintLast Go.Proofs.YtdjjmnkopoldhaaDoorW.PrintMore Go.Proofs.YtdjjmnkopoldhaaDoor.PBase Go.Tx
set_option linter.unusedVariables false
set_option linter.unusedSimpArgs false
theorem run_copy23_none (w : World) (ty : TypeId) (b o dLen dCap c : Nat) :
    (Builtin.copy_ #[25, 25] ty #[.slice (some ⟨b, o, none⟩) dLen dCap, .slice none 0 c]).run Tryd.prog w = .ok (goInt (0 : Nat)) w := by
  obtain ⟨i, hq, _, hi, _⟩ := info_parts info23_8
  simp [Builtin.copy_, run_underlying Tryd.underlying25, Builtin.lenOf, Builtin.firstCells, sizeOf, typeInfo, hq, hi, storeCells]
theorem copyAll (A : Option Addr) (c : Nat) (l : List S23) (W : World) (g N : Nat) (cs : List Value) (hC : Kd.C k23 W A l.length l) (hB : Blk W g N cs) (hN : l.length ≤ N) (ty : TypeId) :
    (Builtin.copy_ #[25, 25] ty #[.slice (some ⟨g, 0, none⟩) N N, .slice A l.length c]).run Tryd.prog W = .ok (goInt ((l.length : Nat) : Int)) (W.setCells g 0 (flat l)) := by
  cases A with
  | none =>
    have h0 : l = [] := by
      rcases Nat.eq_zero_or_pos l.length with h | h
      · exact List.length_eq_zero_iff.1 h
      · obtain ⟨ad, e, _⟩ := hC.2.2 h; cases e
    subst h0
    exact run_copy23_none W ty g 0 N N c
  | some a =>
    have hlc : cs.length = N * 2 := by obtain ⟨_, _, _, h3⟩ := hB; exact h3
    exact run_copy23 W ty g 0 N N a l.length c l.length (flat l) (by simp only [Nat.min_def]; split <;> omega) (flat_len l) (C_flat hC)
      (fun p hp => by rw [flat_len] at hp; rw [hB.cell, List.getElem?_eq_getElem (by omega)]; rfl) (fun p hp => hB.frozen _) (flat_one _)
theorem take_set2 (cs : List Value) (p : Nat) (a b : Value) (h : (p + 1) * 2 ≤ cs.length) : ((cs.set (p * 2) a).set (p * 2 + 1) b).take ((p + 1) * 2) = cs.take (p * 2) ++ [a, b] := by
  rw [show (p + 1) * 2 = p * 2 + 1 + 1 by omega, List.take_succ_eq_append_getElem (by rw [List.length_set, List.length_set]; omega), List.getElem_set_self, List.take_set, List.set_eq_of_length_le (by rw [List.length_take, List.length_set]; omega), List.take_succ_eq_append_getElem (by rw [List.length_set]; omega), List.getElem_set_self, List.take_set, List.set_eq_of_length_le (by rw [List.length_take]; omega), List.append_assoc]
  rfl
theorem make_blk {w : World} {base g N : Nat} {xs : List Value} (h : w.ownsRow base 23 2 (.slice (some ⟨g, 0, none⟩) N N) N xs) (hn : 0 < N) : ∃ cs, Blk w g N cs := by
  obtain ⟨g', cap, cs, hv, _, hB, _⟩ := own_blk h hn
  cases hv
  exact ⟨cs, hB⟩
set_option maxHeartbeats 4000000 in
set_option maxRecDepth 100000 in
theorem roomy_ (A : Option Addr) (c : Nat) (l : List S23) (e : S23) (w : World) (hC : Kd.C k23 w A l.length l) (hc : l.length ≤ c) (hl : l.length ≤ 1000) :
    Calls Tryd.prog 14 #[.slice A l.length c, .agg #[.string e.f0, .int .i64 e.f1]] w fun e' w' => ∃ v', e' = .returned v' ∧
      w'.ownsRow w.heap.size 23 2 v' (l ++ List.replicate 80 e).length (flat (l ++ List.replicate 80 e)) ∧ Below w.heap.size w w' := by
  obtain ⟨i0, hi0, hz0, hz1, hz2⟩ := info_parts info23_8
  have HC := Aside0.mk hC
  obtain ⟨N, hN⟩ : ∃ N, N = l.length + 80 := ⟨_, rfl⟩
  have hlenE : (l ++ List.replicate 80 e).length = N := by rw [List.length_append, List.length_replicate, hN]
  rw [hlenE]
  have HLE := Aside0.mk hlenE
  have HN := Aside0.mk hN
  have HL := Aside0.mk hl
  have hw : IntKind.i64.wrap ((l.length : Int) + 80) = (N : Int) := by rw [i64_w, w64 _ (by omega) (by omega)]; omega
  have hb2 : i0.bytes * N ≤ 281474976710656 := by rw [hz2]; omega
  have hNp := Aside0.mk (show 0 < N by omega)
  have HlN := Aside0.mk (show l.length ≤ N by omega)
  have hb3 : N ≤ maxLen := by unfold maxLen; omega
  clear hC hlenE hN hc hl
  go_enter Tryd.func14, Tryd.ntmps14
  go_wp2_with (first
    | ((with_reducible refine gate_dst (N := 3) rfl ?_); refine box_event ?hg (N := 3) ?hd (cs := #[.string e.f0, .int .i64 e.f1]) (t := 23) ?hr ?_; (case hd => rfl); (case hg => rfl); (case hr => first | (go_simp; done) | (go_simp; rfl)); intro gb hg w1 hbox hb; have HB := Aside0.mk hb; have HG := Aside0.mk hg; have HX := Aside0.mk hbox; clear hb hbox hg)
    | ((with_reducible refine gate_dst (N := 10) rfl ?_); refine wpList_make_full _ rfl _ _ 25 rfl w1.heap.size 23 i0 _ 2 Tryd.underlying25 hi0 hz0 hz1 .i64 .i64 (N : Int) (N : Int) N (by rfl) (by rfl) rfl rfl hb2 hb3 (Nat.le_refl _) ?_; intro w2 h2_ h3_; obtain ⟨cs0, hB0_⟩ := make_blk h2_ hNp.out; have HBk := Aside0.mk hB0_; have HB2 := Aside0.mk (HB.out.grown h3_ HB.out.size (fun k hk => by cases hk)); have HX2 := Aside0.mk (box_kept HX.out ((Below.refl w1.heap.size w1).grown h3_ (Nat.le_refl _) (fun k hk => by cases hk)) (box_lt HX.out)); clear h2_ h3_ hB0_)
    | ((with_reducible refine gate_builtin (b := .copy) (xs := #[.tmp 11, .tmp 12]) rfl ?_); refine wpList_copy_runI _ rfl _ _ 25 25 rfl _ _ rfl rfl (copyAll A c l w2 w1.heap.size N cs0 (Kd.C_below HC.out HB2.out) HBk.out HlN.out 3) ?_))
  obtain ⟨g, hgd⟩ : ∃ g, g = w1.heap.size := ⟨_, rfl⟩
  obtain ⟨W3, hW3⟩ : ∃ W3, W3 = w2.setCells w1.heap.size 0 (flat l) := ⟨_, rfl⟩
  have hB3 := HBk.out.setCells (flat l) 0 (by rw [flat_len]; have := HlN.out; omega)
  rw [← hW3, ← hgd] at hB3
  have hne : gb ≠ g := by have := box_lt HX.out; omega
  have HBg : Aside0 (Below w.heap.size w W3) := ⟨by rw [hW3]; exact below_setCells HB.out.size _ _ HB2.out⟩
  have HX3 : Aside0 (W3.heap[gb]? = some (.cells #[.string e.f0, .int .i64 e.f1] 23 (0, 0))) := ⟨by
    have hb9 := below_setCells (B := w1.heap.size) (g := w1.heap.size) (Nat.le_refl _) (flat l) 0 (Below.refl w1.heap.size w2)
    rw [hW3]
    exact box_kept HX2.out hb9 (box_lt HX.out)⟩
  have hgw : w.heap.size ≤ g := by rw [hgd]; exact HB.out.size
  rw [← hW3, ← hgd]
  have HBL : Aside0 (∃ cs, Blk W3 g N cs ∧ cs.take (l.length * 2) = flat (l ++ List.replicate (l.length - l.length) e)) := ⟨⟨_, hB3, by
    rw [Nat.sub_self, List.replicate_zero, List.append_nil, List.take_zero, List.nil_append]
    exact List.take_left' (flat_len l)⟩⟩
  have HGW := Aside0.mk hgw
  have HNE := Aside0.mk hne
  clear hgd hW3 hB3 hne hgw HX2 HB2 HBk HB HX hw hb2 hb3
  go_loopg [6] 82 (fun kq v6 w' => ∃ (p : Nat), v6 = .int .i64 (p : Int) ∧ Aside0 (p + kq = N + 2) ∧ Aside0 (l.length ≤ p ∧ p ≤ N) ∧ Aside0 (∃ cs, Blk w' g N cs ∧ cs.take (p * 2) = flat (l ++ List.replicate (p - l.length) e)) ∧ Aside0 (w'.heap[gb]? = some (.cells #[.string e.f0, .int .i64 e.f1] 23 (0, 0))) ∧ Aside0 (Below w.heap.size w w'))
  case atStart => exact ⟨l.length, rfl, ⟨by have := HN.out; omega⟩, ⟨Nat.le_refl _, HlN.out⟩, HBL, HX3, HBg⟩
  case round =>
    clear HBL HX3 HBg
    obtain ⟨p, rfl, HK, HP, HBL, HX, HB⟩ := hrel
    obtain ⟨cs, hBk, hcs⟩ := HBL.out
    have hp1 := HP.out
    by_cases hlt : p < N
    · have g0 : decide ((p : Int) < (N : Int)) = true := decide_eq_true (by omega)
      have g1 : decide (p < N) = true := decide_eq_true hlt
      have p1 : (0 ≤ (p : Int)) = True := eq_true (by omega)
      have p2 : ((p : Int) < (N : Int)) = True := eq_true (by omega)
      have p3 : (p < N) = True := eq_true hlt
      have hw2 : IntKind.i64.wrap ((p : Int) + 1) = ((p + 1 : Nat) : Int) := by rw [i64_w, w64 _ (by omega) (by have := HN.out; have := HL.out; omega)]; rfl
      have hB1 := hBk.setCell (p * 2) (.string e.f0)
      have hB2 := hB1.setCell (p * 2 + 1) (.int .i64 e.f1)
      have hlc : cs.length = N * 2 := by obtain ⟨_, _, _, h3⟩ := hBk; exact h3
      obtain ⟨u0, k0⟩ : ∃ u, wr.cell? ⟨g, p * 2, none⟩ = some u := ⟨_, by rw [hBk.cell]; exact List.getElem?_eq_getElem (by omega)⟩
      have k1 : wr.frozen? ⟨g, p * 2, none⟩ = false := hBk.frozen _
      obtain ⟨u1, k2⟩ : ∃ u, (wr.setCell ⟨g, p * 2, none⟩ (.string e.f0)).cell? ⟨g, p * 2 + 1, none⟩ = some u := ⟨_, by rw [hB1.cell]; exact List.getElem?_eq_getElem (by rw [List.length_set]; omega)⟩
      have k3 : (wr.setCell ⟨g, p * 2, none⟩ (.string e.f0)).frozen? ⟨g, p * 2 + 1, none⟩ = false := hB1.frozen _
      have y0 : wr.cell? ⟨gb, 0, none⟩ = some (.string e.f0) := box_cell HX.out 0
      have y1 : wr.cell? ⟨gb, 1, none⟩ = some (.int .i64 e.f1) := box_cell HX.out 1
      have HBx := Aside0.mk hB2
      have HT : Aside0 (((cs.set (p * 2) (.string e.f0)).set (p * 2 + 1) (.int .i64 e.f1)).take ((p + 1) * 2) = flat (l ++ List.replicate (p + 1 - l.length) e)) := ⟨by
        rw [take_set2 _ _ _ _ (by omega), hcs, show p + 1 - l.length = (p - l.length) + 1 by omega, List.replicate_succ', ← List.append_assoc, flat_app (l ++ _) [e]]; rfl⟩
      have HP1 : Aside0 (l.length ≤ p + 1 ∧ p + 1 ≤ N) := ⟨by omega⟩
      have HBn : Aside0 (Below w.heap.size w ((wr.setCell ⟨g, p * 2, none⟩ (.string e.f0)).setCell ⟨g, p * 2 + 1, none⟩ (.int .i64 e.f1))) := ⟨(HB.out.setCell (p := ⟨g, p * 2, none⟩) HGW.out _).setCell (p := ⟨g, p * 2 + 1, none⟩) HGW.out _⟩
      have HXn : Aside0 (((wr.setCell ⟨g, p * 2, none⟩ (.string e.f0)).setCell ⟨g, p * 2 + 1, none⟩ (.int .i64 e.f1)).heap[gb]? = some (.cells #[.string e.f0, .int .i64 e.f1] 23 (0, 0))) := ⟨by
        rw [Below.heap_setCell _ _ _ _ HNE.out, Below.heap_setCell _ _ _ _ HNE.out]; exact HX.out⟩
      clear hBk hB1 hB2 hlc hcs hlt hp1 HBL HX HB
      go_wp2
      go_roundg (gk - 1)
      case measure => have := HK.out; have := HP1.out; omega
      case rel => exact ⟨p + 1, rfl, ⟨by have := HK.out; have := HP1.out; omega⟩, HP1, ⟨⟨_, HBx.out, HT.out⟩⟩, HXn, HBn⟩
    · have g0 : decide ((p : Int) < (N : Int)) = false := decide_eq_false (by omega)
      have g1 : decide (p < N) = false := decide_eq_false hlt
      have hpN : p = N := by omega
      subst hpN
      clear hlt hp1
      go_wp2
      go_ret
      refine ⟨_, rfl, ?_, HB.out⟩
      have ho := blk_own (n := p) HGW.out hBk (Nat.le_refl _) (by have := HN.out; have := HL.out; unfold maxLen; omega)
      rw [hcs, show p - l.length = 80 by have := HN.out; omega] at ho
      exact ho
end Go.Proofs.YtdjjmnkopoldhaaDoor.Ep
