import Derived.Test.YtckpgbkbbdifmaaMgP
import Derived.WalkKit
import Derived.ProofKit
import Derived.Below
import Derived.WalkLawsBesides
import Derived.Deep.QuietTactic
import Derived.BigQuiet
import Derived.StillTailTactics
import Derived.Deep.AppendLies
import Derived.Deep.RegionHeld3
import Derived.KernelRfl
import Derived.BigRegion
import Derived.WalkSpells
import Derived.Deep.Slices
import Derived.Deep.Fields
import Derived.ChangeSame
import Derived.Deep.RegionLaw
import Derived.Deep.DrawnRows
import Derived.Deep.Upon
namespace Go.Proofs.Ytckpgbkbbdifmaa.Ep
open Go Go.RowKit Go.Proofs.YtckpgbkbbdifmaaW.PrintWords Go.Proofs.YtckpgbkbbdifmaaW.PrintLast Go.Proofs.YtckpgbkbbdifmaaW.PrintMore Go.Proofs.Ytckpgbkbbdifmaa.PMergeTells Go.Proofs.Ytckpgbkbbdifmaa.Keep
set_option linter.unusedVariables false
set_option linter.unusedSimpArgs false
/-- a list handed back. -/
def RetS (w : World) (r : List Int) (e : Ending) (w' : World) : Prop := ∃ A c, e = .returned (.slice A r.length c) ∧ Kd.C (Kd.int .i64) w' A r.length r ∧ r.length ≤ c ∧ Below w.heap.size w w'
theorem RetS.of_R {w w' : World} {r : List Int} {e : Ending} {v : Value} (he : e = .returned v) (h : Kd.R (Kd.int .i64) 3 w' w.heap.size (fun _ => True) v r) (hb : Below w.heap.size w w') : RetS w r e w' := by
  obtain ⟨A, c, hv, hc, hC⟩ := Kd.R_reads h
  subst hv
  exact ⟨A, c, he, hC, hc, hb⟩
abbrev LC (w : World) (A : Option Addr) (l : List Int) : Prop := Kd.C (Kd.int .i64) w A l.length l
abbrev MC (w : World) (A : Option Addr) (n : Nat) (ls : List (List Int)) : Prop := Kd.C (Kd.slice 3 (Kd.int .i64)) w A n ls
theorem union_c (w : World) (A0 : Option Addr) (n c0 : Nat) (ls : List (List Int)) (r : List Int) (hn : ls.length = n) (hr0 : MC w A0 n ls) (hc0 : n ≤ c0) (hlen : n ≤ 1000) (htot : ltot ls ≤ 100000) (hr : uni ls = r) :
    Calls Try.prog 8 #[.slice A0 n c0] w (RetS w r) := by
  subst hn hr
  exact (union_ w A0 c0 ls hr0 hc0 hlen htot).mono fun e w' ⟨v, he, h1, h2⟩ => RetS.of_R he h1 h2
theorem first_c (w : World) (m : Int) (A0 : Option Addr) (n c0 : Nat) (ls : List (List Int)) (r : List Int) (hn : ls.length = n) (hr0 : MC w A0 n ls) (hc0 : n ≤ c0) (hlen : n ≤ 1000) (htot : ltot ls ≤ 100000) (hr : (uni ls).take m.toNat = r) :
    Calls Try.prog 11 #[.int .i64 m, .slice A0 n c0] w (RetS w r) := by
  subst hn hr
  exact (first_ w m A0 c0 ls hr0 hc0 hlen htot).mono fun e w' ⟨v, he, h1, h2⟩ => RetS.of_R he h1 h2
theorem inter_c (w : World) (A0 : Option Addr) (n c0 : Nat) (ls : List (List Int)) (r : List Int) (hn : ls.length = n) (hr0 : MC w A0 n ls) (hc0 : n ≤ c0) (hlen : n ≤ 1000) (hls : ∀ l ∈ ls, l.length ≤ 100000) (hr : inter ls = r) :
    Calls Try.prog 9 #[.slice A0 n c0] w (RetS w r) := by
  subst hn hr
  exact (merge_Inter.calls 302001 A0 c0 ls (inter ls) w hr0 hc0 (inter_f _ ls hls hlen (by decide))).mono fun e w' ⟨v, he, h1, h2⟩ => RetS.of_R he h1 h2
theorem minus_c (w : World) (A0 : Option Addr) (c0 : Nat) (l0 : List Int) (A1 : Option Addr) (c1 : Nat) (l1 : List Int) (n0 n1 : Nat) (r : List Int) (hn0 : l0.length = n0) (hn1 : l1.length = n1) (hr0 : LC w A0 l0) (hc0 : n0 ≤ c0) (hr1 : LC w A1 l1) (hc1 : n1 ≤ c1) (h0 : n0 ≤ 100000) (h1 : n1 ≤ 100000) (hr : minus l0 l1 = r) :
    Calls Try.prog 10 #[.slice A0 n0 c0, .slice A1 n1 c1] w (RetS w r) := by
  subst hn0 hn1 hr
  exact (merge_Minus.calls 302001 A0 c0 l0 A1 c1 l1 (minus l0 l1) w hr0 hc0 hr1 hc1 (minus_f _ l0 l1 h0 h1 (by decide))).mono fun e w' ⟨v, he, h1, h2⟩ => RetS.of_R he h1 h2
theorem rising_c (w : World) (A0 : Option Addr) (c0 : Nat) (l0 : List Int) (n0 : Nat) (r : List Int) (hn0 : l0.length = n0) (hr0 : LC w A0 l0) (hc0 : n0 ≤ c0) (h0 : n0 ≤ 100000) (hr : rise l0 = r) :
    Calls Try.prog 14 #[.slice A0 n0 c0] w (RetS w r) := by
  subst hn0 hr
  exact (tendrillaw21_rising.calls 100001 A0 c0 l0 (rise l0) w hr0 hc0 (lrise_k _ l0 (by omega) (by omega))).mono fun e w' ⟨v, he, h1, h2⟩ => RetS.of_R he h1 h2
theorem same_c (w : World) (A0 : Option Addr) (c0 : Nat) (A1 : Option Addr) (c1 : Nat) (l : List Int) (n0 n1 : Nat) (hn0 : l.length = n0) (hn1 : l.length = n1) (hr0 : LC w A0 l) (hc0 : n0 ≤ c0) (hr1 : LC w A1 l) (hc1 : n1 ≤ c1) (h0 : n0 ≤ 100000) :
    Calls Try.prog 12 #[.slice A0 n0 c0, .slice A1 n1 c1] w fun e w' => e = .returned (.bool true) ∧ Drawn0 w w' := by
  subst hn0 hn1
  exact tendrilbook_Same_int.calls 100001 A0 c0 l A1 c1 l true w hr0 hc0 hr1 hc1 (same_f _ l (by omega) (by omega))
theorem has_c (w : World) (A0 : Option Addr) (c0 : Nat) (l : List Int) (x : Int) (n0 : Nat) (b : Bool) (hn0 : l.length = n0) (hr0 : LC w A0 l) (hc0 : n0 ≤ c0) (h0 : n0 ≤ 100000) (hb : decide (x ∈ l) = b) :
    Calls Try.prog 16 #[.slice A0 n0 c0, .int .i64 x] w fun e w' => e = .returned (.bool b) ∧ Drawn0 w w' := by
  subst hn0 hb
  exact tendrilref19_Has.calls 100001 A0 c0 l x _ w hr0 hc0 (hasl_f _ l x (by omega) (by omega))
def AllC (w : World) : List (Option Addr × Nat × List Int) → Prop
  | [] => True
  | q :: L => (LC w q.1 q.2.2 ∧ q.2.2.length ≤ q.2.1) ∧ AllC w L
theorem AllC.at {w : World} : ∀ {L : List (Option Addr × Nat × List Int)}, AllC w L → ∀ q ∈ L, LC w q.1 q.2.2 ∧ q.2.2.length ≤ q.2.1
  | _ :: _, h, q, hq => by
    rcases List.mem_cons.1 hq with rfl | hq
    · exact h.1
    · exact AllC.at h.2 q hq
/-- headers in a new block. -/
theorem C_rows (w : World) (g n : Nat) (L : List (Option Addr × Nat × List Int)) (ls : List (List Int)) (arr : Array Value) (hg : w.heap.size = g) (hn : L.length = n) (hm : n ≤ 1000) (hls : L.map (·.2.2) = ls) (harr : (L.map fun q => Value.slice q.1 q.2.2.length q.2.1).toArray = arr) (h : AllC w L) : MC (w.alloc (.cells arr 22)) (some ⟨g, 0, none⟩) n ls := by
  subst hg hn hls harr
  refine ⟨by simp, by omega, fun _ => ⟨_, rfl, fun j p hp => ?_⟩⟩
  rw [List.getElem?_map] at hp
  obtain ⟨q, hq, rfl⟩ := Option.map_eq_some_iff.1 hp
  obtain ⟨h1, h2⟩ := h.at q (List.mem_of_getElem? hq)
  refine ⟨[.slice q.1 q.2.2.length q.2.1], rfl, ⟨q.1, q.2.1, rfl, h2, Kd.C_alloc h1 _⟩, fun i u hu => ?_⟩
  cases i with
  | succ i => simp at hu
  | zero =>
    injection hu with hu; subst hu
    show World.cell? _ ((⟨w.heap.size, 0, none⟩ : Addr).add (j * 1 + 0)) = _
    rw [add_at, cell_of_row _ w.heap.size _ _ 22 (0, 0) (heap_alloc_new w _)]
    rw [List.getElem?_toArray, List.getElem?_map, show 0 + (j * 1 + 0) = j by omega, hq]; rfl
/-- numbers in a new block. -/
theorem C_lit (w : World) (g : Nat) (l : List Int) (arr : Array Value) (hg : w.heap.size = g) (hm : l.length ≤ 1000) (harr : (l.map (Value.int .i64)).toArray = arr) : LC (w.alloc (.cells arr 3)) (some ⟨g, 0, none⟩) l := by
  subst hg harr
  refine ⟨rfl, by omega, fun _ => ⟨_, rfl, fun j p hp => ⟨[.int .i64 p], rfl, rfl, fun i u hu => ?_⟩⟩⟩
  cases i with
  | succ i => simp at hu
  | zero =>
    injection hu with hu; subst hu
    show World.cell? _ ((⟨w.heap.size, 0, none⟩ : Addr).add (j * 1 + 0)) = _
    rw [add_at, cell_of_row _ w.heap.size _ _ 3 (0, 0) (heap_alloc_new w _)]
    rw [List.getElem?_toArray, List.getElem?_map, show 0 + (j * 1 + 0) = j by omega, hp]; rfl
theorem LC.below {w w' : World} {A : Option Addr} {l : List Int} (h : LC w A l) (hb : Below w.heap.size w w') : LC w' A l := Kd.C_below h hb
theorem LC.nil (w : World) : LC w none [] := Kd.C_nil _ w
end Go.Proofs.Ytckpgbkbbdifmaa.Ep
