import Derived.Test.YtckpgbkbbdifmaaHeap6
import Derived.WalkKit
import Derived.ProofKit
import Derived.Below
import Derived.WalkLawsBesides
import Derived.Deep.QuietTactic
import Derived.BigQuiet
import Derived.StillTailTactics
import Derived.Deep.AppendLies
import Derived.Deep.RegionHeld3
import Derived.KernelRfl
import Derived.BigRegion
import Derived.WalkSpells
import Derived.Deep.Slices
import Derived.Deep.Fields
import Derived.ChangeSame
import Derived.Deep.RegionLaw
import Derived.Deep.DrawnRows
namespace Go.Proofs.Ytckpgbkbbdifmaa.Ep
open Go Go.RowKit Go.Proofs.YtckpgbkbbdifmaaW.PrintWords Go.Proofs.YtckpgbkbbdifmaaW.PrintLast Go.Proofs.YtckpgbkbbdifmaaW.PrintMore 
set_option linter.unusedVariables false
set_option linter.unusedSimpArgs false
theorem sorted_out {out : List Int} {n : Int} (h : out.Pairwise (· < ·)) (hn : ∀ x ∈ out, x < n) : (out ++ [n]).Pairwise (· < ·) := by
  rw [List.pairwise_append]
  refine ⟨h, List.pairwise_singleton _ _, fun a ha b hb => ?_⟩
  rw [List.mem_singleton] at hb; subst hb; exact hn a ha
/-- what Union and First keep, going round. -/
structure UL (w w' : World) (B0 T g : Nat) (v V : Value) (l : List En) (out : List Int) (ls : List (List Int)) : Prop where
  pn : PN w' w.heap.size B0 g V l.length l
  hh : Heap En.key l l.length
  sr : SR l
  below : Below w.heap.size w w'
  b0 : w.heap.size ≤ B0
  b1 : B0 ≤ w'.heap.size
  own : w'.ownsRow B0 3 1 v out.length (out.map (Value.int .i64))
  srt : out.Pairwise (· < ·)
  apart : ∀ x ∈ out, ∀ y, EL l y → x < y
  el : ∀ x, (x ∈ out ∨ EL l x) ↔ ∃ xs ∈ ls, x ∈ rise xs
  len : l.length ≤ 1000
  bound : out.length + tot l ≤ T
theorem UL.step {w w' w2 w5 : World} {B0 T g : Nat} {v v5 V V2 : Value} {l l2 : List En} {out : List Int} {ls : List (List Int)} {n : Int} (h : UL w w' B0 T g v V l out ls) (hx : NX w' w2 w.heap.size B0 g V V2 l l2) (ht : tot l2 < tot l) (hel : ∀ x, EL l2 x ↔ EL l x ∧ x ≠ n) (hmin : ∀ x, EL l x → n ≤ x) (hn : EL l n)
    (hown : w5.ownsRow B0 3 1 v5 (out.length + 1) (out.map (Value.int .i64) ++ [.int .i64 n])) (hg : w2.grownBy w5 v.ownBlock) : UL w w5 B0 T g v5 V2 l2 (out ++ [n]) ls := by
  have hb2 : Below w.heap.size w w2 := h.below.trans hx.pf.below
  have hrow : ∀ k, v.ownBlock = some k → B0 ≤ k ∧ ∃ cur, w'.heap[k]? = some (.cells cur 3 (0, 0)) := fun k hk => ⟨(h.own.lt k hk).1, own_type h.own hk⟩
  have hs2 : w'.heap.size ≤ w2.heap.size := hx.pf.below.size
  refine ⟨hx.pn.kept (hg.block g hx.pn.size fun e => ?_) (fun b hb => ?_) (fun k hk => ?_), hx.hh, hx.sr, hb2.trans (Below.grown (Below.refl _ _) hg (Nat.le_trans h.below.size hs2) (fun k hk => Nat.le_trans h.b0 (hrow k hk).1)), h.b0, ?_, ?_, ?_, ?_, ?_, Nat.le_trans hx.len h.len, ?_⟩
  · obtain ⟨_, cur, hc⟩ := hrow g e.symm
    rw [h.pn.obj] at hc; injection hc with hc; injection hc with _ hc; cases hc
  · obtain ⟨cur, hc⟩ := own_type hx.pn.row hb
    refine hg.block b (Array.getElem?_eq_some_iff.1 hc).1 fun e => ?_
    obtain ⟨_, cur2, hc2⟩ := hrow b e.symm
    obtain ⟨h1, h2⟩ := h.pn.ints hc2
    have := hx.pf.others b _ hc2 h1 h2
    rw [hc] at this; injection this with this; injection this with _ this; cases this
  · exact hg.block k (by have := h.b1; omega) fun e => by have := (hrow k e.symm).1; omega
  · exact Nat.le_trans h.b1 (Nat.le_trans hs2 hg.size)
  · rw [List.length_append, List.map_append]; exact hown
  · exact sorted_out h.srt fun x hxo => h.apart x hxo n hn
  · intro x hxo y hy
    obtain ⟨hy1, hy2⟩ := (hel y).1 hy
    rcases List.mem_append.1 hxo with hxo | hxo
    · exact h.apart x hxo y hy1
    · rw [List.mem_singleton] at hxo; subst hxo
      have := hmin y hy1; omega
  · intro x
    rw [← h.el x, hel x]
    constructor
    · rintro (h1 | h1)
      · rcases List.mem_append.1 h1 with h1 | h1
        · exact .inl h1
        · rw [List.mem_singleton] at h1; subst h1; exact .inr hn
      · exact .inr h1.1
    · rintro (h1 | h1)
      · exact .inl (List.mem_append_left _ h1)
      · by_cases e : x = n
        · subst e; exact .inl (by simp)
        · exact .inr ⟨h1, e⟩
  · have := h.bound; rw [List.length_append]; simp only [List.length_cons, List.length_nil]; omega
theorem UL.pre {w w' : World} {B0 T g : Nat} {v V : Value} {l : List En} {out : List Int} {ls : List (List Int)} (h : UL w w' B0 T g v V l out ls) : out = (uni ls).take out.length := by
  have h1 : uni ls = out ++ asSet (l.flatMap En.xs) := by
    refine sorted_ext _ _ (uni_sorted ls) (List.pairwise_append.2 ⟨h.srt, asSet_sorted _, fun a ha b hb => h.apart a ha b ?_⟩) fun x => ?_
    · rw [asSet_mem, List.mem_flatMap] at hb; exact hb
    · rw [uni_mem, ← h.el x, List.mem_append, asSet_mem, List.mem_flatMap]; rfl
  rw [h1, List.take_left]
theorem UL.whole {w w' : World} {B0 T g : Nat} {v V : Value} {out : List Int} {ls : List (List Int)} (h : UL w w' B0 T g v V [] out ls) : out = uni ls :=
  sorted_ext _ _ h.srt (uni_sorted ls) fun x => by rw [uni_mem, ← h.el x]; exact ⟨.inl, fun h => h.elim id (fun ⟨e, he, _⟩ => by cases he)⟩
theorem R_of_int {w : World} {base : Nat} {v : Value} {xs : List Int} (h : w.ownsRow base 3 1 v xs.length (xs.map (Value.int .i64))) : Kd.R (Kd.int .i64) 3 w base (fun _ => True) v xs := Kd.R_of_own (by rw [encs_int]; exact h) (fun _ _ => trivial)
def UniP (w : World) (r : List Int) (e : Ending) (w' : World) : Prop := ∃ v : Value, e = .returned v ∧ Kd.R (Kd.int .i64) 3 w' w.heap.size (fun _ => True) v r ∧ Below w.heap.size w w'
theorem UL.start {w w1 : World} {g : Nat} {V : Value} {l : List En} {ls : List (List Int)} (h : HD w w1 w.heap.size w1.heap.size g V l ls) (hl : ls.length ≤ 1000) : UL w w1 w1.heap.size (ltot ls) g (.slice none 0 0) V l [] ls :=
  ⟨h.pn, h.hh, h.sr, h.below, h.below.size, Nat.le_refl _, World.ownsRow_nil _ _ _ _, List.Pairwise.nil, (fun x hx => by cases hx), fun x => by rw [← h.el x]; simp, Nat.le_trans h.len hl, by have := h.tot; simpa using this⟩
theorem UL.fin {w w' : World} {B0 T g : Nat} {v V : Value} {l : List En} {out : List Int} {ls : List (List Int)} (h : UL w w' B0 T g v V l out ls) : w'.ownsRow w.heap.size 3 1 v out.length (out.map (Value.int .i64)) := by
  obtain ⟨h1, h2⟩ := h.own
  refine ⟨h1, ?_⟩
  rcases h2 with h2 | ⟨g, cap, cur, e, hg, r⟩
  · exact .inl h2
  · exact .inr ⟨g, cap, cur, e, Nat.le_trans h.b0 hg, r⟩
section
attribute [local go_sem ↓ high] app_hide
set_option maxHeartbeats 8000000 in
set_option maxRecDepth 100000 in
theorem union_ (w : World) (A0 : Option Addr) (c0 : Nat) (ls : List (List Int)) (hr0 : Kd.C (Kd.slice 3 (Kd.int .i64)) w A0 ls.length ls) (hc0 : ls.length ≤ c0) (hlen : ls.length ≤ 1000) (htot : ltot ls ≤ 100000) :
    Calls Try.prog 8 #[.slice A0 ls.length c0] w (UniP w (uni ls)) := by
  have HR0 := Aside0.mk hr0
  have HT := Aside0.mk htot
  have HL := Aside0.mk hlen
  have HC := Aside0.mk hc0
  clear hr0 htot hlen hc0
  obtain ⟨i0, hi0, hz0, hz1, hz2⟩ := info_parts info3_
  go_enter Try.func8, Try.ntmps8
  go_wp2_with (go_at_call 18; (with_reducible refine (heads_ _ A0 c0 ls HR0.out HC.out HL.out HT.out).mono ?_); rintro e w1 ⟨g, V1, l1, rfl, hd⟩; have HX := Aside0.mk (UL.start hd HL.out); have hcg := hd.pn.cell; obtain ⟨AV1, cV1, hV1⟩ := own_form2 hd.pn.row; rw [hV1] at hcg; clear hd hV1)
  obtain ⟨B0, hB0⟩ : ∃ B0, w1.heap.size = B0 := ⟨_, rfl⟩
  rw [hB0] at HX
  clear hB0 hcg
  obtain ⟨V0, hV0⟩ : ∃ V0 : Value, .slice none 0 0 = V0 := ⟨_, rfl⟩
  rw [hV0] at HX
  simp only [hV0]
  clear hV0
  go_loopg [3] (tot l1 + 1) (fun kq v3 w' => ∃ (l : List En) (V : Value) (out : List Int), Aside0 (tot l + 1 ≤ kq) ∧ Aside0 (UL w w' B0 (ltot ls) g v3 V l out ls))
  case atStart => exact ⟨l1, V1, [], ⟨Nat.le_refl _⟩, HX⟩
  case round =>
    clear HX
    obtain ⟨l, V, out, HK, HX⟩ := hrel
    obtain ⟨A3, c3, hv3⟩ := own_form2 HX.out.own
    subst hv3
    obtain ⟨AV, cV, hV⟩ := own_form2 HX.out.pn.row
    have hcg := HX.out.pn.cell
    rw [hV] at hcg
    clear hV
    obtain ⟨k, hk⟩ : ∃ k, out.length = k := ⟨_, rfl⟩
    have HKO := Aside0.mk hk
    have hk9 : k ≤ 100000 := by have := HX.out.bound; have := HT.out; omega
    by_cases hl0 : l = []
    · subst hl0
      have hcg2 : wr.cell? ⟨g, 0, none⟩ = some (.slice AV 0 cV) := hcg
      clear hcg
      simp only [hk]
      clear hk
      go_wp2_with (go_at_call 19; (with_reducible refine (len_ _ _ 0 cV).mono ?_); rintro e w' ⟨rfl, rfl⟩)
      go_ret
      exact ⟨_, rfl, R_of_int (by have h9 : uni ls = out := HX.out.whole.symm; rw [h9]; have h8 := HX.out.fin; rw [HKO.out] at h8 ⊢; exact h8), HX.out.below⟩
    · have HL0 := Aside0.mk hl0
      have hlp : 0 < l.length := List.length_pos_iff.2 hl0
      obtain ⟨m, hm⟩ : ∃ m, l.length = m := ⟨_, rfl⟩
      rw [hm] at hlp hcg
      have q1 : (0 : Int) < (m : Int) := by omega
      have q2 : decide ((0 : Int) < (m : Int)) = true := decide_eq_true q1
      have q3 : decide (0 < m) = true := decide_eq_true hlp
      have hm6 : l.length ≤ 60000 := Nat.le_trans HX.out.len (by decide)
      have HM := Aside0.mk hm
      have hbw := HX.out.below.size
      clear hl0 hm
      simp only [hk]
      clear hk
      go_wp2_with (first
        | (go_at_call 19; (with_reducible refine (len_ _ _ m cV).mono ?_); rintro e w' ⟨rfl, rfl⟩)
        | (go_at_call 20; (with_reducible refine (next_ _ w.heap.size B0 g V l HX.out.pn HX.out.hh HX.out.sr HL0.out hm6 hbw).mono ?_); rintro e w2 ⟨V2, l2, x, rfl, hx, ht, hel, hmin, hn⟩; have HNX := Aside0.mk (And.intro hx (And.intro ht (And.intro hel (And.intro hmin hn)))); clear hx ht hel hmin hn; have hown2 : w2.ownsRow B0 3 1 (.slice A3 k c3) k (out.map (Value.int .i64)) := (by have h8 := HX.out.own; rw [HKO.out] at h8; exact own_lift h8 fun b hb => by obtain ⟨cur, hc⟩ := own_type h8 hb; obtain ⟨h1, h2⟩ := HX.out.pn.ints hc; rw [hc]; exact HNX.out.1.pf.others b _ hc h1 h2); have hbs : B0 ≤ (w2.alloc (.cells #[.int .i64 x] 3 (0, 0))).heap.size := (by have h8 := HX.out.b1; have h7 := HNX.out.1.pf.below.size; simp; omega); obtain ⟨v5, w5, hrun, hown5, hgrow, -, -⟩ := run_append_own_at (P := Try.prog) (w2.alloc (.cells #[.int .i64 x] 3 (0, 0))) B0 22 22 3 i0 _ 1 8 Try.underlying22 hi0 hz0 hz1 hz2 rfl (by decide) (.slice A3 k c3) k (out.map (Value.int .i64)) (hown2.alloc _) ⟨w2.heap.size, 0, none⟩ 1 1 [.int .i64 x] (by rfl) (World.news_of_block (heap_alloc_new w2 _)) (by simp [Value.oneCell']) (by simp only [maxLen]; omega) (by omega) hbs; rw [app_hide] at hrun; have HG := Aside0.mk (And.intro hown5 (World.grownBy.trans (World.grownBy_alloc w2 _ _) hgrow)); clear hown2 hbs hown5 hgrow))
      go_roundg (gk - 1)
      case measure => have := HK.out; have := HNX.out.2.1; omega
      case rel => exact ⟨l2, V2, out ++ [x], ⟨by have := HK.out; have := HNX.out.2.1; omega⟩, ⟨UL.step (v := .slice A3 out.length c3) HX.out HNX.out.1 HNX.out.2.1 HNX.out.2.2.1 HNX.out.2.2.2.1 HNX.out.2.2.2.2 (by rw [HKO.out]; exact HG.out.1) (by rw [HKO.out]; exact HG.out.2)⟩⟩
end
section
attribute [local go_sem ↓ high] app_hide
set_option maxHeartbeats 8000000 in
set_option maxRecDepth 100000 in
theorem first_ (w : World) (n : Int) (A0 : Option Addr) (c0 : Nat) (ls : List (List Int)) (hr0 : Kd.C (Kd.slice 3 (Kd.int .i64)) w A0 ls.length ls) (hc0 : ls.length ≤ c0) (hlen : ls.length ≤ 1000) (htot : ltot ls ≤ 100000) :
    Calls Try.prog 11 #[.int .i64 n, .slice A0 ls.length c0] w (UniP w ((uni ls).take n.toNat)) := by
  have HR0 := Aside0.mk hr0
  have HT := Aside0.mk htot
  have HL := Aside0.mk hlen
  have HC := Aside0.mk hc0
  clear hr0 htot hlen hc0
  obtain ⟨i0, hi0, hz0, hz1, hz2⟩ := info_parts info3_
  go_enter Try.func11, Try.ntmps11
  go_wp2_with (go_at_call 18; (with_reducible refine (heads_ _ A0 c0 ls HR0.out HC.out HL.out HT.out).mono ?_); rintro e w1 ⟨g, V1, l1, rfl, hd⟩; have HX := Aside0.mk (UL.start hd HL.out); have hcg := hd.pn.cell; obtain ⟨AV1, cV1, hV1⟩ := own_form2 hd.pn.row; rw [hV1] at hcg; clear hd hV1)
  obtain ⟨B0, hB0⟩ : ∃ B0, w1.heap.size = B0 := ⟨_, rfl⟩
  rw [hB0] at HX
  clear hB0 hcg
  obtain ⟨V0, hV0⟩ : ∃ V0 : Value, .slice none 0 0 = V0 := ⟨_, rfl⟩
  rw [hV0] at HX
  simp only [hV0]
  clear hV0
  go_loopg [5] (tot l1 + 1) (fun kq v3 w' => ∃ (l : List En) (V : Value) (out : List Int), Aside0 (tot l + 1 ≤ kq) ∧ Aside0 (UL w w' B0 (ltot ls) g v3 V l out ls) ∧ Aside0 (out.length ≤ n.toNat))
  case atStart => exact ⟨l1, V1, [], ⟨Nat.le_refl _⟩, HX, ⟨Nat.zero_le _⟩⟩
  case round =>
    clear HX
    obtain ⟨l, V, out, HK, HX, HO⟩ := hrel
    obtain ⟨A3, c3, hv3⟩ := own_form2 HX.out.own
    subst hv3
    obtain ⟨AV, cV, hV⟩ := own_form2 HX.out.pn.row
    have hcg := HX.out.pn.cell
    rw [hV] at hcg
    clear hV
    obtain ⟨k, hk⟩ : ∃ k, out.length = k := ⟨_, rfl⟩
    have HKO := Aside0.mk hk
    have hk9 : k ≤ 100000 := by have := HX.out.bound; have := HT.out; omega
    by_cases hl0 : l = []
    · subst hl0
      have hcg2 : wr.cell? ⟨g, 0, none⟩ = some (.slice AV 0 cV) := hcg
      clear hcg
      simp only [hk]
      clear hk
      go_wp2_with (go_at_call 19; (with_reducible refine (len_ _ _ 0 cV).mono ?_); rintro e w' ⟨rfl, rfl⟩)
      go_ret
      exact ⟨_, rfl, R_of_int (by have h9 : (uni ls).take n.toNat = out := (by rw [← HX.out.whole, List.take_of_length_le HO.out]); rw [h9]; have h8 := HX.out.fin; rw [HKO.out] at h8 ⊢; exact h8), HX.out.below⟩
    · have HL0 := Aside0.mk hl0
      have hlp : 0 < l.length := List.length_pos_iff.2 hl0
      obtain ⟨m, hm⟩ : ∃ m, l.length = m := ⟨_, rfl⟩
      rw [hm] at hlp hcg
      have q1 : (0 : Int) < (m : Int) := by omega
      have q2 : decide ((0 : Int) < (m : Int)) = true := decide_eq_true q1
      have q3 : decide (0 < m) = true := decide_eq_true hlp
      have hm6 : l.length ≤ 60000 := Nat.le_trans HX.out.len (by decide)
      have HM := Aside0.mk hm
      have hbw := HX.out.below.size
      clear hl0 hm
      simp only [hk]
      clear hk
      by_cases hkn : (k : Int) < n
      · have p4 : decide ((k : Int) < n) = true := decide_eq_true hkn
        go_wp2_with (first
          | (go_at_call 19; (with_reducible refine (len_ _ _ m cV).mono ?_); rintro e w' ⟨rfl, rfl⟩)
          | (go_at_call 20; (with_reducible refine (next_ _ w.heap.size B0 g V l HX.out.pn HX.out.hh HX.out.sr HL0.out hm6 hbw).mono ?_); rintro e w2 ⟨V2, l2, x, rfl, hx, ht, hel, hmin, hn⟩; have HNX := Aside0.mk (And.intro hx (And.intro ht (And.intro hel (And.intro hmin hn)))); clear hx ht hel hmin hn; have hown2 : w2.ownsRow B0 3 1 (.slice A3 k c3) k (out.map (Value.int .i64)) := (by have h8 := HX.out.own; rw [HKO.out] at h8; exact own_lift h8 fun b hb => by obtain ⟨cur, hc⟩ := own_type h8 hb; obtain ⟨h1, h2⟩ := HX.out.pn.ints hc; rw [hc]; exact HNX.out.1.pf.others b _ hc h1 h2); have hbs : B0 ≤ (w2.alloc (.cells #[.int .i64 x] 3 (0, 0))).heap.size := (by have h8 := HX.out.b1; have h7 := HNX.out.1.pf.below.size; simp; omega); obtain ⟨v5, w5, hrun, hown5, hgrow, -, -⟩ := run_append_own_at (P := Try.prog) (w2.alloc (.cells #[.int .i64 x] 3 (0, 0))) B0 22 22 3 i0 _ 1 8 Try.underlying22 hi0 hz0 hz1 hz2 rfl (by decide) (.slice A3 k c3) k (out.map (Value.int .i64)) (hown2.alloc _) ⟨w2.heap.size, 0, none⟩ 1 1 [.int .i64 x] (by rfl) (World.news_of_block (heap_alloc_new w2 _)) (by simp [Value.oneCell']) (by simp only [maxLen]; omega) (by omega) hbs; rw [app_hide] at hrun; have HG := Aside0.mk (And.intro hown5 (World.grownBy.trans (World.grownBy_alloc w2 _ _) hgrow)); clear hown2 hbs hown5 hgrow))
        go_roundg (gk - 1)
        case measure => have := HK.out; have := HNX.out.2.1; omega
        case rel => exact ⟨l2, V2, out ++ [x], ⟨by have := HK.out; have := HNX.out.2.1; omega⟩, ⟨UL.step (v := .slice A3 out.length c3) HX.out HNX.out.1 HNX.out.2.1 HNX.out.2.2.1 HNX.out.2.2.2.1 HNX.out.2.2.2.2 (by rw [HKO.out]; exact HG.out.1) (by rw [HKO.out]; exact HG.out.2)⟩, ⟨by rw [List.length_append, HKO.out]; simp only [List.length_cons, List.length_nil]; omega⟩⟩
      · have p4 : decide ((k : Int) < n) = false := decide_eq_false hkn
        go_wp2_with (go_at_call 19; (with_reducible refine (len_ _ _ m cV).mono ?_); rintro e w' ⟨rfl, rfl⟩)
        go_ret
        exact ⟨_, rfl, R_of_int (by have h9 : (uni ls).take n.toNat = out := (by rw [show n.toNat = out.length by have := HO.out; have := HKO.out; omega]; exact HX.out.pre.symm); rw [h9]; have h8 := HX.out.fin; rw [HKO.out] at h8 ⊢; exact h8), HX.out.below⟩
end
end Go.Proofs.Ytckpgbkbbdifmaa.Ep
