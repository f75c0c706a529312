import Derived.Test.YtckpgbkbbdifmaaMgT
import Derived.WalkKit
import Derived.ProofKit
import Derived.Below
import Derived.WalkLawsBesides
import Derived.Deep.QuietTactic
import Derived.BigQuiet
import Derived.StillTailTactics
import Derived.Deep.AppendLies
import Derived.Deep.RegionHeld3
import Derived.KernelRfl
import Derived.BigRegion
import Derived.WalkSpells
import Derived.Deep.Slices
import Derived.Deep.Fields
import Derived.ChangeSame
import Derived.Deep.RegionLaw
import Derived.Deep.DrawnRows
import Derived.Deep.Upon
import Derived.Laws.CopyOwn
namespace Go.Proofs.Ytckpgbkbbdifmaa.Ep
open Go Go.RowKit Go.Proofs.YtckpgbkbbdifmaaW.PrintWords Go.Proofs.YtckpgbkbbdifmaaW.PrintLast Go.Proofs.YtckpgbkbbdifmaaW.PrintMore Go.Proofs.Ytckpgbkbbdifmaa.PMergeTells Go.Proofs.Ytckpgbkbbdifmaa.Keep
set_option linter.unusedVariables false
set_option linter.unusedSimpArgs false
def cut40 (l : List Int) : List Int := l.take 40
def rep80 : List Int := List.replicate 80 (-5)
theorem rising_m (w : World) (A0 : Option Addr) (c0 : Nat) (l0 : List Int) (n0 : Nat) (r : List Int) (m : Nat) (hn0 : l0.length = n0) (hr0 : LC w A0 l0) (hc0 : n0 ≤ c0) (h0 : n0 ≤ 100000) (hr : rise l0 = r) (hm : r.length = m) :
    Calls Try.prog 14 #[.slice A0 n0 c0] w fun e w' => ∃ A c, e = .returned (.slice A m c) ∧ QRow w' w.heap.size 3 1 (.slice A m c) m (r.map (Value.int .i64)) ∧ m ≤ c ∧ Below w.heap.size w w' := by
  subst hm; exact rising_q w A0 c0 l0 n0 r hn0 hr0 hc0 h0 hr
theorem roomy_m (w : World) (A0 : Option Addr) (c0 : Nat) (l0 : List Int) (n0 : Nat) (r : List Int) (m : Nat) (hn0 : l0.length = n0) (hr0 : LC w A0 l0) (hc0 : n0 ≤ c0) (h0 : n0 ≤ 1000) (hr : l0 ++ List.replicate 80 (-5) = r) (hm : r.length = m) :
    Calls Try.prog 13 #[.slice A0 n0 c0, .int .i64 (-5)] w fun e w' => ∃ A c, e = .returned (.slice A m c) ∧ QRow w' w.heap.size 3 1 (.slice A m c) m (r.map (Value.int .i64)) ∧ m ≤ c ∧ Below w.heap.size w w' := by
  subst hm; exact roomy_q w A0 c0 l0 n0 r hn0 hr0 hc0 h0 hr
theorem hv_eq {A : Option Addr} {c m : Nat} {x : List Int} (h : x.length = m) : hv (A, c, x) = .slice A m c := by unfold hv; rw [h]
/-- the round of the first loop: the three rows grow. -/
structure T2 (w w' : World) (i : Nat) (v5 v6 v7 : Value) (LO LF : List Qd) (ALL : List Int) (l0 : List (List Int)) : Prop where
  t : T1 w w' v5 v6 v7 LO LF ALL
  lo : LO.map (·.2.2) = (l0.take i).map cut40
  lf : LF.map (·.2.2) = ((l0.take i).map cut40).map (· ++ rep80)
  al : ALL = ((l0.take i).map cut40).flatMap rise
  ac : AllC w LO
  le : i ≤ l0.length
theorem T2.lens {w w' : World} {i : Nat} {v5 v6 v7 : Value} {LO LF : List Qd} {ALL : List Int} {l0 : List (List Int)} (h : T2 w w' i v5 v6 v7 LO LF ALL l0) : LO.length = i ∧ LF.length = i ∧ ALL.length ≤ 40 * i := by
  have h1 := congrArg List.length h.lo
  have h2 := congrArg List.length h.lf
  have hle := h.le
  simp only [List.length_map, List.length_take] at h1 h2
  refine ⟨by omega, by omega, ?_⟩
  rw [h.al]
  have h3 : ∀ ls : List (List Int), (∀ l ∈ ls, l.length ≤ 40) → (ls.flatMap rise).length ≤ 40 * ls.length := fun ls => by
    induction ls with
    | nil => intro _; simp
    | cons l ls ih =>
      intro hl
      rw [List.flatMap_cons, List.length_append, List.length_cons]
      have := rise_length l
      have := hl l List.mem_cons_self
      have := ih fun x hx => hl x (List.mem_cons_of_mem _ hx)
      omega
  have h4 := h3 ((l0.take i).map cut40) fun l hl => by
    obtain ⟨x, _, rfl⟩ := List.mem_map.1 hl
    unfold cut40; rw [List.length_take]; omega
  rw [List.length_map, List.length_take] at h4; omega
theorem allC_snoc {w : World} : ∀ {L : List Qd} {q : Qd}, AllC w L → LC w q.1 q.2.2 ∧ q.2.2.length ≤ q.2.1 → AllC w (L ++ [q])
  | [], _, _, h => ⟨h, trivial⟩
  | _ :: _, _, h1, h => ⟨h1.1, allC_snoc h1.2 h⟩
def inAll (X : List (List Int)) (x : Int) : Bool := X.all fun y => decide (x ∈ rise y)
def cnt (X : List (List Int)) (x : Int) : Nat := (X.filter fun y => decide (x ∈ rise y)).length
theorem cnt_le (X : List (List Int)) (x : Int) : cnt X x ≤ X.length := List.length_filter_le _ _
theorem cnt_snoc (X : List (List Int)) (y : List Int) (x : Int) : cnt (X ++ [y]) x = cnt X x + if x ∈ rise y then 1 else 0 := by
  unfold cnt; rw [List.filter_append, List.length_append]
  by_cases h : x ∈ rise y <;> simp [h]
theorem cnt_all (X : List (List Int)) (x : Int) : (cnt X x = X.length) ↔ inAll X x = true := by
  unfold cnt inAll
  rw [List.length_filter_eq_length_iff, List.all_eq_true]
theorem inter_filter (X : List (List Int)) (hX : X ≠ []) : (uni X).filter (inAll X) = inter X := by
  cases X with
  | nil => exact absurd rfl hX
  | cons a X =>
    refine sorted_ext _ _ ((uni_sorted _).filter _) (inter_sorted _) fun x => ?_
    rw [List.mem_filter, uni_mem, inter_mem]
    unfold inAll
    rw [List.all_eq_true]
    constructor
    · rintro ⟨_, h⟩ y hy; simpa using h y hy
    · intro h; exact ⟨⟨a, List.mem_cons_self, h a List.mem_cons_self⟩, fun y hy => by simpa using h y hy⟩
theorem uni_inter_nil : (uni []).filter (inAll []) = inter [] := rfl
theorem inter_eq (X : List (List Int)) : (uni X).filter (inAll X) = inter X := by
  cases X with
  | nil => rfl
  | cons a X => exact inter_filter _ (by simp)
theorem minus_eq (a b : List Int) : (rise a).filter (fun y => !decide (y ∈ rise b)) = minus a b := by
  unfold minus bothL; congr 1; funext x; cases decide (x ∈ rise b) <;> rfl
structure IQ (w w' : World) (v : Value) (L : List Int) : Prop where
  below : Below w.heap.size w w'
  row : QRow w' w.heap.size 3 1 v L.length (L.map (Value.int .i64))
theorem IQ.start (w : World) : IQ w w (.slice none 0 0) [] := ⟨Below.refl _ _, rfl, .inl ⟨rfl, none, rfl, fun a ha => by cases ha⟩⟩
theorem IQ.all {w w' w2 : World} {v : Value} {L : List Int} (h : IQ w w' v L) (hb : Below w'.heap.size w' w2) : IQ w w2 v L := ⟨h.below.trans (hb.mono h.below.size), q_move h.row fun k hk => hb.block k (q_lt h.row k hk)⟩
theorem IQ.app {w w' w2 : World} {v v' : Value} {L : List Int} {y : Int} (h : IQ w w' v L) (hr : QRow w2 w.heap.size 3 1 v' (L.length + 1) (L.map (Value.int .i64) ++ [.int .i64 y])) (hg : w'.grownBy w2 v.ownBlock) : IQ w w2 v' (L ++ [y]) :=
  ⟨grown_below h.below h.row hg, by rw [List.length_append, List.map_append]; exact hr⟩
theorem IQ.lc {w w' : World} {A : Option Addr} {n c : Nat} {L : List Int} (h : IQ w w' (.slice A n c) L) (hn : L.length = n) : LC w' A L := LC_of_q (base := w.heap.size) (by have := h.row; rw [hn] at this; exact this) hn
theorem below_trans2 {a b c : World} (h : Below a.heap.size a b) (h2 : Below b.heap.size b c) : Below a.heap.size a c := h.trans (h2.mono h.size)
theorem T2.step {w w' w2 w3 w4 w5 w6 : World} {i m m13 m14 : Nat} {v5 v6 v7 v5' v6' v7' : Value} {LO LF : List Qd} {ALL : List Int} {l0 : List (List Int)} {l x r13 r14 : List Int} {A1 A3 : Option Addr} {c1 c3 : Nat}
    (h : T2 w w' i v5 v6 v7 LO LF ALL l0) (hl : l0[i]? = some l) (hx : cut40 l = x) (hm : x.length = m) (hlc : LC w A1 x) (hmc : m ≤ c1) (h13 : x ++ List.replicate 80 (-5) = r13) (hm13 : r13.length = m13) (h14 : rise x = r14) (hm14 : r14.length = m14)
    (hq1 : QRow w2 w.heap.size 22 1 v5' (i + 1) (LO.map hv ++ [hv (A1, c1, x)])) (hg1 : w'.grownBy w2 v5.ownBlock) (ha1 : v5'.ownBlock = v5.ownBlock ∨ ∃ b, v5'.ownBlock = some b ∧ w'.heap.size ≤ b)
    (hq3 : QRow w3 w2.heap.size 3 1 (.slice A3 m13 c3) m13 (r13.map (Value.int .i64))) (hb3 : Below w2.heap.size w2 w3)
    (hq4 : QRow w4 w.heap.size 22 1 v6' (i + 1) (LF.map hv ++ [hv (A3, c3, r13)])) (hg4 : w3.grownBy w4 v6.ownBlock) (ha4 : v6'.ownBlock = v6.ownBlock ∨ ∃ b, v6'.ownBlock = some b ∧ w3.heap.size ≤ b)
    (hb5 : Below w4.heap.size w4 w5)
    (hq6 : QRow w6 w.heap.size 3 1 v7' (ALL.length + m14) (ALL.map (Value.int .i64) ++ r14.map (Value.int .i64))) (hg6 : w5.grownBy w6 v7.ownBlock) (ha6 : v7'.ownBlock = v7.ownBlock ∨ ∃ b, v7'.ownBlock = some b ∧ w5.heap.size ≤ b) :
    T2 w w6 (i + 1) v5' v6' v7' (LO ++ [(A1, c1, x)]) (LF ++ [(A3, c3, r13)]) (ALL ++ r14) l0 := by
  obtain ⟨e1, e2, -⟩ := h.lens
  have t2 := h.t.own_app (q := (A1, c1, x)) hg1 (by rw [e1]; exact hq1) ha1
  have t3 := t2.mono hb3
  have t4 := t3.full_app (q := (A3, c3, r13)) (by rw [hv_eq hm13]; show QRow w3 w.heap.size 3 1 (.slice A3 m13 c3) r13.length _; rw [hm13]; exact q_lower hq3 t2.below.size) (fun k hk e => by
    rw [hv_eq hm13] at hk
    have h1 := (q_typed hq3 k hk).1
    have h2 := q_lt t2.all k e
    omega) hg4 (by rw [e2]; exact hq4) ha4
  have t5 := t4.mono hb5
  have t6 := t5.all_app (r := r14) hg6 (by rw [hm14]; exact hq6) ha6
  have htk : l0.take (i + 1) = l0.take i ++ [l] := take_snoc_ hl
  refine ⟨t6, ?_, ?_, ?_, allC_snoc h.ac ⟨hlc, by rw [hm]; exact hmc⟩, (List.getElem?_eq_some_iff.1 hl).1⟩
  · rw [List.map_append, h.lo, htk, List.map_append]; show _ ++ [x] = _ ++ [cut40 l]; rw [hx]
  · rw [List.map_append, h.lf, htk, List.map_append, List.map_append]; show _ ++ [r13] = _ ++ [cut40 l ++ rep80]; rw [hx, ← h13]; rfl
  · rw [h.al, htk, List.map_append, List.flatMap_append]; show _ ++ r14 = _ ++ ([cut40 l].flatMap rise); rw [hx, ← h14]; simp
theorem cut40_C {w : World} {A : Option Addr} {l : List Int} (h : LC w A l) : LC w A (cut40 l) := by
  unfold cut40
  rcases Nat.le_total 40 l.length with h1 | h1
  · exact Kd.C_take h h1
  · rw [List.take_of_length_le h1]; exact h
section
variable {w w' w2 w3 w4 w5 : World} {i : Nat} {v5 v6 v7 : Value} {LO LF : List Qd} {ALL : List Int} {l0 : List (List Int)}
theorem T2.b2 (h : T2 w w' i v5 v6 v7 LO LF ALL l0) (hg1 : w'.grownBy w2 v5.ownBlock) : Below w.heap.size w w2 := grown_below h.t.below h.t.own hg1
theorem T2.own1 (h : T2 w w' i v5 v6 v7 LO LF ALL l0) : QRow w' w.heap.size 22 1 v5 i (LO.map hv) := by have h9 := h.t.own; rw [h.lens.1] at h9; exact h9
theorem T2.full3 (h : T2 w w' i v5 v6 v7 LO LF ALL l0) (hg1 : w'.grownBy w2 v5.ownBlock) (hb3 : Below w2.heap.size w2 w3) : QRow w3 w.heap.size 22 1 v6 i (LF.map hv) := by
  have h1 := q_other h.t.full hg1 fun k hk e => h.t.ne k e hk
  rw [h.lens.2.1] at h1
  exact q_move h1 fun k hk => hb3.block k (q_lt h1 k hk)
theorem T2.all3 (h : T2 w w' i v5 v6 v7 LO LF ALL l0) (hg1 : w'.grownBy w2 v5.ownBlock) (hb3 : Below w2.heap.size w2 w3) : QRow w3 w.heap.size 3 1 v7 ALL.length (ALL.map (Value.int .i64)) := by
  have h1 := q_other h.t.all hg1 (q_apart h.t.all h.t.own (by decide))
  exact q_move h1 fun k hk => hb3.block k (q_lt h1 k hk)
theorem T2.all5 (h : T2 w w' i v5 v6 v7 LO LF ALL l0) (hg1 : w'.grownBy w2 v5.ownBlock) (hb3 : Below w2.heap.size w2 w3) (hg4 : w3.grownBy w4 v6.ownBlock) (hb5 : Below w4.heap.size w4 w5) : QRow w5 w.heap.size 3 1 v7 ALL.length (ALL.map (Value.int .i64)) := by
  have h1 := h.all3 hg1 hb3
  have h2 := q_other h1 hg4 (q_apart h1 (h.full3 hg1 hb3) (by decide))
  exact q_move h2 fun k hk => hb5.block k (q_lt h2 k hk)
theorem T2.b4 (h : T2 w w' i v5 v6 v7 LO LF ALL l0) (hg1 : w'.grownBy w2 v5.ownBlock) (hb3 : Below w2.heap.size w2 w3) (hg4 : w3.grownBy w4 v6.ownBlock) : Below w.heap.size w w4 :=
  grown_below ((h.b2 hg1).trans (hb3.mono (h.b2 hg1).size)) (h.full3 hg1 hb3) hg4
end
/-- what stands behind the first loop. -/
structure T3 (w w1 : World) (n : Nat) (Ao Af Aa : Option Addr) (co cf ca na : Nat) (LO LF : List Qd) (ALL : List Int) (X : List (List Int)) : Prop where
  below : Below w.heap.size w w1
  own : QRow w1 w.heap.size 22 1 (.slice Ao n co) n (LO.map hv)
  full : QRow w1 w.heap.size 22 1 (.slice Af n cf) n (LF.map hv)
  all : LC w1 Aa ALL
  ao : AllC w1 LO
  af : AllC w1 LF
  lo : LO.map (·.2.2) = X
  lf : LF.map (·.2.2) = X.map (· ++ rep80)
  al : ALL = X.flatMap rise
  xn : X.length = n
  x40 : ∀ x ∈ X, x.length ≤ 40
section
variable {w w1 w2 : World} {n : Nat} {Ao Af Aa : Option Addr} {co cf ca na : Nat} {LO LF : List Qd} {ALL : List Int} {X : List (List Int)}
theorem T2.fin {v5 v6 v7 : Value} {l0 : List (List Int)} (h : T2 w w1 n v5 v6 v7 LO LF ALL l0) (h5 : v5 = .slice Ao n co) (h6 : v6 = .slice Af n cf) (h7 : v7 = .slice Aa na ca) (hna : ALL.length = na) (hn : l0.length = n) : T3 w w1 n Ao Af Aa co cf ca na LO LF ALL (l0.map cut40) := by
  subst h5 h6 h7
  obtain ⟨e1, e2, -⟩ := h.lens
  have htk : l0.take n = l0 := List.take_of_length_le (by omega)
  have ho := h.t.own; have hf := h.t.full; have ha := h.t.all
  rw [e1] at ho; rw [e2] at hf; rw [hna] at ha
  refine ⟨h.t.below, ho, hf, LC_of_q ha hna, h.ac.below h.t.below, h.t.fc.allC, by rw [h.lo, htk], by rw [h.lf, htk], by rw [h.al, htk], by rw [List.length_map, hn], fun x hx => ?_⟩
  obtain ⟨l, _, rfl⟩ := List.mem_map.1 hx
  unfold cut40; rw [List.length_take]; omega
theorem T3.mono (h : T3 w w1 n Ao Af Aa co cf ca na LO LF ALL X) (hb : Below w1.heap.size w1 w2) : T3 w w2 n Ao Af Aa co cf ca na LO LF ALL X :=
  ⟨h.below.trans (hb.mono h.below.size), q_move h.own fun k hk => hb.block k (q_lt h.own k hk), q_move h.full fun k hk => hb.block k (q_lt h.full k hk), h.all.below hb, h.ao.below hb, h.af.below hb, h.lo, h.lf, h.al, h.xn, h.x40⟩
/-- one list of own and full, in memory. -/
theorem T3.at (h : T3 w w1 n Ao Af Aa co cf ca na LO LF ALL X) (j : Nat) (hj : j < n) : ∃ (ao af : Addr) (A1 A2 : Option Addr) (c1 c2 : Nat) (x : List Int), Ao = some ao ∧ Af = some af ∧ X[j]? = some x ∧ x.length ≤ 40 ∧ w1.cell? (ao.add j) = some (.slice A1 x.length c1) ∧ w1.cell? (af.add j) = some (.slice A2 (x.length + 80) c2) ∧ LC w1 A1 x ∧ x.length ≤ c1 ∧ LC w1 A2 (x ++ rep80) ∧ x.length + 80 ≤ c2 := by
  obtain ⟨ao, eo, hco⟩ := q_cells h.own (by omega)
  obtain ⟨af, ef, hcf⟩ := q_cells h.full (by omega)
  have h1 := congrArg List.length h.lo
  have h2 := congrArg List.length h.lf
  rw [List.length_map, h.xn] at h1
  rw [List.length_map, List.length_map, h.xn] at h2
  have g1 : LO[j]? = some (LO[j]'(by omega)) := List.getElem?_eq_getElem _
  have g2 : LF[j]? = some (LF[j]'(by omega)) := List.getElem?_eq_getElem _
  generalize LO[j]'_ = q at g1
  generalize LF[j]'_ = f at g2
  obtain ⟨A1, c1, x⟩ := q
  obtain ⟨A2, c2, y⟩ := f
  have gx : X[j]? = some x := by rw [← h.lo, List.getElem?_map, g1]; rfl
  have gy : some y = some (x ++ rep80) := by
    have : (LF.map (·.2.2))[j]? = some y := by rw [List.getElem?_map, g2]; rfl
    rw [h.lf, List.getElem?_map, gx] at this; exact this.symm
  injection gy with gy; subst gy
  have k1 := h.ao.at _ (List.mem_of_getElem? g1)
  have k2 := h.af.at _ (List.mem_of_getElem? g2)
  have hl : (x ++ rep80).length = x.length + 80 := by rw [List.length_append]; unfold rep80; rw [List.length_replicate]
  refine ⟨ao, af, A1, A2, c1, c2, x, eo, ef, gx, h.x40 x (List.mem_of_getElem? gx), ?_, ?_, k1.1, k1.2, k2.1, by rw [← hl]; exact k2.2⟩
  · exact hco j _ (by rw [List.getElem?_map, g1]; rfl)
  · have := hcf j _ (by rw [List.getElem?_map, g2]; rfl)
    rw [this, hv_eq hl]
end
/-- the lists that are given: their beginnings. -/
structure GQ (w1 w' : World) (v : Value) (j : Nat) (LG : List Qd) (X : List (List Int)) : Prop where
  below : Below w1.heap.size w1 w'
  row : QRow w' w1.heap.size 22 1 v j (LG.map hv)
  ac : AllC w1 LG
  lg : LG.map (·.2.2) = X.take j
theorem GQ.start (w1 : World) (X : List (List Int)) : GQ w1 w1 (.slice none 0 0) 0 [] X := ⟨Below.refl _ _, ⟨rfl, .inl ⟨rfl, none, rfl, fun a ha => by cases ha⟩⟩, trivial, by simp⟩
theorem GQ.app {w1 w' w2 : World} {v v' : Value} {j : Nat} {LG : List Qd} {X : List (List Int)} {A : Option Addr} {c : Nat} {x : List Int} (h : GQ w1 w' v j LG X) (hx : X[j]? = some x) (hc : LC w1 A x ∧ x.length ≤ c) (hr : QRow w2 w1.heap.size 22 1 v' (j + 1) (LG.map hv ++ [hv (A, c, x)])) (hg : w'.grownBy w2 v.ownBlock) : GQ w1 w2 v' (j + 1) (LG ++ [(A, c, x)]) X :=
  ⟨grown_below h.below h.row hg, by rw [List.map_append]; exact hr, allC_snoc h.ac hc, by rw [List.map_append, h.lg, take_snoc_ hx]; rfl⟩
theorem rep80_C {w : World} {A : Option Addr} {x : List Int} (h : LC w A (x ++ rep80)) : LC w A x := by
  have h1 := Kd.C_take (m := x.length) h (by rw [List.length_append]; omega)
  rw [List.take_left'] at h1
  · exact h1
  · rfl
theorem ltot_le40 : ∀ X : List (List Int), (∀ x ∈ X, x.length ≤ 40) → ltot X ≤ 40 * X.length
  | [], _ => by simp [ltot]
  | l :: ls, h => by
    rw [ltot_cons, List.length_cons]
    have := h l List.mem_cons_self
    have := ltot_le40 ls fun x hx => h x (List.mem_cons_of_mem _ hx)
    omega
end Go.Proofs.Ytckpgbkbbdifmaa.Ep
