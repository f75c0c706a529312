import Derived.Test.YtfiokeahehkelaaEp
import Derived.WalkKit
import Derived.ProofKit
import Derived.Below
import Derived.Deep.Slices
import Derived.Deep.Fields
import Derived.ChangeSame
namespace Go.Proofs.Ytfiokeahehkelaa.Ep
open Go Go.RowKit Go.Proofs.YtfiokeahehkelaaW.PrintWords Go.Proofs.YtfiokeahehkelaaW.PrintLast Go.Proofs.YtfiokeahehkelaaW.PrintMore Go.Proofs.Ytfiokeahehkelaa.PEpochRuns
set_option linter.unusedVariables false
set_option linter.unusedSimpArgs false
open Go.ChangeShapes Go.WideShapes Go.Deep
section
variable {H : Type} {enc : TypeId × Value → H} {P : Program} {w : World} {base : Nat} {spare : Nat → Bool} {held : Bool}
theorem open_slice_fields {t e : TypeId} {fs : Array Field} {fuel : Nat} {cs : List Value} {x : DataW H × List MemPlace} (ht : P.underlying t = some (.slice e)) (he : P.underlying e = some (.struct fs))
    (hone : oneCellFields P fs = true) (hC : P.cellsOf e = fs.size) (h : DataW.trod enc P w base spare held fuel t cs = some x) :
    (cs = [.slice none 0 0] ∧ x = (.nil, [])) ∨
    ∃ (a : Addr) (len cap m : Nat) (D : Nat → DataW H) (Pl : Nat → List MemPlace), cs = [.slice (some a) len cap] ∧ base ≤ a.block ∧ len ≤ cap ∧ cap ≤ maxLen ∧ m = (if spare a.block then cap else len) ∧
      x = (.slice ((List.range len).map D) ((List.range (m - len)).map fun j => D (len + j)), MemPlace.row a (m * fs.size) ++ (List.range m).flatMap Pl) ∧
      ∀ i, i < m → ∃ (ys : List (DataW H × List MemPlace)) (n : Nat), D i = .agg (ys.map (·.1)) ∧ Pl i = ys.flatMap (·.2) ∧ ys.length = fs.size ∧
        ∀ (j : Nat) (f : Field), fs[j]? = some f → ∃ (v : Value) (y : DataW H × List MemPlace), w.cell? (a.add (i * fs.size + j)) = some v ∧ ys[j]? = some y ∧ DataW.trod enc P w base spare held n f.type [v] = some y := by
  rcases open_slice ht h with h0 | ⟨a, len, cap, m, n, D, Pl, hcs, hb, hl, hm, hmm, hx, hi⟩
  · exact .inl h0
  · refine .inr ⟨a, len, cap, m, D, Pl, hcs, hb, hl, hm, hmm, by rw [hC] at hx; exact hx, fun i him => ?_⟩
    obtain ⟨cs', hc, ht'⟩ := hi i him
    rw [hC] at hc
    obtain ⟨ys, n', hn', hy, hlen, hyl, hf⟩ := DataW.trod_struct he ht'
    obtain ⟨_, hcl, hat⟩ := World.cells?_some hc
    simp only [Prod.mk.injEq] at hy
    refine ⟨ys, n', hy.1, hy.2, hyl, fun j f hj => ?_⟩
    obtain ⟨ho, hk⟩ := hone_of hone j f hj
    have hjl : j < fs.size := (Array.getElem?_eq_some_iff.1 hj).1
    have hcell := hat j hjl
    have hv : cs'[j]? = some (cs'[j]'(by omega)) := List.getElem?_eq_getElem (by omega)
    have h1 := hf j f hj
    rw [ho, hk] at h1
    have hone' : (cs'.drop j).take 1 = [cs'[j]'(by omega)] := by
      rw [List.drop_eq_getElem_cons (by omega)]
      rfl
    rw [hone'] at h1
    have hys : ys[j]? = some (ys[j]'(by omega)) := List.getElem?_eq_getElem (by omega)
    refine ⟨_, _, ?_, hys, h1.trans hys⟩
    rw [← Go.Deep.add_add, hcell, hv]
end
/-- a slice of calls, as the caller handed it in: every call's three numbers, in memory. -/
structure Asks (w : World) (a : Option Addr) (len : Nat) (z : List (Int × Int × Int)) : Prop where
  eq : z.length = len
  max : len ≤ 9223372036854775807
  cell : ∀ i q, z[i]? = some q → ∃ x, a = some x ∧ (x.add (i * 3)).block < w.heap.size ∧ w.cell? (x.add (i * 3)) = some (.int .i64 q.1) ∧ w.cell? ⟨(x.add (i * 3)).block, (x.add (i * 3)).off + 1, none⟩ = some (.int .i64 q.2.1) ∧ w.cell? ⟨(x.add (i * 3)).block, (x.add (i * 3)).off + 2, none⟩ = some (.int .i64 q.2.2)
theorem Asks.below {w w' : World} {a : Option Addr} {len : Nat} {z : List (Int × Int × Int)} (h : Asks w a len z) (hb : Below w.heap.size w w') : Asks w' a len z :=
  ⟨h.eq, h.max, fun i q hq => by
    obtain ⟨x, e, hlt, h0, h1, h2⟩ := h.cell i q hq
    exact ⟨x, e, Nat.lt_of_lt_of_le hlt hb.size, (hb.cell (p := x.add (i * 3)) hlt).trans h0, (hb.cell (p := ⟨_, _, none⟩) hlt).trans h1, (hb.cell (p := ⟨_, _, none⟩) hlt).trans h2⟩⟩
theorem list_of_fun {α : Type} (n : Nat) (P : Nat → α → Prop) (h : ∀ i, i < n → ∃ q, P i q) : ∃ z : List α, z.length = n ∧ ∀ i q, z[i]? = some q → P i q := by
  induction n with
  | zero => exact ⟨[], rfl, fun i q hq => by simp at hq⟩
  | succ n ih =>
    obtain ⟨z, hz, hp⟩ := ih fun i hi => h i (by omega)
    obtain ⟨q, hq⟩ := h n (by omega)
    refine ⟨z ++ [q], by simp [hz], fun i r hr => ?_⟩
    by_cases hi : i < z.length
    · rw [List.getElem?_append_left hi] at hr; exact hp i r hr
    · rw [List.getElem?_append_right (by omega)] at hr
      have hl := (List.getElem?_eq_some_iff.1 hr).1
      simp only [List.length_cons, List.length_nil] at hl
      obtain rfl : i = n := by omega
      rw [hz, Nat.sub_self, List.getElem?_cons_zero] at hr
      injection hr with hr; subst hr; exact hq
theorem open_asks {H : Type} {enc : TypeId × Value → H} {P : Program} {w : World} {base : Nat} {spare : Nat → Bool} {held : Bool} {t e : TypeId} {n1 n2 n3 : Field} {len cap : Nat} {a : Option Addr} {d : DataW H} {ps : List MemPlace}
    (ht : P.underlying t = some (.slice e)) (he : P.underlying e = some (.struct #[n1, n2, n3])) (hone : oneCellFields P #[n1, n2, n3] = true) (hC : P.cellsOf e = 3)
    (h1 : P.underlying n1.type = some (.int .i64)) (h2 : P.underlying n2.type = some (.int .i64)) (h3 : P.underlying n3.type = some (.int .i64))
    (h : DataW.Trod enc P w base spare held t (.slice a len cap) d ps) : ∃ z, Asks w a len z := by
  obtain ⟨fuel, hf⟩ := h
  rcases open_slice_fields ht he hone hC hf with ⟨hcs, _⟩ | ⟨x, l, c, m, D, Pl, hcs, _, hl, hm, hmm, hx, hi⟩
  · simp [Value.cells] at hcs
    obtain ⟨rfl, rfl, rfl⟩ := hcs
    exact ⟨[], rfl, by omega, fun i q hq => by simp at hq⟩
  · simp [Value.cells] at hcs
    obtain ⟨rfl, rfl, rfl⟩ := hcs
    have hlm : len ≤ m := by rw [hmm]; split <;> omega
    have hadd : ∀ i j, j ≠ 0 → (⟨(x.add (i * 3)).block, (x.add (i * 3)).off + j, none⟩ : Addr) = x.add (i * 3 + j) := fun i j hj => by
      rw [← Go.Deep.add_add, show ∀ y : Addr, y.add j = ⟨y.block, y.off + j, none⟩ from fun y => if_neg hj]
    obtain ⟨z, hz, hp⟩ := list_of_fun len (fun i (q : Int × Int × Int) => (x.add (i * 3)).block < w.heap.size ∧ w.cell? (x.add (i * 3)) = some (.int .i64 q.1) ∧ w.cell? ⟨(x.add (i * 3)).block, (x.add (i * 3)).off + 1, none⟩ = some (.int .i64 q.2.1) ∧ w.cell? ⟨(x.add (i * 3)).block, (x.add (i * 3)).off + 2, none⟩ = some (.int .i64 q.2.2)) (fun i hl2 => by
      obtain ⟨ys, n, -, -, -, hf⟩ := hi i (by omega)
      obtain ⟨v0, y0, c0, -, t0⟩ := hf 0 n1 rfl
      obtain ⟨v1, y1, c1, -, t1⟩ := hf 1 n2 rfl
      obtain ⟨v2, y2, c2, -, t2⟩ := hf 2 n3 rfl
      obtain ⟨i0, e0, -, -⟩ := DataW.trod_int h1 t0
      obtain ⟨i1, e1, -, -⟩ := DataW.trod_int h2 t1
      obtain ⟨i2, e2, -, -⟩ := DataW.trod_int h3 t2
      simp only [List.cons.injEq, and_true] at e0 e1 e2
      subst e0; subst e1; subst e2
      refine ⟨(i0, i1, i2), World.block_lt_of_cell? w _ c0, c0, ?_, ?_⟩
      · rw [hadd i 1 (by decide)]; exact c1
      · rw [hadd i 2 (by decide)]; exact c2)
    refine ⟨z, hz, by unfold maxLen at hm; omega, fun i q hq => ⟨x, rfl, hp i q hq⟩⟩
/-- tendrilbook.Within, in plain words: a number brought into lo .. hi. -/
def within (n lo hi : Int) : Int := lo + n % (hi - lo + 1)
theorem within_bd (n lo hi : Int) (h : lo ≤ hi) : lo ≤ within n lo hi ∧ within n lo hi ≤ hi := by
  unfold within
  have h1 := Int.emod_nonneg n (show hi - lo + 1 ≠ 0 by omega)
  have h2 := Int.emod_lt_of_pos n (show 0 < hi - lo + 1 by omega)
  omega
theorem tmod_bd (n m : Int) (h : 0 < m) : -m < n.tmod m ∧ n.tmod m < m ∧ (n.tmod m < 0 → n % m = n.tmod m + m) ∧ (0 ≤ n.tmod m → n % m = n.tmod m) := by
  have e : n.tmod m = n - m * (n.tdiv m) := by have := Int.tmod_add_mul_tdiv n m; omega
  have h1 := Int.tmod_lt_of_pos n h
  have h2 : -m < n.tmod m := by
    have := Int.neg_tmod (a := n) (b := m)
    have h3 := Int.tmod_lt_of_pos (-n) h
    omega
  have em : (n.tmod m) % m = n % m := by rw [e, Int.sub_mul_emod_self_left]
  refine ⟨h2, h1, fun h0 => ?_, fun h0 => ?_⟩
  · rw [← em, ← Int.add_emod_right, Int.emod_eq_of_lt (by omega) (by omega)]
  · rw [← em, Int.emod_eq_of_lt (by omega) (by omega)]
set_option maxHeartbeats 1000000 in
set_option maxRecDepth 100000 in
theorem within_ (n lo hi : Int) (w : World) (h1 : -1000000 ≤ lo) (h2 : lo ≤ hi) (h3 : hi ≤ 1000000) :
    Calls Try.prog 15 #[.int .i64 n, .int .i64 lo, .int .i64 hi] w fun e w' => e = .returned (.int .i64 (within n lo hi)) ∧ w = w' := by
  obtain ⟨t1, t2, t3, t4⟩ := tmod_bd n (hi - lo + 1) (by omega)
  have c4b0 : ((hi - lo + 1) == 0) = false := beq_eq_false_iff_ne.mpr (by omega)
  have c4b1 : ((hi - lo + 1) != 0) = true := bne_iff_ne.mpr (by omega)
  obtain ⟨t, ht⟩ : ∃ t, n.tmod (hi - lo + 1) = t := ⟨_, rfl⟩
  rw [ht] at t1 t2 t3 t4
  by_cases c5 : t < 0
  · have hr : within n lo hi = lo + (t + hi - lo + 1) := by unfold within; rw [t3 c5]; omega
    have c5b0 : decide (t < 0) = true := decide_eq_true c5
    rw [hr]
    clear t3 t4 hr
    go_enter Try.func15, Try.ntmps15
    go_wp2
    go_ret
    exact ⟨rfl, rfl⟩
  · have hr : within n lo hi = lo + t := by unfold within; rw [t4 (by omega)]
    have c5b0 : decide (t < 0) = false := decide_eq_false c5
    rw [hr]
    clear t3 t4 hr
    go_enter Try.func15, Try.ntmps15
    go_wp2
    go_ret
    exact ⟨rfl, rfl⟩
theorem within_c (n lo hi v : Int) (w : World) (h1 : -1000000 ≤ lo) (h2 : lo ≤ hi) (h3 : hi ≤ 1000000) (hv : within n lo hi = v) :
    Calls Try.prog 15 #[.int .i64 n, .int .i64 lo, .int .i64 hi] w fun e w' => e = .returned (.int .i64 v) ∧ w = w' := by
  subst hv; exact within_ n lo hi w h1 h2 h3
theorem info3_ : (Try.prog.info? 3).map (fun i => (i.zero, i.size, i.bytes)) = some (some (.int .i64 0), 1, 8) := by kernel_rfl
/-- a row of whole numbers of the law's own. -/
def IntRow (w : World) (base ga n cap : Nat) (l : List Int) : Prop := w.ownsRow base 3 1 (.slice (some ⟨ga, 0, none⟩) n cap) n (l.map (Value.int .i64))
theorem IntRow.cell {w : World} {base ga n cap : Nat} {l : List Int} (h : IntRow w base ga n cap l) (j : Nat) (hj : j < n) : w.cell? ⟨ga, j, none⟩ = some (.int .i64 (l[j]?.getD (-1))) := by
  have hl : (l.map (Value.int .i64)).length = n * 1 := h.1
  rw [List.length_map, Nat.mul_one] at hl
  have := World.ownsRow.cellAt (h : w.ownsRow base 3 1 (.slice (some ⟨ga, 0, none⟩) n cap) n (l.map (Value.int .i64))) j (by omega)
  rw [this, List.getElem?_map, List.getElem?_eq_getElem (by omega)]; rfl
theorem IntRow.free {w : World} {base ga n cap : Nat} {l : List Int} (h : IntRow w base ga n cap l) (j : Nat) : w.frozen? ⟨ga, j, none⟩ = false := World.ownsRow.frozenAt (h : w.ownsRow base 3 1 (.slice (some ⟨ga, 0, none⟩) n cap) n (l.map (Value.int .i64))) j
theorem IntRow.store {w : World} {base ga n cap : Nat} {l : List Int} (h : IntRow w base ga n cap l) (j : Nat) (v : Int) : IntRow (w.setCell ⟨ga, j, none⟩ (.int .i64 v)) base ga n cap (l.set j v) := by
  have := (World.ownsRow.stored (h : w.ownsRow base 3 1 (.slice (some ⟨ga, 0, none⟩) n cap) n (l.map (Value.int .i64))) j (.int .i64 v)).1
  unfold IntRow; rw [List.map_set]; exact this
theorem IntRow.typ {w : World} {base ga n cap : Nat} {l : List Int} (h : IntRow w base ga n cap l) : base ≤ ga ∧ ∃ cur, w.heap[ga]? = some (.cells cur 3 (0, 0)) :=
  ⟨(World.ownsRow.lt (h : w.ownsRow base 3 1 _ n (l.map (Value.int .i64))) ga rfl).1, own_type (h : w.ownsRow base 3 1 _ n (l.map (Value.int .i64))) rfl⟩
theorem IntRow.tf {w w' : World} {base ga n cap : Nat} {l : List Int} (h : IntRow w base ga n cap l) (ht : TF base w w') : IntRow w' base ga n cap l := by
  obtain ⟨hb, cur, hc⟩ := h.typ
  refine own_lift h fun b hb => ?_
  simp only [Value.ownBlock, Option.some.injEq] at hb; subst hb
  rw [ht.others _ _ hc (fun ⟨cells, t, fr, he, h3⟩ => by injection he with _ e _; subst e; revert h3; decide), hc]
/-- a store into the law's own row leaves the epochs as they are. -/
theorem Held.row {w : World} {base g ga n cap : Nat} {l : List Int} {s : St} (h : Held w base g s) (hr : IntRow w base ga n cap l) (j : Nat) (v : Value) : Held (w.setCell ⟨ga, j, none⟩ v) base g s := by
  obtain ⟨cs, h, e⟩ := h
  obtain ⟨hb, cur, hc⟩ := hr.typ
  refine ⟨cs, h.move fun k o ho hours => ?_, e⟩
  have hk : k ≠ ga := fun e => by
    subst e; rw [hc] at ho; injection ho with ho; subst ho
    obtain ⟨cells, t, fr, he, h3⟩ := hours
    injection he with _ e _; subst e; revert h3; decide
  rw [heap_setCell_other w ⟨ga, j, none⟩ k v hk]; exact ho
theorem IntRow.below {w : World} {base ga n cap : Nat} {l : List Int} (hr : IntRow w base ga n cap l) {b : Nat} (hb : b ≤ base) (w0 : World) (h : Below b w0 w) (j : Nat) (v : Value) : Below b w0 (w.setCell ⟨ga, j, none⟩ v) := h.setCell (Nat.le_trans hb hr.typ.1) _
theorem pinof_q (w : World) (base g : Nat) (s : St) (c : Int) (n : Nat) (h : Held w base g s) (hpos : 0 < s.pins.length) (hn : s.pins.length ≤ 8) (v : Int) (hV : s.pinOf c = v) :
    Calls Try.prog 13 #[.pointer (some ⟨g, 0, none⟩), .int .i64 c] (w.drewN n) fun e w' => e = .returned (.int .i64 v) ∧ ∃ m, w' = w.drewN m := by
  subst hV
  refine Calls.quiet_of ((pinof (w.drewN n) base g s c (h.drawn ⟨⟨n, rfl⟩⟩) hpos hn).mono fun e w' ⟨he, ⟨m, hm⟩⟩ => ⟨he, m, ?_⟩)
  exact hm
end Go.Proofs.Ytfiokeahehkelaa.Ep
