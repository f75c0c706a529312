/- tendrillaw3.PoolPlays returns true for every input; no condition. -/
import Derived.Test.YtbgkpjigkjdmcaaRows
import Derived.Test.YtbgkpjigkjdmcaaWSized
import Derived.Test.YtbgkpjigkjdmcaaHeap
import Derived.Test.YtbgkpjigkjdmcaaPool
import Derived.Test.YtbgkpjigkjdmcaaRef
import Derived.WalkKit
import Derived.ProofKit
import Derived.OpenShut
import Derived.ShutString
import Derived.ChangeOld
import Derived.Below
import Derived.SizedLaws
import Derived.Deep.Slices
import Derived.Deep.Fields
import Derived.ChangeSame
import Derived.Deep.RegionLaw
import Derived.Deep.DrawnRows
import Derived.Maps.OwnSet
import Derived.Maps.Views
import Derived.Maps.Own
import Derived.WalkLawsBesides
import Derived.Deep.QuietTactic
import Derived.BigQuiet
import Derived.StillTailTactics
import Derived.Deep.AppendLies
import Derived.Deep.RegionHeld3
import Derived.KernelRfl
import Derived.BigRegion
import Derived.WalkSpells
import Derived.Deep.Upon
namespace Go.Proofs.Ytbgkpjigkjdmcaa.Ep
open Go Go.RowKit Go.Proofs.YtbgkpjigkjdmcaaW.PrintWords Go.Proofs.YtbgkpjigkjdmcaaW.PrintLast Go.Proofs.YtbgkpjigkjdmcaaW.PrintMore 
set_option linter.unusedVariables false
set_option linter.unusedSimpArgs false
open Go.ChangeShapes Go.WideShapes Go.Deep
section
variable {H : Type} {enc : TypeId × Value → H} {P : Program} {w : World} {base : Nat} {spare : Nat → Bool} {held : Bool}
theorem open_slice_fields {t e : TypeId} {fs : Array Field} {fuel : Nat} {cs : List Value} {x : DataW H × List MemPlace} (ht : P.underlying t = some (.slice e)) (he : P.underlying e = some (.struct fs))
    (hone : oneCellFields P fs = true) (hC : P.cellsOf e = fs.size) (h : DataW.trod enc P w base spare held fuel t cs = some x) :
    (cs = [.slice none 0 0] ∧ x = (.nil, [])) ∨
    ∃ (a : Addr) (len cap m : Nat) (D : Nat → DataW H) (Pl : Nat → List MemPlace), cs = [.slice (some a) len cap] ∧ base ≤ a.block ∧ len ≤ cap ∧ cap ≤ maxLen ∧ m = (if spare a.block then cap else len) ∧
      x = (.slice ((List.range len).map D) ((List.range (m - len)).map fun j => D (len + j)), MemPlace.row a (m * fs.size) ++ (List.range m).flatMap Pl) ∧
      ∀ i, i < m → ∃ (ys : List (DataW H × List MemPlace)) (n : Nat), D i = .agg (ys.map (·.1)) ∧ Pl i = ys.flatMap (·.2) ∧ ys.length = fs.size ∧
        ∀ (j : Nat) (f : Field), fs[j]? = some f → ∃ (v : Value) (y : DataW H × List MemPlace), w.cell? (a.add (i * fs.size + j)) = some v ∧ ys[j]? = some y ∧ DataW.trod enc P w base spare held n f.type [v] = some y := by
  rcases open_slice ht h with h0 | ⟨a, len, cap, m, n, D, Pl, hcs, hb, hl, hm, hmm, hx, hi⟩
  · exact .inl h0
  · refine .inr ⟨a, len, cap, m, D, Pl, hcs, hb, hl, hm, hmm, by rw [hC] at hx; exact hx, fun i him => ?_⟩
    obtain ⟨cs', hc, ht'⟩ := hi i him
    rw [hC] at hc
    obtain ⟨ys, n', hn', hy, hlen, hyl, hf⟩ := DataW.trod_struct he ht'
    obtain ⟨_, hcl, hat⟩ := World.cells?_some hc
    simp only [Prod.mk.injEq] at hy
    refine ⟨ys, n', hy.1, hy.2, hyl, fun j f hj => ?_⟩
    obtain ⟨ho, hk⟩ := hone_of hone j f hj
    have hjl : j < fs.size := (Array.getElem?_eq_some_iff.1 hj).1
    have hcell := hat j hjl
    have hv : cs'[j]? = some (cs'[j]'(by omega)) := List.getElem?_eq_getElem (by omega)
    have h1 := hf j f hj
    rw [ho, hk] at h1
    have hone' : (cs'.drop j).take 1 = [cs'[j]'(by omega)] := by
      rw [List.drop_eq_getElem_cons (by omega)]
      rfl
    rw [hone'] at h1
    have hys : ys[j]? = some (ys[j]'(by omega)) := List.getElem?_eq_getElem (by omega)
    refine ⟨_, _, ?_, hys, h1.trans hys⟩
    rw [← Go.Deep.add_add, hcell, hv]
end
/-- a slice of calls, as the caller handed it in: every call's three numbers, in memory. -/
structure Asks2 (w : World) (a : Option Addr) (len : Nat) (z : List (Int × Int)) : Prop where
  eq : z.length = len
  max : len ≤ 9223372036854775807
  cell : ∀ i q, z[i]? = some q → ∃ x, a = some x ∧ (x.add (i * 2)).block < w.heap.size ∧ w.cell? (x.add (i * 2)) = some (.int .i64 q.1) ∧ w.cell? ⟨(x.add (i * 2)).block, (x.add (i * 2)).off + 1, none⟩ = some (.int .i64 q.2)
  wf : ∀ (i : Nat) (q : Int × Int), z[i]? = some q → (Lit.int .i64 q.1).wf = true ∧ (Lit.int .i64 q.2).wf = true
theorem Asks2.below {w w' : World} {a : Option Addr} {len : Nat} {z : List (Int × Int)} (h : Asks2 w a len z) (hb : Below w.heap.size w w') : Asks2 w' a len z :=
  ⟨h.eq, h.max, fun i q hq => by
    obtain ⟨x, e, hlt, h0, h1⟩ := h.cell i q hq
    exact ⟨x, e, Nat.lt_of_lt_of_le hlt hb.size, (hb.cell (p := x.add (i * 2)) hlt).trans h0, (hb.cell (p := ⟨_, _, none⟩) hlt).trans h1⟩, h.wf⟩
theorem list_of_fun {α : Type} (n : Nat) (P : Nat → α → Prop) (h : ∀ i, i < n → ∃ q, P i q) : ∃ z : List α, z.length = n ∧ ∀ i q, z[i]? = some q → P i q := by
  induction n with
  | zero => exact ⟨[], rfl, fun i q hq => by simp at hq⟩
  | succ n ih =>
    obtain ⟨z, hz, hp⟩ := ih fun i hi => h i (by omega)
    obtain ⟨q, hq⟩ := h n (by omega)
    refine ⟨z ++ [q], by simp [hz], fun i r hr => ?_⟩
    by_cases hi : i < z.length
    · rw [List.getElem?_append_left hi] at hr; exact hp i r hr
    · rw [List.getElem?_append_right (by omega)] at hr
      have hl := (List.getElem?_eq_some_iff.1 hr).1
      simp only [List.length_cons, List.length_nil] at hl
      obtain rfl : i = n := by omega
      rw [hz, Nat.sub_self, List.getElem?_cons_zero] at hr
      injection hr with hr; subst hr; exact hq
theorem open_asks2 {H : Type} {enc : TypeId × Value → H} {P : Program} {w : World} {base : Nat} {spare : Nat → Bool} {held : Bool} {t e : TypeId} {n1 n2 : Field} {len cap : Nat} {a : Option Addr} {d : DataW H} {ps : List MemPlace}
    (ht : P.underlying t = some (.slice e)) (he : P.underlying e = some (.struct #[n1, n2])) (hone : oneCellFields P #[n1, n2] = true) (hC : P.cellsOf e = 2)
    (h1 : P.underlying n1.type = some (.int .i64)) (h2 : P.underlying n2.type = some (.int .i64))
    (h : DataW.Trod enc P w base spare held t (.slice a len cap) d ps) : ∃ z, Asks2 w a len z := by
  obtain ⟨fuel, hf⟩ := h
  rcases open_slice_fields ht he hone hC hf with ⟨hcs, _⟩ | ⟨x, l, c, m, D, Pl, hcs, _, hl, hm, hmm, hx, hi⟩
  · simp [Value.cells] at hcs
    obtain ⟨rfl, rfl, rfl⟩ := hcs
    exact ⟨[], rfl, by omega, fun i q hq => by simp at hq, fun i q hq => by simp at hq⟩
  · simp [Value.cells] at hcs
    obtain ⟨rfl, rfl, rfl⟩ := hcs
    have hlm : len ≤ m := by rw [hmm]; split <;> omega
    have hadd : ∀ i j, j ≠ 0 → (⟨(x.add (i * 2)).block, (x.add (i * 2)).off + j, none⟩ : Addr) = x.add (i * 2 + j) := fun i j hj => by
      rw [← Go.Deep.add_add, show ∀ y : Addr, y.add j = ⟨y.block, y.off + j, none⟩ from fun y => if_neg hj]
    obtain ⟨z, hz, hp⟩ := list_of_fun len (fun i (q : Int × Int) => (x.add (i * 2)).block < w.heap.size ∧ w.cell? (x.add (i * 2)) = some (.int .i64 q.1) ∧ w.cell? ⟨(x.add (i * 2)).block, (x.add (i * 2)).off + 1, none⟩ = some (.int .i64 q.2) ∧ (Lit.int .i64 q.1).wf = true ∧ (Lit.int .i64 q.2).wf = true) (fun i hl2 => by
      obtain ⟨ys, n, -, -, -, hf⟩ := hi i (by omega)
      obtain ⟨v0, y0, c0, -, t0⟩ := hf 0 n1 rfl
      obtain ⟨v1, y1, c1, -, t1⟩ := hf 1 n2 rfl
      obtain ⟨i0, e0, -, f0⟩ := DataW.trod_int h1 t0
      obtain ⟨i1, e1, -, f1⟩ := DataW.trod_int h2 t1
      simp only [List.cons.injEq, and_true] at e0 e1
      subst e0; subst e1
      refine ⟨(i0, i1), World.block_lt_of_cell? w _ c0, c0, ?_, f0, f1⟩
      rw [hadd i 1 (by decide)]; exact c1)
    refine ⟨z, hz, by unfold maxLen at hm; omega, fun i q hq => ⟨x, rfl, (hp i q hq).1, (hp i q hq).2.1, (hp i q hq).2.2.1⟩, fun i q hq => (hp i q hq).2.2.2⟩
theorem rtake_ (w : World) (base g : Nat) (most : Int) (V : Value) (L : List Int) (v : Int) (b : Bool) (L' : List Int) (h : RP w base g most V L) (hv : L.headD 0 = v) (hb : L.isEmpty = !b) (hl : L.tail = L') :
    Calls Try.prog 12 #[.pointer (some ⟨g, 0, none⟩)] w (RAfter w base g most V L' (.tuple #[.int .i64 v, .bool b])) := by
  subst hv hl
  cases L with
  | nil =>
    obtain rfl : b = false := by cases b <;> simp_all
    exact rtake_none w base g most V h
  | cons x L =>
    obtain rfl : b = true := by cases b <;> simp_all
    exact rtake_some w base g most V x L h
/-- the pool, and the document's one beside it. -/
structure JN (w0 w : World) (g gm gr : Nat) (most : Int) (c : Nat) (V Vr : Value) (L M : List Int) : Prop where
  pm : PM w w0.heap.size g gm most c V L
  rp : RP w w0.heap.size gr most Vr M
  ne : ∀ k, V.ownBlock = some k → Vr.ownBlock ≠ some k
  below : Below w0.heap.size w0 w
section
variable {w0 w w' : World} {g gm gr c c' : Nat} {most : Int} {V Vr V' : Value} {L M L' : List Int}
theorem JN.apart (h : JN w0 w g gm gr most c V Vr L M) : gr ≠ g ∧ gr ≠ gm ∧ some gr ≠ V.ownBlock ∧ Vr.ownBlock ≠ some g ∧ Vr.ownBlock ≠ some gm := by
  obtain ⟨l, hp, _, _⟩ := h.pm.pn
  obtain ⟨es, cl, hmo⟩ := map_obj h.pm.ms
  have ho := h.rp.obj
  refine ⟨fun e => ?_, fun e => ?_, fun e => ?_, fun e => ?_, fun e => ?_⟩
  · rw [e, hp.obj] at ho; injection ho with ho; injection ho with _ ho; cases ho
  · rw [e, hmo] at ho; injection ho with ho; cases ho
  · obtain ⟨cur, h2⟩ := own_type hp.row e.symm
    rw [ho] at h2; injection h2 with h2; injection h2 with _ h2; cases h2
  · obtain ⟨_, cur, h2⟩ := q_typed h.rp.row g e
    rw [hp.obj] at h2; injection h2 with h2; injection h2 with _ h2; cases h2
  · obtain ⟨_, cur, h2⟩ := q_typed h.rp.row gm e
    rw [hmo] at h2; injection h2 with h2; cases h2
theorem ow_ne {w : World} {R R' : Option Nat} {k : Nat} (ho : Ow R R' w) (hk : k < w.heap.size) (hne : R ≠ some k) : R' ≠ some k := fun e => by
  rcases ho with e2 | ⟨b, e2, hb⟩
  · exact hne (e2.symm.trans e)
  · rw [e2] at e; injection e with e; omega
theorem JN.pool (h : JN w0 w g gm gr most c V Vr L M) (hp : PM w' w0.heap.size g gm most c' V' L') (ht : TP w0.heap.size g gm V.ownBlock w w') (ho : Ow V.ownBlock V'.ownBlock w) : JN w0 w' g gm gr most c' V' Vr L' M := by
  obtain ⟨a1, a2, a3, a4, a5⟩ := h.apart
  refine ⟨hp, ⟨h.rp.ge, ht.others _ _ h.rp.obj a1 a2 a3, q_move h.rp.row fun k hk => ?_⟩, fun k hk hr => ?_, h.below.trans ht.below⟩
  · obtain ⟨_, cur, h2⟩ := q_typed h.rp.row k hk
    rw [h2]
    exact ht.others k _ h2 (fun e => a4 (by rw [← e]; exact hk)) (fun e => a5 (by rw [← e]; exact hk)) (fun e => h.ne k e.symm hk)
  · exact ow_ne ho (q_lt h.rp.row k hr) (fun e => h.ne k e hr) hk
theorem JN.refs (h : JN w0 w g gm gr most c V Vr L M) (hp : RP w' w0.heap.size gr most V' L') (ht : TR w0.heap.size gr Vr.ownBlock w w') (ho : Ow Vr.ownBlock V'.ownBlock w) : JN w0 w' g gm gr most c V V' L L' := by
  obtain ⟨a1, a2, a3, a4, a5⟩ := h.apart
  obtain ⟨l, hpn, hh, hperm⟩ := h.pm.pn
  obtain ⟨es, cl, hmo⟩ := map_obj h.pm.ms
  have hrow : ∀ k, V.ownBlock = some k → w'.heap[k]? = w.heap[k]? := fun k hk => by
    obtain ⟨cur, h2⟩ := own_type hpn.row hk
    rw [h2]; exact ht.others k _ h2 (fun e => a3 (by rw [← e]; exact hk.symm)) (fun e => h.ne k hk e.symm)
  refine ⟨⟨h.pm.gmb, h.pm.gmn, ⟨l, ⟨hpn.ge, ht.others _ _ hpn.obj (Ne.symm a1) (fun e => a4 e.symm), own_lift hpn.row hrow⟩, hh, hperm⟩, h.pm.ms.keep (by rw [hmo]; exact ht.others _ _ hmo (Ne.symm a2) (fun e => a5 e.symm)), h.pm.srt, h.pm.rng, h.pm.mst⟩, hp, fun k hk hr => ?_, h.below.trans ht.below⟩
  obtain ⟨cur, h2⟩ := own_type hpn.row hk
  exact ow_ne ho (Array.getElem?_eq_some_iff.1 h2).1 (fun e => h.ne k hk e) hr
theorem JN.all (h : JN w0 w g gm gr most c V Vr L M) (hm : ∀ k, k < w.heap.size → w'.heap[k]? = w.heap[k]?) (hb : Below w0.heap.size w0 w') : JN w0 w' g gm gr most c V Vr L M :=
  ⟨h.pm.all hm, ⟨h.rp.ge, (hm gr h.rp.size).trans h.rp.obj, q_move h.rp.row fun k hk => hm k (q_lt h.rp.row k hk)⟩, h.ne, hb⟩
theorem JN.alloc (h : JN w0 w g gm gr most c V Vr L M) (o : Obj) : JN w0 (w.alloc o) g gm gr most c V Vr L M := h.all (fun k hk => heap_alloc_old w o hk) (h.below.alloc h.pm.base_le o)
theorem JN.drew (h : JN w0 w g gm gr most c V Vr L M) : JN w0 w.drew g gm gr most c V Vr L M := h.all (fun _ _ => rfl) (below_drew1 h.below)
theorem JN.drewN (h : JN w0 w g gm gr most c V Vr L M) (n : Nat) : JN w0 (w.drewN n) g gm gr most c V Vr L M := h.all (fun _ _ => rfl) (pw_below_drewN h.below n)
theorem JN.more (h : JN w0 w g gm gr most c V Vr L M) (hc : c ≤ c') : JN w0 w g gm gr most c' V Vr L M := ⟨h.pm.more hc, h.rp, h.ne, h.below⟩
theorem JN.belowed (h : JN w0 w g gm gr most c V Vr L M) (hb : Below w.heap.size w w') : JN w0 w' g gm gr most c V Vr L M := h.all (fun k hk => hb.block k hk) (h.below.trans (hb.mono h.pm.base_le))
end
/-- a call's own copy. -/
def BX (w : World) (b : Nat) (q : Int × Int) : Prop := w.heap[b]? = some (.cells #[.int .i64 q.1, .int .i64 q.2] 36 (0, 0))
theorem BX.cells {w : World} {b : Nat} {q : Int × Int} (h : BX w b q) : w.cell? ⟨b, 0, none⟩ = some (.int .i64 q.1) ∧ w.cell? ⟨b, 1, none⟩ = some (.int .i64 q.2) :=
  ⟨by rw [cell_of_row w b 0 _ 36 (0, 0) h]; rfl, by rw [cell_of_row w b 1 _ 36 (0, 0) h]; rfl⟩
section
variable {w0 w w' : World} {g gm gr c c' b : Nat} {most : Int} {V Vr V' : Value} {L M L' : List Int} {q : Int × Int}
theorem BX.pool (hx : BX w b q) (h : JN w0 w g gm gr most c V Vr L M) (ht : TP w0.heap.size g gm V.ownBlock w w') : BX w' b q := by
  obtain ⟨l, hp, _, _⟩ := h.pm.pn
  obtain ⟨es, cl, hmo⟩ := map_obj h.pm.ms
  unfold BX at hx
  refine ht.others b _ hx (fun e => ?_) (fun e => ?_) (fun e => ?_)
  · rw [e, hp.obj] at hx; injection hx with hx; injection hx with _ hx; cases hx
  · rw [e, hmo] at hx; injection hx with hx; cases hx
  · obtain ⟨cur, h2⟩ := own_type hp.row e.symm
    rw [hx] at h2; injection h2 with h2; injection h2 with _ h2; cases h2
theorem BX.refs (hx : BX w b q) (h : JN w0 w g gm gr most c V Vr L M) (ht : TR w0.heap.size gr Vr.ownBlock w w') : BX w' b q := by
  unfold BX at hx
  refine ht.others b _ hx (fun e => ?_) (fun e => ?_)
  · have ho := h.rp.obj
    rw [e, ho] at hx; injection hx with hx; injection hx with _ hx; cases hx
  · obtain ⟨_, cur, h2⟩ := q_typed h.rp.row b e.symm
    rw [hx] at h2; injection h2 with h2; injection h2 with _ h2; cases h2
theorem BX.below (hx : BX w b q) (hb : Below w.heap.size w w') : BX w' b q := (hb.block b (Array.getElem?_eq_some_iff.1 hx).1).trans hx
end
def memB (n : Int) (L : List Int) : Bool := L.contains n
theorem memB_eq (n : Int) (L : List Int) : decide (n ∈ L) = memB n L := by unfold memB; simp
theorem memB_take (n : Int) (L : List Int) (j : Nat) (y : Int) (hy : L[j]? = some y) : memB n (L.take (j + 1)) = (memB n (L.take j) || (y == n)) := by
  unfold memB
  have hj := (List.getElem?_eq_some_iff.1 hy)
  rw [List.take_succ_eq_append_getElem hj.1, hj.2, List.contains_append]
  simp only [List.contains_cons, List.contains_nil, Bool.or_false]
  rw [show (n == y) = (y == n) from BEq.comm]
theorem BX.drewB {w : World} {b : Nat} {q : Int × Int} (h : BX w b q) : BX w.drew b q := h
end Go.Proofs.Ytbgkpjigkjdmcaa.Ep
namespace Go.Proofs.Ytbgkpjigkjdmcaa.poolPlays
open Go.ChangeShapes Go.WideShapes Go.ChangeAt Go.RowKit Go.Deep
open Go.ChangeMaps (open_string shut_string)
open Go Go.RowKit Go.Proofs.YtbgkpjigkjdmcaaW.PrintWords Go.Proofs.YtbgkpjigkjdmcaaW.PrintLast Go.Proofs.YtbgkpjigkjdmcaaW.PrintMore  Go.Proofs.Ytbgkpjigkjdmcaa.Ep
set_option linter.unusedVariables false
set_option linter.unusedSimpArgs false

set_option maxHeartbeats 16000000 in
set_option maxRecDepth 100000 in
theorem walk (a0 : Int) (a1 : Option Addr) (len1 cap1 : Nat) (z : List (Int × Int)) (w : World) (_h0 : (Lit.int .i64 a0).wf = true) (hz : Asks2 w a1 len1 z) :
    Calls Try.prog 4 #[.int .i64 a0, .slice a1 len1 cap1] w fun e w' => e = .returned (.bool true) ∧ Below w.heap.size w w' := by
  have HZ := Aside0.mk hz
  clear hz
  by_cases hok : 0 ≤ a0 ∧ a0 ≤ 65535
  · have d1 : decide (a0 < 0) = false := decide_eq_false (by omega)
    have d2 : decide (65535 < a0) = false := decide_eq_false (by omega)
    have h00 := hok.1
    have h01 := hok.2
    clear hok
    go_enter Try.func4, Try.ntmps4
    go_wp2_with (go_at_call 8; (with_reducible refine (new_ _ a0 h00 h01).mono ?_); rintro e w1 ⟨g, gm, rfl, P1, T1⟩)
    obtain ⟨gr, hgr⟩ : ∃ gr, w1.heap.size = gr := ⟨_, rfl⟩
    obtain ⟨W0, hW0⟩ : ∃ W0, (w1.alloc (.cells #[.int .i64 a0, .slice none 0 0] 34)) = W0 := ⟨_, rfl⟩
    have HJ : Aside0 (JN w W0 g gm gr a0 0 (.slice none 0 0) (.slice none 0 0) [] []) := by
      rw [← hW0, ← hgr]
      exact ⟨⟨P1.all fun k hk => heap_alloc_old w1 _ hk, ⟨P1.base_le, heap_alloc_new w1 _, rfl, .inl ⟨rfl, none, rfl, fun a ha => by cases ha⟩⟩, fun k hk => by simp [Value.ownBlock] at hk, T1.alloc P1.base_le _⟩⟩
    simp only [hW0, hgr]
    clear hW0 hgr P1 T1
    obtain ⟨V0, hV0⟩ : ∃ V0 : Value, .slice none 0 0 = V0 := ⟨_, rfl⟩
    rw [hV0] at HJ
    clear hV0
    go_loopg [8] 81 (fun kq v8 w' => ∃ (i : Nat) (L : List Int) (V R : Value), v8 = .int .i64 (i : Int) ∧ Aside0 (i + kq = 81) ∧ Aside0 (i ≤ 80) ∧ Aside0 (JN w w' g gm gr a0 i V R L L))
    case atStart => exact ⟨0, [], V0, V0, rfl, ⟨rfl⟩, ⟨by decide⟩, HJ⟩
    case round =>
      clear HJ
      clear V0
      obtain ⟨i, L, V, R, rfl, HK, HI, HJ⟩ := hrel
      by_cases hil : i < len1
      · have p1 : decide (i < len1) = true := decide_eq_true hil
        by_cases hi80 : i < 80
        · have p2 : decide ((i : Int) < 80) = true := decide_eq_true (by omega)
          have hq : z[i]? = some (z[i]'(by have := HZ.out.eq; omega)) := List.getElem?_eq_getElem _
          generalize z[i]'_ = q at hq
          obtain ⟨x, rfl, hxl, hc0, hc1⟩ := (HZ.out.below HJ.out.below).cell i q hq
          have HQW := Aside0.mk (HZ.out.wf i q hq).2
          have hi0 : (0 : Int) ≤ (i : Int) := by omega
          have hi1 : (i : Int) < (len1 : Int) := by omega
          have hlm : len1 ≤ 9223372036854775807 := HZ.out.max
          have hl7 : L.length ≤ 70000 := by have := HJ.out.pm.len_le; omega
          have HSR := Aside0.mk HJ.out.pm.srt
          clear hq
          by_cases hk1 : q.1 = 1
          · skip
            have k1 : (q.1 == 1) = true := beq_iff_eq.mpr hk1
            clear hk1
            obtain ⟨L2, hL2⟩ : ∃ L2, putL a0 q.2 L = L2 := ⟨_, rfl⟩
            obtain ⟨pb, hpb⟩ : ∃ pb, putB a0 q.2 L = pb := ⟨_, rfl⟩
            have HPL := Aside0.mk hL2
            have HPB := Aside0.mk hpb
            clear hL2 hpb
            go_wp2
            have HXa : Aside0 (BX (wr.alloc (.cells #[.int .i64 q.1, .int .i64 q.2] 36)) wr.heap.size q) := ⟨heap_alloc_new wr _⟩
            have HJa := Aside0.mk (HJ.out.alloc (.cells #[.int .i64 q.1, .int .i64 q.2] 36))
            clear HJ
            obtain ⟨b9, hb9⟩ : ∃ b9, wr.heap.size = b9 := ⟨_, rfl⟩
            rw [hb9] at HXa
            simp only [hb9]
            clear hb9
            have rcS := HXa.out.drewB.cells.2
            go_region_held3 (fun w' => w'.cell? ⟨b9, 1, none⟩ = some (.int .i64 q.2)) (first | exact rcS | go_keep)
              (first
                | (go_at_call 9; (with_reducible refine (put_ _ w.heap.size g gm a0 i V L q.2 pb L2 (HJa.out.drew).pm HQW.out (by omega) HPB.out HPL.out).mono ?_); rintro e w2 ⟨V2, rfl, P2, T2, O2⟩; have HXb := Aside0.mk (HXa.out.drewB.pool HJa.out.drew T2); have HJb := Aside0.mk (HJa.out.drew.pool P2 T2 O2); have rcS := HXb.out.cells.2)
                | (go_at_call 11; (with_reducible refine (rput_ _ w.heap.size gr a0 R L q.2 pb L2 HJb.out.rp HQW.out HSR.out hl7 HPB.out HPL.out).mono ?_); rintro e w3 ⟨R3, rfl, P3, T3, O3⟩; have HXc := Aside0.mk (HXb.out.refs HJb.out T3); have HJc := Aside0.mk (HJb.out.refs P3 T3 O3); have rcS := HXc.out.cells.2))
            all_goals
              obtain ⟨W, rfl⟩ : ∃ W, W = w3 := ⟨_, rfl⟩
              have HJ := HJc
              have HX := HXc
              clear HJa HXa HXb HJb HJc HXc
              have hbb : (pb == pb) = true := by simp
              obtain ⟨h0r, h1r⟩ := HJ.out.rp.cells
              obtain ⟨A2, c2, hV2, hnc2⟩ := HJ.out.rp.form
              have hxc := HX.out.cells.2
              have HRW := Aside0.mk HJ.out.rp.row
              have hlen : L2.length ≤ 65535 := HJ.out.pm.len_le
              obtain ⟨n2, hn2⟩ : ∃ n2, L2.length = n2 := ⟨_, rfl⟩
              rw [hn2] at hV2 HRW hnc2 hlen
              have HN2 := Aside0.mk hn2
              clear hn2
              subst hV2
              obtain ⟨K, rfl⟩ : ∃ K, K = gk := ⟨_, rfl⟩
              go_wp2
              go_loopg [17, 15, 99] (n2 + 1) (fun kq _ v15 v99 w' => ∃ (j : Nat), v15 = .bool (memB q.2 (L2.take j)) ∧ v99 = .int .i64 (j : Int) ∧ Aside0 (j + kq = n2 + 1) ∧ Aside0 (j ≤ n2) ∧ Aside0 (w' = W))
              case atStart => exact ⟨0, rfl, rfl, ⟨by omega⟩, ⟨Nat.zero_le _⟩, ⟨rfl⟩⟩
              case round =>
                obtain ⟨j, rfl, rfl, HKj, HJj, HW⟩ := hrel
                obtain rfl := HW.out
                clear HW
                by_cases hjn : j < n2
                · have p3 : decide (j < n2) = true := decide_eq_true hjn
                  obtain ⟨gb2, ob2, hA2, -, hmx2, hcl2⟩ := rp_form1 HRW.out (by omega)
                  subst hA2
                  have hLj : L2[j]? = some (L2[j]'(by have := HN2.out; omega)) := List.getElem?_eq_getElem _
                  generalize L2[j]'_ = y at hLj
                  have hcy := hcl2 j (.int .i64 y) (by rw [List.getElem?_map, hLj]; rfl)
                  have hj0 : (0 : Int) ≤ (j : Int) := by omega
                  have hji : (j : Int) < (n2 : Int) := by omega
                  have HM := Aside0.mk (memB_take q.2 L2 j y hLj)
                  clear hLj hcl2
                  by_cases hm : memB q.2 (L2.take j) = true
                  · have HM2 := Aside0.mk hm
                    simp only [hm]
                    clear hm
                    go_wp2
                    go_roundg (gk - 1)
                    case measure => have := HKj.out; omega
                    case rel => exact ⟨j + 1, by rw [HM.out, HM2.out]; rfl, by go_num, ⟨by have := HKj.out; omega⟩, ⟨by omega⟩, ⟨rfl⟩⟩
                  · have HM2 : Aside0 (memB q.2 (L2.take j) = false) := ⟨by simpa using hm⟩
                    have hm' := HM2.out
                    simp only [hm']
                    clear hm hm'
                    obtain ⟨tb, htb⟩ : ∃ tb, (y == q.2) = tb := ⟨_, rfl⟩
                    rw [htb] at HM
                    cases tb
                    all_goals
                      go_wp2
                      go_roundg (gk - 1)
                      case measure => have := HKj.out; omega
                      case rel => exact ⟨j + 1, by rw [HM.out, HM2.out]; rfl, by go_num, ⟨by have := HKj.out; omega⟩, ⟨by omega⟩, ⟨rfl⟩⟩
                · have p3 : decide (j < n2) = false := decide_eq_false hjn
                  obtain rfl : j = n2 := by have := HJj.out; omega
                  have HTK : Aside0 (L2.take j = L2) := ⟨by rw [List.take_of_length_le (by have := HN2.out; omega)]⟩
                  have htk := HTK.out
                  simp only [htk]
                  clear htk
                  obtain ⟨hb, hhb⟩ : ∃ hb, memB q.2 L2 = hb := ⟨_, rfl⟩
                  simp only [hhb]
                  have HHB : Aside0 (decide (q.2 ∈ L2) = hb) := ⟨by rw [memB_eq]; exact hhb⟩
                  clear hhb hnc2
                  go_wp2
                  go_region_held3 (fun w' => w'.cell? ⟨gr, 1, none⟩ = some (.slice A2 j c2) ∧ w'.cell? ⟨b9, 1, none⟩ = some (.int .i64 q.2)) (first | exact rcS | go_keep)
                    (first
                      | (go_at_call 13; (with_reducible refine (has_ _ w.heap.size g gm a0 (i + 1) V2 L2 q.2 hb HJ.out.drew.pm HQW.out HHB.out).mono ?_); rintro e w2 ⟨rfl, P2, B2⟩; have HJ3 := Aside0.mk (HJ.out.drew.belowed B2); have rcS := And.intro HJ3.out.rp.cells.2 (HX.out.drewB.below B2).cells.2)
                      | (go_at_call 14; (with_reducible refine (plen_ _ w.heap.size g gm a0 (i + 1) V2 L2 (j : Int) HJ3.out.pm (by rw [HN2.out])).mono ?_); rintro e w4 ⟨rfl, rfl⟩; have rcS := And.intro HJ3.out.rp.cells.2 (HX.out.drewB.below B2).cells.2))
                  all_goals
                    go_wp2
                    go_roundg (K - 1)
                    case measure => have := HK.out; omega
                    case rel => exact ⟨i + 1, L2, V2, _, by go_num, ⟨by have := HK.out; omega⟩, ⟨by omega⟩, HJ3⟩

          · by_cases hk2 : q.1 = 2
            · skip
              have k1 : (q.1 == 1) = false := beq_eq_false_iff_ne.mpr hk1
              have k2 : (q.1 == 2) = true := beq_iff_eq.mpr hk2
              clear hk1 hk2
              obtain ⟨L2, hL2⟩ : ∃ L2, L.tail = L2 := ⟨_, rfl⟩
              obtain ⟨tv, htv⟩ : ∃ tv, L.headD 0 = tv := ⟨_, rfl⟩
              obtain ⟨tb, htb⟩ : ∃ tb, (!L.isEmpty) = tb := ⟨_, rfl⟩
              have HPL := Aside0.mk hL2
              have HPV := Aside0.mk htv
              have HPB : Aside0 (L.isEmpty = !tb) := ⟨by rw [← htb, Bool.not_not]⟩
              clear hL2 htv htb
              have hvv : (tv == tv) = true := by simp
              have hbb : (tb == tb) = true := by simp
              go_wp2_with fail
              have HXa : Aside0 (BX (wr.alloc (.cells #[.int .i64 q.1, .int .i64 q.2] 36)) wr.heap.size q) := ⟨heap_alloc_new wr _⟩
              have HJa := Aside0.mk (HJ.out.alloc (.cells #[.int .i64 q.1, .int .i64 q.2] 36))
              clear HJ
              obtain ⟨b9, hb9⟩ : ∃ b9, wr.heap.size = b9 := ⟨_, rfl⟩
              rw [hb9] at HXa
              simp only [hb9]
              clear hb9
              go_wp2_with (first
                  | (go_at_call 10; (with_reducible refine (take_ _ w.heap.size g gm a0 i V L tv tb L2 HJa.out.pm HPV.out HPB.out HPL.out).mono ?_); rintro e w2 ⟨V2, rfl, P2, T2, O2⟩; have HXb := Aside0.mk (HXa.out.pool HJa.out T2); have HJb := Aside0.mk ((HJa.out.pool P2 T2 O2).more (Nat.le_succ i)))
                  | (go_at_call 12; (with_reducible refine (rtake_ _ w.heap.size gr a0 R L tv tb L2 HJb.out.rp HPV.out HPB.out HPL.out).mono ?_); rintro e W ⟨R3, rfl, P3, T3, O3⟩; have HX := Aside0.mk (HXb.out.refs HJb.out T3); have HJ := Aside0.mk (HJb.out.refs P3 T3 O3); clear HJa HXa HXb HJb; obtain ⟨h0r, h1r⟩ := HJ.out.rp.cells; obtain ⟨A2, c2, hV2, hnc2⟩ := HJ.out.rp.form; have hxc := HX.out.cells.2; have HRW := Aside0.mk HJ.out.rp.row; have hlen : L2.length ≤ 65535 := HJ.out.pm.len_le; obtain ⟨n2, hn2⟩ : ∃ n2, L2.length = n2 := ⟨_, rfl⟩; rw [hn2] at hV2 HRW hnc2 hlen; have HN2 := Aside0.mk hn2; clear hn2; subst hV2))
              obtain ⟨K, rfl⟩ : ∃ K, K = gk := ⟨_, rfl⟩
              go_wp2
              go_loopg [17, 15, 99] (n2 + 1) (fun kq _ v15 v99 w' => ∃ (j : Nat), v15 = .bool (memB q.2 (L2.take j)) ∧ v99 = .int .i64 (j : Int) ∧ Aside0 (j + kq = n2 + 1) ∧ Aside0 (j ≤ n2) ∧ Aside0 (w' = W))
              case atStart => exact ⟨0, rfl, rfl, ⟨by omega⟩, ⟨Nat.zero_le _⟩, ⟨rfl⟩⟩
              case round =>
                obtain ⟨j, rfl, rfl, HKj, HJj, HW⟩ := hrel
                obtain rfl := HW.out
                clear HW
                by_cases hjn : j < n2
                · have p3 : decide (j < n2) = true := decide_eq_true hjn
                  obtain ⟨gb2, ob2, hA2, -, hmx2, hcl2⟩ := rp_form1 HRW.out (by omega)
                  subst hA2
                  have hLj : L2[j]? = some (L2[j]'(by have := HN2.out; omega)) := List.getElem?_eq_getElem _
                  generalize L2[j]'_ = y at hLj
                  have hcy := hcl2 j (.int .i64 y) (by rw [List.getElem?_map, hLj]; rfl)
                  have hj0 : (0 : Int) ≤ (j : Int) := by omega
                  have hji : (j : Int) < (n2 : Int) := by omega
                  have HM := Aside0.mk (memB_take q.2 L2 j y hLj)
                  clear hLj hcl2
                  by_cases hm : memB q.2 (L2.take j) = true
                  · have HM2 := Aside0.mk hm
                    simp only [hm]
                    clear hm
                    go_wp2
                    go_roundg (gk - 1)
                    case measure => have := HKj.out; omega
                    case rel => exact ⟨j + 1, by rw [HM.out, HM2.out]; rfl, by go_num, ⟨by have := HKj.out; omega⟩, ⟨by omega⟩, ⟨rfl⟩⟩
                  · have HM2 : Aside0 (memB q.2 (L2.take j) = false) := ⟨by simpa using hm⟩
                    have hm' := HM2.out
                    simp only [hm']
                    clear hm hm'
                    obtain ⟨tb, htb⟩ : ∃ tb, (y == q.2) = tb := ⟨_, rfl⟩
                    rw [htb] at HM
                    cases tb
                    all_goals
                      go_wp2
                      go_roundg (gk - 1)
                      case measure => have := HKj.out; omega
                      case rel => exact ⟨j + 1, by rw [HM.out, HM2.out]; rfl, by go_num, ⟨by have := HKj.out; omega⟩, ⟨by omega⟩, ⟨rfl⟩⟩
                · have p3 : decide (j < n2) = false := decide_eq_false hjn
                  obtain rfl : j = n2 := by have := HJj.out; omega
                  have HTK : Aside0 (L2.take j = L2) := ⟨by rw [List.take_of_length_le (by have := HN2.out; omega)]⟩
                  have htk := HTK.out
                  simp only [htk]
                  clear htk
                  obtain ⟨hb, hhb⟩ : ∃ hb, memB q.2 L2 = hb := ⟨_, rfl⟩
                  simp only [hhb]
                  have HHB : Aside0 (decide (q.2 ∈ L2) = hb) := ⟨by rw [memB_eq]; exact hhb⟩
                  clear hhb hnc2
                  go_wp2
                  go_region_held3 (fun w' => w'.cell? ⟨gr, 1, none⟩ = some (.slice A2 j c2) ∧ w'.cell? ⟨b9, 1, none⟩ = some (.int .i64 q.2)) (first | exact rcS | go_keep)
                    (first
                      | (go_at_call 13; (with_reducible refine (has_ _ w.heap.size g gm a0 (i + 1) V2 L2 q.2 hb HJ.out.drew.pm HQW.out HHB.out).mono ?_); rintro e w2 ⟨rfl, P2, B2⟩; have HJ3 := Aside0.mk (HJ.out.drew.belowed B2); have rcS := And.intro HJ3.out.rp.cells.2 (HX.out.drewB.below B2).cells.2)
                      | (go_at_call 14; (with_reducible refine (plen_ _ w.heap.size g gm a0 (i + 1) V2 L2 (j : Int) HJ3.out.pm (by rw [HN2.out])).mono ?_); rintro e w4 ⟨rfl, rfl⟩; have rcS := And.intro HJ3.out.rp.cells.2 (HX.out.drewB.below B2).cells.2))
                  all_goals
                    go_wp2
                    go_roundg (K - 1)
                    case measure => have := HK.out; omega
                    case rel => exact ⟨i + 1, L2, V2, _, by go_num, ⟨by have := HK.out; omega⟩, ⟨by omega⟩, HJ3⟩

            · skip
              have k1 : (q.1 == 1) = false := beq_eq_false_iff_ne.mpr hk1
              have k2 : (q.1 == 2) = false := beq_eq_false_iff_ne.mpr hk2
              clear hk1 hk2
              have HX : Aside0 (BX (wr.alloc (.cells #[.int .i64 q.1, .int .i64 q.2] 36)) wr.heap.size q) := ⟨heap_alloc_new wr _⟩
              have HJ0 := HJ
              clear HJ
              have HJ := Aside0.mk ((HJ0.out.alloc (.cells #[.int .i64 q.1, .int .i64 q.2] 36)).more (Nat.le_succ i))
              clear HJ0
              obtain ⟨h0r, h1r⟩ := HJ.out.rp.cells
              obtain ⟨A2, c2, hV2, hnc2⟩ := HJ.out.rp.form
              have hxc := HX.out.cells.2
              have HRW := Aside0.mk HJ.out.rp.row
              have hlen : L.length ≤ 65535 := HJ.out.pm.len_le
              obtain ⟨n2, hn2⟩ : ∃ n2, L.length = n2 := ⟨_, rfl⟩
              rw [hn2] at hV2 HRW hnc2 hlen
              have HN2 := Aside0.mk hn2
              clear hn2
              subst hV2
              obtain ⟨K, rfl⟩ : ∃ K, K = gk := ⟨_, rfl⟩
              go_wp2
              obtain ⟨b9, hb9⟩ : ∃ b9, wr.heap.size = b9 := ⟨_, rfl⟩
              obtain ⟨W, hW⟩ : ∃ W, (wr.alloc (.cells #[.int .i64 q.1, .int .i64 q.2] 36)) = W := ⟨_, rfl⟩
              rw [hW] at HJ HX h0r h1r hxc HRW
              rw [hb9] at HX hxc
              simp only [hW, hb9]
              clear hW hb9
              go_loopg [17, 15, 99] (n2 + 1) (fun kq _ v15 v99 w' => ∃ (j : Nat), v15 = .bool (memB q.2 (L.take j)) ∧ v99 = .int .i64 (j : Int) ∧ Aside0 (j + kq = n2 + 1) ∧ Aside0 (j ≤ n2) ∧ Aside0 (w' = W))
              case atStart => exact ⟨0, rfl, rfl, ⟨by omega⟩, ⟨Nat.zero_le _⟩, ⟨rfl⟩⟩
              case round =>
                obtain ⟨j, rfl, rfl, HKj, HJj, HW⟩ := hrel
                obtain rfl := HW.out
                clear HW
                by_cases hjn : j < n2
                · have p3 : decide (j < n2) = true := decide_eq_true hjn
                  obtain ⟨gb2, ob2, hA2, -, hmx2, hcl2⟩ := rp_form1 HRW.out (by omega)
                  subst hA2
                  have hLj : L[j]? = some (L[j]'(by have := HN2.out; omega)) := List.getElem?_eq_getElem _
                  generalize L[j]'_ = y at hLj
                  have hcy := hcl2 j (.int .i64 y) (by rw [List.getElem?_map, hLj]; rfl)
                  have hj0 : (0 : Int) ≤ (j : Int) := by omega
                  have hji : (j : Int) < (n2 : Int) := by omega
                  have HM := Aside0.mk (memB_take q.2 L j y hLj)
                  clear hLj hcl2
                  by_cases hm : memB q.2 (L.take j) = true
                  · have HM2 := Aside0.mk hm
                    simp only [hm]
                    clear hm
                    go_wp2
                    go_roundg (gk - 1)
                    case measure => have := HKj.out; omega
                    case rel => exact ⟨j + 1, by rw [HM.out, HM2.out]; rfl, by go_num, ⟨by have := HKj.out; omega⟩, ⟨by omega⟩, ⟨rfl⟩⟩
                  · have HM2 : Aside0 (memB q.2 (L.take j) = false) := ⟨by simpa using hm⟩
                    have hm' := HM2.out
                    simp only [hm']
                    clear hm hm'
                    obtain ⟨tb, htb⟩ : ∃ tb, (y == q.2) = tb := ⟨_, rfl⟩
                    rw [htb] at HM
                    cases tb
                    all_goals
                      go_wp2
                      go_roundg (gk - 1)
                      case measure => have := HKj.out; omega
                      case rel => exact ⟨j + 1, by rw [HM.out, HM2.out]; rfl, by go_num, ⟨by have := HKj.out; omega⟩, ⟨by omega⟩, ⟨rfl⟩⟩
                · have p3 : decide (j < n2) = false := decide_eq_false hjn
                  obtain rfl : j = n2 := by have := HJj.out; omega
                  have HTK : Aside0 (L.take j = L) := ⟨by rw [List.take_of_length_le (by have := HN2.out; omega)]⟩
                  have htk := HTK.out
                  simp only [htk]
                  clear htk
                  obtain ⟨hb, hhb⟩ : ∃ hb, memB q.2 L = hb := ⟨_, rfl⟩
                  simp only [hhb]
                  have HHB : Aside0 (decide (q.2 ∈ L) = hb) := ⟨by rw [memB_eq]; exact hhb⟩
                  clear hhb hnc2
                  go_wp2
                  go_region_held3 (fun w' => w'.cell? ⟨gr, 1, none⟩ = some (.slice A2 j c2) ∧ w'.cell? ⟨b9, 1, none⟩ = some (.int .i64 q.2)) (first | exact rcS | go_keep)
                    (first
                      | (go_at_call 13; (with_reducible refine (has_ _ w.heap.size g gm a0 (i + 1) V L q.2 hb HJ.out.drew.pm HQW.out HHB.out).mono ?_); rintro e w2 ⟨rfl, P2, B2⟩; have HJ3 := Aside0.mk (HJ.out.drew.belowed B2); have rcS := And.intro HJ3.out.rp.cells.2 (HX.out.drewB.below B2).cells.2)
                      | (go_at_call 14; (with_reducible refine (plen_ _ w.heap.size g gm a0 (i + 1) V L (j : Int) HJ3.out.pm (by rw [HN2.out])).mono ?_); rintro e w4 ⟨rfl, rfl⟩; have rcS := And.intro HJ3.out.rp.cells.2 (HX.out.drewB.below B2).cells.2))
                  all_goals
                    go_wp2
                    go_roundg (K - 1)
                    case measure => have := HK.out; omega
                    case rel => exact ⟨i + 1, L, V, _, by go_num, ⟨by have := HK.out; omega⟩, ⟨by omega⟩, HJ3⟩

        · have p2 : decide ((i : Int) < 80) = false := decide_eq_false (by omega)
          go_wp2_with (go_at_call 3; (with_reducible refine (runs_ _).mono ?_); rintro e W5 ⟨rfl, HX⟩)
          go_ret
          exact ⟨rfl, HJ.out.below.trans (HX.mono HJ.out.pm.base_le)⟩
      · have p1 : decide (i < len1) = false := decide_eq_false hil
        go_wp2_with (go_at_call 3; (with_reducible refine (runs_ _).mono ?_); rintro e W5 ⟨rfl, HX⟩)
        go_ret
        exact ⟨rfl, HJ.out.below.trans (HX.mono HJ.out.pm.base_le)⟩
  · have hbad := hok
    by_cases h1 : a0 < 0
    · have d1 : decide (a0 < 0) = true := decide_eq_true h1
      go_enter Try.func4, Try.ntmps4
      go_wp2_with (first
        | (go_at_call 8; (with_reducible refine (new_bad _ a0 hbad).mono ?_); rintro e w1 ⟨rfl, rfl⟩)
        | (go_at_call 3; (with_reducible refine (runs_ _).mono ?_); rintro e W5 ⟨rfl, HX⟩))
      go_ret
      exact ⟨rfl, HX⟩
    · have d1 : decide (a0 < 0) = false := decide_eq_false h1
      have d2 : decide (65535 < a0) = true := decide_eq_true (by omega)
      go_enter Try.func4, Try.ntmps4
      go_wp2_with (first
        | (go_at_call 8; (with_reducible refine (new_bad _ a0 hbad).mono ?_); rintro e w1 ⟨rfl, rfl⟩)
        | (go_at_call 3; (with_reducible refine (runs_ _).mono ?_); rintro e W5 ⟨rfl, HX⟩))
      go_ret
      exact ⟨rfl, HX⟩

theorem own : ownKnob Try.prog.godebug = none := by kernel_rfl
theorem laidOut : laidOutB Try.prog = true := by kernel_rfl
set_option maxRecDepth 100000 in
theorem lifted (os : Os) (started : os.Started) (H : Type) (enc : TypeId × Value → H) :
    ReturnsInHanded {} Try.checked os 4 .any (Rows.poolPlaysSpec.pre6 enc Try.prog Try.f4 Rows.poolPlaysRow.domain false) (Rows.poolPlaysSpec.post enc Try.prog Try.f4 false true false false) := by
  refine returnsInHanded_of_change_sized (C := Try.checked) own started (by kernel_rfl) Try.func4
    (ChangeSpec.witness6 (enc := enc) (C := Try.checked) false ⟨#[], #[.int .i64 0, .slice none 0 0], []⟩ 8 (by kernel_rfl) (by kernel_rfl) (by kernel_rfl) (by kernel_rfl)) ?_
  intro W base args ds gs before hval0 hW hcnd hsz0 _
  have hsz : (DataW.weightsEach Try.prog (Try.f4.params.toList ++ Rows.poolPlaysSpec.plain.varTypes Try.prog) (ds ++ gs)).all (· ≤ reachBytes) = true := hsz0
  have hval : ∀ (j : Nat) t v, Try.f4.params[j]? = some t → args[j]? = some v → Value.okWide Try.prog W .any base t v := hval0
  have hW' := hW
  obtain ⟨p, q, hA0, hV, rfl, hfz, hnd⟩ := hW
  have hA : DataW.TrodAll enc Try.prog W 0 (fun _ => true) true Try.f4.params.toList args.toList ds p := hA0
  rw [Try.params4] at hA hval hsz
  obtain ⟨v0, vs0, d0, ds0, p0, q0, hargs, rfl, rfl, h0, r0⟩ := trodAll_cons hA
  obtain ⟨v1, vs1, d1, ds1, p1, q1, rfl, rfl, rfl, h1, r1⟩ := trodAll_cons r0
  obtain ⟨rfl, rfl, rfl⟩ := trodAll_nil r1
  obtain rfl : args = #[v0, v1] := by cases args; simp_all
  obtain ⟨rfl, rfl⟩ := trodVars_none hV
  obtain ⟨a0, rfl, rfl, rfl, w0⟩ := open_int Try.underlying3 (hval 0 3 v0 rfl rfl) h0
  obtain ⟨a1, len1, cap1, rfl⟩ := okWide_slice Try.underlying30 (hval 1 30 v1 rfl rfl)
  have k1 := h1
  have lt1 : ∀ x ∈ p1, x.block < W.heap.size := by obtain ⟨m, hm⟩ := k1; exact DataW.trod_lt m _ _ _ hm
  obtain ⟨z1, w1⟩ : ∃ zs, Asks2 W a1 len1 zs := open_asks2 Try.underlying30 Try.underlying36 (by kernel_rfl) (by kernel_rfl) Try.underlying3 Try.underlying3 h1
  clear hA0 hval0 hsz0 hsz
  refine (walk a0 a1 len1 cap1 z1 W w0 w1).mono fun e W' ⟨he, bel⟩ => ?_
  subst he
  exact ⟨_, rfl, _, _, _, [], _, [], hW', trodAll_mk1 (shut_bool Try.underlying4 _), (trodAll_cons_mk (shut_int Try.underlying3 w0) (trodAll_cons_mk (Below.trod laidOut (by kernel_rfl) (of_decide_eq_true (by kernel_rfl)) k1 bel lt1) trodAll_mk0)), rfl, bel.frame _, fun h => by cases h⟩
theorem over : Rows.poolPlaysRow.holds Try.pinned (OpenSpec.ofChange Rows.poolPlaysSpec) :=
  OpenClaim.holds_of_wide 4 Try.f4 rfl rfl rfl rfl rfl rfl rfl ⟨rfl, rfl, rfl, rfl, rfl⟩ rfl rfl rfl rfl rfl (by kernel_rfl) Try.func4 (by kernel_rfl)
    (of_decide_eq_true (by kernel_rfl)) (by unfold Func.isWrapper; first | (rw [if_pos (by decide +kernel)]; kernel_rfl) | (rw [if_neg (by decide +kernel)]; exact ⟨rfl, rfl⟩))
    (fun os started H enc _ => lifted os started H enc)
theorem proved : Rows.PoolPlaysSaid := over
#print axioms proved
end Go.Proofs.Ytbgkpjigkjdmcaa.poolPlays
namespace Go.Proofs.Ytbgkpjigkjdmcaa
/-- The row, under a short name, for the claim. -/
theorem poolPlays_holds : Rows.PoolPlaysSaid := poolPlays.proved
end Go.Proofs.Ytbgkpjigkjdmcaa
