/- tendrillaw3.PoolOnce returns true for every input; no condition. -/
import Derived.Test.YtbgkpjigkjdmcaaRows
import Derived.Test.YtbgkpjigkjdmcaaWSized
import Derived.Test.YtbgkpjigkjdmcaaHeap
import Derived.Test.YtbgkpjigkjdmcaaPool
import Derived.WalkKit
import Derived.ProofKit
import Derived.OpenShut
import Derived.ShutString
import Derived.ChangeOld
import Derived.Below
import Derived.SizedLaws
import Derived.Deep.Slices
import Derived.Deep.Fields
import Derived.ChangeSame
import Derived.Deep.RegionLaw
import Derived.Deep.DrawnRows
import Derived.Maps.OwnSet
import Derived.Maps.Views
import Derived.Maps.Own
namespace Go.Proofs.Ytbgkpjigkjdmcaa.Ep
open Go Go.RowKit Go.Proofs.YtbgkpjigkjdmcaaW.PrintWords Go.Proofs.YtbgkpjigkjdmcaaW.PrintLast Go.Proofs.YtbgkpjigkjdmcaaW.PrintMore 
set_option linter.unusedVariables false
set_option linter.unusedSimpArgs false
open Go.ChangeShapes Go.WideShapes Go.Deep
section
variable {H : Type} {enc : TypeId × Value → H} {P : Program} {w : World} {base : Nat} {spare : Nat → Bool} {held : Bool}
theorem open_slice_fields {t e : TypeId} {fs : Array Field} {fuel : Nat} {cs : List Value} {x : DataW H × List MemPlace} (ht : P.underlying t = some (.slice e)) (he : P.underlying e = some (.struct fs))
    (hone : oneCellFields P fs = true) (hC : P.cellsOf e = fs.size) (h : DataW.trod enc P w base spare held fuel t cs = some x) :
    (cs = [.slice none 0 0] ∧ x = (.nil, [])) ∨
    ∃ (a : Addr) (len cap m : Nat) (D : Nat → DataW H) (Pl : Nat → List MemPlace), cs = [.slice (some a) len cap] ∧ base ≤ a.block ∧ len ≤ cap ∧ cap ≤ maxLen ∧ m = (if spare a.block then cap else len) ∧
      x = (.slice ((List.range len).map D) ((List.range (m - len)).map fun j => D (len + j)), MemPlace.row a (m * fs.size) ++ (List.range m).flatMap Pl) ∧
      ∀ i, i < m → ∃ (ys : List (DataW H × List MemPlace)) (n : Nat), D i = .agg (ys.map (·.1)) ∧ Pl i = ys.flatMap (·.2) ∧ ys.length = fs.size ∧
        ∀ (j : Nat) (f : Field), fs[j]? = some f → ∃ (v : Value) (y : DataW H × List MemPlace), w.cell? (a.add (i * fs.size + j)) = some v ∧ ys[j]? = some y ∧ DataW.trod enc P w base spare held n f.type [v] = some y := by
  rcases open_slice ht h with h0 | ⟨a, len, cap, m, n, D, Pl, hcs, hb, hl, hm, hmm, hx, hi⟩
  · exact .inl h0
  · refine .inr ⟨a, len, cap, m, D, Pl, hcs, hb, hl, hm, hmm, by rw [hC] at hx; exact hx, fun i him => ?_⟩
    obtain ⟨cs', hc, ht'⟩ := hi i him
    rw [hC] at hc
    obtain ⟨ys, n', hn', hy, hlen, hyl, hf⟩ := DataW.trod_struct he ht'
    obtain ⟨_, hcl, hat⟩ := World.cells?_some hc
    simp only [Prod.mk.injEq] at hy
    refine ⟨ys, n', hy.1, hy.2, hyl, fun j f hj => ?_⟩
    obtain ⟨ho, hk⟩ := hone_of hone j f hj
    have hjl : j < fs.size := (Array.getElem?_eq_some_iff.1 hj).1
    have hcell := hat j hjl
    have hv : cs'[j]? = some (cs'[j]'(by omega)) := List.getElem?_eq_getElem (by omega)
    have h1 := hf j f hj
    rw [ho, hk] at h1
    have hone' : (cs'.drop j).take 1 = [cs'[j]'(by omega)] := by
      rw [List.drop_eq_getElem_cons (by omega)]
      rfl
    rw [hone'] at h1
    have hys : ys[j]? = some (ys[j]'(by omega)) := List.getElem?_eq_getElem (by omega)
    refine ⟨_, _, ?_, hys, h1.trans hys⟩
    rw [← Go.Deep.add_add, hcell, hv]
end
/-- a slice of calls, as the caller handed it in: every call's three numbers, in memory. -/
structure Asks2 (w : World) (a : Option Addr) (len : Nat) (z : List (Int × Int)) : Prop where
  eq : z.length = len
  max : len ≤ 9223372036854775807
  cell : ∀ i q, z[i]? = some q → ∃ x, a = some x ∧ (x.add (i * 2)).block < w.heap.size ∧ w.cell? (x.add (i * 2)) = some (.int .i64 q.1) ∧ w.cell? ⟨(x.add (i * 2)).block, (x.add (i * 2)).off + 1, none⟩ = some (.int .i64 q.2)
theorem Asks2.below {w w' : World} {a : Option Addr} {len : Nat} {z : List (Int × Int)} (h : Asks2 w a len z) (hb : Below w.heap.size w w') : Asks2 w' a len z :=
  ⟨h.eq, h.max, fun i q hq => by
    obtain ⟨x, e, hlt, h0, h1⟩ := h.cell i q hq
    exact ⟨x, e, Nat.lt_of_lt_of_le hlt hb.size, (hb.cell (p := x.add (i * 2)) hlt).trans h0, (hb.cell (p := ⟨_, _, none⟩) hlt).trans h1⟩⟩
theorem list_of_fun {α : Type} (n : Nat) (P : Nat → α → Prop) (h : ∀ i, i < n → ∃ q, P i q) : ∃ z : List α, z.length = n ∧ ∀ i q, z[i]? = some q → P i q := by
  induction n with
  | zero => exact ⟨[], rfl, fun i q hq => by simp at hq⟩
  | succ n ih =>
    obtain ⟨z, hz, hp⟩ := ih fun i hi => h i (by omega)
    obtain ⟨q, hq⟩ := h n (by omega)
    refine ⟨z ++ [q], by simp [hz], fun i r hr => ?_⟩
    by_cases hi : i < z.length
    · rw [List.getElem?_append_left hi] at hr; exact hp i r hr
    · rw [List.getElem?_append_right (by omega)] at hr
      have hl := (List.getElem?_eq_some_iff.1 hr).1
      simp only [List.length_cons, List.length_nil] at hl
      obtain rfl : i = n := by omega
      rw [hz, Nat.sub_self, List.getElem?_cons_zero] at hr
      injection hr with hr; subst hr; exact hq
theorem open_asks2 {H : Type} {enc : TypeId × Value → H} {P : Program} {w : World} {base : Nat} {spare : Nat → Bool} {held : Bool} {t e : TypeId} {n1 n2 : Field} {len cap : Nat} {a : Option Addr} {d : DataW H} {ps : List MemPlace}
    (ht : P.underlying t = some (.slice e)) (he : P.underlying e = some (.struct #[n1, n2])) (hone : oneCellFields P #[n1, n2] = true) (hC : P.cellsOf e = 2)
    (h1 : P.underlying n1.type = some (.int .i64)) (h2 : P.underlying n2.type = some (.int .i64))
    (h : DataW.Trod enc P w base spare held t (.slice a len cap) d ps) : ∃ z, Asks2 w a len z := by
  obtain ⟨fuel, hf⟩ := h
  rcases open_slice_fields ht he hone hC hf with ⟨hcs, _⟩ | ⟨x, l, c, m, D, Pl, hcs, _, hl, hm, hmm, hx, hi⟩
  · simp [Value.cells] at hcs
    obtain ⟨rfl, rfl, rfl⟩ := hcs
    exact ⟨[], rfl, by omega, fun i q hq => by simp at hq⟩
  · simp [Value.cells] at hcs
    obtain ⟨rfl, rfl, rfl⟩ := hcs
    have hlm : len ≤ m := by rw [hmm]; split <;> omega
    have hadd : ∀ i j, j ≠ 0 → (⟨(x.add (i * 2)).block, (x.add (i * 2)).off + j, none⟩ : Addr) = x.add (i * 2 + j) := fun i j hj => by
      rw [← Go.Deep.add_add, show ∀ y : Addr, y.add j = ⟨y.block, y.off + j, none⟩ from fun y => if_neg hj]
    obtain ⟨z, hz, hp⟩ := list_of_fun len (fun i (q : Int × Int) => (x.add (i * 2)).block < w.heap.size ∧ w.cell? (x.add (i * 2)) = some (.int .i64 q.1) ∧ w.cell? ⟨(x.add (i * 2)).block, (x.add (i * 2)).off + 1, none⟩ = some (.int .i64 q.2)) (fun i hl2 => by
      obtain ⟨ys, n, -, -, -, hf⟩ := hi i (by omega)
      obtain ⟨v0, y0, c0, -, t0⟩ := hf 0 n1 rfl
      obtain ⟨v1, y1, c1, -, t1⟩ := hf 1 n2 rfl
      obtain ⟨i0, e0, -, -⟩ := DataW.trod_int h1 t0
      obtain ⟨i1, e1, -, -⟩ := DataW.trod_int h2 t1
      simp only [List.cons.injEq, and_true] at e0 e1
      subst e0; subst e1
      refine ⟨(i0, i1), World.block_lt_of_cell? w _ c0, c0, ?_⟩
      rw [hadd i 1 (by decide)]; exact c1)
    refine ⟨z, hz, by unfold maxLen at hm; omega, fun i q hq => ⟨x, rfl, hp i q hq⟩⟩
/-- the law's own array of 32 Booleans: which numbers are free. -/
def FA (w : World) (gf : Nat) (L : List Int) : Prop := ∃ cs : Array Value, w.heap[gf]? = some (.cells cs 41 (0, 0)) ∧ cs.size = 32 ∧ ∀ j, j < 32 → cs[j]? = some (.bool (decide ((j : Int) ∈ L)))
theorem FA.cell {w : World} {gf : Nat} {L : List Int} (h : FA w gf L) (j : Nat) (hj : j < 32) : w.cell? ⟨gf, j, none⟩ = some (.bool (decide ((j : Int) ∈ L))) := by
  obtain ⟨cs, h1, h2, h3⟩ := h
  rw [cell_of_row w gf j cs 41 (0, 0) h1]; exact h3 j hj
theorem FA.free {w : World} {gf : Nat} {L : List Int} (h : FA w gf L) (j : Nat) : w.frozen? ⟨gf, j, none⟩ = false := by
  obtain ⟨cs, h1, -, -⟩ := h; exact frozen_of_row w gf j cs 41 h1
theorem FA.keep {w w' : World} {gf : Nat} {L : List Int} (h : FA w gf L) (hk : w'.heap[gf]? = w.heap[gf]?) : FA w' gf L := by
  obtain ⟨cs, h1, h2⟩ := h; exact ⟨cs, hk.trans h1, h2⟩
theorem FA.lt {w : World} {gf : Nat} {L : List Int} (h : FA w gf L) : gf < w.heap.size := by
  obtain ⟨cs, h1, -⟩ := h; exact (Array.getElem?_eq_some_iff.1 h1).1
theorem FA.set {w : World} {gf : Nat} {L L' : List Int} (h : FA w gf L) (j : Nat) (b : Bool) (h1 : decide ((j : Int) ∈ L') = b) (h2 : ∀ i : Nat, i < 32 → i ≠ j → ((i : Int) ∈ L' ↔ (i : Int) ∈ L)) : FA (w.setCell ⟨gf, j, none⟩ (.bool b)) gf L' := by
  obtain ⟨cs, hc, hs, hi⟩ := h
  refine ⟨cs.setIfInBounds j (.bool b), heap_setCell_same w gf j cs 41 _ hc, by simpa using hs, fun i hi32 => ?_⟩
  by_cases e : j = i
  · subst e; rw [Array.getElem?_setIfInBounds_self_of_lt (by omega), h1]
  · rw [Array.getElem?_setIfInBounds_ne e, hi i hi32]
    have := h2 i hi32 (Ne.symm e)
    simp only [this]
theorem PM.far {w : World} {base g gm gf : Nat} {most : Int} {c : Nat} {V : Value} {L L' : List Int} (h : PM w base g gm most c V L) (hf : FA w gf L') : gf ≠ g ∧ gf ≠ gm ∧ some gf ≠ V.ownBlock := by
  obtain ⟨l, hp, _, _⟩ := h.pn
  obtain ⟨cs, hc, -, -⟩ := hf
  obtain ⟨es, cl, hmo⟩ := map_obj h.ms
  refine ⟨fun e => ?_, fun e => ?_, fun e => ?_⟩
  · rw [e, hp.obj] at hc; injection hc with hc; injection hc with _ hc; cases hc
  · rw [e, hmo] at hc; injection hc with hc; cases hc
  · obtain ⟨cur, h2⟩ := own_type hp.row e.symm
    rw [hc] at h2; injection h2 with h2; injection h2 with _ h2; cases h2
theorem PM.setFar {w : World} {base g gm gf : Nat} {most : Int} {c : Nat} {V : Value} {L L' : List Int} (h : PM w base g gm most c V L) (hf : FA w gf L') (j : Nat) (u : Value) : PM (w.setCell ⟨gf, j, none⟩ u) base g gm most c V L := by
  obtain ⟨f1, f2, f3⟩ := h.far hf
  have far : ∀ k, k ≠ gf → (w.setCell ⟨gf, j, none⟩ u).heap[k]? = w.heap[k]? := fun k hk => heap_setCell_other w ⟨gf, j, none⟩ k _ hk
  obtain ⟨l, hp, hh, hperm⟩ := h.pn
  exact ⟨h.gmb, h.gmn, ⟨l, hp.keep (far g (Ne.symm f1)) (fun b hb => far b (fun e => f3 (by rw [← e]; exact hb.symm))), hh, hperm⟩, h.ms.keep (far gm (Ne.symm f2)), h.srt, h.rng, h.mst⟩
/-- the pool, and what the law keeps of it. -/
structure ON (w0 w : World) (g gm gf c : Nat) (V : Value) (L : List Int) : Prop where
  pm : PM w w0.heap.size g gm 32 c V L
  fa : FA w gf L
  gfb : w0.heap.size ≤ gf
  below : Below w0.heap.size w0 w
theorem ON.rest {w0 w w' : World} {g gm gf c c' : Nat} {V V' : Value} {L L' : List Int} (h : ON w0 w g gm gf c V L) (ht : TP w0.heap.size g gm V.ownBlock w w') : FA w' gf L ∧ Below w0.heap.size w0 w' := by
  obtain ⟨f1, f2, f3⟩ := h.pm.far h.fa
  obtain ⟨cs, hc, h2⟩ := h.fa
  exact ⟨⟨cs, ht.others _ _ hc f1 f2 f3, h2⟩, h.below.trans ht.below⟩
theorem ON.drawn {w0 w w' : World} {g gm gf c : Nat} {V : Value} {L : List Int} (h : ON w0 w g gm gf c V L) (hd : Drawn0 w w') : ON w0 w' g gm gf c V L := by
  obtain ⟨n, rfl⟩ := hd
  exact ⟨h.pm.all fun _ _ => rfl, h.fa.keep rfl, h.gfb, pw_below_drewN h.below _⟩
theorem ON.len {w0 w : World} {g gm gf c : Nat} {V : Value} {L : List Int} (h : ON w0 w g gm gf c V L) : L.length ≤ 32 := by
  have := sorted_len L 0 32 h.pm.srt h.pm.rng; omega
theorem ON.drew {w0 w : World} {g gm gf c : Nat} {V : Value} {L : List Int} (h : ON w0 w g gm gf c V L) : ON w0 w.drew g gm gf c V L :=
  ⟨h.pm.all fun _ _ => rfl, h.fa.keep rfl, h.gfb, below_drew1 h.below⟩
end Go.Proofs.Ytbgkpjigkjdmcaa.Ep
namespace Go.Proofs.Ytbgkpjigkjdmcaa.poolOnce
open Go.ChangeShapes Go.WideShapes Go.ChangeAt Go.RowKit Go.Deep
open Go.ChangeMaps (open_string shut_string)
open Go Go.RowKit Go.Proofs.YtbgkpjigkjdmcaaW.PrintWords Go.Proofs.YtbgkpjigkjdmcaaW.PrintLast Go.Proofs.YtbgkpjigkjdmcaaW.PrintMore  Go.Proofs.Ytbgkpjigkjdmcaa.Ep
set_option linter.unusedVariables false
set_option linter.unusedSimpArgs false

set_option maxHeartbeats 16000000 in
set_option maxRecDepth 100000 in
theorem walk (a0 : Option Addr) (len0 cap0 : Nat) (z : List (Int × Int)) (w : World) (hz : Asks2 w a0 len0 z) :
    Calls Try.prog 6 #[.slice a0 len0 cap0] w fun e w' => e = .returned (.bool true) ∧ Below w.heap.size w w' := by
  have HZ := Aside0.mk hz
  clear hz
  go_enter Try.func6, Try.ntmps6
  go_wp2_with (go_at_call 8; (with_reducible refine (new_ _ 32 (by decide) (by decide)).mono ?_); rintro e w1 ⟨g, gm, rfl, P1, T1⟩)
  obtain ⟨W0, hW0⟩ : ∃ W0, (w1.alloc (.cells (List.replicate 32 (Value.bool false)).toArray 41)) = W0 := ⟨_, rfl⟩
  have HO : Aside0 (ON w W0 g gm w1.heap.size 0 (.slice none 0 0) []) := by
    rw [← hW0]
    refine ⟨⟨P1.all fun k hk => heap_alloc_old w1 _ hk, ⟨_, heap_alloc_new w1 _, by simp, fun j hj => ?_⟩, P1.base_le, T1.alloc P1.base_le _⟩⟩
    rw [List.getElem?_toArray, List.getElem?_replicate, if_pos hj]; simp
  have hW1 : (w1.alloc (.cells #[Value.bool false, Value.bool false, Value.bool false, Value.bool false, Value.bool false, Value.bool false, Value.bool false, Value.bool false, Value.bool false, Value.bool false, Value.bool false, Value.bool false, Value.bool false, Value.bool false, Value.bool false, Value.bool false, Value.bool false, Value.bool false, Value.bool false, Value.bool false, Value.bool false, Value.bool false, Value.bool false, Value.bool false, Value.bool false, Value.bool false, Value.bool false, Value.bool false, Value.bool false, Value.bool false, Value.bool false, Value.bool false] 41)) = W0 := hW0
  rw [hW1]
  obtain ⟨gf, hgf⟩ : ∃ gf, w1.heap.size = gf := ⟨_, rfl⟩
  rw [hgf] at HO
  simp only [hgf]
  clear hW0 hW1 hgf P1 T1
  obtain ⟨V0, hV0⟩ : ∃ V0 : Value, .slice none 0 0 = V0 := ⟨_, rfl⟩
  rw [hV0] at HO
  clear hV0
  go_loopg [6, 7] 121 (fun kq v6 v7 w' => ∃ (i : Nat) (L : List Int) (V : Value), v6 = .int .i64 (L.length : Int) ∧ v7 = .int .i64 (i : Int) ∧ Aside0 (i + kq = 121) ∧ Aside0 (i ≤ 120) ∧ Aside0 (ON w w' g gm gf i V L))
  case atStart => exact ⟨0, [], V0, rfl, rfl, ⟨rfl⟩, ⟨by decide⟩, HO⟩
  case round =>
    clear HO
    clear V0
    obtain ⟨i, L, V, rfl, rfl, HK, HI, HO⟩ := hrel
    have hL9 : L.length ≤ 32 := HO.out.len
    by_cases hgo : i < len0 ∧ i < 120
    · have p1 : decide (i < len0) = true := decide_eq_true hgo.1
      have p2 : decide ((i : Int) < 120) = true := decide_eq_true (by omega)
      have hq : z[i]? = some (z[i]'(by have := HZ.out.eq; omega)) := List.getElem?_eq_getElem _
      generalize z[i]'_ = q at hq
      obtain ⟨x, rfl, hxl, hc0, hc1⟩ := (HZ.out.below HO.out.below).cell i q hq
      have hi0 : (0 : Int) ≤ (i : Int) := by omega
      have hi1 : (i : Int) < (len0 : Int) := by omega
      have hlm : len0 ≤ 9223372036854775807 := HZ.out.max
      have hg1 := hgo.2
      clear hq hgo
      by_cases hm2 : q.1.tmod 2 = 0
      · have b1 : (q.1.tmod 2 == 0) = true := beq_iff_eq.mpr hm2
        obtain ⟨k, hkv⟩ : ∃ k, within q.2 0 31 = k := ⟨_, rfl⟩
        have hkb := within_bd q.2 0 31 (by decide)
        rw [hkv] at hkb
        have HKV := Aside0.mk hkv
        have hkw : (Lit.int .i64 k).wf = true := WalkArith.wf_i64 (by omega)
        have hkk : ((k.toNat : Nat) : Int) = k := by omega
        have hk32 : k.toNat < 32 := by omega
        have hk0 : (0 : Int) ≤ k := hkb.1
        have hk9 : k < 32 := by omega
        clear hkv
        by_cases hin : k ∈ L
        · skip
          have hpb : putB 32 k L = false := decide_eq_false (fun h => h.2.2 hin)
          have hpl : putL 32 k L = L := if_neg (fun h => h.2.2 hin)
          have HPB := Aside0.mk hpb
          have HPL := Aside0.mk hpl
          have HIN : Aside0 (decide (((k.toNat : Nat) : Int) ∈ L) = true) := ⟨by rw [hkk]; exact decide_eq_true hin⟩
          have HIN2 := Aside0.mk hin
          clear hpb hpl hin
          have hkk2 := Aside0.mk hkk
          clear hkk
          go_wp2_with (go_at_call 15; (with_reducible refine (within_c q.2 0 31 k _ (by decide) (by decide) (by decide) HKV.out).mono ?_); rintro e w' ⟨rfl, rfl⟩)
          have hcl := HO.out.fa.cell k.toNat hk32
          rw [HIN.out] at hcl
          go_region_held3 (fun w' => w'.cell? ⟨gf, k.toNat, none⟩ = some (.bool true)) (first | exact rcS | go_keep)
            (first
              | (go_at_call 9; (with_reducible refine (put_ _ w.heap.size g gm 32 i V L k false L (HO.out.drew).pm hkw (by omega) HPB.out HPL.out).mono ?_); rintro e w2 ⟨V2, rfl, P2, T2, O2⟩; have hrest := (HO.out.drew).rest (c' := i) (V' := V) (L' := L) T2; have rcS := hrest.1.cell k.toNat hk32; rw [HIN.out] at rcS))
          all_goals
            have hfz := hrest.1.free k.toNat

            go_wp2_with (go_at_call 14; (with_reducible refine (plen_ _ w.heap.size g gm 32 (i + 1) V2 L (L.length : Int) P2 rfl).mono ?_); rintro e w4 ⟨rfl, rfl⟩)
            go_roundg (gk - 1)
            case measure => have := HK.out; omega
            case rel => exact ⟨i + 1, L, V2, rfl, by go_num, ⟨by have := HK.out; omega⟩, ⟨by omega⟩, ⟨⟨P2, hrest.1, HO.out.gfb, hrest.2⟩⟩⟩
        · skip
          have hpb : putB 32 k L = true := decide_eq_true ⟨hkb.1, by omega, hin⟩
          have hpl : putL 32 k L = ins k L := if_pos ⟨hkb.1, by omega, hin⟩
          have HPB := Aside0.mk hpb
          have HPL := Aside0.mk hpl
          have HIN : Aside0 (decide (((k.toNat : Nat) : Int) ∈ L) = false) := ⟨by rw [hkk]; exact decide_eq_false hin⟩
          have HIN2 := Aside0.mk hin
          clear hpb hpl hin
          have hkk2 := Aside0.mk hkk
          clear hkk
          go_wp2_with (go_at_call 15; (with_reducible refine (within_c q.2 0 31 k _ (by decide) (by decide) (by decide) HKV.out).mono ?_); rintro e w' ⟨rfl, rfl⟩)
          have hcl := HO.out.fa.cell k.toNat hk32
          rw [HIN.out] at hcl
          go_region_held3 (fun w' => w'.cell? ⟨gf, k.toNat, none⟩ = some (.bool false)) (first | exact rcS | go_keep)
            (first
              | (go_at_call 9; (with_reducible refine (put_ _ w.heap.size g gm 32 i V L k true (ins k L) (HO.out.drew).pm hkw (by omega) HPB.out HPL.out).mono ?_); rintro e w2 ⟨V2, rfl, P2, T2, O2⟩; have hrest := (HO.out.drew).rest (c' := i) (V' := V) (L' := L) T2; have rcS := hrest.1.cell k.toNat hk32; rw [HIN.out] at rcS))
          all_goals
            have hfz := hrest.1.free k.toNat

            have HFA : Aside0 (FA (w2.setCell ⟨gf, k.toNat, none⟩ (.bool true)) gf (ins k L)) := ⟨hrest.1.set k.toNat true (by rw [hkk2.out]; exact decide_eq_true ((ins_mem k L k).2 (.inl rfl))) (fun j hj hne => by rw [ins_mem]; constructor; (intro h; rcases h with h | h; (exact absurd h (by omega)); exact h); exact .inr)⟩
            have P3 := P2.setFar hrest.1 k.toNat (.bool true)
            have hln := ins_length k L
            have HLN := Aside0.mk hln
            clear hln
            go_wp2_with (go_at_call 14; (with_reducible refine (plen_ _ w.heap.size g gm 32 (i + 1) V2 (ins k L) ((L.length : Int) + 1) P3 (by rw [HLN.out]; omega)).mono ?_); rintro e w4 ⟨rfl, rfl⟩)
            go_roundg (gk - 1)
            case measure => have := HK.out; omega
            case rel => exact ⟨i + 1, ins k L, V2, by rw [HLN.out]; go_num, by go_num, ⟨by have := HK.out; omega⟩, ⟨by omega⟩, ⟨⟨P3, HFA.out, HO.out.gfb, hrest.2.setCell HO.out.gfb _⟩⟩⟩
      · have b1 : (q.1.tmod 2 == 0) = false := beq_eq_false_iff_ne.mpr hm2
        cases L with
        | nil =>
          go_wp2_with (first
            | (go_at_call 10; (with_reducible refine (take_none _ w.heap.size g gm 32 i V HO.out.pm).mono ?_); rintro e w2 ⟨V2, rfl, P2, T2, O2⟩)
            | (go_at_call 14; (with_reducible refine (plen_ _ w.heap.size g gm 32 i V2 [] 0 P2 rfl).mono ?_); rintro e w4 ⟨rfl, rfl⟩))
          have hrest := HO.out.rest (c' := i) (V' := V) (L' := []) T2
          go_roundg (gk - 1)
          case measure => have := HK.out; omega
          case rel => exact ⟨i + 1, [], V2, by first | rfl | go_num, by go_num, ⟨by have := HK.out; omega⟩, ⟨by omega⟩, ⟨⟨P2.more (Nat.le_succ _), hrest.1, HO.out.gfb, hrest.2⟩⟩⟩
        | cons x L =>
          obtain ⟨n, hn⟩ : ∃ n, L.length = n := ⟨_, rfl⟩
          have hxr := HO.out.pm.rng x List.mem_cons_self
          obtain ⟨m, rfl⟩ : ∃ m : Nat, x = (m : Int) := ⟨x.toNat, by omega⟩
          have hsrt := List.pairwise_cons.1 HO.out.pm.srt
          have hm31 : m ≤ 31 := by omega
          have hm32 : m < 32 := by omega
          have HX : Aside0 ((∀ y ∈ L, (m : Int) < y) ∧ L.length = n) := ⟨hsrt.1, hn⟩
          have hlen : ((m : Int) :: L).length = n + 1 := by rw [List.length_cons, hn]
          rw [hlen] at hL9
          have HLN := Aside0.mk hlen
          simp only [hlen]
          have p5 : decide ((31 : Int) < (m : Int)) = false := decide_eq_false (by omega)
          have p6 : decide ((m : Int) < 0) = false := decide_eq_false (by omega)
          have p7 : decide ((0 : Int) < ((n + 1 : Nat) : Int)) = true := decide_eq_true (by omega)
          have hm0 : (0 : Int) ≤ (m : Int) := by omega
          have hmi : (m : Int) < 32 := by omega
          clear hsrt hn hlen hxr
          go_wp2_with (go_at_call 10; (with_reducible refine (take_some _ w.heap.size g gm 32 i V (m : Int) L HO.out.pm).mono ?_); rintro e w2 ⟨V2, rfl, P2, T2, O2⟩; have hrest := HO.out.rest (c' := i) (V' := V) (L' := L) T2; have hcl := hrest.1.cell m hm32; rw [decide_eq_true (show (m : Int) ∈ (m : Int) :: L from List.mem_cons_self)] at hcl)
          have HF2 := Aside0.mk hrest.1
          have HB2 := Aside0.mk hrest.2
          have HP2 := Aside0.mk P2
          clear hrest hcl P2
          obtain ⟨K, rfl⟩ : ∃ K, K = gk := ⟨_, rfl⟩
          go_loopg [11] (m + 1) (fun kq v11 w' => ∃ (j : Nat), v11 = .int .i64 (j : Int) ∧ Aside0 (j + kq = m + 1) ∧ Aside0 (j ≤ m) ∧ Aside0 (PM w' w.heap.size g gm 32 i V2 L) ∧ Aside0 (FA w' gf ((m : Int) :: L)) ∧ Aside0 (Below w.heap.size w w'))
          case atStart => exact ⟨0, rfl, ⟨by omega⟩, ⟨Nat.zero_le _⟩, HP2, HF2, HB2⟩
          case round =>
            clear HP2 HF2 HB2
            obtain ⟨j, rfl, HKj, HJ, HP2, HF2, HB2⟩ := hrel
            by_cases hjm : j < m
            · have p8 : decide (j < m) = true := decide_eq_true hjm
              have hj32 : j < 32 := by omega
              have hcl := HF2.out.cell j hj32
              rw [decide_eq_false (show ¬ ((j : Int) ∈ (m : Int) :: L) from fun h => by
                rcases List.mem_cons.1 h with h | h
                · omega
                · have := HX.out.1 _ h; omega)] at hcl
              have hj0 : (0 : Int) ≤ (j : Int) := by omega
              have hji : (j : Int) < 32 := by omega
              go_wp2
              go_roundg (gk - 1)
              case measure => have := HKj.out; omega
              case rel => exact ⟨j + 1, by go_num, ⟨by have := HKj.out; omega⟩, ⟨by omega⟩, HP2, HF2, HB2⟩
            · have p8 : decide (j < m) = false := decide_eq_false hjm
              have hcl := HF2.out.cell m hm32
              have hfz := HF2.out.free m
              have P3 := HP2.out.setFar HF2.out m (.bool false)
              have HFA : Aside0 (FA (wr.setCell ⟨gf, m, none⟩ (.bool false)) gf L) := ⟨HF2.out.set m false (decide_eq_false fun h => by have := HX.out.1 _ h; omega) (fun y hy hne => by
                constructor
                · exact List.mem_cons_of_mem _
                · intro h
                  rcases List.mem_cons.1 h with h | h
                  · exact absurd h (by omega)
                  · exact h)⟩
              go_wp2_with (go_at_call 14; (with_reducible refine (plen_ _ w.heap.size g gm 32 i V2 L (n : Int) P3 (by rw [HX.out.2])).mono ?_); rintro e w4 ⟨rfl, rfl⟩)
              go_roundg (K - 1)
              case measure => have := HK.out; omega
              case rel => exact ⟨i + 1, L, V2, by first | (rw [HX.out.2]; done) | (rw [HX.out.2]; go_num) | go_num, by go_num, ⟨by have := HK.out; omega⟩, ⟨by omega⟩, ⟨⟨P3.more (Nat.le_succ _), HFA.out, HO.out.gfb, HB2.out.setCell HO.out.gfb _⟩⟩⟩
    · by_cases hi9 : i < len0
      all_goals
        first
        | (have p1 : decide (i < len0) = true := decide_eq_true hi9
           have p2 : decide ((i : Int) < 120) = false := decide_eq_false (by omega))
        | (have p1 : decide (i < len0) = false := decide_eq_false hi9)
        clear hgo hi9
        go_wp2_with (go_at_call 3; (with_reducible refine (runs_ _).mono ?_); rintro e w3 ⟨rfl, B3⟩)
        go_ret
        exact ⟨rfl, HO.out.below.trans (B3.mono HO.out.pm.base_le)⟩

theorem own : ownKnob Try.prog.godebug = none := by kernel_rfl
theorem laidOut : laidOutB Try.prog = true := by kernel_rfl
set_option maxRecDepth 100000 in
theorem lifted (os : Os) (started : os.Started) (H : Type) (enc : TypeId × Value → H) :
    ReturnsInHanded {} Try.checked os 6 .any (Rows.poolOnceSpec.pre6 enc Try.prog Try.f6 Rows.poolOnceRow.domain false) (Rows.poolOnceSpec.post enc Try.prog Try.f6 false true false false) := by
  refine returnsInHanded_of_change_sized (C := Try.checked) own started (by kernel_rfl) Try.func6
    (ChangeSpec.witness6 (enc := enc) (C := Try.checked) false ⟨#[], #[.slice none 0 0], []⟩ 8 (by kernel_rfl) (by kernel_rfl) (by kernel_rfl) (by kernel_rfl)) ?_
  intro W base args ds gs before hval0 hW hcnd hsz0 _
  have hsz : (DataW.weightsEach Try.prog (Try.f6.params.toList ++ Rows.poolOnceSpec.plain.varTypes Try.prog) (ds ++ gs)).all (· ≤ reachBytes) = true := hsz0
  have hval : ∀ (j : Nat) t v, Try.f6.params[j]? = some t → args[j]? = some v → Value.okWide Try.prog W .any base t v := hval0
  have hW' := hW
  obtain ⟨p, q, hA0, hV, rfl, hfz, hnd⟩ := hW
  have hA : DataW.TrodAll enc Try.prog W 0 (fun _ => true) true Try.f6.params.toList args.toList ds p := hA0
  rw [Try.params6] at hA hval hsz
  obtain ⟨v0, vs0, d0, ds0, p0, q0, hargs, rfl, rfl, h0, r0⟩ := trodAll_cons hA
  obtain ⟨rfl, rfl, rfl⟩ := trodAll_nil r0
  obtain rfl : args = #[v0] := by cases args; simp_all
  obtain ⟨rfl, rfl⟩ := trodVars_none hV
  obtain ⟨a0, len0, cap0, rfl⟩ := okWide_slice Try.underlying30 (hval 0 30 v0 rfl rfl)
  have k0 := h0
  have lt0 : ∀ x ∈ p0, x.block < W.heap.size := by obtain ⟨m, hm⟩ := k0; exact DataW.trod_lt m _ _ _ hm
  obtain ⟨z0, w0⟩ : ∃ zs, Asks2 W a0 len0 zs := open_asks2 Try.underlying30 Try.underlying36 (by kernel_rfl) (by kernel_rfl) Try.underlying3 Try.underlying3 h0
  clear hA0 hval0 hsz0 hsz
  refine (walk a0 len0 cap0 z0 W w0).mono fun e W' ⟨he, bel⟩ => ?_
  subst he
  exact ⟨_, rfl, _, _, _, [], _, [], hW', trodAll_mk1 (shut_bool Try.underlying4 _), (trodAll_cons_mk (Below.trod laidOut (by kernel_rfl) (of_decide_eq_true (by kernel_rfl)) k0 bel lt0) trodAll_mk0), rfl, bel.frame _, fun h => by cases h⟩
theorem over : Rows.poolOnceRow.holds Try.pinned (OpenSpec.ofChange Rows.poolOnceSpec) :=
  OpenClaim.holds_of_wide 6 Try.f6 rfl rfl rfl rfl rfl rfl rfl ⟨rfl, rfl, rfl, rfl, rfl⟩ rfl rfl rfl rfl rfl (by kernel_rfl) Try.func6 (by kernel_rfl)
    (of_decide_eq_true (by kernel_rfl)) (by unfold Func.isWrapper; first | (rw [if_pos (by decide +kernel)]; kernel_rfl) | (rw [if_neg (by decide +kernel)]; exact ⟨rfl, rfl⟩))
    (fun os started H enc _ => lifted os started H enc)
theorem proved : Rows.PoolOnceSaid := over
#print axioms proved
end Go.Proofs.Ytbgkpjigkjdmcaa.poolOnce
namespace Go.Proofs.Ytbgkpjigkjdmcaa
/-- The row, under a short name, for the claim. -/
theorem poolOnce_holds : Rows.PoolOnceSaid := poolOnce.proved
end Go.Proofs.Ytbgkpjigkjdmcaa
