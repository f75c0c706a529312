import Derived.Test.YtdjjmnkopoldhaaDoorPla
import Derived.WalkKit
import Derived.ProofKit
import Derived.Below
import Derived.WalkLawsBesides
import Derived.Deep.QuietTactic
import Derived.BigQuiet
import Derived.StillTailTactics
import Derived.Deep.AppendLies
import Derived.Deep.RegionHeld3
import Derived.KernelRfl
import Derived.BigRegion
import Derived.WalkSpells
import Derived.Deep.Slices
import Derived.Deep.Fields
import Derived.ChangeSame
import Derived.Deep.RegionLaw
import Derived.Deep.DrawnRows
import Derived.OpenShut
import Derived.ChangeMaps5
import Derived.ChangeAt2
import Derived.SevenTiedAt
import Derived.ShutString
import Derived.ChangeOld
namespace Go.Proofs.YtdjjmnkopoldhaaDoor.Ep
open Go Go.RowKit Go.Proofs.YtdjjmnkopoldhaaDoorW.PrintWords Go.Proofs.YtdjjmnkopoldhaaDoorW.PrintLast Go.Proofs.YtdjjmnkopoldhaaDoorW.PrintMore Go.Proofs.YtdjjmnkopoldhaaDoor.PBase Go.Tx
set_option linter.unusedVariables false
set_option linter.unusedSimpArgs false
open Go.ChangeShapes Go.WideShapes Go.Deep
section
variable {H : Type} {enc : TypeId × Value → H} {P : Program} {w : World} {base : Nat} {spare : Nat → Bool} {held : Bool}
theorem open_slice_fields {t e : TypeId} {fs : Array Field} {fuel : Nat} {cs : List Value} {x : DataW H × List MemPlace} (ht : P.underlying t = some (.slice e)) (he : P.underlying e = some (.struct fs))
    (hone : oneCellFields P fs = true) (hC : P.cellsOf e = fs.size) (h : DataW.trod enc P w base spare held fuel t cs = some x) :
    (cs = [.slice none 0 0] ∧ x = (.nil, [])) ∨
    ∃ (a : Addr) (len cap m : Nat) (D : Nat → DataW H) (Pl : Nat → List MemPlace), cs = [.slice (some a) len cap] ∧ base ≤ a.block ∧ len ≤ cap ∧ cap ≤ maxLen ∧ m = (if spare a.block then cap else len) ∧
      x = (.slice ((List.range len).map D) ((List.range (m - len)).map fun j => D (len + j)), MemPlace.row a (m * fs.size) ++ (List.range m).flatMap Pl) ∧
      ∀ i, i < m → ∃ (ys : List (DataW H × List MemPlace)) (n : Nat), D i = .agg (ys.map (·.1)) ∧ Pl i = ys.flatMap (·.2) ∧ ys.length = fs.size ∧
        ∀ (j : Nat) (f : Field), fs[j]? = some f → ∃ (v : Value) (y : DataW H × List MemPlace), w.cell? (a.add (i * fs.size + j)) = some v ∧ ys[j]? = some y ∧ DataW.trod enc P w base spare held n f.type [v] = some y := by
  rcases open_slice ht h with h0 | ⟨a, len, cap, m, n, D, Pl, hcs, hb, hl, hm, hmm, hx, hi⟩
  · exact .inl h0
  · refine .inr ⟨a, len, cap, m, D, Pl, hcs, hb, hl, hm, hmm, by rw [hC] at hx; exact hx, fun i him => ?_⟩
    obtain ⟨cs', hc, ht'⟩ := hi i him
    rw [hC] at hc
    obtain ⟨ys, n', hn', hy, hlen, hyl, hf⟩ := DataW.trod_struct he ht'
    obtain ⟨_, hcl, hat⟩ := World.cells?_some hc
    simp only [Prod.mk.injEq] at hy
    refine ⟨ys, n', hy.1, hy.2, hyl, fun j f hj => ?_⟩
    obtain ⟨ho, hk⟩ := hone_of hone j f hj
    have hjl : j < fs.size := (Array.getElem?_eq_some_iff.1 hj).1
    have hcell := hat j hjl
    have hv : cs'[j]? = some (cs'[j]'(by omega)) := List.getElem?_eq_getElem (by omega)
    have h1 := hf j f hj
    rw [ho, hk] at h1
    have hone' : (cs'.drop j).take 1 = [cs'[j]'(by omega)] := by
      rw [List.drop_eq_getElem_cons (by omega)]
      rfl
    rw [hone'] at h1
    have hys : ys[j]? = some (ys[j]'(by omega)) := List.getElem?_eq_getElem (by omega)
    refine ⟨_, _, ?_, hys, h1.trans hys⟩
    rw [← Go.Deep.add_add, hcell, hv]
end
theorem list_of_fun {α : Type} (n : Nat) (P : Nat → α → Prop) (h : ∀ i, i < n → ∃ q, P i q) : ∃ z : List α, z.length = n ∧ ∀ i q, z[i]? = some q → P i q := by
  induction n with
  | zero => exact ⟨[], rfl, fun i q hq => by simp at hq⟩
  | succ n ih =>
    obtain ⟨z, hz, hp⟩ := ih fun i hi => h i (by omega)
    obtain ⟨q, hq⟩ := h n (by omega)
    refine ⟨z ++ [q], by simp [hz], fun i r hr => ?_⟩
    by_cases hi : i < z.length
    · rw [List.getElem?_append_left hi] at hr; exact hp i r hr
    · rw [List.getElem?_append_right (by omega)] at hr
      have hl := (List.getElem?_eq_some_iff.1 hr).1
      simp only [List.length_cons, List.length_nil] at hl
      obtain rfl : i = n := by omega
      rw [hz, Nat.sub_self, List.getElem?_cons_zero] at hr
      injection hr with hr; subst hr; exact hq
/-- a slice of entries that came in, as the caller handed it. -/
theorem open_entries {H : Type} {enc : TypeId × Value → H} {w : World} {base : Nat} {spare : Nat → Bool} {held : Bool} {len cap : Nat} {a : Option Addr} {d : DataW H} {ps : List MemPlace} {n1 n2 : Field} (he : Tryd.prog.underlying 23 = some (.struct #[n1, n2]))
    (hone : oneCellFields Tryd.prog #[n1, n2] = true) (hC : Tryd.prog.cellsOf 23 = 2) (h1 : Tryd.prog.underlying n1.type = some .string) (h2 : Tryd.prog.underlying n2.type = some (.int .i64))
    (h : DataW.Trod enc Tryd.prog w base spare held 25 (.slice a len cap) d ps) : ∃ z : List PBase.S23, z.length = len ∧ len ≤ cap ∧ Kd.C PBase.k23 w a len z ∧ ∀ e ∈ z, e.f0.size ≤ 9223372036854775807 := by
  obtain ⟨fuel, hf⟩ := h
  rcases open_slice_fields Tryd.underlying25 he hone hC hf with ⟨hcs, _⟩ | ⟨x, l, c, m, D, Pl, hcs, _, hl, hm, hmm, hx, hi⟩
  · simp [Value.cells] at hcs
    obtain ⟨rfl, rfl, rfl⟩ := hcs
    exact ⟨[], rfl, Nat.le_refl _, ⟨rfl, by omega, fun h0 => absurd h0 (by decide)⟩, fun e he => by simp at he⟩
  · simp [Value.cells] at hcs
    obtain ⟨rfl, rfl, rfl⟩ := hcs
    have hlm : len ≤ m := by rw [hmm]; split <;> omega
    obtain ⟨z, hz, hp⟩ := list_of_fun len (fun i (q : PBase.S23) => q.f0.size ≤ 9223372036854775807 ∧ w.cell? (x.add (i * 2 + 0)) = some (.string q.f0) ∧ w.cell? (x.add (i * 2 + 1)) = some (.int .i64 q.f1)) (fun i hl2 => by
      obtain ⟨ys, n, -, -, -, hf⟩ := hi i (by omega)
      obtain ⟨v0, y0, c0, -, t0⟩ := hf 0 n1 rfl
      obtain ⟨v1, y1, c1, -, t1⟩ := hf 1 n2 rfl
      obtain ⟨s0, e0, -, hs⟩ := DataW.trod_string h1 t0
      obtain ⟨i1, e1, -, -⟩ := DataW.trod_int h2 t1
      simp only [List.cons.injEq, and_true] at e0 e1
      subst e0; subst e1
      exact ⟨⟨s0, i1⟩, by unfold maxLen at hs; omega, c0, c1⟩)
    refine ⟨z, hz, hl, ⟨hz, by unfold maxLen at hm; omega, fun _ => ⟨x, rfl, fun j p hj => ⟨[.string p.f0, .int .i64 p.f1], rfl, PBase.k23_mk _ p, fun i u hu => ?_⟩⟩⟩, fun e he => ?_⟩
    · obtain ⟨-, h3, h4⟩ := hp j p hj
      match i, hu with
      | 0, hu => simp only [List.getElem?_cons_zero, Option.some.injEq] at hu; subst hu; exact h3
      | 1, hu => simp only [List.getElem?_cons_succ, List.getElem?_cons_zero, Option.some.injEq] at hu; subst hu; exact h4
      | i + 2, hu => simp at hu
    · obtain ⟨j, hj⟩ := List.mem_iff_getElem?.1 he
      exact (hp j e hj).1
theorem C_take {w : World} {A : Option Addr} {n : Nat} {z : List S23} (h : Kd.C k23 w A n z) (m : Nat) : Kd.C k23 w A (z.take m).length (z.take m) := by
  obtain ⟨h1, h2, h3⟩ := h
  have hl : (z.take m).length ≤ n := by rw [List.length_take]; omega
  refine ⟨rfl, by omega, fun h0 => ?_⟩
  obtain ⟨ad, e, hc⟩ := h3 (by omega)
  refine ⟨ad, e, fun j p hj => hc j p ?_⟩
  rw [List.getElem?_take] at hj
  split at hj
  · exact hj
  · cases hj
/-- what the rows know of a list of entries that came in. -/
structure Ent (w : World) (a : Option Addr) (len cap : Nat) (z : List S23) : Prop where
  eq : z.length = len
  cap : len ≤ cap
  C : Kd.C k23 w a len z
  S : ∀ e ∈ z, e.f0.size ≤ 9223372036854775807
theorem Ent.cut {w : World} {a : Option Addr} {len cap : Nat} {z : List S23} (h : Ent w a len cap z) (m : Nat) : (((z.take m).length = len ∧ len ≤ m) ∨ (m < len ∧ (z.take m).length = m)) ∧ (z.take m).length ≤ cap ∧ (z.take m).length ≤ m ∧ Kd.C k23 w a (z.take m).length (z.take m) := by
  have h1 := h.eq
  have h2 := h.cap
  refine ⟨?_, by rw [List.length_take]; omega, by rw [List.length_take]; omega, C_take h.C m⟩
  rw [List.length_take]
  omega
end Go.Proofs.YtdjjmnkopoldhaaDoor.Ep
