import Derived.Test.YtckpgbkbbdifmaaMgR
import Derived.WalkKit
import Derived.ProofKit
import Derived.Below
import Derived.WalkLawsBesides
import Derived.Deep.QuietTactic
import Derived.BigQuiet
import Derived.StillTailTactics
import Derived.Deep.AppendLies
import Derived.Deep.RegionHeld3
import Derived.KernelRfl
import Derived.BigRegion
import Derived.WalkSpells
import Derived.Deep.Slices
import Derived.Deep.Fields
import Derived.ChangeSame
import Derived.Deep.RegionLaw
import Derived.Deep.DrawnRows
import Derived.Deep.Upon
namespace Go.Proofs.Ytckpgbkbbdifmaa.Ep
open Go Go.RowKit Go.Proofs.YtckpgbkbbdifmaaW.PrintWords Go.Proofs.YtckpgbkbbdifmaaW.PrintLast Go.Proofs.YtckpgbkbbdifmaaW.PrintMore Go.Proofs.Ytckpgbkbbdifmaa.PMergeTells Go.Proofs.Ytckpgbkbbdifmaa.Keep
set_option linter.unusedVariables false
set_option linter.unusedSimpArgs false
section
variable {P : Program} {ops : Array Oper} {Q : Exit → Act → World → Prop} {md : Region.Mode} {S : Array Bool → World → Prop}
/-- Whatever order is picked from here on; what holds behind each operation hangs on which have come up. -/
def wpAnyL (P : Program) (md : Region.Mode) (ops : Array Oper) (Q : Exit → Act → World → Prop) (S : Array Bool → World → Prop) : Nat → Array Bool → Act → World → Prop
  | 0, listed, a, w => Region.ready md ops listed = [] ∧ Q .normal a w
  | fuel + 1, listed, a, w =>
    (Region.ready md ops listed = [] → Q .normal a w) ∧
    ∀ i ∈ Region.ready md ops listed, wpOp P ops Q i (fun a' w' => S (listed.setIfInBounds i true) w' ∧ wpAnyL P md ops Q S fuel (listed.setIfInBounds i true) a' w') a w
theorem wpAny_of_L : ∀ (fuel : Nat) (listed : Array Bool) (a : Act) (w : World), wpAnyL P md ops Q S fuel listed a w → wpAny P md ops Q fuel listed a w
  | 0, _, _, _, h => h
  | fuel + 1, _, _, _, h => ⟨h.1, fun i hi => wpOp_mono (fun a' w' h' => wpAny_of_L fuel _ a' w' h'.2) (h.2 i hi)⟩
/-- An operation that may come up now may be taken first, if it yields its value in every world that may be met while it has not come up. -/
theorem wpAnyL_first {i : Nat} {oi : Oper} {v : Value} {C : World → Prop} {D : Array Bool → Prop} (hi : ops[i]? = some oi) (hsel : ∀ (j : Nat) (o : Oper) cs b, ops[j]? = some o → o.op ≠ .select cs b)
    (hQ : ∀ c a w, Q (.panic c) (a.put oi.dst v) w → Q (.panic c) a w) (hS : ∀ L w, S (L.setIfInBounds i true) w ↔ S L w) (hC : ∀ L w, D L → S L w → C w)
    (hD : ∀ (L : Array Bool) (j : Nat), D L → i ∈ Region.ready md ops L → j ∈ Region.ready md ops L → j ≠ i → D (L.setIfInBounds j true)) :
    ∀ (fuel : Nat) (listed : Array Bool) (a : Act) (w : World),
      (∀ j oj, ops[j]? = some oj → j ≠ i → listed.getD j true = false → (∀ e ∈ oj.after, Region.binds md e = true → e.on ≠ i) → oi.apart ops oj = true) →
      i ∈ Region.ready md ops listed → YieldsIf P ops C oi v a → D listed → S listed w →
      wpAnyL P md ops Q S fuel (listed.setIfInBounds i true) (a.put oi.dst v) w → wpAnyL P md ops Q S (fuel + 1) listed a w := by
  intro fuel
  induction fuel with
  | zero =>
    intro listed a w _ hr hy hDl hSl H
    refine ⟨fun h => (by rw [h] at hr; cases hr), fun j hj => ?_⟩
    by_cases hji : j = i
    · subst hji; exact hy.wpOp hi (hC _ _ hDl hSl) ⟨(hS _ _).2 hSl, H⟩
    · have := ready_mono hj hji
      rw [H.1] at this
      cases this
  | succ fuel ih =>
    intro listed a w hfree hr hy hDl hSl H
    refine ⟨fun h => (by rw [h] at hr; cases hr), fun j hj => ?_⟩
    by_cases hji : j = i
    · subst hji; exact hy.wpOp hi (hC _ _ hDl hSl) ⟨(hS _ _).2 hSl, H⟩
    · have h1 := H.2 j (ready_mono hj hji)
      obtain ⟨hjun, oj, hoj, hall⟩ := mem_ready.1 hj
      have hnot : ∀ e ∈ oj.after, Region.binds md e = true → e.on ≠ i := fun e he hb heq => by
        have h1 := hall e he hb
        have h0 := (mem_ready.1 hr).1
        rw [heq] at h1
        rcases Nat.lt_or_ge i listed.size with h' | h'
        · simp [h'] at h0 h1; rw [h0] at h1; cases h1
        · simp [Array.getElem?_eq_none h'] at h1
      have h2 := wpOp_putIf hoj (hfree j oj hoj hji hjun hnot) (fun cs b => hsel i oi cs b hi) (fun cs b => hsel j oj cs b hoj) hQ hy h1
      have hfree' : ∀ k ok, ops[k]? = some ok → k ≠ i → (listed.setIfInBounds j true).getD k true = false →
          (∀ e ∈ ok.after, Region.binds md e = true → e.on ≠ i) → oi.apart ops ok = true := fun k ok hk hki hun hno => by
        refine hfree k ok hk hki ?_ hno
        by_cases hjk : j = k
        · subst hjk; exact hjun
        · rw [getD_set_ne true hjk] at hun; exact hun
      have hcomm : (listed.setIfInBounds i true).setIfInBounds j true = (listed.setIfInBounds j true).setIfInBounds i true := Array.setIfInBounds_comm _ _ (Ne.symm hji)
      refine wpOp_mono (fun a' w' h3 => ?_) h2
      have hS' : S (listed.setIfInBounds j true) w' := by
        have := h3.2.1
        rw [hcomm] at this
        exact (hS _ _).1 this
      refine ⟨hS', ih (listed.setIfInBounds j true) a' w' hfree' (ready_mono hr (Ne.symm hji)) h3.1 (hD _ _ hDl hr hj hji) hS' ?_⟩
      have := h3.2.2
      rw [hcomm] at this
      exact this
end
section
variable {P : Program} {ops : Array Oper} {Q : Exit → Act → World → Prop} {md : Region.Mode}
/-- two facts, each of which is wanted till one operation has come up. -/
def SL2 (d1 : Nat) (C1 : World → Prop) (d2 : Nat) (C2 : World → Prop) (L : Array Bool) (w : World) : Prop := (L.getD d1 true = false → C1 w) ∧ (L.getD d2 true = false → C2 w)
theorem SL2.iff {d1 d2 i : Nat} {C1 C2 : World → Prop} (h1 : i ≠ d1) (h2 : i ≠ d2) (L : Array Bool) (w : World) : SL2 d1 C1 d2 C2 (L.setIfInBounds i true) w ↔ SL2 d1 C1 d2 C2 L w := by
  unfold SL2; rw [getD_set_ne true h1, getD_set_ne true h2]
def depOn (md : Region.Mode) (ops : Array Oper) (d i : Nat) : Bool := match ops[d]? with
  | some o => o.after.any fun e => Region.binds md e && e.on == i
  | none => false
theorem depOn_spec {d i : Nat} (h : depOn md ops d i = true) (L : Array Bool) (hi : L.getD i true = false) : ¬ d ∈ Region.ready md ops L := by
  intro hd
  obtain ⟨-, o, ho, hall⟩ := mem_ready.1 hd
  unfold depOn at h
  rw [ho] at h
  simp only [Array.any_eq_true'] at h
  obtain ⟨e, he, h2⟩ := h
  simp only [Bool.and_eq_true, beq_iff_eq] at h2
  have := hall e he h2.1
  rw [h2.2] at this
  rcases Nat.lt_or_ge i L.size with h' | h'
  · simp [h'] at hi this; rw [hi] at this; cases this
  · simp [Array.getElem?_eq_none h'] at this
variable {d1 d2 : Nat} {C1 C2 : World → Prop}
theorem L_pure (i : Nat) {oi : Oper} {v : Value} {fuel : Nat} {listed : Array Bool} {a : Act} {w : World} (hi : ops[i]? = some oi) (hs : Region.noSelect ops = true) (hf : Region.free md ops listed i = true) (hr : (Region.ready md ops listed).contains i = true)
    (hQ : ∀ c a w, Q (.panic c) (a.put oi.dst v) w → Q (.panic c) a w) (h1 : i ≠ d1) (h2 : i ≠ d2) (hw : Region.wanted oi (yielded ops a.tmps) = true) (hy : ∀ w, (execOp a.eval oi).run P w = .ok (.value v) w) (hS : SL2 d1 C1 d2 C2 listed w)
    (h : SL2 d1 C1 d2 C2 (listed.setIfInBounds i true) w → wpAnyL P md ops Q (SL2 d1 C1 d2 C2) fuel (listed.setIfInBounds i true) (a.put oi.dst v) w) : wpAnyL P md ops Q (SL2 d1 C1 d2 C2) (fuel + 1) listed a w :=
  wpAnyL_first (C := fun _ => True) (D := fun _ => True) hi (Region.noSelect_spec hs) hQ (SL2.iff h1 h2) (fun _ _ _ _ => trivial) (fun _ _ _ _ _ _ => trivial) fuel listed a w (Region.free_spec hi hf) (by simpa using hr) (.inl ⟨hw, fun w _ => hy w⟩) trivial hS (h ((SL2.iff h1 h2 _ _).2 hS))
theorem L_load1 (i : Nat) {oi : Oper} {v : Value} {fuel : Nat} {listed : Array Bool} {a : Act} {w : World} (hi : ops[i]? = some oi) (hs : Region.noSelect ops = true) (hf : Region.free md ops listed i = true) (hr : (Region.ready md ops listed).contains i = true)
    (hQ : ∀ c a w, Q (.panic c) (a.put oi.dst v) w → Q (.panic c) a w) (h1 : i ≠ d1) (h2 : i ≠ d2) (hdep : depOn md ops d1 i = true) (hun : listed.getD d1 true = false) (hw : Region.wanted oi (yielded ops a.tmps) = true) (hy : ∀ w, C1 w → (execOp a.eval oi).run P w = .ok (.value v) w) (hS : SL2 d1 C1 d2 C2 listed w)
    (h : SL2 d1 C1 d2 C2 (listed.setIfInBounds i true) w → wpAnyL P md ops Q (SL2 d1 C1 d2 C2) fuel (listed.setIfInBounds i true) (a.put oi.dst v) w) : wpAnyL P md ops Q (SL2 d1 C1 d2 C2) (fuel + 1) listed a w :=
  wpAnyL_first (C := C1) (D := fun L => L.getD d1 true = false) hi (Region.noSelect_spec hs) hQ (SL2.iff h1 h2) (fun _ _ hD hS => hS.1 hD)
    (fun L j hD hir hj hji => by
      have hne : j ≠ d1 := fun e => depOn_spec hdep L (mem_ready.1 hir).1 (e ▸ hj)
      rw [getD_set_ne true hne]; exact hD) fuel listed a w (Region.free_spec hi hf) (by simpa using hr) (.inl ⟨hw, hy⟩) hun hS (h ((SL2.iff h1 h2 _ _).2 hS))
theorem L_load2 (i : Nat) {oi : Oper} {v : Value} {fuel : Nat} {listed : Array Bool} {a : Act} {w : World} (hi : ops[i]? = some oi) (hs : Region.noSelect ops = true) (hf : Region.free md ops listed i = true) (hr : (Region.ready md ops listed).contains i = true)
    (hQ : ∀ c a w, Q (.panic c) (a.put oi.dst v) w → Q (.panic c) a w) (h1 : i ≠ d1) (h2 : i ≠ d2) (hdep : depOn md ops d2 i = true) (hun : listed.getD d2 true = false) (hw : Region.wanted oi (yielded ops a.tmps) = true) (hy : ∀ w, C2 w → (execOp a.eval oi).run P w = .ok (.value v) w) (hS : SL2 d1 C1 d2 C2 listed w)
    (h : SL2 d1 C1 d2 C2 (listed.setIfInBounds i true) w → wpAnyL P md ops Q (SL2 d1 C1 d2 C2) fuel (listed.setIfInBounds i true) (a.put oi.dst v) w) : wpAnyL P md ops Q (SL2 d1 C1 d2 C2) (fuel + 1) listed a w :=
  wpAnyL_first (C := C2) (D := fun L => L.getD d2 true = false) hi (Region.noSelect_spec hs) hQ (SL2.iff h1 h2) (fun _ _ hD hS => hS.2 hD)
    (fun L j hD hir hj hji => by
      have hne : j ≠ d2 := fun e => depOn_spec hdep L (mem_ready.1 hir).1 (e ▸ hj)
      rw [getD_set_ne true hne]; exact hD) fuel listed a w (Region.free_spec hi hf) (by simpa using hr) (.inl ⟨hw, hy⟩) hun hS (h ((SL2.iff h1 h2 _ _).2 hS))
/-- the one operation that may come up now. -/
theorem L_step (i : Nat) {o : Oper} {fuel : Nat} {listed : Array Bool} {a : Act} {w : World} (hr : Region.ready md ops listed = [i]) (ho : ops[i]? = some o)
    (h : ∀ K' : Act → World → Prop, Shut (∀ a w, SL2 d1 C1 d2 C2 (listed.setIfInBounds i true) w → (SL2 d1 C1 d2 C2 (listed.setIfInBounds i true) w → wpAnyL P md ops Q (SL2 d1 C1 d2 C2) fuel (listed.setIfInBounds i true) a w) → K' a w) → if Region.wanted o (yielded ops a.tmps) = true then Oper.wp P o a w K' Q else K' (a.put o.dst undef) w) :
    wpAnyL P md ops Q (SL2 d1 C1 d2 C2) (fuel + 1) listed a w := by
  refine ⟨fun h0 => absurd (hr.symm.trans h0) (by simp), fun j hj => ?_⟩
  rw [hr, List.mem_singleton] at hj
  subst hj
  exact wpOp_step ho (fun K' hK => h K' (fun a w hS hW => hK a w ⟨hS, hW hS⟩))
theorem L_done {fuel : Nat} {listed : Array Bool} {a : Act} {w : World} (hr : Region.ready md ops listed = []) (h : Q .normal a w) : wpAnyL P md ops Q (SL2 d1 C1 d2 C2) fuel listed a w := by
  cases fuel with
  | zero => exact ⟨hr, h⟩
  | succ n => exact ⟨fun _ => h, by rw [hr]; simp⟩
theorem L_region {id : Nat} {a : Act} {w : World} (hm : P.follows .mixedOrders = true) (hS : SL2 d1 C1 d2 C2 (Array.replicate ops.size false) w.drew)
    (h : SL2 d1 C1 d2 C2 (Array.replicate ops.size false) w.drew → wpAnyL P .any ops Q (SL2 d1 C1 d2 C2) ops.size (Array.replicate ops.size false) a w.drew) : (Code.region id ops true).wp P Q a w :=
  wp_region_any hm (wpAny_of_L _ _ _ _ (h hS))
end
theorem get0 {o : Oper} {l : List Oper} : (o :: l).toArray[0]? = some o := rfl
theorem getS {a o : Oper} {l : List Oper} {n : Nat} (h : l.toArray[n]? = some o) : (a :: l).toArray[n + 1]? = some o := by simpa using h
theorem SL2.mk {d1 d2 : Nat} {C1 C2 : World → Prop} {L : Array Bool} {w : World} (h1 : C1 w) (h2 : C2 w) : SL2 d1 C1 d2 C2 L w := ⟨fun _ => h1, fun _ => h2⟩
theorem SL2.mk2 {d1 d2 : Nat} {C1 C2 : World → Prop} {L : Array Bool} {w : World} (h1 : L.getD d1 true = true) (h2 : C2 w) : SL2 d1 C1 d2 C2 L w := ⟨fun h => absurd (h1.symm.trans h) (by decide), fun _ => h2⟩
theorem SL2.mk0 {d1 d2 : Nat} {C1 C2 : World → Prop} {L : Array Bool} {w : World} (h1 : L.getD d1 true = true) (h2 : L.getD d2 true = true) : SL2 d1 C1 d2 C2 L w := ⟨fun h => absurd (h1.symm.trans h) (by decide), fun h => absurd (h2.symm.trans h) (by decide)⟩
section
variable {P : Program} {ops : Array Oper} {Q : Exit → Act → World → Prop} {md : Region.Mode} {d1 d2 : Nat} {C1 C2 : World → Prop}
/-- each of Z hangs on i, or on another one of Z. -/
def chainOn (md : Region.Mode) (ops : Array Oper) (i : Nat) (Z : List Nat) : Bool := Z.all fun z => depOn md ops z i || Z.any fun y => depOn md ops z y
theorem chain_spec {i : Nat} {Z : List Nat} (h : chainOn md ops i Z = true) (L : Array Bool) (hi : L.getD i true = false) (hZ : ∀ z ∈ Z, L.getD z true = false) : ∀ z ∈ Z, ¬ z ∈ Region.ready md ops L := by
  intro z hz
  have h1 := List.all_eq_true.1 h z hz
  rcases Bool.or_eq_true_iff.1 h1 with h2 | h2
  · exact depOn_spec h2 L hi
  · obtain ⟨y, hy, h3⟩ := List.any_eq_true.1 h2
    exact depOn_spec h3 L (hZ y hy)
/-- a load whose fact holds till the last one of a chain behind it has come up. -/
theorem L_loadZ (Z : List Nat) (i : Nat) {oi : Oper} {v : Value} {fuel : Nat} {listed : Array Bool} {a : Act} {w : World} (hi : ops[i]? = some oi) (hs : Region.noSelect ops = true) (hf : Region.free md ops listed i = true) (hr : (Region.ready md ops listed).contains i = true)
    (hQ : ∀ c a w, Q (.panic c) (a.put oi.dst v) w → Q (.panic c) a w) (h1 : i ≠ d1) (h2 : i ≠ d2) (hch : chainOn md ops i Z = true) (hd : Z.contains d1 = true) (hun : (Z.all fun z => !(listed.getD z true)) = true) (hw : Region.wanted oi (yielded ops a.tmps) = true) (hy : ∀ w, C1 w → (execOp a.eval oi).run P w = .ok (.value v) w) (hS : SL2 d1 C1 d2 C2 listed w)
    (h : SL2 d1 C1 d2 C2 (listed.setIfInBounds i true) w → wpAnyL P md ops Q (SL2 d1 C1 d2 C2) fuel (listed.setIfInBounds i true) (a.put oi.dst v) w) : wpAnyL P md ops Q (SL2 d1 C1 d2 C2) (fuel + 1) listed a w :=
  wpAnyL_first (C := C1) (D := fun L => ∀ z ∈ Z, L.getD z true = false) hi (Region.noSelect_spec hs) hQ (SL2.iff h1 h2) (fun _ _ hD hS => hS.1 (hD d1 (by simpa using hd)))
    (fun L j hD hir hj hji z hz => by
      have hne : j ≠ z := fun e => chain_spec hch L (mem_ready.1 hir).1 hD z hz (e ▸ hj)
      rw [getD_set_ne true hne]; exact hD z hz) fuel listed a w (Region.free_spec hi hf) (by simpa using hr) (.inl ⟨hw, hy⟩) (fun z hz => by have := List.all_eq_true.1 hun z hz; simpa using this) hS (h ((SL2.iff h1 h2 _ _).2 hS))
/-- one of two operations may come up now. -/
theorem L_step2 (i j : Nat) {oi oj : Oper} {fuel : Nat} {listed : Array Bool} {a : Act} {w : World} (hr : Region.ready md ops listed = [i, j]) (hoi : ops[i]? = some oi) (hoj : ops[j]? = some oj)
    (h : ∀ K' : Act → World → Prop, Shut (∀ a w, SL2 d1 C1 d2 C2 (listed.setIfInBounds i true) w → (SL2 d1 C1 d2 C2 (listed.setIfInBounds i true) w → wpAnyL P md ops Q (SL2 d1 C1 d2 C2) fuel (listed.setIfInBounds i true) a w) → K' a w) → if Region.wanted oi (yielded ops a.tmps) = true then Oper.wp P oi a w K' Q else K' (a.put oi.dst undef) w)
    (h' : ∀ K' : Act → World → Prop, Shut (∀ a w, SL2 d1 C1 d2 C2 (listed.setIfInBounds j true) w → (SL2 d1 C1 d2 C2 (listed.setIfInBounds j true) w → wpAnyL P md ops Q (SL2 d1 C1 d2 C2) fuel (listed.setIfInBounds j true) a w) → K' a w) → if Region.wanted oj (yielded ops a.tmps) = true then Oper.wp P oj a w K' Q else K' (a.put oj.dst undef) w) :
    wpAnyL P md ops Q (SL2 d1 C1 d2 C2) (fuel + 1) listed a w := by
  refine ⟨fun h0 => absurd (hr.symm.trans h0) (by simp), fun k hk => ?_⟩
  rw [hr, List.mem_cons, List.mem_singleton] at hk
  rcases hk with rfl | rfl
  · exact wpOp_step hoi (fun K' hK => h K' (fun a w hS hW => hK a w ⟨hS, hW hS⟩))
  · exact wpOp_step hoj (fun K' hK => h' K' (fun a w hS hW => hK a w ⟨hS, hW hS⟩))
end
/-- append of a row, empty or not. -/
theorem q_append_any (w : World) (base base2 : Nat) (t ty e : TypeId) (i : TypeInfo) (z : Value) (bytes : Nat) (ht : Try.prog.underlying t = some (.slice e)) (hi : Try.prog.info? e = some i) (hz : i.zero = some z)
    (hsize : i.size = 1) (hby : i.bytes = bytes) (hzs : z.cells.size = 1)
    (v : Value) (n : Nat) (xs : List Value) (hown : QRow w base e 1 v n xs)
    (A : Option Addr) (m c : Nat) (news : List Value) (hsrc : QRow w base2 e 1 (.slice A m c) m news) (h1 : ∀ u ∈ news, u.oneCell' = true)
    (h63 : n + m ≤ maxLen) (hbytes : (n + m) * bytes ≤ 140737488355328) (hbase : base ≤ w.heap.size) :
    ∃ v' w', (Builtin.append_ #[t, t] ty #[v, .slice A m c]).run Try.prog w = .ok v' w' ∧ QRow w' base e 1 v' (n + m) (xs ++ news) ∧ w.grownBy w' v.ownBlock ∧ (v'.ownBlock = v.ownBlock ∨ ∃ b, v'.ownBlock = some b ∧ w.heap.size ≤ b) := by
  by_cases hm : 0 < m
  · obtain ⟨ad, rfl, hc⟩ := q_cells hsrc hm
    exact q_append w base t ty e i z 1 bytes ht hi hz hsize hby hzs (by decide) v n xs hown ad m c news hsrc.1 hc h1 hm h63 hbytes hbase
  · obtain rfl : m = 0 := by omega
    obtain rfl : news = [] := List.eq_nil_of_length_eq_zero (by rw [hsrc.1, Nat.zero_mul])
    obtain ⟨A0, c0, rfl, hnc⟩ := q_slice hown
    have hmx := q_max hown
    have hsc : Src Try.prog i.size t (.slice A 0 c) 0 [] w := by
      cases A with
      | none => exact Src.ofNil w ht c
      | some a => exact Src.ofSlice w ht a 0 c [] (by simp) (fun j u hu => by simp at hu) (fun u hu => by cases hu)
    exact ⟨_, w, run_append_nothing w t t ty e i ht hi A0 n c0 hnc _ hsc, by simpa using hown, ⟨rfl, rfl, rfl, Nat.le_refl _, fun k _ _ => rfl⟩, .inl rfl⟩

/-- one step of a region: append of one's own row and another. -/
theorem step_append_q {ops : Array Oper} {o : Oper} {a : Act} {w : World} {K : Act → World → Prop} {Q : Exit → Act → World → Prop} {E : Prop} (hgd : o.guard = none) (s x : Operand) (t : TypeId)
    (ho : o.op = .call { callee := .builtin .append, args := #[s, x], argTypes := #[t, t] })
    (base base2 : Nat) (e : TypeId) (i : TypeInfo) (z : Value) (bytes : Nat) (ht : Try.prog.underlying t = some (.slice e)) (hi : Try.prog.info? e = some i) (hz : i.zero = some z)
    (hsize : i.size = 1) (hby : i.bytes = bytes) (hzs : z.cells.size = 1)
    (v : Value) (n : Nat) (xs : List Value) (hs : a.eval s = v) (hown : QRow w base e 1 v n xs)
    (A : Option Addr) (m c : Nat) (news : List Value) (hx : a.eval x = .slice A m c) (hsrc : QRow w base2 e 1 (.slice A m c) m news) (h1 : ∀ u ∈ news, u.oneCell' = true)
    (h63 : n + m ≤ maxLen) (hbytes : (n + m) * bytes ≤ 140737488355328) (hbase : base ≤ w.heap.size)
    (h : ∀ v' w', QRow w' base e 1 v' (n + m) (xs ++ news) → w.grownBy w' v.ownBlock → (v'.ownBlock = v.ownBlock ∨ ∃ b, v'.ownBlock = some b ∧ w.heap.size ≤ b) → K (a.put o.dst v') w') :
    if Region.wanted o (yielded ops a.tmps) = true then Oper.wp Try.prog o a w K Q else E := by
  have hw : Region.wanted o (yielded ops a.tmps) = true := by simp [Region.wanted, hgd]
  rw [if_pos hw]
  obtain ⟨v', w', hr, h2, h3, h4⟩ := q_append_any w base base2 t o.type e i z bytes ht hi hz hsize hby hzs v n xs hown A m c news hsrc h1 h63 hbytes hbase
  unfold Oper.wp execOp
  simp only [ho, resolve, invoke, builtin, Sem.run_bind, Sem.run_pure, Result.andThen_ok, List.map_toArray, List.map_cons, List.map_nil, hs, hx, hr]
  exact h v' w' h2 h3 h4
theorem alloc_size (w : World) (o : Obj) : (w.alloc o).heap.size = w.heap.size + 1 := by simp
/-- a row made since a world, while it is appended to. -/
structure AS (Wd cur : World) (e : TypeId) (v : Value) (n : Nat) (xs : List Value) : Prop where
  below : Below Wd.heap.size Wd cur
  row : QRow cur Wd.heap.size e 1 v n xs
/-- one cell beside it. -/
structure AN (Wd cur : World) (e : TypeId) (v u : Value) (y : Value) : Prop where
  row : QRow cur Wd.heap.size e 1 u 1 [y]
  ne : ∀ k, u.ownBlock = some k → v.ownBlock ≠ some k
section
variable {Wd cur w w' : World} {e : TypeId} {v v' u y : Value} {n m : Nat} {xs ys : List Value}
theorem AS.new (hb : Below Wd.heap.size Wd cur) : AS Wd (cur.alloc (.cells #[] e)) e (.slice (some ⟨cur.heap.size, 0, none⟩) 0 0) 0 [] :=
  ⟨hb.alloc hb.size _, rfl, .inl ⟨rfl, _, rfl, fun a ha => by injection ha with ha; subst ha; exact ⟨hb.size, _, heap_alloc_new _ _⟩⟩⟩
theorem an_row (hb : Below Wd.heap.size Wd cur) (y : Value) : QRow (cur.alloc (.cells #[y] e)) Wd.heap.size e 1 (.slice (some ⟨cur.heap.size, 0, none⟩) 1 1) 1 [y] :=
  ⟨rfl, .inr ⟨cur.heap.size, 0, 1, #[y], rfl, hb.size, heap_alloc_new _ _, Nat.le_refl _, by unfold maxLen; omega, rfl, rfl⟩⟩
theorem AN.new (h : AS Wd cur e v n xs) (y : Value) : AS Wd (cur.alloc (.cells #[y] e)) e v n xs ∧ AN Wd (cur.alloc (.cells #[y] e)) e v (.slice (some ⟨cur.heap.size, 0, none⟩) 1 1) y :=
  ⟨⟨h.below.alloc h.below.size _, q_move h.row fun k hk => heap_alloc_old _ _ (q_lt h.row k hk)⟩, an_row h.below y, fun k hk hv => by
    injection hk with hk; subst hk
    exact absurd (q_lt h.row _ hv) (Nat.lt_irrefl _)⟩
theorem AN.behind (hr : QRow cur Wd.heap.size e 1 u 1 [y]) : AN Wd (cur.alloc (.cells #[] e)) e (.slice (some ⟨cur.heap.size, 0, none⟩) 0 0) u y :=
  ⟨q_move hr fun k hk => heap_alloc_old _ _ (q_lt hr k hk), fun k hk hv => by
    injection hv with hv; subst hv
    exact absurd (q_lt hr _ hk) (Nat.lt_irrefl _)⟩
theorem AS.app (h : AS Wd w e v n xs) (hg : w.grownBy w' v.ownBlock) (hr : QRow w' Wd.heap.size e 1 v' m ys) : AS Wd w' e v' m ys :=
  ⟨h.below.trans (Below.grown (Below.refl _ _) hg h.below.size (fun k hk => (q_typed h.row k hk).1)), hr⟩
theorem AN.app (h : AN Wd w e v u y) (hg : w.grownBy w' v.ownBlock) (hat : v'.ownBlock = v.ownBlock ∨ ∃ b, v'.ownBlock = some b ∧ w.heap.size ≤ b) : AN Wd w' e v' u y :=
  ⟨q_move h.row fun k hk => hg.block k (q_lt h.row k hk) (fun e2 => h.ne k hk e2.symm), fun k hk hv => by
    rcases hat with e2 | ⟨b, e2, hb⟩
    · exact h.ne k hk (e2.symm.trans hv)
    · rw [e2] at hv; injection hv with hv; subst hv
      have := q_lt h.row _ hk; omega⟩
theorem AS.src {base : Nat} {s : Value} {zs : List Value} (h : AS Wd w e v n xs) (hs : QRow Wd base e 1 s m zs) : QRow w base e 1 s m zs := q_move hs fun k hk => h.below.block k (q_lt hs k hk)
theorem AS.cell {p : Addr} {V : Value} (h : AS Wd w e v n xs) (hc : Wd.cell? p = some V) : w.cell? p = some V := (h.below.cell (World.block_lt_of_cell? Wd p hc)).trans hc
theorem below_cell {p : Addr} {V : Value} (h : Below Wd.heap.size Wd w) (hc : Wd.cell? p = some V) : w.cell? p = some V := (h.cell (World.block_lt_of_cell? Wd p hc)).trans hc
end
theorem one_ints (l : List Int) : ∀ u ∈ l.map (Value.int .i64), u.oneCell' = true := fun u hu => by obtain ⟨y, _, rfl⟩ := List.mem_map.1 hu; rfl
def kOf (x : Int) (L : List Int) : Nat := (L.takeWhile fun y => decide (y < x)).length
theorem kOf_le (x : Int) (L : List Int) : kOf x L ≤ L.length := (List.takeWhile_prefix _).length_le
theorem kOf_cons (x y : Int) (L : List Int) : kOf x (y :: L) = if y < x then kOf x L + 1 else 0 := by
  unfold kOf; rw [List.takeWhile_cons]; by_cases h : y < x <;> simp [h]
theorem kOf_lt (x : Int) : ∀ (L : List Int) (j : Nat) (y : Int), j < kOf x L → L[j]? = some y → y < x
  | [], j, y, h, _ => by simp [kOf] at h
  | z :: L, j, y, h, hy => by
    rw [kOf_cons] at h
    split at h
    · next hz =>
      cases j with
      | zero => injection hy with hy; omega
      | succ j => exact kOf_lt x L j y (by omega) (by simpa using hy)
    · omega
theorem kOf_ge (x : Int) : ∀ (L : List Int) (y : Int), L[kOf x L]? = some y → ¬ y < x
  | [], y, h => by simp at h
  | z :: L, y, h => by
    rw [kOf_cons] at h
    split at h
    · exact kOf_ge x L y (by simpa using h)
    · next hz => injection h with h; omega
theorem ins_kOf (x : Int) : ∀ (L : List Int), x ∉ L → ins x L = (L.take (kOf x L) ++ [x]) ++ L.drop (kOf x L)
  | [], _ => by simp [kOf, ins]
  | y :: L, h => by
    rw [kOf_cons]
    have hxy : x ≠ y := fun e => h (by rw [e]; exact List.mem_cons_self)
    by_cases hy : y < x
    · rw [if_pos hy]
      unfold ins
      rw [if_neg (by omega), ins_kOf x L (fun e => h (List.mem_cons_of_mem _ e))]
      simp
    · rw [if_neg hy]
      unfold ins
      rw [if_pos (by omega)]
      simp
theorem kOf_hit (x : Int) : ∀ (L : List Int), L.Pairwise (· < ·) → x ∈ L → L[kOf x L]? = some x
  | [], _, h => by cases h
  | y :: L, hp, h => by
    obtain ⟨h1, h2⟩ := List.pairwise_cons.1 hp
    rw [kOf_cons]
    by_cases hy : y < x
    · rw [if_pos hy]
      rcases List.mem_cons.1 h with e | e
      · omega
      · simpa using kOf_hit x L h2 e
    · rw [if_neg hy]
      rcases List.mem_cons.1 h with e | e
      · subst e; rfl
      · have := h1 x e; omega
theorem kOf_miss (x : Int) (L : List Int) (h : x ∉ L) (y : Int) (hy : L[kOf x L]? = some y) : y ≠ x := fun e => h (by rw [← e]; exact List.mem_of_getElem? hy)
end Go.Proofs.Ytckpgbkbbdifmaa.Ep
