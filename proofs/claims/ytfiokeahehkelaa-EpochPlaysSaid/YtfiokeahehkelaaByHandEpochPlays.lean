/- tendrillaw5.EpochPlays returns true for every input; no condition. -/
import Derived.Test.YtfiokeahehkelaaRows
import Derived.Test.YtfiokeahehkelaaWSized
import Derived.Test.YtfiokeahehkelaaEp
import Derived.Test.YtfiokeahehkelaaEpLaw
import Derived.Test.YtfiokeahehkelaaEpRef
import Derived.WalkKit
import Derived.ProofKit
import Derived.OpenShut
import Derived.ShutString
import Derived.ChangeOld
import Derived.Below
import Derived.SizedLaws
import Derived.Deep.Slices
import Derived.Deep.Fields
import Derived.ChangeSame
import Derived.Deep.RegionLaw
import Derived.Deep.DrawnRows
namespace Go.Proofs.Ytfiokeahehkelaa.Ep
open Go Go.RowKit Go.Proofs.YtfiokeahehkelaaW.PrintWords Go.Proofs.YtfiokeahehkelaaW.PrintLast Go.Proofs.YtfiokeahehkelaaW.PrintMore Go.Proofs.Ytfiokeahehkelaa.PEpochRuns
set_option linter.unusedVariables false
set_option linter.unusedSimpArgs false
section
variable {P : Program} {ops : Array Oper} {Q : Exit → Act → World → Prop} {md : Region.Mode} {S : Array Bool → World → Prop}
/-- Whatever order is picked from here on; what holds behind each operation hangs on which have come up. -/
def wpAnyL (P : Program) (md : Region.Mode) (ops : Array Oper) (Q : Exit → Act → World → Prop) (S : Array Bool → World → Prop) : Nat → Array Bool → Act → World → Prop
  | 0, listed, a, w => Region.ready md ops listed = [] ∧ Q .normal a w
  | fuel + 1, listed, a, w =>
    (Region.ready md ops listed = [] → Q .normal a w) ∧
    ∀ i ∈ Region.ready md ops listed, wpOp P ops Q i (fun a' w' => S (listed.setIfInBounds i true) w' ∧ wpAnyL P md ops Q S fuel (listed.setIfInBounds i true) a' w') a w
theorem wpAny_of_L : ∀ (fuel : Nat) (listed : Array Bool) (a : Act) (w : World), wpAnyL P md ops Q S fuel listed a w → wpAny P md ops Q fuel listed a w
  | 0, _, _, _, h => h
  | fuel + 1, _, _, _, h => ⟨h.1, fun i hi => wpOp_mono (fun a' w' h' => wpAny_of_L fuel _ a' w' h'.2) (h.2 i hi)⟩
/-- An operation that may come up now may be taken first, if it yields its value in every world that may be met while it has not come up. -/
theorem wpAnyL_first {i : Nat} {oi : Oper} {v : Value} {C : World → Prop} {D : Array Bool → Prop} (hi : ops[i]? = some oi) (hsel : ∀ (j : Nat) (o : Oper) cs b, ops[j]? = some o → o.op ≠ .select cs b)
    (hQ : ∀ c a w, Q (.panic c) (a.put oi.dst v) w → Q (.panic c) a w) (hS : ∀ L w, S (L.setIfInBounds i true) w ↔ S L w) (hC : ∀ L w, D L → S L w → C w)
    (hD : ∀ (L : Array Bool) (j : Nat), D L → i ∈ Region.ready md ops L → j ∈ Region.ready md ops L → j ≠ i → D (L.setIfInBounds j true)) :
    ∀ (fuel : Nat) (listed : Array Bool) (a : Act) (w : World),
      (∀ j oj, ops[j]? = some oj → j ≠ i → listed.getD j true = false → (∀ e ∈ oj.after, Region.binds md e = true → e.on ≠ i) → oi.apart ops oj = true) →
      i ∈ Region.ready md ops listed → YieldsIf P ops C oi v a → D listed → S listed w →
      wpAnyL P md ops Q S fuel (listed.setIfInBounds i true) (a.put oi.dst v) w → wpAnyL P md ops Q S (fuel + 1) listed a w := by
  intro fuel
  induction fuel with
  | zero =>
    intro listed a w _ hr hy hDl hSl H
    refine ⟨fun h => (by rw [h] at hr; cases hr), fun j hj => ?_⟩
    by_cases hji : j = i
    · subst hji; exact hy.wpOp hi (hC _ _ hDl hSl) ⟨(hS _ _).2 hSl, H⟩
    · have := ready_mono hj hji
      rw [H.1] at this
      cases this
  | succ fuel ih =>
    intro listed a w hfree hr hy hDl hSl H
    refine ⟨fun h => (by rw [h] at hr; cases hr), fun j hj => ?_⟩
    by_cases hji : j = i
    · subst hji; exact hy.wpOp hi (hC _ _ hDl hSl) ⟨(hS _ _).2 hSl, H⟩
    · have h1 := H.2 j (ready_mono hj hji)
      obtain ⟨hjun, oj, hoj, hall⟩ := mem_ready.1 hj
      have hnot : ∀ e ∈ oj.after, Region.binds md e = true → e.on ≠ i := fun e he hb heq => by
        have h1 := hall e he hb
        have h0 := (mem_ready.1 hr).1
        rw [heq] at h1
        rcases Nat.lt_or_ge i listed.size with h' | h'
        · simp [h'] at h0 h1; rw [h0] at h1; cases h1
        · simp [Array.getElem?_eq_none h'] at h1
      have h2 := wpOp_putIf hoj (hfree j oj hoj hji hjun hnot) (fun cs b => hsel i oi cs b hi) (fun cs b => hsel j oj cs b hoj) hQ hy h1
      have hfree' : ∀ k ok, ops[k]? = some ok → k ≠ i → (listed.setIfInBounds j true).getD k true = false →
          (∀ e ∈ ok.after, Region.binds md e = true → e.on ≠ i) → oi.apart ops ok = true := fun k ok hk hki hun hno => by
        refine hfree k ok hk hki ?_ hno
        by_cases hjk : j = k
        · subst hjk; exact hjun
        · rw [getD_set_ne true hjk] at hun; exact hun
      have hcomm : (listed.setIfInBounds i true).setIfInBounds j true = (listed.setIfInBounds j true).setIfInBounds i true := Array.setIfInBounds_comm _ _ (Ne.symm hji)
      refine wpOp_mono (fun a' w' h3 => ?_) h2
      have hS' : S (listed.setIfInBounds j true) w' := by
        have := h3.2.1
        rw [hcomm] at this
        exact (hS _ _).1 this
      refine ⟨hS', ih (listed.setIfInBounds j true) a' w' hfree' (ready_mono hr (Ne.symm hji)) h3.1 (hD _ _ hDl hr hj hji) hS' ?_⟩
      have := h3.2.2
      rw [hcomm] at this
      exact this
end
section
variable {P : Program} {ops : Array Oper} {Q : Exit → Act → World → Prop} {md : Region.Mode}
/-- two facts, each of which is wanted till one operation has come up. -/
def SL2 (d1 : Nat) (C1 : World → Prop) (d2 : Nat) (C2 : World → Prop) (L : Array Bool) (w : World) : Prop := (L.getD d1 true = false → C1 w) ∧ (L.getD d2 true = false → C2 w)
theorem SL2.iff {d1 d2 i : Nat} {C1 C2 : World → Prop} (h1 : i ≠ d1) (h2 : i ≠ d2) (L : Array Bool) (w : World) : SL2 d1 C1 d2 C2 (L.setIfInBounds i true) w ↔ SL2 d1 C1 d2 C2 L w := by
  unfold SL2; rw [getD_set_ne true h1, getD_set_ne true h2]
def depOn (md : Region.Mode) (ops : Array Oper) (d i : Nat) : Bool := match ops[d]? with
  | some o => o.after.any fun e => Region.binds md e && e.on == i
  | none => false
theorem depOn_spec {d i : Nat} (h : depOn md ops d i = true) (L : Array Bool) (hi : L.getD i true = false) : ¬ d ∈ Region.ready md ops L := by
  intro hd
  obtain ⟨-, o, ho, hall⟩ := mem_ready.1 hd
  unfold depOn at h
  rw [ho] at h
  simp only [Array.any_eq_true'] at h
  obtain ⟨e, he, h2⟩ := h
  simp only [Bool.and_eq_true, beq_iff_eq] at h2
  have := hall e he h2.1
  rw [h2.2] at this
  rcases Nat.lt_or_ge i L.size with h' | h'
  · simp [h'] at hi this; rw [hi] at this; cases this
  · simp [Array.getElem?_eq_none h'] at this
variable {d1 d2 : Nat} {C1 C2 : World → Prop}
theorem L_pure (i : Nat) {oi : Oper} {v : Value} {fuel : Nat} {listed : Array Bool} {a : Act} {w : World} (hi : ops[i]? = some oi) (hs : Region.noSelect ops = true) (hf : Region.free md ops listed i = true) (hr : (Region.ready md ops listed).contains i = true)
    (hQ : ∀ c a w, Q (.panic c) (a.put oi.dst v) w → Q (.panic c) a w) (h1 : i ≠ d1) (h2 : i ≠ d2) (hw : Region.wanted oi (yielded ops a.tmps) = true) (hy : ∀ w, (execOp a.eval oi).run P w = .ok (.value v) w) (hS : SL2 d1 C1 d2 C2 listed w)
    (h : SL2 d1 C1 d2 C2 (listed.setIfInBounds i true) w → wpAnyL P md ops Q (SL2 d1 C1 d2 C2) fuel (listed.setIfInBounds i true) (a.put oi.dst v) w) : wpAnyL P md ops Q (SL2 d1 C1 d2 C2) (fuel + 1) listed a w :=
  wpAnyL_first (C := fun _ => True) (D := fun _ => True) hi (Region.noSelect_spec hs) hQ (SL2.iff h1 h2) (fun _ _ _ _ => trivial) (fun _ _ _ _ _ _ => trivial) fuel listed a w (Region.free_spec hi hf) (by simpa using hr) (.inl ⟨hw, fun w _ => hy w⟩) trivial hS (h ((SL2.iff h1 h2 _ _).2 hS))
theorem L_load1 (i : Nat) {oi : Oper} {v : Value} {fuel : Nat} {listed : Array Bool} {a : Act} {w : World} (hi : ops[i]? = some oi) (hs : Region.noSelect ops = true) (hf : Region.free md ops listed i = true) (hr : (Region.ready md ops listed).contains i = true)
    (hQ : ∀ c a w, Q (.panic c) (a.put oi.dst v) w → Q (.panic c) a w) (h1 : i ≠ d1) (h2 : i ≠ d2) (hdep : depOn md ops d1 i = true) (hun : listed.getD d1 true = false) (hw : Region.wanted oi (yielded ops a.tmps) = true) (hy : ∀ w, C1 w → (execOp a.eval oi).run P w = .ok (.value v) w) (hS : SL2 d1 C1 d2 C2 listed w)
    (h : SL2 d1 C1 d2 C2 (listed.setIfInBounds i true) w → wpAnyL P md ops Q (SL2 d1 C1 d2 C2) fuel (listed.setIfInBounds i true) (a.put oi.dst v) w) : wpAnyL P md ops Q (SL2 d1 C1 d2 C2) (fuel + 1) listed a w :=
  wpAnyL_first (C := C1) (D := fun L => L.getD d1 true = false) hi (Region.noSelect_spec hs) hQ (SL2.iff h1 h2) (fun _ _ hD hS => hS.1 hD)
    (fun L j hD hir hj hji => by
      have hne : j ≠ d1 := fun e => depOn_spec hdep L (mem_ready.1 hir).1 (e ▸ hj)
      rw [getD_set_ne true hne]; exact hD) fuel listed a w (Region.free_spec hi hf) (by simpa using hr) (.inl ⟨hw, hy⟩) hun hS (h ((SL2.iff h1 h2 _ _).2 hS))
theorem L_load2 (i : Nat) {oi : Oper} {v : Value} {fuel : Nat} {listed : Array Bool} {a : Act} {w : World} (hi : ops[i]? = some oi) (hs : Region.noSelect ops = true) (hf : Region.free md ops listed i = true) (hr : (Region.ready md ops listed).contains i = true)
    (hQ : ∀ c a w, Q (.panic c) (a.put oi.dst v) w → Q (.panic c) a w) (h1 : i ≠ d1) (h2 : i ≠ d2) (hdep : depOn md ops d2 i = true) (hun : listed.getD d2 true = false) (hw : Region.wanted oi (yielded ops a.tmps) = true) (hy : ∀ w, C2 w → (execOp a.eval oi).run P w = .ok (.value v) w) (hS : SL2 d1 C1 d2 C2 listed w)
    (h : SL2 d1 C1 d2 C2 (listed.setIfInBounds i true) w → wpAnyL P md ops Q (SL2 d1 C1 d2 C2) fuel (listed.setIfInBounds i true) (a.put oi.dst v) w) : wpAnyL P md ops Q (SL2 d1 C1 d2 C2) (fuel + 1) listed a w :=
  wpAnyL_first (C := C2) (D := fun L => L.getD d2 true = false) hi (Region.noSelect_spec hs) hQ (SL2.iff h1 h2) (fun _ _ hD hS => hS.2 hD)
    (fun L j hD hir hj hji => by
      have hne : j ≠ d2 := fun e => depOn_spec hdep L (mem_ready.1 hir).1 (e ▸ hj)
      rw [getD_set_ne true hne]; exact hD) fuel listed a w (Region.free_spec hi hf) (by simpa using hr) (.inl ⟨hw, hy⟩) hun hS (h ((SL2.iff h1 h2 _ _).2 hS))
/-- the one operation that may come up now. -/
theorem L_step (i : Nat) {o : Oper} {fuel : Nat} {listed : Array Bool} {a : Act} {w : World} (hr : Region.ready md ops listed = [i]) (ho : ops[i]? = some o)
    (h : ∀ K' : Act → World → Prop, Shut (∀ a w, SL2 d1 C1 d2 C2 (listed.setIfInBounds i true) w → (SL2 d1 C1 d2 C2 (listed.setIfInBounds i true) w → wpAnyL P md ops Q (SL2 d1 C1 d2 C2) fuel (listed.setIfInBounds i true) a w) → K' a w) → if Region.wanted o (yielded ops a.tmps) = true then Oper.wp P o a w K' Q else K' (a.put o.dst undef) w) :
    wpAnyL P md ops Q (SL2 d1 C1 d2 C2) (fuel + 1) listed a w := by
  refine ⟨fun h0 => absurd (hr.symm.trans h0) (by simp), fun j hj => ?_⟩
  rw [hr, List.mem_singleton] at hj
  subst hj
  exact wpOp_step ho (fun K' hK => h K' (fun a w hS hW => hK a w ⟨hS, hW hS⟩))
theorem L_done {fuel : Nat} {listed : Array Bool} {a : Act} {w : World} (hr : Region.ready md ops listed = []) (h : Q .normal a w) : wpAnyL P md ops Q (SL2 d1 C1 d2 C2) fuel listed a w := by
  cases fuel with
  | zero => exact ⟨hr, h⟩
  | succ n => exact ⟨fun _ => h, by rw [hr]; simp⟩
theorem L_region {id : Nat} {a : Act} {w : World} (hm : P.follows .mixedOrders = true) (hS : SL2 d1 C1 d2 C2 (Array.replicate ops.size false) w.drew)
    (h : SL2 d1 C1 d2 C2 (Array.replicate ops.size false) w.drew → wpAnyL P .any ops Q (SL2 d1 C1 d2 C2) ops.size (Array.replicate ops.size false) a w.drew) : (Code.region id ops true).wp P Q a w :=
  wp_region_any hm (wpAny_of_L _ _ _ _ (h hS))
end
theorem get0 {o : Oper} {l : List Oper} : (o :: l).toArray[0]? = some o := rfl
theorem getS {a o : Oper} {l : List Oper} {n : Nat} (h : l.toArray[n]? = some o) : (a :: l).toArray[n + 1]? = some o := by simpa using h
theorem SL2.mk {d1 d2 : Nat} {C1 C2 : World → Prop} {L : Array Bool} {w : World} (h1 : C1 w) (h2 : C2 w) : SL2 d1 C1 d2 C2 L w := ⟨fun _ => h1, fun _ => h2⟩
theorem SL2.mk2 {d1 d2 : Nat} {C1 C2 : World → Prop} {L : Array Bool} {w : World} (h1 : L.getD d1 true = true) (h2 : C2 w) : SL2 d1 C1 d2 C2 L w := ⟨fun h => absurd (h1.symm.trans h) (by decide), fun _ => h2⟩
theorem SL2.mk0 {d1 d2 : Nat} {C1 C2 : World → Prop} {L : Array Bool} {w : World} (h1 : L.getD d1 true = true) (h2 : L.getD d2 true = true) : SL2 d1 C1 d2 C2 L w := ⟨fun h => absurd (h1.symm.trans h) (by decide), fun h => absurd (h2.symm.trans h) (by decide)⟩
theorem Held.keep {w w' : World} {base g : Nat} {s : St} (h : Held w base g s) (hm : ∀ (k : Nat) (o : Obj), w.heap[k]? = some o → ours o → w'.heap[k]? = some o) : Held w' base g s := by
  obtain ⟨cs, h, e⟩ := h
  exact ⟨cs, h.move hm, e⟩
theorem RHeld.base_le {w : World} {base g gp gl cp cl : Nat} {s : St} (h : RHeld w base g gp gl cp cl s) : base ≤ w.heap.size := by
  obtain ⟨vs, h⟩ := h
  have := (Array.getElem?_eq_some_iff.1 h.obj).1
  have := h.ge
  omega
theorem step_calls {P : Program} {ops : Array Oper} {o : Oper} {a : Act} {w : World} {K : Act → World → Prop} {Q : Exit → Act → World → Prop} {E : Prop} (hg : o.guard = none) (f : FuncId) (args : Array Value) (hrun : (execOp a.eval o).run P w = .ok (.enter f args) w)
    {v : Value} {R : World → Prop} (hc : Calls P f args w fun e w' => e = .returned v ∧ R w') (hK : ∀ w', R w' → K (a.put o.dst v) w') :
    if Region.wanted o (yielded ops a.tmps) = true then Oper.wp P o a w K Q else E := by
  have hw : Region.wanted o (yielded ops a.tmps) = true := by simp [Region.wanted, hg]
  rw [if_pos hw]
  unfold Oper.wp
  rw [hrun, Oper.upon_enter]
  refine hc.mono fun e w'' hh => ?_
  obtain ⟨rfl, h⟩ := hh
  exact hK _ h
theorem now_q (w : World) (base g : Nat) (s : St) (n : Nat) (h : Held w base g s) (hpos : 0 < s.pins.length) (v : Int) (hV : s.now = v) :
    Calls Try.prog 16 #[.pointer (some ⟨g, 0, none⟩)] (w.drewN n) fun e w' => e = .returned (.int .i64 v) ∧ ∃ m, w' = w.drewN m := by
  subst hV
  refine Calls.quiet_of ((now_ (w.drewN n) base g s (h.drawn ⟨⟨n, rfl⟩⟩) hpos).mono fun e w' ⟨he, ⟨m, hm⟩⟩ => ⟨he, m, ?_⟩)
  exact hm
theorem parts_both (r : Int) : ∃ p1 p2 p3 ok, PEpochRuns.word_Parts.f 2 r = some (p1, p2, p3, ok) ∧ PEpochPlays.tendrilref1_Parts.f 2 r = some (p1, p2, p3, ok) :=
  ⟨_, _, _, _, word_Parts_f 1 r, refParts_f 0 r⟩
/-- both epochs, the program's and the reference's. -/
structure Pl (w0 w : World) (rb g2 gp gl n : Nat) (s t : St) : Prop where
  held : Held w w0.heap.size w0.heap.size s
  rheld : RHeld w rb g2 gp gl n n t
  below : Below w0.heap.size w0 w
  rb_ge : w0.heap.size ≤ rb
theorem Held.tf2 {w w' : World} {base g rb : Nat} {s : St} (h : Held w base g s) (ht : TF2 rb w w') : Held w' base g s := by
  obtain ⟨cs, h, e⟩ := h
  exact ⟨cs, h.move fun k o ho hours => ht.others k o ho fun ⟨c2, t2, f2, e2, h2⟩ => by
    obtain ⟨c1, t1, f1, e1, h1⟩ := hours
    subst e1; injection e2 with _ e2 _; subst e2
    rcases h1 with rfl | rfl | rfl <;> revert h2 <;> decide, e⟩
theorem RHeld.tf {w w' : World} {rb g gp gl cp cl base : Nat} {s : St} (h : RHeld w rb g gp gl cp cl s) (ht : TF base w w') : RHeld w' rb g gp gl cp cl s :=
  h.keep fun k o ho hours => ht.others k o ho fun ⟨c2, t2, f2, e2, h2⟩ => by
    obtain ⟨c1, t1, f1, e1, h1⟩ := hours
    subst e1; injection e2 with _ e2 _; subst e2
    rcases h1 with rfl | rfl | rfl | rfl <;> revert h2 <;> decide
theorem Pl.e {w0 w w' : World} {rb g2 gp gl n : Nat} {s s' t : St} (h : Pl w0 w rb g2 gp gl n s t) (hh : Held w' w0.heap.size w0.heap.size s') (ht : TF w0.heap.size w w') : Pl w0 w' rb g2 gp gl n s' t :=
  ⟨hh, h.rheld.tf ht, h.below.trans ht.below, h.rb_ge⟩
theorem Pl.r {w0 w w' : World} {rb g2 gp gl n : Nat} {s t t' : St} (h : Pl w0 w rb g2 gp gl n s t) (hh : RHeld w' rb g2 gp gl n n t') (ht : TF2 rb w w') : Pl w0 w' rb g2 gp gl n s t' :=
  ⟨h.held.tf2 ht, hh, h.below.trans (ht.below.mono h.rb_ge), h.rb_ge⟩
theorem Pl.all {w0 w w' : World} {rb g2 gp gl n : Nat} {s t : St} (h : Pl w0 w rb g2 gp gl n s t) (hm : ∀ (k : Nat) (o : Obj), w.heap[k]? = some o → w'.heap[k]? = some o) (hb : Below w0.heap.size w w') : Pl w0 w' rb g2 gp gl n s t :=
  ⟨h.held.tf2 (rb := w0.heap.size) ⟨hb, fun k o ho _ => hm k o ho⟩, h.rheld.tf (base := w0.heap.size) ⟨hb, fun k o ho _ => hm k o ho⟩, h.below.trans hb, h.rb_ge⟩
theorem Pl.drew {w0 w : World} {rb g2 gp gl n : Nat} {s t : St} (h : Pl w0 w rb g2 gp gl n s t) : Pl w0 w.drew rb g2 gp gl n s t := h.all (fun _ _ h => h) (below_drew1 (Below.refl _ _))
theorem Pl.drewN {w0 w : World} {rb g2 gp gl n : Nat} {s t : St} (h : Pl w0 w rb g2 gp gl n s t) (m : Nat) : Pl w0 (w.drewN m) rb g2 gp gl n s t := h.all (fun _ _ h => h) (pw_below_drewN (Below.refl _ _) m)
theorem Pl.alloc {w0 w : World} {rb g2 gp gl n : Nat} {s t : St} (h : Pl w0 w rb g2 gp gl n s t) (o : Obj) : Pl w0 (w.alloc o) rb g2 gp gl n s t :=
  h.all (fun k o' hk => (heap_alloc_old w o (Array.getElem?_eq_some_iff.1 hk).1).trans hk) ((Below.refl _ _).alloc h.held.base_le o)
/-- the law's own copy of a call. -/
def Bx (w : World) (b : Nat) (q : Int × Int × Int) : Prop := w.heap[b]? = some (.cells #[.int .i64 q.1, .int .i64 q.2.1, .int .i64 q.2.2] 37 (0, 0))
theorem Bx.cells {w : World} {b : Nat} {q : Int × Int × Int} (h : Bx w b q) : w.cell? ⟨b, 0, none⟩ = some (.int .i64 q.1) ∧ w.cell? ⟨b, 1, none⟩ = some (.int .i64 q.2.1) ∧ w.cell? ⟨b, 2, none⟩ = some (.int .i64 q.2.2) := cell3 h
theorem Bx.tf {w w' : World} {b base : Nat} {q : Int × Int × Int} (h : Bx w b q) (ht : TF base w w') : Bx w' b q := ht.others _ _ h (not_ours_ (by decide))
  where not_ours_ {cs : Array Value} {t : TypeId} {fr : Nat × Nat} (h : ¬ (t = 53 ∨ t = 56 ∨ t = 62)) : ¬ ours (.cells cs t fr) := fun ⟨_, _, _, he, h3⟩ => by injection he with _ e _; subst e; exact h h3
theorem Bx.tf2 {w w' : World} {b base : Nat} {q : Int × Int × Int} (h : Bx w b q) (ht : TF2 base w w') : Bx w' b q := ht.others _ _ h (not_ours2 (by decide))
/-- what the law knows of the state. -/
structure Sok (s : St) (n i : Nat) : Prop where
  pl : s.pins.length = n
  ll : s.lim.length = n
  n1 : 1 ≤ n
  n8 : n ≤ 8
  r4 : 4 ≤ s.room
  r64 : s.room ≤ 64
  nl : 0 ≤ s.now
  nh : s.now ≤ (i : Int)
  ih : i ≤ 80
  at_ : ∀ c : Int, ∀ p ∈ s.wait c, 0 ≤ p.2 ∧ p.2 ≤ s.now
  wl : ∀ c : Int, (s.wait c).length ≤ 64
theorem Sok.next {s : St} {n i : Nat} (h : Sok s n i) (hi : i < 80) : Sok s n (i + 1) := ⟨h.pl, h.ll, h.n1, h.n8, h.r4, h.r64, h.nl, by have := h.nh; omega, by omega, h.at_, h.wl⟩
theorem Sok.setPin {s : St} {n i : Nat} (h : Sok s n i) (hi : i < 80) (j : Nat) (v : Int) : Sok { s with pins := s.pins.set j v } n (i + 1) :=
  ⟨by rw [List.length_set]; exact h.pl, h.ll, h.n1, h.n8, h.r4, h.r64, h.nl, by have := h.nh; show s.now ≤ _; omega, by omega, h.at_, h.wl⟩
theorem Sok.pin {s : St} {n i : Nat} (h : Sok s n i) (hi : i < 80) (c v : Int) : Sok (s.pinS c v) n (i + 1) := by
  unfold St.pinS; split
  · exact h.setPin hi _ _
  · exact h.next hi
theorem Sok.unpin {s : St} {n i : Nat} (h : Sok s n i) (hi : i < 80) (c : Int) : Sok (s.unpinS c) n (i + 1) := by
  unfold St.unpinS; split
  · exact h.setPin hi _ _
  · exact h.next hi
theorem Sok.adv {s : St} {n i : Nat} (h : Sok s n i) (hi : i < 80) (v : Int) : Sok (s.advS v) n (i + 1) := by
  unfold St.advS; split
  · exact ⟨h.pl, h.ll, h.n1, h.n8, h.r4, h.r64, by show 0 ≤ s.now + 1; have := h.nl; omega, by show s.now + 1 ≤ _; have := h.nh; omega, by omega, fun c p hp => by have := h.at_ c p hp; show _ ∧ p.2 ≤ s.now + 1; omega, h.wl⟩
  · exact h.next hi
theorem Sok.setLim {s : St} {n i : Nat} (h : Sok s n i) (hi : i < 80) (j : Nat) (l : List (Int × Int)) (hl : ∀ p ∈ l, 0 ≤ p.2 ∧ p.2 ≤ s.now) (hl2 : l.length ≤ 64) : Sok { s with lim := s.lim.set j l } n (i + 1) := by
  have hw : ∀ c : Int, ({ s with lim := s.lim.set j l } : St).wait c = l ∨ ({ s with lim := s.lim.set j l } : St).wait c = s.wait c := fun c => by
    unfold St.wait
    show ((s.lim.set j l)[c.toNat]?).getD [] = _ ∨ ((s.lim.set j l)[c.toNat]?).getD [] = _
    rw [List.getElem?_set]
    by_cases e : j = c.toNat
    · rw [if_pos e]
      by_cases h2 : j < s.lim.length
      · rw [if_pos h2]; exact .inl rfl
      · rw [if_neg h2, ← e, List.getElem?_eq_none (by omega)]; exact .inr rfl
    · rw [if_neg e]; exact .inr rfl
  refine ⟨h.pl, by rw [List.length_set]; exact h.ll, h.n1, h.n8, h.r4, h.r64, h.nl, by have := h.nh; show s.now ≤ _; omega, by omega, fun c p hp => ?_, fun c => ?_⟩
  · rcases hw c with e | e
    · rw [e] at hp; exact hl p hp
    · rw [e] at hp; exact h.at_ c p hp
  · rcases hw c with e | e
    · rw [e]; exact hl2
    · rw [e]; exact h.wl c
theorem Sok.ret {s : St} {n i : Nat} (h : Sok s n i) (hi : i < 80) (c v : Int) (ok : Bool) : Sok (s.retS c v ok) n (i + 1) := by
  unfold St.retS; split
  · exact h.next hi
  · split
    · exact h.next hi
    · next hf =>
      refine h.setLim hi _ _ (fun p hp => ?_) (by rw [List.length_append, List.length_singleton]; have := h.r64; omega)
      rcases List.mem_append.1 hp with hp | hp
      · exact h.at_ c p hp
      · rw [List.mem_singleton] at hp; subst hp; exact ⟨h.nl, Int.le_refl _⟩
theorem Sok.col {s : St} {n i : Nat} (h : Sok s n i) (hi : i < 80) (c : Int) : Sok (s.colS c) n (i + 1) := by
  unfold St.colS; split
  · split
    · exact h.next hi
    · next l ls hl =>
      split
      · exact h.next hi
      · have ha := h.at_ c
        have hw := h.wl c
        rw [hl] at ha hw
        exact h.setLim hi _ _ (fun p hp => ha p (List.mem_cons_of_mem _ hp)) (by simp only [List.length_cons] at hw; omega)
  · exact h.next hi
theorem rcol_c (w : World) (base g gp gl cp cl : Nat) (s : St) (c : Int) (h : RHeld w base g gp gl cp cl s) (hat : ∀ p ∈ s.wait c, 0 ≤ p.2 ∧ p.2 ≤ 1073741824) :
    Calls Try.prog 22 #[.pointer (some ⟨g, 0, none⟩), .int .i64 c] w fun e w' => e = .returned (.tuple #[.int .i64 (s.colV c).1, .bool (s.colV c).2]) ∧ RHeld w' base g gp gl cp cl (s.colS c) ∧ TF2 base w w' := by
  by_cases hh : s.has c
  · have eV : s.colV c = _ := if_pos hh
    have eS : s.colS c = _ := if_pos hh
    rw [eV, eS]
    clear eV eS
    cases hl : s.wait c with
    | nil => exact rcol_nil w base g gp gl cp cl s c h hh hl
    | cons l ls =>
      have hb := hat l (by rw [hl]; exact List.mem_cons_self)
      by_cases hy : s.now - l.2 < 2
      · show Calls _ _ _ _ fun e w' => e = .returned (.tuple #[.int .i64 (if s.now - l.2 < 2 then (0, false) else (l.1, true)).1, .bool (if s.now - l.2 < 2 then (0, false) else (l.1, true)).2]) ∧ RHeld w' base g gp gl cp cl (if s.now - l.2 < 2 then s else { s with lim := s.lim.set c.toNat ls }) ∧ TF2 base w w'
        simp only [if_pos hy]
        exact rcol_young w base g gp gl cp cl s c h hh l ls hl hb.1 hb.2 (by omega)
      · show Calls _ _ _ _ fun e w' => e = .returned (.tuple #[.int .i64 (if s.now - l.2 < 2 then (0, false) else (l.1, true)).1, .bool (if s.now - l.2 < 2 then (0, false) else (l.1, true)).2]) ∧ RHeld w' base g gp gl cp cl (if s.now - l.2 < 2 then s else { s with lim := s.lim.set c.toNat ls }) ∧ TF2 base w w'
        simp only [if_neg hy]
        exact rcol_old w base g gp gl cp cl s c h hh l ls hl hb.1 hb.2 (by omega)
  · rw [show s.colV c = (0, false) from if_neg hh, show s.colS c = s from if_neg hh]
    exact rcol_no w base g gp gl cp cl s c h hh
theorem new_bad (w : World) (n room : Int) (h : ¬ (1 ≤ n ∧ n ≤ 8 ∧ 4 ≤ room ∧ room ≤ 64)) :
    Calls Try.prog 8 #[.int .i64 n, .int .i64 room] w fun e w' => e = .returned (.tuple #[.pointer none, .int .i64 1]) ∧ w = w' := by
  by_cases h1 : n < 1
  · have d1 : decide (n < 1) = true := decide_eq_true h1
    go_enter Try.func8, Try.ntmps8
    go_wp2
    go_ret2
    exact ⟨rfl, rfl⟩
  · have d1 : decide (n < 1) = false := decide_eq_false h1
    by_cases h2 : 8 < n
    · have d2 : decide (8 < n) = true := decide_eq_true h2
      go_enter Try.func8, Try.ntmps8
      go_wp2
      go_ret2
      exact ⟨rfl, rfl⟩
    · have d2 : decide (8 < n) = false := decide_eq_false h2
      by_cases h3 : room < 4
      · have d3 : decide (room < 4) = true := decide_eq_true h3
        go_enter Try.func8, Try.ntmps8
        go_wp2
        go_ret2
        exact ⟨rfl, rfl⟩
      · have d3 : decide (room < 4) = false := decide_eq_false h3
        have d4 : decide (64 < room) = true := decide_eq_true (by omega)
        go_enter Try.func8, Try.ntmps8
        go_wp2
        go_ret2
        exact ⟨rfl, rfl⟩
theorem rnew_bad (w : World) (n room : Int) (h : ¬ (1 ≤ n ∧ n ≤ 8 ∧ 4 ≤ room ∧ room ≤ 64)) :
    Calls Try.prog 17 #[.int .i64 n, .int .i64 room] w fun e w' => e = .returned (.tuple #[.pointer none, .int .i64 1]) ∧ w = w' := by
  by_cases h1 : n < 1
  · have d1 : decide (n < 1) = true := decide_eq_true h1
    go_enter Try.func17, Try.ntmps17
    go_wp2
    go_ret2
    exact ⟨rfl, rfl⟩
  · have d1 : decide (n < 1) = false := decide_eq_false h1
    by_cases h2 : 8 < n
    · have d2 : decide (8 < n) = true := decide_eq_true h2
      go_enter Try.func17, Try.ntmps17
      go_wp2
      go_ret2
      exact ⟨rfl, rfl⟩
    · have d2 : decide (8 < n) = false := decide_eq_false h2
      by_cases h3 : room < 4
      · have d3 : decide (room < 4) = true := decide_eq_true h3
        go_enter Try.func17, Try.ntmps17
        go_wp2
        go_ret2
        exact ⟨rfl, rfl⟩
      · have d3 : decide (room < 4) = false := decide_eq_false h3
        have d4 : decide (64 < room) = true := decide_eq_true (by omega)
        go_enter Try.func17, Try.ntmps17
        go_wp2
        go_ret2
        exact ⟨rfl, rfl⟩
end Go.Proofs.Ytfiokeahehkelaa.Ep
namespace Go.Proofs.Ytfiokeahehkelaa.epochPlays
open Go.ChangeShapes Go.WideShapes Go.ChangeAt Go.RowKit Go.Deep
open Go.ChangeMaps (open_string shut_string)
open Go Go.Proofs.YtfiokeahehkelaaW.PrintWords Go.Proofs.YtfiokeahehkelaaW.PrintLast Go.Proofs.YtfiokeahehkelaaW.PrintMore Go.Proofs.Ytfiokeahehkelaa.PEpochRuns Go.Proofs.Ytfiokeahehkelaa.Ep
set_option linter.unusedVariables false
set_option linter.unusedSimpArgs false

set_option maxHeartbeats 40000000 in
set_option maxRecDepth 100000 in
theorem walk (a0 a1 : Int) (a2 : Option Addr) (len2 cap2 : Nat) (z : List (Int × Int × Int)) (w : World) (_h0 : (Lit.int .i64 a0).wf = true) (_h1 : (Lit.int .i64 a1).wf = true) (hz : Asks w a2 len2 z) :
    Calls Try.prog 5 #[.int .i64 a0, .int .i64 a1, .slice a2 len2 cap2] w fun e w' => e = .returned (.bool true) ∧ Below w.heap.size w w' := by
  have HZ := Aside0.mk hz
  clear hz
  by_cases hok : 1 ≤ a0 ∧ a0 ≤ 8 ∧ 4 ≤ a1 ∧ a1 ≤ 64
  · obtain ⟨n, hn⟩ : ∃ n : Nat, a0 = (n : Int) := ⟨a0.toNat, by omega⟩
    subst hn
    obtain ⟨h1, h8, h4, h64⟩ := hok
    go_enter Try.func5, Try.ntmps5
    go_wp2_with (first
      | (go_at_call 8; (with_reducible refine (new_c _ (n : Int) a1 h1 h8 h4 h64 _ rfl).mono ?_); rintro e w1 ⟨rfl, H1, T1⟩)
      | (go_at_call 17; (with_reducible refine (rnew_ _ n a1 (by omega) (by omega) h4 h64).mono ?_); rintro e w2 ⟨g2, gp, gl, rfl, H2, T2⟩))
    obtain ⟨s0, hs0⟩ : ∃ s0 : St, s0 = ⟨0, a1, List.replicate n (-1), List.replicate n []⟩ := ⟨_, rfl⟩
    rw [show ((n : Int)).toNat = n from rfl, ← hs0] at H1
    rw [← hs0] at H2
    obtain ⟨rb, hrb⟩ : ∃ rb, w1.heap.size = rb := ⟨_, rfl⟩
    rw [hrb] at H2 T2
    have HP : Aside0 (Pl w w2 rb g2 gp gl n s0 s0) := by
      have hb := H1.base_le
      rw [hrb] at hb
      have e := T2
      refine ⟨⟨H1.keep fun k o ho _ => ?_, H2, T1.trans (T2.mono hb), hb⟩⟩
      exact (T2.block k (by rw [← hrb]; exact (Array.getElem?_eq_some_iff.1 ho).1)).trans ho
    have HS : Aside0 (Sok s0 n 0) := ⟨by rw [hs0]; exact ⟨by simp, by simp, by omega, by omega, h4, h64, Int.le_refl _, Int.le_refl _, by omega, fun c p hp => by
        have : ({ now := 0, room := a1, pins := List.replicate n (-1), lim := List.replicate n [] } : St).wait c = [] := by
          unfold St.wait; show ((List.replicate n [])[c.toNat]?).getD [] = _; rw [List.getElem?_replicate]; split <;> rfl
        rw [this] at hp; simp at hp, fun c => by
        have : ({ now := 0, room := a1, pins := List.replicate n (-1), lim := List.replicate n [] } : St).wait c = [] := by
          unfold St.wait; show ((List.replicate n [])[c.toNat]?).getD [] = _; rw [List.getElem?_replicate]; split <;> rfl
        rw [this]; decide⟩⟩
    clear H1 T1 H2 T2 hrb hs0 h1 h8 h4 h64
    go_loopg [11] 81 (fun kq v11 w' => ∃ (s : St) (i : Nat), v11 = .int .i64 (i : Int) ∧ Aside0 (i + kq = 81) ∧ Aside0 (Sok s n i) ∧ Aside0 (Pl w w' rb g2 gp gl n s s))
    case atStart => exact ⟨s0, 0, rfl, ⟨rfl⟩, HS, HP⟩
    case round =>
      clear HP HS
      clear s0
      obtain ⟨s, i, rfl, HK, HS, HP⟩ := hrel
      by_cases hil : i < len2
      · have p1 : decide (i < len2) = true := decide_eq_true hil
        by_cases hi80 : i < 80
        · have p2 : decide ((i : Int) < 80) = true := decide_eq_true (by omega)
          have hq : z[i]? = some (z[i]'(by have := HZ.out.eq; omega)) := List.getElem?_eq_getElem _
          generalize z[i]'_ = q at hq
          obtain ⟨x, rfl, hxl, hc0, hc1, hc2⟩ := (HZ.out.below HP.out.below).cell i q hq
          have hi0 : (0 : Int) ≤ (i : Int) := by omega
          have hi1 : (i : Int) < (len2 : Int) := by omega
          have hlm : len2 ≤ 9223372036854775807 := HZ.out.max
          have hpos : 0 < s.pins.length := by have := HS.out.pl; have := HS.out.n1; omega
          have hp8 : s.pins.length ≤ 8 := by have := HS.out.pl; have := HS.out.n8; omega
          clear hq
          by_cases hk1 : q.1 = 1
          · as_aux_lemma =>
              have k1 : (q.1 == 1) = true := beq_iff_eq.mpr hk1
              have HKK := Aside0.mk hk1
              clear hk1
              go_wp2
              have HXn : Aside0 (Bx ((wr.alloc (.cells #[.int .i64 q.1, .int .i64 q.2.1, .int .i64 q.2.2] 37)).drew) wr.heap.size q) := ⟨heap_alloc_new wr _⟩
              have HPa := Aside0.mk (HP.out.alloc (.cells #[.int .i64 q.1, .int .i64 q.2.1, .int .i64 q.2.2] 37))
              go_region_held3 (fun w' => w'.cell? ⟨wr.heap.size, 1, none⟩ = some (.int .i64 q.2.1) ∧ w'.cell? ⟨wr.heap.size, 2, none⟩ = some (.int .i64 q.2.2)) (first | exact rcS | go_keep)
                (first
                  | (go_at_call 12; (with_reducible refine (pin_ _ _ _ s q.2.1 q.2.2 HPa.out.drew.held hpos hp8).mono ?_); rintro e W2 ⟨rfl, HHx, HTx⟩; have HPb_ := HPa.out.drew.e HHx HTx; have HX_ := HXn.out.tf HTx; clear HHx HTx HXn; have HPb := Aside0.mk HPb_; have HXn := Aside0.mk HX_; clear HPb_ HX_; have HX := HXn.out; have rcS := And.intro HX.cells.2.1 HX.cells.2.2; clear HX)
                  | (go_at_call 18; (with_reducible refine (rpin_ _ _ _ _ _ _ _ s q.2.1 q.2.2 HPb.out.rheld).mono ?_); rintro e W3 ⟨rfl, HHx, HTx⟩; have HPc_ := HPb.out.r HHx HTx; have HX_ := HXn.out.tf2 HTx; clear HHx HTx HXn; have HPc := Aside0.mk HPc_; have HXn := Aside0.mk HX_; clear HPc_ HX_; have HX := HXn.out; have rcS := And.intro HX.cells.2.1 HX.cells.2.2; clear HX))
              all_goals
                go_wp2
                obtain ⟨s1, hs1⟩ : ∃ s1, s.pinS q.2.1 q.2.2 = s1 := ⟨_, rfl⟩
                have HS1 := Aside0.mk (HS.out.pin hi80 q.2.1 q.2.2)
                have HP1 := HPc
                rw [hs1] at HS1 HP1
                clear hs1
                clear HS
                obtain ⟨hll, r0, r1, r2, r3, -⟩ := HP1.out.rheld.at_
                have hpl1 := HS1.out.pl
                rw [hpl1] at r2 r3
                have HPL1 := Aside0.mk hpl1
                have hp0 : 0 < s1.pins.length := by have := HS1.out.n1; omega
                have hp8 : s1.pins.length ≤ 8 := by have := HS1.out.n8; omega
                clear hpl1 hll
                obtain ⟨now1, hnow1⟩ : ∃ now1, s1.now = now1 := ⟨_, rfl⟩
                rw [hnow1] at r0
                have HNOW1 := Aside0.mk hnow1
                clear hnow1
                go_quiet ((go_at_call 16; with_reducible exact now_q _ _ _ s1 _ HP1.out.held hp0 now1 HNOW1.out))
                go_wp2
                generalize hWd : World.drewN _ _ = Wd
                have HPd : Aside0 (Pl w Wd rb g2 gp gl n s1 s1) := ⟨by rw [← hWd]; exact HP1.out.drewN _⟩
                clear hWd r0 r1 r2 r3 HP1
                obtain ⟨K, rfl⟩ : ∃ K, K = gk := ⟨_, rfl⟩
                go_loopg [18] (n + 3) (fun kq v18 w' => ∃ (c : Int), v18 = .int .i64 c ∧ Aside0 (-1 ≤ c ∧ c ≤ (n : Int) + 1 ∧ c + (kq : Int) = (n : Int) + 2) ∧ Aside0 (Pl w w' rb g2 gp gl n s1 s1))
                case atStart => exact ⟨-1, rfl, ⟨by omega, by omega, by omega⟩, HPd⟩
                case round =>
                  clear HPd
                  obtain ⟨c, rfl, HKc, HP1⟩ := hrel
                  obtain ⟨hll, r0, r1, r2, r3, hcell⟩ := HP1.out.rheld.at_
                  rw [HPL1.out] at r2 r3
                  have hc1 : -1 ≤ c := HKc.out.1
                  have hc9 : c ≤ (n : Int) + 1 := HKc.out.2.1
                  have hn8 : (n : Int) ≤ 8 := by have := HS1.out.n8; omega
                  by_cases hcn : c ≤ (n : Int)
                  · have p3 : decide (c ≤ (n : Int)) = true := decide_eq_true hcn
                    by_cases hh : s1.has c
                    · have h0 : (0 : Int) ≤ c := hh.1
                      have h1 : c < (n : Int) := by have := hh.2; have := HPL1.out; omega
                      obtain ⟨hcp, -, A, cp2, hcq, -⟩ := hcell c.toNat (by have := HPL1.out; omega)
                      obtain ⟨pv, hpv⟩ : ∃ pv, s1.pins[c.toNat]?.getD (-1) = pv := ⟨_, rfl⟩
                      obtain ⟨lv, hlv⟩ : ∃ lv, (s1.lim[c.toNat]?.getD []).length = lv := ⟨_, rfl⟩
                      rw [hpv] at hcp
                      rw [hlv] at hcq
                      have HPV : Aside0 (s1.pinOf c = pv ∧ s1.limbo c = (lv : Int)) := ⟨by rw [St.pinOf_in s1 c h0]; exact hpv, by rw [St.limbo_in s1 c h0, hlv]⟩
                      have HHH := Aside0.mk (decide_eq_true hh)
                      clear hpv hlv hcell hll hh
                      go_wp2_with (go_at_call 23; (with_reducible refine (client_ _ _ _ _ _ _ _ s1 c HP1.out.rheld true HHH.out).mono ?_); rintro e W' ⟨rfl, rfl⟩)
                      go_quiet (fail)
                      generalize hWe : World.drewN _ _ = We
                      have HPe : Aside0 (Pl w We rb g2 gp gl n s1 s1) := ⟨by rw [← hWe]; exact HP1.out.drewN _⟩
                      clear hWe r0 r1 r2 r3 hcp hcq HP1
                      go_wp2_with (first
                        | (go_at_call 13; (with_reducible refine (pinof_c _ _ _ s1 c HPe.out.held hp0 hp8 pv HPV.out.1).mono ?_); rintro e W1 ⟨rfl, HHa, HTa⟩)
                        | (go_at_call 24; (with_reducible refine (limbo_c _ _ _ s1 c HHa hp0 hp8 (lv : Int) HPV.out.2).mono ?_); rintro e W2 ⟨rfl, HHb, HTb⟩))
                      go_roundg (gk - 1)
                      case measure => have := HKc.out; omega
                      case rel => exact ⟨c + 1, by go_num, ⟨by have := HKc.out; omega, by omega, by have := HKc.out; omega⟩, ⟨(HPe.out.e HHa HTa).e HHb HTb⟩⟩
                    · have HPV : Aside0 (s1.pinOf c = -1 ∧ s1.limbo c = 0) := by
                        have hpl := HPL1.out
                        have hno : c < 0 ∨ (n : Int) ≤ c := by unfold St.has at hh; omega
                        exact ⟨St.pinOf_out s1 c (by omega), St.limbo_out s1 c (by omega)⟩
                      have HHH := Aside0.mk (decide_eq_false hh)
                      clear hcell hll hh
                      go_wp2_with (first
                        | (go_at_call 23; (with_reducible refine (client_ _ _ _ _ _ _ _ s1 c HP1.out.rheld false HHH.out).mono ?_); rintro e W' ⟨rfl, rfl⟩)
                        | (go_at_call 13; (with_reducible refine (pinof_c _ _ _ s1 c HP1.out.held hp0 hp8 (-1) HPV.out.1).mono ?_); rintro e W1 ⟨rfl, HHa, HTa⟩)
                        | (go_at_call 24; (with_reducible refine (limbo_c _ _ _ s1 c HHa hp0 hp8 0 HPV.out.2).mono ?_); rintro e W2 ⟨rfl, HHb, HTb⟩))
                      go_roundg (gk - 1)
                      case measure => have := HKc.out; omega
                      case rel => exact ⟨c + 1, by go_num, ⟨by have := HKc.out; omega, by omega, by have := HKc.out; omega⟩, ⟨(HP1.out.e HHa HTa).e HHb HTb⟩⟩
                  · have p3 : decide (c ≤ (n : Int)) = false := decide_eq_false hcn
                    clear hcell hll
                    go_wp2
                    go_roundg (K - 1)
                    case measure => have := HK.out; omega
                    case rel => exact ⟨s1, i + 1, by go_num, ⟨by have := HK.out; omega⟩, HS1, HP1⟩
          · skip
            by_cases hk2 : q.1 = 2
            · as_aux_lemma =>
                have k1 : (q.1 == 1) = false := beq_eq_false_iff_ne.mpr hk1
                have k2 : (q.1 == 2) = true := beq_iff_eq.mpr hk2
                have HKK := Aside0.mk hk2
                clear hk2
                clear hk1
                go_wp2
                have HXn : Aside0 (Bx ((wr.alloc (.cells #[.int .i64 q.1, .int .i64 q.2.1, .int .i64 q.2.2] 37)).drew) wr.heap.size q) := ⟨heap_alloc_new wr _⟩
                have HPa := Aside0.mk (HP.out.alloc (.cells #[.int .i64 q.1, .int .i64 q.2.1, .int .i64 q.2.2] 37))
                go_region_held3 (fun w' => w'.cell? ⟨wr.heap.size, 1, none⟩ = some (.int .i64 q.2.1)) (first | exact rcS | go_keep)
                  (first
                    | (go_at_call 14; (with_reducible refine (unpin_ _ _ _ s q.2.1 HPa.out.drew.held hpos hp8).mono ?_); rintro e W2 ⟨rfl, HHx, HTx⟩; have HPb_ := HPa.out.drew.e HHx HTx; have HX_ := HXn.out.tf HTx; clear HHx HTx HXn; have HPb := Aside0.mk HPb_; have HXn := Aside0.mk HX_; clear HPb_ HX_; have HX := HXn.out; have rcS := HX.cells.2.1; clear HX)
                    | (go_at_call 19; (with_reducible refine (runpin_ _ _ _ _ _ _ _ s q.2.1 HPb.out.rheld).mono ?_); rintro e W3 ⟨rfl, HHx, HTx⟩; have HPc_ := HPb.out.r HHx HTx; have HX_ := HXn.out.tf2 HTx; clear HHx HTx HXn; have HPc := Aside0.mk HPc_; have HXn := Aside0.mk HX_; clear HPc_ HX_; have HX := HXn.out; have rcS := HX.cells.2.1; clear HX))
                all_goals
                  go_wp2
                  obtain ⟨s1, hs1⟩ : ∃ s1, s.unpinS q.2.1 = s1 := ⟨_, rfl⟩
                  have HS1 := Aside0.mk (HS.out.unpin hi80 q.2.1)
                  have HP1 := HPc
                  rw [hs1] at HS1 HP1
                  clear hs1
                  clear HS
                  obtain ⟨hll, r0, r1, r2, r3, -⟩ := HP1.out.rheld.at_
                  have hpl1 := HS1.out.pl
                  rw [hpl1] at r2 r3
                  have HPL1 := Aside0.mk hpl1
                  have hp0 : 0 < s1.pins.length := by have := HS1.out.n1; omega
                  have hp8 : s1.pins.length ≤ 8 := by have := HS1.out.n8; omega
                  clear hpl1 hll
                  obtain ⟨now1, hnow1⟩ : ∃ now1, s1.now = now1 := ⟨_, rfl⟩
                  rw [hnow1] at r0
                  have HNOW1 := Aside0.mk hnow1
                  clear hnow1
                  go_quiet ((go_at_call 16; with_reducible exact now_q _ _ _ s1 _ HP1.out.held hp0 now1 HNOW1.out))
                  go_wp2
                  generalize hWd : World.drewN _ _ = Wd
                  have HPd : Aside0 (Pl w Wd rb g2 gp gl n s1 s1) := ⟨by rw [← hWd]; exact HP1.out.drewN _⟩
                  clear hWd r0 r1 r2 r3 HP1
                  obtain ⟨K, rfl⟩ : ∃ K, K = gk := ⟨_, rfl⟩
                  go_loopg [18] (n + 3) (fun kq v18 w' => ∃ (c : Int), v18 = .int .i64 c ∧ Aside0 (-1 ≤ c ∧ c ≤ (n : Int) + 1 ∧ c + (kq : Int) = (n : Int) + 2) ∧ Aside0 (Pl w w' rb g2 gp gl n s1 s1))
                  case atStart => exact ⟨-1, rfl, ⟨by omega, by omega, by omega⟩, HPd⟩
                  case round =>
                    clear HPd
                    obtain ⟨c, rfl, HKc, HP1⟩ := hrel
                    obtain ⟨hll, r0, r1, r2, r3, hcell⟩ := HP1.out.rheld.at_
                    rw [HPL1.out] at r2 r3
                    have hc1 : -1 ≤ c := HKc.out.1
                    have hc9 : c ≤ (n : Int) + 1 := HKc.out.2.1
                    have hn8 : (n : Int) ≤ 8 := by have := HS1.out.n8; omega
                    by_cases hcn : c ≤ (n : Int)
                    · have p3 : decide (c ≤ (n : Int)) = true := decide_eq_true hcn
                      by_cases hh : s1.has c
                      · have h0 : (0 : Int) ≤ c := hh.1
                        have h1 : c < (n : Int) := by have := hh.2; have := HPL1.out; omega
                        obtain ⟨hcp, -, A, cp2, hcq, -⟩ := hcell c.toNat (by have := HPL1.out; omega)
                        obtain ⟨pv, hpv⟩ : ∃ pv, s1.pins[c.toNat]?.getD (-1) = pv := ⟨_, rfl⟩
                        obtain ⟨lv, hlv⟩ : ∃ lv, (s1.lim[c.toNat]?.getD []).length = lv := ⟨_, rfl⟩
                        rw [hpv] at hcp
                        rw [hlv] at hcq
                        have HPV : Aside0 (s1.pinOf c = pv ∧ s1.limbo c = (lv : Int)) := ⟨by rw [St.pinOf_in s1 c h0]; exact hpv, by rw [St.limbo_in s1 c h0, hlv]⟩
                        have HHH := Aside0.mk (decide_eq_true hh)
                        clear hpv hlv hcell hll hh
                        go_wp2_with (go_at_call 23; (with_reducible refine (client_ _ _ _ _ _ _ _ s1 c HP1.out.rheld true HHH.out).mono ?_); rintro e W' ⟨rfl, rfl⟩)
                        go_quiet (fail)
                        generalize hWe : World.drewN _ _ = We
                        have HPe : Aside0 (Pl w We rb g2 gp gl n s1 s1) := ⟨by rw [← hWe]; exact HP1.out.drewN _⟩
                        clear hWe r0 r1 r2 r3 hcp hcq HP1
                        go_wp2_with (first
                          | (go_at_call 13; (with_reducible refine (pinof_c _ _ _ s1 c HPe.out.held hp0 hp8 pv HPV.out.1).mono ?_); rintro e W1 ⟨rfl, HHa, HTa⟩)
                          | (go_at_call 24; (with_reducible refine (limbo_c _ _ _ s1 c HHa hp0 hp8 (lv : Int) HPV.out.2).mono ?_); rintro e W2 ⟨rfl, HHb, HTb⟩))
                        go_roundg (gk - 1)
                        case measure => have := HKc.out; omega
                        case rel => exact ⟨c + 1, by go_num, ⟨by have := HKc.out; omega, by omega, by have := HKc.out; omega⟩, ⟨(HPe.out.e HHa HTa).e HHb HTb⟩⟩
                      · have HPV : Aside0 (s1.pinOf c = -1 ∧ s1.limbo c = 0) := by
                          have hpl := HPL1.out
                          have hno : c < 0 ∨ (n : Int) ≤ c := by unfold St.has at hh; omega
                          exact ⟨St.pinOf_out s1 c (by omega), St.limbo_out s1 c (by omega)⟩
                        have HHH := Aside0.mk (decide_eq_false hh)
                        clear hcell hll hh
                        go_wp2_with (first
                          | (go_at_call 23; (with_reducible refine (client_ _ _ _ _ _ _ _ s1 c HP1.out.rheld false HHH.out).mono ?_); rintro e W' ⟨rfl, rfl⟩)
                          | (go_at_call 13; (with_reducible refine (pinof_c _ _ _ s1 c HP1.out.held hp0 hp8 (-1) HPV.out.1).mono ?_); rintro e W1 ⟨rfl, HHa, HTa⟩)
                          | (go_at_call 24; (with_reducible refine (limbo_c _ _ _ s1 c HHa hp0 hp8 0 HPV.out.2).mono ?_); rintro e W2 ⟨rfl, HHb, HTb⟩))
                        go_roundg (gk - 1)
                        case measure => have := HKc.out; omega
                        case rel => exact ⟨c + 1, by go_num, ⟨by have := HKc.out; omega, by omega, by have := HKc.out; omega⟩, ⟨(HP1.out.e HHa HTa).e HHb HTb⟩⟩
                    · have p3 : decide (c ≤ (n : Int)) = false := decide_eq_false hcn
                      clear hcell hll
                      go_wp2
                      go_roundg (K - 1)
                      case measure => have := HK.out; omega
                      case rel => exact ⟨s1, i + 1, by go_num, ⟨by have := HK.out; omega⟩, HS1, HP1⟩
            · skip
              by_cases hk3 : q.1 = 3
              · as_aux_lemma =>
                  have k1 : (q.1 == 1) = false := beq_eq_false_iff_ne.mpr hk1
                  have k2 : (q.1 == 2) = false := beq_eq_false_iff_ne.mpr hk2
                  have k3 : (q.1 == 3) = true := beq_iff_eq.mpr hk3
                  have HKK := Aside0.mk hk3
                  clear hk3
                  clear hk1 hk2
                  have hn0 : 0 ≤ s.now := HS.out.nl
                  have hn9 : s.now ≤ 1073741824 := by have := HS.out.nh; have := HS.out.ih; omega
                  go_wp2
                  have HXn : Aside0 (Bx ((wr.alloc (.cells #[.int .i64 q.1, .int .i64 q.2.1, .int .i64 q.2.2] 37)).drew) wr.heap.size q) := ⟨heap_alloc_new wr _⟩
                  have HPa := Aside0.mk (HP.out.alloc (.cells #[.int .i64 q.1, .int .i64 q.2.1, .int .i64 q.2.2] 37))
                  go_region_held3 (fun w' => w'.cell? ⟨wr.heap.size, 2, none⟩ = some (.int .i64 q.2.2)) (first | exact rcS | go_keep)
                    (first
                      | (go_at_call 10; (with_reducible refine (adv_ _ _ _ s q.2.2 HPa.out.drew.held hpos hn0 hn9).mono ?_); rintro e W2 ⟨rfl, HHx, HTx⟩; have HPb_ := HPa.out.drew.e HHx HTx; have HX_ := HXn.out.tf HTx; clear HHx HTx HXn; have HPb := Aside0.mk HPb_; have HXn := Aside0.mk HX_; clear HPb_ HX_; have HX := HXn.out; have rcS := HX.cells.2.2; clear HX)
                      | (go_at_call 20; (with_reducible refine (radv_ _ _ _ _ _ _ _ s q.2.2 HPb.out.rheld hn0 hn9).mono ?_); rintro e W3 ⟨rfl, HHx, HTx⟩; have HPc_ := HPb.out.r HHx HTx; have HX_ := HXn.out.tf2 HTx; clear HHx HTx HXn; have HPc := Aside0.mk HPc_; have HXn := Aside0.mk HX_; clear HPc_ HX_; have HX := HXn.out; have rcS := HX.cells.2.2; clear HX))
                  all_goals
                    go_wp2
                    obtain ⟨s1, hs1⟩ : ∃ s1, s.advS q.2.2 = s1 := ⟨_, rfl⟩
                    have HS1 := Aside0.mk (HS.out.adv hi80 q.2.2)
                    have HP1 := HPc
                    rw [hs1] at HS1 HP1
                    clear hs1
                    clear HS
                    clear hn0 hn9
                    obtain ⟨hll, r0, r1, r2, r3, -⟩ := HP1.out.rheld.at_
                    have hpl1 := HS1.out.pl
                    rw [hpl1] at r2 r3
                    have HPL1 := Aside0.mk hpl1
                    have hp0 : 0 < s1.pins.length := by have := HS1.out.n1; omega
                    have hp8 : s1.pins.length ≤ 8 := by have := HS1.out.n8; omega
                    clear hpl1 hll
                    obtain ⟨now1, hnow1⟩ : ∃ now1, s1.now = now1 := ⟨_, rfl⟩
                    rw [hnow1] at r0
                    have HNOW1 := Aside0.mk hnow1
                    clear hnow1
                    go_quiet ((go_at_call 16; with_reducible exact now_q _ _ _ s1 _ HP1.out.held hp0 now1 HNOW1.out))
                    go_wp2
                    generalize hWd : World.drewN _ _ = Wd
                    have HPd : Aside0 (Pl w Wd rb g2 gp gl n s1 s1) := ⟨by rw [← hWd]; exact HP1.out.drewN _⟩
                    clear hWd r0 r1 r2 r3 HP1
                    obtain ⟨K, rfl⟩ : ∃ K, K = gk := ⟨_, rfl⟩
                    go_loopg [18] (n + 3) (fun kq v18 w' => ∃ (c : Int), v18 = .int .i64 c ∧ Aside0 (-1 ≤ c ∧ c ≤ (n : Int) + 1 ∧ c + (kq : Int) = (n : Int) + 2) ∧ Aside0 (Pl w w' rb g2 gp gl n s1 s1))
                    case atStart => exact ⟨-1, rfl, ⟨by omega, by omega, by omega⟩, HPd⟩
                    case round =>
                      clear HPd
                      obtain ⟨c, rfl, HKc, HP1⟩ := hrel
                      obtain ⟨hll, r0, r1, r2, r3, hcell⟩ := HP1.out.rheld.at_
                      rw [HPL1.out] at r2 r3
                      have hc1 : -1 ≤ c := HKc.out.1
                      have hc9 : c ≤ (n : Int) + 1 := HKc.out.2.1
                      have hn8 : (n : Int) ≤ 8 := by have := HS1.out.n8; omega
                      by_cases hcn : c ≤ (n : Int)
                      · have p3 : decide (c ≤ (n : Int)) = true := decide_eq_true hcn
                        by_cases hh : s1.has c
                        · have h0 : (0 : Int) ≤ c := hh.1
                          have h1 : c < (n : Int) := by have := hh.2; have := HPL1.out; omega
                          obtain ⟨hcp, -, A, cp2, hcq, -⟩ := hcell c.toNat (by have := HPL1.out; omega)
                          obtain ⟨pv, hpv⟩ : ∃ pv, s1.pins[c.toNat]?.getD (-1) = pv := ⟨_, rfl⟩
                          obtain ⟨lv, hlv⟩ : ∃ lv, (s1.lim[c.toNat]?.getD []).length = lv := ⟨_, rfl⟩
                          rw [hpv] at hcp
                          rw [hlv] at hcq
                          have HPV : Aside0 (s1.pinOf c = pv ∧ s1.limbo c = (lv : Int)) := ⟨by rw [St.pinOf_in s1 c h0]; exact hpv, by rw [St.limbo_in s1 c h0, hlv]⟩
                          have HHH := Aside0.mk (decide_eq_true hh)
                          clear hpv hlv hcell hll hh
                          go_wp2_with (go_at_call 23; (with_reducible refine (client_ _ _ _ _ _ _ _ s1 c HP1.out.rheld true HHH.out).mono ?_); rintro e W' ⟨rfl, rfl⟩)
                          go_quiet (fail)
                          generalize hWe : World.drewN _ _ = We
                          have HPe : Aside0 (Pl w We rb g2 gp gl n s1 s1) := ⟨by rw [← hWe]; exact HP1.out.drewN _⟩
                          clear hWe r0 r1 r2 r3 hcp hcq HP1
                          go_wp2_with (first
                            | (go_at_call 13; (with_reducible refine (pinof_c _ _ _ s1 c HPe.out.held hp0 hp8 pv HPV.out.1).mono ?_); rintro e W1 ⟨rfl, HHa, HTa⟩)
                            | (go_at_call 24; (with_reducible refine (limbo_c _ _ _ s1 c HHa hp0 hp8 (lv : Int) HPV.out.2).mono ?_); rintro e W2 ⟨rfl, HHb, HTb⟩))
                          go_roundg (gk - 1)
                          case measure => have := HKc.out; omega
                          case rel => exact ⟨c + 1, by go_num, ⟨by have := HKc.out; omega, by omega, by have := HKc.out; omega⟩, ⟨(HPe.out.e HHa HTa).e HHb HTb⟩⟩
                        · have HPV : Aside0 (s1.pinOf c = -1 ∧ s1.limbo c = 0) := by
                            have hpl := HPL1.out
                            have hno : c < 0 ∨ (n : Int) ≤ c := by unfold St.has at hh; omega
                            exact ⟨St.pinOf_out s1 c (by omega), St.limbo_out s1 c (by omega)⟩
                          have HHH := Aside0.mk (decide_eq_false hh)
                          clear hcell hll hh
                          go_wp2_with (first
                            | (go_at_call 23; (with_reducible refine (client_ _ _ _ _ _ _ _ s1 c HP1.out.rheld false HHH.out).mono ?_); rintro e W' ⟨rfl, rfl⟩)
                            | (go_at_call 13; (with_reducible refine (pinof_c _ _ _ s1 c HP1.out.held hp0 hp8 (-1) HPV.out.1).mono ?_); rintro e W1 ⟨rfl, HHa, HTa⟩)
                            | (go_at_call 24; (with_reducible refine (limbo_c _ _ _ s1 c HHa hp0 hp8 0 HPV.out.2).mono ?_); rintro e W2 ⟨rfl, HHb, HTb⟩))
                          go_roundg (gk - 1)
                          case measure => have := HKc.out; omega
                          case rel => exact ⟨c + 1, by go_num, ⟨by have := HKc.out; omega, by omega, by have := HKc.out; omega⟩, ⟨(HP1.out.e HHa HTa).e HHb HTb⟩⟩
                      · have p3 : decide (c ≤ (n : Int)) = false := decide_eq_false hcn
                        clear hcell hll
                        go_wp2
                        go_roundg (K - 1)
                        case measure => have := HK.out; omega
                        case rel => exact ⟨s1, i + 1, by go_num, ⟨by have := HK.out; omega⟩, HS1, HP1⟩
              · skip
                by_cases hk4 : q.1 = 4
                · as_aux_lemma =>
                    have k1 : (q.1 == 1) = false := beq_eq_false_iff_ne.mpr hk1
                    have k2 : (q.1 == 2) = false := beq_eq_false_iff_ne.mpr hk2
                    have k3 : (q.1 == 3) = false := beq_eq_false_iff_ne.mpr hk3
                    have k4 : (q.1 == 4) = true := beq_iff_eq.mpr hk4
                    have HKK := Aside0.mk hk4
                    clear hk4
                    clear hk1 hk2 hk3
                    obtain ⟨v1, v2, v3, ok, HWP, HRP⟩ : ∃ v1 v2 v3 ok, Aside0 (PEpochRuns.word_Parts.f 2 q.2.2 = some (v1, v2, v3, ok)) ∧ Aside0 (PEpochPlays.tendrilref1_Parts.f 2 q.2.2 = some (v1, v2, v3, ok)) := by
                      obtain ⟨v1, v2, v3, ok, h1, h2⟩ := parts_both q.2.2
                      exact ⟨v1, v2, v3, ok, ⟨h1⟩, ⟨h2⟩⟩
                    go_wp2
                    have HXn : Aside0 (Bx ((wr.alloc (.cells #[.int .i64 q.1, .int .i64 q.2.1, .int .i64 q.2.2] 37)).drew) wr.heap.size q) := ⟨heap_alloc_new wr _⟩
                    have HPa := Aside0.mk (HP.out.alloc (.cells #[.int .i64 q.1, .int .i64 q.2.1, .int .i64 q.2.2] 37))
                    go_region_held3 (fun w' => w'.cell? ⟨wr.heap.size, 1, none⟩ = some (.int .i64 q.2.1) ∧ w'.cell? ⟨wr.heap.size, 2, none⟩ = some (.int .i64 q.2.2)) (first | exact rcS | go_keep)
                      (first
                        | (go_at_call 9; (with_reducible refine (retire_ _ _ _ s q.2.1 q.2.2 HPa.out.drew.held hpos hp8 2 v1 v2 v3 ok HWP.out HS.out.r64 HPa.out.drew.held.base_le).mono ?_); rintro e W2 ⟨rfl, HHx, HTx⟩; have HPb_ := HPa.out.drew.e HHx HTx; have HX_ := HXn.out.tf HTx; clear HHx HTx HXn; have HPb := Aside0.mk HPb_; have HXn := Aside0.mk HX_; clear HPb_ HX_; have HX := HXn.out; have rcS := And.intro HX.cells.2.1 HX.cells.2.2; clear HX)
                        | (go_at_call 21; (with_reducible refine (rret_ _ _ _ _ _ _ _ s q.2.1 q.2.2 HPb.out.rheld 2 v1 v2 v3 ok HRP.out HS.out.r64 hp8 HPb.out.rheld.base_le).mono ?_); rintro e W3 ⟨rfl, HHx, HTx⟩; have HPc_ := HPb.out.r HHx HTx; have HX_ := HXn.out.tf2 HTx; clear HHx HTx HXn; have HPc := Aside0.mk HPc_; have HXn := Aside0.mk HX_; clear HPc_ HX_; have HX := HXn.out; have rcS := And.intro HX.cells.2.1 HX.cells.2.2; clear HX))
                    all_goals
                      go_wp2
                      obtain ⟨s1, hs1⟩ : ∃ s1, s.retS q.2.1 q.2.2 ok = s1 := ⟨_, rfl⟩
                      have HS1 := Aside0.mk (HS.out.ret hi80 q.2.1 q.2.2 ok)
                      have HP1 := HPc
                      rw [hs1] at HS1 HP1
                      clear hs1
                      clear HS
                      obtain ⟨hll, r0, r1, r2, r3, -⟩ := HP1.out.rheld.at_
                      have hpl1 := HS1.out.pl
                      rw [hpl1] at r2 r3
                      have HPL1 := Aside0.mk hpl1
                      have hp0 : 0 < s1.pins.length := by have := HS1.out.n1; omega
                      have hp8 : s1.pins.length ≤ 8 := by have := HS1.out.n8; omega
                      clear hpl1 hll
                      obtain ⟨now1, hnow1⟩ : ∃ now1, s1.now = now1 := ⟨_, rfl⟩
                      rw [hnow1] at r0
                      have HNOW1 := Aside0.mk hnow1
                      clear hnow1
                      go_quiet ((go_at_call 16; with_reducible exact now_q _ _ _ s1 _ HP1.out.held hp0 now1 HNOW1.out))
                      go_wp2
                      generalize hWd : World.drewN _ _ = Wd
                      have HPd : Aside0 (Pl w Wd rb g2 gp gl n s1 s1) := ⟨by rw [← hWd]; exact HP1.out.drewN _⟩
                      clear hWd r0 r1 r2 r3 HP1
                      obtain ⟨K, rfl⟩ : ∃ K, K = gk := ⟨_, rfl⟩
                      go_loopg [18] (n + 3) (fun kq v18 w' => ∃ (c : Int), v18 = .int .i64 c ∧ Aside0 (-1 ≤ c ∧ c ≤ (n : Int) + 1 ∧ c + (kq : Int) = (n : Int) + 2) ∧ Aside0 (Pl w w' rb g2 gp gl n s1 s1))
                      case atStart => exact ⟨-1, rfl, ⟨by omega, by omega, by omega⟩, HPd⟩
                      case round =>
                        clear HPd
                        obtain ⟨c, rfl, HKc, HP1⟩ := hrel
                        obtain ⟨hll, r0, r1, r2, r3, hcell⟩ := HP1.out.rheld.at_
                        rw [HPL1.out] at r2 r3
                        have hc1 : -1 ≤ c := HKc.out.1
                        have hc9 : c ≤ (n : Int) + 1 := HKc.out.2.1
                        have hn8 : (n : Int) ≤ 8 := by have := HS1.out.n8; omega
                        by_cases hcn : c ≤ (n : Int)
                        · have p3 : decide (c ≤ (n : Int)) = true := decide_eq_true hcn
                          by_cases hh : s1.has c
                          · have h0 : (0 : Int) ≤ c := hh.1
                            have h1 : c < (n : Int) := by have := hh.2; have := HPL1.out; omega
                            obtain ⟨hcp, -, A, cp2, hcq, -⟩ := hcell c.toNat (by have := HPL1.out; omega)
                            obtain ⟨pv, hpv⟩ : ∃ pv, s1.pins[c.toNat]?.getD (-1) = pv := ⟨_, rfl⟩
                            obtain ⟨lv, hlv⟩ : ∃ lv, (s1.lim[c.toNat]?.getD []).length = lv := ⟨_, rfl⟩
                            rw [hpv] at hcp
                            rw [hlv] at hcq
                            have HPV : Aside0 (s1.pinOf c = pv ∧ s1.limbo c = (lv : Int)) := ⟨by rw [St.pinOf_in s1 c h0]; exact hpv, by rw [St.limbo_in s1 c h0, hlv]⟩
                            have HHH := Aside0.mk (decide_eq_true hh)
                            clear hpv hlv hcell hll hh
                            go_wp2_with (go_at_call 23; (with_reducible refine (client_ _ _ _ _ _ _ _ s1 c HP1.out.rheld true HHH.out).mono ?_); rintro e W' ⟨rfl, rfl⟩)
                            go_quiet (fail)
                            generalize hWe : World.drewN _ _ = We
                            have HPe : Aside0 (Pl w We rb g2 gp gl n s1 s1) := ⟨by rw [← hWe]; exact HP1.out.drewN _⟩
                            clear hWe r0 r1 r2 r3 hcp hcq HP1
                            go_wp2_with (first
                              | (go_at_call 13; (with_reducible refine (pinof_c _ _ _ s1 c HPe.out.held hp0 hp8 pv HPV.out.1).mono ?_); rintro e W1 ⟨rfl, HHa, HTa⟩)
                              | (go_at_call 24; (with_reducible refine (limbo_c _ _ _ s1 c HHa hp0 hp8 (lv : Int) HPV.out.2).mono ?_); rintro e W2 ⟨rfl, HHb, HTb⟩))
                            go_roundg (gk - 1)
                            case measure => have := HKc.out; omega
                            case rel => exact ⟨c + 1, by go_num, ⟨by have := HKc.out; omega, by omega, by have := HKc.out; omega⟩, ⟨(HPe.out.e HHa HTa).e HHb HTb⟩⟩
                          · have HPV : Aside0 (s1.pinOf c = -1 ∧ s1.limbo c = 0) := by
                              have hpl := HPL1.out
                              have hno : c < 0 ∨ (n : Int) ≤ c := by unfold St.has at hh; omega
                              exact ⟨St.pinOf_out s1 c (by omega), St.limbo_out s1 c (by omega)⟩
                            have HHH := Aside0.mk (decide_eq_false hh)
                            clear hcell hll hh
                            go_wp2_with (first
                              | (go_at_call 23; (with_reducible refine (client_ _ _ _ _ _ _ _ s1 c HP1.out.rheld false HHH.out).mono ?_); rintro e W' ⟨rfl, rfl⟩)
                              | (go_at_call 13; (with_reducible refine (pinof_c _ _ _ s1 c HP1.out.held hp0 hp8 (-1) HPV.out.1).mono ?_); rintro e W1 ⟨rfl, HHa, HTa⟩)
                              | (go_at_call 24; (with_reducible refine (limbo_c _ _ _ s1 c HHa hp0 hp8 0 HPV.out.2).mono ?_); rintro e W2 ⟨rfl, HHb, HTb⟩))
                            go_roundg (gk - 1)
                            case measure => have := HKc.out; omega
                            case rel => exact ⟨c + 1, by go_num, ⟨by have := HKc.out; omega, by omega, by have := HKc.out; omega⟩, ⟨(HP1.out.e HHa HTa).e HHb HTb⟩⟩
                        · have p3 : decide (c ≤ (n : Int)) = false := decide_eq_false hcn
                          clear hcell hll
                          go_wp2
                          go_roundg (K - 1)
                          case measure => have := HK.out; omega
                          case rel => exact ⟨s1, i + 1, by go_num, ⟨by have := HK.out; omega⟩, HS1, HP1⟩
                · skip
                  by_cases hk5 : q.1 = 5
                  · as_aux_lemma =>
                      have k1 : (q.1 == 1) = false := beq_eq_false_iff_ne.mpr hk1
                      have k2 : (q.1 == 2) = false := beq_eq_false_iff_ne.mpr hk2
                      have k3 : (q.1 == 3) = false := beq_eq_false_iff_ne.mpr hk3
                      have k4 : (q.1 == 4) = false := beq_eq_false_iff_ne.mpr hk4
                      have k5 : (q.1 == 5) = true := beq_iff_eq.mpr hk5
                      have HKK := Aside0.mk hk5
                      clear hk5
                      clear hk1 hk2 hk3 hk4
                      have hn0 : 0 ≤ s.now := HS.out.nl
                      have hn9 : s.now ≤ 1073741824 := by have := HS.out.nh; have := HS.out.ih; omega
                      have HCF : Aside0 ((∀ p ∈ s.wait q.2.1, 0 ≤ p.2 ∧ p.2 ≤ 1073741824) ∧ (s.wait q.2.1).length ≤ 65) := ⟨fun p hp => by have := HS.out.at_ q.2.1 p hp; have := HS.out.nh; have := HS.out.ih; omega, by have := HS.out.wl q.2.1; omega⟩
                      go_wp2_with fail
                      have HXn : Aside0 (Bx ((wr.alloc (.cells #[.int .i64 q.1, .int .i64 q.2.1, .int .i64 q.2.2] 37)).drew) wr.heap.size q) := ⟨heap_alloc_new wr _⟩
                      have HPa := Aside0.mk (HP.out.alloc (.cells #[.int .i64 q.1, .int .i64 q.2.1, .int .i64 q.2.2] 37))
                      go_wp2_with (first
                        | (go_at_call 11; (with_reducible refine (collect_ _ _ _ s q.2.1 HPa.out.held hpos hp8 HPa.out.held.base_le HCF.out.1 hn0 hn9 HCF.out.2).mono ?_); rintro e W2 ⟨rfl, HHx, HTx⟩; have HPb := Aside0.mk (HPa.out.e HHx HTx); have HXb := Aside0.mk (Bx.tf (w := wr.alloc (.cells #[.int .i64 q.1, .int .i64 q.2.1, .int .i64 q.2.2] 37)) HXn.out HTx); clear HHx HTx HXn; have rc := HXb.out.cells.2.1)
                        | (go_at_call 22; (with_reducible refine (rcol_c _ _ _ _ _ _ _ s q.2.1 HPb.out.rheld HCF.out.1).mono ?_); rintro e W3 ⟨rfl, HHx, HTx⟩; have HPc := Aside0.mk (HPb.out.r HHx HTx); clear HHx HTx rc))
                      all_goals
                        obtain ⟨s1, hs1⟩ : ∃ s1, s.colS q.2.1 = s1 := ⟨_, rfl⟩
                        have HS1 := Aside0.mk (HS.out.col hi80 q.2.1)
                        have HP1 := HPc
                        rw [hs1] at HS1 HP1
                        clear hs1
                        clear HS
                        clear hn0 hn9
                        obtain ⟨hll, r0, r1, r2, r3, -⟩ := HP1.out.rheld.at_
                        have hpl1 := HS1.out.pl
                        rw [hpl1] at r2 r3
                        have HPL1 := Aside0.mk hpl1
                        have hp0 : 0 < s1.pins.length := by have := HS1.out.n1; omega
                        have hp8 : s1.pins.length ≤ 8 := by have := HS1.out.n8; omega
                        clear hpl1 hll
                        obtain ⟨now1, hnow1⟩ : ∃ now1, s1.now = now1 := ⟨_, rfl⟩
                        rw [hnow1] at r0
                        have HNOW1 := Aside0.mk hnow1
                        clear hnow1
                        go_quiet ((go_at_call 16; with_reducible exact now_q _ _ _ s1 _ HP1.out.held hp0 now1 HNOW1.out))
                        go_wp2
                        generalize hWd : World.drewN _ _ = Wd
                        have HPd : Aside0 (Pl w Wd rb g2 gp gl n s1 s1) := ⟨by rw [← hWd]; exact HP1.out.drewN _⟩
                        clear hWd r0 r1 r2 r3 HP1
                        obtain ⟨K, rfl⟩ : ∃ K, K = gk := ⟨_, rfl⟩
                        go_loopg [18] (n + 3) (fun kq v18 w' => ∃ (c : Int), v18 = .int .i64 c ∧ Aside0 (-1 ≤ c ∧ c ≤ (n : Int) + 1 ∧ c + (kq : Int) = (n : Int) + 2) ∧ Aside0 (Pl w w' rb g2 gp gl n s1 s1))
                        case atStart => exact ⟨-1, rfl, ⟨by omega, by omega, by omega⟩, HPd⟩
                        case round =>
                          clear HPd
                          obtain ⟨c, rfl, HKc, HP1⟩ := hrel
                          obtain ⟨hll, r0, r1, r2, r3, hcell⟩ := HP1.out.rheld.at_
                          rw [HPL1.out] at r2 r3
                          have hc1 : -1 ≤ c := HKc.out.1
                          have hc9 : c ≤ (n : Int) + 1 := HKc.out.2.1
                          have hn8 : (n : Int) ≤ 8 := by have := HS1.out.n8; omega
                          by_cases hcn : c ≤ (n : Int)
                          · have p3 : decide (c ≤ (n : Int)) = true := decide_eq_true hcn
                            by_cases hh : s1.has c
                            · have h0 : (0 : Int) ≤ c := hh.1
                              have h1 : c < (n : Int) := by have := hh.2; have := HPL1.out; omega
                              obtain ⟨hcp, -, A, cp2, hcq, -⟩ := hcell c.toNat (by have := HPL1.out; omega)
                              obtain ⟨pv, hpv⟩ : ∃ pv, s1.pins[c.toNat]?.getD (-1) = pv := ⟨_, rfl⟩
                              obtain ⟨lv, hlv⟩ : ∃ lv, (s1.lim[c.toNat]?.getD []).length = lv := ⟨_, rfl⟩
                              rw [hpv] at hcp
                              rw [hlv] at hcq
                              have HPV : Aside0 (s1.pinOf c = pv ∧ s1.limbo c = (lv : Int)) := ⟨by rw [St.pinOf_in s1 c h0]; exact hpv, by rw [St.limbo_in s1 c h0, hlv]⟩
                              have HHH := Aside0.mk (decide_eq_true hh)
                              clear hpv hlv hcell hll hh
                              go_wp2_with (go_at_call 23; (with_reducible refine (client_ _ _ _ _ _ _ _ s1 c HP1.out.rheld true HHH.out).mono ?_); rintro e W' ⟨rfl, rfl⟩)
                              go_quiet (fail)
                              generalize hWe : World.drewN _ _ = We
                              have HPe : Aside0 (Pl w We rb g2 gp gl n s1 s1) := ⟨by rw [← hWe]; exact HP1.out.drewN _⟩
                              clear hWe r0 r1 r2 r3 hcp hcq HP1
                              go_wp2_with (first
                                | (go_at_call 13; (with_reducible refine (pinof_c _ _ _ s1 c HPe.out.held hp0 hp8 pv HPV.out.1).mono ?_); rintro e W1 ⟨rfl, HHa, HTa⟩)
                                | (go_at_call 24; (with_reducible refine (limbo_c _ _ _ s1 c HHa hp0 hp8 (lv : Int) HPV.out.2).mono ?_); rintro e W2 ⟨rfl, HHb, HTb⟩))
                              go_roundg (gk - 1)
                              case measure => have := HKc.out; omega
                              case rel => exact ⟨c + 1, by go_num, ⟨by have := HKc.out; omega, by omega, by have := HKc.out; omega⟩, ⟨(HPe.out.e HHa HTa).e HHb HTb⟩⟩
                            · have HPV : Aside0 (s1.pinOf c = -1 ∧ s1.limbo c = 0) := by
                                have hpl := HPL1.out
                                have hno : c < 0 ∨ (n : Int) ≤ c := by unfold St.has at hh; omega
                                exact ⟨St.pinOf_out s1 c (by omega), St.limbo_out s1 c (by omega)⟩
                              have HHH := Aside0.mk (decide_eq_false hh)
                              clear hcell hll hh
                              go_wp2_with (first
                                | (go_at_call 23; (with_reducible refine (client_ _ _ _ _ _ _ _ s1 c HP1.out.rheld false HHH.out).mono ?_); rintro e W' ⟨rfl, rfl⟩)
                                | (go_at_call 13; (with_reducible refine (pinof_c _ _ _ s1 c HP1.out.held hp0 hp8 (-1) HPV.out.1).mono ?_); rintro e W1 ⟨rfl, HHa, HTa⟩)
                                | (go_at_call 24; (with_reducible refine (limbo_c _ _ _ s1 c HHa hp0 hp8 0 HPV.out.2).mono ?_); rintro e W2 ⟨rfl, HHb, HTb⟩))
                              go_roundg (gk - 1)
                              case measure => have := HKc.out; omega
                              case rel => exact ⟨c + 1, by go_num, ⟨by have := HKc.out; omega, by omega, by have := HKc.out; omega⟩, ⟨(HP1.out.e HHa HTa).e HHb HTb⟩⟩
                          · have p3 : decide (c ≤ (n : Int)) = false := decide_eq_false hcn
                            clear hcell hll
                            go_wp2
                            go_roundg (K - 1)
                            case measure => have := HK.out; omega
                            case rel => exact ⟨s1, i + 1, by go_num, ⟨by have := HK.out; omega⟩, HS1, HP1⟩
                  · skip
                    by_cases hk6 : q.1 = 6
                    · as_aux_lemma =>
                        have k1 : (q.1 == 1) = false := beq_eq_false_iff_ne.mpr hk1
                        have k2 : (q.1 == 2) = false := beq_eq_false_iff_ne.mpr hk2
                        have k3 : (q.1 == 3) = false := beq_eq_false_iff_ne.mpr hk3
                        have k4 : (q.1 == 4) = false := beq_eq_false_iff_ne.mpr hk4
                        have k5 : (q.1 == 5) = false := beq_eq_false_iff_ne.mpr hk5
                        have k6 : (q.1 == 6) = true := beq_iff_eq.mpr hk6
                        have HKK := Aside0.mk hk6
                        clear hk6
                        clear hk1 hk2 hk3 hk4 hk5
                        have hn0 : 0 ≤ s.now := HS.out.nl
                        have hn9 : s.now ≤ 1073741824 := by have := HS.out.nh; have := HS.out.ih; omega
                        go_wp2
                        have HXn : Aside0 (Bx ((wr.alloc (.cells #[.int .i64 q.1, .int .i64 q.2.1, .int .i64 q.2.2] 37)).drew) wr.heap.size q) := ⟨heap_alloc_new wr _⟩
                        have HPa := Aside0.mk (HP.out.alloc (.cells #[.int .i64 q.1, .int .i64 q.2.1, .int .i64 q.2.2] 37))
                        have HPa2 := Aside0.mk HPa.out.drew
                        clear HXn
                        refine L_region (d1 := 5) (C1 := (fun w' => w'.cell? ⟨g2, 0, none⟩ = some (.int .i64 s.now))) (d2 := 11) (C2 := (fun w' => w'.cell? ⟨g2, 0, none⟩ = some (.int .i64 s.now))) (by kernel_rfl) (SL2.mk HPa2.out.rheld.at_.2.1 HPa2.out.rheld.at_.2.1) (fun hS0 => ?_)
                        generalize hWd : World.drew (wr.alloc (.cells #[.int .i64 q.1, .int .i64 q.2.1, .int .i64 q.2.2] 37)) = Wd at *
                        clear hWd
                        refine L_pure 0 (v := ?vz6_1) (get0) (by kernel_rfl) (by kernel_rfl) (by kernel_rfl) (fun _ _ _ h => h) (by decide) (by decide) (by rfl) ?hyz6_1 hS0 (fun hS1 => ?rez6_1)
                        case hyz6_1 => (intro w9; go_simp; try with_reducible rfl)
                        clear hS0
                        have hS0 := hS1
                        clear hS1
                        try simp only [Act.put, List.setIfInBounds_toArray, List.set_cons_zero, List.set_cons_succ]
                        refine L_pure 1 (v := ?vz6_2) (getS (get0)) (by kernel_rfl) (by kernel_rfl) (by kernel_rfl) (fun _ _ _ h => h) (by decide) (by decide) (by rfl) ?hyz6_2 hS0 (fun hS1 => ?rez6_2)
                        case hyz6_2 => (intro w9; go_simp; try with_reducible rfl)
                        clear hS0
                        have hS0 := hS1
                        clear hS1
                        try simp only [Act.put, List.setIfInBounds_toArray, List.set_cons_zero, List.set_cons_succ]
                        refine L_pure 2 (v := ?vz6_3) (getS (getS (get0))) (by kernel_rfl) (by kernel_rfl) (by kernel_rfl) (fun _ _ _ h => h) (by decide) (by decide) (by rfl) ?hyz6_3 hS0 (fun hS1 => ?rez6_3)
                        case hyz6_3 => (intro w9; go_simp; try with_reducible rfl)
                        clear hS0
                        have hS0 := hS1
                        clear hS1
                        try simp only [Act.put, List.setIfInBounds_toArray, List.set_cons_zero, List.set_cons_succ]
                        refine L_pure 3 (v := ?vz6_4) (getS (getS (getS (get0)))) (by kernel_rfl) (by kernel_rfl) (by kernel_rfl) (fun _ _ _ h => h) (by decide) (by decide) (by rfl) ?hyz6_4 hS0 (fun hS1 => ?rez6_4)
                        case hyz6_4 => (intro w9; go_simp; try with_reducible rfl)
                        clear hS0
                        have hS0 := hS1
                        clear hS1
                        try simp only [Act.put, List.setIfInBounds_toArray, List.set_cons_zero, List.set_cons_succ]
                        refine L_load1 4 (v := ?vz6_5) (getS (getS (getS (getS (get0))))) (by kernel_rfl) (by kernel_rfl) (by kernel_rfl) (fun _ _ _ h => h) (by decide) (by decide) (by kernel_rfl) (by kernel_rfl) (by rfl) ?hyz6_5 hS0 (fun hS1 => ?rez6_5)
                        case hyz6_5 => (intro w9 hSw; (try dsimp only at hSw); go_simp; try with_reducible rfl)
                        clear hS0
                        have hS0 := hS1
                        clear hS1
                        try simp only [Act.put, List.setIfInBounds_toArray, List.set_cons_zero, List.set_cons_succ]
                        refine L_pure 6 (v := ?vz6_6) (getS (getS (getS (getS (getS (getS (get0))))))) (by kernel_rfl) (by kernel_rfl) (by kernel_rfl) (fun _ _ _ h => h) (by decide) (by decide) (by rfl) ?hyz6_6 hS0 (fun hS1 => ?rez6_6)
                        case hyz6_6 => (intro w9; go_simp; try with_reducible rfl)
                        clear hS0
                        have hS0 := hS1
                        clear hS1
                        try simp only [Act.put, List.setIfInBounds_toArray, List.set_cons_zero, List.set_cons_succ]
                        refine L_pure 7 (v := ?vz6_7) (getS (getS (getS (getS (getS (getS (getS (get0)))))))) (by kernel_rfl) (by kernel_rfl) (by kernel_rfl) (fun _ _ _ h => h) (by decide) (by decide) (by rfl) ?hyz6_7 hS0 (fun hS1 => ?rez6_7)
                        case hyz6_7 => (intro w9; go_simp; try with_reducible rfl)
                        clear hS0
                        have hS0 := hS1
                        clear hS1
                        try simp only [Act.put, List.setIfInBounds_toArray, List.set_cons_zero, List.set_cons_succ]
                        refine L_pure 8 (v := ?vz6_8) (getS (getS (getS (getS (getS (getS (getS (getS (get0))))))))) (by kernel_rfl) (by kernel_rfl) (by kernel_rfl) (fun _ _ _ h => h) (by decide) (by decide) (by rfl) ?hyz6_8 hS0 (fun hS1 => ?rez6_8)
                        case hyz6_8 => (intro w9; go_simp; try with_reducible rfl)
                        clear hS0
                        have hS0 := hS1
                        clear hS1
                        try simp only [Act.put, List.setIfInBounds_toArray, List.set_cons_zero, List.set_cons_succ]
                        refine L_pure 9 (v := ?vz6_9) (getS (getS (getS (getS (getS (getS (getS (getS (getS (get0)))))))))) (by kernel_rfl) (by kernel_rfl) (by kernel_rfl) (fun _ _ _ h => h) (by decide) (by decide) (by rfl) ?hyz6_9 hS0 (fun hS1 => ?rez6_9)
                        case hyz6_9 => (intro w9; go_simp; try with_reducible rfl)
                        clear hS0
                        have hS0 := hS1
                        clear hS1
                        try simp only [Act.put, List.setIfInBounds_toArray, List.set_cons_zero, List.set_cons_succ]
                        refine L_load2 10 (v := ?vz6_10) (getS (getS (getS (getS (getS (getS (getS (getS (getS (getS (get0))))))))))) (by kernel_rfl) (by kernel_rfl) (by kernel_rfl) (fun _ _ _ h => h) (by decide) (by decide) (by kernel_rfl) (by kernel_rfl) (by rfl) ?hyz6_10 hS0 (fun hS1 => ?rez6_10)
                        case hyz6_10 => (intro w9 hSw; (try dsimp only at hSw); go_simp; try with_reducible rfl)
                        clear hS0
                        have hS0 := hS1
                        clear hS1
                        try simp only [Act.put, List.setIfInBounds_toArray, List.set_cons_zero, List.set_cons_succ]
                        refine L_step 5 (by kernel_rfl) (getS (getS (getS (getS (getS (get0)))))) (fun K hK => ?_)
                        refine step_calls (by rfl) 10 #[.pointer (some ⟨w.heap.size, 0, none⟩), .int .i64 s.now] ?_ (adv_ _ _ _ s s.now HPa2.out.held hpos hn0 hn9) ?_
                        · go_simp
                        intro w6 hB6
                        have HPb := Aside0.mk (HPa2.out.e hB6.1 hB6.2)
                        clear hB6
                        refine hK.out _ _ (SL2.mk2 (by kernel_rfl) HPb.out.rheld.at_.2.1) (fun hS1 => ?_)
                        clear hK K hS0
                        have hS0 := hS1
                        clear hS1
                        try simp only [Act.put, List.setIfInBounds_toArray, List.set_cons_zero, List.set_cons_succ]
                        refine L_step 11 (by kernel_rfl) (getS (getS (getS (getS (getS (getS (getS (getS (getS (getS (getS (get0)))))))))))) (fun K hK => ?_)
                        refine step_calls (by rfl) 20 #[.pointer (some ⟨g2, 0, none⟩), .int .i64 s.now] ?_ (radv_ _ _ _ _ _ _ _ s s.now HPb.out.rheld hn0 hn9) ?_
                        · go_simp
                        intro w7 hB7
                        have HPc := Aside0.mk (HPb.out.r hB7.1 hB7.2)
                        clear hB7
                        refine hK.out _ _ (SL2.mk0 (by kernel_rfl) (by kernel_rfl)) (fun hS1 => ?_)
                        clear hK K hS0
                        have hS0 := hS1
                        clear hS1
                        try simp only [Act.put, List.setIfInBounds_toArray, List.set_cons_zero, List.set_cons_succ]
                        refine L_pure 12 (v := ?vz6_11) (getS (getS (getS (getS (getS (getS (getS (getS (getS (getS (getS (getS (get0))))))))))))) (by kernel_rfl) (by kernel_rfl) (by kernel_rfl) (fun _ _ _ h => h) (by decide) (by decide) (by rfl) ?hyz6_11 hS0 (fun hS1 => ?rez6_11)
                        case hyz6_11 => (intro w9; go_simp; try with_reducible rfl)
                        clear hS0
                        have hS0 := hS1
                        clear hS1
                        try simp only [Act.put, List.setIfInBounds_toArray, List.set_cons_zero, List.set_cons_succ]
                        refine L_pure 13 (v := ?vz6_12) (getS (getS (getS (getS (getS (getS (getS (getS (getS (getS (getS (getS (getS (get0)))))))))))))) (by kernel_rfl) (by kernel_rfl) (by kernel_rfl) (fun _ _ _ h => h) (by decide) (by decide) (by rfl) ?hyz6_12 hS0 (fun hS1 => ?rez6_12)
                        case hyz6_12 => (intro w9; go_simp; try with_reducible rfl)
                        clear hS0
                        have hS0 := hS1
                        clear hS1
                        try simp only [Act.put, List.setIfInBounds_toArray, List.set_cons_zero, List.set_cons_succ]
                        refine L_done (by kernel_rfl) ?_
                        clear hS0
                        all_goals
                          go_wp2
                          obtain ⟨s1, hs1⟩ : ∃ s1, s.advS s.now = s1 := ⟨_, rfl⟩
                          have HS1 := Aside0.mk (HS.out.adv hi80 s.now)
                          have HP1 := HPc
                          rw [hs1] at HS1 HP1
                          clear hs1
                          clear HS
                          clear hn0 hn9
                          obtain ⟨hll, r0, r1, r2, r3, -⟩ := HP1.out.rheld.at_
                          have hpl1 := HS1.out.pl
                          rw [hpl1] at r2 r3
                          have HPL1 := Aside0.mk hpl1
                          have hp0 : 0 < s1.pins.length := by have := HS1.out.n1; omega
                          have hp8 : s1.pins.length ≤ 8 := by have := HS1.out.n8; omega
                          clear hpl1 hll
                          obtain ⟨now1, hnow1⟩ : ∃ now1, s1.now = now1 := ⟨_, rfl⟩
                          rw [hnow1] at r0
                          have HNOW1 := Aside0.mk hnow1
                          clear hnow1
                          go_quiet ((go_at_call 16; with_reducible exact now_q _ _ _ s1 _ HP1.out.held hp0 now1 HNOW1.out))
                          go_wp2
                          generalize hWd : World.drewN _ _ = Wd
                          have HPd : Aside0 (Pl w Wd rb g2 gp gl n s1 s1) := ⟨by rw [← hWd]; exact HP1.out.drewN _⟩
                          clear hWd r0 r1 r2 r3 HP1
                          obtain ⟨K, rfl⟩ : ∃ K, K = gk := ⟨_, rfl⟩
                          go_loopg [18] (n + 3) (fun kq v18 w' => ∃ (c : Int), v18 = .int .i64 c ∧ Aside0 (-1 ≤ c ∧ c ≤ (n : Int) + 1 ∧ c + (kq : Int) = (n : Int) + 2) ∧ Aside0 (Pl w w' rb g2 gp gl n s1 s1))
                          case atStart => exact ⟨-1, rfl, ⟨by omega, by omega, by omega⟩, HPd⟩
                          case round =>
                            clear HPd
                            obtain ⟨c, rfl, HKc, HP1⟩ := hrel
                            obtain ⟨hll, r0, r1, r2, r3, hcell⟩ := HP1.out.rheld.at_
                            rw [HPL1.out] at r2 r3
                            have hc1 : -1 ≤ c := HKc.out.1
                            have hc9 : c ≤ (n : Int) + 1 := HKc.out.2.1
                            have hn8 : (n : Int) ≤ 8 := by have := HS1.out.n8; omega
                            by_cases hcn : c ≤ (n : Int)
                            · have p3 : decide (c ≤ (n : Int)) = true := decide_eq_true hcn
                              by_cases hh : s1.has c
                              · have h0 : (0 : Int) ≤ c := hh.1
                                have h1 : c < (n : Int) := by have := hh.2; have := HPL1.out; omega
                                obtain ⟨hcp, -, A, cp2, hcq, -⟩ := hcell c.toNat (by have := HPL1.out; omega)
                                obtain ⟨pv, hpv⟩ : ∃ pv, s1.pins[c.toNat]?.getD (-1) = pv := ⟨_, rfl⟩
                                obtain ⟨lv, hlv⟩ : ∃ lv, (s1.lim[c.toNat]?.getD []).length = lv := ⟨_, rfl⟩
                                rw [hpv] at hcp
                                rw [hlv] at hcq
                                have HPV : Aside0 (s1.pinOf c = pv ∧ s1.limbo c = (lv : Int)) := ⟨by rw [St.pinOf_in s1 c h0]; exact hpv, by rw [St.limbo_in s1 c h0, hlv]⟩
                                have HHH := Aside0.mk (decide_eq_true hh)
                                clear hpv hlv hcell hll hh
                                go_wp2_with (go_at_call 23; (with_reducible refine (client_ _ _ _ _ _ _ _ s1 c HP1.out.rheld true HHH.out).mono ?_); rintro e W' ⟨rfl, rfl⟩)
                                go_quiet (fail)
                                generalize hWe : World.drewN _ _ = We
                                have HPe : Aside0 (Pl w We rb g2 gp gl n s1 s1) := ⟨by rw [← hWe]; exact HP1.out.drewN _⟩
                                clear hWe r0 r1 r2 r3 hcp hcq HP1
                                go_wp2_with (first
                                  | (go_at_call 13; (with_reducible refine (pinof_c _ _ _ s1 c HPe.out.held hp0 hp8 pv HPV.out.1).mono ?_); rintro e W1 ⟨rfl, HHa, HTa⟩)
                                  | (go_at_call 24; (with_reducible refine (limbo_c _ _ _ s1 c HHa hp0 hp8 (lv : Int) HPV.out.2).mono ?_); rintro e W2 ⟨rfl, HHb, HTb⟩))
                                go_roundg (gk - 1)
                                case measure => have := HKc.out; omega
                                case rel => exact ⟨c + 1, by go_num, ⟨by have := HKc.out; omega, by omega, by have := HKc.out; omega⟩, ⟨(HPe.out.e HHa HTa).e HHb HTb⟩⟩
                              · have HPV : Aside0 (s1.pinOf c = -1 ∧ s1.limbo c = 0) := by
                                  have hpl := HPL1.out
                                  have hno : c < 0 ∨ (n : Int) ≤ c := by unfold St.has at hh; omega
                                  exact ⟨St.pinOf_out s1 c (by omega), St.limbo_out s1 c (by omega)⟩
                                have HHH := Aside0.mk (decide_eq_false hh)
                                clear hcell hll hh
                                go_wp2_with (first
                                  | (go_at_call 23; (with_reducible refine (client_ _ _ _ _ _ _ _ s1 c HP1.out.rheld false HHH.out).mono ?_); rintro e W' ⟨rfl, rfl⟩)
                                  | (go_at_call 13; (with_reducible refine (pinof_c _ _ _ s1 c HP1.out.held hp0 hp8 (-1) HPV.out.1).mono ?_); rintro e W1 ⟨rfl, HHa, HTa⟩)
                                  | (go_at_call 24; (with_reducible refine (limbo_c _ _ _ s1 c HHa hp0 hp8 0 HPV.out.2).mono ?_); rintro e W2 ⟨rfl, HHb, HTb⟩))
                                go_roundg (gk - 1)
                                case measure => have := HKc.out; omega
                                case rel => exact ⟨c + 1, by go_num, ⟨by have := HKc.out; omega, by omega, by have := HKc.out; omega⟩, ⟨(HP1.out.e HHa HTa).e HHb HTb⟩⟩
                            · have p3 : decide (c ≤ (n : Int)) = false := decide_eq_false hcn
                              clear hcell hll
                              go_wp2
                              go_roundg (K - 1)
                              case measure => have := HK.out; omega
                              case rel => exact ⟨s1, i + 1, by go_num, ⟨by have := HK.out; omega⟩, HS1, HP1⟩
                    · skip
                      as_aux_lemma =>
                        have k1 : (q.1 == 1) = false := beq_eq_false_iff_ne.mpr hk1
                        have k2 : (q.1 == 2) = false := beq_eq_false_iff_ne.mpr hk2
                        have k3 : (q.1 == 3) = false := beq_eq_false_iff_ne.mpr hk3
                        have k4 : (q.1 == 4) = false := beq_eq_false_iff_ne.mpr hk4
                        have k5 : (q.1 == 5) = false := beq_eq_false_iff_ne.mpr hk5
                        have k6 : (q.1 == 6) = false := beq_eq_false_iff_ne.mpr hk6
                        clear hk1 hk2 hk3 hk4 hk5 hk6
                        go_wp2
                        have HXn : Aside0 (Bx ((wr.alloc (.cells #[.int .i64 q.1, .int .i64 q.2.1, .int .i64 q.2.2] 37)).drew) wr.heap.size q) := ⟨heap_alloc_new wr _⟩
                        have HPa := Aside0.mk (HP.out.alloc (.cells #[.int .i64 q.1, .int .i64 q.2.1, .int .i64 q.2.2] 37))
                        clear HXn
                        obtain ⟨W3, hW3⟩ : ∃ W3, wr.alloc (.cells #[.int .i64 q.1, .int .i64 q.2.1, .int .i64 q.2.2] 37) = W3 := ⟨_, rfl⟩
                        rw [hW3] at HPa
                        simp only [hW3]
                        clear hW3
                        obtain ⟨s1, rfl⟩ : ∃ s1, s1 = s := ⟨_, rfl⟩
                        have HS1 := Aside0.mk (HS.out.next hi80)
                        have HP1 := HPa
                        clear HPa HS
                        obtain ⟨hll, r0, r1, r2, r3, -⟩ := HP1.out.rheld.at_
                        have hpl1 := HS1.out.pl
                        rw [hpl1] at r2 r3
                        have HPL1 := Aside0.mk hpl1
                        have hp0 : 0 < s1.pins.length := by have := HS1.out.n1; omega
                        have hp8 : s1.pins.length ≤ 8 := by have := HS1.out.n8; omega
                        clear hpl1 hll
                        obtain ⟨now1, hnow1⟩ : ∃ now1, s1.now = now1 := ⟨_, rfl⟩
                        rw [hnow1] at r0
                        have HNOW1 := Aside0.mk hnow1
                        clear hnow1
                        go_quiet ((go_at_call 16; with_reducible exact now_q _ _ _ s1 _ HP1.out.held hp0 now1 HNOW1.out))
                        go_wp2
                        generalize hWd : World.drewN _ _ = Wd
                        have HPd : Aside0 (Pl w Wd rb g2 gp gl n s1 s1) := ⟨by rw [← hWd]; exact HP1.out.drewN _⟩
                        clear hWd r0 r1 r2 r3 HP1
                        obtain ⟨K, rfl⟩ : ∃ K, K = gk := ⟨_, rfl⟩
                        go_loopg [18] (n + 3) (fun kq v18 w' => ∃ (c : Int), v18 = .int .i64 c ∧ Aside0 (-1 ≤ c ∧ c ≤ (n : Int) + 1 ∧ c + (kq : Int) = (n : Int) + 2) ∧ Aside0 (Pl w w' rb g2 gp gl n s1 s1))
                        case atStart => exact ⟨-1, rfl, ⟨by omega, by omega, by omega⟩, HPd⟩
                        case round =>
                          clear HPd
                          obtain ⟨c, rfl, HKc, HP1⟩ := hrel
                          obtain ⟨hll, r0, r1, r2, r3, hcell⟩ := HP1.out.rheld.at_
                          rw [HPL1.out] at r2 r3
                          have hc1 : -1 ≤ c := HKc.out.1
                          have hc9 : c ≤ (n : Int) + 1 := HKc.out.2.1
                          have hn8 : (n : Int) ≤ 8 := by have := HS1.out.n8; omega
                          by_cases hcn : c ≤ (n : Int)
                          · have p3 : decide (c ≤ (n : Int)) = true := decide_eq_true hcn
                            by_cases hh : s1.has c
                            · have h0 : (0 : Int) ≤ c := hh.1
                              have h1 : c < (n : Int) := by have := hh.2; have := HPL1.out; omega
                              obtain ⟨hcp, -, A, cp2, hcq, -⟩ := hcell c.toNat (by have := HPL1.out; omega)
                              obtain ⟨pv, hpv⟩ : ∃ pv, s1.pins[c.toNat]?.getD (-1) = pv := ⟨_, rfl⟩
                              obtain ⟨lv, hlv⟩ : ∃ lv, (s1.lim[c.toNat]?.getD []).length = lv := ⟨_, rfl⟩
                              rw [hpv] at hcp
                              rw [hlv] at hcq
                              have HPV : Aside0 (s1.pinOf c = pv ∧ s1.limbo c = (lv : Int)) := ⟨by rw [St.pinOf_in s1 c h0]; exact hpv, by rw [St.limbo_in s1 c h0, hlv]⟩
                              have HHH := Aside0.mk (decide_eq_true hh)
                              clear hpv hlv hcell hll hh
                              go_wp2_with (go_at_call 23; (with_reducible refine (client_ _ _ _ _ _ _ _ s1 c HP1.out.rheld true HHH.out).mono ?_); rintro e W' ⟨rfl, rfl⟩)
                              go_quiet (fail)
                              generalize hWe : World.drewN _ _ = We
                              have HPe : Aside0 (Pl w We rb g2 gp gl n s1 s1) := ⟨by rw [← hWe]; exact HP1.out.drewN _⟩
                              clear hWe r0 r1 r2 r3 hcp hcq HP1
                              go_wp2_with (first
                                | (go_at_call 13; (with_reducible refine (pinof_c _ _ _ s1 c HPe.out.held hp0 hp8 pv HPV.out.1).mono ?_); rintro e W1 ⟨rfl, HHa, HTa⟩)
                                | (go_at_call 24; (with_reducible refine (limbo_c _ _ _ s1 c HHa hp0 hp8 (lv : Int) HPV.out.2).mono ?_); rintro e W2 ⟨rfl, HHb, HTb⟩))
                              go_roundg (gk - 1)
                              case measure => have := HKc.out; omega
                              case rel => exact ⟨c + 1, by go_num, ⟨by have := HKc.out; omega, by omega, by have := HKc.out; omega⟩, ⟨(HPe.out.e HHa HTa).e HHb HTb⟩⟩
                            · have HPV : Aside0 (s1.pinOf c = -1 ∧ s1.limbo c = 0) := by
                                have hpl := HPL1.out
                                have hno : c < 0 ∨ (n : Int) ≤ c := by unfold St.has at hh; omega
                                exact ⟨St.pinOf_out s1 c (by omega), St.limbo_out s1 c (by omega)⟩
                              have HHH := Aside0.mk (decide_eq_false hh)
                              clear hcell hll hh
                              go_wp2_with (first
                                | (go_at_call 23; (with_reducible refine (client_ _ _ _ _ _ _ _ s1 c HP1.out.rheld false HHH.out).mono ?_); rintro e W' ⟨rfl, rfl⟩)
                                | (go_at_call 13; (with_reducible refine (pinof_c _ _ _ s1 c HP1.out.held hp0 hp8 (-1) HPV.out.1).mono ?_); rintro e W1 ⟨rfl, HHa, HTa⟩)
                                | (go_at_call 24; (with_reducible refine (limbo_c _ _ _ s1 c HHa hp0 hp8 0 HPV.out.2).mono ?_); rintro e W2 ⟨rfl, HHb, HTb⟩))
                              go_roundg (gk - 1)
                              case measure => have := HKc.out; omega
                              case rel => exact ⟨c + 1, by go_num, ⟨by have := HKc.out; omega, by omega, by have := HKc.out; omega⟩, ⟨(HP1.out.e HHa HTa).e HHb HTb⟩⟩
                          · have p3 : decide (c ≤ (n : Int)) = false := decide_eq_false hcn
                            clear hcell hll
                            go_wp2
                            go_roundg (K - 1)
                            case measure => have := HK.out; omega
                            case rel => exact ⟨s1, i + 1, by go_num, ⟨by have := HK.out; omega⟩, HS1, HP1⟩

        · have p2 : decide ((i : Int) < 80) = false := decide_eq_false (by omega)
          go_wp2_with (go_at_call 3; (with_reducible refine (runs_ _).mono ?_); rintro e W5 ⟨rfl, HX⟩)
          go_ret
          exact ⟨rfl, HP.out.below.trans (HX.mono HP.out.held.base_le)⟩
      · have p1 : decide (i < len2) = false := decide_eq_false hil
        go_wp2_with (go_at_call 3; (with_reducible refine (runs_ _).mono ?_); rintro e W5 ⟨rfl, HX⟩)
        go_ret
        exact ⟨rfl, HP.out.below.trans (HX.mono HP.out.held.base_le)⟩
  · go_enter Try.func5, Try.ntmps5
    go_wp2_with (first
      | (go_at_call 8; (with_reducible refine (new_bad _ a0 a1 hok).mono ?_); rintro e w1 ⟨rfl, rfl⟩)
      | (go_at_call 17; (with_reducible refine (rnew_bad _ a0 a1 hok).mono ?_); rintro e w2 ⟨rfl, rfl⟩))
    go_loopg [11] 1 (fun kq v11 w' => v11 = .int .i64 0 ∧ Aside0 (w' = w))
    case atStart => exact ⟨rfl, ⟨rfl⟩⟩
    case round =>
      obtain ⟨rfl, HW⟩ := hrel
      by_cases hil : 0 < len2
      · have p1 : decide (0 < len2) = true := decide_eq_true hil
        go_wp2_with (go_at_call 3; (with_reducible refine (runs_ _).mono ?_); rintro e W5 ⟨rfl, HX⟩)
        go_ret
        obtain rfl := HW.out
        exact ⟨rfl, HX⟩
      · have p1 : decide (0 < len2) = false := decide_eq_false hil
        go_wp2_with (go_at_call 3; (with_reducible refine (runs_ _).mono ?_); rintro e W5 ⟨rfl, HX⟩)
        go_ret
        obtain rfl := HW.out
        exact ⟨rfl, HX⟩

theorem own : ownKnob Try.prog.godebug = none := by kernel_rfl
theorem laidOut : laidOutB Try.prog = true := by kernel_rfl
set_option maxRecDepth 100000 in
theorem lifted (os : Os) (started : os.Started) (H : Type) (enc : TypeId × Value → H) :
    ReturnsInHanded {} Try.checked os 5 .any (Rows.epochPlaysSpec.pre6 enc Try.prog Try.f5 Rows.epochPlaysRow.domain false) (Rows.epochPlaysSpec.post enc Try.prog Try.f5 false true false false) := by
  refine returnsInHanded_of_change_sized (C := Try.checked) own started (by kernel_rfl) Try.func5
    (ChangeSpec.witness6 (enc := enc) (C := Try.checked) false ⟨#[], #[.int .i64 0, .int .i64 0, .slice none 0 0], []⟩ 8 (by kernel_rfl) (by kernel_rfl) (by kernel_rfl) (by kernel_rfl)) ?_
  intro W base args ds gs before hval0 hW hcnd hsz0 _
  have hsz : (DataW.weightsEach Try.prog (Try.f5.params.toList ++ Rows.epochPlaysSpec.plain.varTypes Try.prog) (ds ++ gs)).all (· ≤ reachBytes) = true := hsz0
  have hval : ∀ (j : Nat) t v, Try.f5.params[j]? = some t → args[j]? = some v → Value.okWide Try.prog W .any base t v := hval0
  have hW' := hW
  obtain ⟨p, q, hA0, hV, rfl, hfz, hnd⟩ := hW
  have hA : DataW.TrodAll enc Try.prog W 0 (fun _ => true) true Try.f5.params.toList args.toList ds p := hA0
  rw [Try.params5] at hA hval hsz
  obtain ⟨v0, vs0, d0, ds0, p0, q0, hargs, rfl, rfl, h0, r0⟩ := trodAll_cons hA
  obtain ⟨v1, vs1, d1, ds1, p1, q1, rfl, rfl, rfl, h1, r1⟩ := trodAll_cons r0
  obtain ⟨v2, vs2, d2, ds2, p2, q2, rfl, rfl, rfl, h2, r2⟩ := trodAll_cons r1
  obtain ⟨rfl, rfl, rfl⟩ := trodAll_nil r2
  obtain rfl : args = #[v0, v1, v2] := by cases args; simp_all
  obtain ⟨rfl, rfl⟩ := trodVars_none hV
  obtain ⟨a0, rfl, rfl, rfl, w0⟩ := open_int Try.underlying3 (hval 0 3 v0 rfl rfl) h0
  obtain ⟨a1, rfl, rfl, rfl, w1⟩ := open_int Try.underlying3 (hval 1 3 v1 rfl rfl) h1
  obtain ⟨a2, len2, cap2, rfl⟩ := okWide_slice Try.underlying33 (hval 2 33 v2 rfl rfl)
  have k2 := h2
  have lt2 : ∀ x ∈ p2, x.block < W.heap.size := by obtain ⟨m, hm⟩ := k2; exact DataW.trod_lt m _ _ _ hm
  obtain ⟨z2, w2⟩ : ∃ zs, Asks W a2 len2 zs := open_asks Try.underlying33 Try.underlying37 (by kernel_rfl) (by kernel_rfl) Try.underlying3 Try.underlying3 Try.underlying3 h2
  clear hA0 hval0 hsz0 hsz
  refine (walk a0 a1 a2 len2 cap2 z2 W w0 w1 w2).mono fun e W' ⟨he, bel⟩ => ?_
  subst he
  exact ⟨_, rfl, _, _, _, [], _, [], hW', trodAll_mk1 (shut_bool Try.underlying4 _), (trodAll_cons_mk (shut_int Try.underlying3 w0) (trodAll_cons_mk (shut_int Try.underlying3 w1) (trodAll_cons_mk (Below.trod laidOut (by kernel_rfl) (of_decide_eq_true (by kernel_rfl)) k2 bel lt2) trodAll_mk0))), rfl, bel.frame _, fun h => by cases h⟩
theorem over : Rows.epochPlaysRow.holds Try.pinned (OpenSpec.ofChange Rows.epochPlaysSpec) :=
  OpenClaim.holds_of_wide 5 Try.f5 rfl rfl rfl rfl rfl rfl rfl ⟨rfl, rfl, rfl, rfl, rfl⟩ rfl rfl rfl rfl rfl (by kernel_rfl) Try.func5 (by kernel_rfl)
    (of_decide_eq_true (by kernel_rfl)) (by unfold Func.isWrapper; first | (rw [if_pos (by decide +kernel)]; kernel_rfl) | (rw [if_neg (by decide +kernel)]; exact ⟨rfl, rfl⟩))
    (fun os started H enc _ => lifted os started H enc)
theorem proved : Rows.EpochPlaysSaid := over
#print axioms proved
end Go.Proofs.Ytfiokeahehkelaa.epochPlays
namespace Go.Proofs.Ytfiokeahehkelaa
/-- The row, under a short name, for the claim. -/
theorem epochPlays_holds : Rows.EpochPlaysSaid := epochPlays.proved
end Go.Proofs.Ytfiokeahehkelaa
