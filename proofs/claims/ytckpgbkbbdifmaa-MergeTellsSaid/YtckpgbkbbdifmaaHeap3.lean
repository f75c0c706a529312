import Derived.Test.YtckpgbkbbdifmaaHeap2
import Derived.WalkKit
import Derived.ProofKit
import Derived.Below
import Derived.WalkLawsBesides
import Derived.Deep.QuietTactic
import Derived.BigQuiet
import Derived.StillTailTactics
import Derived.Deep.AppendLies
import Derived.Deep.RegionHeld3
import Derived.KernelRfl
import Derived.BigRegion
import Derived.WalkSpells
import Derived.Deep.Slices
import Derived.Deep.Fields
import Derived.ChangeSame
import Derived.Deep.RegionLaw
import Derived.Deep.DrawnRows
namespace Go.Proofs.Ytckpgbkbbdifmaa.Ep
open Go Go.RowKit Go.Proofs.YtckpgbkbbdifmaaW.PrintWords Go.Proofs.YtckpgbkbbdifmaaW.PrintLast Go.Proofs.YtckpgbkbbdifmaaW.PrintMore 
set_option linter.unusedVariables false
set_option linter.unusedSimpArgs false
/-- the heap's rows: its block (the header in it), the row, the lists. -/
structure PN (w : World) (base bd g : Nat) (V : Value) (N : Nat) (l : List En) : Prop where
  ge : base ≤ g
  obj : w.heap[g]? = some (.cells #[V] 40 (0, 0))
  row : w.ownsRow base 22 1 V l.length (l.map En.v)
  els : ∀ e ∈ l, EM w base bd e
  ne : NE l N
/-- what is not the heap's block nor its row (R) stays. -/
structure PF (base g : Nat) (R : Option Nat) (w w' : World) : Prop where
  below : Below base w w'
  others : ∀ (k : Nat) (o : Obj), w.heap[k]? = some o → k ≠ g → some k ≠ R → w'.heap[k]? = some o
/-- a row stays, or is a new one. -/
def Ow (R R' : Option Nat) (w : World) : Prop := R' = R ∨ ∃ b, R' = some b ∧ w.heap.size ≤ b
theorem Ow.refl (R : Option Nat) (w : World) : Ow R R w := .inl rfl
theorem Ow.trans {R R1 R2 : Option Nat} {w w1 : World} (h : Ow R R1 w) (h2 : Ow R1 R2 w1) (hs : w.heap.size ≤ w1.heap.size) : Ow R R2 w := by
  rcases h2 with e | ⟨b, e, hb⟩
  · rw [e]; exact h
  · exact .inr ⟨b, e, by omega⟩
theorem PF.trans {base g : Nat} {R R1 : Option Nat} {a b c : World} (h : PF base g R a b) (ho : Ow R R1 a) (h2 : PF base g R1 b c) : PF base g R a c :=
  ⟨h.below.trans h2.below, fun k o hk hg hn => h2.others k o (h.others k o hk hg hn) hg fun e => by
    rcases ho with e2 | ⟨b', e2, hb⟩
    · exact hn (e.trans e2)
    · rw [e2] at e; injection e with e
      have := (Array.getElem?_eq_some_iff.1 hk).1; omega⟩
theorem PF.refl (base g : Nat) (R : Option Nat) (a : World) : PF base g R a a := ⟨Below.refl _ _, fun _ _ h _ _ => h⟩
theorem PF.drawn {base g : Nat} {R : Option Nat} {a b : World} (h : Drawn0 a b) : PF base g R a b := by
  obtain ⟨n, rfl⟩ := h
  exact ⟨pw_below_drewN (Below.refl _ _) n, fun k o ho _ _ => by exact ho⟩
theorem PF.grown {base g ga : Nat} {w w' : World} (hg : w.grownBy w' (some ga)) (hb : base ≤ w.heap.size) (hga : base ≤ ga) : PF base g (some ga) w w' :=
  ⟨(Below.refl _ _).grown hg hb (fun k hk => by injection hk with hk; subst hk; exact hga), fun k o ho _ hn => (hg.block k (Array.getElem?_eq_some_iff.1 ho).1 hn).trans ho⟩
section
variable {w w' w3 : World} {base bd g N N' : Nat} {V V' : Value} {l l' : List En}
theorem PN.size (h : PN w base bd g V N l) : g < w.heap.size := (Array.getElem?_eq_some_iff.1 h.obj).1
theorem PN.cell (h : PN w base bd g V N l) : w.cell? ⟨g, 0, none⟩ = some V := by rw [cell_of_row w g 0 _ 40 (0, 0) h.obj]; rfl
theorem PN.free (h : PN w base bd g V N l) : w.frozen? ⟨g, 0, none⟩ = false := frozen_of_row w g 0 _ 40 h.obj
theorem PN.ne_row (h : PN w base bd g V N l) : some g ≠ V.ownBlock := fun e => by
  obtain ⟨cur, hc⟩ := own_type h.row e.symm
  rw [h.obj] at hc; injection hc with hc; injection hc with _ hc; cases hc
theorem PN.sub (h : PN w base bd g V N l) (hn : NE l N') : PN w base bd g V N' l := ⟨h.ge, h.obj, h.row, h.els, hn⟩
theorem PN.hi (h : PN w base bd g V N l) : PN w base w.heap.size g V N l := ⟨h.ge, h.obj, h.row, fun e he => (h.els e he).hi, h.ne⟩
theorem PN.mono {bd' : Nat} (h : PN w base bd g V N l) (hb : bd ≤ bd') : PN w base bd' g V N l := ⟨h.ge, h.obj, h.row, fun e he => (h.els e he).mono hb, h.ne⟩
theorem PN.ints (h : PN w base bd g V N l) {k : Nat} {cur : Array Value} (hk : w.heap[k]? = some (.cells cur 3 (0, 0))) : k ≠ g ∧ some k ≠ V.ownBlock := by
  refine ⟨fun e => ?_, fun e => ?_⟩
  · rw [e, h.obj] at hk; injection hk with hk; injection hk with _ hk; cases hk
  · obtain ⟨cur2, hc⟩ := own_type h.row e.symm
    rw [hk] at hc; injection hc with hc; injection hc with _ hc; cases hc
theorem PN.all (h : PN w base bd g V N l) (hm : ∀ k, k < w.heap.size → w'.heap[k]? = w.heap[k]?) : PN w' base bd g V N l :=
  ⟨h.ge, (hm g h.size).trans h.obj, own_lift h.row fun b hb => by obtain ⟨cur, hc⟩ := own_type h.row hb; exact hm b (Array.getElem?_eq_some_iff.1 hc).1, fun e he => (h.els e he).keep fun k cur hk => hm k (Array.getElem?_eq_some_iff.1 hk).1, h.ne⟩
theorem PN.drawn (h : PN w base bd g V N l) (hd : Drawn0 w w') : PN w' base bd g V N l := by obtain ⟨n, rfl⟩ := hd; exact h.all fun _ _ => rfl
/-- another one's work leaves it, where it writes neither the block, the row, nor old rows of numbers. -/
theorem PN.kept (h : PN w base bd g V N l) (hg : w'.heap[g]? = w.heap[g]?) (hr : ∀ b, V.ownBlock = some b → w'.heap[b]? = w.heap[b]?) (he : ∀ k, k < bd → w'.heap[k]? = w.heap[k]?) : PN w' base bd g V N l :=
  ⟨h.ge, hg.trans h.obj, own_lift h.row hr, fun e hel => ⟨q_move (h.els e hel).1 fun k hk => he k ((h.els e hel).2 k hk), (h.els e hel).2⟩, h.ne⟩
/-- not empty: the row has a block. -/
theorem PN.hm (h : PN w base bd g V N l) (hp : 0 < l.length) : ∃ ga cap, V = .slice (some ⟨ga, 0, none⟩) l.length cap ∧ HM w ⟨g, 0, none⟩ base ga l.length cap bd N l := by
  rcases h.row.2 with ⟨rfl, h0⟩ | ⟨ga, cap, cur, rfl, r⟩
  · omega
  · exact ⟨ga, cap, rfl, h.cell, h.row, fun e => h.ne_row (by simp only [Value.ownBlock]; exact congrArg some e), h.els, h.ne⟩
/-- .. and behind a heap's work on the row. -/
theorem PN.of_hm {ga cap : Nat} (h : PN w base bd g (.slice (some ⟨ga, 0, none⟩) l.length cap) N l) (h' : HM w' ⟨g, 0, none⟩ base ga l.length cap bd N' l') (hg : w.grownBy w' (some ga)) (hb : base ≤ w.heap.size) :
    PN w' base bd g (.slice (some ⟨ga, 0, none⟩) l'.length cap) N' l' ∧ PF base g (some ga) w w' := by
  have hl := h'.len
  refine ⟨⟨h.ge, by rw [hl]; exact (hg.block g h.size (fun e => h'.pb (by injection e))).trans h.obj, by rw [hl]; exact h'.row, h'.els, h'.ne⟩, PF.grown hg hb (h.row.lt ga rfl).1⟩
theorem own_form2 {w : World} {base : Nat} {e : TypeId} {size n : Nat} {v : Value} {xs : List Value} (h : w.ownsRow base e size v n xs) : ∃ A cap, v = .slice A n cap := by
  rcases h.2 with ⟨rfl, rfl⟩ | ⟨g, cap, cur, rfl, r⟩
  · exact ⟨_, _, rfl⟩
  · exact ⟨_, _, rfl⟩
theorem own_base {w : World} {base : Nat} {e : TypeId} {size n : Nat} {v : Value} {xs : List Value} (h : w.ownsRow base e size v n xs) : ∀ k, v.ownBlock = some k → base ≤ k := fun k hk => (h.lt k hk).1
theorem info22_ : (Try.prog.info? 22).map (fun i => (i.zero, i.size, i.bytes)) = some (some (.slice none 0 0), 1, 24) := by kernel_rfl
theorem grown_drew {a b : World} {row : Option Nat} (h : a.drew.grownBy b row) : a.grownBy b row := ⟨h.os, h.tape, h.output, h.size, h.block⟩
/-- the header is stored anew, the row having grown or being new. -/
theorem PN.store (h : PN w base bd g V N l) (hg : w.grownBy w3 V.ownBlock) (hb : base ≤ w.heap.size) (hr : w3.ownsRow base 22 1 V' l'.length (l'.map En.v)) (hel : ∀ e ∈ l', EM w base bd e) (hne : NE l' N') :
    PN (w3.setCell ⟨g, 0, none⟩ V') base bd g V' N' l' ∧ PF base g V.ownBlock w (w3.setCell ⟨g, 0, none⟩ V') ∧ w3.cell? ⟨g, 0, none⟩ = some V ∧ w3.frozen? ⟨g, 0, none⟩ = false := by
  have ho := (hg.block g h.size h.ne_row).trans h.obj
  have far : ∀ k, k ≠ g → (w3.setCell ⟨g, 0, none⟩ V').heap[k]? = w3.heap[k]? := fun k hk => heap_setCell_other w3 ⟨g, 0, none⟩ k _ hk
  refine ⟨⟨h.ge, heap_setCell_same w3 g 0 _ 40 _ ho, own_lift hr fun b hb' => far b fun e => ?_, fun e he => (hel e he).keep fun k cur hk => ?_, hne⟩, ⟨Below.setCell ((Below.refl _ _).grown hg hb (own_base h.row)) h.ge _, fun k o hk hkg hn => ?_⟩, by rw [cell_of_row w3 g 0 _ 40 (0, 0) ho]; rfl, frozen_of_row w3 g 0 _ 40 ho⟩
  · obtain ⟨cur, hc⟩ := own_type hr hb'
    rw [e, ho] at hc; injection hc with hc; injection hc with _ hc; cases hc
  · obtain ⟨k1, k2⟩ := h.ints hk
    rw [far k k1]; exact hg.block k (Array.getElem?_eq_some_iff.1 hk).1 k2
  · rw [far k hkg, hg.block k (Array.getElem?_eq_some_iff.1 hk).1 hn]
    exact hk
end
theorem ta_ (A : Option Addr) (n c : Nat) (w : World) : (Instr.typeAssert (.iface 22 (.slice A n c)) 20 22 false).run Try.prog w = .ok (.slice A n c) w := by kernel_rfl
def PushP (w : World) (base bd g : Nat) (V : Value) (l' : List En) (e : Ending) (w' : World) : Prop := ∃ V', e = .returned (.tuple #[]) ∧ PN w' base bd g V' l'.length l' ∧ PF base g V.ownBlock w w' ∧ Ow V.ownBlock V'.ownBlock w
theorem ne_snoc {l : List En} {x : En} (h : NE l l.length) (hx : x.xs ≠ []) : NE (l ++ [x]) (l ++ [x]).length := fun k e hk he => by
  by_cases hkl : k < l.length
  · rw [List.getElem?_append_left hkl] at he; exact h k e hkl he
  · rw [List.length_append] at hk
    simp only [List.length_cons, List.length_nil] at hk
    rw [List.getElem?_append_right (by omega), show k - l.length = 0 by omega] at he
    injection he with he; subst he; exact hx
/-- append, under a word that the walk does not open. -/
def app_off (a : Array TypeId) (t : TypeId) (x : Array Value) : Sem Value := Builtin.append_ a t x
theorem app_hide (a : Array TypeId) (t : TypeId) (x : Array Value) : Builtin.append_ a t x = app_off a t x := rfl
section
attribute [local go_sem ↓ high] app_hide
set_option maxHeartbeats 4000000 in
set_option maxRecDepth 100000 in
theorem lpush_ (w : World) (base bd g : Nat) (V : Value) (l : List En) (x : En) (h : PN w base bd g V l.length l) (hx : EM w base bd x) (hxn : x.xs ≠ []) (hn : l.length ≤ 70000) (hb : base ≤ w.heap.size) :
    Calls Try.prog 50 #[.pointer (some ⟨g, 0, none⟩), .iface 22 x.v] w (PushP w base bd g V (l ++ [x])) := by
  obtain ⟨A, cp, hV⟩ := own_form2 h.row
  subst hV
  obtain ⟨xA, xc, hxv⟩ := hx.form
  have hc := h.cell
  have lg := h.size
  obtain ⟨i0, hi0, hz0, hz1, hz2⟩ := info_parts info22_
  have hcz : ((w.alloc (.cells #[x.v] 22 (0, 0))).drew).cell? ⟨g, 0, none⟩ = some (.slice A l.length cp) := (World.cell?_of_block (heap_alloc_old w _ lg)).trans hc
  have hnw := World.news_of_block (w := (w.alloc (.cells #[x.v] 22 (0, 0))).drew) (cs := #[x.v]) (t := 22) (fr := (0, 0)) (heap_alloc_new w _)
  obtain ⟨V1, w3, hrun, hown1, hgrow, -, hat⟩ := run_append_own_at (P := Try.prog) ((w.alloc (.cells #[x.v] 22 (0, 0))).drew) base 40 40 22 i0 _ 1 24 Try.underlying40 hi0 hz0 hz1 hz2 rfl (by decide) (.slice A l.length cp) l.length (l.map En.v) ((h.row.alloc _).drew)
        ⟨w.heap.size, 0, none⟩ 1 1 [x.v] (by rfl) hnw (by rw [hxv]; simp [Value.oneCell']) (by simp only [maxLen]; omega) (by omega) (by simp; omega)
  rw [app_hide] at hrun
  obtain ⟨A1, cap2, rfl⟩ := own_form2 hown1
  have hgr : w.grownBy w3 (Value.slice A l.length cp).ownBlock := World.grownBy.trans (World.grownBy_alloc w _ _) (grown_drew hgrow)
  have hres := h.store hgr hb (V' := .slice A1 (l.length + 1) cap2) (l' := l ++ [x]) (N' := (l ++ [x]).length) (by rw [List.length_append, List.map_append]; exact hown1) (fun e he => by
    rcases List.mem_append.1 he with he | he
    · exact h.els e he
    · rw [List.mem_singleton] at he; subst he; exact hx) (ne_snoc h.ne hxn)
  obtain ⟨hfin1, hfin2, hc3, hf3⟩ := hres
  have how : Ow (Value.slice A l.length cp).ownBlock (Value.slice A1 (l.length + 1) cap2).ownBlock w := by
    rcases hat with e | e
    · exact .inl e
    · exact .inr ⟨_, e, by simp⟩
  have HFIN := Aside0.mk (And.intro hfin1 (And.intro hfin2 how))
  clear hfin1 hfin2 how hat
  rw [hxv] at hcz hnw hrun hgrow ⊢
  have hta := ta_ xA x.xs.length xc
  generalize x.xs.length = xn at *
  clear hxv
  go_enter Try.func50, Try.ntmps50
  go_wp2
  go_region
  all_goals
    go_wp2
    go_end0
    exact ⟨_, rfl, HFIN.out.1, HFIN.out.2.1, HFIN.out.2.2⟩
end
theorem list_snoc {α : Type} (l : List α) (m : Nat) (h : l.length = m + 1) : ∃ x, l = l.take m ++ [x] ∧ l[m]? = some x := by
  have hx : l[m]? = some (l[m]'(by omega)) := List.getElem?_eq_getElem _
  refine ⟨l[m]'(by omega), ?_, hx⟩
  conv => lhs; rw [← List.take_append_drop m l]
  congr 1
  rw [List.drop_eq_getElem_cons (by omega), List.drop_eq_nil_of_le (by omega)]
def LPopP (w : World) (base bd g : Nat) (V : Value) (l' : List En) (x : En) (e : Ending) (w' : World) : Prop := ∃ V', e = .returned (.iface 22 x.v) ∧ PN w' base bd g V' l'.length l' ∧ PF base g V.ownBlock w w' ∧ V'.ownBlock = V.ownBlock
set_option maxHeartbeats 4000000 in
set_option maxRecDepth 100000 in
theorem lpop_ (w : World) (base bd g : Nat) (V : Value) (l : List En) (x : En) (N : Nat) (h : PN w base bd g V N (l ++ [x])) (hN : l.length ≤ N) (hn : l.length ≤ 70000) (hb : base ≤ w.heap.size) :
    Calls Try.prog 49 #[.pointer (some ⟨g, 0, none⟩)] w (LPopP w base bd g V l x) := by
  obtain ⟨ga, cap, hV, hm⟩ := h.hm (by simp)
  subst hV
  have hlen : (l ++ [x]).length = l.length + 1 := by simp
  rw [hlen] at hm
  obtain ⟨x2, hx2, hem, hcell⟩ := hm.get l.length (by omega)
  obtain rfl : x = x2 := by rw [List.getElem?_append_right (Nat.le_refl _), Nat.sub_self] at hx2; injection hx2
  obtain ⟨xA, xc, hxv⟩ := hem.form
  have hd := hm.hd
  have lcap : l.length + 1 ≤ cap := by
    rcases hm.row.2 with ⟨h0, _⟩ | ⟨g', cap', cur, he, _, _, hnc, _⟩
    · cases h0
    · injection he with _ _ he; subst he; exact hnc
  have lmax : cap ≤ 9223372036854775807 := by
    rcases hm.row.2 with ⟨h0, _⟩ | ⟨g', cap', cur, he, _, _, _, hcm, _⟩
    · cases h0
    · injection he with _ _ he; subst he; unfold maxLen at hcm; exact hcm
  have hrow := own_take (m := l.length) hm.row (by omega)
  rw [Nat.mul_one, List.map_append, List.take_left' (by simp)] at hrow
  obtain ⟨hfin1, hfin2, hc3, hf3⟩ := h.store (World.grownBy.refl w _) hb (V' := .slice (some ⟨ga, 0, none⟩) l.length cap) (l' := l) (N' := l.length) hrow (fun e he => h.els e (List.mem_append_left _ he)) (fun k e hk he => h.ne k e (by omega) (by rw [List.getElem?_append_left hk]; exact he))
  have HFIN := Aside0.mk (And.intro hfin1 hfin2)
  clear hfin1 hfin2 hrow
  obtain ⟨n1, hn1⟩ : ∃ n1, l.length + 1 = n1 := ⟨_, rfl⟩
  rw [hn1] at hd hm lcap
  have q0 : ((n1 : Nat) : Int) - 1 = (l.length : Int) := by omega
  have q1 : IntKind.i64.wrap ((n1 : Int) - 1) = (l.length : Int) := by rw [IntKind.wrap_i64]; omega
  have q2 : (0 : Int) ≤ (l.length : Int) := by omega
  have q3 : (l.length : Int) < (n1 : Int) := by omega
  have q4 : (l.length : Int) ≤ (cap : Int) := by omega
  clear hc3
  have HM_ := Aside0.mk hm
  have HN := Aside0.mk hn1
  clear hm hn1 hlen hx2 hem h
  rw [hxv] at hcell
  have HXV := Aside0.mk hxv
  clear hxv
  go_enter Try.func49, Try.ntmps49
  go_wp2
  go_ret
  exact ⟨_, (show Ending.returned (.iface 22 (.slice xA x.xs.length xc)) = _ by rw [HXV.out]), HFIN.out.1, HFIN.out.2, rfl⟩
end Go.Proofs.Ytckpgbkbbdifmaa.Ep
