import Derived.Test.YtbgkpjigkjdmcaaHeap
import Derived.WalkKit
import Derived.ProofKit
import Derived.Below
import Derived.WalkLawsBesides
import Derived.Deep.QuietTactic
import Derived.BigQuiet
import Derived.StillTailTactics
import Derived.Deep.AppendLies
import Derived.Deep.RegionHeld3
import Derived.KernelRfl
import Derived.BigRegion
import Derived.WalkSpells
import Derived.Deep.Slices
import Derived.Deep.Fields
import Derived.ChangeSame
import Derived.Deep.RegionLaw
import Derived.Deep.DrawnRows
import Derived.Maps.OwnSet
import Derived.Maps.Views
import Derived.Maps.Own
namespace Go.Proofs.Ytbgkpjigkjdmcaa.Ep
open Go Go.RowKit Go.Proofs.YtbgkpjigkjdmcaaW.PrintWords Go.Proofs.YtbgkpjigkjdmcaaW.PrintLast Go.Proofs.YtbgkpjigkjdmcaaW.PrintMore 
set_option linter.unusedVariables false
set_option linter.unusedSimpArgs false
open Go.ChangeMaps Go.MapKept Go.Maps
theorem keyed3 : Keyed Try.prog 3 := int_keyed Try.underlying3
theorem zero48 (w : World) : (zeroValue 48).run Try.prog w = .ok (.agg #[]) w := by kernel_rfl
/-- a set of numbers, in a map's block. -/
def MS (w : World) (gm c : Nat) (L : List Int) : Prop := ∃ D : DataW Unit, w.ownsMap Try.prog 3 unitElem gm c D ∧ ∀ k : Int, (Lit.int .i64 k).wf = true → (Maps.has D (.int .i64 k) = true ↔ k ∈ L)
theorem MS.keep {w w' : World} {gm c : Nat} {L : List Int} (h : MS w gm c L) (hk : w'.heap[gm]? = w.heap[gm]?) : MS w' gm c L := by
  obtain ⟨D, ⟨es, clock, hb, r⟩, h2⟩ := h
  exact ⟨D, ⟨es, clock, hk.trans hb, r⟩, h2⟩
theorem MS.perm {w : World} {gm c : Nat} {L L' : List Int} (h : MS w gm c L) (hp : L.Perm L') : MS w gm c L' := by
  obtain ⟨D, h1, h2⟩ := h
  exact ⟨D, h1, fun k hk => (h2 k hk).trans hp.mem_iff⟩
theorem MS.put {w : World} {gm c : Nat} {L : List Int} (h : MS w gm c L) (hc : c < 1000000) (x : Int) (hx : (Lit.int .i64 x).wf = true) :
    ∃ w', (Instr.mapUpdate 44 (.map (some gm)) (.int .i64 x) (.agg #[])).run Try.prog w = .ok () w' ∧ MS w' gm (c + 1) (L ++ [x]) ∧ w.mapTurned w' gm := by
  obtain ⟨D, h1, h2⟩ := h
  have hkey : keyOf Try.prog 3 (.int .i64 x) = some (.int .i64 x) := keyOf_int_mk Try.underlying3 hx
  obtain ⟨w', hr, ho, hm⟩ := h1.store keyed3 Try.underlying44 (by unfold maxLen; omega) hkey unitElem_mk
  refine ⟨w', hr, ⟨_, ho, fun k hk => ?_⟩, hm⟩
  by_cases e : k = x
  · subst e
    rw [has_put_same h1.isMap (by simp [WideAt.IsKeyLit, hx])]
    simp
  · rw [has_put_other (by intro e2; injection e2 with _ e2; exact e e2)]
    rw [h2 k hk]; simp [e]
theorem MS.del {w : World} {gm c : Nat} {L : List Int} (h : MS w gm c L) (x : Int) (hx : (Lit.int .i64 x).wf = true) (hnd : L.Nodup) :
    ∃ w', (Builtin.delete_ #[44, 3] 0 #[.map (some gm), .int .i64 x]).run Try.prog w = .ok (.tuple #[]) w' ∧ MS w' gm c (L.erase x) ∧ w.mapTurned w' gm := by
  obtain ⟨D, h1, h2⟩ := h
  have hkey : keyOf Try.prog 3 (.int .i64 x) = some (.int .i64 x) := keyOf_int_mk Try.underlying3 hx
  obtain ⟨w', hr, ho, hm⟩ := h1.drop keyed3 Try.underlying44 hkey 0
  refine ⟨w', hr, ⟨_, ho, fun k hk => ?_⟩, hm⟩
  by_cases e : k = x
  · subst e
    rw [has_del_same]
    simp [hnd.mem_erase_iff]
  · rw [has_del_other (by intro e2; injection e2 with _ e2; exact e e2)]
    rw [h2 k hk, hnd.mem_erase_iff]; simp [e]
theorem turned_block {w w' : World} {gm k : Nat} (h : w.mapTurned w' gm) (hk : k ≠ gm) : w'.heap[k]? = w.heap[k]? := by
  obtain ⟨es, clock, es', clock', hb, rfl⟩ := h
  exact heap_setBlock_other hb _ hk
/-- the pool. -/
structure PM (w : World) (base g gm : Nat) (most : Int) (c : Nat) (V : Value) (L : List Int) : Prop where
  gmb : base ≤ gm
  gmn : gm ≠ g
  pn : ∃ l, PN w base g most (.map (some gm)) V l ∧ Heap id l l.length ∧ l.Perm L
  ms : MS w gm c L
  srt : L.Pairwise (· < ·)
  rng : ∀ x ∈ L, 0 ≤ x ∧ x < most
  mst : most ≤ 65535
theorem PM.nodup {w : World} {base g gm : Nat} {most : Int} {c : Nat} {V : Value} {L : List Int} (h : PM w base g gm most c V L) : L.Nodup := h.srt.imp fun {a b} hab => by omega
theorem map_obj {w : World} {gm c : Nat} {L : List Int} (h : MS w gm c L) : ∃ es cl, w.heap[gm]? = some (.map es cl) := by
  obtain ⟨D, ⟨es, clock, hb, _⟩, _⟩ := h
  exact ⟨es, clock, hb⟩
theorem sorted_len : ∀ (L : List Int) (a b : Int), L.Pairwise (· < ·) → (∀ x ∈ L, a ≤ x ∧ x < b) → (L.length : Int) ≤ max 0 (b - a)
  | [], _, _, _, _ => by simp; omega
  | x :: L, a, b, hp, hr => by
    have h1 := hr x List.mem_cons_self
    have h2 := sorted_len L (x + 1) b (List.pairwise_cons.1 hp).2 fun y hy => by
      have := (List.pairwise_cons.1 hp).1 y hy
      have := hr y (List.mem_cons_of_mem _ hy)
      omega
    simp only [List.length_cons]; omega
theorem PM.len_le {w : World} {base g gm : Nat} {most : Int} {c : Nat} {V : Value} {L : List Int} (h : PM w base g gm most c V L) : L.length ≤ 65535 := by
  have := sorted_len L 0 most h.srt h.rng
  have := h.mst
  omega
theorem PM.hdr {w : World} {base g gm : Nat} {most : Int} {c : Nat} {V : Value} {L : List Int} (h : PM w base g gm most c V L) : w.cell? ⟨g, 0, none⟩ = some (.int .i64 most) ∧ w.cell? ⟨g, 1, none⟩ = some V ∧ w.cell? ⟨g, 2, none⟩ = some (.map (some gm)) ∧ ∃ A cap, V = .slice A L.length cap := by
  obtain ⟨l, hp, _, hperm⟩ := h.pn
  obtain ⟨h0, h1, h2⟩ := cell3 hp.obj
  obtain ⟨A, cap, e⟩ := own_form2 hp.row
  exact ⟨h0, h1, h2, A, cap, by rw [e, hperm.length_eq]⟩
theorem PM.all {w w' : World} {base g gm : Nat} {most : Int} {c : Nat} {V : Value} {L : List Int} (h : PM w base g gm most c V L) (hm : ∀ k, k < w.heap.size → w'.heap[k]? = w.heap[k]?) : PM w' base g gm most c V L := by
  obtain ⟨l, hp, hh, hperm⟩ := h.pn
  obtain ⟨es, cl, hmo⟩ := map_obj h.ms
  exact ⟨h.gmb, h.gmn, ⟨l, ⟨hp.ge, (hm g hp.size).trans hp.obj, own_lift hp.row fun b hb => by
    obtain ⟨cur, hc⟩ := own_type hp.row hb; exact hm b (Array.getElem?_eq_some_iff.1 hc).1⟩, hh, hperm⟩, h.ms.keep (hm gm (Array.getElem?_eq_some_iff.1 hmo).1), h.srt, h.rng, h.mst⟩
/-- what is not the pool's own stays. -/
structure TP (base g gm : Nat) (R : Option Nat) (w w' : World) : Prop where
  below : Below base w w'
  others : ∀ (k : Nat) (o : Obj), w.heap[k]? = some o → k ≠ g → k ≠ gm → some k ≠ R → w'.heap[k]? = some o
theorem TP.drawn {base g gm : Nat} {R : Option Nat} {a b : World} (h : Drawn0 a b) : TP base g gm R a b := by
  obtain ⟨n, rfl⟩ := h
  exact ⟨pw_below_drewN (Below.refl _ _) n, fun k o ho _ _ _ => by exact ho⟩
theorem PM.base_le {w : World} {base g gm : Nat} {most : Int} {c : Nat} {V : Value} {L : List Int} (h : PM w base g gm most c V L) : base ≤ w.heap.size := by
  obtain ⟨l, hp, _, _⟩ := h.pn
  have := hp.size; have := hp.ge; omega
theorem PM.drawn {w w' : World} {base g gm : Nat} {most : Int} {c : Nat} {V : Value} {L : List Int} (h : PM w base g gm most c V L) (hd : Drawn0 w w') : PM w' base g gm most c V L := by
  obtain ⟨n, rfl⟩ := hd
  exact h.all fun _ _ => rfl
theorem plen_ (w : World) (base g gm : Nat) (most : Int) (c : Nat) (V : Value) (L : List Int) (v : Int) (h : PM w base g gm most c V L) (hv : (L.length : Int) = v) :
    Calls Try.prog 14 #[.pointer (some ⟨g, 0, none⟩)] w fun e w' => e = .returned (.int .i64 v) ∧ w = w' := by
  obtain ⟨h0, h1, h2, A, cap, rfl⟩ := h.hdr
  subst hv
  go_enter Try.func14, Try.ntmps14
  go_wp2
  go_ret
  exact ⟨rfl, rfl⟩
set_option maxHeartbeats 1000000 in
theorem has_ (w : World) (base g gm : Nat) (most : Int) (c : Nat) (V : Value) (L : List Int) (x : Int) (b : Bool) (h : PM w base g gm most c V L) (hx : (Lit.int .i64 x).wf = true) (hb : decide (x ∈ L) = b) :
    Calls Try.prog 13 #[.pointer (some ⟨g, 0, none⟩), .int .i64 x] w fun e w' => e = .returned (.bool b) ∧ PM w' base g gm most c V L ∧ Below w.heap.size w w' := by
  obtain ⟨h0, h1, h2, A, cap, rfl⟩ := h.hdr
  obtain ⟨D, hD, hmem⟩ := h.ms
  have hkey : keyOf Try.prog 3 (.int .i64 x) = some (.int .i64 x) := keyOf_int_mk Try.underlying3 hx
  have hv : Maps.has D (.int .i64 x) = b := by
    rw [← hb]
    have := hmem x hx
    cases hh : Maps.has D (.int .i64 x) with
    | true => exact (decide_eq_true (this.1 hh)).symm
    | false => exact (decide_eq_false fun e => by rw [this.2 e] at hh; cases hh).symm
  have HV := Aside0.mk hv
  have HM_ := Aside0.mk h
  have HD := Aside0.mk hD
  clear hv hmem hb h hD
  go_enter Try.func13, Try.ntmps13
  go_wp2_with (at_lookup; refine wpList_lookup_own_unit _ rfl _ _ 44 rfl 3 48 keyed3 Try.underlying44 (zero48 _) gm c D rfl HD.out _ _ rfl hkey ?_)
  go_ret
  exact ⟨by first | rfl | (rw [← HV.out]; rfl), HM_.out.all fun k hk => heap_alloc_old w _ hk, (Below.refl _ _).alloc (Nat.le_refl _) _⟩
def NewP (w : World) (most : Int) (e : Ending) (w' : World) : Prop := ∃ g gm, e = .returned (.tuple #[.pointer (some ⟨g, 0, none⟩), .int .i64 0]) ∧ PM w' w.heap.size g gm most 0 (.slice none 0 0) [] ∧ Below w.heap.size w w'
theorem NewP.mk {w : World} {most : Int} {e : Ending} {w' : World} (g gm : Nat) (he : e = .returned (.tuple #[.pointer (some ⟨g, 0, none⟩), .int .i64 0])) (h : PM w' w.heap.size g gm most 0 (.slice none 0 0) []) (hb : Below w.heap.size w w') : NewP w most e w' := ⟨g, gm, he, h, hb⟩
theorem new_ (w : World) (most : Int) (h0 : 0 ≤ most) (h1 : most ≤ 65535) : Calls Try.prog 8 #[.int .i64 most] w (NewP w most) := by
  have d1 : decide (most < 0) = false := decide_eq_false (by omega)
  have d2 : decide (65535 < most) = false := decide_eq_false (by omega)
  have hmm := @run_makeMap Try.prog
  go_enter Try.func8, Try.ntmps8
  go_wp2
  go_ret2
  refine NewP.mk _ w.heap.size rfl ?_ (((Below.refl _ _).alloc (Nat.le_refl _) _).alloc (by simp) _)
  have hob : ((w.alloc (.map #[] 0)).alloc (.cells #[.int .i64 most, .slice none 0 0, .map (some w.heap.size)] 47)).heap[w.heap.size + 1]? = some (.cells #[.int .i64 most, .slice none 0 0, .map (some w.heap.size)] 47 (0, 0)) := by
    have := heap_alloc_new (w.alloc (.map #[] 0)) (.cells #[.int .i64 most, .slice none 0 0, .map (some w.heap.size)] 47)
    simpa using this
  refine ⟨Nat.le_refl _, by simp, ⟨[], ⟨by simp, by simpa using hob, World.ownsRow_nil _ _ _ _⟩, fun k hk => by simp at hk, List.Perm.refl _⟩, ⟨.map [], (World.ownsMap_made w Try.prog 3 unitElem).alloc _, fun k hk => by simp [Maps.has]⟩, List.Pairwise.nil, by simp, h1⟩
theorem new_bad (w : World) (most : Int) (h : ¬ (0 ≤ most ∧ most ≤ 65535)) : Calls Try.prog 8 #[.int .i64 most] w fun e w' => e = .returned (.tuple #[.pointer none, .int .i64 1]) ∧ w = w' := by
  by_cases h1 : most < 0
  · have d1 : decide (most < 0) = true := decide_eq_true h1
    go_enter Try.func8, Try.ntmps8
    go_wp2
    go_ret2
    exact ⟨rfl, rfl⟩
  · have d1 : decide (most < 0) = false := decide_eq_false h1
    have d2 : decide (65535 < most) = true := decide_eq_true (by omega)
    go_enter Try.func8, Try.ntmps8
    go_wp2
    go_ret2
    exact ⟨rfl, rfl⟩
theorem TP.of_pf {base g gm : Nat} {R : Option Nat} {w w' : World} (h : PF base g R w w') : TP base g gm R w w' := ⟨h.below, fun k o ho h1 _ h3 => h.others k o ho h1 h3⟩
theorem TP.turned {base g gm : Nat} {R : Option Nat} {w w' : World} (h : w.mapTurned w' gm) (hb : base ≤ w.heap.size) (hg : base ≤ gm) : TP base g gm R w w' :=
  ⟨(Below.refl _ _).grown h.grown hb (fun k hk => by injection hk with hk; subst hk; exact hg), fun k o ho _ h2 _ => (turned_block h h2).trans ho⟩
theorem TP.trans {base g gm : Nat} {R R1 : Option Nat} {a b c : World} (h : TP base g gm R a b) (ho : Ow R R1 a) (h2 : TP base g gm R1 b c) : TP base g gm R a c :=
  ⟨h.below.trans h2.below, fun k o hk hg hgm hn => h2.others k o (h.others k o hk hg hgm hn) hg hgm fun e => by
    rcases ho with e2 | ⟨b', e2, hb⟩
    · exact hn (e.trans e2)
    · rw [e2] at e; injection e with e
      have := (Array.getElem?_eq_some_iff.1 hk).1; omega⟩
/-- a number is put in its place. -/
def ins (x : Int) : List Int → List Int
  | [] => [x]
  | y :: l => if x < y then x :: y :: l else y :: ins x l
theorem ins_perm (x : Int) : ∀ l, (ins x l).Perm (l ++ [x])
  | [] => List.Perm.refl _
  | y :: l => by
    unfold ins; split
    · exact (List.perm_append_comm (l₁ := [x]) (l₂ := y :: l))
    · exact (ins_perm x l).cons y
theorem ins_mem (x : Int) (l : List Int) (z : Int) : z ∈ ins x l ↔ z = x ∨ z ∈ l := by
  rw [(ins_perm x l).mem_iff]; simp; exact or_comm
theorem ins_sorted (x : Int) : ∀ l : List Int, l.Pairwise (· < ·) → x ∉ l → (ins x l).Pairwise (· < ·)
  | [], _, _ => List.pairwise_singleton _ _
  | y :: l, hp, hx => by
    obtain ⟨h1, h2⟩ := List.pairwise_cons.1 hp
    unfold ins; split
    · next hlt =>
      refine List.pairwise_cons.2 ⟨fun z hz => ?_, hp⟩
      rcases List.mem_cons.1 hz with rfl | hz
      · exact hlt
      · have := h1 z hz; omega
    · next hlt =>
      have hxy : x ≠ y := fun e => hx (by rw [e]; exact List.mem_cons_self)
      refine List.pairwise_cons.2 ⟨fun z hz => ?_, ins_sorted x l h2 fun h => hx (List.mem_cons_of_mem _ h)⟩
      rcases (ins_mem x l z).1 hz with rfl | hz
      · omega
      · exact h1 z hz
theorem ins_length (x : Int) (l : List Int) : (ins x l).length = l.length + 1 := by rw [(ins_perm x l).length_eq]; simp
def putB (most x : Int) (L : List Int) : Bool := decide (0 ≤ x ∧ x < most ∧ x ∉ L)
def putL (most x : Int) (L : List Int) : List Int := if 0 ≤ x ∧ x < most ∧ x ∉ L then ins x L else L
/-- the pool behind a call: its numbers, its frame. -/
def After (w : World) (base g gm : Nat) (most : Int) (c : Nat) (V : Value) (L' : List Int) (r : Value) (e : Ending) (w' : World) : Prop :=
  ∃ V', e = .returned r ∧ PM w' base g gm most c V' L' ∧ TP base g gm V.ownBlock w w' ∧ Ow V.ownBlock V'.ownBlock w
theorem After.mk {w : World} {base g gm : Nat} {most : Int} {c : Nat} {V : Value} {L' : List Int} {r : Value} {e : Ending} {w' : World} (V' : Value) (he : e = .returned r) (h1 : PM w' base g gm most c V' L') (h2 : TP base g gm V.ownBlock w w') (h3 : Ow V.ownBlock V'.ownBlock w) : After w base g gm most c V L' r e w' := ⟨V', he, h1, h2, h3⟩
theorem PM.more {w : World} {base g gm : Nat} {most : Int} {c c' : Nat} {V : Value} {L : List Int} (h : PM w base g gm most c V L) (hc : c ≤ c') : PM w base g gm most c' V L := by
  obtain ⟨D, h1, h2⟩ := h.ms
  exact ⟨h.gmb, h.gmn, h.pn, ⟨D, h1.mono hc, h2⟩, h.srt, h.rng, h.mst⟩
theorem below_tp {base g gm : Nat} {R : Option Nat} {w w' : World} (h : Below w.heap.size w w') (hb : base ≤ w.heap.size) : TP base g gm R w w' :=
  ⟨h.mono hb, fun k o ho _ _ _ => (h.block k (Array.getElem?_eq_some_iff.1 ho).1).trans ho⟩
set_option maxHeartbeats 2000000 in
set_option maxRecDepth 100000 in
theorem put_no (w : World) (base g gm : Nat) (most : Int) (c : Nat) (V : Value) (L : List Int) (x : Int) (h : PM w base g gm most c V L) (hx : (Lit.int .i64 x).wf = true) (hno : ¬ (0 ≤ x ∧ x < most ∧ x ∉ L)) :
    Calls Try.prog 9 #[.pointer (some ⟨g, 0, none⟩), .int .i64 x] w (After w base g gm most (c + 1) V L (.bool false)) := by
  obtain ⟨h0, h1, h2, A, cap, hV⟩ := h.hdr
  have HP := Aside0.mk h
  clear h1 h2 hV h
  by_cases hx0 : x < 0
  · have d1 : decide (x < 0) = true := decide_eq_true hx0
    go_enter Try.func9, Try.ntmps9
    go_wp2
    go_ret
    exact After.mk V rfl (HP.out.more (Nat.le_succ _)) (TP.drawn ⟨⟨0, rfl⟩⟩) (Ow.refl _ _)
  · have d1 : decide (x < 0) = false := decide_eq_false hx0
    by_cases hx1 : most ≤ x
    · have d2 : decide (most ≤ x) = true := decide_eq_true hx1
      go_enter Try.func9, Try.ntmps9
      go_wp2
      go_ret
      exact After.mk V rfl (HP.out.more (Nat.le_succ _)) (TP.drawn ⟨⟨0, rfl⟩⟩) (Ow.refl _ _)
    · have d2 : decide (most ≤ x) = false := decide_eq_false hx1
      have hin : decide (x ∈ L) = true := decide_eq_true (by
        by_cases e : x ∈ L
        · exact e
        · exact absurd ⟨by omega, by omega, e⟩ hno)
      have HI := Aside0.mk hin
      clear hin hno
      go_enter Try.func9, Try.ntmps9
      go_wp2_with (go_at_call 13; (with_reducible refine (has_ _ base g gm most c V L x true HP.out hx HI.out).mono ?_); rintro e w1 ⟨rfl, P1, B1⟩)
      go_ret
      exact After.mk V rfl (P1.more (Nat.le_succ _)) (below_tp B1 HP.out.base_le) (Ow.refl _ _)
theorem PN.keep {w w' : World} {base g : Nat} {most : Int} {M V : Value} {l : List Int} (h : PN w base g most M V l) (hg : w'.heap[g]? = w.heap[g]?) (hr : ∀ b, V.ownBlock = some b → w'.heap[b]? = w.heap[b]?) : PN w' base g most M V l :=
  ⟨h.ge, hg.trans h.obj, own_lift h.row hr⟩
theorem PM.gm_row {w : World} {base g gm : Nat} {most : Int} {c : Nat} {V : Value} {L : List Int} (h : PM w base g gm most c V L) : some gm ≠ V.ownBlock := fun e => by
  obtain ⟨l, hp, _, _⟩ := h.pn
  obtain ⟨cur, hc⟩ := own_type hp.row e.symm
  obtain ⟨es, cl, hmo⟩ := map_obj h.ms
  rw [hc] at hmo; injection hmo with hmo; cases hmo
set_option maxHeartbeats 2000000 in
set_option maxRecDepth 100000 in
theorem put_yes (w : World) (base g gm : Nat) (most : Int) (c : Nat) (V : Value) (L : List Int) (x : Int) (h : PM w base g gm most c V L) (hx : (Lit.int .i64 x).wf = true) (hc : c < 1000000) (hyes : 0 ≤ x ∧ x < most ∧ x ∉ L) :
    Calls Try.prog 9 #[.pointer (some ⟨g, 0, none⟩), .int .i64 x] w (After w base g gm most (c + 1) V (ins x L) (.bool true)) := by
  obtain ⟨h0, h1, h2, A, cap, hV⟩ := h.hdr
  have HP := Aside0.mk h
  have d1 : decide (x < 0) = false := decide_eq_false (by omega)
  have d2 : decide (most ≤ x) = false := decide_eq_false (by omega)
  have HI : Aside0 (decide (x ∈ L) = false) := ⟨decide_eq_false hyes.2.2⟩
  have HY := Aside0.mk hyes
  clear h1 hV h hyes
  go_enter Try.func9, Try.ntmps9
  go_wp2_with (first
    | (go_at_call 13; (with_reducible refine (has_ _ base g gm most c V L x false HP.out hx HI.out).mono ?_); rintro e w1 ⟨rfl, P1, B1⟩; have h2b := P1.hdr.2.2.1; obtain ⟨w2, hput, M2, T2⟩ := P1.ms.put hc x hx; obtain ⟨l, hp1, hh1, hperm1⟩ := P1.pn; have hp2 := hp1.keep (turned_block T2 (Ne.symm P1.gmn)) (fun b hb => turned_block T2 (fun e => P1.gm_row (by rw [← e]; exact hb.symm))); have hl7 : l.length < 70000 := (by rw [hperm1.length_eq]; have := P1.len_le; omega); have hb2 : base ≤ w2.heap.size := Nat.le_trans P1.base_le T2.grown.size)
    | (go_at_call 16; (with_reducible refine (hpush_ _ base g most _ V l x hp2 hh1 hl7 hb2).mono ?_); rintro e w3 ⟨V3, l3, rfl, P3, F3, O3, PP3, H3⟩))
  go_ret
  have hgm3 : w3.heap[gm]? = w2.heap[gm]? := by
    obtain ⟨es, cl, hmo⟩ := map_obj M2
    rw [hmo]; exact F3.others gm _ hmo P1.gmn P1.gm_row
  refine After.mk V3 rfl ⟨P1.gmb, P1.gmn, ⟨l3, P3, H3, PP3.trans ((hperm1.append_right [x]).trans (ins_perm x L).symm)⟩, (M2.keep hgm3).perm (ins_perm x L).symm, ins_sorted x L P1.srt HY.out.2.2, fun y hy => ?_, P1.mst⟩ ?_ ?_
  · rcases (ins_mem x L y).1 hy with rfl | hy
    · exact ⟨HY.out.1, HY.out.2.1⟩
    · exact P1.rng y hy
  · exact (below_tp B1 HP.out.base_le).trans (Ow.refl _ _) ((TP.turned T2 P1.base_le P1.gmb).trans (Ow.refl _ _) (TP.of_pf F3))
  · exact (Ow.refl _ _).trans ((Ow.refl V.ownBlock w1).trans O3 T2.grown.size) B1.size
theorem put_ (w : World) (base g gm : Nat) (most : Int) (c : Nat) (V : Value) (L : List Int) (x : Int) (b : Bool) (L' : List Int) (h : PM w base g gm most c V L) (hx : (Lit.int .i64 x).wf = true) (hc : c < 1000000) (hb : putB most x L = b) (hl : putL most x L = L') :
    Calls Try.prog 9 #[.pointer (some ⟨g, 0, none⟩), .int .i64 x] w (After w base g gm most (c + 1) V L' (.bool b)) := by
  subst hb hl
  by_cases hy : 0 ≤ x ∧ x < most ∧ x ∉ L
  · rw [show putB most x L = true from decide_eq_true hy, show putL most x L = _ from if_pos hy]; exact put_yes w base g gm most c V L x h hx hc hy
  · rw [show putB most x L = false from decide_eq_false hy, show putL most x L = L from if_neg hy]; exact put_no w base g gm most c V L x h hx hy
theorem take_none (w : World) (base g gm : Nat) (most : Int) (c : Nat) (V : Value) (h : PM w base g gm most c V []) :
    Calls Try.prog 10 #[.pointer (some ⟨g, 0, none⟩)] w (After w base g gm most c V [] (.tuple #[.int .i64 0, .bool false])) := by
  obtain ⟨h0, h1, h2, A, cap, hV⟩ := h.hdr
  have HP := Aside0.mk h
  rw [hV, show ([] : List Int).length = 0 from rfl] at h1
  clear hV h
  go_enter Try.func10, Try.ntmps10
  go_wp2
  go_ret2
  exact After.mk V rfl HP.out (TP.drawn ⟨⟨0, rfl⟩⟩) (Ow.refl _ _)
set_option maxHeartbeats 2000000 in
set_option maxRecDepth 100000 in
theorem take_some (w : World) (base g gm : Nat) (most : Int) (c : Nat) (V : Value) (x : Int) (L : List Int) (h : PM w base g gm most c V (x :: L)) :
    Calls Try.prog 10 #[.pointer (some ⟨g, 0, none⟩)] w (After w base g gm most c V L (.tuple #[.int .i64 x, .bool true])) := by
  obtain ⟨h0, h1, h2, A, cap, hV⟩ := h.hdr
  obtain ⟨l, hp, hh, hperm⟩ := h.pn
  obtain ⟨n, hn⟩ : ∃ n, (x :: L).length = n := ⟨_, rfl⟩
  have hln : l.length = n := by rw [hperm.length_eq]; exact hn
  have hn0 : 0 < n := by rw [← hn]; simp
  have hl7 : l.length < 70000 := by rw [hperm.length_eq]; have := h.len_le; omega
  rw [hV, hn] at h1
  have t1 : ((n : Int) == 0) = false := beq_eq_false_iff_ne.mpr (by omega)
  have hxw : (Lit.int .i64 x).wf = true := by
    have := h.rng x List.mem_cons_self
    have := h.mst
    exact WalkArith.wf_i64 (by omega)
  have HP := Aside0.mk h
  have HL := Aside0.mk hln
  have hb := h.base_le
  have hpos : 0 < l.length := by omega
  have hta := ta2_ x
  have hkey : keyOf Try.prog 3 (.int .i64 x) = some (.int .i64 x) := keyOf_int_mk Try.underlying3 hxw
  clear hn h hln
  go_enter Try.func10, Try.ntmps10
  go_wp2_with (first
    | (go_at_call 17; (with_reducible refine (hpop_ _ base g most _ V l hp hh hpos hl7 hb).mono ?_); rintro e w1 ⟨V1, l1, y, rfl, P1, F1, O1, PP1, H1, M1⟩; obtain rfl : x = y := (by
        have hy : y ∈ x :: L := (hperm.mem_iff).1 ((PP1.mem_iff).2 List.mem_cons_self)
        have hx1 : x ∈ y :: l1 := (PP1.mem_iff).1 ((hperm.mem_iff).2 List.mem_cons_self)
        rcases List.mem_cons.1 hx1 with e | e
        · exact e
        · have q1 := M1 x e
          rcases List.mem_cons.1 hy with e2 | e2
          · exact e2.symm
          · have q2 := (List.pairwise_cons.1 HP.out.srt).1 y e2; omega); have h2b := (cell3 P1.obj).2.2; have hms1 : MS w1 gm c (x :: L) := HP.out.ms.keep (by obtain ⟨es, cl, hmo⟩ := map_obj HP.out.ms; rw [hmo]; exact F1.others gm _ hmo HP.out.gmn HP.out.gm_row); obtain ⟨D1, hD1, hmem1⟩ := hms1)
    | (at_delete; refine wpList_delete_own _ rfl _ _ 44 3 rfl 48 keyed3 Try.underlying44 unitElem gm c D1 rfl hD1 _ _ rfl hkey ?_; intro w2 hD2 T2))
  go_ret2
  have hxL : x ∉ L := fun e => by have := (List.pairwise_cons.1 HP.out.srt).1 x e; omega
  have hp2 := P1.keep (turned_block T2 (Ne.symm HP.out.gmn)) (fun b hb => turned_block T2 (fun e => by
    subst e
    obtain ⟨cur, hc⟩ := own_type P1.row hb
    obtain ⟨es, cl, hb1, _⟩ := hD1
    rw [hc] at hb1; injection hb1 with hb1; cases hb1))
  refine After.mk V1 rfl ⟨HP.out.gmb, HP.out.gmn, ⟨l1, hp2, H1, ((PP1.symm.trans hperm).cons_inv)⟩, ⟨_, hD2, fun k hk => ?_⟩, (List.pairwise_cons.1 HP.out.srt).2, fun y hy => HP.out.rng y (List.mem_cons_of_mem _ hy), HP.out.mst⟩ ?_ O1
  · by_cases e : k = x
    · subst e
      rw [has_del_same]
      simp [hxL]
    · rw [has_del_other (by intro e2; injection e2 with _ e2; exact e e2), hmem1 k hk]
      simp [e]
  · exact (TP.of_pf F1).trans O1 (TP.turned T2 (Nat.le_trans hb F1.below.size) HP.out.gmb)
/-- tendrilbook.Within, in plain words: a number brought into lo .. hi. -/
def within (n lo hi : Int) : Int := lo + n % (hi - lo + 1)
theorem within_bd (n lo hi : Int) (h : lo ≤ hi) : lo ≤ within n lo hi ∧ within n lo hi ≤ hi := by
  unfold within
  have h1 := Int.emod_nonneg n (show hi - lo + 1 ≠ 0 by omega)
  have h2 := Int.emod_lt_of_pos n (show 0 < hi - lo + 1 by omega)
  omega
theorem tmod_bd (n m : Int) (h : 0 < m) : -m < n.tmod m ∧ n.tmod m < m ∧ (n.tmod m < 0 → n % m = n.tmod m + m) ∧ (0 ≤ n.tmod m → n % m = n.tmod m) := by
  have e : n.tmod m = n - m * (n.tdiv m) := by have := Int.tmod_add_mul_tdiv n m; omega
  have h1 := Int.tmod_lt_of_pos n h
  have h2 : -m < n.tmod m := by
    have := Int.neg_tmod (a := n) (b := m)
    have h3 := Int.tmod_lt_of_pos (-n) h
    omega
  have em : (n.tmod m) % m = n % m := by rw [e, Int.sub_mul_emod_self_left]
  refine ⟨h2, h1, fun h0 => ?_, fun h0 => ?_⟩
  · rw [← em, ← Int.add_emod_right, Int.emod_eq_of_lt (by omega) (by omega)]
  · rw [← em, Int.emod_eq_of_lt (by omega) (by omega)]
set_option maxHeartbeats 1000000 in
set_option maxRecDepth 100000 in
theorem within_ (n lo hi : Int) (w : World) (h1 : -1000000 ≤ lo) (h2 : lo ≤ hi) (h3 : hi ≤ 1000000) :
    Calls Try.prog 15 #[.int .i64 n, .int .i64 lo, .int .i64 hi] w fun e w' => e = .returned (.int .i64 (within n lo hi)) ∧ w = w' := by
  obtain ⟨t1, t2, t3, t4⟩ := tmod_bd n (hi - lo + 1) (by omega)
  have c4b0 : ((hi - lo + 1) == 0) = false := beq_eq_false_iff_ne.mpr (by omega)
  have c4b1 : ((hi - lo + 1) != 0) = true := bne_iff_ne.mpr (by omega)
  obtain ⟨t, ht⟩ : ∃ t, n.tmod (hi - lo + 1) = t := ⟨_, rfl⟩
  rw [ht] at t1 t2 t3 t4
  by_cases c5 : t < 0
  · have hr : within n lo hi = lo + (t + hi - lo + 1) := by unfold within; rw [t3 c5]; omega
    have c5b0 : decide (t < 0) = true := decide_eq_true c5
    rw [hr]
    clear t3 t4 hr
    go_enter Try.func15, Try.ntmps15
    go_wp2
    go_ret
    exact ⟨rfl, rfl⟩
  · have hr : within n lo hi = lo + t := by unfold within; rw [t4 (by omega)]
    have c5b0 : decide (t < 0) = false := decide_eq_false c5
    rw [hr]
    clear t3 t4 hr
    go_enter Try.func15, Try.ntmps15
    go_wp2
    go_ret
    exact ⟨rfl, rfl⟩
theorem wf_small (x : Int) (h : -1000000 ≤ x ∧ x ≤ 1000000) : (Lit.int .i64 x).wf = true := WalkArith.wf_i64 (by omega)
theorem take_ (w : World) (base g gm : Nat) (most : Int) (c : Nat) (V : Value) (L : List Int) (v : Int) (b : Bool) (L' : List Int) (h : PM w base g gm most c V L) (hv : L.headD 0 = v) (hb : L.isEmpty = !b) (hl : L.tail = L') :
    Calls Try.prog 10 #[.pointer (some ⟨g, 0, none⟩)] w (After w base g gm most c V L' (.tuple #[.int .i64 v, .bool b])) := by
  subst hv hl
  cases L with
  | nil =>
    obtain rfl : b = false := by cases b <;> simp_all
    exact take_none w base g gm most c V h
  | cons x L =>
    obtain rfl : b = true := by cases b <;> simp_all
    exact take_some w base g gm most c V x L h
theorem After.below {w : World} {base g gm : Nat} {most : Int} {c : Nat} {V : Value} {L' : List Int} {r : Value} {e : Ending} {w' : World} (h : After w base g gm most c V L' r e w') : Below base w w' := by
  obtain ⟨V', _, _, h, _⟩ := h; exact h.below
set_option maxHeartbeats 4000000 in
set_option maxRecDepth 100000 in
theorem runs_ (w : World) : Calls Try.prog 3 #[] w fun e w' => e = .returned (.bool true) ∧ Below w.heap.size w w' := by
  go_enter Try.func3, Try.ntmps3
  go_wp2_with (first
    | (go_at_call 8; (with_reducible refine (new_ _ 5 (by decide) (by decide)).mono ?_); rintro e w1 ⟨g, gm, rfl, P1, T1⟩)
    | (go_at_call 9; (with_reducible refine (put_ _ w.heap.size g gm 5 0 _ [] 3 true [3] P1 (wf_small _ (by decide)) (by decide) (by decide) (by decide)).mono ?_); rintro e w2 ⟨V2, rfl, P2, T2, O2⟩)
    | (go_at_call 9; (with_reducible refine (put_ _ w.heap.size g gm 5 1 _ [3] 1 true [1, 3] P2 (wf_small _ (by decide)) (by decide) (by decide) (by decide)).mono ?_); rintro e w3 ⟨V3, rfl, P3, T3, O3⟩)
    | (go_at_call 9; (with_reducible refine (put_ _ w.heap.size g gm 5 2 _ [1, 3] 3 false [1, 3] P3 (wf_small _ (by decide)) (by decide) (by decide) (by decide)).mono ?_); rintro e w4 ⟨V4, rfl, P4, T4, O4⟩)
    | (go_at_call 10; (with_reducible refine (take_ _ w.heap.size g gm 5 3 _ [1, 3] 1 true [3] P4 rfl rfl rfl).mono ?_); rintro e w5 ⟨V5, rfl, P5, T5, O5⟩)
    | (go_at_call 10; (with_reducible refine (take_ _ w.heap.size g gm 5 3 _ [3] 3 true [] P5 rfl rfl rfl).mono ?_); rintro e w6 ⟨V6, rfl, P6, T6, O6⟩)
    | (go_at_call 10; (with_reducible refine (take_ _ w.heap.size g gm 5 3 _ [] 0 false [] P6 rfl rfl rfl).mono ?_); rintro e w7 ⟨V7, rfl, P7, T7, O7⟩))
  go_ret
  exact ⟨rfl, (((((T1.trans T2.below).trans T3.below).trans T4.below).trans T5.below).trans T6.below).trans T7.below⟩
theorem within_c (n lo hi v : Int) (w : World) (h1 : -1000000 ≤ lo) (h2 : lo ≤ hi) (h3 : hi ≤ 1000000) (hv : within n lo hi = v) :
    Calls Try.prog 15 #[.int .i64 n, .int .i64 lo, .int .i64 hi] w fun e w' => e = .returned (.int .i64 v) ∧ w = w' := by
  subst hv; exact within_ n lo hi w h1 h2 h3
end Go.Proofs.Ytbgkpjigkjdmcaa.Ep
