import Derived.Test.YtbgkpjigkjdmcaaPool
import Derived.WalkKit
import Derived.ProofKit
import Derived.Below
import Derived.WalkLawsBesides
import Derived.Deep.QuietTactic
import Derived.BigQuiet
import Derived.StillTailTactics
import Derived.Deep.AppendLies
import Derived.Deep.RegionHeld3
import Derived.KernelRfl
import Derived.BigRegion
import Derived.WalkSpells
import Derived.Deep.Slices
import Derived.Deep.Fields
import Derived.ChangeSame
import Derived.Deep.RegionLaw
import Derived.Deep.DrawnRows
import Derived.Deep.Upon
namespace Go.Proofs.Ytbgkpjigkjdmcaa.Ep
open Go Go.RowKit Go.Proofs.YtbgkpjigkjdmcaaW.PrintWords Go.Proofs.YtbgkpjigkjdmcaaW.PrintLast Go.Proofs.YtbgkpjigkjdmcaaW.PrintMore 
set_option linter.unusedVariables false
set_option linter.unusedSimpArgs false
/-- the document's own pool: a struct of two cells, its row. -/
structure RP (w : World) (base g : Nat) (most : Int) (V : Value) (L : List Int) : Prop where
  ge : base ≤ g
  obj : w.heap[g]? = some (.cells #[.int .i64 most, V] 34 (0, 0))
  row : QRow w base 3 1 V L.length (L.map (Value.int .i64))
theorem RP.cells {w : World} {base g : Nat} {most : Int} {V : Value} {L : List Int} (h : RP w base g most V L) : w.cell? ⟨g, 0, none⟩ = some (.int .i64 most) ∧ w.cell? ⟨g, 1, none⟩ = some V :=
  ⟨by rw [cell_of_row w g 0 _ 34 (0, 0) h.obj]; rfl, by rw [cell_of_row w g 1 _ 34 (0, 0) h.obj]; rfl⟩
theorem RP.size {w : World} {base g : Nat} {most : Int} {V : Value} {L : List Int} (h : RP w base g most V L) : g < w.heap.size := (Array.getElem?_eq_some_iff.1 h.obj).1
theorem RP.form {w : World} {base g : Nat} {most : Int} {V : Value} {L : List Int} (h : RP w base g most V L) : ∃ A c, V = .slice A L.length c ∧ L.length ≤ c := q_slice h.row
theorem rp_form1 {w : World} {base n : Nat} {A : Option Addr} {c : Nat} {xs : List Value} (h : QRow w base 3 1 (.slice A n c) n xs) (hn : 0 < n) :
    ∃ gb ob, A = some ⟨gb, ob, none⟩ ∧ n ≤ c ∧ c ≤ 9223372036854775807 ∧ (∀ j u, xs[j]? = some u → w.cell? ⟨gb, ob + j, none⟩ = some u) := by
  rcases h.2 with ⟨h0, _⟩ | ⟨g, off, cap, cur, hv, hb, hh, hnc, hm, hcs, ht⟩
  · omega
  · injection hv with ha _ hc
    subst ha; subst hc
    refine ⟨g, off * 1, rfl, hnc, by unfold maxLen at hm; omega, fun j u hu => ?_⟩
    obtain ⟨ad, he, hcell⟩ := q_cells h hn
    injection he with he; subst he
    have := hcell j u hu
    rwa [add_at] at this
/-- what is not the reference's own stays. -/
structure TR (base g : Nat) (R : Option Nat) (w w' : World) : Prop where
  below : Below base w w'
  others : ∀ (k : Nat) (o : Obj), w.heap[k]? = some o → k ≠ g → some k ≠ R → w'.heap[k]? = some o
theorem TR.refl (base g : Nat) (R : Option Nat) (w : World) : TR base g R w w := ⟨Below.refl _ _, fun _ _ h _ _ => h⟩
def kOf (x : Int) (L : List Int) : Nat := (L.takeWhile fun y => decide (y < x)).length
theorem kOf_le (x : Int) (L : List Int) : kOf x L ≤ L.length := (List.takeWhile_prefix _).length_le
theorem kOf_cons (x y : Int) (L : List Int) : kOf x (y :: L) = if y < x then kOf x L + 1 else 0 := by
  unfold kOf; rw [List.takeWhile_cons]; by_cases h : y < x <;> simp [h]
theorem kOf_lt (x : Int) : ∀ (L : List Int) (j : Nat) (y : Int), j < kOf x L → L[j]? = some y → y < x
  | [], j, y, h, _ => by simp [kOf] at h
  | z :: L, j, y, h, hy => by
    rw [kOf_cons] at h
    split at h
    · next hz =>
      cases j with
      | zero => injection hy with hy; omega
      | succ j => exact kOf_lt x L j y (by omega) (by simpa using hy)
    · omega
theorem kOf_ge (x : Int) : ∀ (L : List Int) (y : Int), L[kOf x L]? = some y → ¬ y < x
  | [], y, h => by simp at h
  | z :: L, y, h => by
    rw [kOf_cons] at h
    split at h
    · exact kOf_ge x L y (by simpa using h)
    · next hz => injection h with h; omega
theorem ins_kOf (x : Int) : ∀ (L : List Int), x ∉ L → ins x L = (L.take (kOf x L) ++ [x]) ++ L.drop (kOf x L)
  | [], _ => by simp [kOf, ins]
  | y :: L, h => by
    rw [kOf_cons]
    have hxy : x ≠ y := fun e => h (by rw [e]; exact List.mem_cons_self)
    by_cases hy : y < x
    · rw [if_pos hy]
      unfold ins
      rw [if_neg (by omega), ins_kOf x L (fun e => h (List.mem_cons_of_mem _ e))]
      simp
    · rw [if_neg hy]
      unfold ins
      rw [if_pos (by omega)]
      simp
/-- append of a row, empty or not. -/
theorem q_append_any (w : World) (base base2 : Nat) (t ty e : TypeId) (i : TypeInfo) (z : Value) (bytes : Nat) (ht : Try.prog.underlying t = some (.slice e)) (hi : Try.prog.info? e = some i) (hz : i.zero = some z)
    (hsize : i.size = 1) (hby : i.bytes = bytes) (hzs : z.cells.size = 1)
    (v : Value) (n : Nat) (xs : List Value) (hown : QRow w base e 1 v n xs)
    (A : Option Addr) (m c : Nat) (news : List Value) (hsrc : QRow w base2 e 1 (.slice A m c) m news) (h1 : ∀ u ∈ news, u.oneCell' = true)
    (h63 : n + m ≤ maxLen) (hbytes : (n + m) * bytes ≤ 140737488355328) (hbase : base ≤ w.heap.size) :
    ∃ v' w', (Builtin.append_ #[t, t] ty #[v, .slice A m c]).run Try.prog w = .ok v' w' ∧ QRow w' base e 1 v' (n + m) (xs ++ news) ∧ w.grownBy w' v.ownBlock ∧ (v'.ownBlock = v.ownBlock ∨ ∃ b, v'.ownBlock = some b ∧ w.heap.size ≤ b) := by
  by_cases hm : 0 < m
  · obtain ⟨ad, rfl, hc⟩ := q_cells hsrc hm
    exact q_append w base t ty e i z 1 bytes ht hi hz hsize hby hzs (by decide) v n xs hown ad m c news hsrc.1 hc h1 hm h63 hbytes hbase
  · obtain rfl : m = 0 := by omega
    obtain rfl : news = [] := List.eq_nil_of_length_eq_zero (by rw [hsrc.1, Nat.zero_mul])
    obtain ⟨A0, c0, rfl, hnc⟩ := q_slice hown
    have hmx := q_max hown
    have hsc : Src Try.prog i.size t (.slice A 0 c) 0 [] w := by
      cases A with
      | none => exact Src.ofNil w ht c
      | some a => exact Src.ofSlice w ht a 0 c [] (by simp) (fun j u hu => by simp at hu) (fun u hu => by cases hu)
    exact ⟨_, w, run_append_nothing w t t ty e i ht hi A0 n c0 hnc _ hsc, by simpa using hown, ⟨rfl, rfl, rfl, Nat.le_refl _, fun k _ _ => rfl⟩, .inl rfl⟩
def RAfter (w : World) (base g : Nat) (most : Int) (V : Value) (L' : List Int) (r : Value) (e : Ending) (w' : World) : Prop :=
  ∃ V', e = .returned r ∧ RP w' base g most V' L' ∧ TR base g V.ownBlock w w' ∧ Ow V.ownBlock V'.ownBlock w
theorem RAfter.mk {w : World} {base g : Nat} {most : Int} {V : Value} {L' : List Int} {r : Value} {e : Ending} {w' : World} (V' : Value) (he : e = .returned r) (h1 : RP w' base g most V' L') (h2 : TR base g V.ownBlock w w') (h3 : Ow V.ownBlock V'.ownBlock w) : RAfter w base g most V L' r e w' := ⟨V', he, h1, h2, h3⟩
theorem RP.row_ne {w : World} {base g : Nat} {most : Int} {V : Value} {L : List Int} (h : RP w base g most V L) (k : Nat) (hk : V.ownBlock = some k) : k ≠ g := fun e => by
  obtain ⟨_, cells, hc⟩ := q_typed h.row k hk
  rw [e, h.obj] at hc; injection hc with hc; injection hc with _ hc; cases hc
theorem RP.store {w : World} {base g : Nat} {most : Int} {V : Value} {L : List Int} (h : RP w base g most V L) {w2 : World} (V' : Value) (L' : List Int) (hb : Below base w w2) (hg : w2.heap[g]? = w.heap[g]?) (hk : ∀ (k : Nat) (o : Obj), w.heap[k]? = some o → some k ≠ V.ownBlock → w2.heap[k]? = some o) (hr : QRow w2 base 3 1 V' L'.length (L'.map (Value.int .i64))) :
    RP (w2.setCell ⟨g, 1, none⟩ V') base g most V' L' ∧ TR base g V.ownBlock w (w2.setCell ⟨g, 1, none⟩ V') ∧ w2.frozen? ⟨g, 1, none⟩ = false ∧ w2.cell? ⟨g, 1, none⟩ = some V := by
  have ho : w2.heap[g]? = some (.cells #[.int .i64 most, V] 34 (0, 0)) := hg.trans h.obj
  have far : ∀ k, k ≠ g → (w2.setCell ⟨g, 1, none⟩ V').heap[k]? = w2.heap[k]? := fun k hk => heap_setCell_other w2 ⟨g, 1, none⟩ k _ hk
  refine ⟨⟨h.ge, ?_, q_move hr fun k hk => far k fun e => ?_⟩, ⟨hb.setCell h.ge _, fun k o hk1 hk2 hk3 => (far k hk2).trans (hk k o hk1 hk3)⟩, frozen_of_row w2 g 1 _ 34 ho, by rw [cell_of_row w2 g 1 _ 34 (0, 0) ho]; rfl⟩
  · have := heap_setCell_same w2 g 1 _ 34 V' ho
    simpa using this
  · obtain ⟨_, cells, hc⟩ := q_typed hr k hk
    rw [e, ho] at hc; injection hc with hc; injection hc with _ hc; cases hc
set_option maxHeartbeats 4000000 in
set_option maxRecDepth 100000 in
theorem rtake_none (w : World) (base g : Nat) (most : Int) (V : Value) (h : RP w base g most V []) :
    Calls Try.prog 12 #[.pointer (some ⟨g, 0, none⟩)] w (RAfter w base g most V [] (.tuple #[.int .i64 0, .bool false])) := by
  obtain ⟨h0, h1⟩ := h.cells
  obtain ⟨A, c, hV, _⟩ := h.form
  have HP := Aside0.mk h
  rw [hV, show ([] : List Int).length = 0 from rfl] at h1
  clear hV h
  go_enter Try.func12, Try.ntmps12
  go_wp2
  go_ret2
  exact RAfter.mk V rfl HP.out (TR.refl _ _ _ _) (Ow.refl _ _)
set_option maxHeartbeats 4000000 in
set_option maxRecDepth 100000 in
theorem rtake_some (w : World) (base g : Nat) (most : Int) (V : Value) (x : Int) (L : List Int) (h : RP w base g most V (x :: L)) :
    Calls Try.prog 12 #[.pointer (some ⟨g, 0, none⟩)] w (RAfter w base g most V L (.tuple #[.int .i64 x, .bool true])) := by
  obtain ⟨h0, h1⟩ := h.cells
  obtain ⟨A, c, hV, _⟩ := h.form
  have hO := h.row
  obtain ⟨n, hn⟩ : ∃ n, (x :: L).length = n := ⟨_, rfl⟩
  rw [hn] at hV hO
  subst hV
  have hn1 : n = L.length + 1 := by rw [← hn]; rfl
  obtain ⟨gb, ob, rfl, hle, hmx, hcl⟩ := rp_form1 hO (by omega)
  have f0 : w.cell? ⟨gb, ob, none⟩ = some (.int .i64 x) := hcl 0 _ rfl
  have d1 : ((n : Int) == 0) = false := beq_eq_false_iff_ne.mpr (by omega)
  have d3 : (0 : Int) < (n : Int) := by omega
  obtain ⟨i0, hi0, hz0, hz1, hz2⟩ := info_parts info3_
  have hct := cut_from (P := Try.prog) 32 3 .i64 Try.underlying32 hi0 1 hz1 (some ⟨gb, ob, none⟩) n c 1 (by decide) (by omega)
  rw [show (1 : Int).toNat = 1 from rfl] at hct
  have hd := q_drop (k := 1) hO (by omega)
  rw [show n - 1 = L.length from by omega] at hct hd
  have hob : (Value.slice (if c = 1 then some ⟨gb, ob, none⟩ else (some (⟨gb, ob, none⟩ : Addr)).map (·.add (1 * 1))) L.length (c - 1)).ownBlock = some gb := by
    split
    · rfl
    · simp [Value.ownBlock, Addr.add]
  obtain ⟨S, hS⟩ : ∃ S : Option Addr, (if c = 1 then some (⟨gb, ob, none⟩ : Addr) else (some (⟨gb, ob, none⟩ : Addr)).map (·.add (1 * 1))) = S := ⟨_, rfl⟩
  rw [hS] at hct hd hob
  have hset := h.store (w2 := w) (.slice S L.length (c - 1)) L (Below.refl _ _) rfl (fun _ _ h _ => h) hd
  have how : Ow (Value.slice (some ⟨gb, ob, none⟩) n c).ownBlock (Value.slice S L.length (c - 1)).ownBlock w := .inl (by rw [hob]; rfl)
  obtain ⟨e2, he2⟩ : ∃ e2, c - 1 = e2 := ⟨_, rfl⟩
  rw [he2] at hct hset how
  obtain ⟨s1, s2, hfz, hcz⟩ := hset
  have HS := Aside0.mk (And.intro s1 (And.intro s2 how))
  clear hO hcl hd hob hS he2 s1 s2 hn h how hn1
  go_enter Try.func12, Try.ntmps12
  go_wp2
  go_ret2
  exact RAfter.mk _ rfl HS.out.1 HS.out.2.1 HS.out.2.2
def rputP (most x : Int) (L : List Int) : Prop := 0 ≤ x ∧ x < most ∧ x ∉ L
theorem kOf_hit (x : Int) : ∀ (L : List Int), L.Pairwise (· < ·) → x ∈ L → L[kOf x L]? = some x
  | [], _, h => by cases h
  | y :: L, hp, h => by
    obtain ⟨h1, h2⟩ := List.pairwise_cons.1 hp
    rw [kOf_cons]
    by_cases hy : y < x
    · rw [if_pos hy]
      rcases List.mem_cons.1 h with e | e
      · omega
      · simpa using kOf_hit x L h2 e
    · rw [if_neg hy]
      rcases List.mem_cons.1 h with e | e
      · subst e; rfl
      · have := h1 x e; omega
theorem kOf_miss (x : Int) (L : List Int) (h : x ∉ L) (y : Int) (hy : L[kOf x L]? = some y) : y ≠ x := fun e => h (by rw [← e]; exact List.mem_of_getElem? hy)
/-- one step of a region: append of one's own row and another. -/
theorem step_append_q {ops : Array Oper} {o : Oper} {a : Act} {w : World} {K : Act → World → Prop} {Q : Exit → Act → World → Prop} {E : Prop} (hgd : o.guard = none) (s x : Operand) (t : TypeId)
    (ho : o.op = .call { callee := .builtin .append, args := #[s, x], argTypes := #[t, t] })
    (base base2 : Nat) (e : TypeId) (i : TypeInfo) (z : Value) (bytes : Nat) (ht : Try.prog.underlying t = some (.slice e)) (hi : Try.prog.info? e = some i) (hz : i.zero = some z)
    (hsize : i.size = 1) (hby : i.bytes = bytes) (hzs : z.cells.size = 1)
    (v : Value) (n : Nat) (xs : List Value) (hs : a.eval s = v) (hown : QRow w base e 1 v n xs)
    (A : Option Addr) (m c : Nat) (news : List Value) (hx : a.eval x = .slice A m c) (hsrc : QRow w base2 e 1 (.slice A m c) m news) (h1 : ∀ u ∈ news, u.oneCell' = true)
    (h63 : n + m ≤ maxLen) (hbytes : (n + m) * bytes ≤ 140737488355328) (hbase : base ≤ w.heap.size)
    (h : ∀ v' w', QRow w' base e 1 v' (n + m) (xs ++ news) → w.grownBy w' v.ownBlock → (v'.ownBlock = v.ownBlock ∨ ∃ b, v'.ownBlock = some b ∧ w.heap.size ≤ b) → K (a.put o.dst v') w') :
    if Region.wanted o (yielded ops a.tmps) = true then Oper.wp Try.prog o a w K Q else E := by
  have hw : Region.wanted o (yielded ops a.tmps) = true := by simp [Region.wanted, hgd]
  rw [if_pos hw]
  obtain ⟨v', w', hr, h2, h3, h4⟩ := q_append_any w base base2 t o.type e i z bytes ht hi hz hsize hby hzs v n xs hown A m c news hsrc h1 h63 hbytes hbase
  unfold Oper.wp execOp
  simp only [ho, resolve, invoke, builtin, Sem.run_bind, Sem.run_pure, Result.andThen_ok, List.map_toArray, List.map_cons, List.map_nil, hs, hx, hr]
  exact h v' w' h2 h3 h4
section
variable {P : Program} {ops : Array Oper} {Q : Exit → Act → World → Prop} {md : Region.Mode} {S : Array Bool → World → Prop}
/-- Whatever order is picked from here on; what holds behind each operation hangs on which have come up. -/
def wpAnyL (P : Program) (md : Region.Mode) (ops : Array Oper) (Q : Exit → Act → World → Prop) (S : Array Bool → World → Prop) : Nat → Array Bool → Act → World → Prop
  | 0, listed, a, w => Region.ready md ops listed = [] ∧ Q .normal a w
  | fuel + 1, listed, a, w =>
    (Region.ready md ops listed = [] → Q .normal a w) ∧
    ∀ i ∈ Region.ready md ops listed, wpOp P ops Q i (fun a' w' => S (listed.setIfInBounds i true) w' ∧ wpAnyL P md ops Q S fuel (listed.setIfInBounds i true) a' w') a w
theorem wpAny_of_L : ∀ (fuel : Nat) (listed : Array Bool) (a : Act) (w : World), wpAnyL P md ops Q S fuel listed a w → wpAny P md ops Q fuel listed a w
  | 0, _, _, _, h => h
  | fuel + 1, _, _, _, h => ⟨h.1, fun i hi => wpOp_mono (fun a' w' h' => wpAny_of_L fuel _ a' w' h'.2) (h.2 i hi)⟩
/-- An operation that may come up now may be taken first, if it yields its value in every world that may be met while it has not come up. -/
theorem wpAnyL_first {i : Nat} {oi : Oper} {v : Value} {C : World → Prop} {D : Array Bool → Prop} (hi : ops[i]? = some oi) (hsel : ∀ (j : Nat) (o : Oper) cs b, ops[j]? = some o → o.op ≠ .select cs b)
    (hQ : ∀ c a w, Q (.panic c) (a.put oi.dst v) w → Q (.panic c) a w) (hS : ∀ L w, S (L.setIfInBounds i true) w ↔ S L w) (hC : ∀ L w, D L → S L w → C w)
    (hD : ∀ (L : Array Bool) (j : Nat), D L → i ∈ Region.ready md ops L → j ∈ Region.ready md ops L → j ≠ i → D (L.setIfInBounds j true)) :
    ∀ (fuel : Nat) (listed : Array Bool) (a : Act) (w : World),
      (∀ j oj, ops[j]? = some oj → j ≠ i → listed.getD j true = false → (∀ e ∈ oj.after, Region.binds md e = true → e.on ≠ i) → oi.apart ops oj = true) →
      i ∈ Region.ready md ops listed → YieldsIf P ops C oi v a → D listed → S listed w →
      wpAnyL P md ops Q S fuel (listed.setIfInBounds i true) (a.put oi.dst v) w → wpAnyL P md ops Q S (fuel + 1) listed a w := by
  intro fuel
  induction fuel with
  | zero =>
    intro listed a w _ hr hy hDl hSl H
    refine ⟨fun h => (by rw [h] at hr; cases hr), fun j hj => ?_⟩
    by_cases hji : j = i
    · subst hji; exact hy.wpOp hi (hC _ _ hDl hSl) ⟨(hS _ _).2 hSl, H⟩
    · have := ready_mono hj hji
      rw [H.1] at this
      cases this
  | succ fuel ih =>
    intro listed a w hfree hr hy hDl hSl H
    refine ⟨fun h => (by rw [h] at hr; cases hr), fun j hj => ?_⟩
    by_cases hji : j = i
    · subst hji; exact hy.wpOp hi (hC _ _ hDl hSl) ⟨(hS _ _).2 hSl, H⟩
    · have h1 := H.2 j (ready_mono hj hji)
      obtain ⟨hjun, oj, hoj, hall⟩ := mem_ready.1 hj
      have hnot : ∀ e ∈ oj.after, Region.binds md e = true → e.on ≠ i := fun e he hb heq => by
        have h1 := hall e he hb
        have h0 := (mem_ready.1 hr).1
        rw [heq] at h1
        rcases Nat.lt_or_ge i listed.size with h' | h'
        · simp [h'] at h0 h1; rw [h0] at h1; cases h1
        · simp [Array.getElem?_eq_none h'] at h1
      have h2 := wpOp_putIf hoj (hfree j oj hoj hji hjun hnot) (fun cs b => hsel i oi cs b hi) (fun cs b => hsel j oj cs b hoj) hQ hy h1
      have hfree' : ∀ k ok, ops[k]? = some ok → k ≠ i → (listed.setIfInBounds j true).getD k true = false →
          (∀ e ∈ ok.after, Region.binds md e = true → e.on ≠ i) → oi.apart ops ok = true := fun k ok hk hki hun hno => by
        refine hfree k ok hk hki ?_ hno
        by_cases hjk : j = k
        · subst hjk; exact hjun
        · rw [getD_set_ne true hjk] at hun; exact hun
      have hcomm : (listed.setIfInBounds i true).setIfInBounds j true = (listed.setIfInBounds j true).setIfInBounds i true := Array.setIfInBounds_comm _ _ (Ne.symm hji)
      refine wpOp_mono (fun a' w' h3 => ?_) h2
      have hS' : S (listed.setIfInBounds j true) w' := by
        have := h3.2.1
        rw [hcomm] at this
        exact (hS _ _).1 this
      refine ⟨hS', ih (listed.setIfInBounds j true) a' w' hfree' (ready_mono hr (Ne.symm hji)) h3.1 (hD _ _ hDl hr hj hji) hS' ?_⟩
      have := h3.2.2
      rw [hcomm] at this
      exact this
end
section
variable {P : Program} {ops : Array Oper} {Q : Exit → Act → World → Prop} {md : Region.Mode}
/-- two facts, each of which is wanted till one operation has come up. -/
def SL2 (d1 : Nat) (C1 : World → Prop) (d2 : Nat) (C2 : World → Prop) (L : Array Bool) (w : World) : Prop := (L.getD d1 true = false → C1 w) ∧ (L.getD d2 true = false → C2 w)
theorem SL2.iff {d1 d2 i : Nat} {C1 C2 : World → Prop} (h1 : i ≠ d1) (h2 : i ≠ d2) (L : Array Bool) (w : World) : SL2 d1 C1 d2 C2 (L.setIfInBounds i true) w ↔ SL2 d1 C1 d2 C2 L w := by
  unfold SL2; rw [getD_set_ne true h1, getD_set_ne true h2]
def depOn (md : Region.Mode) (ops : Array Oper) (d i : Nat) : Bool := match ops[d]? with
  | some o => o.after.any fun e => Region.binds md e && e.on == i
  | none => false
theorem depOn_spec {d i : Nat} (h : depOn md ops d i = true) (L : Array Bool) (hi : L.getD i true = false) : ¬ d ∈ Region.ready md ops L := by
  intro hd
  obtain ⟨-, o, ho, hall⟩ := mem_ready.1 hd
  unfold depOn at h
  rw [ho] at h
  simp only [Array.any_eq_true'] at h
  obtain ⟨e, he, h2⟩ := h
  simp only [Bool.and_eq_true, beq_iff_eq] at h2
  have := hall e he h2.1
  rw [h2.2] at this
  rcases Nat.lt_or_ge i L.size with h' | h'
  · simp [h'] at hi this; rw [hi] at this; cases this
  · simp [Array.getElem?_eq_none h'] at this
variable {d1 d2 : Nat} {C1 C2 : World → Prop}
theorem L_pure (i : Nat) {oi : Oper} {v : Value} {fuel : Nat} {listed : Array Bool} {a : Act} {w : World} (hi : ops[i]? = some oi) (hs : Region.noSelect ops = true) (hf : Region.free md ops listed i = true) (hr : (Region.ready md ops listed).contains i = true)
    (hQ : ∀ c a w, Q (.panic c) (a.put oi.dst v) w → Q (.panic c) a w) (h1 : i ≠ d1) (h2 : i ≠ d2) (hw : Region.wanted oi (yielded ops a.tmps) = true) (hy : ∀ w, (execOp a.eval oi).run P w = .ok (.value v) w) (hS : SL2 d1 C1 d2 C2 listed w)
    (h : SL2 d1 C1 d2 C2 (listed.setIfInBounds i true) w → wpAnyL P md ops Q (SL2 d1 C1 d2 C2) fuel (listed.setIfInBounds i true) (a.put oi.dst v) w) : wpAnyL P md ops Q (SL2 d1 C1 d2 C2) (fuel + 1) listed a w :=
  wpAnyL_first (C := fun _ => True) (D := fun _ => True) hi (Region.noSelect_spec hs) hQ (SL2.iff h1 h2) (fun _ _ _ _ => trivial) (fun _ _ _ _ _ _ => trivial) fuel listed a w (Region.free_spec hi hf) (by simpa using hr) (.inl ⟨hw, fun w _ => hy w⟩) trivial hS (h ((SL2.iff h1 h2 _ _).2 hS))
theorem L_load1 (i : Nat) {oi : Oper} {v : Value} {fuel : Nat} {listed : Array Bool} {a : Act} {w : World} (hi : ops[i]? = some oi) (hs : Region.noSelect ops = true) (hf : Region.free md ops listed i = true) (hr : (Region.ready md ops listed).contains i = true)
    (hQ : ∀ c a w, Q (.panic c) (a.put oi.dst v) w → Q (.panic c) a w) (h1 : i ≠ d1) (h2 : i ≠ d2) (hdep : depOn md ops d1 i = true) (hun : listed.getD d1 true = false) (hw : Region.wanted oi (yielded ops a.tmps) = true) (hy : ∀ w, C1 w → (execOp a.eval oi).run P w = .ok (.value v) w) (hS : SL2 d1 C1 d2 C2 listed w)
    (h : SL2 d1 C1 d2 C2 (listed.setIfInBounds i true) w → wpAnyL P md ops Q (SL2 d1 C1 d2 C2) fuel (listed.setIfInBounds i true) (a.put oi.dst v) w) : wpAnyL P md ops Q (SL2 d1 C1 d2 C2) (fuel + 1) listed a w :=
  wpAnyL_first (C := C1) (D := fun L => L.getD d1 true = false) hi (Region.noSelect_spec hs) hQ (SL2.iff h1 h2) (fun _ _ hD hS => hS.1 hD)
    (fun L j hD hir hj hji => by
      have hne : j ≠ d1 := fun e => depOn_spec hdep L (mem_ready.1 hir).1 (e ▸ hj)
      rw [getD_set_ne true hne]; exact hD) fuel listed a w (Region.free_spec hi hf) (by simpa using hr) (.inl ⟨hw, hy⟩) hun hS (h ((SL2.iff h1 h2 _ _).2 hS))
theorem L_load2 (i : Nat) {oi : Oper} {v : Value} {fuel : Nat} {listed : Array Bool} {a : Act} {w : World} (hi : ops[i]? = some oi) (hs : Region.noSelect ops = true) (hf : Region.free md ops listed i = true) (hr : (Region.ready md ops listed).contains i = true)
    (hQ : ∀ c a w, Q (.panic c) (a.put oi.dst v) w → Q (.panic c) a w) (h1 : i ≠ d1) (h2 : i ≠ d2) (hdep : depOn md ops d2 i = true) (hun : listed.getD d2 true = false) (hw : Region.wanted oi (yielded ops a.tmps) = true) (hy : ∀ w, C2 w → (execOp a.eval oi).run P w = .ok (.value v) w) (hS : SL2 d1 C1 d2 C2 listed w)
    (h : SL2 d1 C1 d2 C2 (listed.setIfInBounds i true) w → wpAnyL P md ops Q (SL2 d1 C1 d2 C2) fuel (listed.setIfInBounds i true) (a.put oi.dst v) w) : wpAnyL P md ops Q (SL2 d1 C1 d2 C2) (fuel + 1) listed a w :=
  wpAnyL_first (C := C2) (D := fun L => L.getD d2 true = false) hi (Region.noSelect_spec hs) hQ (SL2.iff h1 h2) (fun _ _ hD hS => hS.2 hD)
    (fun L j hD hir hj hji => by
      have hne : j ≠ d2 := fun e => depOn_spec hdep L (mem_ready.1 hir).1 (e ▸ hj)
      rw [getD_set_ne true hne]; exact hD) fuel listed a w (Region.free_spec hi hf) (by simpa using hr) (.inl ⟨hw, hy⟩) hun hS (h ((SL2.iff h1 h2 _ _).2 hS))
/-- the one operation that may come up now. -/
theorem L_step (i : Nat) {o : Oper} {fuel : Nat} {listed : Array Bool} {a : Act} {w : World} (hr : Region.ready md ops listed = [i]) (ho : ops[i]? = some o)
    (h : ∀ K' : Act → World → Prop, Shut (∀ a w, SL2 d1 C1 d2 C2 (listed.setIfInBounds i true) w → (SL2 d1 C1 d2 C2 (listed.setIfInBounds i true) w → wpAnyL P md ops Q (SL2 d1 C1 d2 C2) fuel (listed.setIfInBounds i true) a w) → K' a w) → if Region.wanted o (yielded ops a.tmps) = true then Oper.wp P o a w K' Q else K' (a.put o.dst undef) w) :
    wpAnyL P md ops Q (SL2 d1 C1 d2 C2) (fuel + 1) listed a w := by
  refine ⟨fun h0 => absurd (hr.symm.trans h0) (by simp), fun j hj => ?_⟩
  rw [hr, List.mem_singleton] at hj
  subst hj
  exact wpOp_step ho (fun K' hK => h K' (fun a w hS hW => hK a w ⟨hS, hW hS⟩))
theorem L_done {fuel : Nat} {listed : Array Bool} {a : Act} {w : World} (hr : Region.ready md ops listed = []) (h : Q .normal a w) : wpAnyL P md ops Q (SL2 d1 C1 d2 C2) fuel listed a w := by
  cases fuel with
  | zero => exact ⟨hr, h⟩
  | succ n => exact ⟨fun _ => h, by rw [hr]; simp⟩
theorem L_region {id : Nat} {a : Act} {w : World} (hm : P.follows .mixedOrders = true) (hS : SL2 d1 C1 d2 C2 (Array.replicate ops.size false) w.drew)
    (h : SL2 d1 C1 d2 C2 (Array.replicate ops.size false) w.drew → wpAnyL P .any ops Q (SL2 d1 C1 d2 C2) ops.size (Array.replicate ops.size false) a w.drew) : (Code.region id ops true).wp P Q a w :=
  wp_region_any hm (wpAny_of_L _ _ _ _ (h hS))
end
theorem get0 {o : Oper} {l : List Oper} : (o :: l).toArray[0]? = some o := rfl
theorem getS {a o : Oper} {l : List Oper} {n : Nat} (h : l.toArray[n]? = some o) : (a :: l).toArray[n + 1]? = some o := by simpa using h
theorem SL2.mk {d1 d2 : Nat} {C1 C2 : World → Prop} {L : Array Bool} {w : World} (h1 : C1 w) (h2 : C2 w) : SL2 d1 C1 d2 C2 L w := ⟨fun _ => h1, fun _ => h2⟩
theorem SL2.mk2 {d1 d2 : Nat} {C1 C2 : World → Prop} {L : Array Bool} {w : World} (h1 : L.getD d1 true = true) (h2 : C2 w) : SL2 d1 C1 d2 C2 L w := ⟨fun h => absurd (h1.symm.trans h) (by decide), fun _ => h2⟩
theorem SL2.mk0 {d1 d2 : Nat} {C1 C2 : World → Prop} {L : Array Bool} {w : World} (h1 : L.getD d1 true = true) (h2 : L.getD d2 true = true) : SL2 d1 C1 d2 C2 L w := ⟨fun h => absurd (h1.symm.trans h) (by decide), fun h => absurd (h2.symm.trans h) (by decide)⟩
section
variable {P : Program} {ops : Array Oper} {Q : Exit → Act → World → Prop} {md : Region.Mode} {d1 d2 : Nat} {C1 C2 : World → Prop}
/-- each of Z hangs on i, or on another one of Z. -/
def chainOn (md : Region.Mode) (ops : Array Oper) (i : Nat) (Z : List Nat) : Bool := Z.all fun z => depOn md ops z i || Z.any fun y => depOn md ops z y
theorem chain_spec {i : Nat} {Z : List Nat} (h : chainOn md ops i Z = true) (L : Array Bool) (hi : L.getD i true = false) (hZ : ∀ z ∈ Z, L.getD z true = false) : ∀ z ∈ Z, ¬ z ∈ Region.ready md ops L := by
  intro z hz
  have h1 := List.all_eq_true.1 h z hz
  rcases Bool.or_eq_true_iff.1 h1 with h2 | h2
  · exact depOn_spec h2 L hi
  · obtain ⟨y, hy, h3⟩ := List.any_eq_true.1 h2
    exact depOn_spec h3 L (hZ y hy)
/-- a load whose fact holds till the last one of a chain behind it has come up. -/
theorem L_loadZ (Z : List Nat) (i : Nat) {oi : Oper} {v : Value} {fuel : Nat} {listed : Array Bool} {a : Act} {w : World} (hi : ops[i]? = some oi) (hs : Region.noSelect ops = true) (hf : Region.free md ops listed i = true) (hr : (Region.ready md ops listed).contains i = true)
    (hQ : ∀ c a w, Q (.panic c) (a.put oi.dst v) w → Q (.panic c) a w) (h1 : i ≠ d1) (h2 : i ≠ d2) (hch : chainOn md ops i Z = true) (hd : Z.contains d1 = true) (hun : (Z.all fun z => !(listed.getD z true)) = true) (hw : Region.wanted oi (yielded ops a.tmps) = true) (hy : ∀ w, C1 w → (execOp a.eval oi).run P w = .ok (.value v) w) (hS : SL2 d1 C1 d2 C2 listed w)
    (h : SL2 d1 C1 d2 C2 (listed.setIfInBounds i true) w → wpAnyL P md ops Q (SL2 d1 C1 d2 C2) fuel (listed.setIfInBounds i true) (a.put oi.dst v) w) : wpAnyL P md ops Q (SL2 d1 C1 d2 C2) (fuel + 1) listed a w :=
  wpAnyL_first (C := C1) (D := fun L => ∀ z ∈ Z, L.getD z true = false) hi (Region.noSelect_spec hs) hQ (SL2.iff h1 h2) (fun _ _ hD hS => hS.1 (hD d1 (by simpa using hd)))
    (fun L j hD hir hj hji z hz => by
      have hne : j ≠ z := fun e => chain_spec hch L (mem_ready.1 hir).1 hD z hz (e ▸ hj)
      rw [getD_set_ne true hne]; exact hD z hz) fuel listed a w (Region.free_spec hi hf) (by simpa using hr) (.inl ⟨hw, hy⟩) (fun z hz => by have := List.all_eq_true.1 hun z hz; simpa using this) hS (h ((SL2.iff h1 h2 _ _).2 hS))
/-- one of two operations may come up now. -/
theorem L_step2 (i j : Nat) {oi oj : Oper} {fuel : Nat} {listed : Array Bool} {a : Act} {w : World} (hr : Region.ready md ops listed = [i, j]) (hoi : ops[i]? = some oi) (hoj : ops[j]? = some oj)
    (h : ∀ K' : Act → World → Prop, Shut (∀ a w, SL2 d1 C1 d2 C2 (listed.setIfInBounds i true) w → (SL2 d1 C1 d2 C2 (listed.setIfInBounds i true) w → wpAnyL P md ops Q (SL2 d1 C1 d2 C2) fuel (listed.setIfInBounds i true) a w) → K' a w) → if Region.wanted oi (yielded ops a.tmps) = true then Oper.wp P oi a w K' Q else K' (a.put oi.dst undef) w)
    (h' : ∀ K' : Act → World → Prop, Shut (∀ a w, SL2 d1 C1 d2 C2 (listed.setIfInBounds j true) w → (SL2 d1 C1 d2 C2 (listed.setIfInBounds j true) w → wpAnyL P md ops Q (SL2 d1 C1 d2 C2) fuel (listed.setIfInBounds j true) a w) → K' a w) → if Region.wanted oj (yielded ops a.tmps) = true then Oper.wp P oj a w K' Q else K' (a.put oj.dst undef) w) :
    wpAnyL P md ops Q (SL2 d1 C1 d2 C2) (fuel + 1) listed a w := by
  refine ⟨fun h0 => absurd (hr.symm.trans h0) (by simp), fun k hk => ?_⟩
  rw [hr, List.mem_cons, List.mem_singleton] at hk
  rcases hk with rfl | rfl
  · exact wpOp_step hoi (fun K' hK => h K' (fun a w hS hW => hK a w ⟨hS, hW hS⟩))
  · exact wpOp_step hoj (fun K' hK => h' K' (fun a w hS hW => hK a w ⟨hS, hW hS⟩))
end
theorem alloc_size (w : World) (o : Obj) : (w.alloc o).heap.size = w.heap.size + 1 := by simp
theorem RP.drew {w : World} {base g : Nat} {most : Int} {V : Value} {L : List Int} (h : RP w base g most V L) : RP w.drew base g most V L := ⟨h.ge, h.obj, q_move h.row fun _ _ => rfl⟩
/-- a row made since a world, while it is appended to. -/
structure AS (Wd cur : World) (e : TypeId) (v : Value) (n : Nat) (xs : List Value) : Prop where
  below : Below Wd.heap.size Wd cur
  row : QRow cur Wd.heap.size e 1 v n xs
/-- one cell beside it. -/
structure AN (Wd cur : World) (e : TypeId) (v u : Value) (y : Value) : Prop where
  row : QRow cur Wd.heap.size e 1 u 1 [y]
  ne : ∀ k, u.ownBlock = some k → v.ownBlock ≠ some k
section
variable {Wd cur w w' : World} {e : TypeId} {v v' u y : Value} {n m : Nat} {xs ys : List Value}
theorem AS.new (hb : Below Wd.heap.size Wd cur) : AS Wd (cur.alloc (.cells #[] e)) e (.slice (some ⟨cur.heap.size, 0, none⟩) 0 0) 0 [] :=
  ⟨hb.alloc hb.size _, rfl, .inl ⟨rfl, _, rfl, fun a ha => by injection ha with ha; subst ha; exact ⟨hb.size, _, heap_alloc_new _ _⟩⟩⟩
theorem an_row (hb : Below Wd.heap.size Wd cur) (y : Value) : QRow (cur.alloc (.cells #[y] e)) Wd.heap.size e 1 (.slice (some ⟨cur.heap.size, 0, none⟩) 1 1) 1 [y] :=
  ⟨rfl, .inr ⟨cur.heap.size, 0, 1, #[y], rfl, hb.size, heap_alloc_new _ _, Nat.le_refl _, by unfold maxLen; omega, rfl, rfl⟩⟩
theorem AN.new (h : AS Wd cur e v n xs) (y : Value) : AS Wd (cur.alloc (.cells #[y] e)) e v n xs ∧ AN Wd (cur.alloc (.cells #[y] e)) e v (.slice (some ⟨cur.heap.size, 0, none⟩) 1 1) y :=
  ⟨⟨h.below.alloc h.below.size _, q_move h.row fun k hk => heap_alloc_old _ _ (q_lt h.row k hk)⟩, an_row h.below y, fun k hk hv => by
    injection hk with hk; subst hk
    exact absurd (q_lt h.row _ hv) (Nat.lt_irrefl _)⟩
theorem AN.behind (hr : QRow cur Wd.heap.size e 1 u 1 [y]) : AN Wd (cur.alloc (.cells #[] e)) e (.slice (some ⟨cur.heap.size, 0, none⟩) 0 0) u y :=
  ⟨q_move hr fun k hk => heap_alloc_old _ _ (q_lt hr k hk), fun k hk hv => by
    injection hv with hv; subst hv
    exact absurd (q_lt hr _ hk) (Nat.lt_irrefl _)⟩
theorem AS.app (h : AS Wd w e v n xs) (hg : w.grownBy w' v.ownBlock) (hr : QRow w' Wd.heap.size e 1 v' m ys) : AS Wd w' e v' m ys :=
  ⟨h.below.trans (Below.grown (Below.refl _ _) hg h.below.size (fun k hk => (q_typed h.row k hk).1)), hr⟩
theorem AN.app (h : AN Wd w e v u y) (hg : w.grownBy w' v.ownBlock) (hat : v'.ownBlock = v.ownBlock ∨ ∃ b, v'.ownBlock = some b ∧ w.heap.size ≤ b) : AN Wd w' e v' u y :=
  ⟨q_move h.row fun k hk => hg.block k (q_lt h.row k hk) (fun e2 => h.ne k hk e2.symm), fun k hk hv => by
    rcases hat with e2 | ⟨b, e2, hb⟩
    · exact h.ne k hk (e2.symm.trans hv)
    · rw [e2] at hv; injection hv with hv; subst hv
      have := q_lt h.row _ hk; omega⟩
theorem AS.src {base : Nat} {s : Value} {zs : List Value} (h : AS Wd w e v n xs) (hs : QRow Wd base e 1 s m zs) : QRow w base e 1 s m zs := q_move hs fun k hk => h.below.block k (q_lt hs k hk)
theorem AS.cell {p : Addr} {V : Value} (h : AS Wd w e v n xs) (hc : Wd.cell? p = some V) : w.cell? p = some V := (h.below.cell (World.block_lt_of_cell? Wd p hc)).trans hc
theorem below_cell {p : Addr} {V : Value} (h : Below Wd.heap.size Wd w) (hc : Wd.cell? p = some V) : w.cell? p = some V := (h.cell (World.block_lt_of_cell? Wd p hc)).trans hc
end
theorem one_ints (l : List Int) : ∀ u ∈ l.map (Value.int .i64), u.oneCell' = true := fun u hu => by obtain ⟨y, _, rfl⟩ := List.mem_map.1 hu; rfl
/-- behind the last append: the header is stored. -/
theorem RP.put {Wd : World} {base g : Nat} {most x : Int} {V : Value} {L : List Int} (h : RP Wd base g most V L) (hx : x ∉ L) (hb : base ≤ Wd.heap.size) {w : World} {v : Value} {m : Nat} {ys : List Value} (ha : AS Wd w 3 v m ys) (hm : m = 0 + kOf x L + 1 + (L.length - kOf x L)) (hy : ys = ([] ++ (L.take (kOf x L)).map (Value.int .i64) ++ [.int .i64 x]) ++ (L.drop (kOf x L)).map (Value.int .i64)) :
    RP (w.setCell ⟨g, 1, none⟩ v) base g most v (ins x L) ∧ TR base g V.ownBlock Wd (w.setCell ⟨g, 1, none⟩ v) ∧ Ow V.ownBlock v.ownBlock Wd ∧ w.frozen? ⟨g, 1, none⟩ = false := by
  have hi : (ins x L).map (Value.int .i64) = ys := by rw [hy, ins_kOf x L hx]; simp
  have hl : (ins x L).length = m := by rw [ins_length, hm]; have := kOf_le x L; omega
  have hr : QRow w base 3 1 v (ins x L).length ((ins x L).map (Value.int .i64)) := by rw [hi, hl]; exact q_lower ha.row hb
  obtain ⟨h1, h2, h3, h4⟩ := h.store (w2 := w) v (ins x L) (ha.below.mono hb) (ha.below.block g h.size) (fun k o hk _ => (ha.below.block k (Array.getElem?_eq_some_iff.1 hk).1).trans hk) hr
  refine ⟨h1, h2, ?_, h3⟩
  by_cases hn : ∃ k, v.ownBlock = some k
  · obtain ⟨k, hk⟩ := hn
    exact .inr ⟨k, hk, (q_typed ha.row k hk).1⟩
  · exfalso
    have hpos : 0 < m := by rw [← hl, ins_length]; omega
    obtain ⟨A, cc, rfl, -⟩ := q_slice ha.row
    obtain ⟨ad, rfl, -⟩ := q_cells ha.row hpos
    exact hn ⟨ad.block, rfl⟩
theorem TR.drew0 {base g : Nat} {R : Option Nat} {w w' : World} (h : TR base g R w.drew w') : TR base g R w w' := ⟨⟨h.below.os, h.below.tape, h.below.output, h.below.size, h.below.block⟩, h.others⟩
section
attribute [local go_sem ↓ high] app_hide
set_option maxHeartbeats 4000000 in
set_option maxRecDepth 100000 in
theorem rput_yes (w : World) (base g : Nat) (most : Int) (V : Value) (L : List Int) (x : Int) (h : RP w base g most V L) (hx : (Lit.int .i64 x).wf = true) (hs : L.Pairwise (· < ·)) (hl : L.length ≤ 70000) (hyes : 0 ≤ x ∧ x < most ∧ x ∉ L) :
    Calls Try.prog 11 #[.pointer (some ⟨g, 0, none⟩), .int .i64 x] w (RAfter w base g most V (ins x L) (.bool true)) := by
  obtain ⟨h0, h1⟩ := h.cells
  obtain ⟨A, c, hV, hnc⟩ := h.form
  have hO := h.row
  have d1 : decide (x < 0) = false := decide_eq_false (by omega)
  have d2 : decide (most ≤ x) = false := decide_eq_false (by omega)
  obtain ⟨n, hn⟩ : ∃ n, L.length = n := ⟨_, rfl⟩
  obtain ⟨k, hk⟩ : ∃ k, kOf x L = k := ⟨_, rfl⟩
  have hkn : k ≤ n := by rw [← hk, ← hn]; exact kOf_le x L
  rw [hn] at hV hO hl hnc
  subst hV
  have HP := Aside0.mk h
  have HY := Aside0.mk hyes
  have HK := Aside0.mk hk
  have HO := Aside0.mk hO
  have HN := Aside0.mk hn
  have HS := Aside0.mk hs
  clear h hyes hk hO hn hs
  obtain ⟨i0, hi0, hz0, hz1, hz2⟩ := info_parts info3_
  go_enter Try.func11, Try.ntmps11
  go_wp2
  go_loopg [5] (k + 1) (fun kq v5 w' => ∃ (j : Nat), v5 = .int .i64 (j : Int) ∧ Aside0 (j + kq = k + 1) ∧ Aside0 (j ≤ k) ∧ Aside0 (w' = w))
  case atStart => exact ⟨0, rfl, ⟨by omega⟩, ⟨Nat.zero_le _⟩, ⟨rfl⟩⟩
  case round =>
    obtain ⟨j, rfl, HKj, HJ, HW⟩ := hrel
    obtain rfl := HW.out
    clear HW
    have hjk : j ≤ k := HJ.out
    by_cases hjk2 : j < k
    · have hj1 : j < n := by omega
      obtain ⟨gb, ob, hA, -, hmx, hcl⟩ := rp_form1 HO.out (by omega)
      subst hA
      have hLj : L[j]? = some (L[j]'(by have := HN.out; omega)) := List.getElem?_eq_getElem _
      generalize L[j]'_ = y at hLj
      have hcy := hcl j (.int .i64 y) (by rw [List.getElem?_map, hLj]; rfl)
      have hyx := kOf_lt x L j y (by rw [HK.out]; exact hjk2) hLj
      have p1 : decide (j < n) = true := decide_eq_true hj1
      have p2 : decide (y < x) = true := decide_eq_true hyx
      have hj0 : (0 : Int) ≤ (j : Int) := by omega
      have hji : (j : Int) < (n : Int) := by omega
      clear hcl hLj hyx
      go_wp2
      go_roundg (gk - 1)
      case measure => have := HKj.out; omega
      case rel => exact ⟨j + 1, by go_num, ⟨by have := HKj.out; omega⟩, ⟨by omega⟩, ⟨rfl⟩⟩
    · obtain rfl : j = k := by omega
      have HK2 := Aside0.mk HK.out
      have HQ := Aside0.mk HP.out.drew
      have hkz : (j : Int) ≤ (n : Int) := by omega
      have hk0 : (0 : Int) ≤ (j : Int) := by omega
      have hct := cut_to (P := Try.prog) 32 3 .i64 Try.underlying32 hi0 A n c (j : Int) hk0 hkz hnc
      have hcf := cut_from (P := Try.prog) 32 3 .i64 Try.underlying32 hi0 1 hz1 A n c (j : Int) hk0 hkz
      rw [show ((j : Int)).toNat = j from rfl] at hct hcf
      obtain ⟨S, hS⟩ : ∃ S : Option Addr, (if c = j then A else A.map (·.add (j * 1))) = S := ⟨_, rfl⟩
      rw [hS] at hcf
      have HSS := Aside0.mk hS
      clear hS
      have hod : QRow wr.drew base 3 1 (.slice A n c) n (L.map (Value.int .i64)) := q_move HO.out fun _ _ => rfl
      have HX1 : Aside0 (QRow wr.drew base 3 1 (.slice A j c) j ((L.take j).map (Value.int .i64))) := ⟨by have h1 := q_take (m := j) hod hkn; rw [Nat.mul_one, ← List.map_take] at h1; exact h1⟩
      have HX2 : Aside0 (QRow wr.drew base 3 1 (.slice S (n - j) (c - j)) (n - j) ((L.drop j).map (Value.int .i64))) := ⟨by have h1 := q_drop (k := j) hod hkn; rw [HSS.out, Nat.mul_one, ← List.map_drop] at h1; exact h1⟩
      clear hod
      have hbd : base ≤ wr.drew.heap.size := by have := HQ.out.ge; have := HQ.out.size; omega
      have HG : Aside0 (wr.drew.cell? ⟨g, 1, none⟩ = some (.slice A n c)) := ⟨HQ.out.cells.2⟩
      have HD8 : True := trivial
      have hjc : j ≤ c := Nat.le_trans hkn hnc
      by_cases hkn2 : j < n
      · have hLj : L[j]? = some (L[j]'(by have := HN.out; omega)) := List.getElem?_eq_getElem _
        generalize L[j]'_ = y at hLj
        have hyx := kOf_ge x L y (by rw [HK.out]; exact hLj)
        have hyn := kOf_miss x L HY.out.2.2 y (by rw [HK.out]; exact hLj)
        obtain ⟨gb, ob, hA, -, hmx, hcl⟩ := rp_form1 HO.out (by omega)
        subst hA
        have hcy := hcl j (.int .i64 y) (by rw [List.getElem?_map, hLj]; rfl)
        have p1 : decide (j < n) = true := decide_eq_true hkn2
        have p2 : decide (y < x) = false := decide_eq_false hyx
        have p3 : (y == x) = false := beq_eq_false_iff_ne.mpr hyn
        have hji : (j : Int) < (n : Int) := by omega
        clear hcl hLj hyx hyn hkn2
        go_wp2
        go_wp2
        refine L_region (d1 := 21) (C1 := (fun w' => w'.cell? ⟨g, 1, none⟩ = some (.slice (some ⟨gb, ob, none⟩) n c))) (d2 := 21) (C2 := (fun _ => True)) (by kernel_rfl) (SL2.mk HG.out trivial) (fun hS0 => ?_)
        clear HD8
        generalize hWd : World.drew wr = Wd at *
        have HWd := Aside0.mk hWd
        clear hWd
        refine L_pure 0 (v := ?vra_1) (get0) (by kernel_rfl) (by kernel_rfl) (by kernel_rfl) (fun _ _ _ h => h) (by decide) (by decide) (by rfl) ?hyra_1 hS0 (fun hS1 => ?rera_1)
        case hyra_1 => (intro w9; go_simp; try with_reducible rfl)
        clear hS0
        have hS0 := hS1
        clear hS1
        try simp only [Act.put, List.setIfInBounds_toArray, List.set_cons_zero, List.set_cons_succ]
        refine L_pure 2 (v := ?vra_2) (getS (getS (get0))) (by kernel_rfl) (by kernel_rfl) (by kernel_rfl) (fun _ _ _ h => h) (by decide) (by decide) (by rfl) ?hyra_2 hS0 (fun hS1 => ?rera_2)
        case hyra_2 => (intro w9; go_simp; try with_reducible rfl)
        clear hS0
        have hS0 := hS1
        clear hS1
        try simp only [Act.put, List.setIfInBounds_toArray, List.set_cons_zero, List.set_cons_succ]
        refine L_pure 3 (v := ?vra_3) (getS (getS (getS (get0)))) (by kernel_rfl) (by kernel_rfl) (by kernel_rfl) (fun _ _ _ h => h) (by decide) (by decide) (by rfl) ?hyra_3 hS0 (fun hS1 => ?rera_3)
        case hyra_3 => (intro w9; go_simp; try with_reducible rfl)
        clear hS0
        have hS0 := hS1
        clear hS1
        try simp only [Act.put, List.setIfInBounds_toArray, List.set_cons_zero, List.set_cons_succ]
        refine L_pure 4 (v := ?vra_4) (getS (getS (getS (getS (get0))))) (by kernel_rfl) (by kernel_rfl) (by kernel_rfl) (fun _ _ _ h => h) (by decide) (by decide) (by rfl) ?hyra_4 hS0 (fun hS1 => ?rera_4)
        case hyra_4 => (intro w9; go_simp; try with_reducible rfl)
        clear hS0
        have hS0 := hS1
        clear hS1
        try simp only [Act.put, List.setIfInBounds_toArray, List.set_cons_zero, List.set_cons_succ]
        refine L_loadZ [7, 8, 11, 18, 21] 5 (v := ?vra_5) (getS (getS (getS (getS (getS (get0)))))) (by kernel_rfl) (by kernel_rfl) (by kernel_rfl) (fun _ _ _ h => h) (by decide) (by decide) (by kernel_rfl) (by kernel_rfl) (by kernel_rfl) (by rfl) ?hyra_5 hS0 (fun hS1 => ?rera_5)
        case hyra_5 => (intro w9 hSw; (try dsimp only at hSw); go_simp; try with_reducible rfl)
        clear hS0
        have hS0 := hS1
        clear hS1
        try simp only [Act.put, List.setIfInBounds_toArray, List.set_cons_zero, List.set_cons_succ]
        refine L_pure 6 (v := ?vra_6) (getS (getS (getS (getS (getS (getS (get0))))))) (by kernel_rfl) (by kernel_rfl) (by kernel_rfl) (fun _ _ _ h => h) (by decide) (by decide) (by rfl) ?hyra_6 hS0 (fun hS1 => ?rera_6)
        case hyra_6 => (intro w9; go_simp; try with_reducible rfl)
        clear hS0
        have hS0 := hS1
        clear hS1
        try simp only [Act.put, List.setIfInBounds_toArray, List.set_cons_zero, List.set_cons_succ]
        refine L_pure 7 (v := ?vra_7) (getS (getS (getS (getS (getS (getS (getS (get0)))))))) (by kernel_rfl) (by kernel_rfl) (by kernel_rfl) (fun _ _ _ h => h) (by decide) (by decide) (by rfl) ?hyra_7 hS0 (fun hS1 => ?rera_7)
        case hyra_7 => (intro w9; go_simp; try with_reducible rfl)
        clear hS0
        have hS0 := hS1
        clear hS1
        try simp only [Act.put, List.setIfInBounds_toArray, List.set_cons_zero, List.set_cons_succ]
        refine L_pure 9 (v := ?vra_8) (getS (getS (getS (getS (getS (getS (getS (getS (getS (get0)))))))))) (by kernel_rfl) (by kernel_rfl) (by kernel_rfl) (fun _ _ _ h => h) (by decide) (by decide) (by rfl) ?hyra_8 hS0 (fun hS1 => ?rera_8)
        case hyra_8 => (intro w9; go_simp; try with_reducible rfl)
        clear hS0
        have hS0 := hS1
        clear hS1
        try simp only [Act.put, List.setIfInBounds_toArray, List.set_cons_zero, List.set_cons_succ]
        refine L_pure 12 (v := ?vra_9) (getS (getS (getS (getS (getS (getS (getS (getS (getS (getS (getS (getS (get0))))))))))))) (by kernel_rfl) (by kernel_rfl) (by kernel_rfl) (fun _ _ _ h => h) (by decide) (by decide) (by rfl) ?hyra_9 hS0 (fun hS1 => ?rera_9)
        case hyra_9 => (intro w9; go_simp; try with_reducible rfl)
        clear hS0
        have hS0 := hS1
        clear hS1
        try simp only [Act.put, List.setIfInBounds_toArray, List.set_cons_zero, List.set_cons_succ]
        refine L_pure 13 (v := ?vra_10) (getS (getS (getS (getS (getS (getS (getS (getS (getS (getS (getS (getS (getS (get0)))))))))))))) (by kernel_rfl) (by kernel_rfl) (by kernel_rfl) (fun _ _ _ h => h) (by decide) (by decide) (by rfl) ?hyra_10 hS0 (fun hS1 => ?rera_10)
        case hyra_10 => (intro w9; go_simp; try with_reducible rfl)
        clear hS0
        have hS0 := hS1
        clear hS1
        try simp only [Act.put, List.setIfInBounds_toArray, List.set_cons_zero, List.set_cons_succ]
        refine L_pure 14 (v := ?vra_11) (getS (getS (getS (getS (getS (getS (getS (getS (getS (getS (getS (getS (getS (getS (get0))))))))))))))) (by kernel_rfl) (by kernel_rfl) (by kernel_rfl) (fun _ _ _ h => h) (by decide) (by decide) (by rfl) ?hyra_11 hS0 (fun hS1 => ?rera_11)
        case hyra_11 => (intro w9; go_simp; try with_reducible rfl)
        clear hS0
        have hS0 := hS1
        clear hS1
        try simp only [Act.put, List.setIfInBounds_toArray, List.set_cons_zero, List.set_cons_succ]
        refine L_loadZ [17, 18, 21] 15 (v := ?vra_12) (getS (getS (getS (getS (getS (getS (getS (getS (getS (getS (getS (getS (getS (getS (getS (get0)))))))))))))))) (by kernel_rfl) (by kernel_rfl) (by kernel_rfl) (fun _ _ _ h => h) (by decide) (by decide) (by kernel_rfl) (by kernel_rfl) (by kernel_rfl) (by rfl) ?hyra_12 hS0 (fun hS1 => ?rera_12)
        case hyra_12 => (intro w9 hSw; (try dsimp only at hSw); go_simp; try with_reducible rfl)
        clear hS0
        have hS0 := hS1
        clear hS1
        try simp only [Act.put, List.setIfInBounds_toArray, List.set_cons_zero, List.set_cons_succ]
        refine L_pure 16 (v := ?vra_13) (getS (getS (getS (getS (getS (getS (getS (getS (getS (getS (getS (getS (getS (getS (getS (getS (get0))))))))))))))))) (by kernel_rfl) (by kernel_rfl) (by kernel_rfl) (fun _ _ _ h => h) (by decide) (by decide) (by rfl) ?hyra_13 hS0 (fun hS1 => ?rera_13)
        case hyra_13 => (intro w9; go_simp; try with_reducible rfl)
        clear hS0
        have hS0 := hS1
        clear hS1
        try simp only [Act.put, List.setIfInBounds_toArray, List.set_cons_zero, List.set_cons_succ]
        refine L_pure 17 (v := ?vra_14) (getS (getS (getS (getS (getS (getS (getS (getS (getS (getS (getS (getS (getS (getS (getS (getS (getS (get0)))))))))))))))))) (by kernel_rfl) (by kernel_rfl) (by kernel_rfl) (fun _ _ _ h => h) (by decide) (by decide) (by rfl) ?hyra_14 hS0 (fun hS1 => ?rera_14)
        case hyra_14 => (intro w9; go_simp; try with_reducible rfl)
        clear hS0
        have hS0 := hS1
        clear hS1
        try simp only [Act.put, List.setIfInBounds_toArray, List.set_cons_zero, List.set_cons_succ]
        refine L_step2 1 10 (by kernel_rfl) (getS (get0)) (getS (getS (getS (getS (getS (getS (getS (getS (getS (getS (get0))))))))))) ?_ ?_
        · intro K hK
          go_simp
          have HA : Aside0 (AS Wd (Wd.alloc (.cells #[] 3)) 3 (.slice (some ⟨Wd.heap.size, 0, none⟩) 0 0) 0 []) := ⟨AS.new (Below.refl _ _)⟩
          refine hK.out _ _ (SL2.mk (HA.out.cell HG.out) trivial) (fun hS1 => ?_)
          clear hK K hS0
          have hS0 := hS1
          clear hS1
          try simp only [Act.put, List.setIfInBounds_toArray, List.set_cons_zero, List.set_cons_succ]
          refine L_step2 8 10 (by kernel_rfl) (getS (getS (getS (getS (getS (getS (getS (getS (get0))))))))) (getS (getS (getS (getS (getS (getS (getS (getS (getS (getS (get0))))))))))) ?_ ?_
          · intro K hK
            refine step_append_q (by rfl) (.tmp 55) (.tmp 61) 32 (by rfl) Wd.heap.size base 3 i0 (.int .i64 0) 8 Try.underlying32 hi0 hz0 hz1 hz2 rfl _ _ _ (by rfl) HA.out.row _ j _ _ (by rfl) (HA.out.src HX1.out) (one_ints (L.take j)) (by unfold maxLen; omega) (by omega) HA.out.below.size ?_
            intro va wa qa ga oa
            have HA_ := Aside0.mk (HA.out.app ga qa)
            clear HA
            have HA := HA_
            clear HA_ qa ga oa
            refine hK.out _ _ (SL2.mk (HA.out.cell HG.out) trivial) (fun hS1 => ?_)
            clear hK K hS0
            have hS0 := hS1
            clear hS1
            try simp only [Act.put, List.setIfInBounds_toArray, List.set_cons_zero, List.set_cons_succ]
            refine L_step 10 (by kernel_rfl) (getS (getS (getS (getS (getS (getS (getS (getS (getS (getS (get0))))))))))) (fun K hK => ?_)
            go_simp
            have HB1 := AN.new HA.out (.int .i64 x)
            try simp only [alloc_size] at HB1
            clear HA
            have HA := Aside0.mk HB1.1
            have HN1 := Aside0.mk HB1.2
            clear HB1
            refine hK.out _ _ (SL2.mk (HA.out.cell HG.out) trivial) (fun hS1 => ?_)
            clear hK K hS0
            have hS0 := hS1
            clear hS1
            try simp only [Act.put, List.setIfInBounds_toArray, List.set_cons_zero, List.set_cons_succ]
            refine L_step 11 (by kernel_rfl) (getS (getS (getS (getS (getS (getS (getS (getS (getS (getS (getS (get0)))))))))))) (fun K hK => ?_)
            refine step_append_q (by rfl) (.tmp 62) (.tmp 64) 32 (by rfl) Wd.heap.size Wd.heap.size 3 i0 (.int .i64 0) 8 Try.underlying32 hi0 hz0 hz1 hz2 rfl _ _ _ (by rfl) HA.out.row _ 1 _ _ (by rfl) HN1.out.row (one_ints [x]) (by unfold maxLen; omega) (by omega) HA.out.below.size ?_
            intro vb wb qb gb ob
            have HA_ := Aside0.mk (HA.out.app gb qb)
            clear HA
            have HA := HA_
            clear HA_ qb gb ob
            clear HN1
            refine hK.out _ _ (SL2.mk (HA.out.cell HG.out) trivial) (fun hS1 => ?_)
            clear hK K hS0
            have hS0 := hS1
            clear hS1
            try simp only [Act.put, List.setIfInBounds_toArray, List.set_cons_zero, List.set_cons_succ]
            refine L_step 18 (by kernel_rfl) (getS (getS (getS (getS (getS (getS (getS (getS (getS (getS (getS (getS (getS (getS (getS (getS (getS (getS (get0))))))))))))))))))) (fun K hK => ?_)
            refine step_append_q (by rfl) (.tmp 65) (.tmp 71) 32 (by rfl) Wd.heap.size base 3 i0 (.int .i64 0) 8 Try.underlying32 hi0 hz0 hz1 hz2 rfl _ _ _ (by rfl) HA.out.row _ (n - j) _ _ (by rfl) (HA.out.src HX2.out) (one_ints (L.drop j)) (by unfold maxLen; omega) (by omega) HA.out.below.size ?_
            intro vc wc qc gc oc
            have HA_ := Aside0.mk (HA.out.app gc qc)
            clear HA
            have HA := HA_
            clear HA_ qc gc oc
            refine hK.out _ _ (SL2.mk (HA.out.cell HG.out) trivial) (fun hS1 => ?_)
            clear hK K hS0
            have hS0 := hS1
            clear hS1
            try simp only [Act.put, List.setIfInBounds_toArray, List.set_cons_zero, List.set_cons_succ]
            refine L_pure 19 (v := ?vra_51) (getS (getS (getS (getS (getS (getS (getS (getS (getS (getS (getS (getS (getS (getS (getS (getS (getS (getS (getS (get0)))))))))))))))))))) (by kernel_rfl) (by kernel_rfl) (by kernel_rfl) (fun _ _ _ h => h) (by decide) (by decide) (by rfl) ?hyra_51 hS0 (fun hS1 => ?rera_51)
            case hyra_51 => (intro w9; go_simp; try with_reducible rfl)
            clear hS0
            have hS0 := hS1
            clear hS1
            try simp only [Act.put, List.setIfInBounds_toArray, List.set_cons_zero, List.set_cons_succ]
            refine L_pure 20 (v := ?vra_52) (getS (getS (getS (getS (getS (getS (getS (getS (getS (getS (getS (getS (getS (getS (getS (getS (getS (getS (getS (getS (get0))))))))))))))))))))) (by kernel_rfl) (by kernel_rfl) (by kernel_rfl) (fun _ _ _ h => h) (by decide) (by decide) (by rfl) ?hyra_52 hS0 (fun hS1 => ?rera_52)
            case hyra_52 => (intro w9; go_simp; try with_reducible rfl)
            clear hS0
            have hS0 := hS1
            clear hS1
            try simp only [Act.put, List.setIfInBounds_toArray, List.set_cons_zero, List.set_cons_succ]
            obtain ⟨nn, hnn⟩ : ∃ nn, 0 + j + 1 + (n - j) = nn := ⟨_, rfl⟩
            rw [hnn] at HA
            obtain ⟨Az, cz, hvz, -⟩ := q_slice HA.out.row
            subst hvz
            have hput := HQ.out.put HY.out.2.2 hbd HA.out (by rw [HK2.out, HN.out, ← hnn]) (by rw [HK2.out])
            have hfz := hput.2.2.2
            have hcz := HA.out.cell HG.out
            have HR := Aside0.mk hput
            clear hput hnn
            refine L_step 21 (by kernel_rfl) (getS (getS (getS (getS (getS (getS (getS (getS (getS (getS (getS (getS (getS (getS (getS (getS (getS (getS (getS (getS (getS (get0)))))))))))))))))))))) (fun K hK => ?_)
            go_simp
            refine hK.out _ _ (SL2.mk0 (by kernel_rfl) (by kernel_rfl)) (fun hS1 => ?_)
            clear hK K hS0
            have hS0 := hS1
            clear hS1
            try simp only [Act.put, List.setIfInBounds_toArray, List.set_cons_zero, List.set_cons_succ]
            refine L_done (by kernel_rfl) ?_
            clear hS0
            clear hfz hcz
            go_wp2
            go_ret
            exact RAfter.mk _ rfl HR.out.1 (by have h9 := HR.out.2.1; rw [← HWd.out] at h9; exact TR.drew0 h9) (by have h9 := HR.out.2.2.1; rw [← HWd.out] at h9; exact h9)
          · intro K hK
            go_simp
            have HB1 := AN.new HA.out (.int .i64 x)
            try simp only [alloc_size] at HB1
            clear HA
            have HA := Aside0.mk HB1.1
            have HN1 := Aside0.mk HB1.2
            clear HB1
            refine hK.out _ _ (SL2.mk (HA.out.cell HG.out) trivial) (fun hS1 => ?_)
            clear hK K hS0
            have hS0 := hS1
            clear hS1
            try simp only [Act.put, List.setIfInBounds_toArray, List.set_cons_zero, List.set_cons_succ]
            refine L_step 8 (by kernel_rfl) (getS (getS (getS (getS (getS (getS (getS (getS (get0))))))))) (fun K hK => ?_)
            refine step_append_q (by rfl) (.tmp 55) (.tmp 61) 32 (by rfl) Wd.heap.size base 3 i0 (.int .i64 0) 8 Try.underlying32 hi0 hz0 hz1 hz2 rfl _ _ _ (by rfl) HA.out.row _ j _ _ (by rfl) (HA.out.src HX1.out) (one_ints (L.take j)) (by unfold maxLen; omega) (by omega) HA.out.below.size ?_
            intro va wa qa ga oa
            have HA_ := Aside0.mk (HA.out.app ga qa)
            clear HA
            have HN2 := Aside0.mk (HN1.out.app ga oa)
            clear HN1
            have HA := HA_
            clear HA_ qa ga oa
            have HN1 := HN2
            clear HN2
            refine hK.out _ _ (SL2.mk (HA.out.cell HG.out) trivial) (fun hS1 => ?_)
            clear hK K hS0
            have hS0 := hS1
            clear hS1
            try simp only [Act.put, List.setIfInBounds_toArray, List.set_cons_zero, List.set_cons_succ]
            refine L_step 11 (by kernel_rfl) (getS (getS (getS (getS (getS (getS (getS (getS (getS (getS (getS (get0)))))))))))) (fun K hK => ?_)
            refine step_append_q (by rfl) (.tmp 62) (.tmp 64) 32 (by rfl) Wd.heap.size Wd.heap.size 3 i0 (.int .i64 0) 8 Try.underlying32 hi0 hz0 hz1 hz2 rfl _ _ _ (by rfl) HA.out.row _ 1 _ _ (by rfl) HN1.out.row (one_ints [x]) (by unfold maxLen; omega) (by omega) HA.out.below.size ?_
            intro vb wb qb gb ob
            have HA_ := Aside0.mk (HA.out.app gb qb)
            clear HA
            have HA := HA_
            clear HA_ qb gb ob
            clear HN1
            refine hK.out _ _ (SL2.mk (HA.out.cell HG.out) trivial) (fun hS1 => ?_)
            clear hK K hS0
            have hS0 := hS1
            clear hS1
            try simp only [Act.put, List.setIfInBounds_toArray, List.set_cons_zero, List.set_cons_succ]
            refine L_step 18 (by kernel_rfl) (getS (getS (getS (getS (getS (getS (getS (getS (getS (getS (getS (getS (getS (getS (getS (getS (getS (getS (get0))))))))))))))))))) (fun K hK => ?_)
            refine step_append_q (by rfl) (.tmp 65) (.tmp 71) 32 (by rfl) Wd.heap.size base 3 i0 (.int .i64 0) 8 Try.underlying32 hi0 hz0 hz1 hz2 rfl _ _ _ (by rfl) HA.out.row _ (n - j) _ _ (by rfl) (HA.out.src HX2.out) (one_ints (L.drop j)) (by unfold maxLen; omega) (by omega) HA.out.below.size ?_
            intro vc wc qc gc oc
            have HA_ := Aside0.mk (HA.out.app gc qc)
            clear HA
            have HA := HA_
            clear HA_ qc gc oc
            refine hK.out _ _ (SL2.mk (HA.out.cell HG.out) trivial) (fun hS1 => ?_)
            clear hK K hS0
            have hS0 := hS1
            clear hS1
            try simp only [Act.put, List.setIfInBounds_toArray, List.set_cons_zero, List.set_cons_succ]
            refine L_pure 19 (v := ?vra_53) (getS (getS (getS (getS (getS (getS (getS (getS (getS (getS (getS (getS (getS (getS (getS (getS (getS (getS (getS (get0)))))))))))))))))))) (by kernel_rfl) (by kernel_rfl) (by kernel_rfl) (fun _ _ _ h => h) (by decide) (by decide) (by rfl) ?hyra_53 hS0 (fun hS1 => ?rera_53)
            case hyra_53 => (intro w9; go_simp; try with_reducible rfl)
            clear hS0
            have hS0 := hS1
            clear hS1
            try simp only [Act.put, List.setIfInBounds_toArray, List.set_cons_zero, List.set_cons_succ]
            refine L_pure 20 (v := ?vra_54) (getS (getS (getS (getS (getS (getS (getS (getS (getS (getS (getS (getS (getS (getS (getS (getS (getS (getS (getS (getS (get0))))))))))))))))))))) (by kernel_rfl) (by kernel_rfl) (by kernel_rfl) (fun _ _ _ h => h) (by decide) (by decide) (by rfl) ?hyra_54 hS0 (fun hS1 => ?rera_54)
            case hyra_54 => (intro w9; go_simp; try with_reducible rfl)
            clear hS0
            have hS0 := hS1
            clear hS1
            try simp only [Act.put, List.setIfInBounds_toArray, List.set_cons_zero, List.set_cons_succ]
            obtain ⟨nn, hnn⟩ : ∃ nn, 0 + j + 1 + (n - j) = nn := ⟨_, rfl⟩
            rw [hnn] at HA
            obtain ⟨Az, cz, hvz, -⟩ := q_slice HA.out.row
            subst hvz
            have hput := HQ.out.put HY.out.2.2 hbd HA.out (by rw [HK2.out, HN.out, ← hnn]) (by rw [HK2.out])
            have hfz := hput.2.2.2
            have hcz := HA.out.cell HG.out
            have HR := Aside0.mk hput
            clear hput hnn
            refine L_step 21 (by kernel_rfl) (getS (getS (getS (getS (getS (getS (getS (getS (getS (getS (getS (getS (getS (getS (getS (getS (getS (getS (getS (getS (getS (get0)))))))))))))))))))))) (fun K hK => ?_)
            go_simp
            refine hK.out _ _ (SL2.mk0 (by kernel_rfl) (by kernel_rfl)) (fun hS1 => ?_)
            clear hK K hS0
            have hS0 := hS1
            clear hS1
            try simp only [Act.put, List.setIfInBounds_toArray, List.set_cons_zero, List.set_cons_succ]
            refine L_done (by kernel_rfl) ?_
            clear hS0
            clear hfz hcz
            go_wp2
            go_ret
            exact RAfter.mk _ rfl HR.out.1 (by have h9 := HR.out.2.1; rw [← HWd.out] at h9; exact TR.drew0 h9) (by have h9 := HR.out.2.2.1; rw [← HWd.out] at h9; exact h9)
        · intro K hK
          go_simp
          have HB0 : Aside0 (Below Wd.heap.size Wd (Wd.alloc (.cells #[.int .i64 x] 3)) ∧ QRow (Wd.alloc (.cells #[.int .i64 x] 3)) Wd.heap.size 3 1 (.slice (some ⟨Wd.heap.size, 0, none⟩) 1 1) 1 [.int .i64 x]) := ⟨(Below.refl _ _).alloc (Nat.le_refl _) _, an_row (Below.refl _ _) _⟩
          refine hK.out _ _ (SL2.mk (below_cell HB0.out.1 HG.out) trivial) (fun hS1 => ?_)
          clear hK K hS0
          have hS0 := hS1
          clear hS1
          try simp only [Act.put, List.setIfInBounds_toArray, List.set_cons_zero, List.set_cons_succ]
          refine L_step 1 (by kernel_rfl) (getS (get0)) (fun K hK => ?_)
          go_simp
          have HB1 := AS.new (e := 3) HB0.out.1
          have HB2 := AN.behind (e := 3) HB0.out.2
          simp only [alloc_size] at HB1 HB2
          have HA := Aside0.mk HB1
          have HN1 := Aside0.mk HB2
          clear HB1 HB2 HB0
          refine hK.out _ _ (SL2.mk (HA.out.cell HG.out) trivial) (fun hS1 => ?_)
          clear hK K hS0
          have hS0 := hS1
          clear hS1
          try simp only [Act.put, List.setIfInBounds_toArray, List.set_cons_zero, List.set_cons_succ]
          refine L_step 8 (by kernel_rfl) (getS (getS (getS (getS (getS (getS (getS (getS (get0))))))))) (fun K hK => ?_)
          refine step_append_q (by rfl) (.tmp 55) (.tmp 61) 32 (by rfl) Wd.heap.size base 3 i0 (.int .i64 0) 8 Try.underlying32 hi0 hz0 hz1 hz2 rfl _ _ _ (by rfl) HA.out.row _ j _ _ (by rfl) (HA.out.src HX1.out) (one_ints (L.take j)) (by unfold maxLen; omega) (by omega) HA.out.below.size ?_
          intro va wa qa ga oa
          have HA_ := Aside0.mk (HA.out.app ga qa)
          clear HA
          have HN2 := Aside0.mk (HN1.out.app ga oa)
          clear HN1
          have HA := HA_
          clear HA_ qa ga oa
          have HN1 := HN2
          clear HN2
          refine hK.out _ _ (SL2.mk (HA.out.cell HG.out) trivial) (fun hS1 => ?_)
          clear hK K hS0
          have hS0 := hS1
          clear hS1
          try simp only [Act.put, List.setIfInBounds_toArray, List.set_cons_zero, List.set_cons_succ]
          refine L_step 11 (by kernel_rfl) (getS (getS (getS (getS (getS (getS (getS (getS (getS (getS (getS (get0)))))))))))) (fun K hK => ?_)
          refine step_append_q (by rfl) (.tmp 62) (.tmp 64) 32 (by rfl) Wd.heap.size Wd.heap.size 3 i0 (.int .i64 0) 8 Try.underlying32 hi0 hz0 hz1 hz2 rfl _ _ _ (by rfl) HA.out.row _ 1 _ _ (by rfl) HN1.out.row (one_ints [x]) (by unfold maxLen; omega) (by omega) HA.out.below.size ?_
          intro vb wb qb gb ob
          have HA_ := Aside0.mk (HA.out.app gb qb)
          clear HA
          have HA := HA_
          clear HA_ qb gb ob
          clear HN1
          refine hK.out _ _ (SL2.mk (HA.out.cell HG.out) trivial) (fun hS1 => ?_)
          clear hK K hS0
          have hS0 := hS1
          clear hS1
          try simp only [Act.put, List.setIfInBounds_toArray, List.set_cons_zero, List.set_cons_succ]
          refine L_step 18 (by kernel_rfl) (getS (getS (getS (getS (getS (getS (getS (getS (getS (getS (getS (getS (getS (getS (getS (getS (getS (getS (get0))))))))))))))))))) (fun K hK => ?_)
          refine step_append_q (by rfl) (.tmp 65) (.tmp 71) 32 (by rfl) Wd.heap.size base 3 i0 (.int .i64 0) 8 Try.underlying32 hi0 hz0 hz1 hz2 rfl _ _ _ (by rfl) HA.out.row _ (n - j) _ _ (by rfl) (HA.out.src HX2.out) (one_ints (L.drop j)) (by unfold maxLen; omega) (by omega) HA.out.below.size ?_
          intro vc wc qc gc oc
          have HA_ := Aside0.mk (HA.out.app gc qc)
          clear HA
          have HA := HA_
          clear HA_ qc gc oc
          refine hK.out _ _ (SL2.mk (HA.out.cell HG.out) trivial) (fun hS1 => ?_)
          clear hK K hS0
          have hS0 := hS1
          clear hS1
          try simp only [Act.put, List.setIfInBounds_toArray, List.set_cons_zero, List.set_cons_succ]
          refine L_pure 19 (v := ?vra_55) (getS (getS (getS (getS (getS (getS (getS (getS (getS (getS (getS (getS (getS (getS (getS (getS (getS (getS (getS (get0)))))))))))))))))))) (by kernel_rfl) (by kernel_rfl) (by kernel_rfl) (fun _ _ _ h => h) (by decide) (by decide) (by rfl) ?hyra_55 hS0 (fun hS1 => ?rera_55)
          case hyra_55 => (intro w9; go_simp; try with_reducible rfl)
          clear hS0
          have hS0 := hS1
          clear hS1
          try simp only [Act.put, List.setIfInBounds_toArray, List.set_cons_zero, List.set_cons_succ]
          refine L_pure 20 (v := ?vra_56) (getS (getS (getS (getS (getS (getS (getS (getS (getS (getS (getS (getS (getS (getS (getS (getS (getS (getS (getS (getS (get0))))))))))))))))))))) (by kernel_rfl) (by kernel_rfl) (by kernel_rfl) (fun _ _ _ h => h) (by decide) (by decide) (by rfl) ?hyra_56 hS0 (fun hS1 => ?rera_56)
          case hyra_56 => (intro w9; go_simp; try with_reducible rfl)
          clear hS0
          have hS0 := hS1
          clear hS1
          try simp only [Act.put, List.setIfInBounds_toArray, List.set_cons_zero, List.set_cons_succ]
          obtain ⟨nn, hnn⟩ : ∃ nn, 0 + j + 1 + (n - j) = nn := ⟨_, rfl⟩
          rw [hnn] at HA
          obtain ⟨Az, cz, hvz, -⟩ := q_slice HA.out.row
          subst hvz
          have hput := HQ.out.put HY.out.2.2 hbd HA.out (by rw [HK2.out, HN.out, ← hnn]) (by rw [HK2.out])
          have hfz := hput.2.2.2
          have hcz := HA.out.cell HG.out
          have HR := Aside0.mk hput
          clear hput hnn
          refine L_step 21 (by kernel_rfl) (getS (getS (getS (getS (getS (getS (getS (getS (getS (getS (getS (getS (getS (getS (getS (getS (getS (getS (getS (getS (getS (get0)))))))))))))))))))))) (fun K hK => ?_)
          go_simp
          refine hK.out _ _ (SL2.mk0 (by kernel_rfl) (by kernel_rfl)) (fun hS1 => ?_)
          clear hK K hS0
          have hS0 := hS1
          clear hS1
          try simp only [Act.put, List.setIfInBounds_toArray, List.set_cons_zero, List.set_cons_succ]
          refine L_done (by kernel_rfl) ?_
          clear hS0
          clear hfz hcz
          go_wp2
          go_ret
          exact RAfter.mk _ rfl HR.out.1 (by have h9 := HR.out.2.1; rw [← HWd.out] at h9; exact TR.drew0 h9) (by have h9 := HR.out.2.2.1; rw [← HWd.out] at h9; exact h9)
      · have p1 : decide (j < n) = false := decide_eq_false hkn2
        clear hkn2
        go_wp2
        go_wp2
        refine L_region (d1 := 21) (C1 := (fun w' => w'.cell? ⟨g, 1, none⟩ = some (.slice A n c))) (d2 := 21) (C2 := (fun _ => True)) (by kernel_rfl) (SL2.mk HG.out trivial) (fun hS0 => ?_)
        clear HD8
        generalize hWd : World.drew wr = Wd at *
        have HWd := Aside0.mk hWd
        clear hWd
        refine L_pure 0 (v := ?vrp_1) (get0) (by kernel_rfl) (by kernel_rfl) (by kernel_rfl) (fun _ _ _ h => h) (by decide) (by decide) (by rfl) ?hyrp_1 hS0 (fun hS1 => ?rerp_1)
        case hyrp_1 => (intro w9; go_simp; try with_reducible rfl)
        clear hS0
        have hS0 := hS1
        clear hS1
        try simp only [Act.put, List.setIfInBounds_toArray, List.set_cons_zero, List.set_cons_succ]
        refine L_pure 2 (v := ?vrp_2) (getS (getS (get0))) (by kernel_rfl) (by kernel_rfl) (by kernel_rfl) (fun _ _ _ h => h) (by decide) (by decide) (by rfl) ?hyrp_2 hS0 (fun hS1 => ?rerp_2)
        case hyrp_2 => (intro w9; go_simp; try with_reducible rfl)
        clear hS0
        have hS0 := hS1
        clear hS1
        try simp only [Act.put, List.setIfInBounds_toArray, List.set_cons_zero, List.set_cons_succ]
        refine L_pure 3 (v := ?vrp_3) (getS (getS (getS (get0)))) (by kernel_rfl) (by kernel_rfl) (by kernel_rfl) (fun _ _ _ h => h) (by decide) (by decide) (by rfl) ?hyrp_3 hS0 (fun hS1 => ?rerp_3)
        case hyrp_3 => (intro w9; go_simp; try with_reducible rfl)
        clear hS0
        have hS0 := hS1
        clear hS1
        try simp only [Act.put, List.setIfInBounds_toArray, List.set_cons_zero, List.set_cons_succ]
        refine L_pure 4 (v := ?vrp_4) (getS (getS (getS (getS (get0))))) (by kernel_rfl) (by kernel_rfl) (by kernel_rfl) (fun _ _ _ h => h) (by decide) (by decide) (by rfl) ?hyrp_4 hS0 (fun hS1 => ?rerp_4)
        case hyrp_4 => (intro w9; go_simp; try with_reducible rfl)
        clear hS0
        have hS0 := hS1
        clear hS1
        try simp only [Act.put, List.setIfInBounds_toArray, List.set_cons_zero, List.set_cons_succ]
        refine L_loadZ [7, 8, 11, 18, 21] 5 (v := ?vrp_5) (getS (getS (getS (getS (getS (get0)))))) (by kernel_rfl) (by kernel_rfl) (by kernel_rfl) (fun _ _ _ h => h) (by decide) (by decide) (by kernel_rfl) (by kernel_rfl) (by kernel_rfl) (by rfl) ?hyrp_5 hS0 (fun hS1 => ?rerp_5)
        case hyrp_5 => (intro w9 hSw; (try dsimp only at hSw); go_simp; try with_reducible rfl)
        clear hS0
        have hS0 := hS1
        clear hS1
        try simp only [Act.put, List.setIfInBounds_toArray, List.set_cons_zero, List.set_cons_succ]
        refine L_pure 6 (v := ?vrp_6) (getS (getS (getS (getS (getS (getS (get0))))))) (by kernel_rfl) (by kernel_rfl) (by kernel_rfl) (fun _ _ _ h => h) (by decide) (by decide) (by rfl) ?hyrp_6 hS0 (fun hS1 => ?rerp_6)
        case hyrp_6 => (intro w9; go_simp; try with_reducible rfl)
        clear hS0
        have hS0 := hS1
        clear hS1
        try simp only [Act.put, List.setIfInBounds_toArray, List.set_cons_zero, List.set_cons_succ]
        refine L_pure 7 (v := ?vrp_7) (getS (getS (getS (getS (getS (getS (getS (get0)))))))) (by kernel_rfl) (by kernel_rfl) (by kernel_rfl) (fun _ _ _ h => h) (by decide) (by decide) (by rfl) ?hyrp_7 hS0 (fun hS1 => ?rerp_7)
        case hyrp_7 => (intro w9; go_simp; try with_reducible rfl)
        clear hS0
        have hS0 := hS1
        clear hS1
        try simp only [Act.put, List.setIfInBounds_toArray, List.set_cons_zero, List.set_cons_succ]
        refine L_pure 9 (v := ?vrp_8) (getS (getS (getS (getS (getS (getS (getS (getS (getS (get0)))))))))) (by kernel_rfl) (by kernel_rfl) (by kernel_rfl) (fun _ _ _ h => h) (by decide) (by decide) (by rfl) ?hyrp_8 hS0 (fun hS1 => ?rerp_8)
        case hyrp_8 => (intro w9; go_simp; try with_reducible rfl)
        clear hS0
        have hS0 := hS1
        clear hS1
        try simp only [Act.put, List.setIfInBounds_toArray, List.set_cons_zero, List.set_cons_succ]
        refine L_pure 12 (v := ?vrp_9) (getS (getS (getS (getS (getS (getS (getS (getS (getS (getS (getS (getS (get0))))))))))))) (by kernel_rfl) (by kernel_rfl) (by kernel_rfl) (fun _ _ _ h => h) (by decide) (by decide) (by rfl) ?hyrp_9 hS0 (fun hS1 => ?rerp_9)
        case hyrp_9 => (intro w9; go_simp; try with_reducible rfl)
        clear hS0
        have hS0 := hS1
        clear hS1
        try simp only [Act.put, List.setIfInBounds_toArray, List.set_cons_zero, List.set_cons_succ]
        refine L_pure 13 (v := ?vrp_10) (getS (getS (getS (getS (getS (getS (getS (getS (getS (getS (getS (getS (getS (get0)))))))))))))) (by kernel_rfl) (by kernel_rfl) (by kernel_rfl) (fun _ _ _ h => h) (by decide) (by decide) (by rfl) ?hyrp_10 hS0 (fun hS1 => ?rerp_10)
        case hyrp_10 => (intro w9; go_simp; try with_reducible rfl)
        clear hS0
        have hS0 := hS1
        clear hS1
        try simp only [Act.put, List.setIfInBounds_toArray, List.set_cons_zero, List.set_cons_succ]
        refine L_pure 14 (v := ?vrp_11) (getS (getS (getS (getS (getS (getS (getS (getS (getS (getS (getS (getS (getS (getS (get0))))))))))))))) (by kernel_rfl) (by kernel_rfl) (by kernel_rfl) (fun _ _ _ h => h) (by decide) (by decide) (by rfl) ?hyrp_11 hS0 (fun hS1 => ?rerp_11)
        case hyrp_11 => (intro w9; go_simp; try with_reducible rfl)
        clear hS0
        have hS0 := hS1
        clear hS1
        try simp only [Act.put, List.setIfInBounds_toArray, List.set_cons_zero, List.set_cons_succ]
        refine L_loadZ [17, 18, 21] 15 (v := ?vrp_12) (getS (getS (getS (getS (getS (getS (getS (getS (getS (getS (getS (getS (getS (getS (getS (get0)))))))))))))))) (by kernel_rfl) (by kernel_rfl) (by kernel_rfl) (fun _ _ _ h => h) (by decide) (by decide) (by kernel_rfl) (by kernel_rfl) (by kernel_rfl) (by rfl) ?hyrp_12 hS0 (fun hS1 => ?rerp_12)
        case hyrp_12 => (intro w9 hSw; (try dsimp only at hSw); go_simp; try with_reducible rfl)
        clear hS0
        have hS0 := hS1
        clear hS1
        try simp only [Act.put, List.setIfInBounds_toArray, List.set_cons_zero, List.set_cons_succ]
        refine L_pure 16 (v := ?vrp_13) (getS (getS (getS (getS (getS (getS (getS (getS (getS (getS (getS (getS (getS (getS (getS (getS (get0))))))))))))))))) (by kernel_rfl) (by kernel_rfl) (by kernel_rfl) (fun _ _ _ h => h) (by decide) (by decide) (by rfl) ?hyrp_13 hS0 (fun hS1 => ?rerp_13)
        case hyrp_13 => (intro w9; go_simp; try with_reducible rfl)
        clear hS0
        have hS0 := hS1
        clear hS1
        try simp only [Act.put, List.setIfInBounds_toArray, List.set_cons_zero, List.set_cons_succ]
        refine L_pure 17 (v := ?vrp_14) (getS (getS (getS (getS (getS (getS (getS (getS (getS (getS (getS (getS (getS (getS (getS (getS (getS (get0)))))))))))))))))) (by kernel_rfl) (by kernel_rfl) (by kernel_rfl) (fun _ _ _ h => h) (by decide) (by decide) (by rfl) ?hyrp_14 hS0 (fun hS1 => ?rerp_14)
        case hyrp_14 => (intro w9; go_simp; try with_reducible rfl)
        clear hS0
        have hS0 := hS1
        clear hS1
        try simp only [Act.put, List.setIfInBounds_toArray, List.set_cons_zero, List.set_cons_succ]
        refine L_step2 1 10 (by kernel_rfl) (getS (get0)) (getS (getS (getS (getS (getS (getS (getS (getS (getS (getS (get0))))))))))) ?_ ?_
        · intro K hK
          go_simp
          have HA : Aside0 (AS Wd (Wd.alloc (.cells #[] 3)) 3 (.slice (some ⟨Wd.heap.size, 0, none⟩) 0 0) 0 []) := ⟨AS.new (Below.refl _ _)⟩
          refine hK.out _ _ (SL2.mk (HA.out.cell HG.out) trivial) (fun hS1 => ?_)
          clear hK K hS0
          have hS0 := hS1
          clear hS1
          try simp only [Act.put, List.setIfInBounds_toArray, List.set_cons_zero, List.set_cons_succ]
          refine L_step2 8 10 (by kernel_rfl) (getS (getS (getS (getS (getS (getS (getS (getS (get0))))))))) (getS (getS (getS (getS (getS (getS (getS (getS (getS (getS (get0))))))))))) ?_ ?_
          · intro K hK
            refine step_append_q (by rfl) (.tmp 55) (.tmp 61) 32 (by rfl) Wd.heap.size base 3 i0 (.int .i64 0) 8 Try.underlying32 hi0 hz0 hz1 hz2 rfl _ _ _ (by rfl) HA.out.row _ j _ _ (by rfl) (HA.out.src HX1.out) (one_ints (L.take j)) (by unfold maxLen; omega) (by omega) HA.out.below.size ?_
            intro va wa qa ga oa
            have HA_ := Aside0.mk (HA.out.app ga qa)
            clear HA
            have HA := HA_
            clear HA_ qa ga oa
            refine hK.out _ _ (SL2.mk (HA.out.cell HG.out) trivial) (fun hS1 => ?_)
            clear hK K hS0
            have hS0 := hS1
            clear hS1
            try simp only [Act.put, List.setIfInBounds_toArray, List.set_cons_zero, List.set_cons_succ]
            refine L_step 10 (by kernel_rfl) (getS (getS (getS (getS (getS (getS (getS (getS (getS (getS (get0))))))))))) (fun K hK => ?_)
            go_simp
            have HB1 := AN.new HA.out (.int .i64 x)
            try simp only [alloc_size] at HB1
            clear HA
            have HA := Aside0.mk HB1.1
            have HN1 := Aside0.mk HB1.2
            clear HB1
            refine hK.out _ _ (SL2.mk (HA.out.cell HG.out) trivial) (fun hS1 => ?_)
            clear hK K hS0
            have hS0 := hS1
            clear hS1
            try simp only [Act.put, List.setIfInBounds_toArray, List.set_cons_zero, List.set_cons_succ]
            refine L_step 11 (by kernel_rfl) (getS (getS (getS (getS (getS (getS (getS (getS (getS (getS (getS (get0)))))))))))) (fun K hK => ?_)
            refine step_append_q (by rfl) (.tmp 62) (.tmp 64) 32 (by rfl) Wd.heap.size Wd.heap.size 3 i0 (.int .i64 0) 8 Try.underlying32 hi0 hz0 hz1 hz2 rfl _ _ _ (by rfl) HA.out.row _ 1 _ _ (by rfl) HN1.out.row (one_ints [x]) (by unfold maxLen; omega) (by omega) HA.out.below.size ?_
            intro vb wb qb gb ob
            have HA_ := Aside0.mk (HA.out.app gb qb)
            clear HA
            have HA := HA_
            clear HA_ qb gb ob
            clear HN1
            refine hK.out _ _ (SL2.mk (HA.out.cell HG.out) trivial) (fun hS1 => ?_)
            clear hK K hS0
            have hS0 := hS1
            clear hS1
            try simp only [Act.put, List.setIfInBounds_toArray, List.set_cons_zero, List.set_cons_succ]
            refine L_step 18 (by kernel_rfl) (getS (getS (getS (getS (getS (getS (getS (getS (getS (getS (getS (getS (getS (getS (getS (getS (getS (getS (get0))))))))))))))))))) (fun K hK => ?_)
            refine step_append_q (by rfl) (.tmp 65) (.tmp 71) 32 (by rfl) Wd.heap.size base 3 i0 (.int .i64 0) 8 Try.underlying32 hi0 hz0 hz1 hz2 rfl _ _ _ (by rfl) HA.out.row _ (n - j) _ _ (by rfl) (HA.out.src HX2.out) (one_ints (L.drop j)) (by unfold maxLen; omega) (by omega) HA.out.below.size ?_
            intro vc wc qc gc oc
            have HA_ := Aside0.mk (HA.out.app gc qc)
            clear HA
            have HA := HA_
            clear HA_ qc gc oc
            refine hK.out _ _ (SL2.mk (HA.out.cell HG.out) trivial) (fun hS1 => ?_)
            clear hK K hS0
            have hS0 := hS1
            clear hS1
            try simp only [Act.put, List.setIfInBounds_toArray, List.set_cons_zero, List.set_cons_succ]
            refine L_pure 19 (v := ?vrp_51) (getS (getS (getS (getS (getS (getS (getS (getS (getS (getS (getS (getS (getS (getS (getS (getS (getS (getS (getS (get0)))))))))))))))))))) (by kernel_rfl) (by kernel_rfl) (by kernel_rfl) (fun _ _ _ h => h) (by decide) (by decide) (by rfl) ?hyrp_51 hS0 (fun hS1 => ?rerp_51)
            case hyrp_51 => (intro w9; go_simp; try with_reducible rfl)
            clear hS0
            have hS0 := hS1
            clear hS1
            try simp only [Act.put, List.setIfInBounds_toArray, List.set_cons_zero, List.set_cons_succ]
            refine L_pure 20 (v := ?vrp_52) (getS (getS (getS (getS (getS (getS (getS (getS (getS (getS (getS (getS (getS (getS (getS (getS (getS (getS (getS (getS (get0))))))))))))))))))))) (by kernel_rfl) (by kernel_rfl) (by kernel_rfl) (fun _ _ _ h => h) (by decide) (by decide) (by rfl) ?hyrp_52 hS0 (fun hS1 => ?rerp_52)
            case hyrp_52 => (intro w9; go_simp; try with_reducible rfl)
            clear hS0
            have hS0 := hS1
            clear hS1
            try simp only [Act.put, List.setIfInBounds_toArray, List.set_cons_zero, List.set_cons_succ]
            obtain ⟨nn, hnn⟩ : ∃ nn, 0 + j + 1 + (n - j) = nn := ⟨_, rfl⟩
            rw [hnn] at HA
            obtain ⟨Az, cz, hvz, -⟩ := q_slice HA.out.row
            subst hvz
            have hput := HQ.out.put HY.out.2.2 hbd HA.out (by rw [HK2.out, HN.out, ← hnn]) (by rw [HK2.out])
            have hfz := hput.2.2.2
            have hcz := HA.out.cell HG.out
            have HR := Aside0.mk hput
            clear hput hnn
            refine L_step 21 (by kernel_rfl) (getS (getS (getS (getS (getS (getS (getS (getS (getS (getS (getS (getS (getS (getS (getS (getS (getS (getS (getS (getS (getS (get0)))))))))))))))))))))) (fun K hK => ?_)
            go_simp
            refine hK.out _ _ (SL2.mk0 (by kernel_rfl) (by kernel_rfl)) (fun hS1 => ?_)
            clear hK K hS0
            have hS0 := hS1
            clear hS1
            try simp only [Act.put, List.setIfInBounds_toArray, List.set_cons_zero, List.set_cons_succ]
            refine L_done (by kernel_rfl) ?_
            clear hS0
            clear hfz hcz
            go_wp2
            go_ret
            exact RAfter.mk _ rfl HR.out.1 (by have h9 := HR.out.2.1; rw [← HWd.out] at h9; exact TR.drew0 h9) (by have h9 := HR.out.2.2.1; rw [← HWd.out] at h9; exact h9)
          · intro K hK
            go_simp
            have HB1 := AN.new HA.out (.int .i64 x)
            try simp only [alloc_size] at HB1
            clear HA
            have HA := Aside0.mk HB1.1
            have HN1 := Aside0.mk HB1.2
            clear HB1
            refine hK.out _ _ (SL2.mk (HA.out.cell HG.out) trivial) (fun hS1 => ?_)
            clear hK K hS0
            have hS0 := hS1
            clear hS1
            try simp only [Act.put, List.setIfInBounds_toArray, List.set_cons_zero, List.set_cons_succ]
            refine L_step 8 (by kernel_rfl) (getS (getS (getS (getS (getS (getS (getS (getS (get0))))))))) (fun K hK => ?_)
            refine step_append_q (by rfl) (.tmp 55) (.tmp 61) 32 (by rfl) Wd.heap.size base 3 i0 (.int .i64 0) 8 Try.underlying32 hi0 hz0 hz1 hz2 rfl _ _ _ (by rfl) HA.out.row _ j _ _ (by rfl) (HA.out.src HX1.out) (one_ints (L.take j)) (by unfold maxLen; omega) (by omega) HA.out.below.size ?_
            intro va wa qa ga oa
            have HA_ := Aside0.mk (HA.out.app ga qa)
            clear HA
            have HN2 := Aside0.mk (HN1.out.app ga oa)
            clear HN1
            have HA := HA_
            clear HA_ qa ga oa
            have HN1 := HN2
            clear HN2
            refine hK.out _ _ (SL2.mk (HA.out.cell HG.out) trivial) (fun hS1 => ?_)
            clear hK K hS0
            have hS0 := hS1
            clear hS1
            try simp only [Act.put, List.setIfInBounds_toArray, List.set_cons_zero, List.set_cons_succ]
            refine L_step 11 (by kernel_rfl) (getS (getS (getS (getS (getS (getS (getS (getS (getS (getS (getS (get0)))))))))))) (fun K hK => ?_)
            refine step_append_q (by rfl) (.tmp 62) (.tmp 64) 32 (by rfl) Wd.heap.size Wd.heap.size 3 i0 (.int .i64 0) 8 Try.underlying32 hi0 hz0 hz1 hz2 rfl _ _ _ (by rfl) HA.out.row _ 1 _ _ (by rfl) HN1.out.row (one_ints [x]) (by unfold maxLen; omega) (by omega) HA.out.below.size ?_
            intro vb wb qb gb ob
            have HA_ := Aside0.mk (HA.out.app gb qb)
            clear HA
            have HA := HA_
            clear HA_ qb gb ob
            clear HN1
            refine hK.out _ _ (SL2.mk (HA.out.cell HG.out) trivial) (fun hS1 => ?_)
            clear hK K hS0
            have hS0 := hS1
            clear hS1
            try simp only [Act.put, List.setIfInBounds_toArray, List.set_cons_zero, List.set_cons_succ]
            refine L_step 18 (by kernel_rfl) (getS (getS (getS (getS (getS (getS (getS (getS (getS (getS (getS (getS (getS (getS (getS (getS (getS (getS (get0))))))))))))))))))) (fun K hK => ?_)
            refine step_append_q (by rfl) (.tmp 65) (.tmp 71) 32 (by rfl) Wd.heap.size base 3 i0 (.int .i64 0) 8 Try.underlying32 hi0 hz0 hz1 hz2 rfl _ _ _ (by rfl) HA.out.row _ (n - j) _ _ (by rfl) (HA.out.src HX2.out) (one_ints (L.drop j)) (by unfold maxLen; omega) (by omega) HA.out.below.size ?_
            intro vc wc qc gc oc
            have HA_ := Aside0.mk (HA.out.app gc qc)
            clear HA
            have HA := HA_
            clear HA_ qc gc oc
            refine hK.out _ _ (SL2.mk (HA.out.cell HG.out) trivial) (fun hS1 => ?_)
            clear hK K hS0
            have hS0 := hS1
            clear hS1
            try simp only [Act.put, List.setIfInBounds_toArray, List.set_cons_zero, List.set_cons_succ]
            refine L_pure 19 (v := ?vrp_53) (getS (getS (getS (getS (getS (getS (getS (getS (getS (getS (getS (getS (getS (getS (getS (getS (getS (getS (getS (get0)))))))))))))))))))) (by kernel_rfl) (by kernel_rfl) (by kernel_rfl) (fun _ _ _ h => h) (by decide) (by decide) (by rfl) ?hyrp_53 hS0 (fun hS1 => ?rerp_53)
            case hyrp_53 => (intro w9; go_simp; try with_reducible rfl)
            clear hS0
            have hS0 := hS1
            clear hS1
            try simp only [Act.put, List.setIfInBounds_toArray, List.set_cons_zero, List.set_cons_succ]
            refine L_pure 20 (v := ?vrp_54) (getS (getS (getS (getS (getS (getS (getS (getS (getS (getS (getS (getS (getS (getS (getS (getS (getS (getS (getS (getS (get0))))))))))))))))))))) (by kernel_rfl) (by kernel_rfl) (by kernel_rfl) (fun _ _ _ h => h) (by decide) (by decide) (by rfl) ?hyrp_54 hS0 (fun hS1 => ?rerp_54)
            case hyrp_54 => (intro w9; go_simp; try with_reducible rfl)
            clear hS0
            have hS0 := hS1
            clear hS1
            try simp only [Act.put, List.setIfInBounds_toArray, List.set_cons_zero, List.set_cons_succ]
            obtain ⟨nn, hnn⟩ : ∃ nn, 0 + j + 1 + (n - j) = nn := ⟨_, rfl⟩
            rw [hnn] at HA
            obtain ⟨Az, cz, hvz, -⟩ := q_slice HA.out.row
            subst hvz
            have hput := HQ.out.put HY.out.2.2 hbd HA.out (by rw [HK2.out, HN.out, ← hnn]) (by rw [HK2.out])
            have hfz := hput.2.2.2
            have hcz := HA.out.cell HG.out
            have HR := Aside0.mk hput
            clear hput hnn
            refine L_step 21 (by kernel_rfl) (getS (getS (getS (getS (getS (getS (getS (getS (getS (getS (getS (getS (getS (getS (getS (getS (getS (getS (getS (getS (getS (get0)))))))))))))))))))))) (fun K hK => ?_)
            go_simp
            refine hK.out _ _ (SL2.mk0 (by kernel_rfl) (by kernel_rfl)) (fun hS1 => ?_)
            clear hK K hS0
            have hS0 := hS1
            clear hS1
            try simp only [Act.put, List.setIfInBounds_toArray, List.set_cons_zero, List.set_cons_succ]
            refine L_done (by kernel_rfl) ?_
            clear hS0
            clear hfz hcz
            go_wp2
            go_ret
            exact RAfter.mk _ rfl HR.out.1 (by have h9 := HR.out.2.1; rw [← HWd.out] at h9; exact TR.drew0 h9) (by have h9 := HR.out.2.2.1; rw [← HWd.out] at h9; exact h9)
        · intro K hK
          go_simp
          have HB0 : Aside0 (Below Wd.heap.size Wd (Wd.alloc (.cells #[.int .i64 x] 3)) ∧ QRow (Wd.alloc (.cells #[.int .i64 x] 3)) Wd.heap.size 3 1 (.slice (some ⟨Wd.heap.size, 0, none⟩) 1 1) 1 [.int .i64 x]) := ⟨(Below.refl _ _).alloc (Nat.le_refl _) _, an_row (Below.refl _ _) _⟩
          refine hK.out _ _ (SL2.mk (below_cell HB0.out.1 HG.out) trivial) (fun hS1 => ?_)
          clear hK K hS0
          have hS0 := hS1
          clear hS1
          try simp only [Act.put, List.setIfInBounds_toArray, List.set_cons_zero, List.set_cons_succ]
          refine L_step 1 (by kernel_rfl) (getS (get0)) (fun K hK => ?_)
          go_simp
          have HB1 := AS.new (e := 3) HB0.out.1
          have HB2 := AN.behind (e := 3) HB0.out.2
          simp only [alloc_size] at HB1 HB2
          have HA := Aside0.mk HB1
          have HN1 := Aside0.mk HB2
          clear HB1 HB2 HB0
          refine hK.out _ _ (SL2.mk (HA.out.cell HG.out) trivial) (fun hS1 => ?_)
          clear hK K hS0
          have hS0 := hS1
          clear hS1
          try simp only [Act.put, List.setIfInBounds_toArray, List.set_cons_zero, List.set_cons_succ]
          refine L_step 8 (by kernel_rfl) (getS (getS (getS (getS (getS (getS (getS (getS (get0))))))))) (fun K hK => ?_)
          refine step_append_q (by rfl) (.tmp 55) (.tmp 61) 32 (by rfl) Wd.heap.size base 3 i0 (.int .i64 0) 8 Try.underlying32 hi0 hz0 hz1 hz2 rfl _ _ _ (by rfl) HA.out.row _ j _ _ (by rfl) (HA.out.src HX1.out) (one_ints (L.take j)) (by unfold maxLen; omega) (by omega) HA.out.below.size ?_
          intro va wa qa ga oa
          have HA_ := Aside0.mk (HA.out.app ga qa)
          clear HA
          have HN2 := Aside0.mk (HN1.out.app ga oa)
          clear HN1
          have HA := HA_
          clear HA_ qa ga oa
          have HN1 := HN2
          clear HN2
          refine hK.out _ _ (SL2.mk (HA.out.cell HG.out) trivial) (fun hS1 => ?_)
          clear hK K hS0
          have hS0 := hS1
          clear hS1
          try simp only [Act.put, List.setIfInBounds_toArray, List.set_cons_zero, List.set_cons_succ]
          refine L_step 11 (by kernel_rfl) (getS (getS (getS (getS (getS (getS (getS (getS (getS (getS (getS (get0)))))))))))) (fun K hK => ?_)
          refine step_append_q (by rfl) (.tmp 62) (.tmp 64) 32 (by rfl) Wd.heap.size Wd.heap.size 3 i0 (.int .i64 0) 8 Try.underlying32 hi0 hz0 hz1 hz2 rfl _ _ _ (by rfl) HA.out.row _ 1 _ _ (by rfl) HN1.out.row (one_ints [x]) (by unfold maxLen; omega) (by omega) HA.out.below.size ?_
          intro vb wb qb gb ob
          have HA_ := Aside0.mk (HA.out.app gb qb)
          clear HA
          have HA := HA_
          clear HA_ qb gb ob
          clear HN1
          refine hK.out _ _ (SL2.mk (HA.out.cell HG.out) trivial) (fun hS1 => ?_)
          clear hK K hS0
          have hS0 := hS1
          clear hS1
          try simp only [Act.put, List.setIfInBounds_toArray, List.set_cons_zero, List.set_cons_succ]
          refine L_step 18 (by kernel_rfl) (getS (getS (getS (getS (getS (getS (getS (getS (getS (getS (getS (getS (getS (getS (getS (getS (getS (getS (get0))))))))))))))))))) (fun K hK => ?_)
          refine step_append_q (by rfl) (.tmp 65) (.tmp 71) 32 (by rfl) Wd.heap.size base 3 i0 (.int .i64 0) 8 Try.underlying32 hi0 hz0 hz1 hz2 rfl _ _ _ (by rfl) HA.out.row _ (n - j) _ _ (by rfl) (HA.out.src HX2.out) (one_ints (L.drop j)) (by unfold maxLen; omega) (by omega) HA.out.below.size ?_
          intro vc wc qc gc oc
          have HA_ := Aside0.mk (HA.out.app gc qc)
          clear HA
          have HA := HA_
          clear HA_ qc gc oc
          refine hK.out _ _ (SL2.mk (HA.out.cell HG.out) trivial) (fun hS1 => ?_)
          clear hK K hS0
          have hS0 := hS1
          clear hS1
          try simp only [Act.put, List.setIfInBounds_toArray, List.set_cons_zero, List.set_cons_succ]
          refine L_pure 19 (v := ?vrp_55) (getS (getS (getS (getS (getS (getS (getS (getS (getS (getS (getS (getS (getS (getS (getS (getS (getS (getS (getS (get0)))))))))))))))))))) (by kernel_rfl) (by kernel_rfl) (by kernel_rfl) (fun _ _ _ h => h) (by decide) (by decide) (by rfl) ?hyrp_55 hS0 (fun hS1 => ?rerp_55)
          case hyrp_55 => (intro w9; go_simp; try with_reducible rfl)
          clear hS0
          have hS0 := hS1
          clear hS1
          try simp only [Act.put, List.setIfInBounds_toArray, List.set_cons_zero, List.set_cons_succ]
          refine L_pure 20 (v := ?vrp_56) (getS (getS (getS (getS (getS (getS (getS (getS (getS (getS (getS (getS (getS (getS (getS (getS (getS (getS (getS (getS (get0))))))))))))))))))))) (by kernel_rfl) (by kernel_rfl) (by kernel_rfl) (fun _ _ _ h => h) (by decide) (by decide) (by rfl) ?hyrp_56 hS0 (fun hS1 => ?rerp_56)
          case hyrp_56 => (intro w9; go_simp; try with_reducible rfl)
          clear hS0
          have hS0 := hS1
          clear hS1
          try simp only [Act.put, List.setIfInBounds_toArray, List.set_cons_zero, List.set_cons_succ]
          obtain ⟨nn, hnn⟩ : ∃ nn, 0 + j + 1 + (n - j) = nn := ⟨_, rfl⟩
          rw [hnn] at HA
          obtain ⟨Az, cz, hvz, -⟩ := q_slice HA.out.row
          subst hvz
          have hput := HQ.out.put HY.out.2.2 hbd HA.out (by rw [HK2.out, HN.out, ← hnn]) (by rw [HK2.out])
          have hfz := hput.2.2.2
          have hcz := HA.out.cell HG.out
          have HR := Aside0.mk hput
          clear hput hnn
          refine L_step 21 (by kernel_rfl) (getS (getS (getS (getS (getS (getS (getS (getS (getS (getS (getS (getS (getS (getS (getS (getS (getS (getS (getS (getS (getS (get0)))))))))))))))))))))) (fun K hK => ?_)
          go_simp
          refine hK.out _ _ (SL2.mk0 (by kernel_rfl) (by kernel_rfl)) (fun hS1 => ?_)
          clear hK K hS0
          have hS0 := hS1
          clear hS1
          try simp only [Act.put, List.setIfInBounds_toArray, List.set_cons_zero, List.set_cons_succ]
          refine L_done (by kernel_rfl) ?_
          clear hS0
          clear hfz hcz
          go_wp2
          go_ret
          exact RAfter.mk _ rfl HR.out.1 (by have h9 := HR.out.2.1; rw [← HWd.out] at h9; exact TR.drew0 h9) (by have h9 := HR.out.2.2.1; rw [← HWd.out] at h9; exact h9)
end
set_option maxHeartbeats 4000000 in
set_option maxRecDepth 100000 in
theorem rput_no (w : World) (base g : Nat) (most : Int) (V : Value) (L : List Int) (x : Int) (h : RP w base g most V L) (hx : (Lit.int .i64 x).wf = true) (hs : L.Pairwise (· < ·)) (hl : L.length ≤ 70000) (hno : ¬ (0 ≤ x ∧ x < most ∧ x ∉ L)) :
    Calls Try.prog 11 #[.pointer (some ⟨g, 0, none⟩), .int .i64 x] w (RAfter w base g most V L (.bool false)) := by
  obtain ⟨h0, h1⟩ := h.cells
  obtain ⟨A, c, hV, hnc⟩ := h.form
  have hO := h.row
  have HP := Aside0.mk h
  by_cases hx0 : x < 0
  · have d1 : decide (x < 0) = true := decide_eq_true hx0
    clear h hO hV
    go_enter Try.func11, Try.ntmps11
    go_wp2
    go_ret
    exact RAfter.mk V rfl HP.out (TR.refl _ _ _ _) (Ow.refl _ _)
  · have d1 : decide (x < 0) = false := decide_eq_false hx0
    by_cases hx1 : most ≤ x
    · have d2 : decide (most ≤ x) = true := decide_eq_true hx1
      clear h hO hV
      go_enter Try.func11, Try.ntmps11
      go_wp2
      go_ret
      exact RAfter.mk V rfl HP.out (TR.refl _ _ _ _) (Ow.refl _ _)
    · have d2 : decide (most ≤ x) = false := decide_eq_false hx1
      have hin : x ∈ L := by
        by_cases e : x ∈ L
        · exact e
        · exact absurd ⟨by omega, by omega, e⟩ hno
      have hhit := kOf_hit x L hs hin
      obtain ⟨n, hn⟩ : ∃ n, L.length = n := ⟨_, rfl⟩
      obtain ⟨k, hk⟩ : ∃ k, kOf x L = k := ⟨_, rfl⟩
      rw [hk] at hhit
      have hkn : k < n := by rw [← hn]; exact (List.getElem?_eq_some_iff.1 hhit).1
      rw [hn] at hV hO hl hnc
      subst hV
      obtain ⟨gb, ob, hA, -, hmx, hcl⟩ := rp_form1 hO (by omega)
      subst hA
      have HK := Aside0.mk hk
      have HN := Aside0.mk hn
      have HS := Aside0.mk hs
      have HC := Aside0.mk hcl
      have HH := Aside0.mk hhit
      clear h hno hk hO hn hs hcl hhit hin
      go_enter Try.func11, Try.ntmps11
      go_wp2
      go_loopg [5] (k + 1) (fun kq v5 w' => ∃ (j : Nat), v5 = .int .i64 (j : Int) ∧ Aside0 (j + kq = k + 1) ∧ Aside0 (j ≤ k) ∧ Aside0 (w' = w))
      case atStart => exact ⟨0, rfl, ⟨by omega⟩, ⟨Nat.zero_le _⟩, ⟨rfl⟩⟩
      case round =>
        obtain ⟨j, rfl, HKj, HJ, HW⟩ := hrel
        obtain rfl := HW.out
        clear HW
        have hjk : j ≤ k := HJ.out
        have hj1 : j < n := by omega
        have p1 : decide (j < n) = true := decide_eq_true hj1
        have hj0 : (0 : Int) ≤ (j : Int) := by omega
        have hji : (j : Int) < (n : Int) := by omega
        by_cases hjk2 : j < k
        · have hLj : L[j]? = some (L[j]'(by have := HN.out; omega)) := List.getElem?_eq_getElem _
          generalize L[j]'_ = y at hLj
          have hcy := HC.out j (.int .i64 y) (by rw [List.getElem?_map, hLj]; rfl)
          have hyx := kOf_lt x L j y (by rw [HK.out]; exact hjk2) hLj
          have p2 : decide (y < x) = true := decide_eq_true hyx
          clear hLj hyx
          go_wp2
          go_roundg (gk - 1)
          case measure => have := HKj.out; omega
          case rel => exact ⟨j + 1, by go_num, ⟨by have := HKj.out; omega⟩, ⟨by omega⟩, ⟨rfl⟩⟩
        · obtain rfl : j = k := by omega
          have hcy := HC.out j (.int .i64 x) (by rw [List.getElem?_map, HH.out]; rfl)
          have p2 : decide (x < x) = false := decide_eq_false (by omega)
          have p3 : (x == x) = true := beq_self_eq_true x
          go_wp2
          go_ret
          exact RAfter.mk _ rfl HP.out (TR.refl _ _ _ _) (Ow.refl _ _)
def rputL (most x : Int) (L : List Int) : List Int := putL most x L
theorem rput_ (w : World) (base g : Nat) (most : Int) (V : Value) (L : List Int) (x : Int) (b : Bool) (L' : List Int) (h : RP w base g most V L) (hx : (Lit.int .i64 x).wf = true) (hs : L.Pairwise (· < ·)) (hl : L.length ≤ 70000) (hb : putB most x L = b) (hl' : putL most x L = L') :
    Calls Try.prog 11 #[.pointer (some ⟨g, 0, none⟩), .int .i64 x] w (RAfter w base g most V L' (.bool b)) := by
  subst hb hl'
  by_cases hy : 0 ≤ x ∧ x < most ∧ x ∉ L
  · rw [show putB most x L = true from decide_eq_true hy, show putL most x L = _ from if_pos hy]; exact rput_yes w base g most V L x h hx hs hl hy
  · rw [show putB most x L = false from decide_eq_false hy, show putL most x L = L from if_neg hy]; exact rput_no w base g most V L x h hx hs hl hy
end Go.Proofs.Ytbgkpjigkjdmcaa.Ep
