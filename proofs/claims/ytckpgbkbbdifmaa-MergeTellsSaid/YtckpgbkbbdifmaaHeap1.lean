import Derived.Test.YtckpgbkbbdifmaaProg
import Derived.Test.YtckpgbkbbdifmaaWWords
import Derived.Test.YtckpgbkbbdifmaaWMore
import Derived.Test.YtckpgbkbbdifmaaWLast
import Derived.WalkKit
import Derived.ProofKit
import Derived.Below
import Derived.WalkLawsBesides
import Derived.Deep.QuietTactic
import Derived.BigQuiet
import Derived.StillTailTactics
import Derived.Deep.AppendLies
import Derived.Deep.RegionHeld3
import Derived.KernelRfl
import Derived.BigRegion
import Derived.WalkSpells
import Derived.Deep.Slices
import Derived.Deep.Fields
import Derived.ChangeSame
import Derived.Deep.RegionLaw
import Derived.Deep.DrawnRows
namespace Go.Proofs.Ytckpgbkbbdifmaa.Ep
open Go Go.RowKit Go.Proofs.YtckpgbkbbdifmaaW.PrintWords Go.Proofs.YtckpgbkbbdifmaaW.PrintLast Go.Proofs.YtckpgbkbbdifmaaW.PrintMore 
set_option linter.unusedVariables false
set_option linter.unusedSimpArgs false
/-! Plain: a heap in a list, in container/heap's order. -/
section
variable {α : Type} (key : α → Int)
/-- two places change. -/
def swp (l : List α) (i j : Nat) : List α := match l[i]?, l[j]? with
  | some a, some b => (l.set i b).set j a
  | _, _ => l
def kAt (l : List α) (i : Nat) : Int := match l[i]? with
  | some a => key a
  | none => 0
/-- every place but those that fit p is no less than its parent. -/
def Heap (l : List α) (n : Nat) : Prop := ∀ k, k < n → 0 < k → kAt key l ((k - 1) / 2) ≤ kAt key l k
/-- a heap but for place j and its parent. -/
def UpH (l : List α) (n j : Nat) : Prop := (∀ k, k < n → 0 < k → k ≠ j → kAt key l ((k - 1) / 2) ≤ kAt key l k) ∧ (0 < j → ∀ k, k < n → 0 < k → (k - 1) / 2 = j → kAt key l ((j - 1) / 2) ≤ kAt key l k)
/-- a heap but for place i and its children. -/
def DownH (l : List α) (n i : Nat) : Prop := (∀ k, k < n → 0 < k → (k - 1) / 2 ≠ i → kAt key l ((k - 1) / 2) ≤ kAt key l k) ∧ (0 < i → ∀ k, k < n → 0 < k → (k - 1) / 2 = i → kAt key l ((i - 1) / 2) ≤ kAt key l k)
theorem swp_eq {l : List α} {i j : Nat} (hi : i < l.length) (hj : j < l.length) : swp l i j = (l.set i l[j]).set j l[i] := by
  unfold swp; rw [List.getElem?_eq_getElem hi, List.getElem?_eq_getElem hj]
theorem swp_length (l : List α) (i j : Nat) : (swp l i j).length = l.length := by
  unfold swp; split <;> simp
theorem swp_get {l : List α} {i j : Nat} (hi : i < l.length) (hj : j < l.length) (k : Nat) : (swp l i j)[k]? = if k = i then l[j]? else if k = j then l[i]? else l[k]? := by
  rw [swp_eq hi hj, List.getElem?_set, List.getElem?_set, List.length_set]
  by_cases h1 : j = k
  · subst h1
    rw [if_pos rfl, if_pos hj]
    by_cases h2 : j = i
    · subst h2; rw [if_pos rfl, List.getElem?_eq_getElem hi]
    · rw [if_neg h2, if_pos rfl, List.getElem?_eq_getElem hi]
  · rw [if_neg h1]
    by_cases h2 : i = k
    · subst h2; rw [if_pos rfl, if_pos hi, if_pos rfl, List.getElem?_eq_getElem hj]
    · rw [if_neg h2, if_neg (Ne.symm h2), if_neg (Ne.symm h1)]
theorem swp_key {l : List α} {i j : Nat} (hi : i < l.length) (hj : j < l.length) (k : Nat) : kAt key (swp l i j) k = if k = i then kAt key l j else if k = j then kAt key l i else kAt key l k := by
  unfold kAt; rw [swp_get hi hj]
  by_cases h1 : k = i
  · rw [if_pos h1, if_pos h1]
  · rw [if_neg h1, if_neg h1]
    by_cases h2 : k = j
    · rw [if_pos h2, if_pos h2]
    · rw [if_neg h2, if_neg h2]
theorem swp_perm {l : List α} {i j : Nat} (hi : i < l.length) (hj : j < l.length) : (swp l i j).Perm l := by
  rw [swp_eq hi hj]
  exact List.set_set_perm hi hj
theorem heap_upH {l : List α} {n j : Nat} (h : Heap key l n) : UpH key l n j := ⟨fun k hk h0 _ => h k hk h0, fun h0 k hk hk0 e => by
  have h1 := h k hk hk0
  rw [e] at h1
  have h2 := h j (by omega) h0
  omega⟩
theorem up_stop {l : List α} {n j : Nat} (h : UpH key l n j) (hs : j = 0 ∨ kAt key l ((j - 1) / 2) ≤ kAt key l j) : Heap key l n := fun k hk h0 => by
  by_cases e : k = j
  · subst e; rcases hs with hs | hs
    · omega
    · exact hs
  · exact h.1 k hk h0 e
theorem up_step {l : List α} {n j : Nat} (hn : n ≤ l.length) (hj : j < n) (h0 : 0 < j) (h : UpH key l n j) (hlt : kAt key l j < kAt key l ((j - 1) / 2)) : UpH key (swp l ((j - 1) / 2) j) n ((j - 1) / 2) := by
  obtain ⟨p, hp⟩ : ∃ p, (j - 1) / 2 = p := ⟨_, rfl⟩
  rw [hp] at hlt ⊢
  have hpj : p < j := by omega
  have hk := swp_key key (l := l) (i := p) (j := j) (by omega) (by omega)
  refine ⟨fun k hkn hk0 hkp => ?_, fun hp0 k hkn hk0 hkk => ?_⟩
  · rw [hk, hk]
    by_cases e1 : (k - 1) / 2 = p
    · rw [if_pos e1, if_neg hkp]
      by_cases e2 : k = j
      · rw [if_pos e2]; omega
      · rw [if_neg e2]
        have h1 := h.1 k hkn hk0 e2
        rw [e1] at h1; omega
    · rw [if_neg e1]
      by_cases e3 : (k - 1) / 2 = j
      · rw [if_pos e3, if_neg hkp, if_neg (by omega)]
        have h1 := h.2 h0 k hkn hk0 e3
        rw [hp] at h1; exact h1
      · rw [if_neg e3, if_neg hkp]
        by_cases e2 : k = j
        · subst e2; exact absurd hp e1
        · rw [if_neg e2]; exact h.1 k hkn hk0 e2
  · rw [hk, hk]
    rw [if_neg (by omega), if_neg (by omega)]
    have hpp : kAt key l ((p - 1) / 2) ≤ kAt key l p := h.1 p (by omega) hp0 (by omega)
    rw [if_neg (by omega)]
    by_cases e2 : k = j
    · rw [if_pos e2]; exact hpp
    · rw [if_neg e2]
      have h1 := h.1 k hkn hk0 e2
      rw [hkk] at h1; omega
theorem down_stop {l : List α} {n i : Nat} (h : DownH key l n i) (hs : ∀ k, k < n → 0 < k → (k - 1) / 2 = i → kAt key l i ≤ kAt key l k) : Heap key l n := fun k hk h0 => by
  by_cases e : (k - 1) / 2 = i
  · rw [e]; exact hs k hk h0 e
  · exact h.1 k hk h0 e
theorem down_step {l : List α} {n i j : Nat} (hn : n ≤ l.length) (hj : j < n) (hji : (j - 1) / 2 = i) (hj0 : 0 < j) (h : DownH key l n i) (hlt : kAt key l j < kAt key l i) (hmin : ∀ k, k < n → 0 < k → (k - 1) / 2 = i → kAt key l j ≤ kAt key l k) : DownH key (swp l i j) n j := by
  have hij : i < j := by omega
  have hk := swp_key key (l := l) (i := i) (j := j) (by omega) (by omega)
  refine ⟨fun k hkn hk0 hkj => ?_, fun _ k hkn hk0 hkk => ?_⟩
  · rw [hk, hk]
    by_cases e1 : (k - 1) / 2 = i
    · rw [if_pos e1, if_neg (by omega)]
      by_cases e2 : k = j
      · rw [if_pos e2]; omega
      · rw [if_neg e2]; exact hmin k hkn hk0 e1
    · rw [if_neg e1, if_neg hkj]
      by_cases e2 : k = i
      · rw [if_pos e2]
        subst e2
        exact h.2 hk0 j hj hj0 hji
      · rw [if_neg e2]
        by_cases e3 : k = j
        · subst e3; exact absurd hji e1
        · rw [if_neg e3]; exact h.1 k hkn hk0 e1
  · rw [hk, hk, hji, if_pos rfl, if_neg (by omega), if_neg (by omega)]
    have h1 := h.1 k hkn hk0 (by omega)
    rw [hkk] at h1; exact h1
theorem heap_min {l : List α} {n : Nat} (h : Heap key l n) : ∀ k, k < n → kAt key l 0 ≤ kAt key l k := by
  intro k
  induction k using Nat.strongRecOn with
  | _ k ih =>
    intro hk
    by_cases h0 : k = 0
    · subst h0; exact Int.le_refl _
    · have h1 := h k hk (by omega)
      have h2 := ih ((k - 1) / 2) (by omega) (by omega)
      omega
theorem kAt_take {l : List α} {n k : Nat} (hk : k < n) : kAt key (l.take n) k = kAt key l k := by
  unfold kAt; rw [List.getElem?_take, if_pos hk]
theorem kAt_append {l m : List α} {k : Nat} (hk : k < l.length) : kAt key (l ++ m) k = kAt key l k := by
  unfold kAt; rw [List.getElem?_append_left hk]
theorem heap_take {l : List α} {n : Nat} (h : Heap key l n) : Heap key (l.take n) n := fun k hk h0 => by
  rw [kAt_take key hk, kAt_take key (by omega)]; exact h k hk h0
theorem heap_push {l : List α} (h : Heap key l l.length) (x : α) : UpH key (l ++ [x]) (l.length + 1) l.length := by
  refine ⟨fun k hk h0 hne => ?_, fun h0 k hk hk0 e => by omega⟩
  rw [kAt_append key (by omega), kAt_append key (by omega)]; exact h k (by omega) h0
/-- the root is taken to the end: what is ahead of it is a heap but for the root. -/
theorem heap_pop {l : List α} {n : Nat} (h : Heap key l (n + 1)) (hn : n + 1 ≤ l.length) : DownH key (swp l 0 n) n 0 := by
  have hk := swp_key key (l := l) (i := 0) (j := n) (by omega) (by omega)
  refine ⟨fun k hkn hk0 hne => ?_, fun h0 => by omega⟩
  rw [hk, hk, if_neg hne, if_neg (by omega), if_neg (by omega), if_neg (by omega)]
  exact h k (by omega) hk0
end
theorem run_nilchk {P : Program} {t : TypeId} (p : Addr) (a b : String) (w : World) : Sem.run P (Builtin.ssaWrapNilChk_ #[t] t #[.pointer (some p), strVal a, strVal b]) w = .ok (.pointer (some p)) w := rfl
theorem run_method_val {P : Program} {t elem : TypeId} {f : FuncId} {name : String} (ht : P.underlying t = some (.pointer elem)) (hm : ((P.info? t).bind fun i => (i.methods.find? (·.name == name)).map fun m => (m.path, m.func)) = some (#[], some (f, false))) (F : Nat) (p : Addr) (w : World) (v : Value)
    (hl : (loadVar elem p).run P w = .ok v w) : (method (F + 1) t (.pointer (some p)) name).run P w = .ok (f, v) w := by
  obtain ⟨i, hi, h2⟩ := Option.bind_eq_some_iff.1 hm
  obtain ⟨m, hf, h3⟩ := Option.map_eq_some_iff.1 h2
  injection h3 with hp hfn
  rw [method]
  simp [typeInfo, hi, hf, hp, hfn, follow, receiverAt, underlying, ht, Result.andThen, Place.get, run_nilchk, asAddr, hl]
theorem run_method_ptr {P : Program} {t elem : TypeId} {f : FuncId} {name : String} (ht : P.underlying t = some (.pointer elem)) (hm : ((P.info? t).bind fun i => (i.methods.find? (·.name == name)).map fun m => (m.path, m.func)) = some (#[], some (f, true))) (F : Nat) (p : Addr) (w : World) :
    (method (F + 1) t (.pointer (some p)) name).run P w = .ok (f, .pointer (some p)) w := by
  obtain ⟨i, hi, h2⟩ := Option.bind_eq_some_iff.1 hm
  obtain ⟨m, hf, h3⟩ := Option.map_eq_some_iff.1 h2
  injection h3 with hp hfn
  rw [method]
  simp [typeInfo, hi, hf, hp, hfn, follow, receiverAt, underlying, ht, Result.andThen, Place.get]
theorem load40 (p : Addr) (w : World) (v : Value) (h : w.cell? p = some v) : (loadVar 40 p).run Try.prog w = .ok v w := by
  go_simp
theorem meth_less (p : Addr) (w : World) (v : Value) (h : w.cell? p = some v) : (method 171 36 (.pointer (some p)) "Less").run Try.prog w = .ok (48, v) w := run_method_val Try.underlying36 (by kernel_rfl) 170 p w v (load40 p w v h)
theorem meth_len (p : Addr) (w : World) (v : Value) (h : w.cell? p = some v) : (method 171 36 (.pointer (some p)) "Len").run Try.prog w = .ok (19, v) w := run_method_val Try.underlying36 (by kernel_rfl) 170 p w v (load40 p w v h)
theorem meth_swap (p : Addr) (w : World) (v : Value) (h : w.cell? p = some v) : (method 171 36 (.pointer (some p)) "Swap").run Try.prog w = .ok (51, v) w := run_method_val Try.underlying36 (by kernel_rfl) 170 p w v (load40 p w v h)
theorem meth_push (p : Addr) (w : World) : (method 171 36 (.pointer (some p)) "Push").run Try.prog w = .ok (50, .pointer (some p)) w := run_method_ptr Try.underlying36 (by kernel_rfl) 170 p w
theorem meth_pop (p : Addr) (w : World) : (method 171 36 (.pointer (some p)) "Pop").run Try.prog w = .ok (49, .pointer (some p)) w := run_method_ptr Try.underlying36 (by kernel_rfl) 170 p w
theorem own_type {w : World} {base : Nat} {e : TypeId} {size n : Nat} {v : Value} {xs : List Value} (h : w.ownsRow base e size v n xs) {b : Nat} (hb : v.ownBlock = some b) : ∃ cur, w.heap[b]? = some (.cells cur e (0, 0)) := by
  rcases h.2 with ⟨rfl, _⟩ | ⟨g, cap, cur, rfl, _, hg, _⟩
  · cases hb
  · simp only [Value.ownBlock, Option.some.injEq] at hb; subst hb; exact ⟨cur, hg⟩
theorem own_lift {w w' : World} {base : Nat} {e : TypeId} {size n : Nat} {v : Value} {xs : List Value} (h : w.ownsRow base e size v n xs) (hm : ∀ b, v.ownBlock = some b → w'.heap[b]? = w.heap[b]?) : w'.ownsRow base e size v n xs := by
  obtain ⟨h1, h2⟩ := h
  refine ⟨h1, ?_⟩
  rcases h2 with h2 | ⟨g, cap, cur, rfl, hg, hh, r⟩
  · exact .inl h2
  · exact .inr ⟨g, cap, cur, rfl, hg, (hm g rfl).trans hh, r⟩
theorem own_take {w : World} {base e size n m cap g : Nat} {xs : List Value} (h : w.ownsRow base e size (.slice (some ⟨g, 0, none⟩) n cap) n xs) (hm : m ≤ n) : w.ownsRow base e size (.slice (some ⟨g, 0, none⟩) m cap) m (xs.take (m * size)) := by
  obtain ⟨h1, h2⟩ := h
  refine ⟨by rw [List.length_take, h1]; exact Nat.min_eq_left (Nat.mul_le_mul_right _ hm), ?_⟩
  rcases h2 with ⟨h0, _⟩ | ⟨g', cap', cur, he, hb, hh, hnc, hcm, hcs, ht⟩
  · cases h0
  · injection he with ha _ hc
    injection ha with ha; injection ha with ha
    subst ha; subst hc
    exact .inr ⟨g, cap, cur, rfl, hb, hh, by omega, hcm, hcs, by rw [← ht, List.take_take, Nat.min_eq_left (Nat.mul_le_mul_right _ hm)]⟩

/-- an entry of the heap: a list's header, and what it reads as. -/
structure En where
  v : Value
  xs : List Int
def En.key (e : En) : Int := e.xs.headD 0
/-- the entry's list, in memory, in a block below a bound. -/
def EM (w : World) (lo bd : Nat) (e : En) : Prop := QRow w lo 3 1 e.v e.xs.length (e.xs.map (Value.int .i64)) ∧ ∀ k, e.v.ownBlock = some k → k < bd
theorem EM.keep {w w' : World} {lo bd : Nat} {e : En} (h : EM w lo bd e) (hk : ∀ (k : Nat) (cur : Array Value), w.heap[k]? = some (.cells cur 3 (0, 0)) → w'.heap[k]? = w.heap[k]?) : EM w' lo bd e :=
  ⟨q_move h.1 fun k hv => by obtain ⟨_, cur, hc⟩ := q_typed h.1 k hv; exact hk k cur hc, h.2⟩
theorem EM.hi {w : World} {lo bd : Nat} {e : En} (h : EM w lo bd e) : EM w lo w.heap.size e := ⟨h.1, fun k hk => q_lt h.1 k hk⟩
theorem EM.mono {w : World} {lo bd bd' : Nat} {e : En} (h : EM w lo bd e) (hb : bd ≤ bd') : EM w lo bd' e := ⟨h.1, fun k hk => Nat.lt_of_lt_of_le (h.2 k hk) hb⟩
theorem EM.form {w : World} {lo bd : Nat} {e : En} (h : EM w lo bd e) : ∃ A c, e.v = .slice A e.xs.length c := by obtain ⟨A, c, hv, _⟩ := q_slice h.1; exact ⟨A, c, hv⟩
theorem EM.head {w : World} {lo bd : Nat} {e : En} (h : EM w lo bd e) (hne : e.xs ≠ []) : ∃ gb ob c, e.v = .slice (some ⟨gb, ob, none⟩) e.xs.length c ∧ e.xs.length ≤ c ∧ c ≤ 9223372036854775807 ∧ w.cell? ⟨gb, ob, none⟩ = some (.int .i64 e.key) := by
  have hp : 0 < e.xs.length := List.length_pos_iff.2 hne
  rcases h.1.2 with ⟨h0, _⟩ | ⟨g, off, cap, cur, hv, hb, hh, hnc, hm, hcs, ht⟩
  · omega
  · have h1 := h.1
    rw [hv] at h1
    obtain ⟨ad, he, hcell⟩ := q_cells h1 hp
    injection he with he; subst he
    refine ⟨g, off * 1, cap, hv, hnc, by unfold maxLen at hm; omega, ?_⟩
    obtain ⟨v, xs⟩ := e
    cases xs with
    | nil => exact absurd rfl hne
    | cons x xs =>
      have := hcell 0 (.int .i64 x) rfl
      rwa [add_at] at this
def vAt (l : List En) (i : Nat) : Value := match l[i]? with
  | some e => e.v
  | none => undef
theorem vAt_eq {l : List En} {i : Nat} {e : En} (h : l[i]? = some e) : vAt l i = e.v := by unfold vAt; rw [h]
theorem kAt_eq {l : List En} {i : Nat} {e : En} (h : l[i]? = some e) : kAt En.key l i = e.key := by unfold kAt; rw [h]
/-- the lists below place N are not empty. -/
def NE (l : List En) (N : Nat) : Prop := ∀ k e, k < N → l[k]? = some e → e.xs ≠ []
/-- a heap of lists, in memory: the header at p, the row in block ga. -/
structure HM (w : World) (p : Addr) (base ga n cap bd N : Nat) (l : List En) : Prop where
  hd : w.cell? p = some (.slice (some ⟨ga, 0, none⟩) n cap)
  row : w.ownsRow base 22 1 (.slice (some ⟨ga, 0, none⟩) n cap) n (l.map En.v)
  pb : p.block ≠ ga
  els : ∀ e ∈ l, EM w base bd e
  ne : NE l N
section
variable {w w' : World} {p : Addr} {base ga n cap bd N : Nat} {l : List En}
theorem HM.len (h : HM w p base ga n cap bd N l) : l.length = n := by have := h.row.1; simpa using this
theorem HM.get (h : HM w p base ga n cap bd N l) (i : Nat) (hi : i < n) : ∃ e, l[i]? = some e ∧ EM w base bd e ∧ w.cell? ⟨ga, i, none⟩ = some e.v := by
  have hl := h.len
  have hg : l[i]? = some (l[i]'(by omega)) := List.getElem?_eq_getElem _
  refine ⟨_, hg, h.els _ (List.mem_of_getElem? hg), ?_⟩
  rw [h.row.cellAt i (by omega), List.getElem?_map, hg]; rfl
theorem HM.keep (h : HM w p base ga n cap bd N l) (hp : w'.cell? p = w.cell? p) (ha : w'.heap[ga]? = w.heap[ga]?) (hk : ∀ (k : Nat) (cur : Array Value), w.heap[k]? = some (.cells cur 3 (0, 0)) → w'.heap[k]? = w.heap[k]?) : HM w' p base ga n cap bd N l :=
  ⟨hp.trans h.hd, own_lift h.row fun b hb => by injection hb with hb; subst hb; exact ha, h.pb, fun e he => (h.els e he).keep hk, h.ne⟩
theorem HM.same (h : HM w p base ga n cap bd N l) (hh : ∀ k : Nat, w'.heap[k]? = w.heap[k]?) : HM w' p base ga n cap bd N l := h.keep (World.cell?_of_block (hh _)) (hh _) fun k _ _ => hh k
theorem HM.drewN (h : HM w p base ga n cap bd N l) (m : Nat) : HM (w.drewN m) p base ga n cap bd N l := h.same fun _ => rfl
theorem HM.drew (h : HM w p base ga n cap bd N l) : HM w.drew p base ga n cap bd N l := h.same fun _ => rfl
theorem HM.sub (h : HM w p base ga n cap bd N l) {N' : Nat} (hn : NE l N') : HM w p base ga n cap bd N' l := ⟨h.hd, h.row, h.pb, h.els, hn⟩
theorem ne_swp {i j : Nat} (h : NE l N) (hN : N ≤ l.length) (hi : i < N) (hj : j < N) : NE (swp l i j) N := fun k e hk he => by
  rw [swp_get (by omega) (by omega)] at he
  split at he
  · exact h j e hj he
  · split at he
    · exact h i e hi he
    · exact h k e hk he
theorem HM.ne_swp (h : HM w p base ga n cap bd N l) {i j : Nat} (hN : N ≤ n) (hi : i < N) (hj : j < N) : NE (swp l i j) N := Ep.ne_swp h.ne (by rw [h.len]; exact hN) hi hj
end
theorem grown_drew2 {a b : World} {row : Option Nat} (h : a.grownBy b row) : a.grownBy b.drew row := ⟨h.os, h.tape, h.output, h.size, h.block⟩
theorem grown_drewN2 {a b : World} {row : Option Nat} (h : a.grownBy b row) (m : Nat) : a.grownBy (b.drewN m) row := by
  refine ⟨?_, ?_, ?_, ?_, ?_⟩
  · exact h.os
  · exact h.tape
  · exact h.output
  · exact h.size
  · exact h.block
theorem grown_drewN {a b : World} {row : Option Nat} {m : Nat} (h : (a.drewN m).grownBy b row) : a.grownBy b row := ⟨h.os, h.tape, h.output, h.size, h.block⟩
theorem less_ (w : World) (p : Addr) (base ga n cap bd N : Nat) (l : List En) (i j : Nat) (h : HM w p base ga n cap bd N l) (hN : N ≤ n) (hi : i < N) (hj : j < N) :
    Calls Try.prog 48 #[.slice (some ⟨ga, 0, none⟩) n cap, .int .i64 (i : Int), .int .i64 (j : Int)] w fun e w' => e = .returned (.bool (decide (kAt En.key l i < kAt En.key l j))) ∧ Drawn0 w w' := by
  obtain ⟨e1, hl1, hm1, c1⟩ := h.get i (by omega)
  obtain ⟨e2, hl2, hm2, c2⟩ := h.get j (by omega)
  obtain ⟨g1, o1, k1, hv1, hn1, -, d1⟩ := hm1.head (h.ne i e1 hi hl1)
  obtain ⟨g2, o2, k2, hv2, hn2, -, d2⟩ := hm2.head (h.ne j e2 hj hl2)
  have p1 : 0 < e1.xs.length := List.length_pos_iff.2 (h.ne i e1 hi hl1)
  have p2 : 0 < e2.xs.length := List.length_pos_iff.2 (h.ne j e2 hj hl2)
  rw [hv1] at c1
  rw [hv2] at c2
  rw [kAt_eq hl1, kAt_eq hl2]
  have q1 : (0 : Int) ≤ (i : Int) := by omega
  have q2 : (i : Int) < (n : Int) := by omega
  have q3 : (0 : Int) ≤ (j : Int) := by omega
  have q4 : (j : Int) < (n : Int) := by omega
  have q5 : (0 : Int) < (e1.xs.length : Int) := by omega
  have q6 : (0 : Int) < (e2.xs.length : Int) := by omega
  generalize e1.key = a at *
  generalize e2.key = b at *
  generalize e1.xs.length = m1 at *
  generalize e2.xs.length = m2 at *
  clear hl1 hl2 hm1 hm2 hv1 hv2 hn1 hn2 h
  go_enter Try.func48, Try.ntmps48
  go_wp2
  go_quiet (fail)
  go_wp2
  go_ret
  exact ⟨rfl, ⟨⟨_, rfl⟩⟩⟩
theorem less_c (w : World) (p : Addr) (base ga n cap bd N : Nat) (l : List En) (i j : Nat) (b : Bool) (h : HM w p base ga n cap bd N l) (hN : N ≤ n) (hi : i < N) (hj : j < N) (hb : decide (kAt En.key l i < kAt En.key l j) = b) :
    Calls Try.prog 48 #[.slice (some ⟨ga, 0, none⟩) n cap, .int .i64 (i : Int), .int .i64 (j : Int)] w fun e w' => e = .returned (.bool b) ∧ Drawn0 w w' := by
  subst hb; exact less_ w p base ga n cap bd N l i j h hN hi hj
theorem set_back {w : World} {base e n : Nat} {v : Value} {xs : List Value} (h : w.ownsRow base e 1 v n xs) {i j : Nat} (hi : i < n) (hj : j < n) {a b : Value} (ha : xs[i]? = some a) (hb : xs[j]? = some b) {g cap : Nat} (hv : v = .slice (some ⟨g, 0, none⟩) n cap) :
    (w.setCell ⟨g, i, none⟩ b).cell? ⟨g, j, none⟩ = some b := by
  subst hv
  have hs := (h.stored i b).1
  have hl := h.1
  rw [hs.cellAt j (by omega), List.getElem?_set]
  split
  · rw [if_pos (by omega)]
  · exact hb
theorem swap_ (w : World) (p : Addr) (base ga n cap bd N N' : Nat) (l : List En) (i j : Nat) (h : HM w p base ga n cap bd N l) (hi : i < n) (hj : j < n) (hne : NE (swp l i j) N') :
    Calls Try.prog 51 #[.slice (some ⟨ga, 0, none⟩) n cap, .int .i64 (i : Int), .int .i64 (j : Int)] w fun e w' => e = .returned (.tuple #[]) ∧ HM w' p base ga n cap bd N' (swp l i j) ∧ w.grownBy w' (some ga) := by
  obtain ⟨e1, hl1, hm1, c1⟩ := h.get i hi
  obtain ⟨e2, hl2, hm2, c2⟩ := h.get j hj
  obtain ⟨A1, k1, hv1⟩ := hm1.form
  obtain ⟨A2, k2, hv2⟩ := hm2.form
  have f1 := h.row.frozenAt i
  have f2 := h.row.frozenAt j
  have q1 : (0 : Int) ≤ (i : Int) := by omega
  have q2 : (i : Int) < (n : Int) := by omega
  have q3 : (0 : Int) ≤ (j : Int) := by omega
  have q4 : (j : Int) < (n : Int) := by omega
  have x1 : (l.map En.v)[i]? = some e1.v := by rw [List.getElem?_map, hl1]; rfl
  have x2 : (l.map En.v)[j]? = some e2.v := by rw [List.getElem?_map, hl2]; rfl
  have c3 : (w.setCell ⟨ga, i, none⟩ e2.v).cell? ⟨ga, j, none⟩ = some e2.v := set_back h.row hi hj x1 x2 rfl
  have hfin : HM ((w.setCell ⟨ga, i, none⟩ e2.v).setCell ⟨ga, j, none⟩ e1.v) p base ga n cap bd N' (swp l i j) ∧ w.grownBy ((w.setCell ⟨ga, i, none⟩ e2.v).setCell ⟨ga, j, none⟩ e1.v) (some ga) := by
    have hs := h.row.stored i e2.v
    have hs2 := hs.1.stored j e1.v
    have hl := h.len
    have hg := World.grownBy.trans hs.2 hs2.2
    have e : ((l.map En.v).set i e2.v).set j e1.v = (swp l i j).map En.v := by
      rw [swp_eq (by omega) (by omega), List.map_set, List.map_set]
      rw [List.getElem?_eq_getElem (by omega)] at hl1 hl2
      injection hl1 with hl1; injection hl2 with hl2
      rw [hl1, hl2]
    obtain ⟨cur, hty⟩ := own_type h.row (b := ga) rfl
    refine ⟨⟨hg.cell h.hd (fun e => h.pb (by injection e)), e ▸ hs2.1, h.pb, fun e he => ?_, hne⟩, hg⟩
    have hel := h.els e ((swp_perm (by omega) (by omega)).subset he)
    exact hel.keep fun k cur2 hk => hg.block k (Array.getElem?_eq_some_iff.1 hk).1 (fun e2 => by
      injection e2 with e2; subst e2
      rw [hty] at hk; injection hk with hk; injection hk with _ hk; cases hk)
  rw [hv1] at c1 hfin
  rw [hv2] at c2 c3 hfin
  have HF := Aside0.mk hfin
  clear hfin hl1 hl2 hm1 hm2 hv1 hv2 x1 x2 hne
  generalize e1.xs.length = m1 at *
  generalize e2.xs.length = m2 at *
  go_enter Try.func51, Try.ntmps51
  go_wp2
  go_region
  go_wp2
  go_end0
  exact ⟨rfl, HF.out.1.drew, grown_drew2 HF.out.2⟩
theorem less_x (w : World) (p : Addr) (base ga n cap bd N : Nat) (l : List En) (i j : Nat) (x y : Int) (b : Bool) (hx : x = (i : Int)) (hy : y = (j : Int)) (h : HM w p base ga n cap bd N l) (hN : N ≤ n) (hi : i < N) (hj : j < N) (hb : decide (kAt En.key l i < kAt En.key l j) = b) :
    Calls Try.prog 48 #[.slice (some ⟨ga, 0, none⟩) n cap, .int .i64 x, .int .i64 y] w fun e w' => e = .returned (.bool b) ∧ Drawn0 w w' := by
  subst hx hy; exact less_c w p base ga n cap bd N l i j b h hN hi hj hb
theorem swap_x (w : World) (p : Addr) (base ga n cap bd N N' : Nat) (l : List En) (i j : Nat) (x y : Int) (hx : x = (i : Int)) (hy : y = (j : Int)) (h : HM w p base ga n cap bd N l) (hi : i < n) (hj : j < n) (hne : NE (swp l i j) N') :
    Calls Try.prog 51 #[.slice (some ⟨ga, 0, none⟩) n cap, .int .i64 x, .int .i64 y] w fun e w' => e = .returned (.tuple #[]) ∧ HM w' p base ga n cap bd N' (swp l i j) ∧ w.grownBy w' (some ga) := by
  subst hx hy; exact swap_ w p base ga n cap bd N N' l i j h hi hj hne
theorem len_ (w : World) (a : Option Addr) (n cap : Nat) : Calls Try.prog 19 #[.slice a n cap] w fun e w' => e = .returned (.int .i64 (n : Int)) ∧ w = w' := by
  go_enter Try.func19, Try.ntmps19
  go_wp2
  go_ret
  exact ⟨rfl, rfl⟩
def UpP (w : World) (p : Addr) (base ga n cap bd : Nat) (l : List En) (e : Ending) (w' : World) : Prop := ∃ l', e = .returned (.tuple #[]) ∧ HM w' p base ga n cap bd n l' ∧ w.grownBy w' (some ga) ∧ l'.Perm l ∧ Heap En.key l' n
set_option maxRecDepth 100000 in
theorem up_ (w : World) (p : Addr) (base ga n cap bd : Nat) (l : List En) (j : Nat) (h : HM w p base ga n cap bd n l) (hj : j < n) (hn : n ≤ 70000) (hu : UpH En.key l n j) :
    Calls Try.prog 27 #[.iface 36 (.pointer (some p)), .int .i64 (j : Int)] w (UpP w p base ga n cap bd l) := by
  have HH := Aside0.mk h
  have HU := Aside0.mk hu
  clear h hu
  go_enter Try.func27, Try.ntmps27
  go_wp2
  go_loopg [1] (j + 1) (fun kq v1 w' => ∃ (k : Nat) (l' : List En), v1 = .int .i64 (k : Int) ∧ Aside0 (k + 1 ≤ kq) ∧ Aside0 (k < n) ∧ Aside0 (HM w' p base ga n cap bd n l') ∧ Aside0 (w.grownBy w' (some ga)) ∧ Aside0 (l'.Perm l) ∧ Aside0 (UpH En.key l' n k))
  case atStart => exact ⟨j, l, rfl, ⟨Nat.le_refl _⟩, ⟨hj⟩, HH, ⟨World.grownBy.refl _ _⟩, ⟨List.Perm.refl _⟩, HU⟩
  case round =>
    clear HH HU hj
    clear j
    obtain ⟨j, l', rfl, HK, HJ, HH, HG, HP, HU⟩ := hrel
    have hj := HJ.out
    obtain ⟨i, hi⟩ : ∃ i : Nat, (j - 1) / 2 = i := ⟨_, rfl⟩
    have hq1 : Int.tdiv ((j : Int) - 1) 2 = (i : Int) := by
      rcases Nat.eq_zero_or_pos j with h0 | h0
      · subst h0; simp at hi; subst hi; decide
      · rw [Int.tdiv_eq_ediv_of_nonneg (by omega)]; omega
    by_cases h0 : j = 0
    · obtain rfl : i = 0 := by omega
      subst h0
      have hfin := up_stop En.key HU.out (.inl rfl)
      go_wp2
      go_end0
      exact ⟨l', rfl, HH.out, HG.out, HP.out, hfin⟩
    · have hq2 : ((j : Int) - 1) / 2 = (i : Int) := by omega
      have t1 : ((i : Int) == (j : Int)) = false := beq_eq_false_iff_ne.mpr (by omega)
      have t2 : (i == j) = false := beq_eq_false_iff_ne.mpr (by omega)
      have hij : i < j := by omega
      have hin : i < n := by omega
      have HI := Aside0.mk hi
      clear hi
      have hm := meth_less p wr _ HH.out.hd
      have hms := meth_swap p wr _ HH.out.hd
      by_cases hlt : kAt En.key l' j < kAt En.key l' i
      · have HL := Aside0.mk hlt
        have hd : decide (kAt En.key l' j < kAt En.key l' i) = true := decide_eq_true hlt
        clear hlt
        have HD := Aside0.mk hd
        clear hd
        go_wp2_with (first
          | (go_at_call 48; (with_reducible refine (less_c _ p base ga n cap bd n l' j i true HH.out (Nat.le_refl _) hj hin HD.out).mono ?_); rintro e w1 ⟨rfl, ⟨nd, rfl⟩⟩; have hms2 := meth_swap p (wr.drewN nd) _ (HH.out.drewN nd).hd)
          | (go_at_call 51; (with_reducible refine (swap_ _ p base ga n cap bd n n l' i j (HH.out.drewN _) hin hj (HH.out.ne_swp (Nat.le_refl _) hin hj)).mono ?_); rintro e w2 ⟨rfl, H2, G2⟩))
        go_roundg (gk - 1)
        case measure => have := HK.out; omega
        case rel =>
          have hs := up_step En.key (l := l') (n := n) (j := j) (by have := HH.out.len; omega) hj (by omega) HU.out (by rw [HI.out]; exact HL.out)
          rw [HI.out] at hs
          exact ⟨i, swp l' i j, rfl, ⟨by have := HK.out; omega⟩, ⟨hin⟩, ⟨H2⟩, ⟨World.grownBy.trans HG.out (grown_drewN G2)⟩, ⟨(swp_perm (by have := HH.out.len; omega) (by have := HH.out.len; omega)).trans HP.out⟩, ⟨hs⟩⟩
      · have hd : decide (kAt En.key l' j < kAt En.key l' i) = false := decide_eq_false hlt
        have hfin := up_stop En.key HU.out (.inr (by rw [HI.out]; omega))
        have HF := Aside0.mk hfin
        have HD := Aside0.mk hd
        clear hd hlt hfin
        go_wp2_with (go_at_call 48; (with_reducible refine (less_c _ p base ga n cap bd n l' j i false HH.out (Nat.le_refl _) hj hin HD.out).mono ?_); rintro e w1 ⟨rfl, ⟨nd, rfl⟩⟩)
        go_end0
        exact ⟨l', rfl, HH.out.drewN _, grown_drewN2 HG.out _, HP.out, HF.out⟩
end Go.Proofs.Ytckpgbkbbdifmaa.Ep
