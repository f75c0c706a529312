import Derived.Test.YtbgkpjigkjdmcaaProg
import Derived.Test.YtbgkpjigkjdmcaaWWords
import Derived.Test.YtbgkpjigkjdmcaaWMore
import Derived.Test.YtbgkpjigkjdmcaaWLast
import Derived.WalkKit
import Derived.ProofKit
import Derived.Below
import Derived.WalkLawsBesides
import Derived.Deep.QuietTactic
import Derived.BigQuiet
import Derived.StillTailTactics
import Derived.Deep.AppendLies
import Derived.Deep.RegionHeld3
import Derived.KernelRfl
import Derived.BigRegion
import Derived.WalkSpells
import Derived.Deep.Slices
import Derived.Deep.Fields
import Derived.ChangeSame
import Derived.Deep.RegionLaw
import Derived.Deep.DrawnRows
namespace Go.Proofs.Ytbgkpjigkjdmcaa.Ep
open Go Go.RowKit Go.Proofs.YtbgkpjigkjdmcaaW.PrintWords Go.Proofs.YtbgkpjigkjdmcaaW.PrintLast Go.Proofs.YtbgkpjigkjdmcaaW.PrintMore 
set_option linter.unusedVariables false
set_option linter.unusedSimpArgs false
/-! Plain: a heap in a list, in container/heap's order. -/
section
variable {α : Type} (key : α → Int)
/-- two places change. -/
def swp (l : List α) (i j : Nat) : List α := match l[i]?, l[j]? with
  | some a, some b => (l.set i b).set j a
  | _, _ => l
def kAt (l : List α) (i : Nat) : Int := match l[i]? with
  | some a => key a
  | none => 0
/-- every place but those that fit p is no less than its parent. -/
def Heap (l : List α) (n : Nat) : Prop := ∀ k, k < n → 0 < k → kAt key l ((k - 1) / 2) ≤ kAt key l k
/-- a heap but for place j and its parent. -/
def UpH (l : List α) (n j : Nat) : Prop := (∀ k, k < n → 0 < k → k ≠ j → kAt key l ((k - 1) / 2) ≤ kAt key l k) ∧ (0 < j → ∀ k, k < n → 0 < k → (k - 1) / 2 = j → kAt key l ((j - 1) / 2) ≤ kAt key l k)
/-- a heap but for place i and its children. -/
def DownH (l : List α) (n i : Nat) : Prop := (∀ k, k < n → 0 < k → (k - 1) / 2 ≠ i → kAt key l ((k - 1) / 2) ≤ kAt key l k) ∧ (0 < i → ∀ k, k < n → 0 < k → (k - 1) / 2 = i → kAt key l ((i - 1) / 2) ≤ kAt key l k)
theorem swp_eq {l : List α} {i j : Nat} (hi : i < l.length) (hj : j < l.length) : swp l i j = (l.set i l[j]).set j l[i] := by
  unfold swp; rw [List.getElem?_eq_getElem hi, List.getElem?_eq_getElem hj]
theorem swp_length (l : List α) (i j : Nat) : (swp l i j).length = l.length := by
  unfold swp; split <;> simp
theorem swp_get {l : List α} {i j : Nat} (hi : i < l.length) (hj : j < l.length) (k : Nat) : (swp l i j)[k]? = if k = i then l[j]? else if k = j then l[i]? else l[k]? := by
  rw [swp_eq hi hj, List.getElem?_set, List.getElem?_set, List.length_set]
  by_cases h1 : j = k
  · subst h1
    rw [if_pos rfl, if_pos hj]
    by_cases h2 : j = i
    · subst h2; rw [if_pos rfl, List.getElem?_eq_getElem hi]
    · rw [if_neg h2, if_pos rfl, List.getElem?_eq_getElem hi]
  · rw [if_neg h1]
    by_cases h2 : i = k
    · subst h2; rw [if_pos rfl, if_pos hi, if_pos rfl, List.getElem?_eq_getElem hj]
    · rw [if_neg h2, if_neg (Ne.symm h2), if_neg (Ne.symm h1)]
theorem swp_key {l : List α} {i j : Nat} (hi : i < l.length) (hj : j < l.length) (k : Nat) : kAt key (swp l i j) k = if k = i then kAt key l j else if k = j then kAt key l i else kAt key l k := by
  unfold kAt; rw [swp_get hi hj]
  by_cases h1 : k = i
  · rw [if_pos h1, if_pos h1]
  · rw [if_neg h1, if_neg h1]
    by_cases h2 : k = j
    · rw [if_pos h2, if_pos h2]
    · rw [if_neg h2, if_neg h2]
theorem swp_perm {l : List α} {i j : Nat} (hi : i < l.length) (hj : j < l.length) : (swp l i j).Perm l := by
  rw [swp_eq hi hj]
  exact List.set_set_perm hi hj
theorem heap_upH {l : List α} {n j : Nat} (h : Heap key l n) : UpH key l n j := ⟨fun k hk h0 _ => h k hk h0, fun h0 k hk hk0 e => by
  have h1 := h k hk hk0
  rw [e] at h1
  have h2 := h j (by omega) h0
  omega⟩
theorem up_stop {l : List α} {n j : Nat} (h : UpH key l n j) (hs : j = 0 ∨ kAt key l ((j - 1) / 2) ≤ kAt key l j) : Heap key l n := fun k hk h0 => by
  by_cases e : k = j
  · subst e; rcases hs with hs | hs
    · omega
    · exact hs
  · exact h.1 k hk h0 e
theorem up_step {l : List α} {n j : Nat} (hn : n ≤ l.length) (hj : j < n) (h0 : 0 < j) (h : UpH key l n j) (hlt : kAt key l j < kAt key l ((j - 1) / 2)) : UpH key (swp l ((j - 1) / 2) j) n ((j - 1) / 2) := by
  obtain ⟨p, hp⟩ : ∃ p, (j - 1) / 2 = p := ⟨_, rfl⟩
  rw [hp] at hlt ⊢
  have hpj : p < j := by omega
  have hk := swp_key key (l := l) (i := p) (j := j) (by omega) (by omega)
  refine ⟨fun k hkn hk0 hkp => ?_, fun hp0 k hkn hk0 hkk => ?_⟩
  · rw [hk, hk]
    by_cases e1 : (k - 1) / 2 = p
    · rw [if_pos e1, if_neg hkp]
      by_cases e2 : k = j
      · rw [if_pos e2]; omega
      · rw [if_neg e2]
        have h1 := h.1 k hkn hk0 e2
        rw [e1] at h1; omega
    · rw [if_neg e1]
      by_cases e3 : (k - 1) / 2 = j
      · rw [if_pos e3, if_neg hkp, if_neg (by omega)]
        have h1 := h.2 h0 k hkn hk0 e3
        rw [hp] at h1; exact h1
      · rw [if_neg e3, if_neg hkp]
        by_cases e2 : k = j
        · subst e2; exact absurd hp e1
        · rw [if_neg e2]; exact h.1 k hkn hk0 e2
  · rw [hk, hk]
    rw [if_neg (by omega), if_neg (by omega)]
    have hpp : kAt key l ((p - 1) / 2) ≤ kAt key l p := h.1 p (by omega) hp0 (by omega)
    rw [if_neg (by omega)]
    by_cases e2 : k = j
    · rw [if_pos e2]; exact hpp
    · rw [if_neg e2]
      have h1 := h.1 k hkn hk0 e2
      rw [hkk] at h1; omega
theorem down_stop {l : List α} {n i : Nat} (h : DownH key l n i) (hs : ∀ k, k < n → 0 < k → (k - 1) / 2 = i → kAt key l i ≤ kAt key l k) : Heap key l n := fun k hk h0 => by
  by_cases e : (k - 1) / 2 = i
  · rw [e]; exact hs k hk h0 e
  · exact h.1 k hk h0 e
theorem down_step {l : List α} {n i j : Nat} (hn : n ≤ l.length) (hj : j < n) (hji : (j - 1) / 2 = i) (hj0 : 0 < j) (h : DownH key l n i) (hlt : kAt key l j < kAt key l i) (hmin : ∀ k, k < n → 0 < k → (k - 1) / 2 = i → kAt key l j ≤ kAt key l k) : DownH key (swp l i j) n j := by
  have hij : i < j := by omega
  have hk := swp_key key (l := l) (i := i) (j := j) (by omega) (by omega)
  refine ⟨fun k hkn hk0 hkj => ?_, fun _ k hkn hk0 hkk => ?_⟩
  · rw [hk, hk]
    by_cases e1 : (k - 1) / 2 = i
    · rw [if_pos e1, if_neg (by omega)]
      by_cases e2 : k = j
      · rw [if_pos e2]; omega
      · rw [if_neg e2]; exact hmin k hkn hk0 e1
    · rw [if_neg e1, if_neg hkj]
      by_cases e2 : k = i
      · rw [if_pos e2]
        subst e2
        exact h.2 hk0 j hj hj0 hji
      · rw [if_neg e2]
        by_cases e3 : k = j
        · subst e3; exact absurd hji e1
        · rw [if_neg e3]; exact h.1 k hkn hk0 e1
  · rw [hk, hk, hji, if_pos rfl, if_neg (by omega), if_neg (by omega)]
    have h1 := h.1 k hkn hk0 (by omega)
    rw [hkk] at h1; exact h1
theorem heap_min {l : List α} {n : Nat} (h : Heap key l n) : ∀ k, k < n → kAt key l 0 ≤ kAt key l k := by
  intro k
  induction k using Nat.strongRecOn with
  | _ k ih =>
    intro hk
    by_cases h0 : k = 0
    · subst h0; exact Int.le_refl _
    · have h1 := h k hk (by omega)
      have h2 := ih ((k - 1) / 2) (by omega) (by omega)
      omega
theorem kAt_take {l : List α} {n k : Nat} (hk : k < n) : kAt key (l.take n) k = kAt key l k := by
  unfold kAt; rw [List.getElem?_take, if_pos hk]
theorem kAt_append {l m : List α} {k : Nat} (hk : k < l.length) : kAt key (l ++ m) k = kAt key l k := by
  unfold kAt; rw [List.getElem?_append_left hk]
theorem heap_take {l : List α} {n : Nat} (h : Heap key l n) : Heap key (l.take n) n := fun k hk h0 => by
  rw [kAt_take key hk, kAt_take key (by omega)]; exact h k hk h0
theorem heap_push {l : List α} (h : Heap key l l.length) (x : α) : UpH key (l ++ [x]) (l.length + 1) l.length := by
  refine ⟨fun k hk h0 hne => ?_, fun h0 k hk hk0 e => by omega⟩
  rw [kAt_append key (by omega), kAt_append key (by omega)]; exact h k (by omega) h0
/-- the root is taken to the end: what is ahead of it is a heap but for the root. -/
theorem heap_pop {l : List α} {n : Nat} (h : Heap key l (n + 1)) (hn : n + 1 ≤ l.length) : DownH key (swp l 0 n) n 0 := by
  have hk := swp_key key (l := l) (i := 0) (j := n) (by omega) (by omega)
  refine ⟨fun k hkn hk0 hne => ?_, fun h0 => by omega⟩
  rw [hk, hk, if_neg hne, if_neg (by omega), if_neg (by omega), if_neg (by omega)]
  exact h k (by omega) hk0
end
theorem run_nilchk {P : Program} {t : TypeId} (p : Addr) (a b : String) (w : World) : Sem.run P (Builtin.ssaWrapNilChk_ #[t] t #[.pointer (some p), strVal a, strVal b]) w = .ok (.pointer (some p)) w := rfl
theorem run_method_val {P : Program} {t elem : TypeId} {f : FuncId} {name : String} (ht : P.underlying t = some (.pointer elem)) (hm : ((P.info? t).bind fun i => (i.methods.find? (·.name == name)).map fun m => (m.path, m.func)) = some (#[], some (f, false))) (F : Nat) (p : Addr) (w : World) (v : Value)
    (hl : (loadVar elem p).run P w = .ok v w) : (method (F + 1) t (.pointer (some p)) name).run P w = .ok (f, v) w := by
  obtain ⟨i, hi, h2⟩ := Option.bind_eq_some_iff.1 hm
  obtain ⟨m, hf, h3⟩ := Option.map_eq_some_iff.1 h2
  injection h3 with hp hfn
  rw [method]
  simp [typeInfo, hi, hf, hp, hfn, follow, receiverAt, underlying, ht, Result.andThen, Place.get, run_nilchk, asAddr, hl]
theorem run_method_ptr {P : Program} {t elem : TypeId} {f : FuncId} {name : String} (ht : P.underlying t = some (.pointer elem)) (hm : ((P.info? t).bind fun i => (i.methods.find? (·.name == name)).map fun m => (m.path, m.func)) = some (#[], some (f, true))) (F : Nat) (p : Addr) (w : World) :
    (method (F + 1) t (.pointer (some p)) name).run P w = .ok (f, .pointer (some p)) w := by
  obtain ⟨i, hi, h2⟩ := Option.bind_eq_some_iff.1 hm
  obtain ⟨m, hf, h3⟩ := Option.map_eq_some_iff.1 h2
  injection h3 with hp hfn
  rw [method]
  simp [typeInfo, hi, hf, hp, hfn, follow, receiverAt, underlying, ht, Result.andThen, Place.get]
theorem load45 (p : Addr) (w : World) (v : Value) (h : w.cell? p = some v) : (loadVar 45 p).run Try.prog w = .ok v w := by
  go_simp
theorem meth_less (p : Addr) (w : World) (v : Value) (h : w.cell? p = some v) : (method 176 50 (.pointer (some p)) "Less").run Try.prog w = .ok (37, v) w := run_method_val Try.underlying50 (by kernel_rfl) 175 p w v (load45 p w v h)
theorem meth_len (p : Addr) (w : World) (v : Value) (h : w.cell? p = some v) : (method 176 50 (.pointer (some p)) "Len").run Try.prog w = .ok (36, v) w := run_method_val Try.underlying50 (by kernel_rfl) 175 p w v (load45 p w v h)
theorem meth_swap (p : Addr) (w : World) (v : Value) (h : w.cell? p = some v) : (method 176 50 (.pointer (some p)) "Swap").run Try.prog w = .ok (38, v) w := run_method_val Try.underlying50 (by kernel_rfl) 175 p w v (load45 p w v h)
theorem meth_push (p : Addr) (w : World) : (method 176 50 (.pointer (some p)) "Push").run Try.prog w = .ok (40, .pointer (some p)) w := run_method_ptr Try.underlying50 (by kernel_rfl) 175 p w
theorem meth_pop (p : Addr) (w : World) : (method 176 50 (.pointer (some p)) "Pop").run Try.prog w = .ok (39, .pointer (some p)) w := run_method_ptr Try.underlying50 (by kernel_rfl) 175 p w
theorem own_type {w : World} {base : Nat} {e : TypeId} {size n : Nat} {v : Value} {xs : List Value} (h : w.ownsRow base e size v n xs) {b : Nat} (hb : v.ownBlock = some b) : ∃ cur, w.heap[b]? = some (.cells cur e (0, 0)) := by
  rcases h.2 with ⟨rfl, _⟩ | ⟨g, cap, cur, rfl, _, hg, _⟩
  · cases hb
  · simp only [Value.ownBlock, Option.some.injEq] at hb; subst hb; exact ⟨cur, hg⟩
theorem own_lift {w w' : World} {base : Nat} {e : TypeId} {size n : Nat} {v : Value} {xs : List Value} (h : w.ownsRow base e size v n xs) (hm : ∀ b, v.ownBlock = some b → w'.heap[b]? = w.heap[b]?) : w'.ownsRow base e size v n xs := by
  obtain ⟨h1, h2⟩ := h
  refine ⟨h1, ?_⟩
  rcases h2 with h2 | ⟨g, cap, cur, rfl, hg, hh, r⟩
  · exact .inl h2
  · exact .inr ⟨g, cap, cur, rfl, hg, (hm g rfl).trans hh, r⟩
theorem own_take {w : World} {base e size n m cap g : Nat} {xs : List Value} (h : w.ownsRow base e size (.slice (some ⟨g, 0, none⟩) n cap) n xs) (hm : m ≤ n) : w.ownsRow base e size (.slice (some ⟨g, 0, none⟩) m cap) m (xs.take (m * size)) := by
  obtain ⟨h1, h2⟩ := h
  refine ⟨by rw [List.length_take, h1]; exact Nat.min_eq_left (Nat.mul_le_mul_right _ hm), ?_⟩
  rcases h2 with ⟨h0, _⟩ | ⟨g', cap', cur, he, hb, hh, hnc, hcm, hcs, ht⟩
  · cases h0
  · injection he with ha _ hc
    injection ha with ha; injection ha with ha
    subst ha; subst hc
    exact .inr ⟨g, cap, cur, rfl, hb, hh, by omega, hcm, hcs, by rw [← ht, List.take_take, Nat.min_eq_left (Nat.mul_le_mul_right _ hm)]⟩
/-- the numbers of a heap, in memory: the header at p, the row in block ga. -/
structure HM (w : World) (p : Addr) (base ga n cap : Nat) (l : List Int) : Prop where
  hd : w.cell? p = some (.slice (some ⟨ga, 0, none⟩) n cap)
  row : w.ownsRow base 3 1 (.slice (some ⟨ga, 0, none⟩) n cap) n (l.map (Value.int .i64))
  pb : p.block ≠ ga
theorem HM.len {w : World} {p : Addr} {base ga n cap : Nat} {l : List Int} (h : HM w p base ga n cap l) : l.length = n := by have := h.row.1; simpa using this
theorem HM.cell {w : World} {p : Addr} {base ga n cap : Nat} {l : List Int} (h : HM w p base ga n cap l) (i : Nat) (hi : i < n) : w.cell? ⟨ga, i, none⟩ = some (.int .i64 (kAt id l i)) := by
  have hl := h.len
  rw [h.row.cellAt i (by omega), List.getElem?_map, List.getElem?_eq_getElem (by omega)]
  unfold kAt; rw [List.getElem?_eq_getElem (by omega)]; rfl
theorem HM.same {w w' : World} {p : Addr} {base ga n cap : Nat} {l : List Int} (h : HM w p base ga n cap l) (hh : ∀ k : Nat, w'.heap[k]? = w.heap[k]?) : HM w' p base ga n cap l :=
  ⟨(World.cell?_of_block (hh _)).trans h.hd, own_lift h.row fun b _ => hh b, h.pb⟩
theorem HM.drewN {w : World} {p : Addr} {base ga n cap : Nat} {l : List Int} (h : HM w p base ga n cap l) (m : Nat) : HM (w.drewN m) p base ga n cap l := h.same fun _ => rfl
theorem HM.drew {w : World} {p : Addr} {base ga n cap : Nat} {l : List Int} (h : HM w p base ga n cap l) : HM w.drew p base ga n cap l := h.same fun _ => rfl
theorem grown_drew2 {a b : World} {row : Option Nat} (h : a.grownBy b row) : a.grownBy b.drew row := ⟨h.os, h.tape, h.output, h.size, h.block⟩
theorem grown_drewN2 {a b : World} {row : Option Nat} (h : a.grownBy b row) (m : Nat) : a.grownBy (b.drewN m) row := by
  refine ⟨?_, ?_, ?_, ?_, ?_⟩
  · exact h.os
  · exact h.tape
  · exact h.output
  · exact h.size
  · exact h.block
theorem less_ (w : World) (p : Addr) (base ga n cap : Nat) (l : List Int) (i j : Nat) (h : HM w p base ga n cap l) (hi : i < n) (hj : j < n) :
    Calls Try.prog 37 #[.slice (some ⟨ga, 0, none⟩) n cap, .int .i64 (i : Int), .int .i64 (j : Int)] w fun e w' => e = .returned (.bool (decide (kAt id l i < kAt id l j))) ∧ Drawn0 w w' := by
  have c1 := h.cell i hi
  have c2 := h.cell j hj
  have q1 : (0 : Int) ≤ (i : Int) := by omega
  have q2 : (i : Int) < (n : Int) := by omega
  have q3 : (0 : Int) ≤ (j : Int) := by omega
  have q4 : (j : Int) < (n : Int) := by omega
  generalize kAt id l i = a at *
  generalize kAt id l j = b at *
  go_enter Try.func37, Try.ntmps37
  go_wp2
  go_quiet (fail)
  go_wp2
  go_ret
  exact ⟨rfl, ⟨⟨_, rfl⟩⟩⟩
theorem less_c (w : World) (p : Addr) (base ga n cap : Nat) (l : List Int) (i j : Nat) (b : Bool) (h : HM w p base ga n cap l) (hi : i < n) (hj : j < n) (hb : decide (kAt id l i < kAt id l j) = b) :
    Calls Try.prog 37 #[.slice (some ⟨ga, 0, none⟩) n cap, .int .i64 (i : Int), .int .i64 (j : Int)] w fun e w' => e = .returned (.bool b) ∧ Drawn0 w w' := by
  subst hb; exact less_ w p base ga n cap l i j h hi hj
theorem grown_drewN {a b : World} {row : Option Nat} {m : Nat} (h : (a.drewN m).grownBy b row) : a.grownBy b row := ⟨h.os, h.tape, h.output, h.size, h.block⟩
theorem swap_ (w : World) (p : Addr) (base ga n cap : Nat) (l : List Int) (i j : Nat) (h : HM w p base ga n cap l) (hi : i < n) (hj : j < n) :
    Calls Try.prog 38 #[.slice (some ⟨ga, 0, none⟩) n cap, .int .i64 (i : Int), .int .i64 (j : Int)] w fun e w' => e = .returned (.tuple #[]) ∧ HM w' p base ga n cap (swp l i j) ∧ w.grownBy w' (some ga) := by
  have c1 := h.cell i hi
  have c2 := h.cell j hj
  have f1 := h.row.frozenAt i
  have f2 := h.row.frozenAt j
  have q1 : (0 : Int) ≤ (i : Int) := by omega
  have q2 : (i : Int) < (n : Int) := by omega
  have q3 : (0 : Int) ≤ (j : Int) := by omega
  have q4 : (j : Int) < (n : Int) := by omega
  have c3 : (w.setCell ⟨ga, i, none⟩ (.int .i64 (kAt id l j))).cell? ⟨ga, j, none⟩ = some (.int .i64 (kAt id l j)) := by
    have hs := (h.row.stored i (.int .i64 (kAt id l j))).1
    have hl := h.len
    rw [hs.cellAt j (by omega), List.getElem?_set, List.length_map, List.getElem?_map, List.getElem?_eq_getElem (show j < l.length by omega)]
    unfold kAt; rw [List.getElem?_eq_getElem (show j < l.length by omega)]
    split
    · rw [if_pos (by omega)]
    · rfl
  have hfin : HM ((w.setCell ⟨ga, i, none⟩ (.int .i64 (kAt id l j))).setCell ⟨ga, j, none⟩ (.int .i64 (kAt id l i))) p base ga n cap (swp l i j) ∧ w.grownBy ((w.setCell ⟨ga, i, none⟩ (.int .i64 (kAt id l j))).setCell ⟨ga, j, none⟩ (.int .i64 (kAt id l i))) (some ga) := by
    have hs := h.row.stored i (.int .i64 (kAt id l j))
    have hs2 := hs.1.stored j (.int .i64 (kAt id l i))
    have hl := h.len
    have hg := World.grownBy.trans hs.2 hs2.2
    have e : ((l.map (Value.int .i64)).set i (.int .i64 (kAt id l j))).set j (.int .i64 (kAt id l i)) = (swp l i j).map (Value.int .i64) := by
      rw [swp_eq (by omega) (by omega), List.map_set, List.map_set]
      unfold kAt; rw [List.getElem?_eq_getElem (show j < l.length by omega), List.getElem?_eq_getElem (show i < l.length by omega)]; rfl
    exact ⟨⟨hg.cell h.hd (fun e => h.pb (by injection e)), e ▸ hs2.1, h.pb⟩, hg⟩
  have HF := Aside0.mk hfin
  clear hfin
  go_enter Try.func38, Try.ntmps38
  go_wp2
  go_region
  go_wp2
  go_end0
  exact ⟨rfl, HF.out.1.drew, grown_drew2 HF.out.2⟩
theorem less_x (w : World) (p : Addr) (base ga n cap : Nat) (l : List Int) (i j : Nat) (x y : Int) (b : Bool) (hx : x = (i : Int)) (hy : y = (j : Int)) (h : HM w p base ga n cap l) (hi : i < n) (hj : j < n) (hb : decide (kAt id l i < kAt id l j) = b) :
    Calls Try.prog 37 #[.slice (some ⟨ga, 0, none⟩) n cap, .int .i64 x, .int .i64 y] w fun e w' => e = .returned (.bool b) ∧ Drawn0 w w' := by
  subst hx hy; exact less_c w p base ga n cap l i j b h hi hj hb
theorem swap_x (w : World) (p : Addr) (base ga n cap : Nat) (l : List Int) (i j : Nat) (x y : Int) (hx : x = (i : Int)) (hy : y = (j : Int)) (h : HM w p base ga n cap l) (hi : i < n) (hj : j < n) :
    Calls Try.prog 38 #[.slice (some ⟨ga, 0, none⟩) n cap, .int .i64 x, .int .i64 y] w fun e w' => e = .returned (.tuple #[]) ∧ HM w' p base ga n cap (swp l i j) ∧ w.grownBy w' (some ga) := by
  subst hx hy; exact swap_ w p base ga n cap l i j h hi hj
theorem len_ (w : World) (a : Option Addr) (n cap : Nat) : Calls Try.prog 36 #[.slice a n cap] w fun e w' => e = .returned (.int .i64 (n : Int)) ∧ w = w' := by
  go_enter Try.func36, Try.ntmps36
  go_wp2
  go_ret
  exact ⟨rfl, rfl⟩
def UpP (w : World) (p : Addr) (base ga n cap : Nat) (l : List Int) (e : Ending) (w' : World) : Prop := ∃ l', e = .returned (.tuple #[]) ∧ HM w' p base ga n cap l' ∧ w.grownBy w' (some ga) ∧ l'.Perm l ∧ Heap id l' n
set_option maxRecDepth 100000 in
theorem up_ (w : World) (p : Addr) (base ga n cap : Nat) (l : List Int) (j : Nat) (h : HM w p base ga n cap l) (hj : j < n) (hn : n ≤ 70000) (hu : UpH id l n j) :
    Calls Try.prog 18 #[.iface 50 (.pointer (some p)), .int .i64 (j : Int)] w (UpP w p base ga n cap l) := by
  have HH := Aside0.mk h
  have HU := Aside0.mk hu
  clear h hu
  go_enter Try.func18, Try.ntmps18
  go_wp2
  go_loopg [1] (j + 1) (fun kq v1 w' => ∃ (k : Nat) (l' : List Int), v1 = .int .i64 (k : Int) ∧ Aside0 (k + 1 ≤ kq) ∧ Aside0 (k < n) ∧ Aside0 (HM w' p base ga n cap l') ∧ Aside0 (w.grownBy w' (some ga)) ∧ Aside0 (l'.Perm l) ∧ Aside0 (UpH id l' n k))
  case atStart => exact ⟨j, l, rfl, ⟨Nat.le_refl _⟩, ⟨hj⟩, HH, ⟨World.grownBy.refl _ _⟩, ⟨List.Perm.refl _⟩, HU⟩
  case round =>
    clear HH HU hj
    clear j
    obtain ⟨j, l', rfl, HK, HJ, HH, HG, HP, HU⟩ := hrel
    have hj := HJ.out
    obtain ⟨i, hi⟩ : ∃ i : Nat, (j - 1) / 2 = i := ⟨_, rfl⟩
    have hq1 : Int.tdiv ((j : Int) - 1) 2 = (i : Int) := by
      rcases Nat.eq_zero_or_pos j with h0 | h0
      · subst h0; simp at hi; subst hi; decide
      · rw [Int.tdiv_eq_ediv_of_nonneg (by omega)]; omega
    by_cases h0 : j = 0
    · obtain rfl : i = 0 := by omega
      subst h0
      have hfin := up_stop id HU.out (.inl rfl)
      go_wp2
      go_end0
      exact ⟨l', rfl, HH.out, HG.out, HP.out, hfin⟩
    · have hq2 : ((j : Int) - 1) / 2 = (i : Int) := by omega
      have t1 : ((i : Int) == (j : Int)) = false := beq_eq_false_iff_ne.mpr (by omega)
      have t2 : (i == j) = false := beq_eq_false_iff_ne.mpr (by omega)
      have hij : i < j := by omega
      have hin : i < n := by omega
      have HI := Aside0.mk hi
      clear hi
      have hm := meth_less p wr _ HH.out.hd
      have hms := meth_swap p wr _ HH.out.hd
      by_cases hlt : kAt id l' j < kAt id l' i
      · have HL := Aside0.mk hlt
        have hd : decide (kAt id l' j < kAt id l' i) = true := decide_eq_true hlt
        clear hlt
        have HD := Aside0.mk hd
        clear hd
        go_wp2_with (first
          | (go_at_call 37; (with_reducible refine (less_c _ p base ga n cap l' j i true HH.out hj hin HD.out).mono ?_); rintro e w1 ⟨rfl, ⟨nd, rfl⟩⟩; have hms2 := meth_swap p (wr.drewN nd) _ (HH.out.drewN nd).hd)
          | (go_at_call 38; (with_reducible refine (swap_ _ p base ga n cap l' i j (HH.out.drewN _) hin hj).mono ?_); rintro e w2 ⟨rfl, H2, G2⟩))
        go_roundg (gk - 1)
        case measure => have := HK.out; omega
        case rel =>
          have hs := up_step id (l := l') (n := n) (j := j) (by have := HH.out.len; omega) hj (by omega) HU.out (by rw [HI.out]; exact HL.out)
          rw [HI.out] at hs
          exact ⟨i, swp l' i j, rfl, ⟨by have := HK.out; omega⟩, ⟨hin⟩, ⟨H2⟩, ⟨World.grownBy.trans HG.out (grown_drewN G2)⟩, ⟨(swp_perm (by have := HH.out.len; omega) (by have := HH.out.len; omega)).trans HP.out⟩, ⟨hs⟩⟩
      · have hd : decide (kAt id l' j < kAt id l' i) = false := decide_eq_false hlt
        have hfin := up_stop id HU.out (.inr (by rw [HI.out]; omega))
        have HF := Aside0.mk hfin
        have HD := Aside0.mk hd
        clear hd hlt hfin
        go_wp2_with (go_at_call 37; (with_reducible refine (less_c _ p base ga n cap l' j i false HH.out hj hin HD.out).mono ?_); rintro e w1 ⟨rfl, ⟨nd, rfl⟩⟩)
        go_end0
        exact ⟨l', rfl, HH.out.drewN _, grown_drewN2 HG.out _, HP.out, HF.out⟩
def DownP (w : World) (p : Addr) (base ga n cap N : Nat) (l : List Int) (e : Ending) (w' : World) : Prop := ∃ l' b, e = .returned (.bool b) ∧ HM w' p base ga n cap l' ∧ w.grownBy w' (some ga) ∧ l'.Perm l ∧ Heap id l' N ∧ (∀ k, N ≤ k → l'[k]? = l[k]?) ∧ (b = false → l' = l)
theorem DownP.mk {w : World} {p : Addr} {base ga n cap N : Nat} {l : List Int} {e : Ending} {w' : World} (l' : List Int) (b : Bool) (he : e = .returned (.bool b)) (h1 : HM w' p base ga n cap l') (h2 : w.grownBy w' (some ga)) (h3 : l'.Perm l) (h4 : Heap id l' N) (h5 : ∀ k, N ≤ k → l'[k]? = l[k]?) (h6 : b = false → l' = l) : DownP w p base ga n cap N l e w' := ⟨l', b, he, h1, h2, h3, h4, h5, h6⟩
set_option maxHeartbeats 4000000 in
set_option maxRecDepth 100000 in
theorem down_ (w : World) (p : Addr) (base ga n cap N : Nat) (l : List Int) (h : HM w p base ga n cap l) (hN : N ≤ n) (h0n : 0 < n) (hn : n ≤ 70000) (hu : DownH id l N 0) :
    Calls Try.prog 19 #[.iface 50 (.pointer (some p)), .int .i64 0, .int .i64 (N : Int)] w (DownP w p base ga n cap N l) := by
  have HH := Aside0.mk h
  have HU := Aside0.mk hu
  clear h hu
  go_enter Try.func19, Try.ntmps19
  go_wp2
  go_loopg [7] (n + 1) (fun kq v7 w' => ∃ (i : Nat) (l' : List Int), v7 = .int .i64 (i : Int) ∧ Aside0 (i + kq ≥ n + 1) ∧ Aside0 (i < n) ∧ Aside0 (HM w' p base ga n cap l') ∧ Aside0 (w.grownBy w' (some ga)) ∧ Aside0 (l'.Perm l) ∧ Aside0 (DownH id l' N i) ∧ Aside0 (∀ k, N ≤ k → l'[k]? = l[k]?) ∧ Aside0 (i = 0 → l' = l))
  case atStart => exact ⟨0, l, rfl, ⟨by omega⟩, ⟨h0n⟩, HH, ⟨World.grownBy.refl _ _⟩, ⟨List.Perm.refl _⟩, HU, ⟨fun _ _ => rfl⟩, ⟨fun _ => rfl⟩⟩
  case round =>
    clear HH HU
    obtain ⟨i, l', rfl, HK, HI, HH, HG, HP, HU, HT, HZ⟩ := hrel
    have hin := HI.out
    have hm := meth_less p wr _ HH.out.hd
    have hms := meth_swap p wr _ HH.out.hd
    have w1_ : IntKind.i64.wrap (2 * (i : Int)) = 2 * (i : Int) := by rw [IntKind.wrap_i64]; omega
    have w2_ : IntKind.i64.wrap (2 * (i : Int) + 1) = ((2 * i + 1 : Nat) : Int) := by rw [IntKind.wrap_i64]; omega
    have w3_ : IntKind.i64.wrap (((2 * i + 1 : Nat) : Int) + 1) = ((2 * i + 2 : Nat) : Int) := by rw [IntKind.wrap_i64]; omega
    have hch : ∀ k, k < N → 0 < k → (k - 1) / 2 = i → k = 2 * i + 1 ∨ k = 2 * i + 2 := fun k _ h0 e => by omega
    have HCH := Aside0.mk hch
    clear hch
    by_cases h1 : 2 * i + 1 < N
    · by_cases h2 : 2 * i + 2 < N
      · by_cases hl2 : kAt id l' (2 * i + 2) < kAt id l' (2 * i + 1)
        · have HB2 : Aside0 (decide (kAt id l' (2 * i + 2) < kAt id l' (2 * i + 1)) = true) := ⟨decide_eq_true hl2⟩
          have HMIN : Aside0 (∀ k, k < N → 0 < k → (k - 1) / 2 = i → kAt id l' (2 * i + 2) ≤ kAt id l' k) := ⟨fun k hk h0 e => by rcases HCH.out k hk h0 e with rfl | rfl <;> omega⟩
          clear hl2
          have hjn : (2 * i + 2) < N := by omega
          have hjm : (2 * i + 2) < n := by omega
          have hm3 := fun W (h : HM W p base ga n cap l') => meth_less p W _ h.hd
          by_cases hlt : kAt id l' (2 * i + 2) < kAt id l' i
          · have HL := Aside0.mk hlt
            have HD : Aside0 (decide (kAt id l' (2 * i + 2) < kAt id l' i) = true) := ⟨decide_eq_true hlt⟩
            clear hlt
            go_wp2_with (first
              | (go_at_call 37; (with_reducible refine (less_x _ p base ga n cap l' (2 * i + 2) (2 * i + 1) _ _ true (by omega) (by omega) HH.out (by omega) (by omega) HB2.out).mono ?_); rintro e w1 ⟨rfl, ⟨na, rfl⟩⟩; have hm4 := meth_less p (wr.drewN na) _ (HH.out.drewN na).hd)
              | (go_at_call 37; (with_reducible refine (less_x _ p base ga n cap l' (2 * i + 2) i _ _ true (by omega) (by omega) (HH.out.drewN _) hjm hin HD.out).mono ?_); rintro e w1 ⟨rfl, ⟨nb, rfl⟩⟩; have hms2 := meth_swap p ((wr.drewN na).drewN nb) _ ((HH.out.drewN na).drewN nb).hd; have hms3 := meth_swap p (wr.drewN (na + nb)) _ (HH.out.drewN (na + nb)).hd)
              | (go_at_call 37; (with_reducible refine (less_x _ p base ga n cap l' (2 * i + 2) i _ _ true (by omega) (by omega) HH.out hjm hin HD.out).mono ?_); rintro e w1 ⟨rfl, ⟨nd, rfl⟩⟩; have hms2 := meth_swap p (wr.drewN nd) _ (HH.out.drewN nd).hd)
              | (go_at_call 38; (with_reducible refine (swap_x _ p base ga n cap l' i (2 * i + 2) _ _ (by omega) (by omega) (HH.out.drewN _) hin hjm).mono ?_); rintro e w2 ⟨rfl, H2, G2⟩))
            go_roundg (gk - 1)
            case measure => have := HK.out; omega
            case rel =>
              have hl := HH.out.len
              have hs := down_step id (l := l') (n := N) (i := i) (j := (2 * i + 2)) (by omega) hjn (by omega) (by omega) HU.out HL.out HMIN.out
              exact ⟨(2 * i + 2), swp l' i (2 * i + 2), by first | rfl | go_num | (congr 1; omega), ⟨by have := HK.out; omega⟩, ⟨hjm⟩, ⟨H2⟩, ⟨World.grownBy.trans HG.out (grown_drewN G2)⟩, ⟨(swp_perm (by omega) (by omega)).trans HP.out⟩, ⟨hs⟩, ⟨fun k hk => by rw [swp_get (by omega) (by omega), if_neg (by omega), if_neg (by omega)]; exact HT.out k hk⟩, ⟨fun e => by omega⟩⟩
          · have HD : Aside0 (decide (kAt id l' (2 * i + 2) < kAt id l' i) = false) := ⟨decide_eq_false hlt⟩
            have hfin := down_stop id HU.out (fun k hk h0 hki => by have := HMIN.out k hk h0 hki; omega)
            have HF := Aside0.mk hfin
            clear hfin hlt
            go_wp2_with (first
              | (go_at_call 37; (with_reducible refine (less_x _ p base ga n cap l' (2 * i + 2) (2 * i + 1) _ _ true (by omega) (by omega) HH.out (by omega) (by omega) HB2.out).mono ?_); rintro e w1 ⟨rfl, ⟨na, rfl⟩⟩; have hm4 := meth_less p (wr.drewN na) _ (HH.out.drewN na).hd)
              | (go_at_call 37; (with_reducible refine (less_x _ p base ga n cap l' (2 * i + 2) i _ _ false (by omega) (by omega) (HH.out.drewN _) hjm hin HD.out).mono ?_); rintro e w1 ⟨rfl, ⟨nd, rfl⟩⟩)
              | (go_at_call 37; (with_reducible refine (less_x _ p base ga n cap l' (2 * i + 2) i _ _ false (by omega) (by omega) HH.out hjm hin HD.out).mono ?_); rintro e w1 ⟨rfl, ⟨nd, rfl⟩⟩))
            go_ret
            exact DownP.mk l' _ rfl (HH.out.drewN _) (grown_drewN2 HG.out _) HP.out HF.out HT.out (fun e => HZ.out (by simpa using e))

        · have HB2 : Aside0 (decide (kAt id l' (2 * i + 2) < kAt id l' (2 * i + 1)) = false) := ⟨decide_eq_false hl2⟩
          have HMIN : Aside0 (∀ k, k < N → 0 < k → (k - 1) / 2 = i → kAt id l' (2 * i + 1) ≤ kAt id l' k) := ⟨fun k hk h0 e => by rcases HCH.out k hk h0 e with rfl | rfl <;> omega⟩
          clear hl2
          have hjn : (2 * i + 1) < N := by omega
          have hjm : (2 * i + 1) < n := by omega
          have hm3 := fun W (h : HM W p base ga n cap l') => meth_less p W _ h.hd
          by_cases hlt : kAt id l' (2 * i + 1) < kAt id l' i
          · have HL := Aside0.mk hlt
            have HD : Aside0 (decide (kAt id l' (2 * i + 1) < kAt id l' i) = true) := ⟨decide_eq_true hlt⟩
            clear hlt
            go_wp2_with (first
              | (go_at_call 37; (with_reducible refine (less_x _ p base ga n cap l' (2 * i + 2) (2 * i + 1) _ _ false (by omega) (by omega) HH.out (by omega) (by omega) HB2.out).mono ?_); rintro e w1 ⟨rfl, ⟨na, rfl⟩⟩; have hm4 := meth_less p (wr.drewN na) _ (HH.out.drewN na).hd)
              | (go_at_call 37; (with_reducible refine (less_x _ p base ga n cap l' (2 * i + 1) i _ _ true (by omega) (by omega) (HH.out.drewN _) hjm hin HD.out).mono ?_); rintro e w1 ⟨rfl, ⟨nb, rfl⟩⟩; have hms2 := meth_swap p ((wr.drewN na).drewN nb) _ ((HH.out.drewN na).drewN nb).hd; have hms3 := meth_swap p (wr.drewN (na + nb)) _ (HH.out.drewN (na + nb)).hd)
              | (go_at_call 37; (with_reducible refine (less_x _ p base ga n cap l' (2 * i + 1) i _ _ true (by omega) (by omega) HH.out hjm hin HD.out).mono ?_); rintro e w1 ⟨rfl, ⟨nd, rfl⟩⟩; have hms2 := meth_swap p (wr.drewN nd) _ (HH.out.drewN nd).hd)
              | (go_at_call 38; (with_reducible refine (swap_x _ p base ga n cap l' i (2 * i + 1) _ _ (by omega) (by omega) (HH.out.drewN _) hin hjm).mono ?_); rintro e w2 ⟨rfl, H2, G2⟩))
            go_roundg (gk - 1)
            case measure => have := HK.out; omega
            case rel =>
              have hl := HH.out.len
              have hs := down_step id (l := l') (n := N) (i := i) (j := (2 * i + 1)) (by omega) hjn (by omega) (by omega) HU.out HL.out HMIN.out
              exact ⟨(2 * i + 1), swp l' i (2 * i + 1), by first | rfl | go_num | (congr 1; omega), ⟨by have := HK.out; omega⟩, ⟨hjm⟩, ⟨H2⟩, ⟨World.grownBy.trans HG.out (grown_drewN G2)⟩, ⟨(swp_perm (by omega) (by omega)).trans HP.out⟩, ⟨hs⟩, ⟨fun k hk => by rw [swp_get (by omega) (by omega), if_neg (by omega), if_neg (by omega)]; exact HT.out k hk⟩, ⟨fun e => by omega⟩⟩
          · have HD : Aside0 (decide (kAt id l' (2 * i + 1) < kAt id l' i) = false) := ⟨decide_eq_false hlt⟩
            have hfin := down_stop id HU.out (fun k hk h0 hki => by have := HMIN.out k hk h0 hki; omega)
            have HF := Aside0.mk hfin
            clear hfin hlt
            go_wp2_with (first
              | (go_at_call 37; (with_reducible refine (less_x _ p base ga n cap l' (2 * i + 2) (2 * i + 1) _ _ false (by omega) (by omega) HH.out (by omega) (by omega) HB2.out).mono ?_); rintro e w1 ⟨rfl, ⟨na, rfl⟩⟩; have hm4 := meth_less p (wr.drewN na) _ (HH.out.drewN na).hd)
              | (go_at_call 37; (with_reducible refine (less_x _ p base ga n cap l' (2 * i + 1) i _ _ false (by omega) (by omega) (HH.out.drewN _) hjm hin HD.out).mono ?_); rintro e w1 ⟨rfl, ⟨nd, rfl⟩⟩)
              | (go_at_call 37; (with_reducible refine (less_x _ p base ga n cap l' (2 * i + 1) i _ _ false (by omega) (by omega) HH.out hjm hin HD.out).mono ?_); rintro e w1 ⟨rfl, ⟨nd, rfl⟩⟩))
            go_ret
            exact DownP.mk l' _ rfl (HH.out.drewN _) (grown_drewN2 HG.out _) HP.out HF.out HT.out (fun e => HZ.out (by simpa using e))

      · have HMIN : Aside0 (∀ k, k < N → 0 < k → (k - 1) / 2 = i → kAt id l' (2 * i + 1) ≤ kAt id l' k) := ⟨fun k hk h0 e => by rcases HCH.out k hk h0 e with rfl | rfl <;> omega⟩
        have hjn : (2 * i + 1) < N := by omega
        have hjm : (2 * i + 1) < n := by omega
        have hm3 := fun W (h : HM W p base ga n cap l') => meth_less p W _ h.hd
        by_cases hlt : kAt id l' (2 * i + 1) < kAt id l' i
        · have HL := Aside0.mk hlt
          have HD : Aside0 (decide (kAt id l' (2 * i + 1) < kAt id l' i) = true) := ⟨decide_eq_true hlt⟩
          clear hlt
          go_wp2_with (first
            | (go_at_call 37; (with_reducible refine (less_x _ p base ga n cap l' (2 * i + 1) i _ _ true (by omega) (by omega) (HH.out.drewN _) hjm hin HD.out).mono ?_); rintro e w1 ⟨rfl, ⟨nb, rfl⟩⟩; have hms2 := meth_swap p ((wr.drewN na).drewN nb) _ ((HH.out.drewN na).drewN nb).hd; have hms3 := meth_swap p (wr.drewN (na + nb)) _ (HH.out.drewN (na + nb)).hd)
            | (go_at_call 37; (with_reducible refine (less_x _ p base ga n cap l' (2 * i + 1) i _ _ true (by omega) (by omega) HH.out hjm hin HD.out).mono ?_); rintro e w1 ⟨rfl, ⟨nd, rfl⟩⟩; have hms2 := meth_swap p (wr.drewN nd) _ (HH.out.drewN nd).hd)
            | (go_at_call 38; (with_reducible refine (swap_x _ p base ga n cap l' i (2 * i + 1) _ _ (by omega) (by omega) (HH.out.drewN _) hin hjm).mono ?_); rintro e w2 ⟨rfl, H2, G2⟩))
          go_roundg (gk - 1)
          case measure => have := HK.out; omega
          case rel =>
            have hl := HH.out.len
            have hs := down_step id (l := l') (n := N) (i := i) (j := (2 * i + 1)) (by omega) hjn (by omega) (by omega) HU.out HL.out HMIN.out
            exact ⟨(2 * i + 1), swp l' i (2 * i + 1), by first | rfl | go_num | (congr 1; omega), ⟨by have := HK.out; omega⟩, ⟨hjm⟩, ⟨H2⟩, ⟨World.grownBy.trans HG.out (grown_drewN G2)⟩, ⟨(swp_perm (by omega) (by omega)).trans HP.out⟩, ⟨hs⟩, ⟨fun k hk => by rw [swp_get (by omega) (by omega), if_neg (by omega), if_neg (by omega)]; exact HT.out k hk⟩, ⟨fun e => by omega⟩⟩
        · have HD : Aside0 (decide (kAt id l' (2 * i + 1) < kAt id l' i) = false) := ⟨decide_eq_false hlt⟩
          have hfin := down_stop id HU.out (fun k hk h0 hki => by have := HMIN.out k hk h0 hki; omega)
          have HF := Aside0.mk hfin
          clear hfin hlt
          go_wp2_with (first
            | (go_at_call 37; (with_reducible refine (less_x _ p base ga n cap l' (2 * i + 1) i _ _ false (by omega) (by omega) (HH.out.drewN _) hjm hin HD.out).mono ?_); rintro e w1 ⟨rfl, ⟨nd, rfl⟩⟩)
            | (go_at_call 37; (with_reducible refine (less_x _ p base ga n cap l' (2 * i + 1) i _ _ false (by omega) (by omega) HH.out hjm hin HD.out).mono ?_); rintro e w1 ⟨rfl, ⟨nd, rfl⟩⟩))
          go_ret
          exact DownP.mk l' _ rfl (HH.out.drewN _) (grown_drewN2 HG.out _) HP.out HF.out HT.out (fun e => HZ.out (by simpa using e))

    · have hfin := down_stop id HU.out (fun k hk h0 hki => by rcases HCH.out k hk h0 hki with rfl | rfl <;> omega)
      have HF := Aside0.mk hfin
      clear hfin
      go_wp2
      go_ret
      exact DownP.mk l' _ rfl HH.out HG.out HP.out HF.out HT.out (fun e => HZ.out (by simpa using e))
/-- the pool's numbers: its block (the header at its second cell), and the row. -/
structure PN (w : World) (base g : Nat) (most : Int) (M : Value) (V : Value) (l : List Int) : Prop where
  ge : base ≤ g
  obj : w.heap[g]? = some (.cells #[.int .i64 most, V, M] 47 (0, 0))
  row : w.ownsRow base 3 1 V l.length (l.map (Value.int .i64))
/-- what is not the pool's block nor its row (R) stays. -/
structure PF (base g : Nat) (R : Option Nat) (w w' : World) : Prop where
  below : Below base w w'
  others : ∀ (k : Nat) (o : Obj), w.heap[k]? = some o → k ≠ g → some k ≠ R → w'.heap[k]? = some o
/-- a row stays, or is a new one. -/
def Ow (R R' : Option Nat) (w : World) : Prop := R' = R ∨ ∃ b, R' = some b ∧ w.heap.size ≤ b
theorem Ow.refl (R : Option Nat) (w : World) : Ow R R w := .inl rfl
theorem Ow.trans {R R1 R2 : Option Nat} {w w1 : World} (h : Ow R R1 w) (h2 : Ow R1 R2 w1) (hs : w.heap.size ≤ w1.heap.size) : Ow R R2 w := by
  rcases h2 with e | ⟨b, e, hb⟩
  · rw [e]; exact h
  · exact .inr ⟨b, e, by omega⟩
theorem PF.trans {base g : Nat} {R R1 : Option Nat} {a b c : World} (h : PF base g R a b) (ho : Ow R R1 a) (h2 : PF base g R1 b c) : PF base g R a c :=
  ⟨h.below.trans h2.below, fun k o hk hg hn => h2.others k o (h.others k o hk hg hn) hg fun e => by
    rcases ho with e2 | ⟨b', e2, hb⟩
    · exact hn (e.trans e2)
    · rw [e2] at e; injection e with e
      have := (Array.getElem?_eq_some_iff.1 hk).1; omega⟩
theorem PF.drawn {base g : Nat} {R : Option Nat} {a b : World} (h : Drawn0 a b) : PF base g R a b := by
  obtain ⟨n, rfl⟩ := h
  exact ⟨pw_below_drewN (Below.refl _ _) n, fun k o ho _ _ => by exact ho⟩
theorem PF.grown {base g ga : Nat} {w w' : World} (hg : w.grownBy w' (some ga)) (hb : base ≤ w.heap.size) (hga : base ≤ ga) : PF base g (some ga) w w' :=
  ⟨(Below.refl _ _).grown hg hb (fun k hk => by injection hk with hk; subst hk; exact hga), fun k o ho _ hn => (hg.block k (Array.getElem?_eq_some_iff.1 ho).1 hn).trans ho⟩
theorem PN.size {w : World} {base g : Nat} {most : Int} {M V : Value} {l : List Int} (h : PN w base g most M V l) : g < w.heap.size := (Array.getElem?_eq_some_iff.1 h.obj).1
theorem PN.ne {w : World} {base g : Nat} {most : Int} {M V : Value} {l : List Int} (h : PN w base g most M V l) : some g ≠ V.ownBlock := fun e => by
  obtain ⟨cur, hc⟩ := own_type h.row e.symm
  rw [h.obj] at hc; injection hc with hc; injection hc with _ hc; cases hc
theorem cell3 {w : World} {g : Nat} {a b c : Value} {t : TypeId} {fr : Nat × Nat} (h : w.heap[g]? = some (.cells #[a, b, c] t fr)) : w.cell? ⟨g, 0, none⟩ = some a ∧ w.cell? ⟨g, 1, none⟩ = some b ∧ w.cell? ⟨g, 2, none⟩ = some c := by
  simp [World.cell?, h]
theorem free3 {w : World} {g : Nat} {cs : Array Value} {t : TypeId} (h : w.heap[g]? = some (.cells cs t (0, 0))) (j : Nat) : w.frozen? ⟨g, j, none⟩ = false := frozen_of_row w g j cs t h
/-- not empty: the row has a block. -/
theorem PN.hm {w : World} {base g : Nat} {most : Int} {M V : Value} {l : List Int} (h : PN w base g most M V l) (hp : 0 < l.length) : ∃ ga cap, V = .slice (some ⟨ga, 0, none⟩) l.length cap ∧ HM w ⟨g, 1, none⟩ base ga l.length cap l := by
  rcases h.row.2 with ⟨rfl, h0⟩ | ⟨ga, cap, cur, rfl, r⟩
  · omega
  · exact ⟨ga, cap, rfl, (cell3 h.obj).2.1, h.row, fun e => h.ne (by simp only [Value.ownBlock]; exact congrArg some e)⟩
/-- .. and behind a heap's work on the row. -/
theorem PN.of_hm {w w' : World} {base g ga cap : Nat} {most : Int} {M : Value} {l l' : List Int} (h : PN w base g most M (.slice (some ⟨ga, 0, none⟩) l.length cap) l) (h' : HM w' ⟨g, 1, none⟩ base ga l.length cap l') (hg : w.grownBy w' (some ga)) (hb : base ≤ w.heap.size) :
    PN w' base g most M (.slice (some ⟨ga, 0, none⟩) l'.length cap) l' ∧ PF base g (some ga) w w' := by
  have hl := h'.len
  obtain ⟨cur, hc⟩ := own_type h.row (b := ga) rfl
  refine ⟨⟨h.ge, by rw [hl]; exact (hg.block g h.size (fun e => h'.pb (by injection e))).trans h.obj, by rw [hl]; exact h'.row⟩, PF.grown hg hb (h.row.lt ga rfl).1⟩
theorem own_form2 {w : World} {base : Nat} {e : TypeId} {size n : Nat} {v : Value} {xs : List Value} (h : w.ownsRow base e size v n xs) : ∃ A cap, v = .slice A n cap := by
  rcases h.2 with ⟨rfl, rfl⟩ | ⟨g, cap, cur, rfl, r⟩
  · exact ⟨_, _, rfl⟩
  · exact ⟨_, _, rfl⟩
theorem own_base {w : World} {base : Nat} {e : TypeId} {size n : Nat} {v : Value} {xs : List Value} (h : w.ownsRow base e size v n xs) : ∀ k, v.ownBlock = some k → base ≤ k := fun k hk => (h.lt k hk).1
theorem info3_ : (Try.prog.info? 3).map (fun i => (i.zero, i.size, i.bytes)) = some (some (.int .i64 0), 1, 8) := by kernel_rfl
theorem grown_drew {a b : World} {row : Option Nat} (h : a.drew.grownBy b row) : a.grownBy b row := ⟨h.os, h.tape, h.output, h.size, h.block⟩
/-- the header is stored anew, the row having grown or being new. -/
theorem PN.store {w w3 : World} {base g : Nat} {most : Int} {M V V' : Value} {l l' : List Int} (h : PN w base g most M V l) (hg : w.grownBy w3 V.ownBlock) (hb : base ≤ w.heap.size) (hr : w3.ownsRow base 3 1 V' l'.length (l'.map (Value.int .i64))) :
    PN (w3.setCell ⟨g, 1, none⟩ V') base g most M V' l' ∧ PF base g V.ownBlock w (w3.setCell ⟨g, 1, none⟩ V') ∧ w3.cell? ⟨g, 1, none⟩ = some V ∧ w3.frozen? ⟨g, 1, none⟩ = false := by
  have ho := (hg.block g h.size h.ne).trans h.obj
  have far : ∀ k, k ≠ g → (w3.setCell ⟨g, 1, none⟩ V').heap[k]? = w3.heap[k]? := fun k hk => heap_setCell_other w3 ⟨g, 1, none⟩ k _ hk
  refine ⟨⟨h.ge, heap_setCell_same w3 g 1 _ 47 _ ho, own_lift hr fun b hb' => far b fun e => ?_⟩, ⟨Below.setCell ((Below.refl _ _).grown hg hb (own_base h.row)) h.ge _, fun k o hk hkg hn => ?_⟩, (cell3 ho).2.1, free3 ho 1⟩
  · obtain ⟨cur, hc⟩ := own_type hr hb'
    rw [e, ho] at hc; injection hc with hc; injection hc with _ hc; cases hc
  · rw [far k hkg, hg.block k (Array.getElem?_eq_some_iff.1 hk).1 hn]
    exact hk
theorem ta_ (x : Int) (w : World) : (Instr.typeAssert (.iface 3 (.int .i64 x)) 20 3 false).run Try.prog w = .ok (.int .i64 x) w := by kernel_rfl
theorem ta2_ (x : Int) (w : World) : (Instr.typeAssert (.iface 3 (.int .i64 x)) 20 3 true).run Try.prog w = .ok (.tuple #[.int .i64 x, .bool true]) w := by kernel_rfl
def PushP (w : World) (base g : Nat) (most : Int) (M V : Value) (l' : List Int) (e : Ending) (w' : World) : Prop := ∃ V', e = .returned (.tuple #[]) ∧ PN w' base g most M V' l' ∧ PF base g V.ownBlock w w' ∧ Ow V.ownBlock V'.ownBlock w
/-- append, under a word that the walk does not open. -/
def app_off (a : Array TypeId) (t : TypeId) (x : Array Value) : Sem Value := Builtin.append_ a t x
theorem app_hide (a : Array TypeId) (t : TypeId) (x : Array Value) : Builtin.append_ a t x = app_off a t x := rfl
section
attribute [local go_sem ↓ high] app_hide
set_option maxHeartbeats 4000000 in
set_option maxRecDepth 100000 in
theorem lpush_ (w : World) (base g : Nat) (most : Int) (M V : Value) (l : List Int) (x : Int) (h : PN w base g most M V l) (hn : l.length ≤ 70000) (hb : base ≤ w.heap.size) :
    Calls Try.prog 40 #[.pointer (some ⟨g, 1, none⟩), .iface 3 (.int .i64 x)] w (PushP w base g most M V (l ++ [x])) := by
  obtain ⟨A, cp, hV⟩ := own_form2 h.row
  subst hV
  have hc := (cell3 h.obj).2.1
  have lg := h.size
  obtain ⟨i0, hi0, hz0, hz1, hz2⟩ := info_parts info3_
  have hcz : ((w.alloc (.cells #[.int .i64 x] 3 (0, 0))).drew).cell? ⟨g, 1, none⟩ = some (.slice A l.length cp) := (World.cell?_of_block (heap_alloc_old w _ lg)).trans hc
  have hnw := World.news_of_block (w := (w.alloc (.cells #[.int .i64 x] 3 (0, 0))).drew) (cs := #[.int .i64 x]) (t := 3) (fr := (0, 0)) (heap_alloc_new w _)
  obtain ⟨V1, w3, hrun, hown1, hgrow, -, hat⟩ := run_append_own_at (P := Try.prog) ((w.alloc (.cells #[.int .i64 x] 3 (0, 0))).drew) base 45 45 3 i0 _ 1 8 Try.underlying45 hi0 hz0 hz1 hz2 rfl (by decide) (.slice A l.length cp) l.length (l.map (Value.int .i64)) ((h.row.alloc _).drew)
        ⟨w.heap.size, 0, none⟩ 1 1 [.int .i64 x] (by rfl) hnw (by simp [Value.oneCell']) (by simp only [maxLen]; omega) (by omega) (by simp; omega)
  rw [app_hide] at hrun
  obtain ⟨A1, cap2, rfl⟩ := own_form2 hown1
  have hgr : w.grownBy w3 (Value.slice A l.length cp).ownBlock := World.grownBy.trans (World.grownBy_alloc w _ _) (grown_drew hgrow)
  have hres := h.store hgr hb (V' := .slice A1 (l.length + 1) cap2) (l' := l ++ [x]) (by rw [List.length_append, List.map_append]; exact hown1)
  obtain ⟨hfin1, hfin2, hc3, hf3⟩ := hres
  have how : Ow (Value.slice A l.length cp).ownBlock (Value.slice A1 (l.length + 1) cap2).ownBlock w := by
    rcases hat with e | e
    · exact .inl e
    · exact .inr ⟨_, e, by simp⟩
  have HFIN := Aside0.mk (And.intro hfin1 (And.intro hfin2 how))
  clear hfin1 hfin2 how hat
  have hta := ta_ x
  go_enter Try.func40, Try.ntmps40
  go_wp2
  go_region
  all_goals
    go_wp2
    go_end0
    exact ⟨_, rfl, HFIN.out.1, HFIN.out.2.1, HFIN.out.2.2⟩
end
theorem list_snoc (l : List Int) (m : Nat) (h : l.length = m + 1) : ∃ x, l = l.take m ++ [x] ∧ l[m]? = some x := by
  have hx : l[m]? = some (l[m]'(by omega)) := List.getElem?_eq_getElem _
  refine ⟨l[m]'(by omega), ?_, hx⟩
  conv => lhs; rw [← List.take_append_drop m l]
  congr 1
  rw [List.drop_eq_getElem_cons (by omega), List.drop_eq_nil_of_le (by omega)]
def LPopP (w : World) (base g : Nat) (most : Int) (M V : Value) (l' : List Int) (x : Int) (e : Ending) (w' : World) : Prop := ∃ V', e = .returned (.iface 3 (.int .i64 x)) ∧ PN w' base g most M V' l' ∧ PF base g V.ownBlock w w' ∧ V'.ownBlock = V.ownBlock
set_option maxHeartbeats 4000000 in
set_option maxRecDepth 100000 in
theorem lpop_ (w : World) (base g : Nat) (most : Int) (M V : Value) (l : List Int) (x : Int) (h : PN w base g most M V (l ++ [x])) (hn : l.length ≤ 70000) (hb : base ≤ w.heap.size) :
    Calls Try.prog 39 #[.pointer (some ⟨g, 1, none⟩)] w (LPopP w base g most M V l x) := by
  obtain ⟨ga, cap, hV, hm⟩ := h.hm (by simp)
  subst hV
  have hlen : (l ++ [x]).length = l.length + 1 := by simp
  rw [hlen] at hm
  have hcell := hm.cell l.length (by omega)
  have hk : kAt id (l ++ [x]) l.length = x := by unfold kAt; simp
  rw [hk] at hcell
  have hd := hm.hd
  have lcap : l.length + 1 ≤ cap := by
    rcases hm.row.2 with ⟨h0, _⟩ | ⟨g', cap', cur, he, _, _, hnc, _⟩
    · cases h0
    · injection he with _ _ he; subst he; exact hnc
  have lmax : cap ≤ 9223372036854775807 := by
    rcases hm.row.2 with ⟨h0, _⟩ | ⟨g', cap', cur, he, _, _, _, hcm, _⟩
    · cases h0
    · injection he with _ _ he; subst he; unfold maxLen at hcm; exact hcm
  have hrow := own_take (m := l.length) hm.row (by omega)
  rw [Nat.mul_one, List.map_append, List.take_left' (by simp)] at hrow
  obtain ⟨hfin1, hfin2, hc3, hf3⟩ := h.store (World.grownBy.refl w _) hb (V' := .slice (some ⟨ga, 0, none⟩) l.length cap) (l' := l) hrow
  have HFIN := Aside0.mk (And.intro hfin1 hfin2)
  clear hfin1 hfin2 hrow
  obtain ⟨n1, hn1⟩ : ∃ n1, l.length + 1 = n1 := ⟨_, rfl⟩
  rw [hn1] at hd hm lcap
  have q0 : ((n1 : Nat) : Int) - 1 = (l.length : Int) := by omega
  have q1 : IntKind.i64.wrap ((n1 : Int) - 1) = (l.length : Int) := by rw [IntKind.wrap_i64]; omega
  have q2 : (0 : Int) ≤ (l.length : Int) := by omega
  have q3 : (l.length : Int) < (n1 : Int) := by omega
  have q4 : (l.length : Int) ≤ (cap : Int) := by omega
  clear hc3 hk
  have HM_ := Aside0.mk hm
  have HN := Aside0.mk hn1
  clear hm hn1 hlen
  go_enter Try.func39, Try.ntmps39
  go_wp2
  go_ret
  exact ⟨_, rfl, HFIN.out.1, HFIN.out.2, rfl⟩
def HPushP (w : World) (base g : Nat) (most : Int) (M V : Value) (l : List Int) (x : Int) (e : Ending) (w' : World) : Prop := ∃ V' l', e = .returned (.tuple #[]) ∧ PN w' base g most M V' l' ∧ PF base g V.ownBlock w w' ∧ Ow V.ownBlock V'.ownBlock w ∧ l'.Perm (l ++ [x]) ∧ Heap id l' l'.length
set_option maxHeartbeats 4000000 in
set_option maxRecDepth 100000 in
theorem hpush_ (w : World) (base g : Nat) (most : Int) (M V : Value) (l : List Int) (x : Int) (h : PN w base g most M V l) (hh : Heap id l l.length) (hn : l.length < 70000) (hb : base ≤ w.heap.size) :
    Calls Try.prog 16 #[.iface 50 (.pointer (some ⟨g, 1, none⟩)), .iface 3 (.int .i64 x)] w (HPushP w base g most M V l x) := by
  have hmp := meth_push ⟨g, 1, none⟩ w
  have HHp := Aside0.mk hh
  clear hh
  go_enter Try.func16, Try.ntmps16
  have hjn7 : (l ++ [x]).length ≤ 70000 := by simp; omega
  have HU : Aside0 (UpH id (l ++ [x]) (l ++ [x]).length l.length) := ⟨by rw [List.length_append]; exact heap_push id HHp.out x⟩
  obtain ⟨n1, hn1⟩ : ∃ n1, (l ++ [x]).length = n1 := ⟨_, rfl⟩
  have hl1 : l.length + 1 = n1 := by rw [← hn1]; simp
  rw [hn1] at HU hjn7
  have q1 : (n1 : Int) - 1 = (l.length : Int) := by omega
  have q2 : IntKind.i64.wrap ((n1 : Int) - 1) = (l.length : Int) := by rw [IntKind.wrap_i64]; omega
  have HN1 := Aside0.mk hn1
  have hjn : l.length < n1 := by omega
  clear hn1 hl1
  go_wp2_with (first
    | (go_at_call 40; (with_reducible refine (lpush_ _ base g most M V l x h (by omega) hb).mono ?_); rintro e w1 ⟨V1, rfl, P1, F1, O1⟩; obtain ⟨ga, cap, rfl, hm⟩ := P1.hm (by simp); rw [HN1.out] at hm; have hml := meth_len ⟨g, 1, none⟩ w1 _ hm.hd; have hb1 : base ≤ w1.heap.size := Nat.le_trans hb F1.below.size)
    | (go_at_call 36; (with_reducible refine (len_ _ _ n1 cap).mono ?_); rintro e w' ⟨rfl, rfl⟩)
    | (go_at_call 18; (with_reducible refine (up_ _ ⟨g, 1, none⟩ base ga n1 cap (l ++ [x]) l.length hm hjn hjn7 HU.out).mono ?_); rintro e w2 ⟨l', rfl, H2, G2, PP, HP⟩))
  go_end0
  have P1' : PN w1 base g most M (.slice (some ⟨ga, 0, none⟩) (l ++ [x]).length cap) (l ++ [x]) := P1
  have hlen := H2.len
  have hres := PN.of_hm P1' (by rw [HN1.out]; exact H2) G2 hb1
  exact ⟨_, l', rfl, hres.1, F1.trans O1 hres.2, O1, PP, by rw [hlen]; exact HP⟩
def HPopP (w : World) (base g : Nat) (most : Int) (M V : Value) (l : List Int) (e : Ending) (w' : World) : Prop := ∃ V' l' x, e = .returned (.iface 3 (.int .i64 x)) ∧ PN w' base g most M V' l' ∧ PF base g V.ownBlock w w' ∧ Ow V.ownBlock V'.ownBlock w ∧ l.Perm (x :: l') ∧ Heap id l' l'.length ∧ ∀ y ∈ l', x ≤ y
theorem mem_kAt {l : List Int} {y : Int} (h : y ∈ l) : ∃ k, k < l.length ∧ kAt id l k = y := by
  obtain ⟨k, hk, e⟩ := List.getElem_of_mem h
  exact ⟨k, hk, by unfold kAt; rw [List.getElem?_eq_getElem hk]; exact e⟩
set_option maxHeartbeats 4000000 in
set_option maxRecDepth 100000 in
theorem hpop_ (w : World) (base g : Nat) (most : Int) (M V : Value) (l : List Int) (h : PN w base g most M V l) (hh : Heap id l l.length) (h0 : 0 < l.length) (hn : l.length < 70000) (hb : base ≤ w.heap.size) :
    Calls Try.prog 17 #[.iface 50 (.pointer (some ⟨g, 1, none⟩))] w (HPopP w base g most M V l) := by
  obtain ⟨ga, cap, rfl, hm⟩ := h.hm h0
  obtain ⟨m, hlm⟩ : ∃ m, l.length = m + 1 := ⟨l.length - 1, by omega⟩
  obtain ⟨n1, hn1⟩ : ∃ n1, l.length = n1 := ⟨_, rfl⟩
  rw [hn1] at hm
  have hml := meth_len ⟨g, 1, none⟩ w _ hm.hd
  have hms := meth_swap ⟨g, 1, none⟩ w _ hm.hd
  have q1 : (n1 : Int) - 1 = (m : Int) := by omega
  have q2 : IntKind.i64.wrap ((n1 : Int) - 1) = (m : Int) := by rw [IntKind.wrap_i64]; omega
  have HH := Aside0.mk hh
  have HN1 := Aside0.mk hn1
  have HLM := Aside0.mk hlm
  have hmn : m < n1 := by omega
  have h0n : 0 < n1 := by omega
  have hn7 : n1 ≤ 70000 := by omega
  clear hh hn1 hlm
  go_enter Try.func17, Try.ntmps17
  go_wp2_with (first
    | (go_at_call 36; (with_reducible refine (len_ _ _ n1 cap).mono ?_); rintro e w' ⟨rfl, rfl⟩)
    | (go_at_call 38; (with_reducible refine (swap_x _ ⟨g, 1, none⟩ base ga n1 cap l 0 m 0 (m : Int) rfl rfl hm h0n hmn).mono ?_); rintro e w2 ⟨rfl, H2, G2⟩; have hDH : DownH id (swp l 0 m) m 0 := heap_pop id (by rw [← HLM.out]; exact HH.out) (by rw [HLM.out]; exact Nat.le_refl _))
    | (go_at_call 19; (with_reducible refine (down_ _ ⟨g, 1, none⟩ base ga n1 cap m (swp l 0 m) H2 (by omega) h0n hn7 hDH).mono ?_); rintro e w3 ⟨l', b3, rfl, H3, G3, PP3, HP3, T3, Z3⟩; have hmp := meth_pop ⟨g, 1, none⟩ w3; have P3 := PN.of_hm h (by rw [HN1.out]; exact H3) (World.grownBy.trans G2 G3) hb; obtain ⟨x, hx1, hx2⟩ := list_snoc l' m (by have := H3.len; have := HN1.out; have := HLM.out; omega); have P4 := P3.1; rw [hx1] at P4; have hlt : (l'.take m).length = m := (by have := H3.len; rw [List.length_take]; omega))
    | (go_at_call 39; (with_reducible refine (lpop_ _ base g most M _ (l'.take m) x P4 (by omega) (Nat.le_trans hb P3.2.below.size)).mono ?_); rintro e w4 ⟨V4, rfl, P5, F5, O5⟩))
  go_ret
  have hls := HH.out
  have hxv : l[0]? = some x := by
    have h1 := T3 m (Nat.le_refl _)
    rw [hx2, swp_get (by have := HLM.out; omega) (by have := HLM.out; omega)] at h1
    by_cases e : m = 0
    · subst e; rw [if_pos rfl] at h1; exact h1.symm
    · rw [if_neg e, if_pos rfl] at h1; exact h1.symm
  have hperm : l.Perm (x :: l'.take m) := by
    have h1 : (l'.take m ++ [x]).Perm l := by
      rw [← hx1]; exact PP3.trans (swp_perm (by have := HLM.out; omega) (by have := HLM.out; omega))
    exact h1.symm.trans (List.perm_append_comm.trans (List.Perm.refl _))
  refine ⟨V4, l'.take m, x, rfl, P5, P3.2.trans (.inl rfl) F5, .inl O5, hperm, by rw [hlt]; exact heap_take id HP3, fun y hy => ?_⟩
  have hyl : y ∈ l := hperm.symm.subset (List.mem_cons_of_mem _ hy)
  obtain ⟨k, hk, e⟩ := mem_kAt hyl
  have h0' := heap_min id hls k hk
  have hx0 : kAt id l 0 = x := by unfold kAt; rw [hxv]; rfl
  omega
end Go.Proofs.Ytbgkpjigkjdmcaa.Ep
