import Derived.Test.YtckpgbkbbdifmaaHeap5
import Derived.WalkKit
import Derived.ProofKit
import Derived.Below
import Derived.WalkLawsBesides
import Derived.Deep.QuietTactic
import Derived.BigQuiet
import Derived.StillTailTactics
import Derived.Deep.AppendLies
import Derived.Deep.RegionHeld3
import Derived.KernelRfl
import Derived.BigRegion
import Derived.WalkSpells
import Derived.Deep.Slices
import Derived.Deep.Fields
import Derived.ChangeSame
import Derived.Deep.RegionLaw
import Derived.Deep.DrawnRows
namespace Go.Proofs.Ytckpgbkbbdifmaa.Ep
open Go Go.RowKit Go.Proofs.YtckpgbkbbdifmaaW.PrintWords Go.Proofs.YtckpgbkbbdifmaaW.PrintLast Go.Proofs.YtckpgbkbbdifmaaW.PrintMore 
set_option linter.unusedVariables false
set_option linter.unusedSimpArgs false
def ins (x : Int) : List Int → List Int
  | [] => [x]
  | y :: l => if x < y then x :: y :: l else y :: ins x l
theorem ins_perm (x : Int) : ∀ l, (ins x l).Perm (l ++ [x])
  | [] => List.Perm.refl _
  | y :: l => by
    unfold ins; split
    · exact (List.perm_append_comm (l₁ := [x]) (l₂ := y :: l))
    · exact (ins_perm x l).cons y
theorem ins_mem (x : Int) (l : List Int) (z : Int) : z ∈ ins x l ↔ z = x ∨ z ∈ l := by
  rw [(ins_perm x l).mem_iff]; simp; exact or_comm
theorem ins_sorted (x : Int) : ∀ l : List Int, l.Pairwise (· < ·) → x ∉ l → (ins x l).Pairwise (· < ·)
  | [], _, _ => List.pairwise_singleton _ _
  | y :: l, hp, hx => by
    obtain ⟨h1, h2⟩ := List.pairwise_cons.1 hp
    unfold ins; split
    · next hlt =>
      refine List.pairwise_cons.2 ⟨fun z hz => ?_, hp⟩
      rcases List.mem_cons.1 hz with rfl | hz
      · exact hlt
      · have := h1 z hz; omega
    · next hlt =>
      have hxy : x ≠ y := fun e => hx (by rw [e]; exact List.mem_cons_self)
      refine List.pairwise_cons.2 ⟨fun z hz => ?_, ins_sorted x l h2 fun h => hx (List.mem_cons_of_mem _ h)⟩
      rcases (ins_mem x l z).1 hz with rfl | hz
      · omega
      · exact h1 z hz
theorem ins_length (x : Int) (l : List Int) : (ins x l).length = l.length + 1 := by rw [(ins_perm x l).length_eq]; simp
/-! Plain: what rises of a list; sets as rising lists. -/
def rf : Option Int → List Int → List Int
  | _, [] => []
  | none, x :: l => x :: rf (some x) l
  | some m, x :: l => if m < x then x :: rf (some x) l else rf (some m) l
def rise (l : List Int) : List Int := rf none l
theorem rf_sorted : ∀ (l : List Int) (m : Option Int), (rf m l).Pairwise (· < ·) ∧ ∀ b, m = some b → ∀ x ∈ rf m l, b < x
  | [], m => ⟨by cases m <;> exact List.Pairwise.nil, fun _ _ x hx => by cases m <;> cases hx⟩
  | x :: l, none => by
    have h := rf_sorted l (some x)
    exact ⟨List.pairwise_cons.2 ⟨fun y hy => h.2 x rfl y hy, h.1⟩, fun b hb => by cases hb⟩
  | x :: l, some m => by
    unfold rf
    split
    · next hlt =>
      have h := rf_sorted l (some x)
      refine ⟨List.pairwise_cons.2 ⟨fun y hy => h.2 x rfl y hy, h.1⟩, fun b hb y hy => ?_⟩
      injection hb with hb; subst hb
      rcases List.mem_cons.1 hy with rfl | hy
      · exact hlt
      · have := h.2 x rfl y hy; omega
    · exact rf_sorted l (some m)
theorem rise_sorted (l : List Int) : (rise l).Pairwise (· < ·) := (rf_sorted l none).1
theorem rf_length : ∀ (l : List Int) (m : Option Int), (rf m l).length ≤ l.length
  | [], m => by cases m <;> exact Nat.le_refl _
  | x :: l, none => by have := rf_length l (some x); simp only [rf, List.length_cons]; omega
  | x :: l, some m => by
    unfold rf; split
    · have := rf_length l (some x); simp only [List.length_cons]; omega
    · have := rf_length l (some m); simp only [List.length_cons]; omega
theorem rise_length (l : List Int) : (rise l).length ≤ l.length := rf_length l none
theorem rf_of_sorted : ∀ (l : List Int) (m : Option Int), l.Pairwise (· < ·) → (∀ b, m = some b → ∀ x ∈ l, b < x) → rf m l = l
  | [], m, _, _ => by cases m <;> rfl
  | x :: l, none, h, _ => by
    obtain ⟨h1, h2⟩ := List.pairwise_cons.1 h
    show x :: rf (some x) l = x :: l
    rw [rf_of_sorted l (some x) h2 (fun b hb y hy => by injection hb with hb; subst hb; exact h1 y hy)]
  | x :: l, some m, h, hb => by
    obtain ⟨h1, h2⟩ := List.pairwise_cons.1 h
    unfold rf
    rw [if_pos (hb m rfl x List.mem_cons_self), rf_of_sorted l (some x) h2 (fun b hb y hy => by injection hb with hb; subst hb; exact h1 y hy)]
theorem rise_of_sorted (l : List Int) (h : l.Pairwise (· < ·)) : rise l = l := rf_of_sorted l none h (fun b hb => by cases hb)
theorem rf_mem : ∀ (l : List Int) (m : Option Int) (x : Int), x ∈ rf m l → x ∈ l
  | [], m, x, h => by cases m <;> cases h
  | y :: l, none, x, h => by
    rcases List.mem_cons.1 h with rfl | h
    · exact List.mem_cons_self
    · exact List.mem_cons_of_mem _ (rf_mem l _ x h)
  | y :: l, some m, x, h => by
    unfold rf at h; split at h
    · rcases List.mem_cons.1 h with rfl | h
      · exact List.mem_cons_self
      · exact List.mem_cons_of_mem _ (rf_mem l _ x h)
    · exact List.mem_cons_of_mem _ (rf_mem l _ x h)
theorem rise_mem (l : List Int) (x : Int) (h : x ∈ rise l) : x ∈ l := rf_mem l none x h
theorem sorted_ext : ∀ (a b : List Int), a.Pairwise (· < ·) → b.Pairwise (· < ·) → (∀ x, x ∈ a ↔ x ∈ b) → a = b
  | [], [], _, _, _ => rfl
  | [], y :: b, _, _, h => absurd ((h y).2 List.mem_cons_self) (by simp)
  | x :: a, [], _, _, h => absurd ((h x).1 List.mem_cons_self) (by simp)
  | x :: a, y :: b, ha, hb, h => by
    obtain ⟨a1, a2⟩ := List.pairwise_cons.1 ha
    obtain ⟨b1, b2⟩ := List.pairwise_cons.1 hb
    have hxy : x = y := by
      rcases List.mem_cons.1 ((h x).1 List.mem_cons_self) with e | e
      · exact e
      · rcases List.mem_cons.1 ((h y).2 List.mem_cons_self) with e2 | e2
        · exact e2.symm
        · have := b1 x e; have := a1 y e2; omega
    subst hxy
    rw [sorted_ext a b a2 b2 fun z => ?_]
    constructor
    · intro hz
      rcases List.mem_cons.1 ((h z).1 (List.mem_cons_of_mem _ hz)) with e | e
      · have := a1 z hz; omega
      · exact e
    · intro hz
      rcases List.mem_cons.1 ((h z).2 (List.mem_cons_of_mem _ hz)) with e | e
      · have := b1 z hz; omega
      · exact e
def insU (x : Int) (L : List Int) : List Int := if x ∈ L then L else ins x L
def asSet (l : List Int) : List Int := l.foldr insU []
theorem asSet_sorted : ∀ l : List Int, (asSet l).Pairwise (· < ·)
  | [] => List.Pairwise.nil
  | x :: l => by
    show (insU x (asSet l)).Pairwise (· < ·)
    unfold insU; split
    · exact asSet_sorted l
    · next h => exact ins_sorted x _ (asSet_sorted l) h
theorem asSet_mem : ∀ (l : List Int) (x : Int), x ∈ asSet l ↔ x ∈ l
  | [], x => Iff.rfl
  | y :: l, x => by
    show x ∈ insU y (asSet l) ↔ _
    unfold insU; split
    · next h =>
      rw [asSet_mem l x, List.mem_cons]
      constructor
      · exact .inr
      · rintro (rfl | h2)
        · exact (asSet_mem l x).1 h
        · exact h2
    · rw [ins_mem, asSet_mem l x, List.mem_cons]
theorem asSet_length : ∀ l : List Int, (asSet l).length ≤ l.length
  | [] => Nat.le_refl _
  | x :: l => by
    show (insU x (asSet l)).length ≤ _
    have := asSet_length l
    unfold insU; split
    · simp only [List.length_cons]; omega
    · rw [ins_length]; simp only [List.length_cons]; omega
/-- the union of what rises of each list. -/
def uni (ls : List (List Int)) : List Int := asSet (ls.flatMap rise)
theorem uni_sorted (ls : List (List Int)) : (uni ls).Pairwise (· < ·) := asSet_sorted _
theorem uni_mem (ls : List (List Int)) (x : Int) : x ∈ uni ls ↔ ∃ l ∈ ls, x ∈ rise l := by unfold uni; rw [asSet_mem, List.mem_flatMap]
def ltot (ls : List (List Int)) : Nat := (ls.map List.length).sum
theorem ltot_cons (l : List Int) (ls : List (List Int)) : ltot (l :: ls) = l.length + ltot ls := by unfold ltot; simp
theorem uni_length (ls : List (List Int)) : (uni ls).length ≤ ltot ls := by
  refine Nat.le_trans (asSet_length _) ?_
  induction ls with
  | nil => exact Nat.le_refl _
  | cons l ls ih => rw [List.flatMap_cons, List.length_append, ltot_cons]; have := rise_length l; omega
theorem mrise_eq : ∀ (n k : Nat) (out xs : List Int) (i : Nat), xs.length - i = n → n < k → xs.length ≤ 1000000 → out.length + n ≤ 1000000 → i ≤ xs.length → mrise.l0 k out xs (xs.length : Int) (i : Int) = some (out ++ rf out.getLast? (xs.drop i))
  | 0, k + 1, out, xs, i, hn, hk, hx, ho, hi => by
    unfold mrise.l0
    rw [if_neg (by omega), List.drop_eq_nil_of_le (by omega)]
    cases out.getLast? <;> simp [rf]
  | n + 1, k + 1, out, xs, i, hn, hk, hx, ho, hi => by
    have hil : i < xs.length := by omega
    have hrd : rd xs (i : Int) = xs[i] := by unfold rd; simp [List.getD, hil]
    have hw : wrap64 ((i : Int) + 1) = ((i + 1 : Nat) : Int) := by unfold wrap64; omega
    have hd : xs.drop i = xs[i] :: xs.drop (i + 1) := List.drop_eq_getElem_cons hil
    unfold mrise.l0
    rw [if_pos (by omega), if_pos (by omega), if_pos (by omega), hrd, hw, hd]
    cases hout : out.getLast? with
    | none =>
      have he : out = [] := List.getLast?_eq_none_iff.1 hout
      subst he
      rw [if_pos (by rfl), if_pos (by simp), mrise_eq n k _ xs (i + 1) (by omega) (by omega) hx (by simp; omega) (by omega)]
      simp [rf]
    | some m =>
      have hne : out ≠ [] := fun e => by rw [e] at hout; cases hout
      have hpos : 0 < out.length := List.length_pos_iff.2 hne
      have hw2 : wrap64 ((out.length : Int) - 1) = ((out.length - 1 : Nat) : Int) := by unfold wrap64; omega
      have hm : rd out ((out.length - 1 : Nat) : Int) = m := by
        have h1 := List.getLast?_eq_getElem? (l := out)
        rw [hout] at h1
        unfold rd
        rw [Int.toNat_natCast, List.getD, ← h1]; rfl
      rw [if_neg (by omega), hw2, if_pos (by omega), if_pos (by omega), hm]
      unfold rf
      by_cases hlt : m < xs[i]
      · rw [if_pos hlt, if_pos hlt, if_pos (by omega), mrise_eq n k _ xs (i + 1) (by omega) (by omega) hx (by simp; omega) (by omega)]
        simp
      · rw [if_neg hlt, if_neg hlt, mrise_eq n k _ xs (i + 1) (by omega) (by omega) hx (by omega) (by omega), hout]
theorem mrise_rise (xs : List Int) (h : xs.length ≤ 1000000) : mrise.f (xs.length + 1) xs = some (rise xs) := by
  have := mrise_eq xs.length (xs.length + 1) [] xs 0 (by omega) (by omega) h (by simpa using h) (by omega)
  simpa [mrise.f, rise] using this
theorem at_L1_ {w : World} {A : Option Addr} {n : Nat} {xs : List (List Int)} (h : Kd.C (Kd.slice 3 (Kd.int .i64)) w A n xs) (i : Nat) (hi : i < n) (hx : xs.length = n) : ∃ ad A0 c0 l, A = some ad ∧ xs[i]? = some l ∧ w.cell? (ad.add i) = some (.slice A0 l.length c0) ∧ l.length ≤ c0 ∧ (Kd.int .i64).C w A0 l.length l := by
  obtain ⟨ad, c, e, _, hK, hc0⟩ := Kd.C_get h ([] : List Int) (i : Int) (by omega) (by omega)
  have hc : ∀ j u, c[j]? = some u → w.cell? (ad.add (((i : Int)).toNat * 1 + j)) = some u := hc0
  obtain ⟨A0, c0, rfl, l0, g0⟩ := hK
  have hl : xs[i]? = some (xs.getD ((i : Int)).toNat []) := by
    rw [Int.toNat_natCast, List.getD, List.getElem?_eq_getElem (by omega)]; rfl
  exact ⟨ad, A0, c0, _, e, hl, by have hq := hc 0 _ rfl; rwa [Nat.mul_one, Nat.add_zero, Int.toNat_natCast] at hq, l0, g0⟩
theorem encs_int (l : List Int) : encs (Value.int .i64) l = l.map (Value.int .i64) := by
  first | rfl | (unfold encs; rfl) | (unfold encs; induction l with | nil => rfl | cons x l ih => simp_all)
theorem EM.of_R {w1 : World} {base b0 : Nat} {v : Value} {xs : List Int} (h : Kd.R (Kd.int .i64) 3 w1 b0 (fun _ => True) v xs) (hb : base ≤ b0) : EM w1 base w1.heap.size ⟨v, xs⟩ :=
  ⟨by have h1 := q_lower (q_of_own (Kd.own_of_R h)) hb; rw [encs_int] at h1; exact h1, fun k hk => Kd.R_lt h k hk⟩
theorem hpush_x (w : World) (base bd g : Nat) (V : Value) (l : List En) (v : Value) (xs : List Int) (h : PN w base bd g V l.length l) (hh : Heap En.key l l.length) (hx : EM w base bd ⟨v, xs⟩) (hxn : xs ≠ []) (hn : l.length < 70000) (hb : base ≤ w.heap.size) :
    Calls Try.prog 23 #[.iface 36 (.pointer (some ⟨g, 0, none⟩)), .iface 22 v] w (HPushP w base bd g V l ⟨v, xs⟩) := hpush_ w base bd g V l ⟨v, xs⟩ h hh hx hxn hn hb
/-- the heads of lists. -/
structure HD (w w' : World) (base bd g : Nat) (V : Value) (l : List En) (ls : List (List Int)) : Prop where
  pn : PN w' base bd g V l.length l
  hh : Heap En.key l l.length
  sr : SR l
  below : Below w.heap.size w w'
  len : l.length ≤ ls.length
  tot : tot l ≤ ltot ls
  el : ∀ x, EL l x ↔ ∃ xs ∈ ls, x ∈ rise xs
def HeadsP (w : World) (ls : List (List Int)) (e : Ending) (w' : World) : Prop := ∃ g V l, e = .returned (.pointer (some ⟨g, 0, none⟩)) ∧ HD w w' w.heap.size w'.heap.size g V l ls
theorem HeadsP.mk {w : World} {ls : List (List Int)} {e : Ending} {w' : World} {g : Nat} {V : Value} {l : List En} (he : e = .returned (.pointer (some ⟨g, 0, none⟩))) (h : HD w w' w.heap.size w'.heap.size g V l ls) : HeadsP w ls e w' := ⟨g, V, l, he, h⟩
theorem take_snoc_ {α : Type} {ls : List α} {j : Nat} {x : α} (h : ls[j]? = some x) : ls.take (j + 1) = ls.take j ++ [x] := by
  obtain ⟨hj, e⟩ := List.getElem?_eq_some_iff.1 h
  rw [List.take_succ_eq_append_getElem hj, e]
theorem ltot_snoc (ls : List (List Int)) (x : List Int) : ltot (ls ++ [x]) = ltot ls + x.length := by unfold ltot; simp
theorem ltot_take (ls : List (List Int)) (j : Nat) : ltot (ls.take j) ≤ ltot ls := by
  have h := List.take_append_drop j ls
  have : ltot ls = ltot (ls.take j) + ltot (ls.drop j) := by
    conv => lhs; rw [← h]
    unfold ltot; rw [List.map_append, List.sum_append]
  omega
set_option maxHeartbeats 8000000 in
set_option maxRecDepth 100000 in
theorem heads_ (w : World) (A0 : Option Addr) (c0 : Nat) (ls : List (List Int)) (hr0 : Kd.C (Kd.slice 3 (Kd.int .i64)) w A0 ls.length ls) (hc0 : ls.length ≤ c0) (hlen : ls.length ≤ 1000) (htot : ltot ls ≤ 100000) :
    Calls Try.prog 18 #[.slice A0 ls.length c0] w (HeadsP w ls) := by
  have HR0 := Aside0.mk hr0
  have HT := Aside0.mk htot
  obtain ⟨n, hn⟩ : ∃ n, ls.length = n := ⟨_, rfl⟩
  have HN := Aside0.mk hn
  simp only [hn]
  rw [hn] at hlen hc0
  clear hr0 hn htot
  go_enter Try.func18, Try.ntmps18
  go_wp2
  obtain ⟨W0, hW0⟩ : ∃ W0, (w.alloc (.cells #[] 22)).alloc (.cells #[.slice (some ⟨w.heap.size, 0, none⟩) 0 0] 40) = W0 := ⟨_, rfl⟩
  obtain ⟨g, hg⟩ : ∃ g, w.heap.size + 1 = g := ⟨_, rfl⟩
  have HX : Aside0 (HD w W0 w.heap.size W0.heap.size g (.slice (some ⟨w.heap.size, 0, none⟩) 0 0) [] (ls.take 0)) := by
    have h1 : W0.heap[g]? = some (.cells #[.slice (some ⟨w.heap.size, 0, none⟩) 0 0] 40 (0, 0)) := by
      rw [← hW0, ← hg]
      have := heap_alloc_new (w.alloc (.cells #[] 22)) (.cells #[.slice (some ⟨w.heap.size, 0, none⟩) 0 0] 40)
      simpa using this
    have h2 : W0.heap[w.heap.size]? = some (.cells #[] 22 (0, 0)) := by
      rw [← hW0, heap_alloc_old _ _ (by simp)]
      exact heap_alloc_new _ _
    refine ⟨⟨⟨by omega, h1, ⟨rfl, .inr ⟨w.heap.size, 0, #[], rfl, Nat.le_refl _, h2, Nat.le_refl _, by unfold maxLen; omega, rfl, rfl⟩⟩, (fun e he => by cases he), (fun k e hk => absurd hk (by simp))⟩, (fun k hk => absurd hk (by simp)), (fun e he => by cases he), ?_, Nat.zero_le _, Nat.zero_le _, fun x => ⟨(fun ⟨e, he, _⟩ => by cases he), (fun ⟨xs, hx, _⟩ => absurd hx (by simp))⟩⟩⟩
    rw [← hW0]; exact ((Below.refl _ _).alloc (Nat.le_refl _) _).alloc (by simp) _
  simp only [hW0, hg]
  clear hW0 hg
  obtain ⟨V0, hV0⟩ : ∃ V0 : Value, .slice (some ⟨w.heap.size, 0, none⟩) 0 0 = V0 := ⟨_, rfl⟩
  rw [hV0] at HX
  clear hV0
  go_loopg [10] (n + 1) (fun kq v10 w' => ∃ (j : Nat) (l : List En) (V : Value), v10 = .int .i64 (j : Int) ∧ Aside0 (j + kq = n + 1) ∧ Aside0 (j ≤ n) ∧ Aside0 (HD w w' w.heap.size w'.heap.size g V l (ls.take j)))
  case atStart => exact ⟨0, [], V0, rfl, ⟨by omega⟩, ⟨Nat.zero_le _⟩, HX⟩
  case round =>
    clear HX
    clear V0
    obtain ⟨j, l, V, rfl, HK, HJ, HX⟩ := hrel
    by_cases hjn : j < n
    · have p1 : decide (j < n) = true := decide_eq_true hjn
      obtain ⟨ad, A1, c1, xs, hA, hxs, hcell, hxc, hxC⟩ := at_L1_ HR0.out j (by rw [HN.out]; exact hjn) rfl
      subst hA
      have hcell2 : wr.cell? (ad.add j) = some (.slice A1 xs.length c1) := (HX.out.below.cell (World.block_lt_of_cell? w _ hcell)).trans hcell
      have hq0 : (0 : Int) ≤ (j : Int) := by omega
      have hq1 : (j : Int) < (n : Int) := by omega
      have HXS := Aside0.mk hxs
      have hxl : xs.length ≤ 100000 := by
        have h1 := ltot_snoc (ls.take j) xs
        rw [← take_snoc_ hxs] at h1
        have h2 := ltot_take ls (j + 1)
        have := HT.out; omega
      have HXC := Aside0.mk (Kd.C_below hxC HX.out.below)
      have HF : Aside0 (mrise.f (xs.length + 1) xs = some (rise xs)) := ⟨mrise_rise xs (by omega)⟩
      clear hcell hxs hxC
      have hbw : w.heap.size ≤ wr.heap.size := HX.out.below.size
      have hll : l.length < 70000 := by have := HX.out.len; rw [List.length_take] at this; omega
      by_cases hr : rise xs = []
      · have HRN := Aside0.mk hr
        clear hr
        go_wp2_with (go_at_call 21; (with_reducible refine (mrise.calls (xs.length + 1) A1 c1 xs (rise xs) wr HXC.out hxc HF.out).mono ?_); rintro e w1 ⟨v1, rfl, hR1, B1⟩; obtain ⟨A2, c2, hv1⟩ := Kd.R_slice hR1; rw [HRN.out, show ([] : List Int).length = 0 from rfl] at hv1; subst hv1)
        go_roundg (gk - 1)
        case measure => have := HK.out; omega
        case rel =>
          refine ⟨j + 1, l, V, by go_num, ⟨by have := HK.out; omega⟩, ⟨by omega⟩, ⟨?_⟩⟩
          have h0 := HX.out
          refine ⟨(h0.pn.all fun k hk => B1.block k hk).mono B1.size, h0.hh, h0.sr, h0.below.trans (B1.mono hbw), ?_, ?_, fun x => ?_⟩
          · rw [take_snoc_ HXS.out, List.length_append]; have := h0.len; omega
          · rw [take_snoc_ HXS.out, ltot_snoc]; have := h0.tot; omega
          · rw [take_snoc_ HXS.out, h0.el x]
            constructor
            · rintro ⟨ys, hy, hx⟩; exact ⟨ys, List.mem_append_left _ hy, hx⟩
            · rintro ⟨ys, hy, hx⟩
              rcases List.mem_append.1 hy with hy | hy
              · exact ⟨ys, hy, hx⟩
              · rw [List.mem_singleton] at hy; subst hy
                rw [HRN.out] at hx; cases hx
      · have HRN := Aside0.mk hr
        have hrp : 0 < (rise xs).length := List.length_pos_iff.2 hr
        have hrp2 : decide ((0 : Int) < ((rise xs).length : Int)) = true := decide_eq_true (by omega)
        have hrp3 : (0 : Int) < ((rise xs).length : Int) := by omega
        clear hr
        go_wp2_with (first
          | (go_at_call 21; (with_reducible refine (mrise.calls (xs.length + 1) A1 c1 xs (rise xs) wr HXC.out hxc HF.out).mono ?_); rintro e w1 ⟨v1, rfl, hR1, B1⟩; obtain ⟨A2, c2, hv1⟩ := Kd.R_slice hR1; subst hv1; have HEM : Aside0 (EM w1 w.heap.size w1.heap.size ⟨.slice A2 (rise xs).length c2, rise xs⟩) := ⟨EM.of_R hR1 hbw⟩; have HP1 : Aside0 (PN w1 w.heap.size w1.heap.size g V l.length l) := ⟨(HX.out.pn.all fun k hk => B1.block k hk).mono B1.size⟩; have hb1 : w.heap.size ≤ w1.heap.size := Nat.le_trans hbw B1.size)
          | (go_at_call 23; (with_reducible refine (hpush_x _ w.heap.size w1.heap.size g V l (.slice A2 (rise xs).length c2) (rise xs) HP1.out HX.out.hh HEM.out HRN.out hll hb1).mono ?_); rintro e w2 ⟨V2, l2, rfl, P2, F2, O2, PP2, H2⟩))
        go_roundg (gk - 1)
        case measure => have := HK.out; omega
        case rel =>
          refine ⟨j + 1, l2, V2, by go_num, ⟨by have := HK.out; omega⟩, ⟨by omega⟩, ⟨?_⟩⟩
          have h0 := HX.out
          have hrl := rise_length xs
          refine ⟨P2.mono F2.below.size, H2, SR.perm PP2 fun e he => ?_, (h0.below.trans (B1.mono hbw)).trans F2.below, ?_, ?_, fun x => ?_⟩
          · rcases List.mem_append.1 he with he | he
            · exact h0.sr e he
            · rw [List.mem_singleton] at he; subst he; exact rise_sorted xs
          · rw [take_snoc_ HXS.out, List.length_append, PP2.length_eq, List.length_append]; have := h0.len; simp only [List.length_cons, List.length_nil]; omega
          · rw [take_snoc_ HXS.out, ltot_snoc, tot_perm PP2]
            have := h0.tot
            have h9 : tot (l ++ [⟨.slice A2 (rise xs).length c2, rise xs⟩]) = tot l + (rise xs).length := by unfold tot; simp
            omega
          · rw [take_snoc_ HXS.out, EL.perm PP2]
            constructor
            · rintro ⟨e, he, hx⟩
              rcases List.mem_append.1 he with he | he
              · obtain ⟨ys, hy, hx⟩ := (h0.el x).1 ⟨e, he, hx⟩
                exact ⟨ys, List.mem_append_left _ hy, hx⟩
              · rw [List.mem_singleton] at he; subst he
                exact ⟨xs, List.mem_append_right _ (by simp), hx⟩
            · rintro ⟨ys, hy, hx⟩
              rcases List.mem_append.1 hy with hy | hy
              · obtain ⟨e, he, hx⟩ := (h0.el x).2 ⟨ys, hy, hx⟩
                exact ⟨e, List.mem_append_left _ he, hx⟩
              · rw [List.mem_singleton] at hy; subst hy
                exact ⟨⟨.slice A2 (rise ys).length c2, rise ys⟩, List.mem_append_right _ List.mem_cons_self, hx⟩
    · have p1 : decide (j < n) = false := decide_eq_false hjn
      have hj : j = n := by have := HJ.out; omega
      have hfin := HX.out
      rw [hj, ← HN.out, List.take_length] at hfin
      have HF := Aside0.mk hfin
      clear hfin hj
      go_wp2
      go_ret
      exact HeadsP.mk rfl HF.out
end Go.Proofs.Ytckpgbkbbdifmaa.Ep
