import Derived.Test.YtckpgbkbbdifmaaPMergeTellsx
import Derived.Test.YtckpgbkbbdifmaaUni
import Derived.Test.YtckpgbkbbdifmaaCopy
import Derived.WalkKit
import Derived.ProofKit
import Derived.Below
import Derived.WalkLawsBesides
import Derived.Deep.QuietTactic
import Derived.BigQuiet
import Derived.StillTailTactics
import Derived.Deep.AppendLies
import Derived.Deep.RegionHeld3
import Derived.KernelRfl
import Derived.BigRegion
import Derived.WalkSpells
import Derived.Deep.Slices
import Derived.Deep.Fields
import Derived.ChangeSame
import Derived.Deep.RegionLaw
import Derived.Deep.DrawnRows
import Derived.Deep.Upon
namespace Go.Proofs.Ytckpgbkbbdifmaa.Ep
open Go Go.RowKit Go.Proofs.YtckpgbkbbdifmaaW.PrintWords Go.Proofs.YtckpgbkbbdifmaaW.PrintLast Go.Proofs.YtckpgbkbbdifmaaW.PrintMore Go.Proofs.Ytckpgbkbbdifmaa.PMergeTells Go.Proofs.Ytckpgbkbbdifmaa.Keep
set_option linter.unusedVariables false
set_option linter.unusedSimpArgs false
theorem u64_small (n : Int) (h0 : 0 ≤ n) (h1 : n < 4611686018427387904) : IntKind.u64.wrap n = n := by
  rw [IntKind.wrap_u64]; omega
theorem w64 (n : Int) (h0 : -9223372036854775808 ≤ n) (h1 : n < 9223372036854775808) : wrap64 n = n := by unfold wrap64; omega
theorem rd_get (l : List Int) (i : Nat) (h : i < l.length) : rd l (i : Int) = l[i] := by unfold rd; simp [List.getD, h]
theorem cmp_less_f (a b : Int) : cmp_Less_int.f a b = some (decide (a < b)) := by
  unfold cmp_Less_int.f cmp_isNaN_int.f
  simp
theorem bs_l0 (l : List Int) (x : Int) (hs : l.Pairwise (· < ·)) (hm : l.length ≤ 1000000) : ∀ (d k i j : Nat), j - i = d → d < k → i ≤ j → j ≤ l.length → (∀ p (hp : p < l.length), p < i → l[p] < x) → (∀ p (hp : p < l.length), j ≤ p → x ≤ l[p]) →
    ∃ r, slices_BinarySearch_int_int.l0 k l x (l.length : Int) (i : Int) (j : Int) = some (r, decide (x ∈ l)) := by
  intro d
  induction d using Nat.strongRecOn with
  | _ d ih =>
    intro k i j hd hk hij hj hlo hhi
    obtain ⟨k', rfl⟩ : ∃ k', k = k' + 1 := ⟨k - 1, by omega⟩
    unfold slices_BinarySearch_int_int.l0
    by_cases hlt : i < j
    · rw [if_pos (by omega)]
      obtain ⟨h, hh⟩ : ∃ h : Nat, (i + j) / 2 = h := ⟨_, rfl⟩
      have hw : wrap64 ((IntKind.u64.wrap (wrap64 ((i : Int) + (j : Int)))) / 2) = (h : Int) := by
        rw [w64 ((i : Int) + (j : Int)) (by omega) (by omega), u64_small _ (by omega) (by omega), w64 _ (by omega) (by omega)]; omega
      rw [hw, if_pos (by omega), if_pos (by omega), rd_get l h (by omega), cmp_less_f]
      simp only [Option.bind_some]
      by_cases hlx : l[h] < x
      · rw [if_pos (decide_eq_true hlx), w64 _ (by omega) (by omega)]
        have := ih (j - (h + 1)) (by omega) k' (h + 1) j rfl (by omega) (by omega) hj (fun p hp hpi => by
          by_cases e : p = h
          · subst e; exact hlx
          · have := (List.pairwise_iff_getElem.1 hs) p h hp (by omega) (by omega); omega) hhi
        simpa using this
      · rw [if_neg (by simpa using hlx)]
        exact ih (h - i) (by omega) k' i h rfl (by omega) (by omega) (by omega) hlo (fun p hp hpi => by
          by_cases e : p = h
          · subst e; omega
          · have := (List.pairwise_iff_getElem.1 hs) h p (by omega) hp (by omega); omega)
    · obtain rfl : i = j := by omega
      rw [if_neg (by omega)]
      by_cases hil : i < l.length
      · rw [if_pos (by omega), if_pos (by omega), if_pos (by omega), rd_get l i hil]
        have h1 := hhi i hil (Nat.le_refl _)
        by_cases he : l[i] = x
        · rw [if_pos he]
          exact ⟨_, by rw [show decide (x ∈ l) = true from decide_eq_true (he ▸ List.getElem_mem hil)]⟩
        · rw [if_neg he]
          have hno : x ∉ l := fun hx => by
            obtain ⟨p, hp, e⟩ := List.getElem_of_mem hx
            rcases Nat.lt_trichotomy p i with hpi | hpi | hpi
            · have := hlo p hp hpi; omega
            · subst hpi; exact he e
            · have := (List.pairwise_iff_getElem.1 hs) i p hil hp hpi; omega
          unfold slices_isNaN_int.f
          exact ⟨i, by rw [show decide (x ∈ l) = false from decide_eq_false hno]; simp⟩
      · rw [if_neg (by omega)]
        have hno : x ∉ l := fun hx => by
          obtain ⟨p, hp, e⟩ := List.getElem_of_mem hx
          have := hlo p hp (by omega); omega
        exact ⟨_, by rw [show decide (x ∈ l) = false from decide_eq_false hno]⟩
theorem bs_f (k : Nat) (l : List Int) (x : Int) (hs : l.Pairwise (· < ·)) (hm : l.length ≤ 1000000) (hk : l.length < k) : ∃ r, slices_BinarySearch_int_int.f k l x = some (r, decide (x ∈ l)) :=
  bs_l0 l x hs hm l.length k 0 l.length (by omega) hk (by omega) (Nat.le_refl _) (fun p hp h => by omega) (fun p hp h => by omega)
theorem both_l0 (b : List Int) (hs : b.Pairwise (· < ·)) (hm : b.length ≤ 1000000) (in_ : Bool) (a : List Int) (ha : a.length ≤ 1000000) : ∀ (d k i : Nat) (out : List Int), a.length - i = d → d + b.length < k → i ≤ a.length → out.length + d ≤ 1000000 →
    merge_both.l0 k b in_ out a (a.length : Int) (i : Int) = some (out ++ (a.drop i).filter fun x => decide (x ∈ b) == in_) := by
  intro d
  induction d with
  | zero =>
    intro k i out hd hk hi ho
    obtain ⟨k', rfl⟩ : ∃ k', k = k' + 1 := ⟨k - 1, by omega⟩
    unfold merge_both.l0
    rw [if_neg (by omega), List.drop_eq_nil_of_le (by omega)]; simp
  | succ d ih =>
    intro k i out hd hk hi ho
    obtain ⟨k', rfl⟩ : ∃ k', k = k' + 1 := ⟨k - 1, by omega⟩
    have hil : i < a.length := by omega
    unfold merge_both.l0
    rw [if_pos (by omega), if_pos (by omega), if_pos (by omega), rd_get a i hil, w64 _ (by omega) (by omega), List.drop_eq_getElem_cons hil]
    obtain ⟨r, hr⟩ := bs_f k' b a[i] hs hm (by omega)
    rw [hr]
    simp only [Option.bind_some]
    by_cases hb : (decide (a[i] ∈ b) == in_) = true
    · rw [if_pos hb, if_pos (by omega)]
      have := ih k' (i + 1) (out ++ [a[i]]) (by omega) (by omega) (by omega) (by simp; omega)
      rw [show ((i : Int) + 1) = ((i + 1 : Nat) : Int) by omega, this, List.filter_cons, if_pos hb]; simp
    · rw [if_neg hb]
      have := ih k' (i + 1) out (by omega) (by omega) (by omega) (by omega)
      rw [show ((i : Int) + 1) = ((i + 1 : Nat) : Int) by omega, this, List.filter_cons, if_neg hb]
def bothL (a b : List Int) (in_ : Bool) : List Int := a.filter fun x => decide (x ∈ b) == in_
theorem both_f (k : Nat) (a b : List Int) (in_ : Bool) (hs : b.Pairwise (· < ·)) (ha : a.length ≤ 1000000) (hm : b.length ≤ 1000000) (hk : a.length + b.length < k) : merge_both.f k a b in_ = some (bothL a b in_) := by
  have := both_l0 b hs hm in_ a ha a.length k 0 [] (by omega) hk (by omega) (by simpa using ha)
  simpa [merge_both.f, bothL] using this
theorem bothL_sorted {a b : List Int} {in_ : Bool} (h : a.Pairwise (· < ·)) : (bothL a b in_).Pairwise (· < ·) := h.filter _
theorem bothL_length (a b : List Int) (in_ : Bool) : (bothL a b in_).length ≤ a.length := List.length_filter_le _ _
theorem bothL_mem (a b : List Int) (in_ : Bool) (x : Int) : x ∈ bothL a b in_ ↔ x ∈ a ∧ (decide (x ∈ b) = in_) := by unfold bothL; simp
theorem mrise2_eq : ∀ (n k : Nat) (out xs : List Int) (i : Nat), xs.length - i = n → n < k → xs.length ≤ 1000000 → out.length + n ≤ 1000000 → i ≤ xs.length → merge_rising.l0 k out xs (xs.length : Int) (i : Int) = some (out ++ rf out.getLast? (xs.drop i))
  | 0, k + 1, out, xs, i, hn, hk, hx, ho, hi => by
    unfold merge_rising.l0
    rw [if_neg (by omega), List.drop_eq_nil_of_le (by omega)]
    cases out.getLast? <;> simp [rf]
  | n + 1, k + 1, out, xs, i, hn, hk, hx, ho, hi => by
    have hil : i < xs.length := by omega
    have hrd : rd xs (i : Int) = xs[i] := by unfold rd; simp [List.getD, hil]
    have hw : wrap64 ((i : Int) + 1) = ((i + 1 : Nat) : Int) := by unfold wrap64; omega
    have hd : xs.drop i = xs[i] :: xs.drop (i + 1) := List.drop_eq_getElem_cons hil
    unfold merge_rising.l0
    rw [if_pos (by omega), if_pos (by omega), if_pos (by omega), hrd, hw, hd]
    cases hout : out.getLast? with
    | none =>
      have he : out = [] := List.getLast?_eq_none_iff.1 hout
      subst he
      rw [if_pos (by rfl), if_pos (by simp), mrise2_eq n k _ xs (i + 1) (by omega) (by omega) hx (by simp; omega) (by omega)]
      simp [rf]
    | some m =>
      have hne : out ≠ [] := fun e => by rw [e] at hout; cases hout
      have hpos : 0 < out.length := List.length_pos_iff.2 hne
      have hw2 : wrap64 ((out.length : Int) - 1) = ((out.length - 1 : Nat) : Int) := by unfold wrap64; omega
      have hm : rd out ((out.length - 1 : Nat) : Int) = m := by
        have h1 := List.getLast?_eq_getElem? (l := out)
        rw [hout] at h1
        unfold rd
        rw [Int.toNat_natCast, List.getD, ← h1]; rfl
      rw [if_neg (by omega), hw2, if_pos (by omega), if_pos (by omega), hm]
      unfold rf
      by_cases hlt : m < xs[i]
      · rw [if_pos hlt, if_pos hlt, if_pos (by omega), mrise2_eq n k _ xs (i + 1) (by omega) (by omega) hx (by simp; omega) (by omega)]
        simp
      · rw [if_neg hlt, if_neg hlt, mrise2_eq n k _ xs (i + 1) (by omega) (by omega) hx (by omega) (by omega), hout]
theorem mrise_k (k : Nat) (xs : List Int) (h : xs.length ≤ 1000000) (hk : xs.length < k) : merge_rising.f k xs = some (rise xs) := by
  have := mrise2_eq xs.length k [] xs 0 (by omega) hk h (by simpa using h) (by omega)
  simpa [merge_rising.f, rise] using this
theorem lrise_eq : ∀ (n k : Nat) (out xs : List Int) (i : Nat), xs.length - i = n → n < k → xs.length ≤ 1000000 → out.length + n ≤ 1000000 → i ≤ xs.length → tendrillaw21_rising.l0 k out xs (xs.length : Int) (i : Int) = some (out ++ rf out.getLast? (xs.drop i))
  | 0, k + 1, out, xs, i, hn, hk, hx, ho, hi => by
    unfold tendrillaw21_rising.l0
    rw [if_neg (by omega), List.drop_eq_nil_of_le (by omega)]
    cases out.getLast? <;> simp [rf]
  | n + 1, k + 1, out, xs, i, hn, hk, hx, ho, hi => by
    have hil : i < xs.length := by omega
    have hrd : rd xs (i : Int) = xs[i] := by unfold rd; simp [List.getD, hil]
    have hw : wrap64 ((i : Int) + 1) = ((i + 1 : Nat) : Int) := by unfold wrap64; omega
    have hd : xs.drop i = xs[i] :: xs.drop (i + 1) := List.drop_eq_getElem_cons hil
    unfold tendrillaw21_rising.l0
    rw [if_pos (by omega), if_pos (by omega), if_pos (by omega), hrd, hw, hd]
    cases hout : out.getLast? with
    | none =>
      have he : out = [] := List.getLast?_eq_none_iff.1 hout
      subst he
      rw [if_pos (by rfl), if_pos (by simp), lrise_eq n k _ xs (i + 1) (by omega) (by omega) hx (by simp; omega) (by omega)]
      simp [rf]
    | some m =>
      have hne : out ≠ [] := fun e => by rw [e] at hout; cases hout
      have hpos : 0 < out.length := List.length_pos_iff.2 hne
      have hw2 : wrap64 ((out.length : Int) - 1) = ((out.length - 1 : Nat) : Int) := by unfold wrap64; omega
      have hm : rd out ((out.length - 1 : Nat) : Int) = m := by
        have h1 := List.getLast?_eq_getElem? (l := out)
        rw [hout] at h1
        unfold rd
        rw [Int.toNat_natCast, List.getD, ← h1]; rfl
      rw [if_neg (by omega), hw2, if_pos (by omega), if_pos (by omega), hm]
      unfold rf
      by_cases hlt : m < xs[i]
      · rw [if_pos hlt, if_pos hlt, if_pos (by omega), lrise_eq n k _ xs (i + 1) (by omega) (by omega) hx (by simp; omega) (by omega)]
        simp
      · rw [if_neg hlt, if_neg hlt, lrise_eq n k _ xs (i + 1) (by omega) (by omega) hx (by omega) (by omega), hout]
theorem lrise_k (k : Nat) (xs : List Int) (h : xs.length ≤ 1000000) (hk : xs.length < k) : tendrillaw21_rising.f k xs = some (rise xs) := by
  have := lrise_eq xs.length k [] xs 0 (by omega) hk h (by simpa using h) (by omega)
  simpa [tendrillaw21_rising.f, rise] using this
/-- the meet of lists. -/
def inter : List (List Int) → List Int
  | [] => []
  | x :: l => l.foldl (fun out y => bothL out (rise y) true) (rise x)
def minus (a b : List Int) : List Int := bothL (rise a) (rise b) false
theorem minus_f (k : Nat) (a b : List Int) (ha : a.length ≤ 100000) (hb : b.length ≤ 100000) (hk : 300000 < k) : merge_Minus.f k a b = some (minus a b) := by
  unfold merge_Minus.f
  rw [mrise_k k a (by omega) (by omega), mrise_k k b (by omega) (by omega)]
  simp only [Option.bind_some]
  have := rise_length a
  have := rise_length b
  rw [both_f k _ _ _ (rise_sorted b) (by omega) (by omega) (by omega)]; rfl
theorem inter_l0 (ls : List (List Int)) (hls : ∀ l ∈ ls, l.length ≤ 100000) (hn : ls.length ≤ 1000) : ∀ (d k i : Nat) (out : List Int), ls.length - i = d → 300000 + d < k → i ≤ ls.length → out.length ≤ 100000 →
    merge_Inter.l0 k out ls (ls.length : Int) (i : Int) = some ((ls.drop i).foldl (fun out y => bothL out (rise y) true) out) := by
  intro d
  induction d with
  | zero =>
    intro k i out hd hk hi ho
    obtain ⟨k', rfl⟩ : ∃ k', k = k' + 1 := ⟨k - 1, by omega⟩
    unfold merge_Inter.l0
    rw [if_neg (by omega), List.drop_eq_nil_of_le (by omega)]; rfl
  | succ d ih =>
    intro k i out hd hk hi ho
    obtain ⟨k', rfl⟩ : ∃ k', k = k' + 1 := ⟨k - 1, by omega⟩
    have hil : i < ls.length := by omega
    have hl := hls ls[i] (List.getElem_mem hil)
    have hr := rise_length ls[i]
    have hrd : rd_L1 ls (i : Int) = ls[i] := by unfold rd_L1; simp [List.getD, hil]
    unfold merge_Inter.l0
    rw [if_pos (by omega), if_pos (by omega), if_pos (by omega), hrd, mrise_k k' _ (by omega) (by omega)]
    simp only [Option.bind_some]
    rw [both_f k' _ _ _ (rise_sorted _) (by omega) (by omega) (by omega)]
    simp only [Option.bind_some]
    rw [w64 _ (by omega) (by omega), List.drop_eq_getElem_cons hil, List.foldl_cons]
    have := bothL_length out (rise ls[i]) true
    have := ih k' (i + 1) (bothL out (rise ls[i]) true) (by omega) (by omega) (by omega) (by omega)
    rw [show ((i : Int) + 1) = ((i + 1 : Nat) : Int) by omega, this]
theorem inter_f (k : Nat) (ls : List (List Int)) (hls : ∀ l ∈ ls, l.length ≤ 100000) (hn : ls.length ≤ 1000) (hk : 302000 < k) : merge_Inter.f k ls = some (inter ls) := by
  unfold merge_Inter.f
  cases ls with
  | nil => rfl
  | cons x l =>
    have h1 : rd_L1 (x :: l) 0 = x := rfl
    have hx := hls x List.mem_cons_self
    simp only [List.length_cons] at hn ⊢
    rw [if_neg (by omega), if_pos (by omega), h1, mrise_k k x (by omega) (by omega)]
    simp only [Option.bind_some]
    rw [if_pos (by omega)]
    have hr := rise_length x
    have := inter_l0 l (fun y hy => hls y (List.mem_cons_of_mem _ hy)) (by omega) l.length k 0 (rise x) (by omega) (by omega) (by omega) (by omega)
    rw [show inter (x :: l) = l.foldl (fun out y => bothL out (rise y) true) (rise x) from rfl]
    simpa using this
theorem inter_any : ∀ (l : List (List Int)) (out : List Int), out.Pairwise (· < ·) → (l.foldl (fun out y => bothL out (rise y) true) out).Pairwise (· < ·) ∧ (∀ x, x ∈ l.foldl (fun out y => bothL out (rise y) true) out ↔ x ∈ out ∧ ∀ y ∈ l, x ∈ rise y) ∧ (l.foldl (fun out y => bothL out (rise y) true) out).length ≤ out.length
  | [], out, h => ⟨h, fun x => by simp, Nat.le_refl _⟩
  | y :: l, out, h => by
    obtain ⟨h1, h2, h3⟩ := inter_any l (bothL out (rise y) true) (bothL_sorted h)
    refine ⟨h1, fun x => ?_, Nat.le_trans h3 (bothL_length _ _ _)⟩
    rw [List.foldl_cons, h2 x, bothL_mem]
    simp [and_assoc]
theorem inter_sorted (ls : List (List Int)) : (inter ls).Pairwise (· < ·) := by
  cases ls with
  | nil => exact List.Pairwise.nil
  | cons x l => exact (inter_any l _ (rise_sorted x)).1
theorem inter_mem (x : List Int) (l : List (List Int)) (z : Int) : z ∈ inter (x :: l) ↔ ∀ y ∈ x :: l, z ∈ rise y := by
  show z ∈ l.foldl _ _ ↔ _
  rw [(inter_any l _ (rise_sorted x)).2.1 z]; simp
theorem inter_length (x : List Int) (l : List (List Int)) : (inter (x :: l)).length ≤ x.length := Nat.le_trans (inter_any l _ (rise_sorted x)).2.2 (rise_length x)
theorem same_l0 (x : List Int) (hm : x.length ≤ 1000000) : ∀ (d k i : Nat), x.length - i = d → d < k → i ≤ x.length → tendrilbook_Same_int.l0 k x x (i : Int) = some true := by
  intro d
  induction d with
  | zero =>
    intro k i hd hk hi
    obtain ⟨k', rfl⟩ : ∃ k', k = k' + 1 := ⟨k - 1, by omega⟩
    unfold tendrilbook_Same_int.l0
    rw [if_neg (by omega)]
  | succ d ih =>
    intro k i hd hk hi
    obtain ⟨k', rfl⟩ : ∃ k', k = k' + 1 := ⟨k - 1, by omega⟩
    unfold tendrilbook_Same_int.l0
    rw [if_pos (by omega), if_pos (by omega), if_pos (by omega), if_pos rfl, w64 _ (by omega) (by omega), show ((i : Int) + 1) = ((i + 1 : Nat) : Int) by omega]
    exact ih k' (i + 1) (by omega) (by omega) (by omega)
theorem same_f (k : Nat) (x : List Int) (hm : x.length ≤ 1000000) (hk : x.length < k) : tendrilbook_Same_int.f k x x = some true := by
  unfold tendrilbook_Same_int.f
  rw [if_pos rfl]; exact same_l0 x hm x.length k 0 (by omega) hk (by omega)
theorem hasl_l0 (l : List Int) (n : Int) (hm : l.length ≤ 1000000) : ∀ (d k i : Nat), l.length - i = d → d < k → i ≤ l.length → tendrilref19_Has.l0 k n l (l.length : Int) (i : Int) = some (decide (n ∈ l.drop i)) := by
  intro d
  induction d with
  | zero =>
    intro k i hd hk hi
    obtain ⟨k', rfl⟩ : ∃ k', k = k' + 1 := ⟨k - 1, by omega⟩
    unfold tendrilref19_Has.l0
    rw [if_neg (by omega), List.drop_eq_nil_of_le (by omega)]; rfl
  | succ d ih =>
    intro k i hd hk hi
    obtain ⟨k', rfl⟩ : ∃ k', k = k' + 1 := ⟨k - 1, by omega⟩
    have hil : i < l.length := by omega
    unfold tendrilref19_Has.l0
    rw [if_pos (by omega), if_pos (by omega), if_pos (by omega), rd_get l i hil, List.drop_eq_getElem_cons hil]
    by_cases he : l[i] = n
    · rw [if_pos he]; simp [he]
    · rw [if_neg he, w64 _ (by omega) (by omega), show ((i : Int) + 1) = ((i + 1 : Nat) : Int) by omega, ih k' (i + 1) (by omega) (by omega) (by omega)]
      have h9 : (n ∈ l[i] :: l.drop (i + 1)) ↔ n ∈ l.drop (i + 1) := by rw [List.mem_cons]; exact ⟨fun h => h.elim (fun e => absurd e.symm he) id, .inr⟩
      exact congrArg some (decide_eq_decide.2 h9.symm)
theorem hasl_f (k : Nat) (l : List Int) (n : Int) (hm : l.length ≤ 1000000) (hk : l.length < k) : tendrilref19_Has.f k l n = some (decide (n ∈ l)) := by
  have := hasl_l0 l n hm l.length k 0 (by omega) hk (by omega)
  simpa [tendrilref19_Has.f] using this
end Go.Proofs.Ytckpgbkbbdifmaa.Ep
