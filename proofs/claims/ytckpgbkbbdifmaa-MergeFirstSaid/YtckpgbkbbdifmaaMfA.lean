import Derived.Test.YtckpgbkbbdifmaaPMergeFirstx
import Derived.Test.YtckpgbkbbdifmaaMgR
import Derived.WalkKit
import Derived.ProofKit
import Derived.Below
import Derived.WalkLawsBesides
import Derived.Deep.QuietTactic
import Derived.BigQuiet
import Derived.StillTailTactics
import Derived.Deep.AppendLies
import Derived.Deep.RegionHeld3
import Derived.KernelRfl
import Derived.BigRegion
import Derived.WalkSpells
import Derived.Deep.Slices
import Derived.Deep.Fields
import Derived.ChangeSame
import Derived.Deep.RegionLaw
import Derived.Deep.DrawnRows
import Derived.Deep.Upon
namespace Go.Proofs.Ytckpgbkbbdifmaa.MfMergeFirst
open Go Go.RowKit Go.Proofs.YtckpgbkbbdifmaaW.PrintWords Go.Proofs.YtckpgbkbbdifmaaW.PrintLast Go.Proofs.YtckpgbkbbdifmaaW.PrintMore Go.Proofs.Ytckpgbkbbdifmaa.PMergeFirst
open Go.Proofs.Ytckpgbkbbdifmaa.Ep (rf rise rise_length rise_sorted rise_of_sorted uni uni_mem uni_sorted uni_length ltot ltot_cons sorted_ext asSet asSet_mem asSet_sorted asSet_length inter inter_mem inter_sorted minus bothL bothL_mem bothL_sorted LC MC)
set_option linter.unusedVariables false
set_option linter.unusedSimpArgs false
theorem w64 (n : Int) (h0 : -9223372036854775808 ≤ n) (h1 : n < 9223372036854775808) : wrap64 n = n := by unfold wrap64; omega
theorem rd_get (l : List Int) (i : Nat) (h : i < l.length) : rd l (i : Int) = l[i] := by unfold rd; simp [List.getD, h]
theorem lrise_eq : ∀ (n k : Nat) (out xs : List Int) (i : Nat), xs.length - i = n → n < k → xs.length ≤ 1000000 → out.length + n ≤ 1000000 → i ≤ xs.length → tendrillaw21_rising.l0 k out xs (xs.length : Int) (i : Int) = some (out ++ rf out.getLast? (xs.drop i))
  | 0, k + 1, out, xs, i, hn, hk, hx, ho, hi => by
    unfold tendrillaw21_rising.l0
    rw [if_neg (by omega), List.drop_eq_nil_of_le (by omega)]
    cases out.getLast? <;> simp [rf]
  | n + 1, k + 1, out, xs, i, hn, hk, hx, ho, hi => by
    have hil : i < xs.length := by omega
    have hrd : rd xs (i : Int) = xs[i] := by unfold rd; simp [List.getD, hil]
    have hw : wrap64 ((i : Int) + 1) = ((i + 1 : Nat) : Int) := by unfold wrap64; omega
    have hd : xs.drop i = xs[i] :: xs.drop (i + 1) := List.drop_eq_getElem_cons hil
    unfold tendrillaw21_rising.l0
    rw [if_pos (by omega), if_pos (by omega), if_pos (by omega), hrd, hw, hd]
    cases hout : out.getLast? with
    | none =>
      have he : out = [] := List.getLast?_eq_none_iff.1 hout
      subst he
      rw [if_pos (by rfl), if_pos (by simp), lrise_eq n k _ xs (i + 1) (by omega) (by omega) hx (by simp; omega) (by omega)]
      simp [rf]
    | some m =>
      have hne : out ≠ [] := fun e => by rw [e] at hout; cases hout
      have hpos : 0 < out.length := List.length_pos_iff.2 hne
      have hw2 : wrap64 ((out.length : Int) - 1) = ((out.length - 1 : Nat) : Int) := by unfold wrap64; omega
      have hm : rd out ((out.length - 1 : Nat) : Int) = m := by
        have h1 := List.getLast?_eq_getElem? (l := out)
        rw [hout] at h1
        unfold rd
        rw [Int.toNat_natCast, List.getD, ← h1]; rfl
      rw [if_neg (by omega), hw2, if_pos (by omega), if_pos (by omega), hm]
      unfold rf
      by_cases hlt : m < xs[i]
      · rw [if_pos hlt, if_pos hlt, if_pos (by omega), lrise_eq n k _ xs (i + 1) (by omega) (by omega) hx (by simp; omega) (by omega)]
        simp
      · rw [if_neg hlt, if_neg hlt, lrise_eq n k _ xs (i + 1) (by omega) (by omega) hx (by omega) (by omega), hout]
theorem lrise_k (k : Nat) (xs : List Int) (h : xs.length ≤ 1000000) (hk : xs.length < k) : tendrillaw21_rising.f k xs = some (rise xs) := by
  have := lrise_eq xs.length k [] xs 0 (by omega) hk h (by simpa using h) (by omega)
  simpa [tendrillaw21_rising.f, rise] using this
theorem same_l0 (x : List Int) (hm : x.length ≤ 1000000) : ∀ (d k i : Nat), x.length - i = d → d < k → i ≤ x.length → tendrilbook_Same_int.l0 k x x (i : Int) = some true := by
  intro d
  induction d with
  | zero =>
    intro k i hd hk hi
    obtain ⟨k', rfl⟩ : ∃ k', k = k' + 1 := ⟨k - 1, by omega⟩
    unfold tendrilbook_Same_int.l0
    rw [if_neg (by omega)]
  | succ d ih =>
    intro k i hd hk hi
    obtain ⟨k', rfl⟩ : ∃ k', k = k' + 1 := ⟨k - 1, by omega⟩
    unfold tendrilbook_Same_int.l0
    rw [if_pos (by omega), if_pos (by omega), if_pos (by omega), if_pos rfl, w64 _ (by omega) (by omega), show ((i : Int) + 1) = ((i + 1 : Nat) : Int) by omega]
    exact ih k' (i + 1) (by omega) (by omega) (by omega)
theorem same_f (k : Nat) (x : List Int) (hm : x.length ≤ 1000000) (hk : x.length < k) : tendrilbook_Same_int.f k x x = some true := by
  unfold tendrilbook_Same_int.f
  rw [if_pos rfl]; exact same_l0 x hm x.length k 0 (by omega) hk (by omega)
theorem hasl_l0 (l : List Int) (n : Int) (hm : l.length ≤ 1000000) : ∀ (d k i : Nat), l.length - i = d → d < k → i ≤ l.length → tendrilref19_Has.l0 k n l (l.length : Int) (i : Int) = some (decide (n ∈ l.drop i)) := by
  intro d
  induction d with
  | zero =>
    intro k i hd hk hi
    obtain ⟨k', rfl⟩ : ∃ k', k = k' + 1 := ⟨k - 1, by omega⟩
    unfold tendrilref19_Has.l0
    rw [if_neg (by omega), List.drop_eq_nil_of_le (by omega)]; rfl
  | succ d ih =>
    intro k i hd hk hi
    obtain ⟨k', rfl⟩ : ∃ k', k = k' + 1 := ⟨k - 1, by omega⟩
    have hil : i < l.length := by omega
    unfold tendrilref19_Has.l0
    rw [if_pos (by omega), if_pos (by omega), if_pos (by omega), rd_get l i hil, List.drop_eq_getElem_cons hil]
    by_cases he : l[i] = n
    · rw [if_pos he]; simp [he]
    · rw [if_neg he, w64 _ (by omega) (by omega), show ((i : Int) + 1) = ((i + 1 : Nat) : Int) by omega, ih k' (i + 1) (by omega) (by omega) (by omega)]
      have h9 : (n ∈ l[i] :: l.drop (i + 1)) ↔ n ∈ l.drop (i + 1) := by rw [List.mem_cons]; exact ⟨fun h => h.elim (fun e => absurd e.symm he) id, .inr⟩
      exact congrArg some (decide_eq_decide.2 h9.symm)
theorem hasl_f (k : Nat) (l : List Int) (n : Int) (hm : l.length ≤ 1000000) (hk : l.length < k) : tendrilref19_Has.f k l n = some (decide (n ∈ l)) := by
  have := hasl_l0 l n hm l.length k 0 (by omega) hk (by omega)
  simpa [tendrilref19_Has.f] using this
def ow (xs : List (List Int)) : List (List Int) := xs.map fun l => rise (l.take 30)
theorem ow_length (xs : List (List Int)) : (ow xs).length = xs.length := by simp [ow]
theorem ow_mem {xs : List (List Int)} {o : List Int} (h : o ∈ ow xs) : o.Pairwise (· < ·) ∧ o.length ≤ 30 ∧ rise o = o := by
  obtain ⟨l, _, rfl⟩ := List.mem_map.1 h
  have h1 := rise_length (l.take 30)
  have h2 := rise_sorted (l.take 30)
  exact ⟨h2, by rw [List.length_take] at h1; omega, rise_of_sorted _ h2⟩
theorem ltot_le (b : Nat) : ∀ ls : List (List Int), (∀ l ∈ ls, l.length ≤ b) → ltot ls ≤ ls.length * b
  | [], _ => by simp [ltot]
  | l :: ls, h => by
    rw [ltot_cons, List.length_cons, Nat.add_mul, Nat.one_mul]
    have := h l List.mem_cons_self
    have := ltot_le b ls fun x hx => h x (List.mem_cons_of_mem _ hx)
    omega
theorem ow_tot (xs : List (List Int)) (h : xs.length ≤ 10) : ltot (ow xs) ≤ 300 := by
  have := ltot_le 30 (ow xs) fun l hl => (ow_mem hl).2.1
  rw [ow_length] at this; omega
theorem ow_uni (xs : List (List Int)) (v : Int) : v ∈ uni (ow xs) ↔ ∃ o ∈ ow xs, v ∈ o := by
  rw [uni_mem]
  constructor
  · rintro ⟨o, ho, hv⟩; exact ⟨o, ho, by rw [(ow_mem ho).2.2] at hv; exact hv⟩
  · rintro ⟨o, ho, hv⟩; exact ⟨o, ho, by rw [(ow_mem ho).2.2]; exact hv⟩
theorem rdL (ls : List (List Int)) (i : Nat) (h : i < ls.length) : rd_L1 ls (i : Int) = ls[i] := by unfold rd_L1; simp [List.getD, h]
theorem mf_l4 (all : List Int) (O : List (List Int)) (i B : Nat) (o : List Int) (hall : all.length ≤ 300) (hO : O.length ≤ 10) (hi : i < O.length) (ho : o.length ≤ 30) (hin : ∀ v ∈ o, v ∈ all) (hB : 400 ≤ B)
    (hnext : ∀ k, B < k → tendrillaw21_MergeFirst.l3 k all O (O.length : Int) ((i + 1 : Nat) : Int) = some true) :
    ∀ (e k p : Nat), o.length - p = e → B + e + 1 < k → p ≤ o.length → tendrillaw21_MergeFirst.l4 k all O (O.length : Int) (i : Int) o (o.length : Int) (p : Int) = some true := by
  intro e
  induction e with
  | zero =>
    intro k p he hk hp
    obtain ⟨k', rfl⟩ : ∃ k', k = k' + 1 := ⟨k - 1, by omega⟩
    unfold tendrillaw21_MergeFirst.l4
    rw [if_neg (by omega), w64 _ (by omega) (by omega)]
    exact hnext k' (by omega)
  | succ e ih =>
    intro k p he hk hp
    obtain ⟨k', rfl⟩ : ∃ k', k = k' + 1 := ⟨k - 1, by omega⟩
    have hpl : p < o.length := by omega
    unfold tendrillaw21_MergeFirst.l4
    rw [if_pos (by omega), if_pos (by omega), if_pos (by omega), rd_get o p hpl, hasl_f k' all _ (by omega) (by omega)]
    simp only [Option.bind_some]
    rw [if_pos (decide_eq_true (hin _ (List.getElem_mem hpl))), w64 _ (by omega) (by omega)]
    exact ih k' (p + 1) (by omega) (by omega) (by omega)
theorem mf_l3 (all : List Int) (O : List (List Int)) (hall : all.length ≤ 300) (hO : O.length ≤ 10) (ho : ∀ o ∈ O, o.length ≤ 30 ∧ ∀ v ∈ o, v ∈ all) :
    ∀ (d k i : Nat), O.length - i = d → 400 + 40 * d < k → i ≤ O.length → tendrillaw21_MergeFirst.l3 k all O (O.length : Int) (i : Int) = some true := by
  intro d
  induction d with
  | zero =>
    intro k i hd hk hi
    obtain ⟨k', rfl⟩ : ∃ k', k = k' + 1 := ⟨k - 1, by omega⟩
    unfold tendrillaw21_MergeFirst.l3
    rw [if_neg (by omega)]; rfl
  | succ d ih =>
    intro k i hd hk hi
    obtain ⟨k', rfl⟩ : ∃ k', k = k' + 1 := ⟨k - 1, by omega⟩
    have hil : i < O.length := by omega
    have h1 := ho O[i] (List.getElem_mem hil)
    unfold tendrillaw21_MergeFirst.l3
    rw [if_pos (by omega), if_pos (by omega), if_pos (by omega), rdL O i hil]
    exact mf_l4 all O i (400 + 40 * d) O[i] hall hO hil h1.1 h1.2 (by omega) (fun k hk => ih k (i + 1) (by omega) (by omega) (by omega)) O[i].length k' 0 (by omega) (by omega) (by omega)
theorem mf_l2 (all : List Int) (O : List (List Int)) (i B : Nat) (hall : all.length ≤ 300) (hO : O.length ≤ 10) (hi : i < all.length) (ho : ∀ o ∈ O, o.length ≤ 30) (hs : all.Pairwise (· < ·)) (hin : ∃ o ∈ O, all[i] ∈ o) (hB : 400 ≤ B)
    (hnext : ∀ k, B < k → tendrillaw21_MergeFirst.l1 k O all all (all.length : Int) ((i + 1 : Nat) : Int) = some true) :
    ∀ (e k p : Nat) (b : Bool), O.length - p = e → B + e + 1 < k → p ≤ O.length → (b = true ↔ ∃ o ∈ O.take p, all[i] ∈ o) → tendrillaw21_MergeFirst.l2 k O all (i : Int) all[i] b all (all.length : Int) (i : Int) O (O.length : Int) (p : Int) = some true := by
  intro e
  induction e with
  | zero =>
    intro k p b he hk hp hb
    obtain ⟨k', rfl⟩ : ∃ k', k = k' + 1 := ⟨k - 1, by omega⟩
    have hbt : b = true := by rw [hb, List.take_of_length_le (by omega)]; exact hin
    unfold tendrillaw21_MergeFirst.l2
    rw [if_neg (by omega), if_pos hbt]
    by_cases hi0 : i = 0
    · subst hi0
      rw [if_neg (by omega), w64 _ (by omega) (by omega)]
      exact hnext k' (by omega)
    · have hlt := (List.pairwise_iff_getElem.1 hs) (i - 1) i (by omega) hi (by omega)
      rw [if_pos (by omega), w64 ((i : Int) - 1) (by omega) (by omega), show ((i : Int) - 1) = ((i - 1 : Nat) : Int) by omega, if_pos (by omega), if_pos (by omega), rd_get all (i - 1) (by omega), if_neg (by omega), w64 _ (by omega) (by omega)]
      exact hnext k' (by omega)
  | succ e ih =>
    intro k p b he hk hp hb
    obtain ⟨k', rfl⟩ : ∃ k', k = k' + 1 := ⟨k - 1, by omega⟩
    have hpl : p < O.length := by omega
    have htk : O.take (p + 1) = O.take p ++ [O[p]] := List.take_succ_eq_append_getElem hpl
    unfold tendrillaw21_MergeFirst.l2
    rw [if_pos (by omega), if_pos (by omega), if_pos (by omega)]
    cases b with
    | true =>
      rw [if_pos rfl, w64 _ (by omega) (by omega)]
      exact ih k' (p + 1) true (by omega) (by omega) (by omega) ⟨fun _ => by obtain ⟨o, h1, h2⟩ := hb.1 rfl; exact ⟨o, by rw [htk]; exact List.mem_append_left _ h1, h2⟩, fun _ => rfl⟩
    | false =>
      have h1 := ho O[p] (List.getElem_mem hpl)
      rw [if_neg (by decide), rdL O p hpl, hasl_f k' _ _ (by omega) (by omega)]
      simp only [Option.bind_some]
      rw [w64 _ (by omega) (by omega)]
      refine ih k' (p + 1) _ (by omega) (by omega) (by omega) ?_
      rw [decide_eq_true_iff, htk]
      constructor
      · intro h; exact ⟨_, List.mem_append_right _ (by simp), h⟩
      · rintro ⟨o, h1, h2⟩
        rcases List.mem_append.1 h1 with h1 | h1
        · exact absurd (hb.2 ⟨o, h1, h2⟩) (by decide)
        · rw [List.mem_singleton] at h1; subst h1; exact h2
theorem mf_l1 (all : List Int) (O : List (List Int)) (hall : all.length ≤ 300) (hO : O.length ≤ 10) (ho : ∀ o ∈ O, o.length ≤ 30 ∧ ∀ v ∈ o, v ∈ all) (hs : all.Pairwise (· < ·)) (hin : ∀ v ∈ all, ∃ o ∈ O, v ∈ o) :
    ∀ (d k i : Nat), all.length - i = d → 1000 + 20 * d < k → i ≤ all.length → tendrillaw21_MergeFirst.l1 k O all all (all.length : Int) (i : Int) = some true := by
  intro d
  induction d with
  | zero =>
    intro k i hd hk hi
    obtain ⟨k', rfl⟩ : ∃ k', k = k' + 1 := ⟨k - 1, by omega⟩
    unfold tendrillaw21_MergeFirst.l1
    rw [if_neg (by omega)]
    exact mf_l3 all O hall hO ho O.length k' 0 (by omega) (by omega) (by omega)
  | succ d ih =>
    intro k i hd hk hi
    obtain ⟨k', rfl⟩ : ∃ k', k = k' + 1 := ⟨k - 1, by omega⟩
    have hil : i < all.length := by omega
    unfold tendrillaw21_MergeFirst.l1
    rw [if_pos (by omega), if_pos (by omega), if_pos (by omega), rd_get all i hil]
    exact mf_l2 all O i (1000 + 20 * d) hall hO hil (fun o h => (ho o h).1) hs (hin _ (List.getElem_mem hil)) (by omega) (fun k hk => ih k (i + 1) (by omega) (by omega) (by omega)) O.length k' 0 false (by omega) (by omega) (by omega) (by simp)
theorem mf_l0 (xs : List (List Int)) (n : Int) (hx : xs.length ≤ 10) (hm : ∀ l ∈ xs, l.length ≤ 9223372036854775807) : ∀ (d k i : Nat), xs.length - i = d → 8000 + d < k → i ≤ xs.length → tendrillaw21_MergeFirst.l0 k xs n (ow (xs.take i)) (xs.length : Int) (i : Int) = some true := by
  intro d
  induction d with
  | zero =>
    intro k i hd hk hi
    obtain ⟨k', rfl⟩ : ∃ k', k = k' + 1 := ⟨k - 1, by omega⟩
    have h1 := ow_tot xs hx
    have h2 := ow_length xs
    have h3 := uni_length (ow xs)
    unfold tendrillaw21_MergeFirst.l0
    rw [if_neg (by omega), List.take_of_length_le (by omega)]
    have hf : merge_First.f n (ow xs) = some ((uni (ow xs)).take n.toNat) := by unfold merge_First.f; rw [if_pos ⟨by omega, by omega⟩]
    have hu : merge_Union.f (ow xs) = some (uni (ow xs)) := by unfold merge_Union.f; rw [if_pos ⟨by omega, by omega⟩]
    rw [hf, hu]
    simp only [Option.bind_some]
    have hl : ((uni (ow xs)).take n.toNat).length = min n.toNat (uni (ow xs)).length := List.length_take
    rw [if_pos (by rw [hl]; unfold mn mx; split <;> split <;> omega), if_neg (by rw [hl]; omega), if_pos (by omega), if_pos (by rw [hl]; omega)]
    have ht : (uni (ow xs)).take (((uni (ow xs)).take n.toNat).length : Int).toNat = (uni (ow xs)).take n.toNat := by
      rw [Int.toNat_natCast, hl]
      rcases Nat.le_total n.toNat (uni (ow xs)).length with h | h
      · rw [Nat.min_eq_left h]
      · rw [Nat.min_eq_right h, List.take_length, List.take_of_length_le h]
    rw [ht, same_f k' _ (by rw [hl]; omega) (by rw [hl]; omega)]
    simp only [Option.bind_some]
    obtain ⟨k2, rfl⟩ : ∃ k2, k' = k2 + 1 := ⟨k' - 1, by omega⟩
    rw [tendrillaw21_MergeFirst.j1, if_neg (by decide)]
    exact mf_l1 (uni (ow xs)) (ow xs) (by omega) (by omega) (fun o ho => ⟨(ow_mem ho).2.1, fun v hv => (ow_uni xs v).2 ⟨o, ho, hv⟩⟩) (uni_sorted _) (fun v hv => (ow_uni xs v).1 hv) (uni (ow xs)).length k2 0 (by omega) (by omega) (by omega)
  | succ d ih =>
    intro k i hd hk hi
    obtain ⟨k', rfl⟩ : ∃ k', k = k' + 1 := ⟨k - 1, by omega⟩
    have hil : i < xs.length := by omega
    have hmi := hm xs[i] (List.getElem_mem hil)
    have htk : xs.take (i + 1) = xs.take i ++ [xs[i]] := List.take_succ_eq_append_getElem hil
    unfold tendrillaw21_MergeFirst.l0
    rw [if_pos (by omega), if_pos (by omega), if_pos (by omega), rdL xs i hil]
    rw [if_pos (by unfold mn; split <;> omega), if_pos (by unfold mn; split <;> omega)]
    have ht : (xs[i]).take (mn (xs[i].length : Int) 30).toNat = (xs[i]).take 30 := by
      unfold mn; split
      · rfl
      · rw [Int.toNat_natCast, List.take_length, List.take_of_length_le (by omega)]
    have hlen : ((xs[i]).take 30).length ≤ 30 := by rw [List.length_take]; omega
    rw [ht, lrise_k k' _ (by omega) (by omega)]
    simp only [Option.bind_some]
    have ho : ow (xs.take i) ++ [rise ((xs[i]).take 30)] = ow (xs.take (i + 1)) := by rw [htk]; unfold ow; rw [List.map_append]; rfl
    rw [if_pos (by rw [ow_length, List.length_take]; omega), w64 _ (by omega) (by omega), ho]
    exact ih k' (i + 1) (by omega) (by omega) (by omega)
theorem mf_f (k : Nat) (hk : 8100 < k) (xs : List (List Int)) (n : Int) (hx : xs.length ≤ 10) (hm : ∀ l ∈ xs, l.length ≤ 9223372036854775807) : tendrillaw21_MergeFirst.f k xs n = some true := by
  unfold tendrillaw21_MergeFirst.f
  rw [if_neg (by omega)]
  exact mf_l0 xs n hx hm xs.length k 0 (by omega) (by omega) (by omega)
end Go.Proofs.Ytckpgbkbbdifmaa.MfMergeFirst
