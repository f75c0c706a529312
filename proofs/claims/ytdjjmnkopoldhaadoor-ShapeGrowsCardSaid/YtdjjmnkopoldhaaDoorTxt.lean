/- Texts as lists of bytes: terms, keys, how far two begin alike, and how they stand. -/
import Derived.Lib.Bytealg
import Derived.RowKit
namespace Go.Tx
open Go.RowKit

/-- a text's bytes. -/
abbrev L (s : ByteArray) : List UInt8 := s.data.toList
theorem size_L (s : ByteArray) : (L s).length = s.size := by rw [Array.length_toList]; rfl
theorem toList_loop (s : ByteArray) (d : Nat) : ∀ (i : Nat) (acc : List UInt8), s.size - i = d → ByteArray.toList.loop s i acc = acc.reverse ++ (L s).drop i := by
  induction d with
  | zero =>
    intro i acc h
    unfold ByteArray.toList.loop
    rw [if_neg (by omega), List.drop_of_length_le (by rw [size_L]; omega), List.append_nil]
  | succ d ih =>
    intro i acc h
    unfold ByteArray.toList.loop
    have hi : i < (L s).length := by rw [size_L]; omega
    rw [if_pos (by omega), ih (i + 1) _ (by omega), List.reverse_cons, List.append_assoc, List.drop_eq_getElem_cons hi]
    have hi' : i < s.data.size := by rw [Array.length_toList] at hi; exact hi
    have e : s.get! i = (L s)[i] := by
      have e2 : s.get! i = s.data[i]! := by cases s; rfl
      rw [e2, getElem!_pos s.data i hi', Array.getElem_toList]
    rw [e]; rfl
theorem toList_L (s : ByteArray) : s.toList = L s := by
  unfold ByteArray.toList; rw [toList_loop s _ 0 [] rfl]; rfl
theorem L_inj {s t : ByteArray} (h : L s = L t) : s = t := by
  apply ByteArray.ext; exact Array.toList_inj.1 h
theorem L_append (s t : ByteArray) : L (s ++ t) = L s ++ L t := by
  unfold L; rw [ByteArray.data_append, Array.toList_append]
theorem L_extract (s : ByteArray) (i j : Nat) : L (s.extract i j) = ((L s).drop i).take (j - i) := by
  unfold L; rw [ByteArray.data_extract, Array.toList_extract, List.extract_eq_take_drop]
theorem L_lit (l : List UInt8) : L (⟨l.toArray⟩ : ByteArray) = l := rfl
theorem index_neg (l : List UInt8) (c : UInt8) : (Lib.indexByte l c < 0) ↔ c ∉ l := by
  induction l with
  | nil => simp [Lib.indexByte]
  | cons b l ih =>
    have hg := Lib.indexByte_ge l c
    unfold Lib.indexByte
    by_cases hb : b = c
    · subst hb; simp
    · have hb' : (b == c) = false := by simpa using hb
      rw [hb']
      simp only [Bool.false_eq_true, if_false, List.mem_cons, not_or]
      constructor
      · intro h
        refine ⟨fun e => hb e.symm, ih.1 ?_⟩
        split at h
        · next e => have := eq_of_beq e; omega
        · omega
      · intro h
        have hi := ih.2 h.2
        rw [if_pos (by rw [beq_iff_eq]; omega)]; omega

/-- may a term be (of its bytes)? -/
def Right (l : List UInt8) : Prop := l ≠ [] ∧ l.length ≤ 12 ∧ (0 : UInt8) ∉ l
instance (l : List UInt8) : Decidable (Right l) := inferInstanceAs (Decidable (_ ∧ _))
/-- a term's key, of its bytes. -/
def key (l : List UInt8) : List UInt8 := if Right l then l ++ [0] else []
/-- does it end with a nought, and is what is ahead of it a term? -/
def IsKey (l : List UInt8) : Prop := l.getLast? = some 0 ∧ Right l.dropLast
instance (l : List UInt8) : Decidable (IsKey l) := inferInstanceAs (Decidable (_ ∧ _))
theorem isKey_mk {t : List UInt8} (h : Right t) : IsKey (t ++ [0]) := by
  refine ⟨by simp, ?_⟩
  rw [List.dropLast_concat]; exact h
theorem last_cut {l : List UInt8} (h : l.getLast? = some 0) : l = l.dropLast ++ [0] := by
  obtain ⟨t, ht⟩ := List.getLast?_eq_some_iff.1 h
  rw [ht, List.dropLast_concat]
theorem isKey_cut {l : List UInt8} (h : IsKey l) : l = l.dropLast ++ [0] := last_cut h.1
theorem dropLast_take (l : List UInt8) : l.dropLast = l.take (l.length - 1) := List.dropLast_eq_take
/-- with how many bytes both begin alike. -/
def comm : List UInt8 → List UInt8 → Nat
  | a :: l, b :: m => if a = b then comm l m + 1 else 0
  | _, _ => 0
theorem comm_le_left (l m : List UInt8) : comm l m ≤ l.length := by
  induction l generalizing m with
  | nil => simp [comm]
  | cons a l ih =>
    cases m with
    | nil => simp [comm]
    | cons b m =>
      have := ih m
      unfold comm; split <;> simp <;> omega
theorem comm_comm (l m : List UInt8) : comm l m = comm m l := by
  induction l generalizing m with
  | nil => cases m <;> simp [comm]
  | cons a l ih =>
    cases m with
    | nil => simp [comm]
    | cons b m =>
      unfold comm
      rw [ih m]
      by_cases h : a = b
      · rw [if_pos h, if_pos h.symm]
      · rw [if_neg h, if_neg (fun e => h e.symm)]
theorem comm_le_right (l m : List UInt8) : comm l m ≤ m.length := by rw [comm_comm]; exact comm_le_left m l
theorem comm_take (l m : List UInt8) : l.take (comm l m) = m.take (comm l m) := by
  induction l generalizing m with
  | nil => simp [comm]
  | cons a l ih =>
    cases m with
    | nil => simp [comm]
    | cons b m =>
      unfold comm
      by_cases h : a = b
      · rw [if_pos h, List.take_succ_cons, List.take_succ_cons, ih m, h]
      · rw [if_neg h]; simp
theorem comm_stop (l m : List UInt8) (h1 : comm l m < l.length) (h2 : comm l m < m.length) : l[comm l m] ≠ m[comm l m] := by
  induction l generalizing m with
  | nil => simp [comm] at h1
  | cons a l ih =>
    cases m with
    | nil => simp [comm] at h2
    | cons b m =>
      by_cases h : a = b
      · have e : comm (a :: l) (b :: m) = comm l m + 1 := by rw [comm, if_pos h]
        rw [e, List.length_cons] at h1 h2
        simp only [e, List.getElem_cons_succ]
        exact ih m (by omega) (by omega)
      · have e : comm (a :: l) (b :: m) = 0 := by rw [comm, if_neg h]
        simp only [e, List.getElem_cons_zero]
        exact h
theorem comm_self (l : List UInt8) : comm l l = l.length := by
  induction l with
  | nil => rfl
  | cons a l ih => rw [comm, if_pos rfl, ih]; rfl
theorem comm_prefix (l m : List UInt8) : comm l (l ++ m) = l.length := by
  induction l with
  | nil => simp [comm]
  | cons a l ih => rw [List.cons_append, comm, if_pos rfl, ih]; rfl
theorem comm_drop (l m : List UInt8) (i : Nat) (h1 : i < l.length) (h2 : i < m.length) : comm (l.drop i) (m.drop i) = if l[i] = m[i] then comm (l.drop (i + 1)) (m.drop (i + 1)) + 1 else 0 := by
  rw [List.drop_eq_getElem_cons h1, List.drop_eq_getElem_cons h2, comm]
theorem comm_end (l m : List UInt8) (i : Nat) (h : l.length ≤ i ∨ m.length ≤ i) : comm (l.drop i) (m.drop i) = 0 := by
  rcases h with h | h
  · rw [List.drop_of_length_le h]; simp [comm]
  · rw [List.drop_of_length_le h, comm_comm]; simp [comm]
theorem key_apart (l m : List UInt8) (hl : (0 : UInt8) ∉ l) (hm : (0 : UInt8) ∉ m) (h : l ≠ m) : comm (l ++ [0]) (m ++ [0]) ≤ l.length ∧ comm (l ++ [0]) (m ++ [0]) ≤ m.length := by
  induction l generalizing m with
  | nil =>
    cases m with
    | nil => exact absurd rfl h
    | cons b m =>
      have hb : (0 : UInt8) ≠ b := fun e => hm (by rw [e]; exact List.mem_cons_self)
      simp [comm, hb]
  | cons a l ih =>
    have hl' : (0 : UInt8) ∉ l := fun h => hl (List.mem_cons_of_mem _ h)
    cases m with
    | nil =>
      have ha : a ≠ 0 := fun e => hl (by rw [← e]; exact List.mem_cons_self)
      simp [comm, ha]
    | cons b m =>
      have hm' : (0 : UInt8) ∉ m := fun h => hm (List.mem_cons_of_mem _ h)
      rw [List.cons_append, List.cons_append, comm]
      by_cases e : a = b
      · have := ih m hl' hm' (fun z => h (by rw [e, z]))
        rw [if_pos e]; simp only [List.length_cons]; omega
      · rw [if_neg e]; simp
theorem less_snoc (l : List UInt8) (x : UInt8) : Op.bytesLess l (l ++ [x]) = true := by
  induction l with
  | nil => rfl
  | cons a l ih => rw [List.cons_append, Op.bytesLess, ih]; simp
theorem less_irrefl (l : List UInt8) : Op.bytesLess l l = false := by
  induction l with
  | nil => rfl
  | cons a l ih => rw [Op.bytesLess, ih]; simp
theorem less_total (l m : List UInt8) : (Op.bytesLess l m || l == m) = !(Op.bytesLess m l) := by
  induction l generalizing m with
  | nil => cases m <;> simp [Op.bytesLess]
  | cons a l ih =>
    cases m with
    | nil => simp [Op.bytesLess]
    | cons b m =>
      have h := ih m
      rw [Op.bytesLess, Op.bytesLess]
      by_cases e : a = b
      · subst e
        have : ¬ a < a := UInt8.lt_irrefl _
        simp only [this, decide_false, Bool.false_or, beq_self_eq_true, Bool.true_and, List.cons_beq_cons]
        exact h
      · have e2 : ¬ b = a := fun z => e z.symm
        have e3 : (a == b) = false := by simpa using e
        have e4 : (b == a) = false := by simpa using e2
        simp only [e3, e4, Bool.false_and, Bool.or_false, List.cons_beq_cons]
        by_cases g : a < b
        · have g2 : ¬ b < a := fun z => UInt8.lt_irrefl _ (UInt8.lt_trans g z)
          simp [g, g2]
        · have g2 : b < a := by
            rcases UInt8.lt_or_eq_of_le (UInt8.not_lt.1 g) with z | z
            · exact z
            · exact absurd z e2
          simp [g, g2]
/-- between a text and Next of it nothing stands. -/
theorem less_next (l m : List UInt8) (h : Op.bytesLess l m = true) : Op.bytesLess m (l ++ [0]) = false := by
  induction l generalizing m with
  | nil =>
    cases m with
    | nil => simp [Op.bytesLess] at h
    | cons b m =>
      have hb : ¬ b < 0 := by simp
      cases m <;> simp [Op.bytesLess]
  | cons a l ih =>
    cases m with
    | nil => simp [Op.bytesLess] at h
    | cons b m =>
      rw [Op.bytesLess] at h
      rw [List.cons_append, Op.bytesLess]
      simp only [Bool.or_eq_true, Bool.and_eq_true, decide_eq_true_eq, beq_iff_eq] at h
      rw [Bool.eq_false_iff]
      intro h2
      simp only [Bool.or_eq_true, Bool.and_eq_true, decide_eq_true_eq, beq_iff_eq] at h2
      rcases h with h | ⟨h, h3⟩
      · rcases h2 with h2 | ⟨h2, _⟩
        · exact absurd (UInt8.lt_trans h h2) (UInt8.lt_irrefl _)
        · rw [h2] at h; exact absurd h (UInt8.lt_irrefl _)
      · rcases h2 with h2 | ⟨_, h2⟩
        · rw [h] at h2; exact absurd h2 (UInt8.lt_irrefl _)
        · rw [ih m h3] at h2; cases h2
/-- keys stand as their texts, where no text has a nought. -/
theorem less_key (l m : List UInt8) (hl : (0 : UInt8) ∉ l) (hm : (0 : UInt8) ∉ m) : Op.bytesLess (l ++ [0]) (m ++ [0]) = Op.bytesLess l m := by
  induction l generalizing m with
  | nil =>
    cases m with
    | nil => rfl
    | cons b m =>
      have hb : (0 : UInt8) ≠ b := fun e => hm (by rw [e]; exact List.mem_cons_self)
      have hlt : (0 : UInt8) < b := by
        rcases UInt8.lt_or_eq_of_le (UInt8.zero_le : (0 : UInt8) ≤ b) with h | h
        · exact h
        · exact absurd h hb
      simp [Op.bytesLess, hlt]
  | cons a l ih =>
    have hl' : (0 : UInt8) ∉ l := fun h => hl (List.mem_cons_of_mem _ h)
    cases m with
    | nil =>
      simp [Op.bytesLess]
    | cons b m =>
      have hm' : (0 : UInt8) ∉ m := fun h => hm (List.mem_cons_of_mem _ h)
      rw [List.cons_append, List.cons_append, Op.bytesLess, Op.bytesLess, ih m hl' hm']
end Go.Tx
