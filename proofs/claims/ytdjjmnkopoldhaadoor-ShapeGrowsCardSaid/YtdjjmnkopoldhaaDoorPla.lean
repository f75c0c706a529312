import Derived.Test.YtdjjmnkopoldhaaDoorOps
import Derived.WalkKit
import Derived.ProofKit
import Derived.Below
import Derived.WalkLawsBesides
import Derived.Deep.QuietTactic
import Derived.BigQuiet
import Derived.StillTailTactics
import Derived.Deep.AppendLies
import Derived.Deep.RegionHeld3
import Derived.KernelRfl
import Derived.BigRegion
import Derived.WalkSpells
import Derived.Deep.Slices
import Derived.Deep.Fields
import Derived.ChangeSame
import Derived.Deep.RegionLaw
import Derived.Deep.DrawnRows
namespace Go.Proofs.YtdjjmnkopoldhaaDoor.Ep
open Go Go.RowKit Go.Proofs.YtdjjmnkopoldhaaDoorW.PrintWords Go.Proofs.YtdjjmnkopoldhaaDoorW.PrintLast Go.Proofs.YtdjjmnkopoldhaaDoorW.PrintMore Go.Proofs.YtdjjmnkopoldhaaDoor.PBase Go.Tx
set_option linter.unusedVariables false
set_option linter.unusedSimpArgs false
theorem less_trans {a b c : List UInt8} (h1 : Op.bytesLess a b = true) (h2 : Op.bytesLess b c = true) : Op.bytesLess a c = true := by
  induction a generalizing b c with
  | nil =>
    cases b with
    | nil => simp [Op.bytesLess] at h1
    | cons y b =>
      cases c with
      | nil => simp [Op.bytesLess] at h2
      | cons z c => rfl
  | cons x a ih =>
    cases b with
    | nil => simp [Op.bytesLess] at h1
    | cons y b =>
      cases c with
      | nil => simp [Op.bytesLess] at h2
      | cons z c =>
        rw [Op.bytesLess] at h1 h2 ⊢
        simp only [Bool.or_eq_true, Bool.and_eq_true, decide_eq_true_eq, beq_iff_eq] at h1 h2 ⊢
        rcases h1 with h1 | ⟨rfl, h1⟩
        · rcases h2 with h2 | ⟨rfl, h2⟩
          · exact Or.inl (UInt8.lt_trans h1 h2)
          · exact Or.inl h1
        · rcases h2 with h2 | ⟨rfl, h2⟩
          · exact Or.inl h2
          · exact Or.inr ⟨rfl, ih h1 h2⟩
theorem less_asymm {a b : List UInt8} (h1 : Op.bytesLess a b = true) (h2 : Op.bytesLess b a = true) : False := by
  have := less_trans h1 h2
  rw [less_irrefl] at this
  cases this
/-- what stands between two that begin alike begins so too. -/
theorem sandwich (j : Nat) : ∀ (a b c : List UInt8), a.take j = c.take j → j ≤ a.length → j ≤ c.length → Op.bytesLess a b = true → Op.bytesLess b c = true → b.take j = a.take j ∧ j ≤ b.length := by
  induction j with
  | zero => intro a b c _ _ _ _ _; exact ⟨by simp, Nat.zero_le _⟩
  | succ j ih =>
    intro a b c h ha hc h1 h2
    cases a with
    | nil => simp at ha
    | cons x a =>
      cases c with
      | nil => simp at hc
      | cons z c =>
        rw [List.take_succ_cons, List.take_succ_cons] at h
        injection h with hx ht
        subst hx
        cases b with
        | nil => simp [Op.bytesLess] at h1
        | cons y b =>
          rw [Op.bytesLess] at h1 h2
          simp only [Bool.or_eq_true, Bool.and_eq_true, decide_eq_true_eq, beq_iff_eq] at h1 h2
          rcases h1 with h1 | ⟨rfl, h1⟩
          · rcases h2 with h2 | ⟨rfl, h2⟩
            · exact absurd (UInt8.lt_trans h1 h2) (UInt8.lt_irrefl _)
            · exact absurd h1 (UInt8.lt_irrefl _)
          · rcases h2 with h2 | ⟨_, h2⟩
            · exact absurd h2 (UInt8.lt_irrefl _)
            · simp only [List.length_cons] at ha hc
              obtain ⟨h3, h4⟩ := ih a b c ht (by omega) (by omega) h1 h2
              exact ⟨by rw [List.take_succ_cons, List.take_succ_cons, h3], by simp only [List.length_cons]; omega⟩
def lt8 (a b : S23) : Prop := Op.bytesLess (L a.f0) (L b.f0) = true
instance (a b : S23) : Decidable (lt8 a b) := inferInstanceAs (Decidable (_ = true))
/-- a list that 'inner' may be handed at a place. -/
structure Inv (l : List S23) (i : Nat) : Prop where
  R : ∀ x ∈ l, Right (L x.f0)
  S : l.Pairwise lt8
  Z : ∀ x ∈ l, i < (kb x).size
  P : ∀ x ∈ l, ∀ y ∈ l, (L (kb x)).take i = (L (kb y)).take i
theorem Inv.sub {l m : List S23} {i : Nat} (h : Inv l i) (hs : m.Sublist l) : Inv m i :=
  ⟨fun x hx => h.R x (hs.subset hx), h.S.sublist hs, fun x hx => h.Z x (hs.subset hx), fun x hx y hy => h.P x (hs.subset hx) y (hs.subset hy)⟩
theorem grp_sub (e : S23) (r : List S23) (i : Nat) : (e :: grp e r i).Sublist (e :: r) := (List.takeWhile_sublist _).cons_cons _
theorem rest_sub (e : S23) (r : List S23) (i : Nat) : (r.drop (grp e r i).length).Sublist (e :: r) := (List.drop_sublist _ _).trans (List.sublist_cons_self _ _)
theorem mem_tw {α : Type} (p : α → Bool) (l : List α) (x : α) (h : x ∈ l.takeWhile p) : p x = true := by
  induction l with
  | nil => simp at h
  | cons a l ih =>
    rw [List.takeWhile_cons] at h
    split at h
    · next ha =>
      rcases List.mem_cons.1 h with rfl | h
      · exact ha
      · exact ih h
    · simp at h
theorem grp_byte (e : S23) (r : List S23) (i : Nat) (x : S23) (hx : x ∈ e :: grp e r i) : byteAt x i = byteAt e i := by
  rcases List.mem_cons.1 hx with rfl | hx
  · rfl
  · unfold grp at hx
    have := mem_tw _ _ _ hx
    simpa using this
theorem take_byte (x : S23) (i : Nat) (h : i < (kb x).size) : (L (kb x)).take (i + 1) = (L (kb x)).take i ++ [byteAt x i] := by
  have hl : i < (L (kb x)).length := by rw [size_L]; exact h
  rw [List.take_succ_eq_append_getElem hl]
  congr 2
  unfold byteAt
  rw [List.getD_eq_getElem?_getD, List.getElem?_eq_getElem hl]; rfl
/-- the group of those that have one byte there, at the place up to which all its keys are alike. -/
theorem Inv.grp {e : S23} {r : List S23} {i : Nat} (h : Inv (e :: r) i) (hg : grp e r i ≠ []) : Inv (e :: grp e r i) (alk (e :: grp e r i) (i + 1)) ∧ i + 1 ≤ alk (e :: grp e r i) (i + 1) := by
  have hs := grp_sub e r i
  obtain ⟨G, hG⟩ : ∃ G, G = e :: Ep.grp e r i := ⟨_, rfl⟩
  have hfst : fst8 (e :: Ep.grp e r i) = e := rfl
  obtain ⟨z, hz⟩ : ∃ z, z = lst8 (e :: Ep.grp e r i) := ⟨_, rfl⟩
  have hzm : z ∈ e :: Ep.grp e r i := by rw [hz]; exact lst8_mem (by simp)
  have hb := grp_byte e r i
  have hI := h.sub hs
  have hT : ∀ x ∈ e :: Ep.grp e r i, (L (kb x)).take (i + 1) = (L (kb e)).take (i + 1) := by
    intro x hx
    rw [take_byte x i (hI.Z x hx), take_byte e i (hI.Z e List.mem_cons_self), hI.P x hx e List.mem_cons_self, hb x hx]
  -- the last one is another one
  have hze : lt8 e z := by
    have hp := hI.S
    rw [List.pairwise_cons] at hp
    refine hp.1 z ?_
    rcases List.mem_cons.1 hzm with h1 | h1
    · exfalso
      have h2 : lst8 (e :: Ep.grp e r i) = (Ep.grp e r i).getD ((Ep.grp e r i).length - 1) z23 := by
        unfold lst8
        cases hc : Ep.grp e r i with
        | nil => exact absurd hc hg
        | cons a b => simp
      have h3 : z ∈ Ep.grp e r i := by
        rw [hz, h2, List.getD_eq_getElem?_getD]
        have h4 : (Ep.grp e r i).length - 1 < (Ep.grp e r i).length := by have := List.length_pos_iff.2 hg; omega
        rw [List.getElem?_eq_getElem h4]
        exact List.getElem_mem _
      have h5 : lt8 e z := hp.1 z h3
      rw [h1] at h5
      unfold lt8 at h5
      rw [less_irrefl] at h5
      cases h5
    · exact h1
  obtain ⟨j, hj⟩ : ∃ j, j = alk (e :: Ep.grp e r i) (i + 1) := ⟨_, rfl⟩
  have hij : i + 1 ≤ j := by rw [hj]; exact le_alk _ _
  have hja : j = i + 1 + comm ((L (kb e)).drop (i + 1)) ((L (kb z)).drop (i + 1)) := by rw [hj, hz]; rfl
  have hle := comm_le_left ((L (kb e)).drop (i + 1)) ((L (kb z)).drop (i + 1))
  have hlz := comm_le_right ((L (kb e)).drop (i + 1)) ((L (kb z)).drop (i + 1))
  have hs1 := hI.Z e List.mem_cons_self
  have hs2 := hI.Z z hzm
  rw [List.length_drop, size_L] at hle hlz
  have hez : (L (kb e)).take j = (L (kb z)).take j := by
    have q : ∀ (s : List UInt8) (c : Nat), s.take (i + 1 + c) = s.take (i + 1) ++ (s.drop (i + 1)).take c := fun s c => List.take_add
    rw [hja, q, q, hT z hzm, comm_take]
  have hje : j ≤ (L (kb e)).length := by rw [size_L]; omega
  have hjz : j ≤ (L (kb z)).length := by rw [size_L]; omega
  have hRe := hI.R e List.mem_cons_self
  have hRz := hI.R z hzm
  -- j is less than the length of the first one's key
  have hje2 : j ≤ (L e.f0).length := by
    rcases Nat.lt_or_ge (L e.f0).length j with h1 | h1
    · exfalso
      have h2 : j = (L (kb e)).length := by rw [L_kb, List.length_append] at *; simp only [List.length_cons, List.length_nil] at *; omega
      rw [h2, List.take_length] at hez
      have h0 : (0 : UInt8) ∈ (L (kb z)).take (L (kb e)).length := by rw [← hez, L_kb]; simp
      have h3 : (L (kb e)).length ≤ (L z.f0).length := by
        rcases Nat.lt_or_ge (L z.f0).length (L (kb e)).length with h4 | h4
        · exfalso
          have h5 : (L (kb z)).length ≤ (L (kb e)).length := by rw [L_kb z, List.length_append]; simp only [List.length_cons, List.length_nil]; omega
          rw [List.take_of_length_le h5] at hez
          rw [L_kb, L_kb] at hez
          have h6 := (List.append_inj' hez rfl).1
          unfold lt8 at hze
          rw [h6, less_irrefl] at hze
          cases hze
        · exact h4
      rw [L_kb z, List.take_append_of_le_length h3] at h0
      exact hRz.2.2 (List.mem_of_mem_take h0)
    · exact h1
  have hA : ∀ x ∈ e :: Ep.grp e r i, (L (kb x)).take j = (L (kb e)).take j ∧ j ≤ (L (kb x)).length := by
    intro x hx
    rcases List.mem_cons.1 hx with rfl | hx'
    · exact ⟨rfl, hje⟩
    · have hp := hI.S
      rw [List.pairwise_cons] at hp
      have h1 : lt8 e x := hp.1 x hx'
      by_cases hxz : L x.f0 = L z.f0
      · have : L (kb x) = L (kb z) := by rw [L_kb, L_kb, hxz]
        rw [this]; exact ⟨hez.symm, hjz⟩
      · -- x stands ahead of the last
        have h2 : lt8 x z := by
          obtain ⟨p, hp1, hp2⟩ := List.mem_iff_getElem.1 hx
          have hzl : (e :: Ep.grp e r i)[(e :: Ep.grp e r i).length - 1]'(by simp) = z := by
            rw [hz]; unfold lst8
            rw [List.getD_eq_getElem?_getD, List.getElem?_eq_getElem (by simp)]; rfl
          rcases Nat.lt_or_ge p ((e :: Ep.grp e r i).length - 1) with h3 | h3
          · have := List.pairwise_iff_getElem.1 hI.S p ((e :: Ep.grp e r i).length - 1) hp1 (by simp) h3
            rw [hp2, hzl] at this
            exact this
          · exfalso
            have : p = (e :: Ep.grp e r i).length - 1 := by omega
            subst this
            rw [hzl] at hp2
            exact hxz (by rw [hp2])
        have k1 : Op.bytesLess (L (kb e)) (L (kb x)) = true := by rw [L_kb, L_kb, less_key _ _ hRe.2.2 (hI.R x hx).2.2]; exact h1
        have k2 : Op.bytesLess (L (kb x)) (L (kb z)) = true := by rw [L_kb, L_kb, less_key _ _ (hI.R x hx).2.2 hRz.2.2]; exact h2
        exact sandwich j _ _ _ hez hje hjz k1 k2
  refine ⟨?_, by rw [← hj]; exact hij⟩
  rw [← hj]
  refine ⟨hI.R, hI.S, fun x hx => ?_, fun x hx y hy => by rw [(hA x hx).1, (hA y hy).1]⟩
  obtain ⟨h1, h2⟩ := hA x hx
  rw [size_L] at h2
  rcases Nat.lt_or_ge j (kb x).size with h3 | h3
  · exact h3
  · exfalso
    have h4 : j = (L (kb x)).length := by rw [size_L]; omega
    rw [h4, List.take_length, ← h4, L_kb e, List.take_append_of_le_length hje2] at h1
    have h0 : (0 : UInt8) ∈ L (kb x) := by rw [L_kb]; simp
    rw [h1] at h0
    exact hRe.2.2 (List.mem_of_mem_take h0)
theorem opn_len (l : List S23) (a b : Nat) (h : b - a < 100) : (opnT l a b).length ≤ 4 + (b - a) := by
  have h1 := dig_len (b - a) h
  have h2 : (preT l a b).length ≤ b - a := by
    unfold preT; split
    · exact Nat.zero_le _
    · rw [List.length_take]; exact Nat.min_le_left _ _
  unfold opnT
  simp only [List.length_cons, List.length_append]
  omega
theorem leaf_len (e : S23) (h : Right (L e.f0)) : (leafT e).length ≤ 17 := by
  obtain ⟨h1, h2⟩ := right_size h
  have h3 := dig_len e.f0.size (by omega)
  unfold leafT
  simp only [List.length_cons, List.length_append, List.length_nil, size_L]
  omega
theorem Inv.lt13 {e : S23} {r : List S23} {i : Nat} (h : Inv (e :: r) i) : i ≤ 12 := by
  have h1 := h.Z e List.mem_cons_self
  have h2 := right_size (h.R e List.mem_cons_self)
  rw [kb_size] at h1
  omega
theorem bod_total (k : Nat) : ∀ (l : List S23) (i : Nat), Inv l i → i ≤ 13 → (l.length + 1) * (14 - i) ≤ k → ∃ o, bod k l i = some o ∧ o.length ≤ 20 * (l.length * (14 - i)) := by
  induction k with
  | zero =>
    intro l i _ hi hk
    exfalso
    have h1 : 1 ≤ 14 - i := by omega
    have := Nat.mul_le_mul (Nat.le_add_left 1 l.length) h1
    omega
  | succ k ih =>
    intro l i hI hi hk
    cases l with
    | nil => exact ⟨[], rfl, by simp⟩
    | cons e r =>
      have hi2 := hI.lt13
      obtain ⟨m, hm⟩ : ∃ m, m = 13 - i := ⟨_, rfl⟩
      have hm1 : 14 - i = m + 1 := by omega
      have hg := grp_le e r i
      have hrl : (r.drop (grp e r i).length).length + (grp e r i).length = r.length := by rw [List.length_drop]; omega
      rw [hm1, List.length_cons] at hk
      have hk' : (r.length + 1) * (m + 1) + (m + 1) ≤ k + 1 := by
        have : (r.length + 1 + 1) * (m + 1) = (r.length + 1) * (m + 1) + (m + 1) := Nat.succ_mul _ _
        omega
      obtain ⟨o2, h1, h2⟩ := ih (r.drop (grp e r i).length) i (hI.sub (rest_sub e r i)) hi (by
        rw [hm1]
        have : ((r.drop (grp e r i).length).length + 1) * (m + 1) ≤ (r.length + 1) * (m + 1) := Nat.mul_le_mul_right _ (by omega)
        omega)
      rw [hm1] at h2 ⊢
      have hsum : (e :: r).length * (m + 1) = ((grp e r i).length + 1) * (m + 1) + (r.drop (grp e r i).length).length * (m + 1) := by
        rw [← Nat.add_mul, List.length_cons]; congr 1; omega
      rw [hsum]
      have hone : m + 1 ≤ ((grp e r i).length + 1) * (m + 1) := by
        have := Nat.mul_le_mul_right (m + 1) (Nat.le_add_left 1 (grp e r i).length)
        omega
      simp only [bod]
      rw [if_pos hI.Z, h1]
      by_cases hgn : grp e r i = []
      · rw [if_pos hgn]
        refine ⟨_, rfl, ?_⟩
        have := leaf_len e (hI.R e List.mem_cons_self)
        simp only [List.length_cons, List.length_append]
        omega
      · rw [if_neg hgn]
        obtain ⟨hJ, hj⟩ := hI.grp hgn
        have hj2 := hJ.lt13
        obtain ⟨o3, h3, h4⟩ := ih (e :: grp e r i) (alk (e :: grp e r i) (i + 1)) hJ (by omega) (by
          have q1 : ((e :: grp e r i).length + 1) * (14 - alk (e :: grp e r i) (i + 1)) ≤ (r.length + 1 + 1) * m := Nat.mul_le_mul (by rw [List.length_cons]; omega) (by omega)
          have q2 : (r.length + 1 + 1) * m + (r.length + 1 + 1) = (r.length + 1 + 1) * (m + 1) := rfl
          omega)
        rw [h3]
        refine ⟨_, rfl, ?_⟩
        have q1 : (e :: grp e r i).length * (14 - alk (e :: grp e r i) (i + 1)) ≤ ((grp e r i).length + 1) * m := Nat.mul_le_mul (by rw [List.length_cons]; exact Nat.le_refl _) (by omega)
        have q2 : ((grp e r i).length + 1) * m + ((grp e r i).length + 1) = ((grp e r i).length + 1) * (m + 1) := rfl
        have q3 : 1 ≤ (grp e r i).length := List.length_pos_iff.2 hgn
        have q4 := opn_len (e :: grp e r i) (i + 1) (alk (e :: grp e r i) (i + 1)) (by omega)
        simp only [List.length_cons, List.length_append, List.length_nil]
        omega
/-- may an entry be? -/
def okE (e : S23) : Bool := decide (Right (L e.f0)) && (decide (0 ≤ e.f1) && decide (e.f1 ≤ 1099511627776))
/-- is the entry at a place right there? -/
def rgt (l : List S23) (j : Nat) : Bool := okE (l.getD j z23) && (decide (j = 0) || Op.bytesLess (L (l.getD (j - 1) z23).f0) (L (l.getD j z23).f0))
/-- is a list right? -/
def RL (l : List S23) : Bool := (List.range' 0 l.length).all (rgt l)
theorem rangeAll_succ (p : Nat → Bool) (i d : Nat) : (List.range' i (d + 1)).all p = (p i && (List.range' (i + 1) d).all p) := by
  rw [List.range'_succ, List.all_cons]
theorem shRight_l (k : Nat) (l : List S23) (hl : l.length ≤ 1000) (d : Nat) : ∀ i : Nat, l.length - i = d → d < k → i ≤ l.length →
    shape_Right.l0 k l l (l.length : Int) i = some ((List.range' i (l.length - i)).all (rgt l)) := by
  induction d generalizing k with
  | zero =>
    intro i hi hk hle
    obtain ⟨k, rfl⟩ : ∃ m, k = m + 1 := ⟨k - 1, by omega⟩
    simp only [shape_Right.l0]
    rw [if_neg (by omega), show l.length - i = 0 by omega]; rfl
  | succ d ih =>
    intro i hi hk hle
    obtain ⟨k, rfl⟩ : ∃ m, k = m + 1 := ⟨k - 1, by omega⟩
    simp only [shape_Right.l0]
    rw [if_pos (by omega), if_pos (by omega), if_pos (by omega), rd8, Right_f, Option.bind_some, hi, rangeAll_succ]
    have hn : shape_Right.l0 k l l (l.length : Int) (wrap64 ((i : Int) + 1)) = some ((List.range' (i + 1) d).all (rgt l)) := by
      rw [show wrap64 ((i : Int) + 1) = ((i + 1 : Nat) : Int) from by unfold wrap64; omega, ih k (i + 1) (by omega) (by omega) (by omega), show l.length - (i + 1) = d by omega]
    unfold rgt at hn ⊢
    unfold okE at hn ⊢
    by_cases h1 : Right (L (l.getD i z23).f0)
    · rw [if_pos (by simpa using h1)]
      by_cases h2 : (l.getD i z23).f1 < 0
      · rw [if_pos h2, decide_eq_false (show ¬ (0 ≤ (l.getD i z23).f1) by omega)]; simp
      · rw [if_neg h2]
        by_cases h3 : (l.getD i z23).f1 > 1099511627776
        · rw [if_pos h3, decide_eq_false (show ¬ ((l.getD i z23).f1 ≤ 1099511627776) by omega)]; simp
        · rw [if_neg h3, decide_eq_true h1, decide_eq_true (show 0 ≤ (l.getD i z23).f1 by omega), decide_eq_true (show (l.getD i z23).f1 ≤ 1099511627776 by omega)]
          by_cases h4 : i = 0
          · rw [if_neg (by omega), hn, decide_eq_true h4]; rfl
          · have e1 : wrap64 ((i : Int) - 1) = ((i - 1 : Nat) : Int) := by unfold wrap64; omega
            rw [if_pos (by omega), e1, if_pos (by omega), if_pos (by omega), rd8, toList_L, toList_L, decide_eq_false h4]
            by_cases h5 : Op.bytesLess (L (l.getD (i - 1) z23).f0) (L (l.getD i z23).f0) = true
            · rw [if_pos h5, hn, h5]; rfl
            · rw [if_neg h5, Bool.eq_false_iff.2 h5]; rfl
    · rw [if_neg (by simpa using h1), decide_eq_false h1]; rfl
theorem shRight_f (k : Nat) (l : List S23) (hl : l.length ≤ 1000) (hk : 1000 < k) : shape_Right.f k l = some (RL l) := by
  unfold shape_Right.f RL
  have := shRight_l k l hl l.length 0 (by omega) (by omega) (by omega)
  simpa using this
theorem rgt_size (l : List S23) (i : Nat) : (l.getD i z23).f0.size ≤ 1000 ∨ Right (L (l.getD i z23).f0) = False := by
  by_cases h : Right (L (l.getD i z23).f0)
  · exact Or.inl (by have := right_size h; omega)
  · exact Or.inr (eq_false h)
theorem RL_iff (l : List S23) : RL l = true ↔ (∀ x ∈ l, okE x = true) ∧ l.Pairwise lt8 := by
  unfold RL
  rw [List.all_eq_true]
  constructor
  · intro h
    have h1 : ∀ i, i < l.length → rgt l i = true := fun i hi => h i (by rw [List.mem_range']; exact ⟨i, hi, by omega⟩)
    have hs : ∀ j, ∀ i, i < j → j < l.length → Op.bytesLess (L (l.getD i z23).f0) (L (l.getD j z23).f0) = true := by
      intro j
      induction j with
      | zero => intro i hi; omega
      | succ j ih =>
        intro i hi hj
        have h2 := h1 (j + 1) hj
        unfold rgt at h2
        rw [Bool.and_eq_true, decide_eq_false (by omega : ¬ (j + 1 = 0)), Bool.false_or, Nat.add_sub_cancel] at h2
        rcases Nat.lt_or_ge i j with h3 | h3
        · exact less_trans (ih i h3 (by omega)) h2.2
        · rw [show i = j by omega]; exact h2.2
    refine ⟨fun x hx => ?_, List.pairwise_iff_getElem.2 fun i j hi hj hij => ?_⟩
    · obtain ⟨i, hi, rfl⟩ := List.mem_iff_getElem.1 hx
      have h2 := h1 i hi
      unfold rgt at h2
      rw [Bool.and_eq_true] at h2
      have e : l.getD i z23 = l[i] := by rw [List.getD_eq_getElem?_getD, List.getElem?_eq_getElem hi]; rfl
      rw [← e]; exact h2.1
    · have h2 := hs j i hij hj
      rw [List.getD_eq_getElem?_getD, List.getElem?_eq_getElem hi, List.getD_eq_getElem?_getD, List.getElem?_eq_getElem hj] at h2
      exact h2
  · rintro ⟨h1, h2⟩ i hi
    rw [List.mem_range'] at hi
    obtain ⟨j, hj, rfl⟩ := hi
    have hlt : 0 + 1 * j < l.length := by omega
    obtain ⟨i, hi⟩ : ∃ i, i = 0 + 1 * j := ⟨_, rfl⟩
    rw [← hi] at hlt ⊢
    have e : l.getD i z23 = l[i] := by rw [List.getD_eq_getElem?_getD, List.getElem?_eq_getElem hlt]; rfl
    unfold rgt
    rw [e, h1 _ (List.getElem_mem hlt), Bool.true_and]
    by_cases h3 : i = 0
    · simp [h3]
    · have hlt2 : i - 1 < l.length := by omega
      have e2 : l.getD (i - 1) z23 = l[i - 1] := by rw [List.getD_eq_getElem?_getD, List.getElem?_eq_getElem hlt2]; rfl
      have h4 : lt8 l[i - 1] l[i] := List.pairwise_iff_getElem.1 h2 _ _ hlt2 hlt (by omega)
      rw [e2]
      unfold lt8 at h4
      rw [h4, Bool.or_true]
theorem okE_R {e : S23} (h : okE e = true) : Right (L e.f0) := by
  unfold okE at h
  rw [Bool.and_eq_true] at h
  exact of_decide_eq_true h.1
theorem RL_inv {l : List S23} (h : RL l = true) : Inv l 0 := by
  obtain ⟨h1, h2⟩ := (RL_iff l).1 h
  exact ⟨fun x hx => okE_R (h1 x hx), h2, fun x _ => by rw [kb_size]; omega, fun x _ y _ => by simp⟩
/-- the text of a right list's tree behind the root's opening. -/
def bodT (l : List S23) : List UInt8 := (bod ((l.length + 1) * 14) l 0).getD []
theorem bodT_eq {l : List S23} (h : RL l = true) : bod ((l.length + 1) * 14) l 0 = some (bodT l) ∧ (bodT l).length ≤ 20 * (l.length * 14) := by
  obtain ⟨o, h1, h2⟩ := bod_total ((l.length + 1) * 14) l 0 (RL_inv h) (by omega) (Nat.le_refl _)
  unfold bodT
  rw [h1]
  exact ⟨rfl, h2⟩
/-- shape.Text's answer, of its bytes. -/
def textL (l : List S23) : List UInt8 := if RL l = true then opnT l 0 0 ++ bodT l ++ [41] else []
def textT (l : List S23) : ByteArray := ⟨(textL l).toArray⟩
theorem L_textT (l : List S23) : L (textT l) = textL l := rfl
theorem text_c (A : Option Addr) (c : Nat) (l : List S23) (w : World) (hC : Kd.C k23 w A l.length l) (hc : l.length ≤ c) (hl : l.length ≤ 1000) :
    Calls Tryd.prog 11 #[.slice A l.length c] w fun e w' => e = .returned (.string (textT l)) ∧ Below w.heap.size w w' := by
  refine text_ 2000 A c l w (textT l) hC hc hl (RL l) (shRight_f 2000 l hl (by omega)) ?_ ?_
  · intro h
    unfold textT textL
    rw [if_neg (by rw [h]; decide)]
  · intro h
    obtain ⟨h1, h2⟩ := bodT_eq h
    refine ⟨(RL_inv h).R, _, _, h1, by omega, ?_⟩
    unfold textT textL
    rw [if_pos h]
end Go.Proofs.YtdjjmnkopoldhaaDoor.Ep
