import Derived.Test.YtdjjmnkopoldhaaDoorPla
import Derived.WalkKit
import Derived.ProofKit
import Derived.Below
import Derived.WalkLawsBesides
import Derived.Deep.QuietTactic
import Derived.BigQuiet
import Derived.StillTailTactics
import Derived.Deep.AppendLies
import Derived.Deep.RegionHeld3
import Derived.KernelRfl
import Derived.BigRegion
import Derived.WalkSpells
import Derived.Deep.Slices
import Derived.Deep.Fields
import Derived.ChangeSame
import Derived.Deep.RegionLaw
import Derived.Deep.DrawnRows
namespace Go.Proofs.YtdjjmnkopoldhaaDoor.Ep
open Go Go.RowKit Go.Proofs.YtdjjmnkopoldhaaDoorW.PrintWords Go.Proofs.YtdjjmnkopoldhaaDoorW.PrintLast Go.Proofs.YtdjjmnkopoldhaaDoorW.PrintMore Go.Proofs.YtdjjmnkopoldhaaDoor.PBase Go.Tx
set_option linter.unusedVariables false
set_option linter.unusedSimpArgs false
theorem sk_cons (a : S23) (r : List S23) (t : ByteArray) : sk (a :: r) t = if Op.bytesLess (L a.f0) (L t) = true then sk r t + 1 else 0 := by
  unfold sk
  rw [List.takeWhile_cons]
  split <;> rfl
theorem sk_less (l : List S23) (hs : l.Pairwise lt8) (t : ByteArray) (i : Nat) (hi : i < l.length) : Op.bytesLess (L (l.getD i z23).f0) (L t) = decide (i < sk l t) := by
  induction l generalizing i with
  | nil => exact absurd hi (by simp)
  | cons a r ih =>
    rw [List.pairwise_cons] at hs
    rw [sk_cons]
    by_cases h : Op.bytesLess (L a.f0) (L t) = true
    · rw [if_pos h]
      cases i with
      | zero => rw [List.getD_cons_zero, h]; simp
      | succ i =>
        rw [List.getD_cons_succ, ih hs.2 i (by simpa using hi)]
        simp
    · rw [if_neg h]
      have hd : decide (i < 0) = false := by simp
      rw [hd]
      cases i with
      | zero => rw [List.getD_cons_zero]; exact Bool.eq_false_iff.2 h
      | succ i =>
        rw [List.getD_cons_succ, Bool.eq_false_iff]
        intro h2
        have hlt : i < r.length := by simpa using hi
        have hm : r.getD i z23 ∈ r := by rw [List.getD_eq_getElem?_getD, List.getElem?_eq_getElem hlt]; exact List.getElem_mem hlt
        exact h (less_trans (hs.1 _ hm) h2)
theorem sk_empty (l : List S23) : sk l ⟨#[]⟩ = 0 := by
  cases l with
  | nil => rfl
  | cons a r =>
    rw [sk_cons, if_neg]
    have : L (⟨#[]⟩ : ByteArray) = [] := rfl
    rw [this]
    cases L a.f0 <;> simp [Op.bytesLess]
theorem not_less_ge {a b : ByteArray} (h : ¬ Op.bytesLess (L a) (L b) = true) (hne : a ≠ b) : Op.bytesLess (L b) (L a) = true := by
  have := less_total (L a) (L b)
  rw [Bool.eq_false_iff.2 h, beq_eq_false_iff_ne.2 (fun e => hne (L_inj e))] at this
  simpa using this.symm
/-- where a term stands in a rising list. -/
theorem parts8 (l : List S23) (hs : l.Pairwise lt8) (t : ByteArray) : (∀ y ∈ l.take (sk l t), Op.bytesLess (L y.f0) (L t) = true) ∧ (∀ y ∈ l.drop (sk l t), ¬ Op.bytesLess (L y.f0) (L t) = true) := by
  induction l with
  | nil => exact ⟨fun y h => by simp at h, fun y h => by simp at h⟩
  | cons a r ih =>
    rw [List.pairwise_cons] at hs
    rw [sk_cons]
    by_cases h : Op.bytesLess (L a.f0) (L t) = true
    · rw [if_pos h, List.take_succ_cons, List.drop_succ_cons]
      obtain ⟨h1, h2⟩ := ih hs.2
      refine ⟨fun y hy => ?_, h2⟩
      rcases List.mem_cons.1 hy with rfl | hy
      · exact h
      · exact h1 y hy
    · rw [if_neg h]
      refine ⟨fun y hy => by simp at hy, fun y hy => ?_⟩
      rw [List.drop_zero] at hy
      rcases List.mem_cons.1 hy with rfl | hy
      · exact h
      · exact fun h2 => h (less_trans (hs.1 _ hy) h2)
theorem sk_hit (l : List S23) (hs : l.Pairwise lt8) (x : S23) (hx : x ∈ l) : sk l x.f0 < l.length ∧ l.getD (sk l x.f0) z23 = x := by
  obtain ⟨j, hj, rfl⟩ := List.mem_iff_getElem.1 hx
  have e1 : l.getD j z23 = l[j] := by rw [List.getD_eq_getElem?_getD, List.getElem?_eq_getElem hj]; rfl
  have h1 := sk_less l hs l[j].f0 j hj
  rw [e1, less_irrefl] at h1
  have h2 : ¬ j < sk l l[j].f0 := of_decide_eq_false h1.symm
  rcases Nat.lt_or_ge (sk l l[j].f0) j with h3 | h3
  · exfalso
    have h4 := sk_less l hs l[j].f0 (sk l l[j].f0) (by omega)
    rw [decide_eq_false (Nat.lt_irrefl _)] at h4
    have h5 : lt8 l[sk l l[j].f0] l[j] := List.pairwise_iff_getElem.1 hs _ _ (by omega) hj h3
    have e2 : l.getD (sk l l[j].f0) z23 = l[sk l l[j].f0] := by rw [List.getD_eq_getElem?_getD, List.getElem?_eq_getElem (by omega)]; rfl
    rw [e2] at h4
    unfold lt8 at h5
    rw [h5] at h4
    cases h4
  · have h4 : sk l l[j].f0 = j := by omega
    rw [h4]; exact ⟨hj, e1⟩
theorem getD_mem {l : List S23} {i : Nat} (h : i < l.length) : l.getD i z23 ∈ l := by
  rw [List.getD_eq_getElem?_getD, List.getElem?_eq_getElem h]; exact List.getElem_mem h
theorem hit_split {l : List S23} {i : Nat} (h : i < l.length) : l = l.take i ++ l.getD i z23 :: l.drop (i + 1) := by
  have e : l.getD i z23 = l[i] := by rw [List.getD_eq_getElem?_getD, List.getElem?_eq_getElem h]; rfl
  rw [e, ← List.drop_eq_getElem_cons h, List.take_append_drop]
theorem set_split {l : List S23} {i : Nat} (e : S23) (h : i < l.length) : l.set i e = l.take i ++ e :: l.drop (i + 1) := by
  rw [List.set_eq_take_append_cons_drop, if_pos h]
theorem dropL_hit (l : List S23) (hs : l.Pairwise lt8) (x : S23) (hx : x ∈ l) : dropL l x.f0 = (l.take (sk l x.f0) ++ l.drop (sk l x.f0 + 1), x.f1, true) := by
  obtain ⟨h1, h2⟩ := sk_hit l hs x hx
  unfold dropL
  rw [h2, if_pos ⟨h1, rfl⟩]
theorem dropL_miss (l : List S23) (t : ByteArray) (h : ∀ x ∈ l, x.f0 ≠ t) : dropL l t = (l, 0, false) := by
  unfold dropL
  rw [if_neg (fun h2 => h _ (getD_mem h2.1) h2.2)]
theorem putL_hit (l : List S23) (hs : l.Pairwise lt8) (x e : S23) (hx : x ∈ l) (he : x.f0 = e.f0) : putL l e = (l.set (sk l e.f0) e, x.f1, true) := by
  obtain ⟨h1, h2⟩ := sk_hit l hs x hx
  unfold putL
  rw [← he, h2, if_pos ⟨h1, rfl⟩]
theorem putL_miss (l : List S23) (e : S23) (h : ∀ x ∈ l, x.f0 ≠ e.f0) : putL l e = (l.take (sk l e.f0) ++ e :: l.drop (sk l e.f0), 0, false) := by
  unfold putL
  rw [if_neg (fun h2 => h _ (getD_mem h2.1) h2.2)]
theorem lt8_ne {a b : S23} (h : lt8 a b) : a.f0 ≠ b.f0 := by
  intro e
  unfold lt8 at h
  rw [e, less_irrefl] at h
  cases h
theorem dropL_sorted (l : List S23) (hs : l.Pairwise lt8) (t : ByteArray) : (dropL l t).1.Pairwise lt8 ∧ ∀ y, y ∈ (dropL l t).1 ↔ y ∈ l ∧ y.f0 ≠ t := by
  by_cases h : ∃ x ∈ l, x.f0 = t
  · obtain ⟨x, hx, rfl⟩ := h
    rw [dropL_hit l hs x hx]
    obtain ⟨h1, h2⟩ := sk_hit l hs x hx
    have hl := hit_split h1
    rw [h2] at hl
    generalize l.take (sk l x.f0) = A at hl ⊢
    generalize l.drop (sk l x.f0 + 1) = B at hl ⊢
    rw [hl] at hs
    obtain ⟨p1, p2, p3⟩ := List.pairwise_append.1 hs
    rw [List.pairwise_cons] at p2
    refine ⟨List.pairwise_append.2 ⟨p1, p2.2, fun a ha b hb => p3 a ha b (List.mem_cons_of_mem _ hb)⟩, fun y => ?_⟩
    rw [hl, List.mem_append, List.mem_append, List.mem_cons]
    constructor
    · rintro (hy | hy)
      · exact ⟨Or.inl hy, lt8_ne (p3 y hy x List.mem_cons_self)⟩
      · exact ⟨Or.inr (Or.inr hy), fun e => lt8_ne (p2.1 y hy) e.symm⟩
    · rintro ⟨hy | rfl | hy, hne⟩
      · exact Or.inl hy
      · exact absurd rfl hne
      · exact Or.inr hy
  · have h' : ∀ x ∈ l, x.f0 ≠ t := fun x hx e => h ⟨x, hx, e⟩
    rw [dropL_miss l t h']
    exact ⟨hs, fun y => ⟨fun hy => ⟨hy, h' y hy⟩, fun hy => hy.1⟩⟩
theorem putL_sorted (l : List S23) (hs : l.Pairwise lt8) (e : S23) : (putL l e).1.Pairwise lt8 ∧ ∀ y, y ∈ (putL l e).1 ↔ y = e ∨ (y ∈ l ∧ y.f0 ≠ e.f0) := by
  by_cases h : ∃ x ∈ l, x.f0 = e.f0
  · obtain ⟨x, hx, he⟩ := h
    rw [putL_hit l hs x e hx he]
    obtain ⟨h1, h2⟩ := sk_hit l hs x hx
    rw [he] at h1 h2
    have hl := hit_split h1
    rw [h2] at hl
    show (l.set (sk l e.f0) e).Pairwise lt8 ∧ ∀ y, y ∈ l.set (sk l e.f0) e ↔ _
    rw [set_split e h1]
    generalize l.take (sk l e.f0) = A at hl ⊢
    generalize l.drop (sk l e.f0 + 1) = B at hl ⊢
    rw [hl] at hs
    obtain ⟨p1, p2, p3⟩ := List.pairwise_append.1 hs
    rw [List.pairwise_cons] at p2
    have q1 : ∀ a ∈ A, lt8 a e := fun a ha => by have := p3 a ha x List.mem_cons_self; unfold lt8 at this ⊢; rw [← he]; exact this
    have q2 : ∀ b ∈ B, lt8 e b := fun b hb => by have := p2.1 b hb; unfold lt8 at this ⊢; rw [← he]; exact this
    refine ⟨List.pairwise_append.2 ⟨p1, List.pairwise_cons.2 ⟨q2, p2.2⟩, fun a ha b hb => ?_⟩, fun y => ?_⟩
    · rcases List.mem_cons.1 hb with rfl | hb
      · exact q1 a ha
      · exact p3 a ha b (List.mem_cons_of_mem _ hb)
    · rw [hl, List.mem_append, List.mem_append, List.mem_cons, List.mem_cons]
      constructor
      · rintro (hy | rfl | hy)
        · exact Or.inr ⟨Or.inl hy, lt8_ne (q1 y hy)⟩
        · exact Or.inl rfl
        · exact Or.inr ⟨Or.inr (Or.inr hy), fun h => lt8_ne (q2 y hy) h.symm⟩
      · rintro (rfl | ⟨hy | rfl | hy, hne⟩)
        · exact Or.inr (Or.inl rfl)
        · exact Or.inl hy
        · exact absurd he hne
        · exact Or.inr (Or.inr hy)
  · have h' : ∀ x ∈ l, x.f0 ≠ e.f0 := fun x hx e' => h ⟨x, hx, e'⟩
    rw [putL_miss l e h']
    obtain ⟨p1, p2⟩ := parts8 l hs e.f0
    have hl : l = l.take (sk l e.f0) ++ l.drop (sk l e.f0) := (List.take_append_drop _ _).symm
    show (l.take (sk l e.f0) ++ e :: l.drop (sk l e.f0)).Pairwise lt8 ∧ ∀ y, y ∈ l.take (sk l e.f0) ++ e :: l.drop (sk l e.f0) ↔ _
    generalize l.take (sk l e.f0) = A at hl p1 ⊢
    generalize l.drop (sk l e.f0) = B at hl p2 ⊢
    rw [hl] at hs h'
    obtain ⟨r1, r2, r3⟩ := List.pairwise_append.1 hs
    refine ⟨List.pairwise_append.2 ⟨r1, List.pairwise_cons.2 ⟨fun b hb => not_less_ge (p2 b hb) (h' b (List.mem_append_right _ hb)), r2⟩, fun a ha b hb => ?_⟩, fun y => ?_⟩
    · rcases List.mem_cons.1 hb with rfl | hb
      · exact p1 a ha
      · exact r3 a ha b hb
    · rw [hl, List.mem_append, List.mem_append, List.mem_cons]
      constructor
      · rintro (hy | rfl | hy)
        · exact Or.inr ⟨Or.inl hy, h' y (List.mem_append_left _ hy)⟩
        · exact Or.inl rfl
        · exact Or.inr ⟨Or.inr hy, h' y (List.mem_append_right _ hy)⟩
      · rintro (rfl | ⟨hy | hy, _⟩)
        · exact Or.inr (Or.inl rfl)
        · exact Or.inl hy
        · exact Or.inr (Or.inr hy)
/-- two rising lists of the same entries are the same. -/
theorem sorted_ext (l m : List S23) (hl : l.Pairwise lt8) (hm : m.Pairwise lt8) (h : ∀ x, x ∈ l ↔ x ∈ m) : l = m := by
  induction l generalizing m with
  | nil =>
    cases m with
    | nil => rfl
    | cons b s => exact absurd ((h b).2 List.mem_cons_self) (by simp)
  | cons a r ih =>
    cases m with
    | nil => exact absurd ((h a).1 List.mem_cons_self) (by simp)
    | cons b s =>
      rw [List.pairwise_cons] at hl hm
      have hab : a = b := by
        rcases List.mem_cons.1 ((h a).1 List.mem_cons_self) with h1 | h1
        · exact h1
        · rcases List.mem_cons.1 ((h b).2 List.mem_cons_self) with h2 | h2
          · exact h2.symm
          · exact (less_asymm (hm.1 a h1) (hl.1 b h2)).elim
      subst hab
      rw [ih s hl.2 hm.2 fun x => ⟨fun hx => ?_, fun hx => ?_⟩]
      · rcases List.mem_cons.1 ((h x).1 (List.mem_cons_of_mem _ hx)) with rfl | h1
        · exact absurd rfl (lt8_ne (hl.1 x hx))
        · exact h1
      · rcases List.mem_cons.1 ((h x).2 (List.mem_cons_of_mem _ hx)) with rfl | h1
        · exact absurd rfl (lt8_ne (hm.1 x hx))
        · exact h1
theorem putL_len (l : List S23) (e : S23) : (putL l e).1.length ≤ l.length + 1 := by
  unfold putL
  split
  · rw [List.length_set]; omega
  · rw [List.length_append, List.length_cons, List.length_take, List.length_drop]; omega
theorem dropL_len (l : List S23) (t : ByteArray) : (dropL l t).1.length ≤ l.length := by
  unfold dropL
  split
  · rw [List.length_append, List.length_take, List.length_drop]; omega
  · exact Nat.le_refl _
end Go.Proofs.YtdjjmnkopoldhaaDoor.Ep
