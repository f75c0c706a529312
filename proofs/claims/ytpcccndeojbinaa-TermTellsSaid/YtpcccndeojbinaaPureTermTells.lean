/- tendrillaw6.TermTells returns true for every input; no condition. -/
import Derived.Test.YtpcccndeojbinaaPTermTellsx2
import Derived.Test.YtpcccndeojbinaaTxt
namespace Go.Proofs.Ytpcccndeojbinaa.Pure
open Go.RowKit Go.Tx Go.Proofs.Ytpcccndeojbinaa.PTermTells Go.Proofs.YtpcccndeojbinaaW.PrintWords Go.Proofs.YtpcccndeojbinaaW.PrintLast

theorem bt_L (s : ByteArray) (i : Nat) (h : i < (L s).length) : bt s (i : Int) = ((L s)[i].toNat : Int) := by
  have h2 : i < s.size := by rw [← size_L]; exact h
  unfold bt
  rw [dif_pos (by simpa using h2)]
  rfl
theorem bt_eq (a b : UInt8) : ((a.toNat : Int) = (b.toNat : Int)) ↔ a = b := by
  rw [Int.ofNat_inj]; exact ⟨UInt8.toNat_inj.1, fun h => by rw [h]⟩
theorem nz (c : UInt8) (h : c ≠ 0) : ¬ ((c.toNat : Int) = 0) := by
  intro e
  exact h (UInt8.toNat_inj.1 (show c.toNat = (0 : UInt8).toNat from Int.ofNat_inj.1 e))
theorem Right_f (s : ByteArray) : term_Right.f s = some (decide (Right (L s))) := by
  unfold term_Right.f strings_IndexByte.f
  rw [toList_L]
  by_cases h0 : L s = []
  · rw [if_pos h0, h0]; decide
  rw [if_neg h0]
  by_cases h1 : (s.size : Int) ≤ 12
  · rw [if_pos h1]
    simp only [Option.bind_some]
    congr 1
    rw [decide_eq_decide]
    have e : ((0 : Int).toNat.toUInt8) = 0 := rfl
    rw [e, index_neg]
    have := size_L s
    exact ⟨fun h => ⟨h0, by omega, h⟩, fun h => h.2.2⟩
  · rw [if_neg h1]
    congr 1
    symm; rw [decide_eq_false_iff_not]
    have := size_L s
    exact fun h => by have := h.2.1; omega
theorem Key_f (s : ByteArray) : ∃ r, term_Key.f s = some r ∧ L r = key (L s) := by
  unfold term_Key.f
  rw [Right_f]; simp only [Option.bind_some]
  by_cases h : Right (L s)
  · have := size_L s
    have h2 := h.2.1
    rw [if_pos (by simpa using h), if_pos (by omega)]
    refine ⟨_, rfl, ?_⟩
    rw [L_append, key, if_pos h]
  · rw [if_neg (by simpa using h)]
    exact ⟨_, rfl, by rw [key, if_neg h]⟩
theorem Common_l (k : Nat) (a b : ByteArray) (ha : a.size ≤ 1000) (d : Nat) : ∀ i : Nat, a.size - i = d → d < k → i ≤ a.size →
    term_Common.l0 k a b i = some ((i + comm ((L a).drop i) ((L b).drop i) : Nat) : Int) := by
  induction d generalizing k with
  | zero =>
    intro i hi hk hl
    obtain ⟨k, rfl⟩ : ∃ m, k = m + 1 := ⟨k - 1, by omega⟩
    simp only [term_Common.l0]
    rw [if_neg (by omega), comm_end _ _ _ (Or.inl (by rw [size_L]; omega))]; rfl
  | succ d ih =>
    intro i hi hk hl
    obtain ⟨k, rfl⟩ : ∃ m, k = m + 1 := ⟨k - 1, by omega⟩
    simp only [term_Common.l0]
    have la : i < (L a).length := by rw [size_L]; omega
    rw [if_pos (by omega)]
    by_cases hb : i < b.size
    · have lb : i < (L b).length := by rw [size_L]; omega
      rw [if_pos (by omega), if_pos (by omega), bt_L a i la, bt_L b i lb, comm_drop _ _ _ la lb]
      by_cases e : (L a)[i] = (L b)[i]
      · rw [if_pos ((bt_eq _ _).2 e), if_pos e, show wrap64 ((i : Int) + 1) = ((i + 1 : Nat) : Int) from by unfold wrap64; omega]
        rw [ih k (i + 1) (by omega) (by omega) (by omega)]
        congr 1; omega
      · rw [if_neg (fun h => e ((bt_eq _ _).1 h)), if_neg e]; rfl
    · rw [if_neg (by omega), comm_end _ _ _ (Or.inr (by rw [size_L]; omega))]; rfl
theorem Common_f (k : Nat) (a b : ByteArray) (ha : a.size ≤ 1000) (hk : 1000 < k) : term_Common.f k a b = some ((comm (L a) (L b) : Nat) : Int) := by
  unfold term_Common.f
  have := Common_l k a b ha a.size 0 (by omega) (by omega) (by omega)
  simpa using this

theorem HasSuffix_f (s : ByteArray) (hs : s.size ≤ 140737488351233) : stringslite_HasSuffix.f s (⟨#[0]⟩ : ByteArray) = some (decide ((L s).getLast? = some 0)) := by
  unfold stringslite_HasSuffix.f
  have e1 : ((⟨#[0]⟩ : ByteArray).size : Int) = 1 := rfl
  rw [e1]
  have hl := size_L s
  by_cases h : (s.size : Int) ≥ 1
  · rw [if_pos h, show wrap64 ((s.size : Int) - 1) = (s.size : Int) - 1 from by unfold wrap64; omega, if_pos (by omega), if_pos (by omega)]
    congr 1
    rw [toList_L, toList_L, L_extract, Bool.eq_iff_iff, beq_iff_eq, decide_eq_true_eq]
    have e2 : (L s).drop ((s.size : Int) - 1).toNat = [(L s)[s.size - 1]'(by omega)] := by
      rw [show ((s.size : Int) - 1).toNat = s.size - 1 from by omega, List.drop_eq_getElem_cons (by omega), List.drop_of_length_le (by omega)]
    rw [e2, show s.size - ((s.size : Int) - 1).toNat = 1 from by omega, List.take_succ_cons, List.take_nil]
    rw [List.getLast?_eq_getElem?, List.getElem?_eq_getElem (by omega)]
    have e3 : L (⟨#[0]⟩ : ByteArray) = [0] := rfl
    rw [e3]
    simp only [hl, List.cons.injEq, and_true, Option.some.injEq]
  · rw [if_neg h]
    have : L s = [] := List.eq_nil_of_length_eq_zero (by omega)
    rw [this]; rfl
theorem Of_f (s : ByteArray) (hs : s.size ≤ 140737488351233) : ∃ r, term_Of.f s = some (r, decide (IsKey (L s))) ∧ (IsKey (L s) → L s = L r ++ [0]) ∧ (¬ IsKey (L s) → L r = []) := by
  unfold term_Of.f strings_CutSuffix.f stringslite_CutSuffix.f
  rw [HasSuffix_f s hs]; simp only [Option.bind_some]
  have hl := size_L s
  have e1 : ((⟨#[0]⟩ : ByteArray).size : Int) = 1 := rfl
  rw [e1]
  by_cases h : (L s).getLast? = some 0
  · have hcut := last_cut h
    have hpos : 0 < (L s).length := by rw [hcut]; simp
    rw [if_pos (by simpa using h), show wrap64 ((s.size : Int) - 1) = (s.size : Int) - 1 from by unfold wrap64; omega, if_pos (by omega), if_pos (by omega)]
    simp only [Option.bind_some, if_true]
    have hx : L (s.extract 0 ((s.size : Int) - 1).toNat) = (L s).dropLast := by
      rw [L_extract, List.drop_zero, dropLast_take, hl, show ((s.size : Int) - 1).toNat - 0 = s.size - 1 from by omega]
    rw [Right_f, hx]; simp only [Option.bind_some]
    by_cases hr : Right (L s).dropLast
    · have hk : IsKey (L s) := ⟨h, hr⟩
      rw [if_pos (by simpa using hr), decide_eq_true hk]
      exact ⟨_, rfl, fun _ => by rw [hx]; exact hcut, fun hn => absurd hk hn⟩
    · have hk : ¬ IsKey (L s) := fun z => hr z.2
      rw [if_neg (by simpa using hr), decide_eq_false hk]
      exact ⟨_, rfl, fun hn => absurd hn hk, fun _ => rfl⟩
  · have hk : ¬ IsKey (L s) := fun z => h z.1
    rw [if_neg (by simpa using h), decide_eq_false hk]
    simp only [Option.bind_some, Bool.false_eq_true, if_false]
    exact ⟨_, rfl, fun hn => absurd hn hk, fun _ => rfl⟩

theorem L_ab : L (⟨#[97, 98]⟩ : ByteArray) = [97, 98] := rfl
theorem runs_f (k : Nat) (hk : 1000 < k) : tendrillaw6_TermRuns.f k = some true := by
  unfold tendrillaw6_TermRuns.f
  obtain ⟨r, hr, er⟩ := Key_f (⟨#[97, 98]⟩ : ByteArray)
  have e1 : key (L (⟨#[97, 98]⟩ : ByteArray)) = [97, 98, 0] := by decide
  rw [e1] at er
  obtain ⟨q, hq, eq1, _⟩ := Of_f r (by rw [← size_L, er]; decide)
  have hkey : IsKey (L r) := by rw [er]; decide
  have eq2 := eq1 hkey
  rw [decide_eq_true hkey] at hq
  rw [er, show ([97, 98, 0] : List UInt8) = [97, 98] ++ [0] from rfl] at eq2
  have eq3 : L q = [97, 98] := (List.append_inj_left' eq2 rfl).symm
  obtain ⟨z, hz, ez⟩ := Key_f (⟨#[]⟩ : ByteArray)
  have e2 : key (L (⟨#[]⟩ : ByteArray)) = [] := by decide
  rw [e2] at ez
  rw [hr]; simp only [Option.bind_some]
  rw [hq]; simp only [Option.bind_some]
  rw [toList_L, toList_L, er, eq3, hz]; simp only [Option.bind_some]
  rw [toList_L, ez, Common_f k _ _ (by decide) hk, Right_f]; simp only [Option.bind_some, if_true]
  decide

theorem RightTerm_l (k : Nat) (a : ByteArray) (ha : a.size ≤ 1000) (d : Nat) : ∀ i : Nat, a.size - i = d → d < k → i ≤ a.size →
    tendrilref1_RightTerm.l0 k a i = some (decide ((0 : UInt8) ∉ (L a).drop i ∧ 1 ≤ (L a).length ∧ (L a).length ≤ 12)) := by
  have hl := size_L a
  induction d generalizing k with
  | zero =>
    intro i hi hk hle
    obtain ⟨k, rfl⟩ : ∃ m, k = m + 1 := ⟨k - 1, by omega⟩
    simp only [tendrilref1_RightTerm.l0]
    rw [if_neg (by omega), List.drop_of_length_le (by omega)]
    by_cases h1 : (a.size : Int) ≥ 1
    · rw [if_pos h1]; congr 1; rw [decide_eq_decide]; simp; omega
    · rw [if_neg h1]; congr 1; symm; rw [decide_eq_false_iff_not]; omega
  | succ d ih =>
    intro i hi hk hle
    obtain ⟨k, rfl⟩ : ∃ m, k = m + 1 := ⟨k - 1, by omega⟩
    simp only [tendrilref1_RightTerm.l0]
    have la : i < (L a).length := by omega
    rw [if_pos (by omega), if_pos (by omega), bt_L a i la, List.drop_eq_getElem_cons la]
    by_cases e : (L a)[i] = 0
    · rw [if_pos (by rw [e]; rfl)]
      congr 1; symm; rw [decide_eq_false_iff_not, e]; simp
    · rw [if_neg (nz _ e), show wrap64 ((i : Int) + 1) = ((i + 1 : Nat) : Int) from by unfold wrap64; omega]
      rw [ih k (i + 1) (by omega) (by omega) (by omega)]
      congr 1; rw [decide_eq_decide, List.mem_cons, not_or]
      exact ⟨fun h => ⟨⟨fun z => e z.symm, h.1⟩, h.2⟩, fun h => ⟨h.1.2, h.2⟩⟩
theorem RightTerm_f (k : Nat) (a : ByteArray) (ha : a.size ≤ 1000) (hk : 1000 < k) : tendrilref1_RightTerm.f k a = some (decide (Right (L a))) := by
  unfold tendrilref1_RightTerm.f
  have := RightTerm_l k a ha a.size 0 (by omega) (by omega) (by omega)
  rw [show ((0 : Nat) : Int) = 0 from rfl] at this
  rw [this]; congr 1; rw [decide_eq_decide, List.drop_zero]
  unfold Right
  constructor
  · exact fun h => ⟨fun e => by rw [e] at h; simp at h, h.2.2, h.1⟩
  · exact fun h => ⟨h.2.2, List.length_pos_iff.2 h.1, h.2.1⟩
theorem RefKey_f (k : Nat) (s : ByteArray) (ha : s.size ≤ 1000) (hk : 1000 < k) : ∃ r, tendrilref1_Key.f k s = some r ∧ L r = key (L s) := by
  unfold tendrilref1_Key.f
  rw [RightTerm_f k s ha hk]; simp only [Option.bind_some]
  by_cases h : Right (L s)
  · rw [if_pos (by simpa using h), if_pos (by omega)]
    refine ⟨_, rfl, ?_⟩
    rw [L_append, key, if_pos h]
  · rw [if_neg (by simpa using h)]
    exact ⟨_, rfl, by rw [key, if_neg h]⟩
theorem RefCommon_l (k : Nat) (a b : ByteArray) (ha : a.size ≤ 1000) (d : Nat) : ∀ i : Nat, a.size - i = d → d < k → i ≤ a.size →
    tendrilref1_Common.l0 k a b i = some ((i + comm ((L a).drop i) ((L b).drop i) : Nat) : Int) := by
  induction d generalizing k with
  | zero =>
    intro i hi hk hl
    obtain ⟨k, rfl⟩ : ∃ m, k = m + 1 := ⟨k - 1, by omega⟩
    simp only [tendrilref1_Common.l0]
    rw [if_neg (by omega), comm_end _ _ _ (Or.inl (by rw [size_L]; omega))]; rfl
  | succ d ih =>
    intro i hi hk hl
    obtain ⟨k, rfl⟩ : ∃ m, k = m + 1 := ⟨k - 1, by omega⟩
    simp only [tendrilref1_Common.l0]
    have la : i < (L a).length := by rw [size_L]; omega
    rw [if_pos (by omega)]
    by_cases hb : i < b.size
    · have lb : i < (L b).length := by rw [size_L]; omega
      rw [if_pos (by omega), if_pos (by omega), bt_L a i la, bt_L b i lb, comm_drop _ _ _ la lb]
      by_cases e : (L a)[i] = (L b)[i]
      · rw [if_pos ((bt_eq _ _).2 e), if_pos e, show wrap64 ((i : Int) + 1) = ((i + 1 : Nat) : Int) from by unfold wrap64; omega]
        rw [ih k (i + 1) (by omega) (by omega) (by omega)]
        congr 1; omega
      · rw [if_neg (fun h => e ((bt_eq _ _).1 h)), if_neg e]; rfl
    · rw [if_neg (by omega), comm_end _ _ _ (Or.inr (by rw [size_L]; omega))]; rfl
theorem RefCommon_f (k : Nat) (a b : ByteArray) (ha : a.size ≤ 1000) (hk : 1000 < k) : tendrilref1_Common.f k a b = some ((comm (L a) (L b) : Nat) : Int) := by
  unfold tendrilref1_Common.f
  have := RefCommon_l k a b ha a.size 0 (by omega) (by omega) (by omega)
  simpa using this
theorem RefTerm_f (k : Nat) (s : ByteArray) (hs : s.size ≤ 1000) (hkk : 1000 < k) : ∃ r, tendrilref1_Term.f k s = some (r, decide (IsKey (L s))) ∧ (IsKey (L s) → L s = L r ++ [0]) ∧ (¬ IsKey (L s) → L r = []) := by
  unfold tendrilref1_Term.f
  have hl := size_L s
  by_cases h2 : (s.size : Int) < 2
  · rw [if_pos h2]
    have hk : ¬ IsKey (L s) := by
      rintro ⟨h, ht⟩
      have h3 := List.length_pos_iff.2 ht.1
      rw [List.length_dropLast] at h3
      omega
    rw [decide_eq_false hk]
    exact ⟨_, rfl, fun hn => absurd hn hk, fun _ => rfl⟩
  rw [if_neg h2, show wrap64 ((s.size : Int) - 1) = ((s.size - 1 : Nat) : Int) from by unfold wrap64; omega, if_pos (by omega), if_pos (by omega), bt_L s _ (by omega)]
  have hx : L (s.extract 0 (((s.size - 1 : Nat) : Int)).toNat) = (L s).dropLast := by
    rw [L_extract, List.drop_zero, dropLast_take, hl]; rfl
  have hlast : (L s).getLast? = some ((L s)[s.size - 1]'(by omega)) := by
    rw [List.getLast?_eq_getElem?, ← List.getElem?_eq_getElem, hl]
  by_cases h : (L s)[s.size - 1]'(by omega) = 0
  · have h5 : (L s).getLast? = some 0 := by rw [hlast, h]
    have hcut := last_cut h5
    rw [if_pos (by rw [h]; rfl), if_pos (by omega), RightTerm_f k _ (by rw [← size_L, hx, List.length_dropLast]; omega) hkk, hx]; simp only [Option.bind_some]
    by_cases hr : Right (L s).dropLast
    · have hk : IsKey (L s) := ⟨h5, hr⟩
      rw [if_pos (by simpa using hr), decide_eq_true hk]
      exact ⟨_, rfl, fun _ => by rw [hx]; exact hcut, fun hn => absurd hk hn⟩
    · have hk : ¬ IsKey (L s) := fun z => hr z.2
      rw [if_neg (by simpa using hr), decide_eq_false hk]
      exact ⟨_, rfl, fun hn => absurd hn hk, fun _ => rfl⟩
  · have hk : ¬ IsKey (L s) := fun z => h (Option.some.inj (hlast.symm.trans z.1))
    rw [if_neg (nz _ h), decide_eq_false hk]
    exact ⟨_, rfl, fun hn => absurd hn hk, fun _ => rfl⟩

theorem tells_j1 (k : Nat) (s t : ByteArray) (hk : 1000 < k) (hs : s.size ≤ 60) (ht : t.size ≤ 60) : tendrillaw6_TermTells.j1 (k + 1) s t = some true := by
  simp only [tendrillaw6_TermTells.j1]
  obtain ⟨x, hx, x1, x2⟩ := Of_f t (by omega)
  obtain ⟨y, hy, y1, y2⟩ := RefTerm_f k t (by omega) hk
  obtain ⟨z, hz, ez⟩ := Key_f s
  obtain ⟨u, hu, eu⟩ := RefKey_f k s (by omega) hk
  rw [hx]; simp only [Option.bind_some]
  rw [hy]; simp only [Option.bind_some]
  rw [Right_f, RightTerm_f k s (by omega) hk]; simp only [Option.bind_some, beq_self_eq_true, if_true]
  rw [hz, hu]; simp only [Option.bind_some]
  have e : L x = L y := by
    by_cases h : IsKey (L t)
    · have := x1 h; rw [y1 h] at this; exact (List.append_inj_left' this rfl).symm
    · rw [x2 h, y2 h]
  rw [toList_L, toList_L, ez, eu, if_pos rfl, toList_L, toList_L, e, if_pos rfl, Common_f k s t (by omega) hk, RefCommon_f k s t (by omega) hk]
  simp only [Option.bind_some, if_true]
  unfold term_Next.f
  rw [if_pos (by omega)]; simp only [Option.bind_some]
  rw [if_pos (by omega), if_pos trivial, runs_f k hk]; rfl
theorem TermTells : tendrillaw6_TermTells.Pure := by
  intro s t hs ht
  refine ⟨1003, ?_⟩
  have cut : ∀ (x : ByteArray), x.size > 60 → (x.extract 0 60).size ≤ 60 := fun x h => by rw [ByteArray.size_extract]; omega
  have j0 : ∀ s : ByteArray, s.size ≤ 60 → tendrillaw6_TermTells.j0 1003 s t = some true := by
    intro s hs
    simp only [tendrillaw6_TermTells.j0]
    by_cases h : (t.size : Int) > 60
    · rw [if_pos h, if_pos (by omega), if_pos (by omega)]
      exact tells_j1 1001 _ _ (by omega) hs (cut t (by omega))
    · rw [if_neg h]
      exact tells_j1 1001 _ _ (by omega) hs (by omega)
  unfold tendrillaw6_TermTells.f
  by_cases h : (s.size : Int) > 60
  · rw [if_pos h, if_pos (by omega), if_pos (by omega)]
    exact j0 _ (cut s (by omega))
  · rw [if_neg h]
    exact j0 _ (by omega)

end Go.Proofs.Ytpcccndeojbinaa.Pure
