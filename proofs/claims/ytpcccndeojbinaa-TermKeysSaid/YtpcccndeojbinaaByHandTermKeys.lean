/- tendrillaw6.TermKeys returns true for every input; no condition. -/
import Derived.Test.YtpcccndeojbinaaRows
import Derived.Test.YtpcccndeojbinaaPTermKeysx1
import Derived.Test.YtpcccndeojbinaaTxt
import Derived.WalkKit
import Derived.WalkLawsBesides
import Derived.ProofKit
import Derived.OpenShut
import Derived.ShutString
import Derived.ChangeOld
import Derived.Below
import Derived.SizedLaws
namespace Go.Proofs.Ytpcccndeojbinaa.termKeys
open Go.ChangeShapes Go.WideShapes Go.ChangeAt Go.RowKit
open Go.ChangeMaps (open_string shut_string)
open Go.Tx Go.Proofs.Ytpcccndeojbinaa.PTermKeys Go.Proofs.YtpcccndeojbinaaW.PrintWords Go.Proofs.YtpcccndeojbinaaW.PrintLast Go.Proofs.YtpcccndeojbinaaW.PrintMore
set_option linter.unusedVariables false
set_option linter.unusedSimpArgs false
attribute [local go_sem] max2_int min2_int max_two min_two max_three min_three max_four min_four

theorem bt_L (s : ByteArray) (i : Nat) (h : i < (L s).length) : bt s (i : Int) = ((L s)[i].toNat : Int) := by
  have h2 : i < s.size := by rw [← size_L]; exact h
  unfold bt
  rw [dif_pos (by simpa using h2)]
  rfl
theorem bt_eq (a b : UInt8) : ((a.toNat : Int) = (b.toNat : Int)) ↔ a = b := by
  rw [Int.ofNat_inj]; exact ⟨UInt8.toNat_inj.1, fun h => by rw [h]⟩
theorem nz (c : UInt8) (h : c ≠ 0) : ¬ ((c.toNat : Int) = 0) := by
  intro e
  exact h (UInt8.toNat_inj.1 (show c.toNat = (0 : UInt8).toNat from Int.ofNat_inj.1 e))
theorem Right_f (s : ByteArray) : term_Right.f s = some (decide (Right (L s))) := by
  unfold term_Right.f strings_IndexByte.f
  rw [toList_L]
  by_cases h0 : L s = []
  · rw [if_pos h0, h0]; decide
  rw [if_neg h0]
  by_cases h1 : (s.size : Int) ≤ 12
  · rw [if_pos h1]
    simp only [Option.bind_some]
    congr 1
    rw [decide_eq_decide]
    have e : ((0 : Int).toNat.toUInt8) = 0 := rfl
    rw [e, index_neg]
    have := size_L s
    exact ⟨fun h => ⟨h0, by omega, h⟩, fun h => h.2.2⟩
  · rw [if_neg h1]
    congr 1
    symm; rw [decide_eq_false_iff_not]
    have := size_L s
    exact fun h => by have := h.2.1; omega
theorem Key_f (s : ByteArray) : ∃ r, term_Key.f s = some r ∧ L r = key (L s) := by
  unfold term_Key.f
  rw [Right_f]; simp only [Option.bind_some]
  by_cases h : Right (L s)
  · have := size_L s
    have h2 := h.2.1
    rw [if_pos (by simpa using h), if_pos (by omega)]
    refine ⟨_, rfl, ?_⟩
    rw [L_append, key, if_pos h]
  · rw [if_neg (by simpa using h)]
    exact ⟨_, rfl, by rw [key, if_neg h]⟩
theorem Common_l (k : Nat) (a b : ByteArray) (ha : a.size ≤ 1000) (d : Nat) : ∀ i : Nat, a.size - i = d → d < k → i ≤ a.size →
    term_Common.l0 k a b i = some ((i + comm ((L a).drop i) ((L b).drop i) : Nat) : Int) := by
  induction d generalizing k with
  | zero =>
    intro i hi hk hl
    obtain ⟨k, rfl⟩ : ∃ m, k = m + 1 := ⟨k - 1, by omega⟩
    simp only [term_Common.l0]
    rw [if_neg (by omega), comm_end _ _ _ (Or.inl (by rw [size_L]; omega))]; rfl
  | succ d ih =>
    intro i hi hk hl
    obtain ⟨k, rfl⟩ : ∃ m, k = m + 1 := ⟨k - 1, by omega⟩
    simp only [term_Common.l0]
    have la : i < (L a).length := by rw [size_L]; omega
    rw [if_pos (by omega)]
    by_cases hb : i < b.size
    · have lb : i < (L b).length := by rw [size_L]; omega
      rw [if_pos (by omega), if_pos (by omega), bt_L a i la, bt_L b i lb, comm_drop _ _ _ la lb]
      by_cases e : (L a)[i] = (L b)[i]
      · rw [if_pos ((bt_eq _ _).2 e), if_pos e, show wrap64 ((i : Int) + 1) = ((i + 1 : Nat) : Int) from by unfold wrap64; omega]
        rw [ih k (i + 1) (by omega) (by omega) (by omega)]
        congr 1; omega
      · rw [if_neg (fun h => e ((bt_eq _ _).1 h)), if_neg e]; rfl
    · rw [if_neg (by omega), comm_end _ _ _ (Or.inr (by rw [size_L]; omega))]; rfl
theorem Common_f (k : Nat) (a b : ByteArray) (ha : a.size ≤ 1000) (hk : 1000 < k) : term_Common.f k a b = some ((comm (L a) (L b) : Nat) : Int) := by
  unfold term_Common.f
  have := Common_l k a b ha a.size 0 (by omega) (by omega) (by omega)
  simpa using this

theorem HasSuffix_f (s : ByteArray) (hs : s.size ≤ 140737488351233) : stringslite_HasSuffix.f s (⟨#[0]⟩ : ByteArray) = some (decide ((L s).getLast? = some 0)) := by
  unfold stringslite_HasSuffix.f
  have e1 : ((⟨#[0]⟩ : ByteArray).size : Int) = 1 := rfl
  rw [e1]
  have hl := size_L s
  by_cases h : (s.size : Int) ≥ 1
  · rw [if_pos h, show wrap64 ((s.size : Int) - 1) = (s.size : Int) - 1 from by unfold wrap64; omega, if_pos (by omega), if_pos (by omega)]
    congr 1
    rw [toList_L, toList_L, L_extract, Bool.eq_iff_iff, beq_iff_eq, decide_eq_true_eq]
    have e2 : (L s).drop ((s.size : Int) - 1).toNat = [(L s)[s.size - 1]'(by omega)] := by
      rw [show ((s.size : Int) - 1).toNat = s.size - 1 from by omega, List.drop_eq_getElem_cons (by omega), List.drop_of_length_le (by omega)]
    rw [e2, show s.size - ((s.size : Int) - 1).toNat = 1 from by omega, List.take_succ_cons, List.take_nil]
    rw [List.getLast?_eq_getElem?, List.getElem?_eq_getElem (by omega)]
    have e3 : L (⟨#[0]⟩ : ByteArray) = [0] := rfl
    rw [e3]
    simp only [hl, List.cons.injEq, and_true, Option.some.injEq]
  · rw [if_neg h]
    have : L s = [] := List.eq_nil_of_length_eq_zero (by omega)
    rw [this]; rfl
theorem Of_f (s : ByteArray) (hs : s.size ≤ 140737488351233) : ∃ r, term_Of.f s = some (r, decide (IsKey (L s))) ∧ (IsKey (L s) → L s = L r ++ [0]) ∧ (¬ IsKey (L s) → L r = []) := by
  unfold term_Of.f strings_CutSuffix.f stringslite_CutSuffix.f
  rw [HasSuffix_f s hs]; simp only [Option.bind_some]
  have hl := size_L s
  have e1 : ((⟨#[0]⟩ : ByteArray).size : Int) = 1 := rfl
  rw [e1]
  by_cases h : (L s).getLast? = some 0
  · have hcut := last_cut h
    have hpos : 0 < (L s).length := by rw [hcut]; simp
    rw [if_pos (by simpa using h), show wrap64 ((s.size : Int) - 1) = (s.size : Int) - 1 from by unfold wrap64; omega, if_pos (by omega), if_pos (by omega)]
    simp only [Option.bind_some, if_true]
    have hx : L (s.extract 0 ((s.size : Int) - 1).toNat) = (L s).dropLast := by
      rw [L_extract, List.drop_zero, dropLast_take, hl, show ((s.size : Int) - 1).toNat - 0 = s.size - 1 from by omega]
    rw [Right_f, hx]; simp only [Option.bind_some]
    by_cases hr : Right (L s).dropLast
    · have hk : IsKey (L s) := ⟨h, hr⟩
      rw [if_pos (by simpa using hr), decide_eq_true hk]
      exact ⟨_, rfl, fun _ => by rw [hx]; exact hcut, fun hn => absurd hk hn⟩
    · have hk : ¬ IsKey (L s) := fun z => hr z.2
      rw [if_neg (by simpa using hr), decide_eq_false hk]
      exact ⟨_, rfl, fun hn => absurd hn hk, fun _ => rfl⟩
  · have hk : ¬ IsKey (L s) := fun z => h z.1
    rw [if_neg (by simpa using h), decide_eq_false hk]
    simp only [Option.bind_some, Bool.false_eq_true, if_false]
    exact ⟨_, rfl, fun hn => absurd hn hk, fun _ => rfl⟩

theorem L_ab : L (⟨#[97, 98]⟩ : ByteArray) = [97, 98] := rfl
theorem runs_f (k : Nat) (hk : 1000 < k) : tendrillaw6_TermRuns.f k = some true := by
  unfold tendrillaw6_TermRuns.f
  obtain ⟨r, hr, er⟩ := Key_f (⟨#[97, 98]⟩ : ByteArray)
  have e1 : key (L (⟨#[97, 98]⟩ : ByteArray)) = [97, 98, 0] := by decide
  rw [e1] at er
  obtain ⟨q, hq, eq1, _⟩ := Of_f r (by rw [← size_L, er]; decide)
  have hkey : IsKey (L r) := by rw [er]; decide
  have eq2 := eq1 hkey
  rw [decide_eq_true hkey] at hq
  rw [er, show ([97, 98, 0] : List UInt8) = [97, 98] ++ [0] from rfl] at eq2
  have eq3 : L q = [97, 98] := (List.append_inj_left' eq2 rfl).symm
  obtain ⟨z, hz, ez⟩ := Key_f (⟨#[]⟩ : ByteArray)
  have e2 : key (L (⟨#[]⟩ : ByteArray)) = [] := by decide
  rw [e2] at ez
  rw [hr]; simp only [Option.bind_some]
  rw [hq]; simp only [Option.bind_some]
  rw [toList_L, toList_L, er, eq3, hz]; simp only [Option.bind_some]
  rw [toList_L, ez, Common_f k _ _ (by decide) hk, Right_f]; simp only [Option.bind_some, if_true]
  decide

theorem key_no (s : ByteArray) (h : ¬ Right (L s)) : term_Key.f s = some (⟨#[]⟩ : ByteArray) := by
  unfold term_Key.f; rw [Right_f]; simp only [Option.bind_some]; rw [if_neg (by simpa using h)]
theorem key_yes (s : ByteArray) (h : Right (L s)) : term_Key.f s = some (s ++ (⟨#[0]⟩ : ByteArray)) := by
  have hl := size_L s
  have := h.2.1
  unfold term_Key.f; rw [Right_f]; simp only [Option.bind_some]; rw [if_pos (by simpa using h), if_pos (by omega)]
theorem right_no (s : ByteArray) (h : ¬ Right (L s)) : term_Right.f s = some false := by
  rw [Right_f, decide_eq_false h]
theorem right_yes (s : ByteArray) (h : Right (L s)) : term_Right.f s = some true := by
  rw [Right_f, decide_eq_true h]
theorem L_key (s : ByteArray) : L (s ++ (⟨#[0]⟩ : ByteArray)) = L s ++ [0] := by rw [L_append]
theorem of_yes (s : ByteArray) (h : Right (L s)) : term_Of.f (s ++ (⟨#[0]⟩ : ByteArray)) = some (s, true) := by
  have hl := size_L s
  have h2 := h.2.1
  have hk : IsKey (L (s ++ (⟨#[0]⟩ : ByteArray))) := by rw [L_key]; exact isKey_mk h
  obtain ⟨x, hx, x1, _⟩ := Of_f (s ++ (⟨#[0]⟩ : ByteArray)) (by rw [ByteArray.size_append]; have e : (⟨#[0]⟩ : ByteArray).size = 1 := rfl; omega)
  have e := x1 hk
  rw [L_key] at e
  have e2 := L_inj (List.append_inj_left' e rfl)
  rw [hx, decide_eq_true hk, e2]
theorem key_not_right (s : ByteArray) : ¬ Right (L (s ++ (⟨#[0]⟩ : ByteArray))) := by
  intro h; apply h.2.2; rw [L_key]; simp
set_option maxHeartbeats 4000000 in
set_option maxRecDepth 100000 in
theorem walk_no (a0 a1 : ByteArray) (w : World) (h : ¬ Right (L a0)) :
    Calls Try.prog 7 #[.string a0, .string a1] w fun e w' => e = .returned (.bool true) ∧ Below w.heap.size w w' := by
  have R : Aside0 (tendrillaw6_TermRuns.f 1001 = some true) := ⟨runs_f 1001 (by decide)⟩
  have A : Aside0 (term_Right.f a0 = some false) := ⟨right_no a0 h⟩
  have B : Aside0 (term_Key.f a0 = some (⟨#[]⟩ : ByteArray)) := ⟨key_no a0 h⟩
  clear h
  go_enter Try.func7, Try.ntmps7
  go_wp2_with (first | (go_at_call 12; (with_reducible refine (term_Right.calls a0 false _ A.out).mono ?_); rintro e w' ⟨rfl, ⟨nd2, rfl⟩⟩) | (go_at_call 9; (with_reducible refine (term_Key.calls a0 _ _ B.out).mono ?_); rintro e w' ⟨rfl, ⟨nd2, rfl⟩⟩) | (go_at_call 3; (with_reducible refine (tendrillaw6_TermRuns.calls 1001 true _ R.out).mono ?_); rintro e w' ⟨rfl, ⟨nd2, rfl⟩⟩))
  go_ret
  exact ⟨rfl, by repeat (first | (with_reducible first | exact Below.refl _ _ | apply below_alloc | apply pw_below_drewN | apply below_drew1) | exact Below.refl _ _)⟩
set_option maxHeartbeats 4000000 in
set_option maxRecDepth 100000 in
theorem walk_no2 (a0 a1 : ByteArray) (w : World) (h : Right (L a0)) (h2 : ¬ Right (L a1)) :
    Calls Try.prog 7 #[.string a0, .string a1] w fun e w' => e = .returned (.bool true) ∧ Below w.heap.size w w' := by
  have R : Aside0 (tendrillaw6_TermRuns.f 1001 = some true) := ⟨runs_f 1001 (by decide)⟩
  have A : Aside0 (term_Right.f a0 = some true) := ⟨right_yes a0 h⟩
  have A2 : Aside0 (term_Right.f a1 = some false) := ⟨right_no a1 h2⟩
  have B : Aside0 (term_Key.f a0 = some (a0 ++ (⟨#[0]⟩ : ByteArray))) := ⟨key_yes a0 h⟩
  have ne : (a0 ++ (⟨#[0]⟩ : ByteArray)).toList ≠ [] := by rw [toList_L, L_key]; simp
  clear h h2
  generalize a0 ++ (⟨#[0]⟩ : ByteArray) = x at *
  have e1 : (x.toList == []) = false := beq_eq_false_iff_ne.2 ne
  have e2 : x.toList.isEmpty = false := by rw [Bool.eq_false_iff]; exact fun z => ne (List.isEmpty_iff.1 z)
  have e3 : (x.toList = []) = False := eq_false ne
  clear ne
  go_enter Try.func7, Try.ntmps7
  go_wp2_with (first | (go_at_call 12; (with_reducible refine (term_Right.calls a0 true _ A.out).mono ?_); rintro e w' ⟨rfl, ⟨nd2, rfl⟩⟩) | (go_at_call 12; (with_reducible refine (term_Right.calls a1 false _ A2.out).mono ?_); rintro e w' ⟨rfl, ⟨nd2, rfl⟩⟩) | (go_at_call 9; (with_reducible refine (term_Key.calls a0 x _ B.out).mono ?_); rintro e w' ⟨rfl, ⟨nd2, rfl⟩⟩) | (go_at_call 3; (with_reducible refine (tendrillaw6_TermRuns.calls 1001 true _ R.out).mono ?_); rintro e w' ⟨rfl, ⟨nd2, rfl⟩⟩))
  go_ret
  exact ⟨rfl, by repeat (first | (with_reducible first | exact Below.refl _ _ | apply below_alloc | apply pw_below_drewN | apply below_drew1) | exact Below.refl _ _)⟩

set_option maxHeartbeats 4000000 in
set_option maxRecDepth 100000 in
theorem walk_same (a0 a1 : ByteArray) (w : World) (h : Right (L a0)) (h2 : Right (L a1)) (hab : a0 = a1) :
    Calls Try.prog 7 #[.string a0, .string a1] w fun e w' => e = .returned (.bool true) ∧ Below w.heap.size w w' := by
  have R : Aside0 (tendrillaw6_TermRuns.f 1001 = some true) := ⟨runs_f 1001 (by decide)⟩
  have A : Aside0 (term_Right.f a0 = some true) := ⟨right_yes a0 h⟩
  have A2 : Aside0 (term_Right.f a1 = some true) := ⟨right_yes a1 h2⟩
  have B : Aside0 (term_Key.f a0 = some (a0 ++ (⟨#[0]⟩ : ByteArray))) := ⟨key_yes a0 h⟩
  have B2 : Aside0 (term_Key.f a1 = some (a1 ++ (⟨#[0]⟩ : ByteArray))) := ⟨key_yes a1 h2⟩
  have O : Aside0 (term_Of.f (a0 ++ (⟨#[0]⟩ : ByteArray)) = some (a0, true)) := ⟨of_yes a0 h⟩
  have X : Aside0 (term_Right.f (a0 ++ (⟨#[0]⟩ : ByteArray)) = some false) := ⟨right_no _ (key_not_right a0)⟩
  have l0 := size_L a0
  have l1 := size_L a1
  have k0 := size_L (a0 ++ (⟨#[0]⟩ : ByteArray))
  have k1 := size_L (a1 ++ (⟨#[0]⟩ : ByteArray))
  rw [L_key, List.length_append] at k0 k1
  have s1 : [(0 : UInt8)].length = 1 := rfl
  have r0 := h.2.1
  have r1 := h2.2.1
  have M : Aside0 (term_Next.f a0 = some (a0 ++ (⟨#[0]⟩ : ByteArray))) := ⟨by unfold term_Next.f; rw [if_pos (by omega)]⟩
  have C : Aside0 (term_Common.f 1001 (a0 ++ (⟨#[0]⟩ : ByteArray)) (a1 ++ (⟨#[0]⟩ : ByteArray)) = some ((comm (L a0 ++ [0]) (L a1 ++ [0]) : Nat) : Int)) := ⟨by rw [Common_f _ _ _ (by omega) (by decide), L_key, L_key]⟩
  have f1 : Op.bytesLess a0.toList (a0 ++ (⟨#[0]⟩ : ByteArray)).toList = true := by rw [toList_L, toList_L, L_append]; exact less_snoc _ _
  have f2 : Op.bytesLess (a0 ++ (⟨#[0]⟩ : ByteArray)).toList (a1 ++ (⟨#[0]⟩ : ByteArray)).toList = Op.bytesLess a0.toList a1.toList := by
    rw [toList_L, toList_L, toList_L, toList_L, L_key, L_key]; exact less_key _ _ h.2.2 h2.2.2
  have f3 : Op.bytesLess a0.toList a1.toList = true → Op.bytesLess a1.toList (a0 ++ (⟨#[0]⟩ : ByteArray)).toList = false := by
    rw [toList_L, toList_L, toList_L, L_append]; exact less_next _ _
  have tot := less_total a1.toList a0.toList
  have tot2 := less_total (a0 ++ (⟨#[0]⟩ : ByteArray)).toList a1.toList
  have lt : Op.bytesLess a0.toList a1.toList = false := by rw [hab]; exact less_irrefl _
  have ne1 : a0.toList = a1.toList := by rw [hab]
  have ne2 : (a0 ++ (⟨#[0]⟩ : ByteArray)).toList = (a1 ++ (⟨#[0]⟩ : ByteArray)).toList := by rw [hab]
  rw [lt] at f2 tot
  obtain ⟨n, hn⟩ : ∃ n : Int, ((comm (L a0 ++ [0]) (L a1 ++ [0]) : Nat) : Int) = n := ⟨_, rfl⟩
  rw [hn] at C
  clear hn hab h h2 l0 l1 k0 k1 s1 r0 r1 tot2 f3
  generalize a0 ++ (⟨#[0]⟩ : ByteArray) = x at *
  generalize a1 ++ (⟨#[0]⟩ : ByteArray) = y at *
  have g1 : (a0.toList == a1.toList) = true := beq_iff_eq.2 ne1
  have g2 : (x.toList == y.toList) = true := beq_iff_eq.2 ne2
  have g3 : (a0.toList != a1.toList) = false := bne_eq_false_iff_eq.2 ne1
  have g4 : (x.toList != y.toList) = false := bne_eq_false_iff_eq.2 ne2
  have g5 : (a1.toList == a0.toList) = true := beq_iff_eq.2 ne1.symm
  have e1 : (Op.bytesLess a1.toList a0.toList || a1.toList == a0.toList) = true := tot
  clear ne1 ne2 tot
  go_enter Try.func7, Try.ntmps7
  go_wp2_with (first | (go_at_call 12; (with_reducible refine (term_Right.calls a0 true _ A.out).mono ?_); rintro e w' ⟨rfl, ⟨nd2, rfl⟩⟩) | (go_at_call 12; (with_reducible refine (term_Right.calls a1 true _ A2.out).mono ?_); rintro e w' ⟨rfl, ⟨nd2, rfl⟩⟩) | (go_at_call 9; (with_reducible refine (term_Key.calls a0 x _ B.out).mono ?_); rintro e w' ⟨rfl, ⟨nd2, rfl⟩⟩) | (go_at_call 9; (with_reducible refine (term_Key.calls a1 y _ B2.out).mono ?_); rintro e w' ⟨rfl, ⟨nd2, rfl⟩⟩) | (go_at_call 10; (with_reducible refine (term_Of.calls x a0 true _ O.out).mono ?_); rintro e w' ⟨rfl, ⟨nd2, rfl⟩⟩) | (go_at_call 11; (with_reducible refine (term_Common.calls 1001 x y n _ C.out).mono ?_); rintro e w' ⟨rfl, ⟨nd2, rfl⟩⟩))
  go_quiet (fail)
  go_wp2_with (first | (go_at_call 18; (with_reducible refine (term_Next.calls a0 x _ M.out).mono ?_); rintro e w' ⟨rfl, ⟨nd2, rfl⟩⟩) | (go_at_call 12; (with_reducible refine (term_Right.calls x false _ X.out).mono ?_); rintro e w' ⟨rfl, ⟨nd2, rfl⟩⟩) | (go_at_call 3; (with_reducible refine (tendrillaw6_TermRuns.calls 1001 true _ R.out).mono ?_); rintro e w' ⟨rfl, ⟨nd2, rfl⟩⟩))
  go_ret
  exact ⟨rfl, by repeat (first | (with_reducible first | exact Below.refl _ _ | apply below_alloc | apply pw_below_drewN | apply below_drew1) | exact Below.refl _ _)⟩


set_option maxHeartbeats 4000000 in
set_option maxRecDepth 100000 in
theorem walk_less (a0 a1 : ByteArray) (w : World) (h : Right (L a0)) (h2 : Right (L a1)) (hab : a0 ≠ a1) (lt : Op.bytesLess a0.toList a1.toList = true) :
    Calls Try.prog 7 #[.string a0, .string a1] w fun e w' => e = .returned (.bool true) ∧ Below w.heap.size w w' := by
  have R : Aside0 (tendrillaw6_TermRuns.f 1001 = some true) := ⟨runs_f 1001 (by decide)⟩
  have A : Aside0 (term_Right.f a0 = some true) := ⟨right_yes a0 h⟩
  have A2 : Aside0 (term_Right.f a1 = some true) := ⟨right_yes a1 h2⟩
  have B : Aside0 (term_Key.f a0 = some (a0 ++ (⟨#[0]⟩ : ByteArray))) := ⟨key_yes a0 h⟩
  have B2 : Aside0 (term_Key.f a1 = some (a1 ++ (⟨#[0]⟩ : ByteArray))) := ⟨key_yes a1 h2⟩
  have O : Aside0 (term_Of.f (a0 ++ (⟨#[0]⟩ : ByteArray)) = some (a0, true)) := ⟨of_yes a0 h⟩
  have X : Aside0 (term_Right.f (a0 ++ (⟨#[0]⟩ : ByteArray)) = some false) := ⟨right_no _ (key_not_right a0)⟩
  have l0 := size_L a0
  have l1 := size_L a1
  have k0 := size_L (a0 ++ (⟨#[0]⟩ : ByteArray))
  have k1 := size_L (a1 ++ (⟨#[0]⟩ : ByteArray))
  rw [L_key, List.length_append] at k0 k1
  have s1 : [(0 : UInt8)].length = 1 := rfl
  have r0 := h.2.1
  have r1 := h2.2.1
  have M : Aside0 (term_Next.f a0 = some (a0 ++ (⟨#[0]⟩ : ByteArray))) := ⟨by unfold term_Next.f; rw [if_pos (by omega)]⟩
  have C : Aside0 (term_Common.f 1001 (a0 ++ (⟨#[0]⟩ : ByteArray)) (a1 ++ (⟨#[0]⟩ : ByteArray)) = some ((comm (L a0 ++ [0]) (L a1 ++ [0]) : Nat) : Int)) := ⟨by rw [Common_f _ _ _ (by omega) (by decide), L_key, L_key]⟩
  have f1 : Op.bytesLess a0.toList (a0 ++ (⟨#[0]⟩ : ByteArray)).toList = true := by rw [toList_L, toList_L, L_append]; exact less_snoc _ _
  have f2 : Op.bytesLess (a0 ++ (⟨#[0]⟩ : ByteArray)).toList (a1 ++ (⟨#[0]⟩ : ByteArray)).toList = Op.bytesLess a0.toList a1.toList := by
    rw [toList_L, toList_L, toList_L, toList_L, L_key, L_key]; exact less_key _ _ h.2.2 h2.2.2
  have f3 : Op.bytesLess a0.toList a1.toList = true → Op.bytesLess a1.toList (a0 ++ (⟨#[0]⟩ : ByteArray)).toList = false := by
    rw [toList_L, toList_L, toList_L, L_append]; exact less_next _ _
  have tot := less_total a1.toList a0.toList
  have tot2 := less_total (a0 ++ (⟨#[0]⟩ : ByteArray)).toList a1.toList
  have nab : L a0 ≠ L a1 := fun e => hab (L_inj e)
  obtain ⟨u0, u1⟩ := key_apart (L a0) (L a1) h.2.2 h2.2.2 nab
  have tb : ∀ c : Nat, comm (L a0 ++ [0]) (L a1 ++ [0]) = c → ((a0 ++ (⟨#[0]⟩ : ByteArray)).extract 0 c).toList = ((a1 ++ (⟨#[0]⟩ : ByteArray)).extract 0 c).toList ∧ bt (a0 ++ (⟨#[0]⟩ : ByteArray)) (c : Int) ≠ bt (a1 ++ (⟨#[0]⟩ : ByteArray)) (c : Int) := by
    intro c hc
    constructor
    · rw [toList_L, toList_L, L_extract, L_extract, List.drop_zero, List.drop_zero, Nat.sub_zero, ← hc, L_key, L_key]; exact comm_take _ _
    · have x' : comm (L (a0 ++ (⟨#[0]⟩ : ByteArray))) (L (a1 ++ (⟨#[0]⟩ : ByteArray))) < (L (a0 ++ (⟨#[0]⟩ : ByteArray))).length := by rw [L_key, L_key, List.length_append]; omega
      have y' : comm (L (a0 ++ (⟨#[0]⟩ : ByteArray))) (L (a1 ++ (⟨#[0]⟩ : ByteArray))) < (L (a1 ++ (⟨#[0]⟩ : ByteArray))).length := by rw [L_key, L_key, List.length_append]; omega
      have st := comm_stop _ _ x' y'
      have e : comm (L (a0 ++ (⟨#[0]⟩ : ByteArray))) (L (a1 ++ (⟨#[0]⟩ : ByteArray))) = c := by rw [L_key, L_key]; exact hc
      simp only [e] at st
      rw [bt_L _ c (by rw [← e]; exact x'), bt_L _ c (by rw [← e]; exact y')]
      exact fun z => st ((bt_eq _ _).1 z)
  have ne1 : a0.toList ≠ a1.toList := by rw [toList_L, toList_L]; exact nab
  have ne2 : (a0 ++ (⟨#[0]⟩ : ByteArray)).toList ≠ (a1 ++ (⟨#[0]⟩ : ByteArray)).toList := by
    rw [toList_L, toList_L, L_key, L_key]; exact fun e => nab (List.append_inj_left' e rfl)
  obtain ⟨c, hc⟩ : ∃ c : Nat, comm (L a0 ++ [0]) (L a1 ++ [0]) = c := ⟨_, rfl⟩
  obtain ⟨tb1, tb2⟩ := tb c hc
  obtain ⟨n, hn⟩ : ∃ n : Int, ((c : Nat) : Int) = n := ⟨_, rfl⟩
  rw [hc, hn] at C
  rw [hn] at tb2
  rw [show c = n.toNat from by omega] at tb1
  have z0 : n < ((a0 ++ (⟨#[0]⟩ : ByteArray)).size : Int) := by omega
  have z1 : n < ((a1 ++ (⟨#[0]⟩ : ByteArray)).size : Int) := by omega
  have z2 : 0 ≤ n := by omega
  clear tb hc hn u0 u1 nab hab h h2 l0 l1 k0 k1 s1 r0 r1
  generalize a0 ++ (⟨#[0]⟩ : ByteArray) = x at *
  generalize a1 ++ (⟨#[0]⟩ : ByteArray) = y at *
  have p1 : (0 ≤ n) = True := eq_true z2
  have p2 : decide (0 ≤ n) = true := decide_eq_true z2
  have p3 : decide ((x.size : Int) ≤ n) = false := decide_eq_false (by omega)
  have p4 : decide ((y.size : Int) ≤ n) = false := decide_eq_false (by omega)
  have p5 : (n ≤ (x.size : Int)) = True := eq_true (by omega)
  have p6 : (n ≤ (y.size : Int)) = True := eq_true (by omega)
  have p7 : (n < (x.size : Int)) = True := eq_true (by omega)
  have p8 : (n < (y.size : Int)) = True := eq_true (by omega)
  have q1 : ((x.extract 0 n.toNat).toList == (y.extract 0 n.toNat).toList) = true := beq_iff_eq.2 tb1
  have q2 : ((x.extract 0 n.toNat).toList != (y.extract 0 n.toNat).toList) = false := bne_eq_false_iff_eq.2 tb1
  have b1 : (bt x n == bt y n) = false := beq_eq_false_iff_ne.2 tb2
  have hx := bt_at x n
  have hy := bt_at y n
  have g1 : (a0.toList == a1.toList) = false := beq_eq_false_iff_ne.2 ne1
  have g2 : (x.toList == y.toList) = false := beq_eq_false_iff_ne.2 ne2
  have g3 : (a0.toList != a1.toList) = true := bne_iff_ne.2 ne1
  have g4 : (x.toList != y.toList) = true := bne_iff_ne.2 ne2
  have g5 : (a1.toList == a0.toList) = false := beq_eq_false_iff_ne.2 (fun e => ne1 e.symm)
  clear tb1 tb2 ne1 ne2 z0 z1 z2
  rw [lt] at f2 tot
  have c2 := f3 lt
  rw [c2] at tot2
  have e3 : (Op.bytesLess x.toList a1.toList || x.toList == a1.toList) = true := tot2
  have e12 : Op.bytesLess a1.toList a0.toList = false ∧ (a1.toList == a0.toList) = false := by simpa using tot
  obtain ⟨e1, e2⟩ := e12
  clear tot tot2 f3
  go_enter Try.func7, Try.ntmps7
  go_wp2_with (first | (go_at_call 12; (with_reducible refine (term_Right.calls a0 true _ A.out).mono ?_); rintro e w' ⟨rfl, ⟨nd2, rfl⟩⟩) | (go_at_call 12; (with_reducible refine (term_Right.calls a1 true _ A2.out).mono ?_); rintro e w' ⟨rfl, ⟨nd2, rfl⟩⟩) | (go_at_call 9; (with_reducible refine (term_Key.calls a0 x _ B.out).mono ?_); rintro e w' ⟨rfl, ⟨nd2, rfl⟩⟩) | (go_at_call 9; (with_reducible refine (term_Key.calls a1 y _ B2.out).mono ?_); rintro e w' ⟨rfl, ⟨nd2, rfl⟩⟩) | (go_at_call 10; (with_reducible refine (term_Of.calls x a0 true _ O.out).mono ?_); rintro e w' ⟨rfl, ⟨nd2, rfl⟩⟩) | (go_at_call 11; (with_reducible refine (term_Common.calls 1001 x y n _ C.out).mono ?_); rintro e w' ⟨rfl, ⟨nd2, rfl⟩⟩))
  go_quiet (fail)
  go_wp2_with (first | (go_at_call 18; (with_reducible refine (term_Next.calls a0 x _ M.out).mono ?_); rintro e w' ⟨rfl, ⟨nd2, rfl⟩⟩) | (go_at_call 12; (with_reducible refine (term_Right.calls x false _ X.out).mono ?_); rintro e w' ⟨rfl, ⟨nd2, rfl⟩⟩) | (go_at_call 3; (with_reducible refine (tendrillaw6_TermRuns.calls 1001 true _ R.out).mono ?_); rintro e w' ⟨rfl, ⟨nd2, rfl⟩⟩))
  go_ret
  exact ⟨rfl, by repeat (first | (with_reducible first | exact Below.refl _ _ | apply below_alloc | apply pw_below_drewN | apply below_drew1) | exact Below.refl _ _)⟩


set_option maxHeartbeats 4000000 in
set_option maxRecDepth 100000 in
theorem walk_more (a0 a1 : ByteArray) (w : World) (h : Right (L a0)) (h2 : Right (L a1)) (hab : a0 ≠ a1) (lt : Op.bytesLess a0.toList a1.toList = false) :
    Calls Try.prog 7 #[.string a0, .string a1] w fun e w' => e = .returned (.bool true) ∧ Below w.heap.size w w' := by
  have R : Aside0 (tendrillaw6_TermRuns.f 1001 = some true) := ⟨runs_f 1001 (by decide)⟩
  have A : Aside0 (term_Right.f a0 = some true) := ⟨right_yes a0 h⟩
  have A2 : Aside0 (term_Right.f a1 = some true) := ⟨right_yes a1 h2⟩
  have B : Aside0 (term_Key.f a0 = some (a0 ++ (⟨#[0]⟩ : ByteArray))) := ⟨key_yes a0 h⟩
  have B2 : Aside0 (term_Key.f a1 = some (a1 ++ (⟨#[0]⟩ : ByteArray))) := ⟨key_yes a1 h2⟩
  have O : Aside0 (term_Of.f (a0 ++ (⟨#[0]⟩ : ByteArray)) = some (a0, true)) := ⟨of_yes a0 h⟩
  have X : Aside0 (term_Right.f (a0 ++ (⟨#[0]⟩ : ByteArray)) = some false) := ⟨right_no _ (key_not_right a0)⟩
  have l0 := size_L a0
  have l1 := size_L a1
  have k0 := size_L (a0 ++ (⟨#[0]⟩ : ByteArray))
  have k1 := size_L (a1 ++ (⟨#[0]⟩ : ByteArray))
  rw [L_key, List.length_append] at k0 k1
  have s1 : [(0 : UInt8)].length = 1 := rfl
  have r0 := h.2.1
  have r1 := h2.2.1
  have M : Aside0 (term_Next.f a0 = some (a0 ++ (⟨#[0]⟩ : ByteArray))) := ⟨by unfold term_Next.f; rw [if_pos (by omega)]⟩
  have C : Aside0 (term_Common.f 1001 (a0 ++ (⟨#[0]⟩ : ByteArray)) (a1 ++ (⟨#[0]⟩ : ByteArray)) = some ((comm (L a0 ++ [0]) (L a1 ++ [0]) : Nat) : Int)) := ⟨by rw [Common_f _ _ _ (by omega) (by decide), L_key, L_key]⟩
  have f1 : Op.bytesLess a0.toList (a0 ++ (⟨#[0]⟩ : ByteArray)).toList = true := by rw [toList_L, toList_L, L_append]; exact less_snoc _ _
  have f2 : Op.bytesLess (a0 ++ (⟨#[0]⟩ : ByteArray)).toList (a1 ++ (⟨#[0]⟩ : ByteArray)).toList = Op.bytesLess a0.toList a1.toList := by
    rw [toList_L, toList_L, toList_L, toList_L, L_key, L_key]; exact less_key _ _ h.2.2 h2.2.2
  have f3 : Op.bytesLess a0.toList a1.toList = true → Op.bytesLess a1.toList (a0 ++ (⟨#[0]⟩ : ByteArray)).toList = false := by
    rw [toList_L, toList_L, toList_L, L_append]; exact less_next _ _
  have tot := less_total a1.toList a0.toList
  have tot2 := less_total (a0 ++ (⟨#[0]⟩ : ByteArray)).toList a1.toList
  have nab : L a0 ≠ L a1 := fun e => hab (L_inj e)
  obtain ⟨u0, u1⟩ := key_apart (L a0) (L a1) h.2.2 h2.2.2 nab
  have tb : ∀ c : Nat, comm (L a0 ++ [0]) (L a1 ++ [0]) = c → ((a0 ++ (⟨#[0]⟩ : ByteArray)).extract 0 c).toList = ((a1 ++ (⟨#[0]⟩ : ByteArray)).extract 0 c).toList ∧ bt (a0 ++ (⟨#[0]⟩ : ByteArray)) (c : Int) ≠ bt (a1 ++ (⟨#[0]⟩ : ByteArray)) (c : Int) := by
    intro c hc
    constructor
    · rw [toList_L, toList_L, L_extract, L_extract, List.drop_zero, List.drop_zero, Nat.sub_zero, ← hc, L_key, L_key]; exact comm_take _ _
    · have x' : comm (L (a0 ++ (⟨#[0]⟩ : ByteArray))) (L (a1 ++ (⟨#[0]⟩ : ByteArray))) < (L (a0 ++ (⟨#[0]⟩ : ByteArray))).length := by rw [L_key, L_key, List.length_append]; omega
      have y' : comm (L (a0 ++ (⟨#[0]⟩ : ByteArray))) (L (a1 ++ (⟨#[0]⟩ : ByteArray))) < (L (a1 ++ (⟨#[0]⟩ : ByteArray))).length := by rw [L_key, L_key, List.length_append]; omega
      have st := comm_stop _ _ x' y'
      have e : comm (L (a0 ++ (⟨#[0]⟩ : ByteArray))) (L (a1 ++ (⟨#[0]⟩ : ByteArray))) = c := by rw [L_key, L_key]; exact hc
      simp only [e] at st
      rw [bt_L _ c (by rw [← e]; exact x'), bt_L _ c (by rw [← e]; exact y')]
      exact fun z => st ((bt_eq _ _).1 z)
  have ne1 : a0.toList ≠ a1.toList := by rw [toList_L, toList_L]; exact nab
  have ne2 : (a0 ++ (⟨#[0]⟩ : ByteArray)).toList ≠ (a1 ++ (⟨#[0]⟩ : ByteArray)).toList := by
    rw [toList_L, toList_L, L_key, L_key]; exact fun e => nab (List.append_inj_left' e rfl)
  obtain ⟨c, hc⟩ : ∃ c : Nat, comm (L a0 ++ [0]) (L a1 ++ [0]) = c := ⟨_, rfl⟩
  obtain ⟨tb1, tb2⟩ := tb c hc
  obtain ⟨n, hn⟩ : ∃ n : Int, ((c : Nat) : Int) = n := ⟨_, rfl⟩
  rw [hc, hn] at C
  rw [hn] at tb2
  rw [show c = n.toNat from by omega] at tb1
  have z0 : n < ((a0 ++ (⟨#[0]⟩ : ByteArray)).size : Int) := by omega
  have z1 : n < ((a1 ++ (⟨#[0]⟩ : ByteArray)).size : Int) := by omega
  have z2 : 0 ≤ n := by omega
  clear tb hc hn u0 u1 nab hab h h2 l0 l1 k0 k1 s1 r0 r1
  generalize a0 ++ (⟨#[0]⟩ : ByteArray) = x at *
  generalize a1 ++ (⟨#[0]⟩ : ByteArray) = y at *
  have p1 : (0 ≤ n) = True := eq_true z2
  have p2 : decide (0 ≤ n) = true := decide_eq_true z2
  have p3 : decide ((x.size : Int) ≤ n) = false := decide_eq_false (by omega)
  have p4 : decide ((y.size : Int) ≤ n) = false := decide_eq_false (by omega)
  have p5 : (n ≤ (x.size : Int)) = True := eq_true (by omega)
  have p6 : (n ≤ (y.size : Int)) = True := eq_true (by omega)
  have p7 : (n < (x.size : Int)) = True := eq_true (by omega)
  have p8 : (n < (y.size : Int)) = True := eq_true (by omega)
  have q1 : ((x.extract 0 n.toNat).toList == (y.extract 0 n.toNat).toList) = true := beq_iff_eq.2 tb1
  have q2 : ((x.extract 0 n.toNat).toList != (y.extract 0 n.toNat).toList) = false := bne_eq_false_iff_eq.2 tb1
  have b1 : (bt x n == bt y n) = false := beq_eq_false_iff_ne.2 tb2
  have hx := bt_at x n
  have hy := bt_at y n
  have g1 : (a0.toList == a1.toList) = false := beq_eq_false_iff_ne.2 ne1
  have g2 : (x.toList == y.toList) = false := beq_eq_false_iff_ne.2 ne2
  have g3 : (a0.toList != a1.toList) = true := bne_iff_ne.2 ne1
  have g4 : (x.toList != y.toList) = true := bne_iff_ne.2 ne2
  have g5 : (a1.toList == a0.toList) = false := beq_eq_false_iff_ne.2 (fun e => ne1 e.symm)
  clear tb1 tb2 ne1 ne2 z0 z1 z2
  rw [lt] at f2 tot
  have e1 : (Op.bytesLess a1.toList a0.toList || a1.toList == a0.toList) = true := tot
  have e2 : Op.bytesLess a1.toList a0.toList = true := by rw [g5] at e1; simpa using e1
  clear tot tot2 f3
  go_enter Try.func7, Try.ntmps7
  go_wp2_with (first | (go_at_call 12; (with_reducible refine (term_Right.calls a0 true _ A.out).mono ?_); rintro e w' ⟨rfl, ⟨nd2, rfl⟩⟩) | (go_at_call 12; (with_reducible refine (term_Right.calls a1 true _ A2.out).mono ?_); rintro e w' ⟨rfl, ⟨nd2, rfl⟩⟩) | (go_at_call 9; (with_reducible refine (term_Key.calls a0 x _ B.out).mono ?_); rintro e w' ⟨rfl, ⟨nd2, rfl⟩⟩) | (go_at_call 9; (with_reducible refine (term_Key.calls a1 y _ B2.out).mono ?_); rintro e w' ⟨rfl, ⟨nd2, rfl⟩⟩) | (go_at_call 10; (with_reducible refine (term_Of.calls x a0 true _ O.out).mono ?_); rintro e w' ⟨rfl, ⟨nd2, rfl⟩⟩) | (go_at_call 11; (with_reducible refine (term_Common.calls 1001 x y n _ C.out).mono ?_); rintro e w' ⟨rfl, ⟨nd2, rfl⟩⟩))
  go_quiet (fail)
  go_wp2_with (first | (go_at_call 18; (with_reducible refine (term_Next.calls a0 x _ M.out).mono ?_); rintro e w' ⟨rfl, ⟨nd2, rfl⟩⟩) | (go_at_call 12; (with_reducible refine (term_Right.calls x false _ X.out).mono ?_); rintro e w' ⟨rfl, ⟨nd2, rfl⟩⟩) | (go_at_call 3; (with_reducible refine (tendrillaw6_TermRuns.calls 1001 true _ R.out).mono ?_); rintro e w' ⟨rfl, ⟨nd2, rfl⟩⟩))
  go_ret
  exact ⟨rfl, by repeat (first | (with_reducible first | exact Below.refl _ _ | apply below_alloc | apply pw_below_drewN | apply below_drew1) | exact Below.refl _ _)⟩


theorem walk (a0 a1 : ByteArray) (w : World) (h0 : a0.size ≤ 140737488351232) (h1 : a1.size ≤ 140737488351232) :
    Calls Try.prog 7 #[.string a0, .string a1] w fun e w' => e = .returned (.bool true) ∧ Below w.heap.size w w' := by
  by_cases h : Right (L a0)
  · by_cases h2 : Right (L a1)
    · by_cases e : a0 = a1
      · exact walk_same a0 a1 w h h2 e
      · cases lt : Op.bytesLess a0.toList a1.toList with
        | true => exact walk_less a0 a1 w h h2 e lt
        | false => exact walk_more a0 a1 w h h2 e lt
    · exact walk_no2 a0 a1 w h h2
  · exact walk_no a0 a1 w h
theorem own : ownKnob Try.prog.godebug = none := by kernel_rfl
set_option maxRecDepth 100000 in
theorem lifted (os : Os) (started : os.Started) (H : Type) (enc : TypeId × Value → H) :
    ReturnsInHanded {} Try.checked os 7 .any (Rows.termKeysSpec.pre6 enc Try.prog Try.f7 Rows.termKeysRow.domain false) (Rows.termKeysSpec.post enc Try.prog Try.f7 false true false false) := by
  refine returnsInHanded_of_change_sized (C := Try.checked) own started (by kernel_rfl) Try.func7
    (ChangeSpec.witness6 (enc := enc) (C := Try.checked) false ⟨#[], #[.string ByteArray.empty, .string ByteArray.empty], []⟩ 8 (by kernel_rfl) (by kernel_rfl) (by kernel_rfl) (by kernel_rfl)) ?_
  intro W base args ds gs before hval0 hW hcnd hsz0 _
  have hsz : (DataW.weightsEach Try.prog (Try.f7.params.toList ++ Rows.termKeysSpec.plain.varTypes Try.prog) (ds ++ gs)).all (· ≤ reachBytes) = true := hsz0
  have hval : ∀ (j : Nat) t v, Try.f7.params[j]? = some t → args[j]? = some v → Value.okWide Try.prog W .any base t v := hval0
  have hW' := hW
  obtain ⟨p, q, hA0, hV, rfl, hfz, hnd⟩ := hW
  have hA : DataW.TrodAll enc Try.prog W 0 (fun _ => true) true Try.f7.params.toList args.toList ds p := hA0
  rw [Try.params7] at hA hval hsz
  obtain ⟨v0, vs0, d0, ds0, p0, q0, hargs, rfl, rfl, h0, r0⟩ := trodAll_cons hA
  obtain ⟨v1, vs1, d1, ds1, p1, q1, rfl, rfl, rfl, h1, r1⟩ := trodAll_cons r0
  obtain ⟨rfl, rfl, rfl⟩ := trodAll_nil r1
  obtain rfl : args = #[v0, v1] := by cases args; simp_all
  obtain ⟨rfl, rfl⟩ := trodVars_none hV
  obtain ⟨a0, rfl, rfl, rfl, y0⟩ := open_string Try.underlying9 (hval 0 9 v0 rfl rfl) h0
  have w0 : a0.size ≤ 140737488351232 := by
    have z := sized_string hsz (j := 0) (t := 9) rfl rfl
    rw [Array.length_toList] at z
    exact z
  obtain ⟨a1, rfl, rfl, rfl, y1⟩ := open_string Try.underlying9 (hval 1 9 v1 rfl rfl) h1
  have w1 : a1.size ≤ 140737488351232 := by
    have z := sized_string hsz (j := 1) (t := 9) rfl rfl
    rw [Array.length_toList] at z
    exact z
  clear hA0 hval0 hsz0 hsz
  refine (walk a0 a1 W w0 w1).mono fun e W' ⟨he, bel⟩ => ?_
  subst he
  exact ⟨_, rfl, _, _, _, [], _, [], hW', trodAll_mk1 (shut_bool Try.underlying4 _), (trodAll_cons_mk (shut_string Try.underlying9 y0) (trodAll_cons_mk (shut_string Try.underlying9 y1) trodAll_mk0)), rfl, bel.frame _, fun h => by cases h⟩
theorem over : Rows.termKeysRow.holds Try.pinned (OpenSpec.ofChange Rows.termKeysSpec) :=
  OpenClaim.holds_of_wide 7 Try.f7 rfl rfl rfl rfl rfl rfl rfl ⟨rfl, rfl, rfl, rfl, rfl⟩ rfl rfl rfl rfl rfl (by kernel_rfl) Try.func7 (by kernel_rfl)
    (of_decide_eq_true (by kernel_rfl)) (by unfold Func.isWrapper; first | (rw [if_pos (by decide +kernel)]; kernel_rfl) | (rw [if_neg (by decide +kernel)]; exact ⟨rfl, rfl⟩))
    (fun os started H enc _ => lifted os started H enc)
theorem proved : Rows.TermKeysSaid := over
#print axioms proved
end Go.Proofs.Ytpcccndeojbinaa.termKeys
namespace Go.Proofs.Ytpcccndeojbinaa
/-- The row, under a short name, for the claim. -/
theorem termKeys_holds : Rows.TermKeysSaid := termKeys.proved
end Go.Proofs.Ytpcccndeojbinaa
