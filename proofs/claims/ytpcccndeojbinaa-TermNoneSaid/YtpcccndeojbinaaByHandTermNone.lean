/- tendrillaw6.TermNone returns true for every input; no condition. -/
import Derived.Test.YtpcccndeojbinaaRows
import Derived.Test.YtpcccndeojbinaaPTermNonex1
import Derived.Test.YtpcccndeojbinaaTxt
import Derived.WalkKit
import Derived.WalkLawsBesides
import Derived.ProofKit
import Derived.OpenShut
import Derived.ShutString
import Derived.ChangeOld
import Derived.Below
import Derived.SizedLaws
namespace Go.Proofs.Ytpcccndeojbinaa.termNone
open Go.ChangeShapes Go.WideShapes Go.ChangeAt Go.RowKit
open Go.ChangeMaps (open_string shut_string)
open Go.Tx Go.Proofs.Ytpcccndeojbinaa.PTermNone Go.Proofs.YtpcccndeojbinaaW.PrintWords Go.Proofs.YtpcccndeojbinaaW.PrintLast Go.Proofs.YtpcccndeojbinaaW.PrintMore
set_option linter.unusedVariables false
set_option linter.unusedSimpArgs false
attribute [local go_sem] max2_int min2_int max_two min_two max_three min_three max_four min_four
theorem within_f (n hi : Int) (h0 : 0 ≤ hi) (h1 : hi ≤ 1099511627776) :
    ∃ r, (if (wrap64 ((wrap64 (hi - 0)) + 1)) = 0 then (none) else (if (Int.tmod n (wrap64 ((wrap64 (hi - 0)) + 1))) < 0 then (some (wrap64 (0 + (wrap64 ((wrap64 ((wrap64 ((Int.tmod n (wrap64 ((wrap64 (hi - 0)) + 1))) + hi)) - 0)) + 1))))) else (some (wrap64 (0 + (Int.tmod n (wrap64 ((wrap64 (hi - 0)) + 1))))))) : Option Int) = some r ∧ 0 ≤ r ∧ r ≤ hi := by
  have e : wrap64 (wrap64 (hi - 0) + 1) = hi + 1 := by unfold wrap64; omega
  rw [e, if_neg (by omega)]
  have t1 : Int.tmod n (hi + 1) < hi + 1 := by
    have := Int.tmod_lt_of_pos n (show 0 < hi + 1 by omega); omega
  have t2 : -(hi + 1) < Int.tmod n (hi + 1) := by
    have := Int.lt_tmod_of_pos n (show 0 < hi + 1 by omega); omega
  by_cases hneg : Int.tmod n (hi + 1) < 0
  · rw [if_pos hneg]
    refine ⟨Int.tmod n (hi + 1) + hi + 1, ?_, by omega, by omega⟩
    congr 1
    unfold wrap64; omega
  · rw [if_neg hneg]
    refine ⟨Int.tmod n (hi + 1), ?_, by omega, by omega⟩
    congr 1
    unfold wrap64; omega

theorem within_fits (n hi : Int) (h0 : 0 ≤ hi) (h1 : hi ≤ 1099511627776) : ∃ r, tendrilbook_Within.f n 0 hi = some r ∧ 0 ≤ r ∧ r ≤ hi := within_f n hi h0 h1

theorem bt_L (s : ByteArray) (i : Nat) (h : i < (L s).length) : bt s (i : Int) = ((L s)[i].toNat : Int) := by
  have h2 : i < s.size := by rw [← size_L]; exact h
  unfold bt
  rw [dif_pos (by simpa using h2)]
  rfl
theorem bt_eq (a b : UInt8) : ((a.toNat : Int) = (b.toNat : Int)) ↔ a = b := by
  rw [Int.ofNat_inj]; exact ⟨UInt8.toNat_inj.1, fun h => by rw [h]⟩
theorem nz (c : UInt8) (h : c ≠ 0) : ¬ ((c.toNat : Int) = 0) := by
  intro e
  exact h (UInt8.toNat_inj.1 (show c.toNat = (0 : UInt8).toNat from Int.ofNat_inj.1 e))
theorem Right_f (s : ByteArray) : term_Right.f s = some (decide (Right (L s))) := by
  unfold term_Right.f strings_IndexByte.f
  rw [toList_L]
  by_cases h0 : L s = []
  · rw [if_pos h0, h0]; decide
  rw [if_neg h0]
  by_cases h1 : (s.size : Int) ≤ 12
  · rw [if_pos h1]
    simp only [Option.bind_some]
    congr 1
    rw [decide_eq_decide]
    have e : ((0 : Int).toNat.toUInt8) = 0 := rfl
    rw [e, index_neg]
    have := size_L s
    exact ⟨fun h => ⟨h0, by omega, h⟩, fun h => h.2.2⟩
  · rw [if_neg h1]
    congr 1
    symm; rw [decide_eq_false_iff_not]
    have := size_L s
    exact fun h => by have := h.2.1; omega
theorem Key_f (s : ByteArray) : ∃ r, term_Key.f s = some r ∧ L r = key (L s) := by
  unfold term_Key.f
  rw [Right_f]; simp only [Option.bind_some]
  by_cases h : Right (L s)
  · have := size_L s
    have h2 := h.2.1
    rw [if_pos (by simpa using h), if_pos (by omega)]
    refine ⟨_, rfl, ?_⟩
    rw [L_append, key, if_pos h]
  · rw [if_neg (by simpa using h)]
    exact ⟨_, rfl, by rw [key, if_neg h]⟩
theorem Common_l (k : Nat) (a b : ByteArray) (ha : a.size ≤ 1000) (d : Nat) : ∀ i : Nat, a.size - i = d → d < k → i ≤ a.size →
    term_Common.l0 k a b i = some ((i + comm ((L a).drop i) ((L b).drop i) : Nat) : Int) := by
  induction d generalizing k with
  | zero =>
    intro i hi hk hl
    obtain ⟨k, rfl⟩ : ∃ m, k = m + 1 := ⟨k - 1, by omega⟩
    simp only [term_Common.l0]
    rw [if_neg (by omega), comm_end _ _ _ (Or.inl (by rw [size_L]; omega))]; rfl
  | succ d ih =>
    intro i hi hk hl
    obtain ⟨k, rfl⟩ : ∃ m, k = m + 1 := ⟨k - 1, by omega⟩
    simp only [term_Common.l0]
    have la : i < (L a).length := by rw [size_L]; omega
    rw [if_pos (by omega)]
    by_cases hb : i < b.size
    · have lb : i < (L b).length := by rw [size_L]; omega
      rw [if_pos (by omega), if_pos (by omega), bt_L a i la, bt_L b i lb, comm_drop _ _ _ la lb]
      by_cases e : (L a)[i] = (L b)[i]
      · rw [if_pos ((bt_eq _ _).2 e), if_pos e, show wrap64 ((i : Int) + 1) = ((i + 1 : Nat) : Int) from by unfold wrap64; omega]
        rw [ih k (i + 1) (by omega) (by omega) (by omega)]
        congr 1; omega
      · rw [if_neg (fun h => e ((bt_eq _ _).1 h)), if_neg e]; rfl
    · rw [if_neg (by omega), comm_end _ _ _ (Or.inr (by rw [size_L]; omega))]; rfl
theorem Common_f (k : Nat) (a b : ByteArray) (ha : a.size ≤ 1000) (hk : 1000 < k) : term_Common.f k a b = some ((comm (L a) (L b) : Nat) : Int) := by
  unfold term_Common.f
  have := Common_l k a b ha a.size 0 (by omega) (by omega) (by omega)
  simpa using this

theorem HasSuffix_f (s : ByteArray) (hs : s.size ≤ 140737488351233) : stringslite_HasSuffix.f s (⟨#[0]⟩ : ByteArray) = some (decide ((L s).getLast? = some 0)) := by
  unfold stringslite_HasSuffix.f
  have e1 : ((⟨#[0]⟩ : ByteArray).size : Int) = 1 := rfl
  rw [e1]
  have hl := size_L s
  by_cases h : (s.size : Int) ≥ 1
  · rw [if_pos h, show wrap64 ((s.size : Int) - 1) = (s.size : Int) - 1 from by unfold wrap64; omega, if_pos (by omega), if_pos (by omega)]
    congr 1
    rw [toList_L, toList_L, L_extract, Bool.eq_iff_iff, beq_iff_eq, decide_eq_true_eq]
    have e2 : (L s).drop ((s.size : Int) - 1).toNat = [(L s)[s.size - 1]'(by omega)] := by
      rw [show ((s.size : Int) - 1).toNat = s.size - 1 from by omega, List.drop_eq_getElem_cons (by omega), List.drop_of_length_le (by omega)]
    rw [e2, show s.size - ((s.size : Int) - 1).toNat = 1 from by omega, List.take_succ_cons, List.take_nil]
    rw [List.getLast?_eq_getElem?, List.getElem?_eq_getElem (by omega)]
    have e3 : L (⟨#[0]⟩ : ByteArray) = [0] := rfl
    rw [e3]
    simp only [hl, List.cons.injEq, and_true, Option.some.injEq]
  · rw [if_neg h]
    have : L s = [] := List.eq_nil_of_length_eq_zero (by omega)
    rw [this]; rfl
theorem Of_f (s : ByteArray) (hs : s.size ≤ 140737488351233) : ∃ r, term_Of.f s = some (r, decide (IsKey (L s))) ∧ (IsKey (L s) → L s = L r ++ [0]) ∧ (¬ IsKey (L s) → L r = []) := by
  unfold term_Of.f strings_CutSuffix.f stringslite_CutSuffix.f
  rw [HasSuffix_f s hs]; simp only [Option.bind_some]
  have hl := size_L s
  have e1 : ((⟨#[0]⟩ : ByteArray).size : Int) = 1 := rfl
  rw [e1]
  by_cases h : (L s).getLast? = some 0
  · have hcut := last_cut h
    have hpos : 0 < (L s).length := by rw [hcut]; simp
    rw [if_pos (by simpa using h), show wrap64 ((s.size : Int) - 1) = (s.size : Int) - 1 from by unfold wrap64; omega, if_pos (by omega), if_pos (by omega)]
    simp only [Option.bind_some, if_true]
    have hx : L (s.extract 0 ((s.size : Int) - 1).toNat) = (L s).dropLast := by
      rw [L_extract, List.drop_zero, dropLast_take, hl, show ((s.size : Int) - 1).toNat - 0 = s.size - 1 from by omega]
    rw [Right_f, hx]; simp only [Option.bind_some]
    by_cases hr : Right (L s).dropLast
    · have hk : IsKey (L s) := ⟨h, hr⟩
      rw [if_pos (by simpa using hr), decide_eq_true hk]
      exact ⟨_, rfl, fun _ => by rw [hx]; exact hcut, fun hn => absurd hk hn⟩
    · have hk : ¬ IsKey (L s) := fun z => hr z.2
      rw [if_neg (by simpa using hr), decide_eq_false hk]
      exact ⟨_, rfl, fun hn => absurd hn hk, fun _ => rfl⟩
  · have hk : ¬ IsKey (L s) := fun z => h z.1
    rw [if_neg (by simpa using h), decide_eq_false hk]
    simp only [Option.bind_some, Bool.false_eq_true, if_false]
    exact ⟨_, rfl, fun hn => absurd hn hk, fun _ => rfl⟩

theorem L_ab : L (⟨#[97, 98]⟩ : ByteArray) = [97, 98] := rfl
theorem runs_f (k : Nat) (hk : 1000 < k) : tendrillaw6_TermRuns.f k = some true := by
  unfold tendrillaw6_TermRuns.f
  obtain ⟨r, hr, er⟩ := Key_f (⟨#[97, 98]⟩ : ByteArray)
  have e1 : key (L (⟨#[97, 98]⟩ : ByteArray)) = [97, 98, 0] := by decide
  rw [e1] at er
  obtain ⟨q, hq, eq1, _⟩ := Of_f r (by rw [← size_L, er]; decide)
  have hkey : IsKey (L r) := by rw [er]; decide
  have eq2 := eq1 hkey
  rw [decide_eq_true hkey] at hq
  rw [er, show ([97, 98, 0] : List UInt8) = [97, 98] ++ [0] from rfl] at eq2
  have eq3 : L q = [97, 98] := (List.append_inj_left' eq2 rfl).symm
  obtain ⟨z, hz, ez⟩ := Key_f (⟨#[]⟩ : ByteArray)
  have e2 : key (L (⟨#[]⟩ : ByteArray)) = [] := by decide
  rw [e2] at ez
  rw [hr]; simp only [Option.bind_some]
  rw [hq]; simp only [Option.bind_some]
  rw [toList_L, toList_L, er, eq3, hz]; simp only [Option.bind_some]
  rw [toList_L, ez, Common_f k _ _ (by decide) hk, Right_f]; simp only [Option.bind_some, if_true]
  decide

theorem none_facts (s : ByteArray) (r : Int) (hs : s.size ≤ 40) (h0 : 0 ≤ r) (h1 : r ≤ s.size) :
    ¬ Right (L (s.extract 0 r.toNat ++ (⟨#[0]⟩ : ByteArray) ++ s.extract r.toNat s.size)) ∧ ¬ Right (L (s ++ (⟨#[48, 49, 50, 51, 52, 53, 54, 55, 56, 57, 97, 98, 99]⟩ : ByteArray))) := by
  constructor
  · intro h
    apply h.2.2
    rw [L_append, L_append]
    exact List.mem_append_left _ (List.mem_append_right _ (List.mem_cons_self))
  · intro h
    have := h.2.1
    rw [L_append, List.length_append] at this
    have e : (L (⟨#[48, 49, 50, 51, 52, 53, 54, 55, 56, 57, 97, 98, 99]⟩ : ByteArray)).length = 13 := rfl
    omega
theorem key_no (s : ByteArray) (h : ¬ Right (L s)) : term_Key.f s = some (⟨#[]⟩ : ByteArray) := by
  unfold term_Key.f; rw [Right_f]; simp only [Option.bind_some]; rw [if_neg (by simpa using h)]
theorem right_no (s : ByteArray) (h : ¬ Right (L s)) : term_Right.f s = some false := by
  rw [Right_f, decide_eq_false h]
theorem last_nought (s : ByteArray) (h : IsKey (L s)) : 0 < s.size ∧ bt s ((s.size : Int) - 1) = 0 := by
  have hc := isKey_cut h
  have hl := size_L s
  have hp : 0 < (L s).length := by rw [hc]; simp
  refine ⟨by omega, ?_⟩
  rw [show (s.size : Int) - 1 = ((s.size - 1 : Nat) : Int) from by omega, bt_L s _ (by omega)]
  have e : (L s)[s.size - 1]? = some 0 := by
    have := h.1
    rw [List.getLast?_eq_getElem?, hl] at this
    exact this
  rw [List.getElem?_eq_getElem (by omega)] at e
  rw [Option.some.inj e]; rfl

set_option maxHeartbeats 8000000 in
set_option maxRecDepth 100000 in
theorem walk (a0 : ByteArray) (a1 : Int) (w : World) (h0 : a0.size ≤ 140737488351232) (w1 : (Lit.int .i64 a1).wf = true) :
    Calls Try.prog 4 #[.string a0, .int .i64 a1] w fun e w' => e = .returned (.bool true) ∧ Below w.heap.size w w' := by
  have R : Aside0 (tendrillaw6_TermRuns.f 1001 = some true) := ⟨runs_f 1001 (by decide)⟩
  by_cases big : 40 < (a0.size : Int)
  · have hs : (a0.extract 0 40).size = 40 := by rw [ByteArray.size_extract]; omega
    have b1 : decide (40 < (a0.size : Int)) = true := decide_eq_true big
    have b2 : (40 ≤ (a0.size : Int)) = True := eq_true (by omega)
    have HS := Aside0.mk hs
    have hmin : min 40 a0.size = 40 := by omega
    clear hs
    go_enter Try.func4, Try.ntmps4
    go_wp2_with fail
    generalize a0.extract 0 40 = s at *
    have hs := HS.out
    clear HS big b1 b2 hmin

    obtain ⟨r, hr, r0, r1⟩ := within_fits a1 40 (by omega) (by omega)
    have wr : Aside0 (tendrilbook_Within.f a1 0 40 = some r) := ⟨hr⟩
    clear hr
    have F := none_facts s r (by omega) r0 (by omega)
    obtain ⟨x, hx, x1, x2⟩ := Of_f s (by omega)
    have lastn := last_nought s
    have G1 := Aside0.mk F
    have G2 := Aside0.mk hx
    have G3 := Aside0.mk lastn
    clear F hx x1 x2 lastn
    refine (tendrilbook_Within.calls a1 0 _ r _ wr.out).mono ?_
    rintro e w1 ⟨rfl, ⟨nd, rfl⟩⟩
    have p1 : (0 ≤ r) = True := eq_true r0
    have p2 : decide (0 ≤ r) = true := decide_eq_true r0
    have p3 : (r ≤ 40) = True := eq_true r1
    have p4 : decide (r ≤ 40) = true := decide_eq_true r1
    have p5 : (r ≤ (s.size : Int)) = True := eq_true (by omega)
    have z1 : (s.extract 0 r.toNat).size + 1 ≤ 9223372036854775807 := by rw [ByteArray.size_extract]; omega
    have z2 : (s.extract 0 r.toNat ++ (⟨#[0]⟩ : ByteArray)).size + (s.extract r.toNat s.size).size ≤ 9223372036854775807 := by
      have e1 : (⟨#[0]⟩ : ByteArray).size = 1 := rfl
      rw [ByteArray.size_append, ByteArray.size_extract, ByteArray.size_extract, e1]; omega
    have z3 : s.size + 13 ≤ 9223372036854775807 := by omega
    have hs1 : s.size ≤ 40 := by omega
    have p6 : decide (r ≤ (s.size : Int)) = true := decide_eq_true (by omega)
    have r2 : r ≤ (s.size : Int) := by omega
    clear wr hs p3 p4 r1
    go_wp2
    go_quiet (fail)
    go_wp2_with fail
    generalize s.extract 0 r.toNat ++ (⟨#[0]⟩ : ByteArray) ++ s.extract r.toNat s.size = n at *
    generalize s ++ (⟨#[48, 49, 50, 51, 52, 53, 54, 55, 56, 57, 97, 98, 99]⟩ : ByteArray) = lg at *
    have m1 : Aside0 (term_Right.f n = some false) := ⟨right_no n G1.out.1⟩
    have m2 : Aside0 (term_Key.f n = some (⟨#[]⟩ : ByteArray)) := ⟨key_no n G1.out.1⟩
    have m3 : Aside0 (term_Right.f (⟨#[]⟩ : ByteArray) = some false) := ⟨right_no _ (by decide)⟩
    have m4 : Aside0 (term_Right.f lg = some false) := ⟨right_no lg G1.out.2⟩
    have m5 : Aside0 (term_Key.f lg = some (⟨#[]⟩ : ByteArray)) := ⟨key_no lg G1.out.2⟩
    clear G1 p1 p2 p5 p6 r0 r2 z1 z2 z3
    by_cases hk : IsKey (L s)
    · have G4 : Aside0 (term_Of.f s = some (x, true)) := ⟨by rw [← decide_eq_true hk]; exact G2.out⟩
      have G5 := G3.out hk
      obtain ⟨k0, k1⟩ := G5
      clear G2 G3 hk
      have hx := bt_at s ((s.size : Int) - 1)
      rw [k1] at hx
      have hx2 : ∀ h : s.size - 1 < s.size, (s[s.size - 1]'h).toNat = 0 := by
        intro h
        have e : ((s.size : Int) - 1).toNat = s.size - 1 := by omega
        have := hx (by omega)
        simp only [e] at this
        exact Int.ofNat_inj.1 this
      clear hx
      have q1 : (0 ≤ (s.size : Int) - 1) = True := eq_true (by omega)
      have q2 : ((s.size : Int) - 1 < (s.size : Int)) = True := eq_true (by omega)
      have q4 : decide (0 < s.size) = true := decide_eq_true k0
      have q3 : decide ((0 : Int) < (s.size : Int)) = true := decide_eq_true (by omega)
      clear k1
      refine (term_Of.calls s x true _ G4.out).mono ?_
      rintro e w1 ⟨rfl, ⟨nd, rfl⟩⟩
      clear G4
      go_wp2_with (first | (go_at_call 12; (with_reducible refine (term_Right.calls n false _ m1.out).mono ?_); rintro e w' ⟨rfl, ⟨nd2, rfl⟩⟩) | (go_at_call 9; (with_reducible refine (term_Key.calls n (⟨#[]⟩ : ByteArray) _ m2.out).mono ?_); rintro e w' ⟨rfl, ⟨nd2, rfl⟩⟩) | (go_at_call 12; (with_reducible refine (term_Right.calls (⟨#[]⟩ : ByteArray) false _ m3.out).mono ?_); rintro e w' ⟨rfl, ⟨nd2, rfl⟩⟩) | (go_at_call 12; (with_reducible refine (term_Right.calls lg false _ m4.out).mono ?_); rintro e w' ⟨rfl, ⟨nd2, rfl⟩⟩) | (go_at_call 9; (with_reducible refine (term_Key.calls lg (⟨#[]⟩ : ByteArray) _ m5.out).mono ?_); rintro e w' ⟨rfl, ⟨nd2, rfl⟩⟩) | (go_at_call 3; (with_reducible refine (tendrillaw6_TermRuns.calls 1001 true _ R.out).mono ?_); rintro e w' ⟨rfl, ⟨nd2, rfl⟩⟩))
      go_ret
      exact ⟨rfl, by repeat (first | (with_reducible first | exact Below.refl _ _ | apply below_alloc | apply pw_below_drewN | apply below_drew1) | exact Below.refl _ _)⟩
    · have G4 : Aside0 (term_Of.f s = some (x, false)) := ⟨by rw [← decide_eq_false hk]; exact G2.out⟩
      clear G2 G3 hk
      refine (term_Of.calls s x false _ G4.out).mono ?_
      rintro e w1 ⟨rfl, ⟨nd, rfl⟩⟩
      clear G4
      go_wp2_with (first | (go_at_call 12; (with_reducible refine (term_Right.calls n false _ m1.out).mono ?_); rintro e w' ⟨rfl, ⟨nd2, rfl⟩⟩) | (go_at_call 9; (with_reducible refine (term_Key.calls n (⟨#[]⟩ : ByteArray) _ m2.out).mono ?_); rintro e w' ⟨rfl, ⟨nd2, rfl⟩⟩) | (go_at_call 12; (with_reducible refine (term_Right.calls (⟨#[]⟩ : ByteArray) false _ m3.out).mono ?_); rintro e w' ⟨rfl, ⟨nd2, rfl⟩⟩) | (go_at_call 12; (with_reducible refine (term_Right.calls lg false _ m4.out).mono ?_); rintro e w' ⟨rfl, ⟨nd2, rfl⟩⟩) | (go_at_call 9; (with_reducible refine (term_Key.calls lg (⟨#[]⟩ : ByteArray) _ m5.out).mono ?_); rintro e w' ⟨rfl, ⟨nd2, rfl⟩⟩) | (go_at_call 3; (with_reducible refine (tendrillaw6_TermRuns.calls 1001 true _ R.out).mono ?_); rintro e w' ⟨rfl, ⟨nd2, rfl⟩⟩))
      go_ret
      exact ⟨rfl, by repeat (first | (with_reducible first | exact Below.refl _ _ | apply below_alloc | apply pw_below_drewN | apply below_drew1) | exact Below.refl _ _)⟩

  · have hs : a0.size ≤ 40 := by omega
    have b1 : decide (40 < (a0.size : Int)) = false := decide_eq_false big
    go_enter Try.func4, Try.ntmps4
    go_wp2_with fail
    clear big b1

    obtain ⟨r, hr, r0, r1⟩ := within_fits a1 (a0.size : Int) (by omega) (by omega)
    have wr : Aside0 (tendrilbook_Within.f a1 0 (a0.size : Int) = some r) := ⟨hr⟩
    clear hr
    have F := none_facts a0 r (by omega) r0 (by omega)
    obtain ⟨x, hx, x1, x2⟩ := Of_f a0 (by omega)
    have lastn := last_nought a0
    have G1 := Aside0.mk F
    have G2 := Aside0.mk hx
    have G3 := Aside0.mk lastn
    clear F hx x1 x2 lastn
    refine (tendrilbook_Within.calls a1 0 _ r _ wr.out).mono ?_
    rintro e w1 ⟨rfl, ⟨nd, rfl⟩⟩
    have p1 : (0 ≤ r) = True := eq_true r0
    have p2 : decide (0 ≤ r) = true := decide_eq_true r0
    have p3 : (r ≤ (a0.size : Int)) = True := eq_true r1
    have p4 : decide (r ≤ (a0.size : Int)) = true := decide_eq_true r1
    have p5 : (r ≤ (a0.size : Int)) = True := eq_true (by omega)
    have z1 : (a0.extract 0 r.toNat).size + 1 ≤ 9223372036854775807 := by rw [ByteArray.size_extract]; omega
    have z2 : (a0.extract 0 r.toNat ++ (⟨#[0]⟩ : ByteArray)).size + (a0.extract r.toNat a0.size).size ≤ 9223372036854775807 := by
      have e1 : (⟨#[0]⟩ : ByteArray).size = 1 := rfl
      rw [ByteArray.size_append, ByteArray.size_extract, ByteArray.size_extract, e1]; omega
    have z3 : a0.size + 13 ≤ 9223372036854775807 := by omega
    have hs1 : a0.size ≤ 40 := by omega
    have p6 : decide (r ≤ (a0.size : Int)) = true := decide_eq_true (by omega)
    have r2 : r ≤ (a0.size : Int) := by omega
    clear wr hs p3 p4 r1
    go_wp2
    go_quiet (fail)
    go_wp2_with fail
    generalize a0.extract 0 r.toNat ++ (⟨#[0]⟩ : ByteArray) ++ a0.extract r.toNat a0.size = n at *
    generalize a0 ++ (⟨#[48, 49, 50, 51, 52, 53, 54, 55, 56, 57, 97, 98, 99]⟩ : ByteArray) = lg at *
    have m1 : Aside0 (term_Right.f n = some false) := ⟨right_no n G1.out.1⟩
    have m2 : Aside0 (term_Key.f n = some (⟨#[]⟩ : ByteArray)) := ⟨key_no n G1.out.1⟩
    have m3 : Aside0 (term_Right.f (⟨#[]⟩ : ByteArray) = some false) := ⟨right_no _ (by decide)⟩
    have m4 : Aside0 (term_Right.f lg = some false) := ⟨right_no lg G1.out.2⟩
    have m5 : Aside0 (term_Key.f lg = some (⟨#[]⟩ : ByteArray)) := ⟨key_no lg G1.out.2⟩
    clear G1 p1 p2 p5 p6 r0 r2 z1 z2 z3
    by_cases hk : IsKey (L a0)
    · have G4 : Aside0 (term_Of.f a0 = some (x, true)) := ⟨by rw [← decide_eq_true hk]; exact G2.out⟩
      have G5 := G3.out hk
      obtain ⟨k0, k1⟩ := G5
      clear G2 G3 hk
      have hx := bt_at a0 ((a0.size : Int) - 1)
      rw [k1] at hx
      have hx2 : ∀ h : a0.size - 1 < a0.size, (a0[a0.size - 1]'h).toNat = 0 := by
        intro h
        have e : ((a0.size : Int) - 1).toNat = a0.size - 1 := by omega
        have := hx (by omega)
        simp only [e] at this
        exact Int.ofNat_inj.1 this
      clear hx
      have q1 : (0 ≤ (a0.size : Int) - 1) = True := eq_true (by omega)
      have q2 : ((a0.size : Int) - 1 < (a0.size : Int)) = True := eq_true (by omega)
      have q4 : decide (0 < a0.size) = true := decide_eq_true k0
      have q3 : decide ((0 : Int) < (a0.size : Int)) = true := decide_eq_true (by omega)
      clear k1
      refine (term_Of.calls a0 x true _ G4.out).mono ?_
      rintro e w1 ⟨rfl, ⟨nd, rfl⟩⟩
      clear G4
      go_wp2_with (first | (go_at_call 12; (with_reducible refine (term_Right.calls n false _ m1.out).mono ?_); rintro e w' ⟨rfl, ⟨nd2, rfl⟩⟩) | (go_at_call 9; (with_reducible refine (term_Key.calls n (⟨#[]⟩ : ByteArray) _ m2.out).mono ?_); rintro e w' ⟨rfl, ⟨nd2, rfl⟩⟩) | (go_at_call 12; (with_reducible refine (term_Right.calls (⟨#[]⟩ : ByteArray) false _ m3.out).mono ?_); rintro e w' ⟨rfl, ⟨nd2, rfl⟩⟩) | (go_at_call 12; (with_reducible refine (term_Right.calls lg false _ m4.out).mono ?_); rintro e w' ⟨rfl, ⟨nd2, rfl⟩⟩) | (go_at_call 9; (with_reducible refine (term_Key.calls lg (⟨#[]⟩ : ByteArray) _ m5.out).mono ?_); rintro e w' ⟨rfl, ⟨nd2, rfl⟩⟩) | (go_at_call 3; (with_reducible refine (tendrillaw6_TermRuns.calls 1001 true _ R.out).mono ?_); rintro e w' ⟨rfl, ⟨nd2, rfl⟩⟩))
      go_ret
      exact ⟨rfl, by repeat (first | (with_reducible first | exact Below.refl _ _ | apply below_alloc | apply pw_below_drewN | apply below_drew1) | exact Below.refl _ _)⟩
    · have G4 : Aside0 (term_Of.f a0 = some (x, false)) := ⟨by rw [← decide_eq_false hk]; exact G2.out⟩
      clear G2 G3 hk
      refine (term_Of.calls a0 x false _ G4.out).mono ?_
      rintro e w1 ⟨rfl, ⟨nd, rfl⟩⟩
      clear G4
      go_wp2_with (first | (go_at_call 12; (with_reducible refine (term_Right.calls n false _ m1.out).mono ?_); rintro e w' ⟨rfl, ⟨nd2, rfl⟩⟩) | (go_at_call 9; (with_reducible refine (term_Key.calls n (⟨#[]⟩ : ByteArray) _ m2.out).mono ?_); rintro e w' ⟨rfl, ⟨nd2, rfl⟩⟩) | (go_at_call 12; (with_reducible refine (term_Right.calls (⟨#[]⟩ : ByteArray) false _ m3.out).mono ?_); rintro e w' ⟨rfl, ⟨nd2, rfl⟩⟩) | (go_at_call 12; (with_reducible refine (term_Right.calls lg false _ m4.out).mono ?_); rintro e w' ⟨rfl, ⟨nd2, rfl⟩⟩) | (go_at_call 9; (with_reducible refine (term_Key.calls lg (⟨#[]⟩ : ByteArray) _ m5.out).mono ?_); rintro e w' ⟨rfl, ⟨nd2, rfl⟩⟩) | (go_at_call 3; (with_reducible refine (tendrillaw6_TermRuns.calls 1001 true _ R.out).mono ?_); rintro e w' ⟨rfl, ⟨nd2, rfl⟩⟩))
      go_ret
      exact ⟨rfl, by repeat (first | (with_reducible first | exact Below.refl _ _ | apply below_alloc | apply pw_below_drewN | apply below_drew1) | exact Below.refl _ _)⟩
theorem own : ownKnob Try.prog.godebug = none := by kernel_rfl
set_option maxRecDepth 100000 in
theorem lifted (os : Os) (started : os.Started) (H : Type) (enc : TypeId × Value → H) :
    ReturnsInHanded {} Try.checked os 4 .any (Rows.termNoneSpec.pre6 enc Try.prog Try.f4 Rows.termNoneRow.domain false) (Rows.termNoneSpec.post enc Try.prog Try.f4 false true false false) := by
  refine returnsInHanded_of_change_sized (C := Try.checked) own started (by kernel_rfl) Try.func4
    (ChangeSpec.witness6 (enc := enc) (C := Try.checked) false ⟨#[], #[.string ByteArray.empty, .int .i64 0], []⟩ 8 (by kernel_rfl) (by kernel_rfl) (by kernel_rfl) (by kernel_rfl)) ?_
  intro W base args ds gs before hval0 hW hcnd hsz0 _
  have hsz : (DataW.weightsEach Try.prog (Try.f4.params.toList ++ Rows.termNoneSpec.plain.varTypes Try.prog) (ds ++ gs)).all (· ≤ reachBytes) = true := hsz0
  have hval : ∀ (j : Nat) t v, Try.f4.params[j]? = some t → args[j]? = some v → Value.okWide Try.prog W .any base t v := hval0
  have hW' := hW
  obtain ⟨p, q, hA0, hV, rfl, hfz, hnd⟩ := hW
  have hA : DataW.TrodAll enc Try.prog W 0 (fun _ => true) true Try.f4.params.toList args.toList ds p := hA0
  rw [Try.params4] at hA hval hsz
  obtain ⟨v0, vs0, d0, ds0, p0, q0, hargs, rfl, rfl, h0, r0⟩ := trodAll_cons hA
  obtain ⟨v1, vs1, d1, ds1, p1, q1, rfl, rfl, rfl, h1, r1⟩ := trodAll_cons r0
  obtain ⟨rfl, rfl, rfl⟩ := trodAll_nil r1
  obtain rfl : args = #[v0, v1] := by cases args; simp_all
  obtain ⟨rfl, rfl⟩ := trodVars_none hV
  obtain ⟨a0, rfl, rfl, rfl, y0⟩ := open_string Try.underlying9 (hval 0 9 v0 rfl rfl) h0
  have w0 : a0.size ≤ 140737488351232 := by
    have z := sized_string hsz (j := 0) (t := 9) rfl rfl
    rw [Array.length_toList] at z
    exact z
  obtain ⟨a1, rfl, rfl, rfl, w1⟩ := open_int Try.underlying3 (hval 1 3 v1 rfl rfl) h1
  clear hA0 hval0 hsz0 hsz
  refine (walk a0 a1 W w0 w1).mono fun e W' ⟨he, bel⟩ => ?_
  subst he
  exact ⟨_, rfl, _, _, _, [], _, [], hW', trodAll_mk1 (shut_bool Try.underlying4 _), (trodAll_cons_mk (shut_string Try.underlying9 y0) (trodAll_cons_mk (shut_int Try.underlying3 w1) trodAll_mk0)), rfl, bel.frame _, fun h => by cases h⟩
theorem over : Rows.termNoneRow.holds Try.pinned (OpenSpec.ofChange Rows.termNoneSpec) :=
  OpenClaim.holds_of_wide 4 Try.f4 rfl rfl rfl rfl rfl rfl rfl ⟨rfl, rfl, rfl, rfl, rfl⟩ rfl rfl rfl rfl rfl (by kernel_rfl) Try.func4 (by kernel_rfl)
    (of_decide_eq_true (by kernel_rfl)) (by unfold Func.isWrapper; first | (rw [if_pos (by decide +kernel)]; kernel_rfl) | (rw [if_neg (by decide +kernel)]; exact ⟨rfl, rfl⟩))
    (fun os started H enc _ => lifted os started H enc)
theorem proved : Rows.TermNoneSaid := over
#print axioms proved
end Go.Proofs.Ytpcccndeojbinaa.termNone
namespace Go.Proofs.Ytpcccndeojbinaa
/-- The row, under a short name, for the claim. -/
theorem termNone_holds : Rows.TermNoneSaid := termNone.proved
end Go.Proofs.Ytpcccndeojbinaa
