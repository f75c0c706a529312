/- tendrillaw6.TermCommon returns true for every input; no condition. -/
import Derived.Test.YtpcccndeojbinaaRows
import Derived.Test.YtpcccndeojbinaaPTermCommonx1
import Derived.Test.YtpcccndeojbinaaTxt
import Derived.WalkKit
import Derived.WalkLawsBesides
import Derived.ProofKit
import Derived.OpenShut
import Derived.ShutString
import Derived.ChangeOld
import Derived.Below
import Derived.SizedLaws
namespace Go.Proofs.Ytpcccndeojbinaa.termCommon
open Go.ChangeShapes Go.WideShapes Go.ChangeAt Go.RowKit
open Go.ChangeMaps (open_string shut_string)
open Go.Tx Go.Proofs.Ytpcccndeojbinaa.PTermCommon Go.Proofs.YtpcccndeojbinaaW.PrintWords Go.Proofs.YtpcccndeojbinaaW.PrintLast Go.Proofs.YtpcccndeojbinaaW.PrintMore
set_option linter.unusedVariables false
set_option linter.unusedSimpArgs false
attribute [local go_sem] max2_int min2_int max_two min_two max_three min_three max_four min_four

theorem bt_L (s : ByteArray) (i : Nat) (h : i < (L s).length) : bt s (i : Int) = ((L s)[i].toNat : Int) := by
  have h2 : i < s.size := by rw [← size_L]; exact h
  unfold bt
  rw [dif_pos (by simpa using h2)]
  rfl
theorem bt_eq (a b : UInt8) : ((a.toNat : Int) = (b.toNat : Int)) ↔ a = b := by
  rw [Int.ofNat_inj]; exact ⟨UInt8.toNat_inj.1, fun h => by rw [h]⟩
theorem nz (c : UInt8) (h : c ≠ 0) : ¬ ((c.toNat : Int) = 0) := by
  intro e
  exact h (UInt8.toNat_inj.1 (show c.toNat = (0 : UInt8).toNat from Int.ofNat_inj.1 e))
theorem Right_f (s : ByteArray) : term_Right.f s = some (decide (Right (L s))) := by
  unfold term_Right.f strings_IndexByte.f
  rw [toList_L]
  by_cases h0 : L s = []
  · rw [if_pos h0, h0]; decide
  rw [if_neg h0]
  by_cases h1 : (s.size : Int) ≤ 12
  · rw [if_pos h1]
    simp only [Option.bind_some]
    congr 1
    rw [decide_eq_decide]
    have e : ((0 : Int).toNat.toUInt8) = 0 := rfl
    rw [e, index_neg]
    have := size_L s
    exact ⟨fun h => ⟨h0, by omega, h⟩, fun h => h.2.2⟩
  · rw [if_neg h1]
    congr 1
    symm; rw [decide_eq_false_iff_not]
    have := size_L s
    exact fun h => by have := h.2.1; omega
theorem Key_f (s : ByteArray) : ∃ r, term_Key.f s = some r ∧ L r = key (L s) := by
  unfold term_Key.f
  rw [Right_f]; simp only [Option.bind_some]
  by_cases h : Right (L s)
  · have := size_L s
    have h2 := h.2.1
    rw [if_pos (by simpa using h), if_pos (by omega)]
    refine ⟨_, rfl, ?_⟩
    rw [L_append, key, if_pos h]
  · rw [if_neg (by simpa using h)]
    exact ⟨_, rfl, by rw [key, if_neg h]⟩
theorem Common_l (k : Nat) (a b : ByteArray) (ha : a.size ≤ 1000) (d : Nat) : ∀ i : Nat, a.size - i = d → d < k → i ≤ a.size →
    term_Common.l0 k a b i = some ((i + comm ((L a).drop i) ((L b).drop i) : Nat) : Int) := by
  induction d generalizing k with
  | zero =>
    intro i hi hk hl
    obtain ⟨k, rfl⟩ : ∃ m, k = m + 1 := ⟨k - 1, by omega⟩
    simp only [term_Common.l0]
    rw [if_neg (by omega), comm_end _ _ _ (Or.inl (by rw [size_L]; omega))]; rfl
  | succ d ih =>
    intro i hi hk hl
    obtain ⟨k, rfl⟩ : ∃ m, k = m + 1 := ⟨k - 1, by omega⟩
    simp only [term_Common.l0]
    have la : i < (L a).length := by rw [size_L]; omega
    rw [if_pos (by omega)]
    by_cases hb : i < b.size
    · have lb : i < (L b).length := by rw [size_L]; omega
      rw [if_pos (by omega), if_pos (by omega), bt_L a i la, bt_L b i lb, comm_drop _ _ _ la lb]
      by_cases e : (L a)[i] = (L b)[i]
      · rw [if_pos ((bt_eq _ _).2 e), if_pos e, show wrap64 ((i : Int) + 1) = ((i + 1 : Nat) : Int) from by unfold wrap64; omega]
        rw [ih k (i + 1) (by omega) (by omega) (by omega)]
        congr 1; omega
      · rw [if_neg (fun h => e ((bt_eq _ _).1 h)), if_neg e]; rfl
    · rw [if_neg (by omega), comm_end _ _ _ (Or.inr (by rw [size_L]; omega))]; rfl
theorem Common_f (k : Nat) (a b : ByteArray) (ha : a.size ≤ 1000) (hk : 1000 < k) : term_Common.f k a b = some ((comm (L a) (L b) : Nat) : Int) := by
  unfold term_Common.f
  have := Common_l k a b ha a.size 0 (by omega) (by omega) (by omega)
  simpa using this

theorem HasSuffix_f (s : ByteArray) (hs : s.size ≤ 140737488351233) : stringslite_HasSuffix.f s (⟨#[0]⟩ : ByteArray) = some (decide ((L s).getLast? = some 0)) := by
  unfold stringslite_HasSuffix.f
  have e1 : ((⟨#[0]⟩ : ByteArray).size : Int) = 1 := rfl
  rw [e1]
  have hl := size_L s
  by_cases h : (s.size : Int) ≥ 1
  · rw [if_pos h, show wrap64 ((s.size : Int) - 1) = (s.size : Int) - 1 from by unfold wrap64; omega, if_pos (by omega), if_pos (by omega)]
    congr 1
    rw [toList_L, toList_L, L_extract, Bool.eq_iff_iff, beq_iff_eq, decide_eq_true_eq]
    have e2 : (L s).drop ((s.size : Int) - 1).toNat = [(L s)[s.size - 1]'(by omega)] := by
      rw [show ((s.size : Int) - 1).toNat = s.size - 1 from by omega, List.drop_eq_getElem_cons (by omega), List.drop_of_length_le (by omega)]
    rw [e2, show s.size - ((s.size : Int) - 1).toNat = 1 from by omega, List.take_succ_cons, List.take_nil]
    rw [List.getLast?_eq_getElem?, List.getElem?_eq_getElem (by omega)]
    have e3 : L (⟨#[0]⟩ : ByteArray) = [0] := rfl
    rw [e3]
    simp only [hl, List.cons.injEq, and_true, Option.some.injEq]
  · rw [if_neg h]
    have : L s = [] := List.eq_nil_of_length_eq_zero (by omega)
    rw [this]; rfl
theorem Of_f (s : ByteArray) (hs : s.size ≤ 140737488351233) : ∃ r, term_Of.f s = some (r, decide (IsKey (L s))) ∧ (IsKey (L s) → L s = L r ++ [0]) ∧ (¬ IsKey (L s) → L r = []) := by
  unfold term_Of.f strings_CutSuffix.f stringslite_CutSuffix.f
  rw [HasSuffix_f s hs]; simp only [Option.bind_some]
  have hl := size_L s
  have e1 : ((⟨#[0]⟩ : ByteArray).size : Int) = 1 := rfl
  rw [e1]
  by_cases h : (L s).getLast? = some 0
  · have hcut := last_cut h
    have hpos : 0 < (L s).length := by rw [hcut]; simp
    rw [if_pos (by simpa using h), show wrap64 ((s.size : Int) - 1) = (s.size : Int) - 1 from by unfold wrap64; omega, if_pos (by omega), if_pos (by omega)]
    simp only [Option.bind_some, if_true]
    have hx : L (s.extract 0 ((s.size : Int) - 1).toNat) = (L s).dropLast := by
      rw [L_extract, List.drop_zero, dropLast_take, hl, show ((s.size : Int) - 1).toNat - 0 = s.size - 1 from by omega]
    rw [Right_f, hx]; simp only [Option.bind_some]
    by_cases hr : Right (L s).dropLast
    · have hk : IsKey (L s) := ⟨h, hr⟩
      rw [if_pos (by simpa using hr), decide_eq_true hk]
      exact ⟨_, rfl, fun _ => by rw [hx]; exact hcut, fun hn => absurd hk hn⟩
    · have hk : ¬ IsKey (L s) := fun z => hr z.2
      rw [if_neg (by simpa using hr), decide_eq_false hk]
      exact ⟨_, rfl, fun hn => absurd hn hk, fun _ => rfl⟩
  · have hk : ¬ IsKey (L s) := fun z => h z.1
    rw [if_neg (by simpa using h), decide_eq_false hk]
    simp only [Option.bind_some, Bool.false_eq_true, if_false]
    exact ⟨_, rfl, fun hn => absurd hn hk, fun _ => rfl⟩

theorem L_ab : L (⟨#[97, 98]⟩ : ByteArray) = [97, 98] := rfl
theorem runs_f (k : Nat) (hk : 1000 < k) : tendrillaw6_TermRuns.f k = some true := by
  unfold tendrillaw6_TermRuns.f
  obtain ⟨r, hr, er⟩ := Key_f (⟨#[97, 98]⟩ : ByteArray)
  have e1 : key (L (⟨#[97, 98]⟩ : ByteArray)) = [97, 98, 0] := by decide
  rw [e1] at er
  obtain ⟨q, hq, eq1, _⟩ := Of_f r (by rw [← size_L, er]; decide)
  have hkey : IsKey (L r) := by rw [er]; decide
  have eq2 := eq1 hkey
  rw [decide_eq_true hkey] at hq
  rw [er, show ([97, 98, 0] : List UInt8) = [97, 98] ++ [0] from rfl] at eq2
  have eq3 : L q = [97, 98] := (List.append_inj_left' eq2 rfl).symm
  obtain ⟨z, hz, ez⟩ := Key_f (⟨#[]⟩ : ByteArray)
  have e2 : key (L (⟨#[]⟩ : ByteArray)) = [] := by decide
  rw [e2] at ez
  rw [hr]; simp only [Option.bind_some]
  rw [hq]; simp only [Option.bind_some]
  rw [toList_L, toList_L, er, eq3, hz]; simp only [Option.bind_some]
  rw [toList_L, ez, Common_f k _ _ (by decide) hk, Right_f]; simp only [Option.bind_some, if_true]
  decide

set_option maxHeartbeats 8000000 in
set_option maxRecDepth 100000 in
theorem walk (a0 a1 : ByteArray) (w : World) (h0 : a0.size ≤ 140737488351232) (h1 : a1.size ≤ 140737488351232) :
    Calls Try.prog 5 #[.string a0, .string a1] w fun e w' => e = .returned (.bool true) ∧ Below w.heap.size w w' := by
  have R : Aside0 (tendrillaw6_TermRuns.f 1001 = some true) := ⟨runs_f 1001 (by decide)⟩
  obtain ⟨ji3, hji3⟩ : ∃ j_ : Int, (mn (a0.size : Int) 60) = j_ := ⟨_, rfl⟩
  obtain ⟨ji6, hji6⟩ : ∃ j_ : Int, (mn (a1.size : Int) 60) = j_ := ⟨_, rfl⟩
  have b3 : 0 ≤ ji3 ∧ ji3 ≤ 60 ∧ ji3 ≤ a0.size := by rw [← hji3]; unfold mn; (repeat' split) <;> omega
  have b6 : 0 ≤ ji6 ∧ ji6 ≤ 60 ∧ ji6 ≤ a1.size := by rw [← hji6]; unfold mn; (repeat' split) <;> omega
  obtain ⟨b3l, b3h, b3m⟩ := b3
  obtain ⟨b6l, b6h, b6m⟩ := b6
  have hji3_ : (if 60 < (a0.size : Int) then 60 else (a0.size : Int)) = ji3 := hji3
  have hji6_ : (if 60 < (a1.size : Int) then 60 else (a1.size : Int)) = ji6 := hji6
  have z3 : Aside0 ((a0.extract 0 ji3.toNat).size ≤ 60) := ⟨by rw [ByteArray.size_extract]; omega⟩
  have z6 : Aside0 ((a1.extract 0 ji6.toNat).size ≤ 60) := ⟨by rw [ByteArray.size_extract]; omega⟩
  go_enter Try.func5, Try.ntmps5
  go_wp2_with fail
  go_quiet (fail)
  go_wp2_with fail
  generalize a0.extract 0 ji3.toNat = s at *
  generalize a1.extract 0 ji6.toNat = t at *
  clear hji3_ hji6_ hji3 hji6 b3l b3h b3m b6l b6h b6m
  have hs := z3.out
  have ht := z6.out
  obtain ⟨c, hc⟩ : ∃ c : Nat, comm (L s) (L t) = c := ⟨_, rfl⟩
  have n1 : Aside0 (term_Common.f 1001 s t = some ((c : Nat) : Int)) := ⟨by rw [Common_f 1001 s t (by omega) (by decide), hc]⟩
  have m1 : Aside0 (term_Common.f 1001 t s = some ((c : Nat) : Int)) := ⟨by rw [Common_f 1001 t s (by omega) (by decide), comm_comm, hc]⟩
  have m2 : Aside0 (term_Common.f 1001 s s = some (s.size : Int)) := ⟨by rw [Common_f 1001 s s (by omega) (by decide), comm_self, size_L]⟩
  have m3 : Aside0 (term_Common.f 1001 s (s ++ t) = some (s.size : Int)) := ⟨by rw [Common_f 1001 s _ (by omega) (by decide), L_append, comm_prefix, size_L]⟩
  have m4 : Aside0 (term_Common.f 1001 (⟨#[]⟩ : ByteArray) t = some 0) := ⟨by rw [Common_f 1001 _ t (by decide) (by decide)]; rfl⟩
  have hcs : c ≤ s.size := by rw [← hc, ← size_L]; exact comm_le_left _ _
  have hct : c ≤ t.size := by rw [← hc, ← size_L]; exact comm_le_right _ _
  have hcut : (s.extract 0 c).toList = (t.extract 0 c).toList := by
    rw [toList_L, toList_L, L_extract, L_extract, List.drop_zero, List.drop_zero, Nat.sub_zero, ← hc]; exact comm_take _ _
  have hb : ∀ (x : c < s.size) (y : c < t.size), ¬ (((s[c]'x).toNat : Int) = ((t[c]'y).toNat : Int)) := by
    intro x y e
    have x' : comm (L s) (L t) < (L s).length := by rw [hc, size_L]; exact x
    have y' : comm (L s) (L t) < (L t).length := by rw [hc, size_L]; exact y
    refine comm_stop (L s) (L t) x' y' ?_
    have e2 := UInt8.toNat_inj.1 (Int.ofNat_inj.1 e)
    simp only [hc]
    exact e2
  clear z3 z6
  have hcn : ∃ n : Int, ((c : Nat) : Int) = n := ⟨_, rfl⟩
  obtain ⟨n, hn⟩ := hcn
  rw [hn] at n1 m1
  have p1 : (0 ≤ n) = True := eq_true (by omega)
  have p2 : decide (0 ≤ n) = true := decide_eq_true (by omega)
  have p3 : decide (n < 0) = false := decide_eq_false (by omega)
  have p4 : decide ((s.size : Int) < n) = false := decide_eq_false (by omega)
  have p5 : decide ((t.size : Int) < n) = false := decide_eq_false (by omega)
  have p6 : (n ≤ (s.size : Int)) = True := eq_true (by omega)
  have p7 : decide (n ≤ (s.size : Int)) = true := decide_eq_true (by omega)
  have p8 : (n ≤ (t.size : Int)) = True := eq_true (by omega)
  have p9 : decide (n ≤ (t.size : Int)) = true := decide_eq_true (by omega)
  have en : n.toNat = c := by omega
  rw [← en] at hcut
  have q1 : ((s.extract 0 n.toNat).toList == (t.extract 0 n.toNat).toList) = true := beq_iff_eq.2 hcut
  have q2 : ((s.extract 0 n.toNat).toList != (t.extract 0 n.toNat).toList) = false := bne_eq_false_iff_eq.2 hcut
  have hb2 : n < s.size → n < t.size → bt s n ≠ bt t n := by
    intro x y
    have hx := bt_at s n (by omega)
    have hy := bt_at t n (by omega)
    rw [← hx, ← hy]
    have := hb (by omega) (by omega)
    simp only [en]
    exact this
  clear hb hc hn en hcut hcs hct
  refine (term_Common.calls 1001 s t _ _ n1.out).mono ?_
  rintro e w1 ⟨rfl, ⟨nd, rfl⟩⟩
  clear n1
  by_cases x : n < (s.size : Int)
  · by_cases y : n < (t.size : Int)
    · have b := hb2 x y
      have b1 : (bt s n == bt t n) = false := beq_eq_false_iff_ne.2 b
      have x1 : decide (n < (s.size : Int)) = true := decide_eq_true x
      have y1 : decide (n < (t.size : Int)) = true := decide_eq_true y
      have hx := bt_at s n
      have hy := bt_at t n
      replace x := eq_true x
      replace y := eq_true y
      clear hb2 b

      go_wp2
      go_quiet (fail)
      go_wp2_with (first | (go_at_call 11; (with_reducible refine (term_Common.calls 1001 t s _ _ m1.out).mono ?_); rintro e w' ⟨rfl, ⟨nd2, rfl⟩⟩) | (go_at_call 11; (with_reducible refine (term_Common.calls 1001 s s _ _ m2.out).mono ?_); rintro e w' ⟨rfl, ⟨nd2, rfl⟩⟩) | (go_at_call 11; (with_reducible refine (term_Common.calls 1001 s (s ++ t) _ _ m3.out).mono ?_); rintro e w' ⟨rfl, ⟨nd2, rfl⟩⟩) | (go_at_call 11; (with_reducible refine (term_Common.calls 1001 _ t _ _ m4.out).mono ?_); rintro e w' ⟨rfl, ⟨nd2, rfl⟩⟩) | (go_at_call 3; (with_reducible refine (tendrillaw6_TermRuns.calls 1001 true _ R.out).mono ?_); rintro e w' ⟨rfl, ⟨nd2, rfl⟩⟩))
      go_ret
      exact ⟨rfl, by repeat (first | (with_reducible first | exact Below.refl _ _ | apply below_alloc | apply pw_below_drewN | apply below_drew1) | exact Below.refl _ _)⟩

    · have x1 : decide (n < (s.size : Int)) = true := decide_eq_true x
      have y1 : decide (n < (t.size : Int)) = false := decide_eq_false y
      clear hb2 x y

      go_wp2
      go_quiet (fail)
      go_wp2_with (first | (go_at_call 11; (with_reducible refine (term_Common.calls 1001 t s _ _ m1.out).mono ?_); rintro e w' ⟨rfl, ⟨nd2, rfl⟩⟩) | (go_at_call 11; (with_reducible refine (term_Common.calls 1001 s s _ _ m2.out).mono ?_); rintro e w' ⟨rfl, ⟨nd2, rfl⟩⟩) | (go_at_call 11; (with_reducible refine (term_Common.calls 1001 s (s ++ t) _ _ m3.out).mono ?_); rintro e w' ⟨rfl, ⟨nd2, rfl⟩⟩) | (go_at_call 11; (with_reducible refine (term_Common.calls 1001 _ t _ _ m4.out).mono ?_); rintro e w' ⟨rfl, ⟨nd2, rfl⟩⟩) | (go_at_call 3; (with_reducible refine (tendrillaw6_TermRuns.calls 1001 true _ R.out).mono ?_); rintro e w' ⟨rfl, ⟨nd2, rfl⟩⟩))
      go_ret
      exact ⟨rfl, by repeat (first | (with_reducible first | exact Below.refl _ _ | apply below_alloc | apply pw_below_drewN | apply below_drew1) | exact Below.refl _ _)⟩

  · have x1 : decide (n < (s.size : Int)) = false := decide_eq_false x
    clear hb2 x

    go_wp2
    go_quiet (fail)
    go_wp2_with (first | (go_at_call 11; (with_reducible refine (term_Common.calls 1001 t s _ _ m1.out).mono ?_); rintro e w' ⟨rfl, ⟨nd2, rfl⟩⟩) | (go_at_call 11; (with_reducible refine (term_Common.calls 1001 s s _ _ m2.out).mono ?_); rintro e w' ⟨rfl, ⟨nd2, rfl⟩⟩) | (go_at_call 11; (with_reducible refine (term_Common.calls 1001 s (s ++ t) _ _ m3.out).mono ?_); rintro e w' ⟨rfl, ⟨nd2, rfl⟩⟩) | (go_at_call 11; (with_reducible refine (term_Common.calls 1001 _ t _ _ m4.out).mono ?_); rintro e w' ⟨rfl, ⟨nd2, rfl⟩⟩) | (go_at_call 3; (with_reducible refine (tendrillaw6_TermRuns.calls 1001 true _ R.out).mono ?_); rintro e w' ⟨rfl, ⟨nd2, rfl⟩⟩))
    go_ret
    exact ⟨rfl, by repeat (first | (with_reducible first | exact Below.refl _ _ | apply below_alloc | apply pw_below_drewN | apply below_drew1) | exact Below.refl _ _)⟩
theorem own : ownKnob Try.prog.godebug = none := by kernel_rfl
set_option maxRecDepth 100000 in
theorem lifted (os : Os) (started : os.Started) (H : Type) (enc : TypeId × Value → H) :
    ReturnsInHanded {} Try.checked os 5 .any (Rows.termCommonSpec.pre6 enc Try.prog Try.f5 Rows.termCommonRow.domain false) (Rows.termCommonSpec.post enc Try.prog Try.f5 false true false false) := by
  refine returnsInHanded_of_change_sized (C := Try.checked) own started (by kernel_rfl) Try.func5
    (ChangeSpec.witness6 (enc := enc) (C := Try.checked) false ⟨#[], #[.string ByteArray.empty, .string ByteArray.empty], []⟩ 8 (by kernel_rfl) (by kernel_rfl) (by kernel_rfl) (by kernel_rfl)) ?_
  intro W base args ds gs before hval0 hW hcnd hsz0 _
  have hsz : (DataW.weightsEach Try.prog (Try.f5.params.toList ++ Rows.termCommonSpec.plain.varTypes Try.prog) (ds ++ gs)).all (· ≤ reachBytes) = true := hsz0
  have hval : ∀ (j : Nat) t v, Try.f5.params[j]? = some t → args[j]? = some v → Value.okWide Try.prog W .any base t v := hval0
  have hW' := hW
  obtain ⟨p, q, hA0, hV, rfl, hfz, hnd⟩ := hW
  have hA : DataW.TrodAll enc Try.prog W 0 (fun _ => true) true Try.f5.params.toList args.toList ds p := hA0
  rw [Try.params5] at hA hval hsz
  obtain ⟨v0, vs0, d0, ds0, p0, q0, hargs, rfl, rfl, h0, r0⟩ := trodAll_cons hA
  obtain ⟨v1, vs1, d1, ds1, p1, q1, rfl, rfl, rfl, h1, r1⟩ := trodAll_cons r0
  obtain ⟨rfl, rfl, rfl⟩ := trodAll_nil r1
  obtain rfl : args = #[v0, v1] := by cases args; simp_all
  obtain ⟨rfl, rfl⟩ := trodVars_none hV
  obtain ⟨a0, rfl, rfl, rfl, y0⟩ := open_string Try.underlying9 (hval 0 9 v0 rfl rfl) h0
  have w0 : a0.size ≤ 140737488351232 := by
    have z := sized_string hsz (j := 0) (t := 9) rfl rfl
    rw [Array.length_toList] at z
    exact z
  obtain ⟨a1, rfl, rfl, rfl, y1⟩ := open_string Try.underlying9 (hval 1 9 v1 rfl rfl) h1
  have w1 : a1.size ≤ 140737488351232 := by
    have z := sized_string hsz (j := 1) (t := 9) rfl rfl
    rw [Array.length_toList] at z
    exact z
  clear hA0 hval0 hsz0 hsz
  refine (walk a0 a1 W w0 w1).mono fun e W' ⟨he, bel⟩ => ?_
  subst he
  exact ⟨_, rfl, _, _, _, [], _, [], hW', trodAll_mk1 (shut_bool Try.underlying4 _), (trodAll_cons_mk (shut_string Try.underlying9 y0) (trodAll_cons_mk (shut_string Try.underlying9 y1) trodAll_mk0)), rfl, bel.frame _, fun h => by cases h⟩
theorem over : Rows.termCommonRow.holds Try.pinned (OpenSpec.ofChange Rows.termCommonSpec) :=
  OpenClaim.holds_of_wide 5 Try.f5 rfl rfl rfl rfl rfl rfl rfl ⟨rfl, rfl, rfl, rfl, rfl⟩ rfl rfl rfl rfl rfl (by kernel_rfl) Try.func5 (by kernel_rfl)
    (of_decide_eq_true (by kernel_rfl)) (by unfold Func.isWrapper; first | (rw [if_pos (by decide +kernel)]; kernel_rfl) | (rw [if_neg (by decide +kernel)]; exact ⟨rfl, rfl⟩))
    (fun os started H enc _ => lifted os started H enc)
theorem proved : Rows.TermCommonSaid := over
#print axioms proved
end Go.Proofs.Ytpcccndeojbinaa.termCommon
namespace Go.Proofs.Ytpcccndeojbinaa
/-- The row, under a short name, for the claim. -/
theorem termCommon_holds : Rows.TermCommonSaid := termCommon.proved
end Go.Proofs.Ytpcccndeojbinaa
